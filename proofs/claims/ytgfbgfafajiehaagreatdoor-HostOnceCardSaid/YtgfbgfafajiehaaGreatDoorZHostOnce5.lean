/- What the law HostOnce needs (part 5). -/
import Derived.Test.YtgfbgfafajiehaaGreatDoorZHostOnce4
namespace Go.Proofs.YtgfbgfafajiehaaGreatDoor.A
set_option linter.unusedVariables false
set_option linter.unusedSimpArgs false
open Go.Proofs Go.Proofs.YtgfbgfafajiehaaGreatDoor
section
variable {H : Zd} {n : Nat} {f v : Value} {p : List UInt8→Bool} {l : List (List UInt8)} {q : List Nat} {Q : Zd→Prop}
theorem HLe.stepq {X X' : Zd} (h : HLe X X') : Zu q X q X':=h.step.more (by simp) (fun j hj=>.inl hj)
theorem Zyk (hl : l.length≤1000000) (hQ : ∀ X X',Q X→HLe X X'→Q X') (hf : ∀ X,Q X→∀ s∈l,∃ X',Qf (R n) f [strv s] X=some (.bool (p s),X')∧HLe X X') : ∀ (t k : Nat) (X : Zd),l.length - k=t→k≤l.length→Q X→Zo X v (l.map strv) q→
  ∃ X',Zi (c4 (ZB.l1 (R n))) [v,f,iv l.length,iv k] X=some (match (l.drop k).findIdx? p with | some i=>.ret (iv (k+i : Nat)) | none=>.ext 0 [],X')∧HLe X X'
 | 0,k,X,ht,hk,hq,hr=>by
  have : k=l.length:=by omega
  subst this
  rw [List.drop_length]
  refine ⟨X,Qa ?_,.refl _⟩
  rw [ZJ]
  unfold ZB.l1
  rw [Za Zs,Zb,if_neg (by simp)]
  rfl
 | t+1,k,X,ht,hk,hq,hr=>by
  have hkl : k < l.length:=by omega
  have hlt : (k : Int) < l.length:=by omega
  have hg:=List.getElem?_eq_getElem hkl
  have hm : l[k]∈l:=List.getElem_mem hkl
  have hd:=List.drop_eq_getElem_cons hkl
  generalize l[k]=x at hg hd hm
  have x1:=hr.ix (i:=k) (by simpa using hkl) .i64 X
  have x2:=hr.ldx (KM hg)
  obtain ⟨X1,x3,l1⟩:=hf X hq x hm
  obtain ⟨X2,ih,l2⟩:=Zyk hl hQ hf t (k+1) X1 (by omega) (by omega) (hQ _ _ hq l1) (hr.step l1.step (by simp))
  rw [hd,List.findIdx?_cons]
  cases hp : p x
  ·rw [hp] at x3
   refine ⟨X2,(ZL ?_).trans (ih.trans ?_),l1.trans l2⟩
   ·rw [ZJ]
    unfold ZB.l1
    rw [Za Zs,Zb,if_pos (by simpa using hlt),Za x1,Za x2,Za x3,Zb,if_neg (by simp),Za ZF,Jd (by omega)]
    rfl
   ·cases (l.drop (k+1)).findIdx? p with
    | none=>rfl
    | some i=>simp only [Bool.false_eq_true,if_false,Option.map_some];rw [show k+1+i=k+(i+1) by omega]
  ·rw [hp] at x3
   refine ⟨X1,Yu ?_,l1⟩
   rw [ZJ]
   unfold ZB.l1
   rw [Za Zs,Zb,if_pos (by simpa using hlt),Za x1,Za x2,Za x3,Zb,if_pos rfl]
   rfl
theorem ZBe (hr : Zo H v (l.map strv) q) (hl : l.length≤1000000) (hQ : ∀ X X',Q X→HLe X X'→Q X') (hf : ∀ X,Q X→∀ s∈l,∃ X',Qf (R n) f [strv s] X=some (.bool (p s),X')∧HLe X X') (h0 : Q H) :
  ∃ H',R (n+1) QJ [v,f] H=some (match l.findIdx? p with | some i=>iv i | none=>iv (-1),H')∧HLe H H':=by
 obtain ⟨H',e,le⟩:=Zyk hl hQ hf l.length 0 H (by omega) (by omega) h0 hr
 rw [List.drop_zero] at e
 have e : Zi (c4 (ZB.l1 (R n))) [v,f,iv l.length,.int .i64 0] H=_:=e
 have hlen : ZC v H=some (iv l.length,H):=by have:=hr.rd.len (H':=H);simpa using this
 refine ⟨H',?_,le⟩
 rw [R,ZaI rfl]
 unfold ZB
 rw [Za hlen]
 cases h : l.findIdx? p with
 | none=>rw [h] at e;rw [QG e,ZI];rfl
 | some i=>
  rw [h] at e
  rw [Ky e]
  simp [ret]
theorem ZsQ (hl : l.length≤1000000) (hQ : ∀ X X',Q X→Zu q X q X'→Q X') (hf : ∀ X,Q X→∀ s∈l,∃ X',Qf (R n) f [strv s] X=some (.bool (p s),X')∧HLe X X') : ∀ (t j i : Nat) (cs : List (List UInt8)) (X : Zd),l.length - j=t→j≤l.length→i≤j→cs.length=l.length→cs.drop j=l.drop j→Zo X v (cs.map strv) q→Q X→
  ∃ (X' : Zd) (cs' : List (List UInt8)),Zi (c4 (Zz.l1 (R n))) [v,f,iv i,iv j] X=some (.ext 0 [v,iv (i+((l.drop j).filter fun s=>!p s).length : Nat)],X')∧Zo X' v (cs'.map strv) q∧cs'.length=l.length∧
   cs'.take (i+((l.drop j).filter fun s=>!p s).length)=cs.take i++(l.drop j).filter (fun s=>!p s)∧Zu q X q X'
 | 0,j,i,cs,X,ht,hj,hi,hc,hd,hr,hq=>by
  have : j=l.length:=by omega
  subst this
  rw [List.drop_length]
  have hlen : ZC v X=some (iv l.length,X):=by have:=hr.rd.len (H':=X);simpa [hc] using this
  refine ⟨X,cs,Qa ?_,hr,hc,by simp,.refl _ _⟩
  rw [ZJ]
  unfold Zz.l1
  rw [Za hlen,Za Zs,Zb,if_neg (by simp)]
  rfl
 | t+1,j,i,cs,X,ht,hj,hi,hc,hd,hr,hq=>by
  have hjl : j < l.length:=by omega
  have hlt : (j : Int) < l.length:=by omega
  have hg:=List.getElem?_eq_getElem hjl
  have hm : l[j]∈l:=List.getElem_mem hjl
  have hdl:=List.drop_eq_getElem_cons hjl
  generalize l[j]=x at hg hdl hm
  have hgc : cs[j]?=some x:=by
   have h1 : (cs.drop j)[0]?=(l.drop j)[0]?:=by rw [hd]
   simpa [hg] using h1
  have hlen : ZC v X=some (iv l.length,X):=by have:=hr.rd.len (H':=X);simpa [hc] using this
  have x1:=hr.ix (i:=j) (by simpa [hc] using hjl) .i64 X
  have x2:=hr.ldx (KM hgc)
  obtain ⟨Y,x3,ly⟩:=hf X hq x hm
  have hqy:=hQ _ _ hq (ly.stepq (q:=q))
  have hry:=hr.step ly.step (by simp)
  have hd1 : cs.drop (j+1)=l.drop (j+1):=by
   rw [← List.drop_drop,hd,List.drop_drop]
  rw [hdl,List.filter_cons]
  cases hp : p x
  ·rw [hp] at x3
   have x4:=hry.ix (i:=i) (by simp [hc];omega) .i64 Y
   obtain ⟨X1,x5,r1,s1,_⟩:=hry.stx (i:=i) (u:=strv x) (by simp [hc];omega) rfl
   have hset : (cs.map strv).set i (strv x)=(cs.set i x).map strv:=by rw [List.map_set]
   rw [hset] at r1
   obtain ⟨X',cs',e,r',hc',ht',s'⟩:=ZsQ hl hQ hf t (j+1) (i+1) (cs.set i x) X1 (by omega) (by omega) (by omega) (by simpa using hc) (by rw [List.drop_set_of_lt (by omega)];exact hd1) r1 (hQ _ _ hqy s1)
   have hn : i+1+((l.drop (j+1)).filter fun s=>!p s).length=i+(((l.drop (j+1)).filter fun s=>!p s).length+1):=by omega
   rw [hn] at e ht'
   simp only [Bool.not_false,if_true,List.length_cons]
   refine ⟨X',cs',(ZL ?_).trans e,r',hc',?_,(ly.stepq.trans s1).trans s'⟩
   ·rw [ZJ]
    unfold Zz.l1
    rw [Za hlen,Za Zs,Zb,if_pos (by simpa using hlt),Za x1,Za x2,Za x3,Za ZM]
    refine (ZK (vs:=[v,f,iv ((i+1 : Nat) : Int),iv j]) (H':=X1) ?_).trans ?_
    ·rw [Zb,if_pos (by rfl),Za x4,Za x5,Za ZF,Jd (by omega)];rfl
    ·rw [ZJ,Za ZF,Jd (by omega)];rfl
   ·rw [ht']
    have : (cs.set i x).take (i+1)=cs.take i++[x]:=by
     have hil : i < (cs.set i x).length:=by simp [hc];omega
     rw [List.take_succ_eq_append_getElem hil,List.take_set_of_le (Nat.le_refl _)]
     simp
    rw [this];simp
  ·rw [hp] at x3
   obtain ⟨X',cs',e,r',hc',ht',s'⟩:=ZsQ hl hQ hf t (j+1) i cs Y (by omega) (by omega) (by omega) hc hd1 hry hqy
   simp only [Bool.not_true,Bool.false_eq_true,if_false]
   refine ⟨X',cs',(ZL ?_).trans e,r',hc',ht',ly.stepq.trans s'⟩
   rw [ZJ]
   unfold Zz.l1
   rw [Za hlen,Za Zs,Zb,if_pos (by simpa using hlt),Za x1,Za x2,Za x3,Za ZM]
   refine (ZK (vs:=[v,f,iv i,iv j]) (H':=Y) ?_).trans ?_
   ·rw [Zb,if_neg (by simp)];rfl
   ·rw [ZJ,Za ZF,Jd (by omega)];rfl
theorem Zt8 (hr : Zo H v (l.map strv) q) (hl : l.length≤1000000) (hQ : ∀ X X',Q X→Zu q X q X'→Q X') (hf : ∀ X,Q X→∀ s∈l,∃ X',Qf (R n) f [strv s] X=some (.bool (p s),X')∧HLe X X') (hf1 : ∀ X,Q X→∀ s∈l,∃ X',Qf (R (n+1)) f [strv s] X=some (.bool (p s),X')∧HLe X X') (h0 : Q H) :
  ∃ H' v',R (n+2) ZV [v,f] H=some (v',H')∧Zo H' v' ((l.filter fun s=>!p s).map strv) q∧Zu q H q H':=by
 obtain ⟨Y,e1,ly⟩:=ZBe hr hl (fun X X' hq hx=>hQ X X' hq hx.stepq) hf h0
 have e1 : run Tryz.prog np lvs (n+1) QJ [v,f] H=_:=e1
 have hry:=hr.step ly.step (by simp)
 have hqy:=hQ _ _ h0 (ly.stepq (q:=q))
 have hfi:=Zgp (p:=p) (l:=l)
 have hrun : R (n+2) ZV [v,f] H=Zz (R (n+1)) v f H:=by rw [R,Zan rfl]
 rw [hrun]
 unfold Zz
 cases h : l.findIdx? p with
 | none=>
  rw [h] at e1 hfi
  refine ⟨Y,v,?_,by rw [hfi];exact hry,ly.stepq⟩
  rw [Za e1,Za ZE,Zb,if_pos (by simp)]
  rfl
 | some i=>
  rw [h] at e1 hfi
  simp only at e1 hfi
  obtain ⟨X',cs',e2,r2,hc2,ht2,s2⟩:=ZsQ (n:=n+1) hl hQ hf1 (l.length - (i+1)) (i+1) i l Y rfl (by omega) (by omega) rfl rfl hry hqy
  have hle : ((l.drop (i+1)).filter fun s=>!p s).length≤l.length - (i+1):=by
   have:=List.length_filter_le (fun s=>!p s) (l.drop (i+1))
   simpa using this
  obtain ⟨a,X2,v',a1,a2,a3,a4,a5⟩:=Zts r2 (i:=i+((l.drop (i+1)).filter fun s=>!p s).length) (by omega)
  refine ⟨X2,v',?_,by rw [hfi.1,← ht2];exact a4,(ly.stepq.trans s2).trans a5⟩
  rw [Za e1,Za ZE,Zb,if_neg (by simp),Za ZF,Jd (by omega),QG e2,ZI,QB,Za a1,Za a2,Za a3]
  rfl
end
abbrev Tx:=List UInt8
def Asc (l : List Tx) : Prop:=l.Pairwise (· < ·)
theorem Zlr {a : Tx} : ¬ a < a:=List.lt_irrefl a
theorem Zx7 : ∀ {l l' : List Tx},Asc l→Asc l'→(∀ x,x∈l↔x∈l')→l=l'
 | [],[],_,_,_=>rfl
 | [],b :: l',_,_,h=>by have:=(h b).2 (by simp);cases this
 | a :: l,[],_,_,h=>by have:=(h a).1 (by simp);cases this
 | a :: l,b :: l',h1,h2,h=>by
  obtain ⟨a1,a2⟩:=List.pairwise_cons.1 h1
  obtain ⟨b1,b2⟩:=List.pairwise_cons.1 h2
  have hab : a=b:=by
   rcases List.mem_cons.1 ((h a).1 (by simp)) with e | e
   ·exact e
   ·rcases List.mem_cons.1 ((h b).2 (by simp)) with e' | e'
    ·exact e'.symm
    ·exact absurd (List.lt_trans (b1 a e) (a1 b e')) Zlr
  subst hab
  congr 1
  refine Zx7 a2 b2 fun x=>⟨fun hx=>?_,fun hx=>?_⟩
  ·rcases List.mem_cons.1 ((h x).1 (List.mem_cons_of_mem _ hx)) with e | e
   ·subst e;exact absurd (a1 _ hx) Zlr
   ·exact e
  ·rcases List.mem_cons.1 ((h x).2 (List.mem_cons_of_mem _ hx)) with e | e
   ·subst e;exact absurd (b1 _ hx) Zlr
   ·exact e
theorem ZiG {l : List Tx} (hn : l.Nodup) : Asc (Z7 l):=by
 have h1 : (Z7 l).Pairwise (fun a b=>leB a b=true):=List.pairwise_mergeSort (fun a b c h h'=>by
  simp only [leB,decide_eq_true_eq] at *
  exact List.le_trans h h') (fun a b=>by
  simp only [leB,Bool.or_eq_true,decide_eq_true_eq]
  exact List.le_total a b) l
 have h2 : (Z7 l).Nodup:=((List.mergeSort_perm l _).nodup_iff).2 hn
 unfold Asc
 have h3:=h1.and h2
 refine h3.imp fun {a b} h=>?_
 obtain ⟨h4,h5⟩:=h
 simp only [leB,decide_eq_true_eq] at h4
 exact Decidable.byContradiction fun h6=>h5 (List.le_antisymm h4 (List.not_lt.1 h6))
theorem W7 {l : List Tx} {x : Tx} : x∈Z7 l↔x∈l:=List.mem_mergeSort
structure Is (l : List Tx) (p : Tx→Prop) : Prop where
 asc : Asc l
 mem : ∀ x,x∈l↔p x
theorem Is.uniq {l l' : List Tx} {p p' : Tx→Prop} (h : Is l p) (h' : Is l' p') (hp : ∀ x,p x↔p' x) : l=l':=Zx7 h.asc h'.asc fun x=>(h.mem x).trans ((hp x).trans (h'.mem x).symm)
theorem Is.nil {l : List Tx} {p : Tx→Prop} (h : Is l p) : l=[]↔∀ x,¬ p x:=by
 constructor
 ·rintro rfl x hx;have:=(h.mem x).2 hx;cases this
 ·intro hx;exact List.eq_nil_iff_forall_not_mem.2 fun x hm=>hx x ((h.mem x).1 hm)
theorem Asc.nodup {l : List Tx} (h : Asc l) : l.Nodup:=h.imp fun {a b} hab e=>by subst e;exact Zlr hab
theorem Asc.filter {l : List Tx} (h : Asc l) (p : Tx→Bool) : Asc (l.filter p):=List.Pairwise.filter p h
end Go.Proofs.YtgfbgfafajiehaaGreatDoor.A
namespace Go.Proofs.YtgfbgfafajiehaaGreatDoor.A
set_option linter.unusedVariables false
set_option linter.unusedSimpArgs false
open Go.Proofs Go.Proofs.YtgfbgfafajiehaaGreatDoor
abbrev ZEI (s : Nat) : Value:=.map (some s)
abbrev Zqn (_ : Unit) : Value:=.agg #[]
abbrev ZjM:=List (Tx × Nat)
abbrev ZyT:=List (Tx × Unit)
abbrev Mem:=Tx→Tx→Bool
abbrev Q7 (o : Nat) (G : ZjM) : List Nat:=o :: G.map (·.2)
abbrev ZN (G : ZjM) : List Tx:=G.map (·.1)
structure Grp (X : Zd) (g o : Nat) (G : ZjM) (mem : Mem) (c : Nat) : Prop where
 cell : X[g]?=some (.cells [.map (some o)] 1 false false)
 mo : Jz ZEI X o G
 ms : ∀ p∈G,∃ S : ZyT,Jz Zqn X p.2 S∧(∀ n,(Zf n S).isSome=mem p.1 n)∧S.length≤c∧∀ q∈S,Zt q.1=true
 out : ∀ k n,mem k n=true→(Zf k G).isSome=true
 nod : (Q7 o G).Nodup
 ok : ∀ p∈G,Zt p.1=true
 few : G.length≤6
theorem ZhK {α : Type} {k : Tx} : ∀ {m : List (Tx × α)},(Zf k m).isSome=decide (k∈m.map (·.1))
 | []=>rfl
 | p :: m=>by
  simp only [Zf,List.map_cons,List.mem_cons]
  by_cases h : p.1=k
  ·rw [if_pos h];simp [h]
  ·rw [if_neg h,ZhK]
   have : k≠p.1:=Ne.symm h
   simp [this]
section
variable {X X' : Zd} {n g o c c' : Nat} {G : ZjM} {mem mem' : Mem} {k m s t : Tx}
theorem Grp.isMap (h : Grp X g o G mem c) {j : Nat} (hj : j∈Q7 o G) : j < X.length∧∀ cs es gr ro,X[j]?≠some (.cells cs es gr ro):=by
 have key : ∀ {α : Type} {enc : α→Value} {id : Nat} {mm : List (Tx × α)},Jz enc X id mm→id < X.length∧∀ cs es gr ro,X[id]?≠some (.cells cs es gr ro):=fun hm=>⟨hm.lt,fun cs es gr ro e=>by
  obtain ⟨es',_,h1 | h1⟩:=hm.ex
  ·obtain ⟨clk,h1,_⟩:=h1;rw [e] at h1;cases h1
  ·rw [e] at h1;cases h1⟩
 rcases List.mem_cons.1 hj with rfl | hj
 ·exact key h.mo
 ·obtain ⟨p,hp,rfl⟩:=List.mem_map.1 hj
  obtain ⟨S,hS,_⟩:=h.ms p hp
  exact key hS
theorem Grp.gnot (h : Grp X g o G mem c) : g∉Q7 o G:=fun hj=>(h.isMap hj).2 _ _ _ _ h.cell
theorem Grp.glt (h : Grp X g o G mem c) : g < X.length:=Z6 h.cell
theorem Grp.step {o1 o2 : List Nat} (h : Grp X g o G mem c) (hs : Zu o1 X o2 X') (hg : g∉o1) (ho : ∀ j∈Q7 o G,j∉o1) : Grp X' g o G mem c:=
 ⟨hs.get h.cell hg,h.mo.step hs (ho o (by simp)),fun p hp=>by
  obtain ⟨S,h1,h2⟩:=h.ms p hp
  exact ⟨S,h1.step hs (ho p.2 (List.mem_cons_of_mem _ (List.mem_map.2 ⟨p,hp,rfl⟩))),h2⟩,h.out,h.nod,h.ok,h.few⟩
theorem Grp.hle (h : Grp X g o G mem c) (hl : HLe X X') : Grp X' g o G mem c:=h.step hl.step (by simp) (by simp)
theorem Grp.more (h : Grp X g o G mem c) (hc : c≤c') (hm : ∀ k n,mem' k n=mem k n) : Grp X g o G mem' c':=
 ⟨h.cell,h.mo,fun p hp=>by
  obtain ⟨S,h1,h2,h3,h4⟩:=h.ms p hp
  exact ⟨S,h1,fun n=>(h2 n).trans (hm _ _).symm,Nat.le_trans h3 hc,h4⟩,fun k n hk=>h.out k n (by rw [← hm];exact hk),h.nod,h.ok,h.few⟩
theorem Grp.ldo (h : Grp X g o G mem c) : ld1 (pt g) X=some (.map (some o),X):=KH h.cell
theorem Grp.upd (h : Grp X g o G mem c) {id : Nat} {S' : ZyT} (hk : Zf k G=some id) (hm : Jz Zqn X' id S') (hs : Zu [id] X [id] X') (hn : ∀ q∈S',Zt q.1=true) (hc : S'.length≤c') (hcc : c≤c')
  (hmem : ∀ k' n,mem' k' n=if k'=k then (Zf n S').isSome else mem k' n) : Grp X' g o G mem' c':=by
 have hpm:=KN hk
 have hnod:=h.nod
 simp only [List.nodup_cons] at hnod
 have hidm : id∈G.map (·.2):=List.mem_map.2 ⟨_,hpm,rfl⟩
 have hido : o≠id:=fun e=>hnod.1 (e ▸ hidm)
 have hidg : g≠id:=fun e=>h.gnot (e ▸ List.mem_cons_of_mem _ hidm)
 refine ⟨hs.get h.cell (by simpa using hidg),h.mo.step hs (by simpa using hido),fun p hp=>?_,fun k' n hk'=>?_,h.nod,h.ok,h.few⟩
 ·by_cases hpid : p.2=id
  ·have hpk : p.1=k:=by
    have h1 : Zf p.1 G=some p.2:=Zcj h.mo.nod hp
    have hinj : ∀ (G : ZjM),(G.map (·.2)).Nodup→p∈G→(k,id)∈G→p=(k,id):=by
     intro G hG h1 h2
     induction G with
     | nil=>cases h1
     | cons a G ih=>
      simp only [List.map_cons,List.nodup_cons,List.mem_map,not_exists,not_and] at hG
      rcases List.mem_cons.1 h1 with e1 | e1
      ·rcases List.mem_cons.1 h2 with e2 | e2
       ·rw [e1,e2]
       ·exact absurd (by rw [← e1];exact hpid.symm) (hG.1 _ e2)
      ·rcases List.mem_cons.1 h2 with e2 | e2
       ·exact absurd (by rw [← e2];exact hpid) (hG.1 _ e1)
       ·exact ih hG.2 e1 e2
    rw [hinj G hnod.2 hp hpm]
   exact ⟨S',by rw [hpid];exact hm,fun n=>by rw [hmem,if_pos hpk],hc,hn⟩
  ·obtain ⟨S,h1,h2,h3,h4⟩:=h.ms p hp
   have hpk : p.1≠k:=fun e=>hpid (by
    have h5 : Zf p.1 G=some p.2:=Zcj h.mo.nod hp
    rw [e,hk] at h5;exact (Option.some.inj h5).symm)
   exact ⟨S,h1.step hs (by simpa using hpid),fun n=>by rw [hmem,if_neg hpk];exact h2 n,Nat.le_trans h3 hcc,h4⟩
 ·rw [hmem] at hk'
  by_cases e : k'=k
  ·rw [e,hk];rfl
  ·rw [if_neg e] at hk';exact h.out k' n hk'
theorem Grp.step1 (h : Grp X g o G mem c) {id : Nat} (hk : Zf k G=some id) (hs : Zu [id] X [id] X') : Zu (Q7 o G) X (Q7 o G) X':=
 hs.more (fun j hj=>by
  have hj : j=id:=by simpa using hj
  subst hj
  exact List.mem_cons_of_mem _ (List.mem_map.2 ⟨_,KN hk,rfl⟩)) (fun j hj=>.inl hj)
theorem Grp.set (h : Grp X g o G mem c) {id : Nat} (hk : Zf k G=some id) : ∃ S : ZyT,Jz Zqn X id S∧(∀ n,(Zf n S).isSome=mem k n)∧S.length≤c∧∀ q∈S,Zt q.1=true:=h.ms _ (KN hk)
theorem Grp.key (h : Grp X g o G mem c) : (Zf k G).isSome=decide (k∈ZN G):=ZhK
theorem Ztk {v : Value} {l : List Tx} (hl : l.length≤1000) (hs : Sl X v (l.map strv)) : ∀ (t j : Nat),l.length - j=t→j≤l.length→
  Zi (c3 (KW.l1 (R (n+5)))) [v,iv l.length,iv j] X=some (if (l.drop j).all Zt then .ext 0 [] else .ret (iv 10),X)
 | 0,j,ht,hj=>by
  rw [List.drop_eq_nil_of_le (by omega)]
  refine Qa ?_
  rw [ZR,show j=l.length by omega]
  unfold KW.l1
  rw [Za Zs,Zb,if_neg (by simp)]
  rfl
 | t+1,j,ht,hj=>by
  have hkl : j < l.length:=by omega
  have hlt : (j : Int) < l.length:=by omega
  have hg:=List.getElem?_eq_getElem hkl
  have hd:=List.drop_eq_getElem_cons hkl
  generalize l[j]=x at hg hd
  have x1:=hs.ix (i:=j) (by simpa using hkl) .i64 X
  have x2:=hs.ldx (KM hg)
  have x3 : R (n+5) QD [strv x] X=some (iv (ZA x),X):=Zcg
  rw [hd,List.all_cons]
  cases hx : Zt x
  ·refine Yu ?_
   rw [ZR]
   unfold KW.l1
   rw [Za Zs,Zb,if_pos (by simpa using hlt),Za x1,Za x2,Za x3,show ZA x=10 by unfold ZA;rw [hx];rfl,Za Zl,Zb,if_pos (by simp)]
   rfl
  ·refine (ZL ?_).trans (Ztk hl hs t (j+1) (by omega) (by omega))
   rw [ZR]
   unfold KW.l1
   rw [Za Zs,Zb,if_pos (by simpa using hlt),Za x1,Za x2,Za x3,show ZA x=0 by unfold ZA;rw [hx];rfl,Za Zl,Zb,if_neg (by simp),Za ZF,Jd (by omega)]
   rfl
def ZdR (l : List Tx) : Int:=if l.all Zt then 0 else 10
theorem ZvJ {v : Value} {l : List Tx} (hl : l.length≤1000) (hs : Sl X v (l.map strv)) : R (n+6) ZaD [v] X=some (iv (ZdR l),X):=by
 have e:=Ztk (n:=n) hl hs l.length 0 (by omega) (by omega)
 rw [show iv ((0 : Nat) : Int)=.int .i64 0 from rfl,List.drop_zero] at e
 have hlen : ZC v X=some (iv l.length,X):=by have:=hs.len (H':=X);simpa using this
 rw [R,Zsv rfl]
 unfold KW ZdR
 rw [Za hlen]
 by_cases h : l.all Zt=true
 ·rw [if_pos h] at e ⊢
  rw [QG e,ZI];rfl
 ·rw [if_neg h] at e ⊢
  rw [Ky e];rfl
def Q9 (k : Tx) (ms : List Tx) (K : List Tx) : Int:=if (k :: ms).all Zt then (if k∈K then 0 else 8) else 10
theorem Zx4 (h : Grp X g o G mem c) {mv : Value} {ms : List Tx} (hml : ms.length≤5)
  (hrow : ∃ w X1 v X2,bsl 1 1 (.string ⟨#[]⟩) [(0,1,strv k)] X=some (w,X1)∧app 1 16 w mv X1=some (v,X2)∧Sl X2 v ((k :: ms).map strv)∧HLe X X2) :
  ∃ X',R (n+7) Jo [pt g,strv k,mv] X=some (.tuple #[.map (if Q9 k ms (ZN G)=0 then Zf k G else none),iv (Q9 k ms (ZN G))],X')∧HLe X X':=by
 obtain ⟨w,X1,v,X2,e1,e2,s2,l2⟩:=hrow
 have e3 : R (n+6) ZaD [v] X2=_:=ZvJ (n:=n) (l:=k :: ms) (by simp;omega) s2
 have h2:=h.hle l2
 refine ⟨X2,?_,l2⟩
 rw [R,Zld rfl]
 unfold Zdr Q9
 rw [Za e1,Za e2,Za e3]
 unfold ZdR
 by_cases hn : (k :: ms).all Zt=true
 ·rw [if_pos hn,if_pos hn]
  have e4:=h2.mo.lkp (k:=k) (z:=.map none) (ok:=true)
  have hkey:=h2.key (k:=k)
  rw [Za Zl,Zb,if_neg (by simp),Za Zg,Za Zj,Za h2.ldo]
  cases hk : Zf k G with
  | none=>
   rw [hk] at e4 hkey
   have hnk : ¬ k∈ZN G:=by simpa using hkey.symm
   rw [if_neg hnk,if_neg (by decide)]
   simp only [cond_true] at e4
   rw [Za e4,Za Zq,Za Zr,Za ZM,Zb,if_pos (by rfl)]
   rfl
  | some id=>
   rw [hk] at e4 hkey
   have hnk : k∈ZN G:=by simpa using hkey.symm
   rw [if_pos hnk,if_pos rfl]
   simp only [cond_true] at e4
   rw [Za e4,Za Zq,Za Zr,Za ZM,Zb,if_neg (by simp)]
   rfl
 ·rw [if_neg hn,if_neg hn,Za Zl,Zb,if_pos (by rfl)]
  rfl
theorem ZvH {x : Tx} {H : Zd} : bsl 1 1 (.string ⟨#[]⟩) [(0,1,strv x)] H=some (.slice (some ⟨H.length,0,none⟩) 1 1,H++[.cells [strv x] 1 false false]):=ZpO rfl rfl rfl
theorem Znk {x : Tx} {H : Zd} : Zo (H++[.cells [strv x] 1 false false]) (.slice (some ⟨H.length,0,none⟩) 1 1) ([x].map strv) [H.length]:=.inr ⟨H.length,[],false,rfl,rfl,by rw [Zp];rfl⟩
theorem ZDV {b : Nat} {sl : Value} {vs : List Value} {q : List Nat} (h : Zo X sl vs q) : app 1 b sl (.slice none 0 0) X=some (sl,X):=by
 rcases h with ⟨rfl,rfl,rfl⟩ | ⟨sid,rest,gr,rfl,rfl,hid⟩
 ·rfl
 ·unfold app
  simp only [Qu,flen,hid,Nat.add_zero,Nat.le_add_right,if_true]
theorem Zpb (h : Grp X g o G mem c) : ∃ X',R (n+7) Jo [pt g,strv k,.slice none 0 0] X=some (.tuple #[.map (if Q9 k [] (ZN G)=0 then Zf k G else none),iv (Q9 k [] (ZN G))],X')∧HLe X X':=
 Zx4 h (by simp) ⟨_,_,_,_,ZvH,ZDV Znk,Znk.rd,.app _ _⟩
theorem Zvy (h : Grp X g o G mem c) {mv : Value} (hm : Sl X mv [strv m]) : ∃ X',R (n+7) Jo [pt g,strv k,mv] X=some (.tuple #[.map (if Q9 k [m] (ZN G)=0 then Zf k G else none),iv (Q9 k [m] (ZN G))],X')∧HLe X X':=by
 have l1 : HLe X (X++[.cells [strv k] 1 false false]):=.app _ _
 obtain ⟨v,X2,q,e2,r2,s2,_⟩:=(Znk (x:=k) (H:=X)).push (b:=16) (hm.mono l1) (by simp) (by simp)
 have l2:=(l1.more s2 (by simp)).1
 exact Zx4 h (by simp) ⟨_,_,_,_,ZvH,e2,r2.rd,l2⟩
theorem ZEN : ∃ X' g o,R (n+1) Zg4 [] X=some (pt g,X')∧Grp X' g o [] (fun _ _=>false) 0∧HLe X X'∧X.length≤g∧X.length≤o:=by
 obtain ⟨H1,e1,g1,l1⟩:=ZuE (α:=Nat) (enc:=ZEI) X
 have e2 : bld (.agg #[.map none]) [(0,1,.map (some X.length))] H1=some (.agg #[.map (some X.length)],H1):=by simp [↓Z4,Z3,↓QE,Qk,Qj,Qm,↓Zb,JX,Zg,Yr,Qq,Ju,Qt,Jq,Js,QV,JC,QU,QZ,Q3,Q1,QL,Zm,ZM,Y8,YE,Jf,QM,JG,ZF,Q0,JZ,JW,JY,ZE,Zl,Zs,Jg,Qg,Qp,JB,J4,Jn,JQ,↓Y5,J1,↓g_r,YZ,YX,Zal,splice,Value.cells]
 have e3 : alc 1 (.agg #[.map (some X.length)]) H1=some (pt H1.length,H1++[.cells [.map (some X.length)] 1 false false]):=by
  rw [QZ];simp [Value.cells,oneCell]
 refine ⟨H1++[.cells [.map (some X.length)] 1 false false],H1.length,X.length,?_,⟨Zp,g1.hle (.app _ _),by simp,by simp,by simp,by simp,by simp⟩,l1.trans (.app _ _),l1.len,Nat.le_refl _⟩
 rw [R,Zu9 rfl]
 unfold Zkh
 rw [Za e1,Za e2,Za e3]
 rfl
def Yd (k : Tx) (K : List Tx) : Int:=if Zt k then (if k∈K then 9 else if 6≤K.length then 7 else 0) else 10
def Zim (k : Tx) (K : List Tx) : List Tx:=if Yd k K=0 then K++[k] else K
theorem ZxJ (h : Grp X g o G mem c) : ∃ X' G',R (n+8) JV [pt g,strv k] X=some (iv (Yd k (ZN G)),X')∧Grp X' g o G' mem c∧ZN G'=Zim k (ZN G)∧Zu (Q7 o G) X (Q7 o G') X':=by
 obtain ⟨X1,e1,l1⟩:=Zpb (n:=n) (k:=k) h
 have h1:=h.hle l1
 have f1 : ∀ r X',Yp (R (n+7)) (pt g) (strv k) X=some (r,X')→R (n+8) JV [pt g,strv k] X=some (r,X'):=fun r X' hr=>by rw [R,Zlc rfl];exact hr
 have same : ∀ e,Yd k (ZN G)=e→e≠0→(Yp (R (n+7)) (pt g) (strv k) X=some (iv e,X1))→∃ X' G',R (n+8) JV [pt g,strv k] X=some (iv (Yd k (ZN G)),X')∧Grp X' g o G' mem c∧ZN G'=Zim k (ZN G)∧Zu (Q7 o G) X (Q7 o G') X':=fun e he hne hr=>by
  refine ⟨X1,G,by rw [he];exact f1 _ _ hr,h1,?_,l1.stepq⟩
  unfold Zim;rw [if_neg (by rw [he];exact hne)]
 cases hn : Zt k
 ·have hE : Yd k (ZN G)=10:=by unfold Yd;rw [hn];rfl
  have hF : Q9 k [] (ZN G)=10:=by unfold Q9;simp [hn]
  rw [hF] at e1
  refine same _ hE (by decide) ?_
  unfold Yp
  rw [Za e1,Za Zq,Za Zr,Za ZE,Zb,if_neg (by decide),Za Zl,Zb,if_pos (by decide)]
  rfl
 ·by_cases hk : k∈ZN G
  ·have hE : Yd k (ZN G)=9:=by unfold Yd;rw [hn,if_pos rfl,if_pos hk]
   have hF : Q9 k [] (ZN G)=0:=by unfold Q9;simp [hn,hk]
   rw [hF] at e1
   refine same _ hE (by decide) ?_
   unfold Yp
   rw [Za e1,Za Zq,Za Zr,Za ZE,Zb,if_pos (by decide)]
   rfl
  ·have hF : Q9 k [] (ZN G)=8:=by unfold Q9;simp [hn,hk]
   rw [hF] at e1
   have hkl : (ZN G).length=G.length:=by simp
   by_cases hl : 6≤(ZN G).length
   ·have hE : Yd k (ZN G)=7:=by unfold Yd;rw [hn,if_pos rfl,if_neg hk,if_pos hl]
    refine same _ hE (by decide) ?_
    unfold Yp
    rw [Za e1,Za Zq,Za Zr,Za ZE,Zb,if_neg (by decide),Za Zl,Zb,if_neg (by decide),Za Zg,Za Zj,Za h1.ldo,Za h1.mo.len,Za Qp,Zb,if_pos (by simp;omega)]
    rfl
   ·have hE : Yd k (ZN G)=0:=by unfold Yd;rw [hn,if_pos rfl,if_neg hk,if_neg hl]
    obtain ⟨X2,e2,m2,l2⟩:=ZuE (α:=Unit) (enc:=Zqn) X1
    have h2:=h1.hle l2
    have hkn : Zf k G=none:=by
     have:=h.key (k:=k)
     cases ha : Zf k G with
     | none=>rfl
     | some v=>rw [ha] at this;exact absurd (by simpa using this.symm) hk
    obtain ⟨X3,e3,m3,s3,len3⟩:=h2.mo.mup (k:=k) (v:=X1.length)
    have ha : Qo k X1.length G=G++[(k,X1.length)]:=by unfold Qo;rw [hkn];rfl
    rw [ha] at m3
    have hlt : ∀ j∈Q7 o G,j < X1.length:=fun j hj=>(h1.isMap hj).1
    refine ⟨X3,G++[(k,X1.length)],?_,?_,?_,?_⟩
    ·rw [hE]
     refine f1 _ _ ?_
     unfold Yp
     rw [Za e1,Za Zq,Za Zr,Za ZE,Zb,if_neg (by decide),Za Zl,Zb,if_neg (by decide),Za Zg,Za Zj,Za h1.ldo,Za h1.mo.len,Za Qp,Zb,if_neg (by simp;omega),Za Zg,Za Zj,Za h1.ldo,Za e2,Za e3]
     rfl
    ·have hgo : g≠o:=fun e=>h.gnot (by rw [e];simp)
     have hoid : ∀ p∈G,p.2≠o:=fun p hp e=>by
      have:=h.nod
      simp only [List.nodup_cons] at this
      exact this.1 (List.mem_map.2 ⟨p,hp,e⟩)
     refine ⟨s3.get h2.cell (by simpa using hgo),m3,fun p hp=>?_,fun k' n' hk'=>?_,?_,fun p hp=>?_,by simp;omega⟩
     ·rcases List.mem_append.1 hp with hp | hp
      ·obtain ⟨S,h5,h6⟩:=h2.ms p hp
       exact ⟨S,h5.step s3 (by simpa using hoid p hp),h6⟩
      ·have : p=(k,X1.length):=by simpa using hp
       subst this
       refine ⟨[],m2.step s3 (by have:=hlt o (by simp);simp;omega),fun n'=>?_,Nat.zero_le _,by simp⟩
       cases hb : mem k n' with
       | false=>rfl
       | true=>have:=h.out k n' hb;rw [hkn] at this;cases this
     ·rw [ZfK]
      have:=h.out k' n' hk'
      cases hg : Zf k' G with
      | none=>rw [hg] at this;cases this
      | some v=>rfl
     ·have : Q7 o (G++[(k,X1.length)])=Q7 o G++[X1.length]:=by simp
      rw [this,List.nodup_append]
      refine ⟨h.nod,by simp,fun a ha b hb e=>?_⟩
      have:=hlt a ha
      have hb : b=X1.length:=by simpa using hb
      omega
     ·rcases List.mem_append.1 hp with hp | hp
      ·exact h.ok p hp
      ·have : p=(k,X1.length):=by simpa using hp
       subst this;exact hn
    ·unfold Zim;rw [if_pos hE];simp
    ·have s:=(l1.trans l2).stepq (q:=Q7 o G)
     have s:=s.trans (s3.more (o2:=Q7 o G) (o2':=Q7 o G) (by simp) (fun j hj=>.inl hj))
     refine ⟨s.len,s.keep,fun j hj=>?_⟩
     ·have : Q7 o (G++[(k,X1.length)])=Q7 o G++[X1.length]:=by simp
      rw [this] at hj
      rcases List.mem_append.1 hj with hj | hj
      ·exact .inl hj
      ·have hj : j=X1.length:=by simpa using hj
       exact .inr (by rw [hj];exact l1.len)
def JP (k : Tx) (K : List Tx) : Int:=if Zt k then (if k∈K then 0 else 8) else 10
def ZqE (k : Tx) (K : List Tx) : List Tx:=if JP k K=0 then K.filter (fun x=>decide (x≠k)) else K
def Zhh (k : Tx) (mem : Mem) : Mem:=fun k' n=>mem k' n && !(k'==k)
theorem ZuR {k : Tx} {K : List Tx} : Q9 k [] K=JP k K:=by unfold Q9 JP;simp
theorem ZDf (h : Grp X g o G mem c) : ∃ X' G',R (n+8) K2 [pt g,strv k] X=some (iv (JP k (ZN G)),X')∧Grp X' g o G' (if JP k (ZN G)=0 then Zhh k mem else mem) c∧ZN G'=ZqE k (ZN G)∧Zu (Q7 o G) X (Q7 o G') X':=by
 obtain ⟨X1,e1,l1⟩:=Zpb (n:=n) (k:=k) h
 rw [ZuR] at e1
 have h1:=h.hle l1
 have f1 : ∀ r X',WP (R (n+7)) (pt g) (strv k) X=some (r,X')→R (n+8) K2 [pt g,strv k] X=some (r,X'):=fun r X' hr=>by rw [R,Zk3 rfl];exact hr
 by_cases hE : JP k (ZN G)=0
 ·rw [hE] at e1 ⊢
  obtain ⟨X2,e2,m2,s2,_⟩:=h1.mo.mde (k:=k)
  have hgo : g≠o:=fun e=>h.gnot (by rw [e];simp)
  have hoid : ∀ p∈G,p.2≠o:=fun p hp e=>by
   have:=h.nod
   simp only [List.nodup_cons] at this
   exact this.1 (List.mem_map.2 ⟨p,hp,e⟩)
  have hsub : (Yi k G).Sublist G:=List.filter_sublist
  refine ⟨X2,Yi k G,f1 _ _ ?_,?_,?_,?_⟩
  ·unfold WP
   rw [Za e1,Za Zq,Za Zr,Za ZE]
   refine (ZK (vs:=[iv 0]) (H':=X2) ?_).trans ?_
   ·rw [Zb,if_pos (by rfl),Za Zg,Za Zj,Za h1.ldo,Za e2];rfl
   ·rfl
  ·rw [if_pos rfl]
   refine ⟨s2.get h1.cell (by simpa using hgo),m2,fun p hp=>?_,fun k' n' hk'=>?_,?_,fun p hp=>h.ok p (hsub.subset hp),Nat.le_trans hsub.length_le h.few⟩
   ·obtain ⟨S,h5,h6,h7⟩:=h1.ms p (hsub.subset hp)
    have hpk : p.1≠k:=by simpa [Yi] using (List.mem_filter.1 hp).2
    refine ⟨S,h5.step s2 (by simpa using hoid p (hsub.subset hp)),fun n'=>?_,h7⟩
    rw [h6];unfold Zhh;simp [hpk]
   ·unfold Zhh at hk'
    simp only [Bool.and_eq_true,Bool.not_eq_true',beq_eq_false_iff_ne] at hk'
    rw [J7 hk'.2];exact h.out k' n' hk'.1
   ·exact ((hsub.map (·.2)).cons_cons o).nodup h.nod
  ·unfold ZqE;rw [if_pos hE]
   unfold Yi ZN
   rw [List.filter_map];rfl
  ·have s:=l1.stepq (q:=Q7 o G)
   have s:=s.trans (s2.more (o2:=Q7 o G) (o2':=Q7 o G) (by simp) (fun j hj=>.inl hj))
   refine ⟨s.len,s.keep,fun j hj=>.inl ?_⟩
   exact ((hsub.map (·.2)).cons_cons o).subset hj
 ·refine ⟨X1,G,f1 _ _ ?_,by rw [if_neg hE];exact h1,by unfold ZqE;rw [if_neg hE],l1.stepq⟩
  unfold WP
  rw [Za e1,Za Zq,Za Zr,Za ZE]
  refine (ZK (vs:=[iv (JP k (ZN G))]) (H':=X1) ?_).trans ?_
  ·rw [Zb,if_neg (by simpa using hE)];rfl
  ·rfl
end
end Go.Proofs.YtgfbgfafajiehaaGreatDoor.A
namespace Go.Proofs.YtgfbgfafajiehaaGreatDoor.A
set_option linter.unusedVariables false
set_option linter.unusedSimpArgs false
open Go.Proofs Go.Proofs.YtgfbgfafajiehaaGreatDoor
theorem Zkw {α : Type} {k : Tx} {v : α} {m : List (Tx × α)} {q : Tx × α} (h : q∈Qo k v m) : q=(k,v)∨q∈m:=by
 unfold Qo at h
 split at h
 ·obtain ⟨p,hp,rfl⟩:=List.mem_map.1 h
  by_cases e : p.1=k
  ·rw [if_pos e];exact .inl rfl
  ·rw [if_neg e];exact .inr hp
 ·rcases List.mem_append.1 h with h | h
  ·exact .inr h
  ·exact .inl (by simpa using h)
section
variable {X X' : Zd} {n g o c c' : Nat} {G : ZjM} {mem mem' : Mem} {k m s t : Tx}
def ZaO (k m : Tx) (K : List Tx) (mem : Mem) : Int:=if Q9 k [m] K=0 then (if mem k m then 9 else 0) else Q9 k [m] K
def ZcK (k m : Tx) (K : List Tx) (mem : Mem) : Int:=if Q9 k [m] K=0 then (if mem k m then 0 else 12) else Q9 k [m] K
def Zju (k m : Tx) (mem : Mem) : Mem:=fun k' n=>mem k' n || (k'==k && n==m)
def ZqZ (k m : Tx) (mem : Mem) : Mem:=fun k' n=>mem k' n && !(k'==k && n==m)
theorem Zrv {k m : Tx} {K : List Tx} (h : Q9 k [m] K=0) : Zt k=true∧Zt m=true∧k∈K:=by
 unfold Q9 at h
 by_cases h1 : (k :: [m]).all Zt=true
 ·rw [if_pos h1] at h
  simp only [List.all_cons,List.all_nil,Bool.and_true,Bool.and_eq_true] at h1
  by_cases h2 : k∈K
  ·exact ⟨h1.1,h1.2,h2⟩
  ·rw [if_neg h2] at h;cases h
 ·rw [if_neg h1] at h;cases h
theorem ZE5 {H : Zd} : bld (.agg #[]) [] H=some (.agg #[],H):=by simp [↓Z4,Z3,↓QE,Qk,Qj,Qm,↓Zb,JX,Zg,Yr,Qq,Ju,Qt,Jq,Js,QV,JC,QU,QZ,Q3,Q1,QL,Zm,ZM,Y8,YE,Jf,QM,JG,ZF,Q0,JZ,JW,JY,ZE,Zl,Zs,Jg,Qg,Qp,JB,J4,Jn,JQ,↓Y5,J1,↓g_r,YZ,YX,Zal,splice,Value.cells]
theorem Grp.has (h : Grp X g o G mem c) (hk : k∈ZN G) : ∃ id,Zf k G=some id:=by
 have:=h.key (k:=k)
 cases ha : Zf k G with
 | none=>rw [ha] at this;exact absurd hk (by simpa using this.symm)
 | some v=>exact ⟨v,rfl⟩
theorem Zys (h : Grp X g o G mem c) : ∃ X',R (n+8) Yo [pt g,strv k,strv m] X=some (iv (ZaO k m (ZN G) mem),X')∧Grp X' g o G (if ZaO k m (ZN G) mem=0 then Zju k m mem else mem) (c+1)∧Zu (Q7 o G) X (Q7 o G) X':=by
 have l0 : HLe X (X++[.cells [strv m] 1 false false]):=.app _ _
 have s0:=(Znk (x:=m) (H:=X)).rd
 have e0:=ZvH (x:=m) (H:=X)
 generalize X++[Ze.cells [strv m] 1 false false]=X0 at l0 s0 e0
 obtain ⟨X1,e1,l1⟩:=Zvy (n:=n) (k:=k) (m:=m) (h.hle l0) s0
 have l01:=l0.trans l1
 have h1:=h.hle l01
 have f1 : ∀ r X',K0 (R (n+7)) (pt g) (strv k) (strv m) X=some (r,X')→R (n+8) Yo [pt g,strv k,strv m] X=some (r,X'):=fun r X' hr=>by rw [R,Zle rfl];exact hr
 unfold ZaO
 by_cases hE : Q9 k [m] (ZN G)=0
 ·rw [hE] at e1 ⊢
  rw [if_pos rfl] at e1 ⊢
  obtain ⟨b1,b2,b3⟩:=Zrv hE
  obtain ⟨id,hid⟩:=h.has b3
  rw [hid] at e1
  obtain ⟨S,m1,m2,m3,m4⟩:=h1.set hid
  have e2:=m1.lkp (k:=m) (z:=.agg #[]) (ok:=true)
  have l2 : HLe X1 (X1++[.cells [] 1 false false]):=.app _ _
  have hbox:=fun {K : Value→M Value}=>ZaF (k:=K) (zs:=[]) (r:=[]) (n:=0) (H:=X1) rfl rfl rfl rfl
  have h2:=h1.hle l2
  have m1:=m1.hle l2
  generalize X1++[Ze.cells [] 1 false false]=X2 at hbox l2 h2 m1
  have hmm:=m2 m
  cases hg : Zf m S with
  | some u=>
   rw [hg] at hmm e2
   have hmm : mem k m=true:=hmm.symm
   rw [if_pos hmm,if_neg (by decide)]
   refine ⟨X2,f1 _ _ ?_,h2.more (Nat.le_succ _) (fun _ _=>rfl),(l01.trans l2).stepq⟩
   unfold K0
   simp only [cond_true] at e2
   rw [Za e0,Za e1,Za Zq,Za Zr,Za Zl,Zb,if_neg (by decide),Za e2,Za Zq,Za Zr]
   refine hbox.trans ?_
   rw [Zb,if_pos rfl]
   rfl
  | none=>
   rw [hg] at hmm e2
   have hmm : mem k m=false:=hmm.symm
   rw [if_neg (by simp [hmm]),if_pos rfl]
   simp only [cond_true] at e2
   obtain ⟨X3,e3,m5,s3,_⟩:=m1.mup (k:=m) (v:=())
   have hlen : (Qo m () S).length≤c+1:=by rw [ZcB,hg];simp;omega
   refine ⟨X3,f1 _ _ ?_,h2.upd hid m5 s3 (fun q hq=>?_) hlen (Nat.le_succ _) (fun k' n'=>?_),(l01.trans l2).stepq.trans (h2.step1 hid s3)⟩
   ·unfold K0
    rw [Za e0,Za e1,Za Zq,Za Zr,Za Zl,Zb,if_neg (by decide),Za e2,Za Zq,Za Zr]
    refine hbox.trans ?_
    rw [Zb,if_neg (by simp),Za ZE5,Za e3]
    rfl
   ·rcases Zkw hq with rfl | hq
    ·exact b2
    ·exact m4 q hq
   ·unfold Zju
    by_cases hk : k'=k
    ·subst hk
     rw [if_pos rfl]
     by_cases hn : n'=m
     ·subst hn;rw [Zac];simp
     ·rw [KY hn,m2];simp [hn]
    ·rw [if_neg hk];simp [hk]
 ·rw [if_neg hE,if_neg hE]
  refine ⟨X1,f1 _ _ ?_,h1.more (Nat.le_succ _) (fun _ _=>rfl),l01.stepq⟩
  unfold K0
  rw [Za e0,Za e1,Za Zq,Za Zr,Za Zl,Zb,if_pos (by simpa using hE)]
  rfl
theorem ZBB (h : Grp X g o G mem c) : ∃ X',R (n+8) KB [pt g,strv k,strv m] X=some (iv (ZcK k m (ZN G) mem),X')∧Grp X' g o G (if ZcK k m (ZN G) mem=0 then ZqZ k m mem else mem) (c+1)∧Zu (Q7 o G) X (Q7 o G) X':=by
 have l0 : HLe X (X++[.cells [strv m] 1 false false]):=.app _ _
 have s0:=(Znk (x:=m) (H:=X)).rd
 have e0:=ZvH (x:=m) (H:=X)
 generalize X++[Ze.cells [strv m] 1 false false]=X0 at l0 s0 e0
 obtain ⟨X1,e1,l1⟩:=Zvy (n:=n) (k:=k) (m:=m) (h.hle l0) s0
 have l01:=l0.trans l1
 have h1:=h.hle l01
 have f1 : ∀ r X',KA (R (n+7)) (pt g) (strv k) (strv m) X=some (r,X')→R (n+8) KB [pt g,strv k,strv m] X=some (r,X'):=fun r X' hr=>by rw [R,ZjS rfl];exact hr
 unfold ZcK
 by_cases hE : Q9 k [m] (ZN G)=0
 ·rw [hE] at e1 ⊢
  rw [if_pos rfl] at e1 ⊢
  obtain ⟨b1,b2,b3⟩:=Zrv hE
  obtain ⟨id,hid⟩:=h.has b3
  rw [hid] at e1
  obtain ⟨S,m1,m2,m3,m4⟩:=h1.set hid
  have e2:=m1.lkp (k:=m) (z:=.agg #[]) (ok:=true)
  have l2 : HLe X1 (X1++[.cells [] 1 false false]):=.app _ _
  have hbox:=fun {K : Value→M Value}=>ZaF (k:=K) (zs:=[]) (r:=[]) (n:=0) (H:=X1) rfl rfl rfl rfl
  have h2:=h1.hle l2
  have m1:=m1.hle l2
  generalize X1++[Ze.cells [] 1 false false]=X2 at hbox l2 h2 m1
  have hmm:=m2 m
  cases hg : Zf m S with
  | some u=>
   rw [hg] at hmm e2
   have hmm : mem k m=true:=hmm.symm
   rw [if_pos hmm,if_pos rfl]
   simp only [cond_true] at e2
   obtain ⟨X3,e3,m5,s3,_⟩:=m1.mde (k:=m)
   have hsub : (Yi m S).Sublist S:=List.filter_sublist
   refine ⟨X3,f1 _ _ ?_,h2.upd hid m5 s3 (fun q hq=>m4 q (hsub.subset hq)) (Nat.le_trans hsub.length_le (Nat.le_trans m3 (Nat.le_succ _))) (Nat.le_succ _) (fun k' n'=>?_),(l01.trans l2).stepq.trans (h2.step1 hid s3)⟩
   ·unfold KA
    rw [Za e0,Za e1,Za Zq,Za Zr,Za Zl,Zb,if_neg (by decide),Za e2,Za Zq,Za Zr]
    refine hbox.trans ?_
    rw [Za ZM,Zb,if_neg (by simp),Za e3]
    rfl
   ·unfold ZqZ
    by_cases hk : k'=k
    ·subst hk
     rw [if_pos rfl]
     by_cases hn : n'=m
     ·subst hn;rw [ZbN];simp
     ·rw [J7 hn,m2];simp [hn]
    ·rw [if_neg hk];simp [hk]
  | none=>
   rw [hg] at hmm e2
   have hmm : mem k m=false:=hmm.symm
   rw [if_neg (by simp [hmm]),if_neg (by decide)]
   refine ⟨X2,f1 _ _ ?_,h2.more (Nat.le_succ _) (fun _ _=>rfl),(l01.trans l2).stepq⟩
   unfold KA
   simp only [cond_true] at e2
   rw [Za e0,Za e1,Za Zq,Za Zr,Za Zl,Zb,if_neg (by decide),Za e2,Za Zq,Za Zr]
   refine hbox.trans ?_
   rw [Za ZM,Zb,if_pos (by rfl)]
   rfl
 ·rw [if_neg hE,if_neg hE]
  refine ⟨X1,f1 _ _ ?_,h1.more (Nat.le_succ _) (fun _ _=>rfl),l01.stepq⟩
  unfold KA
  rw [Za e0,Za e1,Za Zq,Za Zr,Za Zl,Zb,if_pos (by simpa using hE)]
  rfl
theorem ZBZ {id : Nat} {S : ZyT} (hm : Jz Zqn X id S) (hl : S.length≤1000000) (hn : ∀ q∈S,Zt q.1=true) : ∃ v q X',R (n+2) Wa [.map (some id)] X=some (v,X')∧Zo X' v ((Z7 (S.map (·.1))).map strv) q∧HLe X X'∧∀ j∈q,X.length≤j:=by
 have e1 : R (n+1) Jt [.map (some id)] X=some (.func (.func Yt) #[] #[pt X.length],X++[.cells [.map (some id)] 1 false false]):=by
  rw [R,Zb4 rfl]
  unfold YF
  rw [Za (Zde rfl rfl _)]
  rfl
 have l1 : HLe X (X++[.cells [.map (some id)] 1 false false]):=.app _ _
 obtain ⟨v,q,X2,e2,r2,l2,o2⟩:=(hm.hle l1).keys (gks:=ZbE) (gc:=ZZ) (gk:=Yt) (c:=X.length) (by decide) Zp hl (fun p hp=>Nat.le_trans (KV (hn p hp)) (by decide))
 have e2' : R (n+1) ZP [.func (.func Yt) #[] #[pt X.length],.func (.func ZZ) #[] #[]] (X++[.cells [.map (some id)] 1 false false])=some (v,X2):=by
  rw [R,ZfE (show np ZP=some (Za9 ZbE ZZ) from rfl)]
  exact e2
 refine ⟨v,q,X2,?_,r2,l1.trans l2,fun j hj=>Nat.le_trans l1.len (o2 j hj)⟩
 rw [R,Zjo rfl]
 unfold Zcl
 rw [Za e1,Za e2']
 rfl
theorem ZBd (h : Grp X g o G mem c) : ∃ v q X',R (n+3) Kv [pt g] X=some (v,X')∧Zo X' v ((Z7 (ZN G)).map strv) q∧HLe X X'∧∀ j∈q,X.length≤j:=by
 have e1 : R (n+1) Q6 [.map (some o)] X=some (.func (.func J8) #[] #[pt X.length],X++[.cells [.map (some o)] 1 false false]):=by
  rw [R,Zbp rfl]
  unfold Yb
  rw [Za (Zde rfl rfl _)]
  rfl
 have l1 : HLe X (X++[.cells [.map (some o)] 1 false false]):=.app _ _
 obtain ⟨v,q,X2,e2,r2,l2,o2⟩:=(h.mo.hle l1).keys (gks:=ZbE) (gc:=ZZ) (gk:=J8) (c:=X.length) (by decide) Zp (Nat.le_trans h.few (by decide)) (fun p hp=>Nat.le_trans (KV (h.ok p hp)) (by decide))
 have e2' : R (n+1) ZP [.func (.func J8) #[] #[pt X.length],.func (.func ZZ) #[] #[]] (X++[.cells [.map (some o)] 1 false false])=some (v,X2):=by
  rw [R,ZfE (show np ZP=some (Za9 ZbE ZZ) from rfl)]
  exact e2
 have e3 : R (n+2) WH [.map (some o)] X=some (v,X2):=by
  rw [R,Zia rfl]
  unfold Zbv
  rw [Za e1,Za e2']
  rfl
 refine ⟨v,q,X2,?_,r2,l1.trans l2,fun j hj=>Nat.le_trans l1.len (o2 j hj)⟩
 rw [R,ZlP rfl]
 unfold ZdN
 rw [Za Zg,Za Zj,Za h.ldo,Za e3]
 rfl
theorem ZaZ {l : List Tx} : (Z7 l).length=l.length:=List.length_mergeSort l
theorem ZyY (h : Grp X g o G mem c) (hc : c≤1000000) : ∃ v q l X',R (n+8) KP [pt g,strv k] X=some (.tuple #[v,iv (JP k (ZN G))],X')∧Zo X' v (l.map strv) q∧Is l (fun m=>JP k (ZN G)=0∧mem k m=true)∧l.length≤c∧HLe X X'∧∀ j∈q,X.length≤j:=by
 obtain ⟨X1,e1,l1⟩:=Zpb (n:=n) (k:=k) h
 rw [ZuR] at e1
 have h1:=h.hle l1
 have f1 : ∀ r X',KK (R (n+7)) (pt g) (strv k) X=some (r,X')→R (n+8) KP [pt g,strv k] X=some (r,X'):=fun r X' hr=>by rw [R,ZiQ rfl];exact hr
 by_cases hE : JP k (ZN G)=0
 ·rw [hE] at e1 ⊢
  rw [if_pos rfl] at e1
  have hk : k∈ZN G:=by
   unfold JP at hE
   by_cases hn : Zt k=true
   ·rw [if_pos hn] at hE
    by_cases h2 : k∈ZN G
    ·exact h2
    ·rw [if_neg h2] at hE;cases hE
   ·rw [if_neg hn] at hE;cases hE
  obtain ⟨id,hid⟩:=h.has hk
  rw [hid] at e1
  obtain ⟨S,m1,m2,m3,m4⟩:=h1.set hid
  obtain ⟨v,q,X2,e2,r2,l2,o2⟩:=ZBZ (n:=n+5) m1 (by omega) m4
  have e2 : R (n+7) Wa [.map (some id)] X1=_:=e2
  refine ⟨v,q,_,X2,f1 _ _ ?_,r2,⟨ZiG m1.nod,fun x=>?_⟩,by rw [ZaZ];simpa using m3,l1.trans l2,fun j hj=>Nat.le_trans l1.len (o2 j hj)⟩
  ·unfold KK
   rw [Za e1,Za Zq,Za Zr,Za Zl,Zb,if_neg (by decide),Za e2]
   rfl
  ·rw [W7]
   have:=m2 x
   rw [ZhK] at this
   rw [← this]
   simp
 ·refine ⟨_,[],[],X1,f1 _ _ ?_,Zo.nil,⟨List.Pairwise.nil,fun x=>⟨fun hx=>absurd hx (by simp),fun hx=>absurd hx.1 hE⟩⟩,Nat.zero_le _,l1,by simp⟩
  unfold KK
  rw [Za e1,Za Zq,Za Zr,Za Zl,Zb,if_pos (by simpa using hE)]
  rfl
def ofL (m : Tx) (K : List Tx) (mem : Mem) : List Tx:=(Z7 K).filter fun k=>mem k m
theorem ZmK {K : List Tx} (hn : K.Nodup) : Is (ofL m K mem) (fun k=>k∈K∧mem k m=true):=⟨(ZiG hn).filter _,fun x=>by unfold ofL;rw [List.mem_filter,W7]⟩
theorem Zjb {K : List Tx} : (ofL m K mem).length≤K.length:=by
 unfold ofL
 have:=List.length_filter_le (fun k=>mem k m) (Z7 K)
 rwa [ZaZ] at this
theorem ZEj {b1 b2 : Nat} (h : Grp X g o G mem c) (h1 : X[b1]?=some (.cells [pt g] 1 false false)) (h2 : X[b2]?=some (.cells [strv m] 1 false false)) (hk : k∈ZN G) :
  ∃ X',R (n+1) Kw [strv k,pt b1,pt b2] X=some (.bool (!mem k m),X')∧HLe X X':=by
 obtain ⟨id,hid⟩:=h.has hk
 obtain ⟨S,m1,m2,m3,m4⟩:=h.set hid
 have e2 : lkp .str (.map none) false (.map (some o)) (strv k) X=some (.map (some id),X):=by rw [h.mo.lkp,hid];rfl
 have e3 : lkp .str (.agg #[]) true (.map (some id)) (strv m) X=some (.tuple #[.agg #[],.bool (mem k m)],X):=by
  rw [m1.lkp,← m2 m]
  cases Zf m S <;> rfl
 have l2 : HLe X (X++[.cells [] 1 false false]):=.app _ _
 have e4 : alc 1 (.agg #[]) X=some (pt X.length,X++[.cells [] 1 false false]):=Zir (vs:=[]) rfl
 have a4 : (X++[Ze.cells [] 1 false false])[X.length]?=some (.cells [] 1 false false):=Zp
 have e5 : stA 0 (pt X.length) (.agg #[]) (X++[Ze.cells [] 1 false false])=some (undef,(X++[Ze.cells [] 1 false false]).set X.length (.cells [] 1 false false)):=Zb7 (vs:=[]) a4 rfl rfl rfl
 rw [ZC6] at e5
 have h':=h.hle l2
 have m1':=m1.hle l2
 have b1':=l2 _ _ h1
 have b2':=l2 _ _ h2
 generalize X++[Ze.cells [] 1 false false]=X2 at l2 e4 e5 h' m1' b1' b2'
 have e2' : lkp .str (.map none) false (.map (some o)) (strv k) X2=some (.map (some id),X2):=by rw [h'.mo.lkp,hid];rfl
 have e3' : lkp .str (.agg #[]) true (.map (some id)) (strv m) X2=some (.tuple #[.agg #[],.bool (mem k m)],X2):=by
  rw [m1'.lkp,← m2 m]
  cases Zf m S <;> rfl
 refine ⟨X2,?_,l2⟩
 rw [R,ZmP rfl]
 unfold Zd2
 rw [Za (KH h1),Za Zg,Za Zj,Za h.ldo,Za e2,Za (KH h2),Za e3,Za Zq,Za Zr,Za e4,Za e3',QY,Za (KH b2'),QY,Za e2',QY]
 refine (Za h'.ldo).trans ?_
 rw [QY,Za (KH b1'),QY,Za e5,Za ZM]
 rfl
theorem ZuF (h : Grp X g o G mem c) : ∃ v q X',R (n+4) JE [pt g,strv m] X=some (v,X')∧Zo X' v ((ofL m (ZN G) mem).map strv) q∧HLe X X'∧∀ j∈q,X.length≤j:=by
 have e1:=Zde (v:=pt g) rfl rfl X
 have l1 : HLe X (X++[Ze.cells [pt g] 1 false false]):=.app _ _
 have c1 : (X++[Ze.cells [pt g] 1 false false])[X.length]?=some (.cells [pt g] 1 false false):=Zp
 generalize X++[Ze.cells [pt g] 1 false false]=X1 at e1 l1 c1
 have e2:=Zde (v:=strv m) rfl rfl X1
 have l2 : HLe X1 (X1++[Ze.cells [strv m] 1 false false]):=.app _ _
 have c2 : (X1++[Ze.cells [strv m] 1 false false])[X1.length]?=some (.cells [strv m] 1 false false):=Zp
 generalize X1++[Ze.cells [strv m] 1 false false]=X2 at e2 l2 c2
 have c1:=l2 _ _ c1
 have h2:=h.hle (l1.trans l2)
 obtain ⟨v,q,X3,e3,r3,l3,o3⟩:=ZBd (n:=n) h2
 have e3 : R (n+3) Kv [pt g] X2=_:=e3
 have l123:=(l1.trans l2).trans l3
 have hq : ∀ j∈q,j∉Q7 o G∧j≠g∧j≠X.length∧j≠X1.length:=fun j hj=>by
  have:=o3 j hj
  have a1:=Z6 c1
  have a2:=Z6 c2
  have a3:=h2.glt
  exact ⟨fun hm=>by have:=(h2.isMap hm).1;omega,by omega,by omega,by omega⟩
 have hkeep : ∀ Y Y',(Grp Y g o G mem c∧Y[X.length]?=some (.cells [pt g] 1 false false)∧Y[X1.length]?=some (.cells [strv m] 1 false false))→Zu q Y q Y'→(Grp Y' g o G mem c∧Y'[X.length]?=some (.cells [pt g] 1 false false)∧Y'[X1.length]?=some (.cells [strv m] 1 false false)):=fun Y Y' ⟨a1,a2,a3⟩ hs=>
  ⟨a1.step hs (fun hm=>(hq g hm).2.1 rfl) (fun j hj hm=>(hq j hm).1 hj),hs.get a2 (fun hm=>(hq _ hm).2.2.1 rfl),hs.get a3 (fun hm=>(hq _ hm).2.2.2 rfl)⟩
 have hf : ∀ i Y,(Grp Y g o G mem c∧Y[X.length]?=some (.cells [pt g] 1 false false)∧Y[X1.length]?=some (.cells [strv m] 1 false false))→∀ s∈Z7 (ZN G),∃ Y',Qf (R (i+1)) (.func (.func Kw) #[] #[pt X.length,pt X1.length]) [strv s] Y=some (.bool (!mem s m),Y')∧HLe Y Y':=fun i Y ⟨a1,a2,a3⟩ s hs=>by
  obtain ⟨Y',e,l⟩:=ZEj (n:=i) a1 a2 a3 (W7.1 hs)
  refine ⟨Y',?_,l⟩
  have:=ZhW (n:=i+1) (g:=Kw) (bs:=[pt X.length,pt X1.length]) (args:=[strv s])
  exact (congrFun this Y).trans e
 obtain ⟨X4,v',e4,r4,s4⟩:=Zt8 (n:=n+1) (p:=fun s=>!mem s m) (f:=.func (.func Kw) #[] #[pt X.length,pt X1.length]) (Q:=fun Y=>Grp Y g o G mem c∧Y[X.length]?=some (.cells [pt g] 1 false false)∧Y[X1.length]?=some (.cells [strv m] 1 false false)) r3 (by rw [ZaZ];have:=h.few;simp;omega) hkeep (hf n) (hf (n+1)) ⟨h2.hle l3,l3 _ _ c1,l3 _ _ c2⟩
 have e4 : R (n+3) ZV [v,.func (.func Kw) #[] #[pt X.length,pt X1.length]] X3=_:=e4
 have hm:=l123.more s4 (fun j hj=>Nat.le_trans (l1.trans l2).len (o3 j hj))
 refine ⟨v',q,X4,?_,by simpa [ofL] using r4,hm.1,hm.2⟩
 rw [R,ZnQ rfl]
 unfold ZeA
 rw [Za e1,Za e2,Za (KH c1),Za e3,Za e4]
 rfl
end
end Go.Proofs.YtgfbgfafajiehaaGreatDoor.A
namespace Go.Proofs.YtgfbgfafajiehaaGreatDoor.A
set_option linter.unusedVariables false
set_option linter.unusedSimpArgs false
open Go.Proofs Go.Proofs.YtgfbgfafajiehaaGreatDoor
section
variable {X X' : Zd} {n g o c c' : Nat} {G : ZjM} {mem mem' : Mem} {k m s t : Tx}
theorem Zo.grp {v : Value} {vs : List Value} {q S' : List Nat} (h : Zo X v vs q) (hG : Grp X g o G mem c) (hs : Zu (Q7 o G) X S' X') : Zo X' v vs q:=by
 refine h.step hs fun j hj hm=>?_
 rcases h with ⟨_,rfl,_⟩ | ⟨sid,rest,gr,_,rfl,hid⟩
 ·cases hj
 ·have hj : j=sid:=by simpa using hj
  subst hj
  exact (hG.isMap hm).2 _ _ _ _ hid
def Zjm (s t : Tx) (K : List Tx) (mem : Mem) : Int:=if Zt t then (if s=t then 0 else if ofL t K mem=[] then 0 else 9) else 10
def Zf9 (s t : Tx) (mem : Mem) : Mem:=fun k n=>if mem k s then (n==t || (mem k n && !(n==s))) else mem k n
def Zq6 (m : Tx) (mem : Mem) : Mem:=fun k n=>mem k n && !(n==m)
def Zi1 (s t : Tx) (l : List Tx) (mem : Mem) (j : Nat) : Mem:=fun k n=>if k∈l.take j then (n==t || (mem k n && !(n==s))) else mem k n
def Zke (m : Tx) (l : List Tx) (mem : Mem) (j : Nat) : Mem:=fun k n=>if k∈l.take j then mem k n && !(n==m) else mem k n
theorem Zhe {l : List Tx} {j : Nat} {x k : Tx} (hx : l[j]?=some x) : k∈l.take (j+1)↔k∈l.take j∨k=x:=by
 rw [List.take_add_one,hx];simp
theorem Zvu {l : List Tx} {j : Nat} {x : Tx} (hn : l.Nodup) (hx : l[j]?=some x) : x∉l.take j:=fun hm=>by
 obtain ⟨i,hi⟩:=List.getElem?_of_mem hm
 rw [List.getElem?_take] at hi
 split at hi
 ·rename_i hij
  obtain ⟨h1,h2⟩:=List.getElem?_eq_some_iff.1 hi
  obtain ⟨h3,h4⟩:=List.getElem?_eq_some_iff.1 hx
  exact List.pairwise_iff_getElem.1 hn i j h1 h3 hij (h2.trans h4.symm)
 ·cases hi
theorem ZA2 {v : Value} {q : List Nat} {l : List Tx} (hl : l.length≤1000) (hn : l.Nodup) (hK : ∀ x∈l,x∈ZN G∧mem x s=true) : ∀ (r j : Nat) (X : Zd),l.length - j=r→j≤l.length→Grp X g o G (Zi1 s t l mem j) c→Zt t=true→Zo X v (l.map strv) q→
  ∃ X',Zi (c6 (Qx.l1 (R n))) [pt g,strv s,strv t,v,iv l.length,iv j] X=some (.ext 0 [],X')∧Grp X' g o G (Zi1 s t l mem l.length) c∧Zu (Q7 o G) X (Q7 o G) X'
 | 0,j,X,hr,hj,h,ht,hrow=>by
  have : j=l.length:=by omega
  subst this
  refine ⟨X,Qa ?_,h,.refl _ _⟩
  rw [YN]
  unfold Qx.l1
  rw [Za Zs,Zb,if_neg (by simp)]
  rfl
 | r+1,j,X,hr,hj,h,ht,hrow=>by
  have hkl : j < l.length:=by omega
  have hlt : (j : Int) < l.length:=by omega
  have hg:=List.getElem?_eq_getElem hkl
  have hmm:=List.getElem_mem hkl
  generalize l[j]=k at hg hmm
  obtain ⟨hkK,hks⟩:=hK k hmm
  have hnot:=Zvu hn hg
  have x1:=hrow.ix (i:=j) (by simpa using hkl) .i64 X
  have x2:=hrow.ldx (KM hg)
  obtain ⟨id,hid⟩:=h.has hkK
  obtain ⟨S,m1,m2,m3,m4⟩:=h.set hid
  have hmk : ∀ n',(Zf n' S).isSome=mem k n':=fun n'=>by rw [m2 n'];unfold Zi1;rw [if_neg hnot]
  have e2 : lkp .str (.map none) false (.map (some o)) (strv k) X=some (.map (some id),X):=by rw [h.mo.lkp,hid];rfl
  obtain ⟨X1,e3,m5,s3,_⟩:=m1.mde (k:=s)
  have hsub : (Yi s S).Sublist S:=List.filter_sublist
  have h1:=h.upd (mem':=fun k' n'=>if k'=k then (Zf n' (Yi s S)).isSome else Zi1 s t l mem j k' n') hid m5 s3 (fun q hq=>m4 q (hsub.subset hq)) (Nat.le_trans hsub.length_le m3) (Nat.le_refl _) (fun _ _=>rfl)
  have e4 : lkp .str (.map none) false (.map (some o)) (strv k) X1=some (.map (some id),X1):=by rw [h1.mo.lkp,hid];rfl
  obtain ⟨X2,e5,m6,s5,_⟩:=m5.mup (k:=t) (v:=())
  have hsS : (Zf s S).isSome=true:=by rw [hmk];exact hks
  have hpos : 0 < S.length:=by
   cases hS : S with
   | nil=>rw [hS] at hsS;cases hsS
   | cons a b=>simp
  have hlen : (Qo t () (Yi s S)).length≤c:=by
   rw [ZcB]
   have:=ZpV m1.nod hsS
   split <;> omega
  have h2:=h1.upd (mem':=Zi1 s t l mem (j+1)) hid m6 s5 (fun q hq=>by
   rcases Zkw hq with rfl | hq
   ·exact ht
   ·exact m4 q (hsub.subset hq)) hlen (Nat.le_refl _) (fun k' n'=>by
   by_cases hk : k'=k
   ·subst hk
    rw [if_pos rfl]
    unfold Zi1
    rw [if_pos ((Zhe hg).2 (.inr rfl))]
    by_cases hnt : n'=t
    ·subst hnt;rw [Zac];simp
    ·rw [KY hnt]
     by_cases hns : n'=s
     ·subst hns;rw [ZbN];simp [hnt]
     ·rw [J7 hns,hmk,beq_eq_false_iff_ne.2 hnt,beq_eq_false_iff_ne.2 hns];simp
   ·rw [if_neg hk,if_neg hk]
    unfold Zi1
    by_cases hin : k'∈l.take j
    ·rw [if_pos hin,if_pos ((Zhe hg).2 (.inl hin))]
    ·rw [if_neg hin,if_neg fun h=>(Zhe hg).1 h |>.elim hin hk])
  have st:=(h.step1 hid s3).trans (h1.step1 hid s5)
  obtain ⟨X3,e6,h3,s6⟩:=ZA2 hl hn hK r (j+1) X2 (by omega) (by omega) h2 ht (hrow.grp h st)
  refine ⟨X3,(ZL ?_).trans e6,h3,st.trans s6⟩
  rw [YN]
  unfold Qx.l1
  rw [Za Zs,Zb,if_pos (by simpa using hlt),Za x1,Za x2,Za Zg,Za Zj,Za h.ldo,Za e2,Za e3,Za Zg,Za Zj,Za h1.ldo,Za e4,Za ZE5,Za e5,Za ZF,Jd (by omega)]
  rfl
theorem Zmo {K : List Tx} {x : Tx} : x∈ofL m K mem↔x∈K∧mem x m=true:=by unfold ofL;rw [List.mem_filter,W7]
theorem ZFk (h : Grp X g o G mem c) : ∃ X',R (n+8) Kd [pt g,strv s,strv t] X=some (iv (Zjm s t (ZN G) mem),X')∧Grp X' g o G (if Zjm s t (ZN G) mem=0 then Zf9 s t mem else mem) c∧Zu (Q7 o G) X (Q7 o G) X':=by
 have l0 : HLe X (X++[.cells [strv t] 1 false false]):=.app _ _
 have s0:=(Znk (x:=t) (H:=X)).rd
 have e0:=ZvH (x:=t) (H:=X)
 generalize X++[Ze.cells [strv t] 1 false false]=X0 at l0 s0 e0
 have f1 : ∀ r X',Qx (R (n+7)) (pt g) (strv s) (strv t) X=some (r,X')→R (n+8) Kd [pt g,strv s,strv t] X=some (r,X'):=fun r X' hr=>by rw [R,Zjz rfl];exact hr
 have e1 : R (n+7) ZaD [_] X0=_:=ZvJ (n:=n+1) (l:=[t]) (by simp) s0
 have h0:=h.hle l0
 unfold Zjm
 by_cases ht : Zt t=true
 ·have hN : ZdR [t]=0:=by unfold ZdR;simp [ht]
  rw [hN] at e1
  rw [if_pos ht]
  have q1 : bop .str .eql (strv s) (strv t) X0=some (.bool (s==t),X0):=Ziy
  by_cases hst : s=t
  ·rw [if_pos hst,if_pos rfl]
   refine ⟨X0,f1 _ _ ?_,h0.more (Nat.le_refl _) (fun k' n'=>?_),l0.stepq⟩
   ·unfold Qx
    rw [Za e0,Za e1,Za Zl,Zb,if_neg (by decide),Za q1,Zb,if_pos (by simpa using hst)]
    rfl
   ·unfold Zf9
    subst hst
    split
    ·rename_i hm
     by_cases hn : n'=s
     ·subst hn;simp [hm]
     ·rw [beq_eq_false_iff_ne.2 hn];simp
    ·rfl
  ·rw [if_neg hst]
   obtain ⟨v1,q1',X1,e2,r2,l2,o2⟩:=ZuF (n:=n+3) (m:=t) h0
   have e2 : R (n+7) JE [pt g,strv t] X0=_:=e2
   have hlen1 : ZC v1 X1=some (iv (ofL t (ZN G) mem).length,X1):=by have:=r2.rd.len (H':=X1);simpa using this
   have h1:=h0.hle l2
   by_cases hO : ofL t (ZN G) mem=[]
   ·rw [if_pos hO,if_pos rfl]
    rw [hO] at hlen1
    obtain ⟨v2,q2,X2,e3,r3,l3,o3⟩:=ZuF (n:=n+3) (m:=s) h1
    have e3 : R (n+7) JE [pt g,strv s] X1=_:=e3
    have h2:=h1.hle l3
    have hlen2 : ZC v2 X2=some (iv (ofL s (ZN G) mem).length,X2):=by have:=r3.rd.len (H':=X2);simpa using this
    have hfew : (ofL s (ZN G) mem).length≤1000:=by have:=Zjb (m:=s) (mem:=mem) (K:=ZN G);have:=h.few;simp at *;omega
    have hnod : (ofL s (ZN G) mem).Nodup:=(ZmK h.mo.nod).asc.nodup
    have hr0 : ∀ k n',Zi1 s t (ofL s (ZN G) mem) mem 0 k n'=mem k n':=fun k n'=>by unfold Zi1;simp
    obtain ⟨X3,e4,h3,s4⟩:=ZA2 (n:=n+7) (s:=s) (t:=t) hfew hnod (fun x hx=>Zmo.1 hx) (ofL s (ZN G) mem).length 0 X2 (by omega) (by omega) (h2.more (Nat.le_refl _) hr0) ht r3
    rw [show iv ((0 : Nat) : Int)=.int .i64 0 from rfl] at e4
    refine ⟨X3,f1 _ _ ?_,h3.more (Nat.le_refl _) (fun k' n'=>?_),((l0.trans l2).trans l3).stepq.trans s4⟩
    ·unfold Qx
     rw [Za e0,Za e1,Za Zl,Zb,if_neg (by decide),Za q1,Zb,if_neg (by simpa using hst),Za e2,Za hlen1,Za Qg,Zb,if_neg (by simp),Za e3,Za hlen2,QG e4,ZI]
     rfl
    ·unfold Zf9 Zi1
     rw [List.take_length]
     by_cases hm : mem k' s=true
     ·have hin : k'∈ofL s (ZN G) mem:=Zmo.2 ⟨by
       have:=h.out k' s hm
       rw [h.key] at this;simpa using this,hm⟩
      rw [if_pos hm,if_pos hin]
     ·rw [if_neg hm,if_neg fun hin=>hm (Zmo.1 hin).2]
   ·rw [if_neg hO,if_neg (by decide)]
    have hpos : 0 < (ofL t (ZN G) mem).length:=List.length_pos_iff.2 hO
    refine ⟨X1,f1 _ _ ?_,h1,(l0.trans l2).stepq⟩
    unfold Qx
    rw [Za e0,Za e1,Za Zl,Zb,if_neg (by decide),Za q1,Zb,if_neg (by simpa using hst),Za e2,Za hlen1,Za Qg,Zb,if_pos (by simpa using hpos)]
    rfl
 ·have hN : ZdR [t]=10:=by unfold ZdR;simp [ht]
  rw [hN] at e1
  rw [if_neg ht,if_neg (by decide)]
  refine ⟨X0,f1 _ _ ?_,h0,l0.stepq⟩
  unfold Qx
  rw [Za e0,Za e1,Za Zl,Zb,if_pos (by decide)]
  rfl
theorem ZAF {v z : Value} {q : List Nat} {l : List Tx} (hl : l.length≤1000) (hn : l.Nodup) (hK : ∀ x∈l,x∈ZN G) : ∀ (r j : Nat) (X : Zd),l.length - j=r→j≤l.length→Grp X g o G (Zke m l mem j) c→Zo X v (l.map strv) q→
  ∃ X',Zi (c6 (JT.l1 (R n))) [pt g,strv m,z,v,iv l.length,iv j] X=some (.ext 0 [z],X')∧Grp X' g o G (Zke m l mem l.length) c∧Zu (Q7 o G) X (Q7 o G) X'
 | 0,j,X,hr,hj,h,hrow=>by
  have : j=l.length:=by omega
  subst this
  refine ⟨X,Qa ?_,h,.refl _ _⟩
  rw [YN]
  unfold JT.l1
  rw [Za Zs,Zb,if_neg (by simp)]
  rfl
 | r+1,j,X,hr,hj,h,hrow=>by
  have hkl : j < l.length:=by omega
  have hlt : (j : Int) < l.length:=by omega
  have hg:=List.getElem?_eq_getElem hkl
  have hmm:=List.getElem_mem hkl
  generalize l[j]=k at hg hmm
  have hkK:=hK k hmm
  have hnot:=Zvu hn hg
  have x1:=hrow.ix (i:=j) (by simpa using hkl) .i64 X
  have x2:=hrow.ldx (KM hg)
  obtain ⟨id,hid⟩:=h.has hkK
  obtain ⟨S,m1,m2,m3,m4⟩:=h.set hid
  have hmk : ∀ n',(Zf n' S).isSome=mem k n':=fun n'=>by rw [m2 n'];unfold Zke;rw [if_neg hnot]
  have e2 : lkp .str (.map none) false (.map (some o)) (strv k) X=some (.map (some id),X):=by rw [h.mo.lkp,hid];rfl
  obtain ⟨X1,e3,m5,s3,_⟩:=m1.mde (k:=m)
  have hsub : (Yi m S).Sublist S:=List.filter_sublist
  have h1:=h.upd (mem':=Zke m l mem (j+1)) hid m5 s3 (fun q hq=>m4 q (hsub.subset hq)) (Nat.le_trans hsub.length_le m3) (Nat.le_refl _) (fun k' n'=>by
   by_cases hk : k'=k
   ·subst hk
    rw [if_pos rfl]
    unfold Zke
    rw [if_pos ((Zhe hg).2 (.inr rfl))]
    by_cases hns : n'=m
    ·subst hns;rw [ZbN];simp
    ·rw [J7 hns,hmk];simp [hns]
   ·rw [if_neg hk]
    unfold Zke
    by_cases hin : k'∈l.take j
    ·rw [if_pos hin,if_pos ((Zhe hg).2 (.inl hin))]
    ·rw [if_neg hin,if_neg fun h=>(Zhe hg).1 h |>.elim hin hk])
  have st:=h.step1 hid s3
  obtain ⟨X3,e6,h3,s6⟩:=ZAF hl hn hK r (j+1) X1 (by omega) (by omega) h1 (hrow.grp h st)
  refine ⟨X3,(ZL ?_).trans e6,h3,st.trans s6⟩
  rw [YN]
  unfold JT.l1
  rw [Za Zs,Zb,if_pos (by simpa using hlt),Za x1,Za x2,Za Zg,Za Zj,Za h.ldo,Za e2,Za e3,Za ZF,Jd (by omega)]
  rfl
theorem ZA5 (h : Grp X g o G mem c) : ∃ X',R (n+8) K9 [pt g,strv m] X=some (iv (ofL m (ZN G) mem).length,X')∧Grp X' g o G (Zq6 m mem) c∧Zu (Q7 o G) X (Q7 o G) X':=by
 obtain ⟨v2,q2,X2,e3,r3,l3,o3⟩:=ZuF (n:=n+3) (m:=m) h
 have e3 : R (n+7) JE [pt g,strv m] X=_:=e3
 have h2:=h.hle l3
 have hlen2 : ∀ Y,ZC v2 Y=some (iv (ofL m (ZN G) mem).length,Y):=fun Y=>by have:=r3.rd.len (H':=Y);simpa using this
 have hfew : (ofL m (ZN G) mem).length≤1000:=by have:=Zjb (m:=m) (mem:=mem) (K:=ZN G);have:=h.few;simp at *;omega
 have hnod : (ofL m (ZN G) mem).Nodup:=(ZmK h.mo.nod).asc.nodup
 have hr0 : ∀ k n',Zke m (ofL m (ZN G) mem) mem 0 k n'=mem k n':=fun k n'=>by unfold Zke;simp
 obtain ⟨X3,e4,h3,s4⟩:=ZAF (n:=n+7) (m:=m) (z:=v2) hfew hnod (fun x hx=>(Zmo.1 hx).1) (ofL m (ZN G) mem).length 0 X2 (by omega) (by omega) (h2.more (Nat.le_refl _) hr0) r3
 rw [show iv ((0 : Nat) : Int)=.int .i64 0 from rfl] at e4
 refine ⟨X3,?_,h3.more (Nat.le_refl _) (fun k' n'=>?_),l3.stepq.trans s4⟩
 ·rw [R,Zjw rfl]
  unfold JT
  rw [Za e3,Za (hlen2 _),QG e4,ZI,Jy,Za (hlen2 _)]
  rfl
 ·unfold Zq6 Zke
  rw [List.take_length]
  by_cases hin : k'∈ofL m (ZN G) mem
  ·rw [if_pos hin]
  ·rw [if_neg hin]
   by_cases hn : n'=m
   ·subst hn
    cases hm : mem k' n' with
    | false=>rfl
    | true=>exact absurd (Zmo.2 ⟨by have:=h.out k' n' hm;rw [h.key] at this;simpa using this,hm⟩) hin
   ·simp [hn]
theorem Jz.move {α : Type} {enc : α→Value} {id id' : Nat} {mm : List (Tx × α)} (h : Jz enc X id mm) (he : X'[id']?=X[id]?) : Jz enc X' id' mm:=by
 obtain ⟨es,h1,h2⟩:=h.ex
 exact ⟨⟨es,h1,by rw [he];exact h2⟩,h.nod⟩
end
end Go.Proofs.YtgfbgfafajiehaaGreatDoor.A

namespace Go.Proofs.YtgfbgfafajiehaaGreatDoor.A
set_option linter.unusedVariables false
set_option linter.unusedSimpArgs false
open Go.Proofs Go.Proofs.YtgfbgfafajiehaaGreatDoor
def ZeT (b : UInt8) : UInt8:=if decide (65≤b.toNat) && decide (b.toNat≤90) then UInt8.ofNat (b.toNat+32) else b
def Qy (s : List UInt8) : List UInt8:=s.map ZeT
theorem ZBy : ∀ b : UInt8,(decide (65≤b.toNat) && decide (b.toNat≤90))=true→IntKind.u8.wrap (IntKind.u8.wrap ((b.toNat : Int)+97) - 65)=(ZeT b).toNat:=ZAt (by decide+kernel)
section
variable {H X : Zd} {n : Nat} {s : List UInt8}
theorem ZEW {cs : List UInt8} {k : Nat} {b : UInt8} (h : cs[k]?=some b) : (u8s cs)[k]?=some (u8v b):=by unfold u8s;rw [List.getElem?_map,h];rfl
theorem ZDN {cs : List UInt8} {k : Nat} {b : UInt8} : (u8s cs).set k (u8v b)=u8s (cs.set k b):=by unfold u8s;rw [List.map_set]
theorem ZFG : s2b (strv s) H=some (.slice (some ⟨H.length,0,none⟩) s.length s.length,H++[.cells (u8s s) 1 true false]):=by
 unfold s2b strv ZiO
 simp [ByteArray.size]
theorem Zs5 {v : Value} {q : List Nat} (hs : s.length≤1000000) : ∀ (t k : Nat) (cs : List UInt8) (X : Zd),s.length - k=t→k≤s.length→cs.length=s.length→cs.take k=(s.take k).map ZeT→cs.drop k=s.drop k→Zo X v (u8s cs) q→
  ∃ X',Zi (c4 (Ws.l1 (R n))) [v,v,iv s.length,iv k] X=some (.ext 0 [v],X')∧Zo X' v (u8s (Qy s)) q∧Zu q X q X'
 | 0,k,cs,X,ht,hk,hl,h1,h2,hr=>by
  have : k=s.length:=by omega
  subst this
  have : cs=Qy s:=by
   rw [List.take_of_length_le (by omega),List.take_of_length_le (by omega)] at h1
   exact h1
  subst this
  refine ⟨X,Qa ?_,hr,.refl _ _⟩
  rw [ZJ]
  unfold Ws.l1
  rw [Za Zs,Zb,if_neg (by simp)]
  rfl
 | t+1,k,cs,X,ht,hk,hl,h1,h2,hr=>by
  have hkl : k < s.length:=by omega
  have hlt : (k : Int) < s.length:=by omega
  have hg:=List.getElem?_eq_getElem hkl
  have htk:=List.take_succ_eq_append_getElem hkl
  have hdk:=List.drop_eq_getElem_cons hkl
  generalize s[k]=b at hg htk hdk
  have hgc : cs[k]?=some b:=by
   have h3 : (cs.drop k)[0]?=(s.drop k)[0]?:=by rw [h2]
   simpa [hg] using h3
  have hul : (u8s cs).length=s.length:=by rw [Kk,hl]
  have x1:=hr.ix (i:=k) (by omega) .i64 X
  have x2:=hr.ldx (ZEW hgc)
  have hd1 : cs.drop (k+1)=s.drop (k+1):=by rw [← List.drop_drop,h2,List.drop_drop]
  have htc : cs.take (k+1)=cs.take k++[b]:=by
   have:=List.take_succ_eq_append_getElem (show k < cs.length by omega)
   rw [this,(List.getElem?_eq_some_iff.1 hgc).2]
  have hpk : ∀ (K : Value→M Out),bind (bop .int .geq (u8v b) (Value.int .u8 65)) (fun v16x6=>bind (gate v16x6 true 2 (bind (bop .int .leq (u8v b) (Value.int .u8 90)) fun v19x7=>ret [u8v b,v19x7])) (c2 fun _ q8_1=>bind (pick v16x6 q8_1 (Value.bool false)) K)) X=K (.bool (decide (65≤b.toNat) && decide (b.toNat≤90))) X:=fun K=>by
   have e1 : decide ((b.toNat : Int)≥65)=decide (65≤b.toNat):=by rw [decide_eq_decide];omega
   have e2 : decide ((b.toNat : Int)≤90)=decide (b.toNat≤90):=by rw [decide_eq_decide];omega
   rw [Za Qp,e1]
   cases decide (65≤b.toNat)
   ·rw [Za (g_r.trans (if_neg (by simp)))]
    simp only [List.replicate]
    rw [QB,Za Zm]
    rfl
   ·rw [ZX,Zk,Za Jg,Qi,QB,Za Zm,e2]
    rfl
  cases hup : (decide (65≤b.toNat) && decide (b.toNat≤90))
  ·have hfb : ZeT b=b:=by unfold ZeT;rw [hup];rfl
   rw [hup] at hpk
   obtain ⟨X',e,r',s'⟩:=Zs5 hs t (k+1) cs X (by omega) (by omega) hl (by rw [htc,h1,htk,List.map_append,List.map_singleton,hfb]) hd1 hr
   refine ⟨X',(ZL ?_).trans e,r',s'⟩
   rw [ZJ]
   unfold Ws.l1
   rw [Za Zs,Zb,if_pos (by simpa using hlt),Za x1,Za x2]
   refine (hpk _).trans ?_
   refine (ZK (vs:=[v,v,iv s.length,iv k]) (H':=X) ?_).trans ?_
   ·rw [Zb,if_neg (by simp)];rfl
   ·rw [ZJ,Za ZF,Jd (by omega)];rfl
  ·have hfu:=ZBy b hup
   rw [hup] at hpk
   obtain ⟨X1,x3,r1,s1,_⟩:=hr.stx (i:=k) (u:=u8v (ZeT b)) (by omega) rfl
   rw [ZDN] at r1
   obtain ⟨X',e,r',s'⟩:=Zs5 hs t (k+1) (cs.set k (ZeT b)) X1 (by omega) (by omega) (by simpa using hl) (by
    have h5 : k < (cs.set k (ZeT b)).length:=by simp;omega
    rw [List.take_succ_eq_append_getElem h5,List.take_set_of_le (Nat.le_refl _),h1,htk,List.map_append]
    simp) (by rw [List.drop_set_of_lt (by omega)];exact hd1) r1
   refine ⟨X',(ZL ?_).trans e,r',s1.trans s'⟩
   rw [ZJ]
   unfold Ws.l1
   rw [Za Zs,Zb,if_pos (by simpa using hlt),Za x1,Za x2]
   refine (hpk _).trans ?_
   refine (ZK (vs:=[v,v,iv s.length,iv k]) (H':=X1) ?_).trans ?_
   ·rw [Zb,if_pos rfl,Za ZF,Za Q0,hfu,Za x1,Za x3];rfl
   ·rw [ZJ,Za ZF,Jd (by omega)];rfl
theorem ZEp (hs : s.length≤1000000) : ∃ H',R (n+1) ZeP [strv s] H=some (strv (Qy s),H')∧HLe H H':=by
 have e1:=ZFG (s:=s) (H:=H)
 have k1 : HLe H (H++[.cells (u8s s) 1 true false]):=.app _ _
 have r1 : Zo (H++[.cells (u8s s) 1 true false]) (.slice (some ⟨H.length,0,none⟩) s.length s.length) (u8s s) [H.length]:=.inr ⟨H.length,[],true,by rw [Kk];rfl,rfl,by rw [Zp,List.append_nil]⟩
 have hnl : ∀ j∈[H.length],H.length≤j:=by simp
 generalize H++[Ze.cells (u8s s) 1 true false]=H1 at e1 k1 r1
 obtain ⟨H2,e2,r2,s2⟩:=Zs5 (n:=n) hs s.length 0 s H1 (by omega) (by omega) rfl rfl rfl r1
 have e2 : Zi (c4 (Ws.l1 (R n))) [.slice (some ⟨H.length,0,none⟩) s.length s.length,.slice (some ⟨H.length,0,none⟩) s.length s.length,iv s.length,.int .i64 0] H1=_:=e2
 refine ⟨H2,?_,(k1.more s2 hnl).1⟩
 rw [R,ZuL rfl]
 unfold Ws
 have hl : ZC (.slice (some ⟨H.length,0,none⟩) s.length s.length) H1=some (iv s.length,H1):=rfl
 rw [Za e1,Za hl,QG e2,ZI,Jy,Za (Ziz r2.rd)]
 rfl
theorem ZCQ {i : Nat} (hi : i≤s.length) : sls (strv s) (some (iv i)) none H=some (strv (s.drop i),H):=by
 have h1 : (⟨s.toArray⟩ : ByteArray).size=s.length:=by simp [ByteArray.size]
 have h2 : (⟨s.toArray⟩ : ByteArray).extract i s.length=⟨(s.drop i).toArray⟩:=by
  apply ByteArray.ext
  rw [ByteArray.data_extract]
  simp [List.take_of_length_le]
 have hb : ∀ k : Nat,∀ d,bnd (some (iv k)) d=some k:=fun k d=>by simp [bnd]
 have hb0 : ∀ d,bnd none d=some d:=fun _=>rfl
 unfold strv sls
 simp only [h1,hb,hb0]
 rw [if_pos ⟨hi,Nat.le_refl _⟩,h2]
end
end Go.Proofs.YtgfbgfafajiehaaGreatDoor.A
namespace Go.Proofs.YtgfbgfafajiehaaGreatDoor.A
set_option linter.unusedVariables false
set_option linter.unusedSimpArgs false
open Go.Proofs Go.Proofs.YtgfbgfafajiehaaGreatDoor
def Q2 (c : UInt8) : List UInt8→List (List UInt8)
 | []=>[[]]
 | b :: l=>if b=c then [] :: Q2 c l else match Q2 c l with
  | h :: t=>(b :: h) :: t
  | []=>[[b]]
theorem ZtK {c : UInt8} : ∀ {s : List UInt8},Q2 c s≠[]
 | []=>by simp [Q2]
 | b :: s=>by
  unfold Q2
  split
  ·simp
  ·split <;> simp
theorem Zqs {c : UInt8} : ∀ {s : List UInt8},c∉s→Q2 c s=[s]
 | [],_=>rfl
 | b :: s,h=>by
  simp only [List.mem_cons,not_or] at h
  unfold Q2
  rw [if_neg (Ne.symm h.1),Zqs h.2]
theorem Zmk {c : UInt8} : ∀ {s : List UInt8},c∈s→Q2 c s=s.takeWhile (· !=c) :: Q2 c (s.drop ((s.takeWhile (· !=c)).length+1))
 | [],h=>by cases h
 | b :: s,h=>by
  rw [show Q2 c (b :: s)=(if b=c then [] :: Q2 c s else match Q2 c s with | h :: t=>(b :: h) :: t | []=>[[b]]) from rfl]
  by_cases hb : b=c
  ·subst hb
   rw [if_pos rfl]
   simp
  ·rw [if_neg hb]
   have hm : c∈s:=by
    rcases List.mem_cons.1 h with h | h
    ·exact absurd h.symm hb
    ·exact h
   rw [Zmk hm]
   have h2 : (b !=c)=true:=by simp [hb]
   simp [List.takeWhile_cons,h2]
theorem Ze5 {c : UInt8} : ∀ {s : List UInt8},(Q2 c s).length=s.count c+1
 | []=>rfl
 | b :: s=>by
  have ih:=Ze5 (c:=c) (s:=s)
  unfold Q2
  by_cases hb : b=c
  ·subst hb
   rw [if_pos rfl,List.length_cons,ih,List.count_cons_self]
  ·rw [if_neg hb,List.count_cons_of_ne (by simpa using hb)]
   cases h : Q2 c s with
   | nil=>exact absurd h ZtK
   | cons a t=>rw [h] at ih;simpa using ih
theorem ZCh {c : UInt8} : ∀ {s : List UInt8},c∈s→s.count c=(s.drop ((s.takeWhile (· !=c)).length+1)).count c+1:=by
 intro s h
 have h1:=Ze5 (c:=c) (s:=s)
 rw [Zmk h,List.length_cons,Ze5] at h1
 omega
def ZsC (l : List UInt8) : Bool:=!(l==[]) && l.all Zgk
def Zbi (f : List UInt8) : List UInt8:=if 64∈f then f.drop ((f.takeWhile (· !=64)).length+1) else []
def okM (f : List UInt8) : Bool:=decide (64∈f) && (Zt (f.takeWhile (· !=64)) && (decide (2≤(Q2 46 (Zbi f)).length) && (Q2 46 (Zbi f)).all ZsC))
def J2 (s : List UInt8) : Bool:=decide (s.length≤20) && okM (Qy s)
section
variable {H X : Zd} {n : Nat} {s : List UInt8} {c : UInt8}
theorem ZDi {args : List Value} : run Tryz.prog np lvs (n+1) Yf args=ZjJ args:=ZfE (show np Yf=some ZjJ from rfl)
theorem ZCS {args : List Value} : run Tryz.prog np lvs (n+1) YS args=ZkC args:=ZfE (show np YS=some ZkC from rfl)
theorem ZuY : R (n+3) Q5 [strv s,strv [c]] H=some (iv (Go.Lib.indexByte s c),H):=by
 have e1 : run Tryz.prog np lvs (n+2) JF [strv s,u8v c] H=some (iv (Go.Lib.indexByte s c),H):=by
  have e0 : run Tryz.prog np lvs (n+1) Yf [strv s,u8v c] H=some (iv (Go.Lib.indexByte s c),H):=by rw [ZDi];exact ZEv
  rw [ZdZ rfl]
  unfold KL
  rw [Za e0]
  rfl
 have q0 : bop .int .eql (iv [c].length) (.int .i64 0) H=some (.bool false,H):=by rw [ZE];rfl
 have q1 : bop .int .eql (iv [c].length) (.int .i64 1) H=some (.bool true,H):=by rw [ZE];rfl
 have x1 : ixs (strv [c]) (.int .i64 0) H=some (u8v c,H):=Zp8 (s:=[c]) (i:=0) rfl .i64 H
 rw [R,Zfr rfl]
 unfold Ym
 rw [Za ZY,Za q0,ZX,Zk,Za Ziy,Qi,ZR,Za Zm]
 simp only [cond_false]
 by_cases h : s=[c]
 ·subst h
  rw [Zb,if_pos (by simp)]
  unfold Go.Lib.indexByte
  simp [ret]
 ·rw [Zb,if_neg (by simp;exact fun e=>h e.symm),Za q1,Zb,if_pos rfl,Za x1,Za e1]
  rfl
theorem ZCb : R (n+4) Zah [strv s,strv [c]] H=some (iv (Go.Lib.indexByte s c),H):=by
 have e1 : run Tryz.prog np lvs (n+3) Q5 [strv s,strv [c]] H=_:=ZuY
 rw [R,ZpJ rfl]
 unfold Zfk
 rw [Za e1]
 rfl
theorem ZCT : R (n+2) Zbw [strv s,strv [c]] H=some (iv (s.count c),H):=by
 have e0 : run Tryz.prog np lvs (n+1) YS [strv s,u8v c] H=some (iv (s.count c),H):=by rw [ZCS];exact ZEw
 have q0 : bop .int .eql (iv [c].length) (.int .i64 0) H=some (.bool false,H):=by rw [ZE];rfl
 have q1 : bop .int .eql (iv [c].length) (.int .i64 1) H=some (.bool true,H):=by rw [ZE];rfl
 have x1 : ixs (strv [c]) (.int .i64 0) H=some (u8v c,H):=Zp8 (s:=[c]) (i:=0) rfl .i64 H
 rw [R,Zpi rfl]
 unfold Zbz
 rw [Za ZY,Za q0,Zb,if_neg (by simp),Za ZY,Za q1,Zb,if_pos rfl,Za x1,Za e0]
 rfl
theorem ZAa {s : List UInt8} {c : UInt8} (h : c∈s) : (s.takeWhile (· !=c)).length < s.length:=by
 rcases Nat.lt_or_ge (s.takeWhile (· !=c)).length s.length with h1 | h1
 ·exact h1
 ·have h2 : s.takeWhile (· !=c)=s:=by
   have:=List.takeWhile_prefix (p:=(· !=c)) (l:=s)
   exact this.eq_of_length (by have:=this.length_le;omega)
  have h3:=List.all_eq_true.1 (List.all_takeWhile (p:=(· !=c)) (l:=s)) c (by rw [h2];exact h)
  simp at h3
theorem Zye {s : List UInt8} {p : UInt8→Bool} : s.take (s.takeWhile p).length=s.takeWhile p:=
 (List.prefix_iff_eq_take.1 (List.takeWhile_prefix p)).symm
theorem ZFJ (hs : s.length≤1000000) : R (n+5) Zay [strv s,strv [c]] H=some (if c∈s then .tuple #[strv (s.takeWhile (· !=c)),strv (s.drop ((s.takeWhile (· !=c)).length+1)),.bool true] else .tuple #[strv s,strv [],.bool false],H):=by
 have e1 : run Tryz.prog np lvs (n+3) Q5 [strv s,strv [c]] H=_:=ZuY
 have e2 : run Tryz.prog np lvs (n+4) KJ [strv s,strv [c]] H=some (if c∈s then .tuple #[strv (s.takeWhile (· !=c)),strv (s.drop ((s.takeWhile (· !=c)).length+1)),.bool true] else .tuple #[strv s,strv [],.bool false],H):=by
  rw [Zgr rfl]
  unfold ZaC
  rw [Za e1,Zfs,Za Qp,Zb]
  by_cases h : c∈s
  ·have hl:=ZAa h
   have w : IntKind.i64.wrap (((s.takeWhile (· !=c)).length : Int)+(([c] : List UInt8).length : Nat))=(((s.takeWhile (· !=c)).length+1 : Nat) : Int):=Jd (by omega)
   rw [if_pos h,if_pos (by simp),Za (Zuz (by omega)),Zye,Za ZY,Za ZF,w,Za (ZCQ (by omega)),if_pos h]
   rfl
  ·rw [if_neg h,if_neg (by decide),if_neg h]
   rfl
 rw [R,ZsZ rfl]
 unfold Zh2
 rw [Za e2]
 by_cases h : c∈s
 ·rw [if_pos h];rfl
 ·rw [if_neg h];rfl
theorem ZuQ {v : Value} {q : List Nat} {N : Nat} (hN : N≤1000001) : ∀ (t i : Nat) (s : List UInt8) (cs : List (List UInt8)) (X : Zd),N - 1 - i=t→i < N→s.length≤1000000→s.count c+1+i=N→cs.length=N→Zo X v (cs.map strv) q→
  ∃ (X' : Zd) (s' : List UInt8) (cs' : List (List UInt8)),Zi (c6 (J3.l1 (R (n+4)))) [strv s,strv [c],iv 0,iv ((N - 1 : Nat) : Int),v,iv i] X=some (.ext 0 [strv s',v,iv ((N - 1 : Nat) : Int)],X')∧Zo X' v (cs'.map strv) q∧cs'.length=N∧cs'.take (N - 1)++[s']=cs.take i++Q2 c s∧Zu q X q X'
 | 0,i,s,cs,X,ht,hi,hs,hc,hl,hr=>by
  have hi2 : i=N - 1:=by omega
  subst hi2
  have hcs : c∉s:=by
   intro h
   have:=List.count_pos_iff.2 h
   omega
  refine ⟨X,s,cs,Qa ?_,hr,hl,by rw [Zqs hcs],.refl _ _⟩
  rw [YN]
  unfold J3.l1
  rw [Za Zs,Zb,if_neg (by simp)]
  rfl
 | t+1,i,s,cs,X,ht,hi,hs,hc,hl,hr=>by
  have hlt : (i : Int) < ((N - 1 : Nat) : Int):=by omega
  have hcs : c∈s:=List.count_pos_iff.1 (by omega)
  have htl:=ZAa hcs
  have hct:=ZCh hcs
  have e1 : R (n+4) Zah [strv s,strv [c]] X=_:=ZCb
  rw [Zfs,if_pos hcs] at e1
  have w0 : IntKind.i64.wrap (((s.takeWhile (· !=c)).length : Int)+0)=((s.takeWhile (· !=c)).length : Int):=by rw [Int.add_zero];exact w64 (by omega) (by omega)
  have w : IntKind.i64.wrap (((s.takeWhile (· !=c)).length : Int)+(([c] : List UInt8).length : Nat))=(((s.takeWhile (· !=c)).length+1 : Nat) : Int):=Jd (by omega)
  have x1:=hr.ix (i:=i) (by simp;omega) .i64 X
  obtain ⟨X1,x2,r1,s1,_⟩:=hr.stx (i:=i) (u:=strv (s.takeWhile (· !=c))) (by simp;omega) rfl
  rw [show (cs.map strv).set i (strv (s.takeWhile (· !=c)))=(cs.set i (s.takeWhile (· !=c))).map strv from by rw [List.map_set]] at r1
  obtain ⟨X',s',cs',e2,r2,l2,h2,s2⟩:=ZuQ hN t (i+1) (s.drop ((s.takeWhile (· !=c)).length+1)) (cs.set i (s.takeWhile (· !=c))) X1 (by omega) (by omega) (by simp;omega) (by omega) (by simpa using hl) r1
  refine ⟨X',s',cs',(ZL ?_).trans e2,r2,l2,?_,s1.trans s2⟩
  ·have q1 : bop .int .lss (iv ((s.takeWhile (· !=c)).length : Nat)) (.int .i64 0) X=some (.bool false,X):=by rw [Zs,decide_eq_false (by omega)]
   rw [YN]
   unfold J3.l1
   rw [Za Zs,Zb,if_pos (by simpa using hlt),Za e1,Za q1,Zb,if_neg (by simp),Za ZF,w0,Za (Zuz (by omega)),Zye,Za x1,Za x2,Za ZY,Za ZF,w,Za (ZCQ (by omega)),Za ZF,Jd (by omega)]
   rfl
  ·have h5 : i < (cs.set i (s.takeWhile (· !=c))).length:=by simp;omega
   rw [h2,Zmk hcs,List.take_succ_eq_append_getElem h5,List.take_set_of_le (Nat.le_refl _)]
   simp
theorem ZDM (hs : s.length≤1000000) : ∃ X' v q,R (n+6) Zbu [strv s,strv [c]] X=some (v,X')∧Zo X' v ((Q2 c s).map strv) q∧HLe X X':=by
 have hcl : s.count c≤s.length:=List.count_le_length
 have e0 : run Tryz.prog np lvs (n+4) Zbw [strv s,strv [c]] X=_:=ZCT (n:=n+2)
 have w1 : IntKind.i64.wrap ((s.count c : Int)+1)=((s.count c+1 : Nat) : Int):=Jd (by omega)
 have w2 : IntKind.i64.wrap ((s.length : Int)+1)=((s.length+1 : Nat) : Int):=Jd (by omega)
 have q0 : bop .int .eql (.int .i64 (-1)) (.int .i64 0) X=some (.bool false,X):=by rw [ZE];rfl
 have q1 : bop .str .eql (strv [c]) (.string ⟨#[]⟩) X=some (.bool false,X):=Ziy (b:=[])
 have q2 : bop .int .lss (.int .i64 (-1)) (.int .i64 0) X=some (.bool true,X):=by rw [Zs];rfl
 have hm : mxi false (iv ((s.count c+1 : Nat) : Int)) (iv ((s.length+1 : Nat) : Int)) X=some (iv ((s.count c+1 : Nat) : Int),X):=by rw [YE,if_neg (by omega)]
 have e1:=ZFF (k:=s.count c+1) (b:=16) (z:=.string ⟨#[]⟩) (H:=X) rfl (by omega) (by omega)
 have k1 : HLe X (X++[.cells (List.replicate (s.count c+1) (Value.string ⟨#[]⟩)) 1 false false]):=.app _ _
 have r1 : Zo (X++[.cells (List.replicate (s.count c+1) (Value.string ⟨#[]⟩)) 1 false false]) (.slice (some ⟨X.length,0,none⟩) (s.count c+1) (s.count c+1)) ((List.replicate (s.count c+1) ([] : List UInt8)).map strv) [X.length]:=by
  rw [List.map_replicate]
  exact Zo.new Zp
 have ho : ∀ j∈[X.length],X.length≤j:=by simp
 generalize X++[Ze.cells (List.replicate (s.count c+1) (Value.string ⟨#[]⟩)) 1 false false]=X1 at e1 k1 r1
 generalize hv : Value.slice (some ⟨X.length,0,none⟩) (s.count c+1) (s.count c+1)=v at e1 r1
 have w3 : IntKind.i64.wrap (((s.count c+1 : Nat) : Int) - 1)=((s.count c+1 - 1 : Nat) : Int):=ZCC (by omega) (by omega)
 obtain ⟨X2,s',cs',e2,r2,l2,h2,s2⟩:=ZuQ (n:=n) (c:=c) (N:=s.count c+1) (by omega) (s.count c+1 - 1 - 0) 0 s _ X1 rfl (by omega) hs (by omega) (by simp) r1
 have e2 : Zi (c6 (J3.l1 (R (n+4)))) [strv s,strv [c],.int .i64 0,iv ((s.count c+1 - 1 : Nat) : Int),v,.int .i64 0] X1=_:=e2
 have x1:=r2.ix (i:=s.count c+1 - 1) (by simp;omega) .i64 X2
 obtain ⟨X3,x2,r3,s3,_⟩:=r2.stx (i:=s.count c+1 - 1) (u:=strv s') (by simp;omega) rfl
 have hfin : (cs'.set (s.count c+1 - 1) s')=Q2 c s:=by
  have h6 : s.count c+1 - 1 < cs'.length:=by omega
  rw [← List.take_append_drop (s.count c+1 - 1) (cs'.set (s.count c+1 - 1) s'),List.take_set_of_le (Nat.le_refl _),List.drop_set]
  rw [if_neg (by omega),Nat.sub_self]
  have hd : (cs'.drop (s.count c+1 - 1)).length=1:=by simp;omega
  obtain ⟨a,ha⟩:=List.length_eq_one_iff.1 hd
  rw [ha,List.set_cons_zero,h2]
  rfl
 rw [show (cs'.map strv).set (s.count c+1 - 1) (strv s')=(cs'.set (s.count c+1 - 1) s').map strv from by rw [List.map_set],hfin] at r3
 have hlen : ((Q2 c s).map strv).length=s.count c+1:=by rw [List.length_map,Ze5]
 have x3 : ∃ v',slv 1 v none (some (iv ((s.count c+1 : Nat) : Int))) none X3=some (v',X3)∧Zo X3 v' ((Q2 c s).map strv) [X.length]:=by
  rcases r3 with ⟨h,_,_⟩ | ⟨sid,rest,g,h1,h3,h4⟩
  ·rw [h] at hlen;simp at hlen
  ·rw [hlen] at h1
   refine ⟨.slice (some ⟨sid,0,none⟩) (s.count c+1) (s.count c+1+rest.length),?_,.inr ⟨sid,rest,g,by rw [hlen],h3,h4⟩⟩
   have b1 : bnd (some (iv ((s.count c+1 : Nat) : Int))) (s.count c+1)=some (s.count c+1):=by simp [bnd];omega
   have b2 : ∀ d,bnd none d=some d:=fun _=>rfl
   rw [h1]
   simp only [slv,h4,b1,b2]
   rw [if_pos ⟨trivial,by omega,by omega,Nat.le_refl _⟩,if_neg (by omega)]
   simp
 obtain ⟨v',x3,r4⟩:=x3
 have w4 : IntKind.i64.wrap (((s.count c+1 - 1 : Nat) : Int)+1)=((s.count c+1 : Nat) : Int):=by rw [Jd (by omega)];congr 1
 have e3 : run Tryz.prog np lvs (n+5) Zbq [strv s,strv [c],.int .i64 0,.int .i64 (-1)] X=some (v',X3):=by
  rw [Zlk rfl]
  unfold J3
  rw [Za q0,Zb,if_neg (by simp),Za q1,Zb,if_neg (by simp),Za q2]
  refine (ZK (vs:=[strv s,strv [c],.int .i64 0,iv ((s.count c+1 : Nat) : Int)]) (H':=X) ?_).trans ?_
  ·rw [Zb,if_pos rfl,Za e0,Za ZF,w1];rfl
  ·rw [ZJ,Za ZY,Za ZF,w2,Za hm,Za e1,Za Q0,w3]
   refine (ZK (vs:=[strv s',v,iv ((s.count c+1 - 1 : Nat) : Int)]) (H':=X2) ?_).trans ?_
   ·rw [QG e2,ZI,ZR];rfl
   ·rw [ZR,Za x1,Za x2,Za ZF,w4,Za x3];rfl
 refine ⟨X3,v',[X.length],?_,r4,(k1.more (s2.trans s3) ho).1⟩
 rw [R,Zp5 rfl]
 unfold ZfB
 rw [Za e3]
 rfl
end
end Go.Proofs.YtgfbgfafajiehaaGreatDoor.A
namespace Go.Proofs.YtgfbgfafajiehaaGreatDoor.A
set_option linter.unusedVariables false
set_option linter.unusedSimpArgs false
open Go.Proofs Go.Proofs.YtgfbgfafajiehaaGreatDoor
section
variable {H X : Zd} {n : Nat} {s f : List UInt8} {c : UInt8}
theorem ZDa {b : UInt8} : R (n+2) Zdy [u8v b] H=some (.bool (Zgk b),H):=by
 have e1 : run Tryz.prog np lvs (n+1) YO [u8v b] H=some (.bool (Zad b),H):=Zkq
 have e2 : run Tryz.prog np lvs (n+1) Kf [u8v b] H=some (.bool (ZcJ b),H):=Znd
 rw [R,ZtZ rfl]
 unfold Zgk Zi0
 rw [Za e1]
 cases Zad b
 ·rw [ZX,Zk,Za e2,Qi,QB,Za Zm]
  rfl
 ·rw [Za (g_r.trans (if_neg (by simp)))]
  simp only [List.replicate]
  rw [QB,Za Zm]
  rfl
theorem ZyM (hs : s.length≤1000000000) : R (n+3) Ka [strv s,.func (.func Zdy) #[] #[]] H=some (.bool (s.all Zgk),H):=
 Zy5 (fun b H=>by rw [Zvh];exact ZDa) hs
theorem ZAD {v : Value} {q : List Nat} {ls : List (List UInt8)} (hl : ls.length≤1000) (hb : ∀ l∈ls,l.length≤1000000) (hr : Zo X v (ls.map strv) q) : ∀ (t k : Nat),ls.length - k=t→k≤ls.length→
  Zi (c4 (Kn.l1 (R (n+3)))) [strv f,v,iv ls.length,iv k] X=some (if (ls.drop k).all ZsC then .ext 0 [strv f] else .ret (.tuple #[strv [],iv 11]),X)
 | 0,k,ht,hk=>by
  have : k=ls.length:=by omega
  subst this
  rw [List.drop_length]
  refine Qa ?_
  rw [ZJ]
  unfold Kn.l1
  rw [Za Zs,Zb,if_neg (by simp)]
  rfl
 | t+1,k,ht,hk=>by
  have hkl : k < ls.length:=by omega
  have hlt : (k : Int) < ls.length:=by omega
  have hg:=List.getElem?_eq_getElem hkl
  have hm:=List.getElem_mem hkl
  have hd:=List.drop_eq_getElem_cons hkl
  generalize ls[k]=l at hg hd hm
  have x1:=hr.ix (i:=k) (by simpa using hkl) .i64 X
  have x2:=hr.ldx (KM hg)
  have e1 : R (n+3) Ka [strv l,.func (.func Zdy) #[] #[]] X=some (.bool (l.all Zgk),X):=ZyM (Nat.le_trans (hb l hm) (by decide))
  have ih:=ZAD hl hb hr t (k+1) (by omega) (by omega)
  have q1 : bop .str .eql (strv l) (.string ⟨#[]⟩) X=some (.bool (l==[]),X):=Ziy (b:=[])
  have hb1 : c4 (Kn.l1 (R (n+3))) [strv f,v,iv ls.length,iv k] X=some (if ZsC l then .nrm [strv f,v,iv ls.length,iv ((k+1 : Nat) : Int)] else .ret (.tuple #[strv [],iv 11]),X):=by
   rw [ZJ]
   unfold Kn.l1 ZsC
   rw [Za Zs,Zb,if_pos (by simpa using hlt),Za x1,Za x2,Za q1]
   cases l==[]
   ·rw [ZX,Zk,Za e1,Zk,Za ZM,Qi,ZR,Za Zm]
    simp only [cond_false]
    cases l.all Zgk
    ·rw [Zb,if_pos (by rfl)];rfl
    ·rw [Zb,if_neg (by simp),Za ZF,Jd (by omega)];rfl
   ·rw [Za (g_r.trans (if_neg (by simp)))]
    simp only [List.replicate]
    rw [ZR,Za Zm]
    simp only [cond_true]
    rw [Zb,if_pos rfl]
    rfl
  rw [hd,List.all_cons]
  cases hlb : ZsC l
  ·rw [hlb] at hb1
   exact Yu hb1
  ·rw [hlb] at hb1
   rw [Bool.true_and]
   exact (ZL hb1).trans ih
theorem ZfH {c : UInt8} : ∀ {s : List UInt8},∀ l∈Q2 c s,l.length≤s.length
 | [],l,h=>by simp [Q2] at h;simp [h]
 | b :: s,l,h=>by
  rw [show Q2 c (b :: s)=(if b=c then [] :: Q2 c s else match Q2 c s with | h :: t=>(b :: h) :: t | []=>[[b]]) from rfl] at h
  split at h
  ·rcases List.mem_cons.1 h with rfl | h
   ·simp
   ·have:=ZfH l h
    simp;omega
  ·cases hsp : Q2 c s with
   | nil=>exact absurd hsp ZtK
   | cons a t=>
    rw [hsp] at h
    rcases List.mem_cons.1 h with rfl | h
    ·have:=ZfH (c:=c) (s:=s) a (by rw [hsp];simp)
     simpa using this
    ·have:=ZfH (c:=c) (s:=s) l (by rw [hsp];simp [h])
     simp;omega
theorem Zs8 : (Qy s).length=s.length:=by simp [Qy]
theorem Zqp : ∃ X',R (n+8) W0 [strv s] X=some (.tuple #[strv (if J2 s then Qy s else []),iv (if J2 s then 0 else 11)],X')∧HLe X X':=by
 have f1 : ∀ r X',Kn (R (n+7)) (strv s) X=some (r,X')→R (n+8) W0 [strv s] X=some (r,X'):=fun r X' hr=>by rw [R,ZwD rfl];exact hr
 unfold J2
 by_cases h20 : s.length≤20
 ·have q1 : bop .int .gtr (iv s.length) (.int .i64 20) X=some (.bool false,X):=by rw [Qg,decide_eq_false (by omega)]
  obtain ⟨X1,e1,k1⟩:=ZEp (n:=n+6) (s:=s) (H:=X) (by omega)
  have e1 : R (n+7) ZeP [strv s] X=_:=e1
  have hfl : (Qy s).length≤20:=by rw [Zs8];exact h20
  generalize Qy s=f at e1 hfl
  have e2 : R (n+7) Zay [strv f,strv [64]] X1=_:=ZFJ (n:=n+2) (c:=64) (by omega)
  obtain ⟨loc,e2'⟩ : ∃ loc : List UInt8,R (n+7) Zay [strv f,strv [64]] X1=some (.tuple #[strv loc,strv (Zbi f),.bool (decide (64∈f))],X1)∧(64∈f→loc=f.takeWhile (· !=64)):=by
   unfold Zbi
   by_cases h : 64∈f
   ·rw [if_pos h] at e2
    exact ⟨_,by rw [e2,if_pos h,decide_eq_true h],fun _=>rfl⟩
   ·rw [if_neg h] at e2
    exact ⟨_,by rw [e2,if_neg h,decide_eq_false h],fun h2=>absurd h2 h⟩
  obtain ⟨e2',hloc⟩:=e2'
  have hdl : (Zbi f).length≤20:=by unfold Zbi;split <;> simp;omega
  obtain ⟨X2,v,q,e3,r3,k3⟩:=ZDM (n:=n+1) (c:=46) (s:=Zbi f) (X:=X1) (by omega)
  have e3 : R (n+7) Zbu [strv (Zbi f),.string ⟨#[46]⟩] X1=_:=e3
  have e2'' : R (n+7) Zay [strv f,.string ⟨#[64]⟩] X1=_:=e2'
  have hcl : (Zbi f).count 46≤(Zbi f).length:=List.count_le_length
  have hsl:=Ze5 (c:=46) (s:=Zbi f)
  have hl : ZC v X2=some (iv (Q2 46 (Zbi f)).length,X2):=by have:=r3.rd.len (H':=X2);rwa [List.length_map] at this
  have e4 : R (n+7) Zai [strv loc] X2=some (.bool (Zt loc),X2):=Ztq (n:=n+3)
  have e5:=ZAD (n:=n+4) (f:=f) (ls:=Q2 46 (Zbi f)) (by omega) (fun l h=>Nat.le_trans (ZfH l h) (by omega)) r3 (Q2 46 (Zbi f)).length 0 (by omega) (by omega)
  rw [List.drop_zero] at e5
  have e5 : Zi (c4 (Kn.l1 (R (n+7)))) [strv f,v,iv (Q2 46 (Zbi f)).length,.int .i64 0] X2=_:=e5
  refine ⟨X2,f1 _ _ ?_,k1.trans k3⟩
  unfold Kn
  rw [Za ZY,Za q1,Zb,if_neg (by simp),Za e1,Za e2'']
  have t0 : Zn (.tuple #[strv loc,strv (Zbi f),.bool (decide (64∈f))]) 0 X1=some (strv loc,X1):=rfl
  have t1 : Zn (.tuple #[strv loc,strv (Zbi f),.bool (decide (64∈f))]) 1 X1=some (strv (Zbi f),X1):=rfl
  have t2 : Zn (.tuple #[strv loc,strv (Zbi f),.bool (decide (64∈f))]) 2 X1=some (.bool (decide (64∈f)),X1):=rfl
  rw [Za t0,Za t1,Za t2,Za e3,Za ZM]
  unfold okM
  rw [decide_eq_true h20]
  by_cases h : 64∈f
  ·rw [decide_eq_true h,← hloc h]
   simp only [Bool.not_true,Bool.true_and]
   rw [ZX,Zk,Za e4,Zk,Za ZM,Qi,ZR,Za Zm]
   simp only [cond_false]
   cases Zt loc
   ·simp only [Bool.not_false,Bool.false_and]
    rw [Za (g_r.trans (if_neg (by simp)))]
    simp only [List.replicate]
    rw [ZR,Za Zm]
    simp only [cond_true]
    rw [Zb,if_pos rfl]
    rfl
   ·simp only [Bool.not_true,Bool.true_and]
    rw [ZX,Zk,Za hl,Zk,Za Zs,Qi,ZR,Za Zm]
    simp only [cond_false]
    by_cases h2 : 2≤(Q2 46 (Zbi f)).length
    ·rw [decide_eq_false (by omega),Zb,if_neg (by simp),Za hl,decide_eq_true h2,Bool.true_and]
     cases ha : (Q2 46 (Zbi f)).all ZsC
     ·rw [ha] at e5
      rw [Ky e5]
      rfl
     ·rw [ha] at e5
      rw [QG e5,ZI]
      rfl
    ·rw [decide_eq_true (by omega),Zb,if_pos rfl,decide_eq_false h2]
     rfl
  ·rw [decide_eq_false h]
   simp only [Bool.not_false,Bool.false_and,Bool.and_false]
   rw [Za (g_r.trans (if_neg (by simp)))]
   simp only [List.replicate]
   rw [ZR,Za Zm]
   simp only [cond_true]
   rw [Za (g_r.trans (if_neg (by simp)))]
   simp only [List.replicate]
   rw [ZR,Za Zm]
   simp only [cond_true]
   rw [Zb,if_pos rfl]
   rfl
 ·have q1 : bop .int .gtr (iv s.length) (.int .i64 20) X=some (.bool true,X):=by rw [Qg,decide_eq_true (by omega)]
  refine ⟨X,f1 _ _ ?_,.refl _⟩
  unfold Kn
  rw [Za ZY,Za q1,Zb,if_pos rfl,decide_eq_false h20]
  rfl
end
end Go.Proofs.YtgfbgfafajiehaaGreatDoor.A

namespace Go.Proofs.YtgfbgfafajiehaaGreatDoor.A
set_option linter.unusedVariables false
set_option linter.unusedSimpArgs false
structure WK {α : Type} (enc : α→Value) (H : Zd) (id : Nat) (m : List (List UInt8 × α)) : Prop where
 ex : ∃ es clk,es.map kv=m.map (fun p=>(strv p.1,enc p.2))∧H[id]?=some (.map es clk)∧Zcb es clk
 nod : (m.map (·.1)).Nodup
section
variable {α : Type} {enc : α→Value} {H H' : Zd} {id : Nat} {m : List (List UInt8 × α)} {k : List UInt8} {v : α} {z : Value}
theorem WK.g (h : WK enc H id m) : Jz enc H id m:=by
 obtain ⟨es,clk,h1,h2,h3⟩:=h.ex
 exact ⟨⟨es,h1,.inl ⟨clk,h2,h3⟩⟩,h.nod⟩
theorem WK.lt (h : WK enc H id m) : id < H.length:=h.g.lt
theorem WK.keep (h : WK enc H id m) (hk : H'[id]?=H[id]?) : WK enc H' id m:=by
 obtain ⟨es,clk,h1,h2,h3⟩:=h.ex
 exact ⟨⟨es,clk,h1,by rw [hk];exact h2,h3⟩,h.nod⟩
theorem WK.hle (h : WK enc H id m) (hl : HLe H H') : WK enc H' id m:=h.keep (hl.step.keep id h.lt (by simp))
theorem WK.step {o1 o2 : List Nat} (h : WK enc H id m) (hs : Zu o1 H o2 H') (hn : id∉o1) : WK enc H' id m:=h.keep (hs.keep id h.lt hn)
theorem ZCM (H : Zd) : ∃ H',mkm H=some (.map (some H.length),H')∧WK enc H' H.length ([] : List (List UInt8 × α))∧HLe H H'∧H'.length=H.length+1:=
 ⟨_,rfl,⟨⟨[],0,rfl,Zp,⟨by simp,by simp⟩⟩,by simp⟩,.app _ _,by simp⟩
theorem WK.clone (h : WK enc H id m) : ∃ H',ZdG [.map (some id)] H=some (.map (some H.length),H')∧WK enc H' H.length m∧HLe H H'∧H'.length=H.length+1:=by
 obtain ⟨es,clk,h1,h2,h3⟩:=h.ex
 exact ⟨_,by unfold ZdG;simp only [h2],⟨⟨es,clk,h1,Zp,h3⟩,h.nod⟩,.app _ _,by simp⟩
theorem WK.mde (h : WK enc H id m) : ∃ H',A.mde .str (.map (some id)) (strv k) H=some (.tuple #[],H')∧WK enc H' id (Yi k m)∧Zu [id] H [id] H'∧H'.length=H.length:=by
 obtain ⟨es,clk,h1,h2,hs⟩:=h.ex
 have hst : ∀ o,Zu [id] H [id] (H.set id o):=fun o=>⟨by simp,fun j hj hn=>List.getElem?_set_ne (fun e=>hn (by simp [e])),fun j hj=>.inl hj⟩
 have hnod:=ZqQ (k:=k) h.nod
 rcases Zhl (k:=k) 0 h1 with ⟨h3,h4⟩ | ⟨j,v0,h3,h4,h5⟩
 ·refine ⟨H,?_,by rw [ZtA h3];exact h,.refl _ _,rfl⟩
  unfold A.mde
  simp only [h2,Zag,cond_true,h4]
 ·have ha : Yi k m=m.eraseIdx j:=(Zeq h.nod h3).symm
  rw [ha] at hnod ⊢
  rw [Nat.zero_add] at h5
  have hm : (es.eraseIdx j).map kv=(m.eraseIdx j).map fun p=>(strv p.1,enc p.2):=by
   have hg : ∀ {β γ : Type} (f : β→γ) (l : List β) (j : Nat),(l.eraseIdx j).map f=(l.map f).eraseIdx j:=fun f l j=>by
    rw [List.eraseIdx_eq_take_drop_succ,List.eraseIdx_eq_take_drop_succ,List.map_append,List.map_take,List.map_drop]
   rw [hg,hg,h1]
  refine ⟨H.set id (.map (es.eraseIdx j) clk),?_,⟨⟨_,clk,hm,Z8 h2,⟨fun e he=>hs.lt e ((List.eraseIdx_sublist es j).subset he),((List.eraseIdx_sublist es j).map _).nodup hs.nod⟩⟩,hnod⟩,hst _,by simp⟩
  unfold A.mde;simp only [h2,Zag,cond_true,h5]
theorem ZkM {es : List (Value × Value × Nat)} {j : Nat} {e : Value × Value × Nat} (hn : (es.map (·.2.2)).Nodup) (hj : es[j]?=some e) : es.findIdx? (fun x=>(x.2.2 : Int)==(e.2.2 : Nat))=some j:=by
 rw [List.findIdx?_eq_some_iff_getElem]
 have hlt:=(List.getElem?_eq_some_iff.1 hj).1
 have he:=(List.getElem?_eq_some_iff.1 hj).2
 refine ⟨hlt,by rw [he];simp,fun i hi=>?_⟩
 have hil : i < es.length:=by omega
 simp only [Bool.not_eq_true,beq_eq_false_iff_ne,ne_eq]
 intro h
 have h2 : es[i].2.2=e.2.2:=by omega
 have hp:=List.pairwise_iff_getElem.1 (List.nodup_iff_pairwise_ne.1 hn) i j (by simpa using hil) (by simpa using hlt) hi
 rw [List.getElem_map,List.getElem_map,he] at hp
 exact hp h2
theorem WK.put (h : WK enc H id m) : ∃ t st H1 H2,men .str z (.map (some id)) (strv k) H=some (t,H1)∧Zn t 1 H1=some (st,H1)∧ens (.map (some id)) st (enc v) H1=some (undef,H2)∧WK enc H2 id (Qo k v m)∧Zu [id] H [id] H1∧Zu [id] H [id] H2∧H2.length=H.length:=by
 obtain ⟨es,clk,h1,h2,hs⟩:=h.ex
 have hst : ∀ o,Zu [id] H [id] (H.set id o):=fun o=>⟨by simp,fun j hj hn=>List.getElem?_set_ne (fun e=>hn (by simp [e])),fun j hj=>.inl hj⟩
 have hst2 : ∀ o o',Zu [id] H [id] ((H.set id o).set id o'):=fun o o'=>⟨by simp,fun j hj hn=>by rw [List.getElem?_set_ne (fun e=>hn (by simp [e])),List.getElem?_set_ne (fun e=>hn (by simp [e]))],fun j hj=>.inl hj⟩
 have hnod:=ZqO (k:=k) (v:=v) h.nod
 rcases Zhl (k:=k) 0 h1 with ⟨h3,h4⟩ | ⟨j,v0,h3,h4,h5⟩
 ·have ha : Qo k v m=m++[(k,v)]:=by unfold Qo;rw [h3];rfl
  rw [ha] at hnod ⊢
  have hS : Zcb (es++[(strv k,z,clk)]) (clk+1):=⟨fun e he=>by
   rcases List.mem_append.1 he with he | he
   ·have:=hs.lt e he;omega
   ·have : e=(strv k,z,clk):=by simpa using he
    rw [this];exact Nat.lt_succ_self _,by
   rw [List.map_append,List.nodup_append]
   refine ⟨hs.nod,by simp,fun a ha b hb=>?_⟩
   have hb : b=clk:=by simpa using hb
   obtain ⟨e,he,rfl⟩:=List.mem_map.1 ha
   have:=hs.lt e he;omega⟩
  have hlen : es.length=m.length:=by have:=congrArg List.length h1;simpa using this
  have hget : (es++[(strv k,z,clk)])[es.length]?=some (strv k,z,clk):=by simp
  have hfi:=ZkM hS.nod hget
  have hgk : ((es++[(strv k,z,clk)]).map kv)[es.length]?=some (strv k,z):=by rw [List.getElem?_map,hget];rfl
  refine ⟨.tuple #[z,.int .i64 (clk : Nat)],.int .i64 (clk : Nat),H.set id (.map (es++[(strv k,z,clk)]) (clk+1)),(H.set id (.map (es++[(strv k,z,clk)]) (clk+1))).set id (.map (YC (es++[(strv k,z,clk)]) es.length (enc v)) (clk+1)),?_,rfl,?_,⟨⟨_,clk+1,?_,Z8 (Z8 h2),Zne hS⟩,hnod⟩,hst _,hst2 _ _,by simp⟩
  ·unfold men;simp only [h2,Zag,cond_true,h4]
  ·unfold ens
   simp only [Z8 h2,hfi]
  ·rw [Zj2 hgk,List.map_append,h1,List.map_append]
   have : es.length=(m.map fun p=>(strv p.1,enc p.2)).length:=by rw [List.length_map,hlen]
   rw [this]
   simp [kv]
 ·have ha : Qo k v m=m.set j (k,v):=by unfold Qo;rw [h4];exact (ZjP h.nod h3).symm
  rw [ha] at hnod ⊢
  rw [Nat.zero_add] at h5
  have hget : (es.map kv)[j]?=some (strv k,enc v0):=by rw [h1,List.getElem?_map,h3];rfl
  obtain ⟨e,he,hek⟩ : ∃ e,es[j]?=some e∧kv e=(strv k,enc v0):=by
   rw [List.getElem?_map] at hget
   cases hh : es[j]? with
   | none=>rw [hh] at hget;cases hget
   | some e=>rw [hh] at hget;exact ⟨e,rfl,by simpa using hget⟩
  have hfi:=ZkM hs.nod he
  have hgd : (es.getD j (undef,undef,0)).2.2=e.2.2:=by rw [List.getD_eq_getElem?_getD,he];rfl
  refine ⟨.tuple #[enc v0,.int .i64 (e.2.2 : Nat)],.int .i64 (e.2.2 : Nat),H,H.set id (.map (YC es j (enc v)) clk),?_,rfl,?_,⟨⟨_,clk,?_,Z8 h2,Zne hs⟩,hnod⟩,.refl _ _,hst _,by simp⟩
  ·unfold men;simp only [h2,Zag,cond_true,h5,hgd]
  ·unfold ens
   simp only [h2,hfi]
  ·rw [Zj2 hget,h1,List.map_set]
end
end Go.Proofs.YtgfbgfafajiehaaGreatDoor.A

namespace Go.Proofs.YtgfbgfafajiehaaGreatDoor.A
set_option linter.unusedVariables false
set_option linter.unusedSimpArgs false
open Go.Proofs Go.Proofs.YtgfbgfafajiehaaGreatDoor
structure Inv (OW OF : QH) : Prop where
 inv : ∀ k v,Zf k OF=some v↔Zf v OW=some k
 same : OW.length=OF.length
 lens : ∀ p∈OF,p.1≠[]∧p.1.length≤12∧p.2≠[]∧p.2.length≤20
def ZbU (k : List UInt8) (OW OF : QH) : QH:=match Zf k OF with
 | some m=>Yi m OW
 | none=>OW
def WF (k : List UInt8) (OF : QH) : QH:=match Zf k OF with
 | some _=>Yi k OF
 | none=>OF
section
variable {OW OF : QH} {k f : List UInt8}
theorem Inv.drop (h : Inv OW OF) (n1 : (OW.map (·.1)).Nodup) (n2 : (OF.map (·.1)).Nodup) : Inv (ZbU k OW OF) (WF k OF):=by
 unfold ZbU WF
 cases hk : Zf k OF with
 | none=>exact h
 | some m=>
  have hm:=(h.inv k m).1 hk
  refine ⟨fun j v=>?_,?_,fun p hp=>h.lens p (List.mem_filter.1 hp).1⟩
  ·by_cases hj : j=k
   ·subst hj
    rw [ZbN]
    constructor
    ·intro e;cases e
    ·intro e
     by_cases hv : v=m
     ·subst hv;rw [ZbN] at e;cases e
     ·rw [J7 hv,← h.inv] at e
      rw [hk] at e
      exact absurd (Option.some.inj e).symm hv
   ·rw [J7 hj]
    by_cases hv : v=m
    ·subst hv
     rw [ZbN,h.inv,hm]
     constructor
     ·intro e;exact absurd (Option.some.inj e).symm hj
     ·intro e;cases e
    ·rw [J7 hv,h.inv]
  ·rw [ZpV n1 (by rw [hm];rfl),ZpV n2 (by rw [hk];rfl),h.same]
theorem Inv.put (h : Inv OW OF) (h1 : Zf f OW=none) (h2 : Zf k OF=none) (hk : k≠[]∧k.length≤12) (hf : f≠[]∧f.length≤20) : Inv (Qo f k OW) (Qo k f OF):=by
 refine ⟨fun j v=>?_,?_,fun p hp=>?_⟩
 ·by_cases hj : j=k
  ·subst hj
   rw [Zac]
   by_cases hv : v=f
   ·subst hv;rw [Zac];simp
   ·rw [KY hv,← h.inv,h2]
    constructor
    ·intro e;exact absurd (Option.some.inj e).symm hv
    ·intro e;cases e
  ·rw [KY hj]
   by_cases hv : v=f
   ·subst hv
    rw [Zac,h.inv,h1]
    constructor
    ·intro e;cases e
    ·intro e;exact absurd (Option.some.inj e).symm hj
   ·rw [KY hv,h.inv]
 ·rw [ZcB,ZcB,h1,h2,h.same]
 ·unfold Qo at hp
  rw [h2] at hp
  simp only [Option.isSome_none,Bool.false_eq_true,if_false,List.mem_append,List.mem_singleton] at hp
  rcases hp with hp | rfl
  ·exact h.lens p hp
  ·exact ⟨hk.1,hk.2,hf.1,hf.2⟩
theorem Zc7 : Zf k (WF k OF)=none:=by
 unfold WF
 cases hk : Zf k OF with
 | none=>exact hk
 | some m=>exact ZbN
theorem Zrl (h : Inv OW OF) (hf : ∀ w,Zf f OW=some w→w=k) : Zf f (ZbU k OW OF)=none:=by
 unfold ZbU
 cases hk : Zf k OF with
 | none=>
  cases ho : Zf f OW with
  | none=>rfl
  | some w=>
   have:=hf w ho
   subst this
   rw [← h.inv,hk] at ho
   cases ho
 | some m=>
  by_cases hm : f=m
  ·subst hm;exact ZbN
  ·simp only
   rw [J7 hm]
   cases ho : Zf f OW with
   | none=>rfl
   | some w=>
    have:=hf w ho
    subst this
    rw [← h.inv,hk] at ho
    exact absurd (Option.some.inj ho).symm hm
theorem Zfw {j : List UInt8} (hj : j≠k) : Zf j (WF k OF)=Zf j OF:=by
 unfold WF
 cases hk : Zf k OF with
 | none=>rfl
 | some m=>exact J7 hj
def KC (k m : List UInt8) (OW : QH) : Int:=
 if Zt k then (if m=[] then 0 else if J2 m then (match Zf (Qy m) OW with
  | some w=>if w=k then 0 else 9
  | none=>0) else 11) else 10
def ZsT (k m : List UInt8) (OW OF : QH) : QH:=if KC k m OW=0 then (if m=[] then ZbU k OW OF else Qo (Qy m) k (ZbU k OW OF)) else OW
def Ze1 (k m : List UInt8) (OW OF : QH) : QH:=if KC k m OW=0 then (if m=[] then WF k OF else Qo k (Qy m) (WF k OF)) else OF
def Zhi (old next : List UInt8) (OF : QH) : Int:=
 if Zt next then (match Zf old OF with
  | some _=>if (Zf next OF).isSome && !(next==old) then 9 else 0
  | none=>8) else 10
def Zyz (old next : List UInt8) (OW OF : QH) : QH:=if Zhi old next OF=0 then Qo ((Zf old OF).getD []) next (ZbU old OW OF) else OW
def Zmc (old next : List UInt8) (OF : QH) : QH:=if Zhi old next OF=0 then Qo next ((Zf old OF).getD []) (WF old OF) else OF
theorem Zya (h : Zt k=true) : k≠[]∧k.length≤12:=by
 refine ⟨?_,KV h⟩
 rintro rfl
 revert h;decide
theorem Zjd {m : List UInt8} (h : J2 m=true) : Qy m≠[]∧(Qy m).length≤20:=by
 unfold J2 at h
 simp only [Bool.and_eq_true,decide_eq_true_eq] at h
 refine ⟨fun e=>?_,by rw [Zs8];exact h.1⟩
 have h2:=h.2
 rw [e] at h2
 revert h2;decide
end
structure Idx (X : Zd) (x o a : Nat) (OW OF : QH) : Prop where
 c : X[x]?=some (.cells [.map (some o),.map (some a)] 1 false false)
 ow : WK strv X o OW
 of : WK strv X a OF
 ne : o≠a
 inv : Inv OW OF
section
variable {X X' : Zd} {n x o a : Nat} {OW OF : QH} {k m : List UInt8}
theorem Idx.not (h : Idx X x o a OW OF) : x≠o∧x≠a:=by
 constructor
 ·rintro rfl
  obtain ⟨es,clk,_,h2,_⟩:=h.ow.ex
  rw [h.c] at h2;cases h2
 ·rintro rfl
  obtain ⟨es,clk,_,h2,_⟩:=h.of.ex
  rw [h.c] at h2;cases h2
theorem Idx.hle (h : Idx X x o a OW OF) (hl : HLe X X') : Idx X' x o a OW OF:=⟨hl _ _ h.c,h.ow.hle hl,h.of.hle hl,h.ne,h.inv⟩
theorem Idx.lt (h : Idx X x o a OW OF) : x < X.length∧o < X.length∧a < X.length:=⟨Z6 h.c,h.ow.lt,h.of.lt⟩
theorem Idx.step {o1 o2 : List Nat} (h : Idx X x o a OW OF) (hs : Zu o1 X o2 X') (h1 : x∉o1) (h2 : o∉o1) (h3 : a∉o1) : Idx X' x o a OW OF:=
 ⟨hs.get h.c h1,h.ow.step hs h2,h.of.step hs h3,h.ne,h.inv⟩
theorem Idx.l0 (h : Idx X x o a OW OF) : ld1 (pa x 0) X=some (.map (some o),X):=Zy h.c rfl
theorem Idx.l1 (h : Idx X x o a OW OF) : ld1 (pa x 1) X=some (.map (some a),X):=Zy h.c rfl
theorem ZsI {id : Nat} {mm : QH} (h : Jz strv X id mm) : lkp .str (.string ⟨#[]⟩) true (.map (some id)) (strv k) X=some (.tuple #[strv ((Zf k mm).getD []),.bool (Zf k mm).isSome],X):=by
 rw [h.lkp]
 cases Zf k mm <;> rfl
theorem Zu.mono2 {o1 o2 : List Nat} (h : Zu o1 X o1 X') (hs : ∀ j∈o1,j∈o2) : Zu o2 X o2 X':=h.more hs (fun j hj=>.inl hj)
theorem ZE6 : ∃ X' x o a,R (n+1) Zis [] X=some (pt x,X')∧Idx X' x o a [] []∧HLe X X'∧X.length≤x∧X.length≤o∧X.length≤a:=by
 obtain ⟨X1,e1,g1,l1,n1⟩:=ZCM (α:=List UInt8) (enc:=strv) X
 obtain ⟨X2,e2,g2,l2,n2⟩:=ZCM (α:=List UInt8) (enc:=strv) X1
 have e3 : bld (.agg #[.map none,.map none]) [(0,1,.map (some X.length)),(1,1,.map (some X1.length))] X2=some (.agg #[.map (some X.length),.map (some X1.length)],X2):=by simp [↓Z4,Z3,↓QE,Qk,Qj,Qm,↓Zb,JX,Zg,Yr,Qq,Ju,Qt,Jq,Js,QV,JC,QU,QZ,Q3,Q1,QL,Zm,ZM,Y8,YE,Jf,QM,JG,ZF,Q0,JZ,JW,JY,ZE,Zl,Zs,Jg,Qg,Qp,JB,J4,Jn,JQ,↓Y5,J1,↓g_r,YZ,YX,Zal,splice,Value.cells]
 have e4 : alc 1 (.agg #[.map (some X.length),.map (some X1.length)]) X2=some (pt X2.length,X2++[.cells [.map (some X.length),.map (some X1.length)] 1 false false]):=by
  rw [QZ];simp [Value.cells,oneCell]
 refine ⟨X2++[.cells [.map (some X.length),.map (some X1.length)] 1 false false],X2.length,X.length,X1.length,?_,⟨Zp,(g1.hle l2).hle (.app _ _),g2.hle (.app _ _),by omega,⟨fun k v=>by simp [Zf],rfl,by simp⟩⟩,(l1.trans l2).trans (.app _ _),by omega,Nat.le_refl _,by omega⟩
 rw [R,Zxg rfl]
 unfold Zmf
 rw [Za e1,Za e2,Za e3,Za e4]
 rfl
theorem Zni (h : Idx X x o a OW OF) : ∃ X',R (n+1) Jh [pt x,strv k] X=some (.bool (Zf k OF).isSome,X')∧Idx X' x o a (ZbU k OW OF) (WF k OF)∧Zu [o,a] X [o,a] X':=by
 have e1:=ZsI (k:=k) h.of.g
 have f1 : ∀ r X',Za5 (R n) (pt x) (strv k) X=some (r,X')→R (n+1) Jh [pt x,strv k] X=some (r,X'):=fun r X' hr=>by rw [R,Zn0 rfl];exact hr
 cases hk : Zf k OF with
 | none=>
  rw [hk] at e1
  simp only [Option.isSome_none,Option.getD_none] at e1 ⊢
  have hi : Idx X x o a (ZbU k OW OF) (WF k OF):=by unfold ZbU WF;rw [hk];exact h
  refine ⟨X,f1 _ _ ?_,hi,.refl _ _⟩
  unfold Za5
  rw [Za Zg,Za Zj,Za h.l1,Za e1,Za Zq,Za Zr]
  refine (ZK (vs:=[.bool false]) (H':=X) ?_).trans rfl
  rw [Zb,if_neg (by simp)]
  rfl
 | some mm=>
  rw [hk] at e1
  simp only [Option.isSome_some,Option.getD_some] at e1 ⊢
  obtain ⟨X1,e2,m2,s2,_⟩:=h.ow.mde (k:=mm)
  have of1:=h.of.step s2 (by simp [Ne.symm h.ne])
  have c1:=s2.get h.c (by simp [h.not.1])
  obtain ⟨X2,e3,m3,s3,_⟩:=of1.mde (k:=k)
  have s12:=(s2.mono2 (o2:=[o,a]) (by simp)).trans (s3.mono2 (o2:=[o,a]) (by simp))
  have hinv:=h.inv.drop (k:=k) h.ow.nod h.of.nod
  have hi : Idx X2 x o a (ZbU k OW OF) (WF k OF):=by
   unfold ZbU WF at hinv ⊢
   rw [hk] at hinv ⊢
   exact ⟨s3.get c1 (by simp [h.not.2]),m2.step s3 (by simp [h.ne]),m3,h.ne,hinv⟩
  refine ⟨X2,f1 _ _ ?_,hi,s12⟩
  have l0' : ld1 (pa x 0) X=some (.map (some o),X):=h.l0
  have l1' : ld1 (pa x 1) X1=some (.map (some a),X1):=Zy c1 rfl
  unfold Za5
  rw [Za Zg,Za Zj,Za h.l1,Za e1,Za Zq,Za Zr]
  refine (ZK (vs:=[.bool true]) (H':=X2) ?_).trans rfl
  rw [Zb,if_pos rfl,Za Zg,Za Zj,Za l0']
  refine (Za e2).trans ?_
  rw [Za Zg,Za Zj,Za l1',Za e3]
  rfl
theorem Zwo {f : List UInt8} (h : Idx X x o a OW OF) (h1 : Zf f OW=none) (h2 : Zf k OF=none) (hk : k≠[]∧k.length≤12) (hf : f≠[]∧f.length≤20) :
  ∃ X',(∀ K : M Value,bind (men .str (.string ⟨#[]⟩) (.map (some o)) (strv f)) (fun v60=>bind (Zn v60 1) fun v61=>bind (ens (.map (some o)) v61 (strv k)) fun _=>bind (men .str (.string ⟨#[]⟩) (.map (some a)) (strv k)) fun v62=>bind (Zn v62 1) fun v63=>bind (ens (.map (some a)) v63 (strv f)) fun _=>K) X=K X')∧Idx X' x o a (Qo f k OW) (Qo k f OF)∧Zu [o,a] X [o,a] X':=by
 obtain ⟨t1,st1,Y1,Y2,e1,e2,e3,m1,_,s1,_⟩:=h.ow.put (k:=f) (v:=k) (z:=.string ⟨#[]⟩)
 have of1:=h.of.step s1 (by simp [Ne.symm h.ne])
 have c1:=s1.get h.c (by simp [h.not.1])
 obtain ⟨t2,st2,Z1,Z2,e4,e5,e6,m2,_,s2,_⟩:=of1.put (k:=k) (v:=f) (z:=.string ⟨#[]⟩)
 refine ⟨Z2,fun K=>?_,⟨s2.get c1 (by simp [h.not.2]),m1.step s2 (by simp [h.ne]),m2,h.ne,h.inv.put h1 h2 hk hf⟩,(s1.mono2 (o2:=[o,a]) (by simp)).trans (s2.mono2 (o2:=[o,a]) (by simp))⟩
 rw [Za e1,Za e2,Za e3,Za e4,Za e5,Za e6]
theorem ZAi (h : Idx X x o a OW OF) : ∃ X',R (n+9) YV [pt x,strv k,strv m] X=some (iv (KC k m OW),X')∧Idx X' x o a (ZsT k m OW OF) (Ze1 k m OW OF)∧Zu [o,a] X [o,a] X':=by
 have f1 : ∀ r X',KF (R (n+8)) (pt x) (strv k) (strv m) X=some (r,X')→R (n+9) YV [pt x,strv k,strv m] X=some (r,X'):=fun r X' hr=>by rw [R,ZpE rfl];exact hr
 have e1 : R (n+8) QD [strv k] X=some (iv (ZA k),X):=Zcg (n:=n+3)
 have q1 : bop .str .eql (strv m) (.string ⟨#[]⟩) X=some (.bool (m==[]),X):=Ziy (b:=[])
 unfold KC ZsT Ze1 KC
 cases hn : Zt k
 ·have he : ZA k=10:=by unfold ZA;rw [hn];rfl
  refine ⟨X,f1 _ _ ?_,by simpa using h,.refl _ _⟩
  unfold KF
  rw [Za e1,he,Za Zl,Zb,if_pos (by rfl)]
  rfl
 ·have he : ZA k=0:=ZbO.2 hn
  by_cases hm0 : m=[]
  ·obtain ⟨X1,e2,i2,s2⟩:=Zni (n:=n+7) (k:=k) h
   have e2 : R (n+8) Jh [pt x,strv k] X=_:=e2
   refine ⟨X1,f1 _ _ ?_,by simpa [hm0] using i2,s2⟩
   unfold KF
   rw [Za e1,he,Za Zl,Zb,if_neg (by decide),Za q1,Zb,if_pos (by simp [hm0]),Za e2]
   simp [hm0,ret]
  ·obtain ⟨X1,e2,k2⟩:=Zqp (n:=n) (s:=m) (X:=X)
   have h1:=h.hle k2
   have ks:=k2.step.more (o2:=[o,a]) (o2':=[o,a]) (by simp) (fun j hj=>.inl hj)
   cases hmb : J2 m
   ·rw [hmb] at e2
    refine ⟨X1,f1 _ _ ?_,by simpa [hm0] using h1,ks⟩
    unfold KF
    rw [Za e1,he,Za Zl,Zb,if_neg (by decide),Za q1,Zb,if_neg (by simpa using hm0),Za e2,Za Zq,Za Zr]
    have q3 : bop .int .neq (iv (if false=true then 0 else 11)) (.int .i64 0) X1=some (.bool true,X1):=by rw [Zl];rfl
    rw [Za q3,Zb,if_pos rfl]
    simp [hm0,ret]
   ·rw [hmb] at e2
    simp only [if_true] at e2
    have e3:=ZsI (k:=Qy m) h1.ow.g
    have hfm:=Zjd hmb
    have hkn:=Zya hn
    have q3 : bop .int .neq (iv 0) (.int .i64 0) X1=some (.bool false,X1):=by rw [Zl];rfl
    simp only [if_true,if_neg hm0]
    have hgo : (∀ w,Zf (Qy m) OW=some w→w=k)→∃ X',R (n+9) YV [pt x,strv k,strv m] X=some (iv 0,X')∧Idx X' x o a (Qo (Qy m) k (ZbU k OW OF)) (Qo k (Qy m) (WF k OF))∧Zu [o,a] X [o,a] X':=fun hw=>by
     obtain ⟨X2,e4,i4,s4⟩:=Zni (n:=n+7) (k:=k) h1
     have e4 : R (n+8) Jh [pt x,strv k] X1=_:=e4
     obtain ⟨X3,e5,i5,s5⟩:=Zwo (k:=k) (f:=Qy m) i4 (Zrl h.inv hw) Zc7 hkn hfm
     refine ⟨X3,f1 _ _ ?_,i5,(ks.trans s4).trans s5⟩
     unfold KF
     rw [Za e1,he,Za Zl,Zb,if_neg (by decide),Za q1,Zb,if_neg (by simpa using hm0),Za e2,Za Zq,Za Zr,Za q3,Zb,if_neg (by simp),Za Zg,Za Zj,Za h1.l0,Za e3,Za Zq,Za Zr]
     cases ho : Zf (Qy m) OW with
     | none=>
      simp only [Option.isSome_none]
      rw [Za (g_r.trans (if_neg (by simp)))]
      simp only [List.replicate]
      rw [ZR,Za Zm]
      simp only [cond_false]
      rw [Zb,if_neg (by simp),Za e4,Za Zg,Za Zj,Za i4.l0,Za Zg,Za Zj,Za i4.l1]
      exact e5 _
     | some w=>
      have:=hw w ho
      subst this
      have q4 : bop .str .neq (strv w) (strv w) X1=some (.bool false,X1):=by rw [ZfO];simp
      simp only [Option.isSome_some,Option.getD_some]
      rw [ZX,Zk,Za q4,Qi,ZR,Za Zm]
      simp only [cond_true]
      rw [Zb,if_neg (by simp),Za e4,Za Zg,Za Zj,Za i4.l0,Za Zg,Za Zj,Za i4.l1]
      exact e5 _
    cases ho : Zf (Qy m) OW with
    | none=>simpa using hgo (fun w hw=>by rw [ho] at hw;cases hw)
    | some w=>
     by_cases hw : w=k
     ·simpa [hw] using hgo (fun w' hw'=>by rw [ho] at hw';cases hw';exact hw)
     ·simp only [if_neg hw]
      refine ⟨X1,f1 _ _ ?_,by simpa using h1,ks⟩
      have q4 : bop .str .neq (strv w) (strv k) X1=some (.bool true,X1):=by rw [ZfO,beq_eq_false_iff_ne.2 hw];rfl
      rw [ho] at e3
      simp only [Option.isSome_some,Option.getD_some] at e3
      unfold KF
      rw [Za e1,he,Za Zl,Zb,if_neg (by decide),Za q1,Zb,if_neg (by simpa using hm0),Za e2,Za Zq,Za Zr,Za q3,Zb,if_neg (by simp),Za Zg,Za Zj,Za h1.l0,Za e3,Za Zq,Za Zr,ZX,Zk,Za q4,Qi,ZR,Za Zm]
      simp only [cond_true]
      rw [Zb,if_pos rfl]
      rfl
theorem ZEt {old next : List UInt8} (h : Idx X x o a OW OF) : ∃ X',R (n+6) K3 [pt x,strv old,strv next] X=some (iv (Zhi old next OF),X')∧Idx X' x o a (Zyz old next OW OF) (Zmc old next OF)∧Zu [o,a] X [o,a] X':=by
 have f1 : ∀ r X',Y4 (R (n+5)) (pt x) (strv old) (strv next) X=some (r,X')→R (n+6) K3 [pt x,strv old,strv next] X=some (r,X'):=fun r X' hr=>by rw [R,Zk7 rfl];exact hr
 have e1 : R (n+5) QD [strv next] X=some (iv (ZA next),X):=Zcg
 have e2:=ZsI (k:=old) h.of.g
 have e3:=ZsI (k:=next) h.of.g
 unfold Zhi Zyz Zmc Zhi
 cases hn : Zt next
 ·have he : ZA next=10:=by unfold ZA;rw [hn];rfl
  refine ⟨X,f1 _ _ ?_,by simpa using h,.refl _ _⟩
  unfold Y4
  rw [Za e1,he,Za Zl,Zb,if_pos (by rfl)]
  rfl
 ·have he : ZA next=0:=ZbO.2 hn
  simp only [if_true]
  cases ho : Zf old OF with
  | none=>
   rw [ho] at e2
   simp only [Option.isSome_none,Option.getD_none] at e2
   refine ⟨X,f1 _ _ ?_,by simpa using h,.refl _ _⟩
   unfold Y4
   rw [Za e1,he,Za Zl,Zb,if_neg (by decide),Za Zg,Za Zj,Za h.l1,Za e2,Za Zq,Za Zr,Za Zg,Za Zj,Za h.l1,Za e3,Za Zq,Za Zr,Za ZM,Zb,if_pos (by rfl)]
   rfl
  | some mm=>
   rw [ho] at e2
   simp only [Option.isSome_some,Option.getD_some] at e2 ⊢
   have hml:=h.inv.lens (old,mm) (KN ho)
   have hmo:=(h.inv.inv old mm).1 ho
   have q4 : bop .str .neq (strv next) (strv old) X=some (.bool (!(next==old)),X):=ZfO
   have hpk : ∀ K : Value→M Value,bind (gate (.bool (Zf next OF).isSome) true 3 (bind (bop .str .neq (strv next) (strv old)) fun v43x16=>ret [strv next,strv old,v43x16])) (c3 fun _ _ q17_2=>bind (pick (.bool (Zf next OF).isSome) q17_2 (Value.bool false)) K) X=K (.bool ((Zf next OF).isSome && !(next==old))) X:=fun K=>by
    cases (Zf next OF).isSome
    ·rw [Za (g_r.trans (if_neg (by simp)))]
     simp only [List.replicate]
     rw [ZR,Za Zm]
     rfl
    ·rw [ZX,Zk,Za q4,Qi,ZR,Za Zm]
     rfl
   cases ht : (Zf next OF).isSome && !(next==old)
   ·rw [ht] at hpk
    simp only [Bool.false_eq_true,if_false,if_true]
    obtain ⟨X2,e4,i4,s4⟩:=Zni (n:=n+4) (k:=old) h
    have e4 : R (n+5) Jh [pt x,strv old] X=_:=e4
    have hnn : Zf next (WF old OF)=none:=by
     by_cases hno : next=old
     ·subst hno;exact Zc7
     ·rw [Zfw hno]
      have h5 : (next==old)=false:=beq_eq_false_iff_ne.2 hno
      rw [h5] at ht
      cases hx : Zf next OF with
      | none=>rfl
      | some y=>rw [hx] at ht;simp at ht
    obtain ⟨X3,e5,i5,s5⟩:=Zwo (k:=next) (f:=mm) i4 (Zrl h.inv (fun w hw=>by rw [hmo] at hw;exact (Option.some.inj hw).symm)) hnn (Zya hn) ⟨hml.2.2.1,hml.2.2.2⟩
    refine ⟨X3,f1 _ _ ?_,i5,s4.trans s5⟩
    unfold Y4
    rw [Za e1,he,Za Zl,Zb,if_neg (by decide),Za Zg,Za Zj,Za h.l1,Za e2,Za Zq,Za Zr,Za Zg,Za Zj,Za h.l1,Za e3,Za Zq,Za Zr,Za ZM,Zb,if_neg (by simp)]
    refine (hpk _).trans ?_
    rw [Zb,if_neg (by simp),Za e4,Za Zg,Za Zj,Za i4.l0,Za Zg,Za Zj,Za i4.l1]
    exact e5 _
   ·rw [ht] at hpk
    simp only [if_true]
    refine ⟨X,f1 _ _ ?_,by simpa using h,.refl _ _⟩
    unfold Y4
    rw [Za e1,he,Za Zl,Zb,if_neg (by decide),Za Zg,Za Zj,Za h.l1,Za e2,Za Zq,Za Zr,Za Zg,Za Zj,Za h.l1,Za e3,Za Zq,Za Zr,Za ZM,Zb,if_neg (by simp)]
    refine (hpk _).trans ?_
    rw [Zb,if_pos rfl]
    rfl
theorem ZFn (h : Idx X x o a OW OF) : R (n+1) Zb5 [pt x,strv k] X=some (.tuple #[strv ((Zf k OF).getD []),.bool (Zf k OF).isSome],X):=by
 have e1:=ZsI (k:=k) h.of.g
 rw [R,Zq1 rfl]
 unfold Zgz
 rw [Za Zg,Za Zj,Za h.l1,Za e1,Za Zq,Za Zr]
 rfl
def ZcG (m : List UInt8) (OW : QH) : Int:=if J2 m then (if (Zf (Qy m) OW).isSome then 0 else 8) else 11
def ZiE (m : List UInt8) (OW : QH) : List UInt8:=if J2 m then (Zf (Qy m) OW).getD [] else []
theorem ZDR (h : Idx X x o a OW OF) : ∃ X',R (n+9) Za7 [pt x,strv m] X=some (.tuple #[strv (ZiE m OW),iv (ZcG m OW)],X')∧HLe X X':=by
 obtain ⟨X1,e2,k2⟩:=Zqp (n:=n) (s:=m) (X:=X)
 have f1 : ∀ r X',Zct (R (n+8)) (pt x) (strv m) X=some (r,X')→R (n+9) Za7 [pt x,strv m] X=some (r,X'):=fun r X' hr=>by rw [R,Zoh rfl];exact hr
 have h1:=h.hle k2
 refine ⟨X1,f1 _ _ ?_,k2⟩
 unfold Zct ZcG ZiE
 cases hmb : J2 m
 ·rw [hmb] at e2
  have q3 : bop .int .neq (iv (if false=true then 0 else 11)) (.int .i64 0) X1=some (.bool true,X1):=by rw [Zl];rfl
  rw [Za e2,Za Zq,Za Zr,Za q3,Zb,if_pos rfl]
  rfl
 ·rw [hmb] at e2
  simp only [if_true] at e2
  have e3:=ZsI (k:=Qy m) h1.ow.g
  have q3 : bop .int .neq (iv 0) (.int .i64 0) X1=some (.bool false,X1):=by rw [Zl];rfl
  rw [Za e2,Za Zq,Za Zr,Za q3,Zb,if_neg (by simp),Za Zg,Za Zj,Za h1.l0,Za e3,Za Zq,Za Zr,Za ZM]
  cases Zf (Qy m) OW with
  | none=>simp [Zb,ret];rfl
  | some w=>simp [Zb,ret]
end
end Go.Proofs.YtgfbgfafajiehaaGreatDoor.A
namespace Go.Proofs.YtgfbgfafajiehaaGreatDoor.A
set_option linter.unusedVariables false
set_option linter.unusedSimpArgs false
open Go.Proofs Go.Proofs.YtgfbgfafajiehaaGreatDoor
section
variable {H X X' : Zd} {n x o a : Nat} {OW OF : QH} {k m : List UInt8}
end
end Go.Proofs.YtgfbgfafajiehaaGreatDoor.A
namespace Go.Proofs.YtgfbgfafajiehaaGreatDoor.A
set_option linter.unusedVariables false
set_option linter.unusedSimpArgs false
open Go.Proofs Go.Proofs.YtgfbgfafajiehaaGreatDoor
section
variable {n : Nat}
variable {X : Zd} {x o a : Nat} {OW OF : QH}
end
end Go.Proofs.YtgfbgfafajiehaaGreatDoor.A

namespace Go.Proofs.YtgfbgfafajiehaaGreatDoor.A
set_option linter.unusedVariables false
set_option linter.unusedSimpArgs false
open Go.Proofs Go.Proofs.YtgfbgfafajiehaaGreatDoor
abbrev Acc:=Tx × Bool
def Zau (p : Acc) : Value:=.agg #[strv p.1,.bool p.2]
abbrev AMp:=List (Tx × Acc)
structure NSt where
 A : AMp
 OW : QH
 OF : QH
 K : List Tx
 mem : Mem
structure JJ (s : NSt) : Prop where
 nm : ∀ p∈s.A,Zt p.1=true∧Kr p.2.1=true
 few : s.A.length≤12
 ofA : ∀ n,(Zf n s.OF).isSome=true→(Zf n s.A).isSome=true
 memA : ∀ k n,s.mem k n=true→(Zf n s.A).isSome=true
 good : ∀ n m,Zf n s.OF=some m→J2 m=true∧Qy m=m
structure NR where
 b : Nat
 x : Nat
 o : Nat
 a : Nat
 g : Nat
 o2 : Nat
 G : ZjM
def NR.own (r : NR) : List Nat:=r.b :: r.o :: r.a :: Q7 r.o2 r.G
structure ND0 (X : Zd) (d : Nat) (r : NR) (s : NSt) (c : Nat) : Prop where
 cell : X[d]?=some (.cells [.map (some r.b),pt r.x,pt r.g] 1 false false)
 m : Jz Zau X r.b s.A
 ix : Idx X r.x r.o r.a s.OW s.OF
 gr : Grp X r.g r.o2 r.G s.mem c
 ks : ZN r.G=s.K
 dis : r.b≠r.o∧r.b≠r.a∧r.b∉Q7 r.o2 r.G∧r.o∉Q7 r.o2 r.G∧r.a∉Q7 r.o2 r.G
structure ND (X : Zd) (d : Nat) (r : NR) (s : NSt) (c : Nat) : Prop extends ND0 X d r s c where
 inv : JJ s
def Zbr (s : NSt) (n : Tx) (p : Acc) : ZaM:=(n,p.1,(Zf n s.OF).getD [],p.2,ofL n s.K s.mem)
def Yx (s : NSt) (n : Tx) : Option ZaM:=(Zf n s.A).map (Zbr s n)
def ZG (n : Tx) (A : AMp) : Int:=if Zt n then (if (Zf n A).isSome then 0 else 8) else 10
theorem ZqD {n : Tx} {A : AMp} (h : ZG n A=0) : Zt n=true∧∃ p,Zf n A=some p:=by
 unfold ZG at h
 cases hn : Zt n
 ·rw [hn] at h;simp at h
 ·rw [hn] at h
  cases ha : Zf n A with
  | none=>rw [ha] at h;simp at h
  | some p=>exact ⟨rfl,p,rfl⟩
section
variable {X X' : Zd} {n d c : Nat} {r : NR} {s : NSt} {k : Tx}
theorem Jz.isMap {α : Type} {enc : α→Value} {id : Nat} {mm : List (Tx × α)} (hm : Jz enc X id mm) : id < X.length∧∀ cs es gr ro,X[id]?≠some (.cells cs es gr ro):=⟨hm.lt,fun cs es gr ro e=>by
 obtain ⟨es',_,h1 | h1⟩:=hm.ex
 ·obtain ⟨clk,h1,_⟩:=h1;rw [e] at h1;cases h1
 ·rw [e] at h1;cases h1⟩
theorem ND0.isMap (h : ND0 X d r s c) {j : Nat} (hj : j∈r.own) : j < X.length∧∀ cs es gr ro,X[j]?≠some (.cells cs es gr ro):=by
 unfold NR.own at hj
 rcases List.mem_cons.1 hj with rfl | hj
 ·exact h.m.isMap
 ·rcases List.mem_cons.1 hj with rfl | hj
  ·exact h.ix.ow.g.isMap
  ·rcases List.mem_cons.1 hj with rfl | hj
   ·exact h.ix.of.g.isMap
   ·exact h.gr.isMap hj
theorem ND0.dnot (h : ND0 X d r s c) : d∉r.own:=fun hj=>(h.isMap hj).2 _ _ _ _ h.cell
theorem ND0.xnot (h : ND0 X d r s c) : r.x∉r.own:=fun hj=>(h.isMap hj).2 _ _ _ _ h.ix.c
theorem ND0.gnot (h : ND0 X d r s c) : r.g∉r.own:=fun hj=>(h.isMap hj).2 _ _ _ _ h.gr.cell
theorem ND0.step {o1 o2 : List Nat} (h : ND0 X d r s c) (hs : Zu o1 X o2 X') (hd : d∉o1) (hx : r.x∉o1) (hg : r.g∉o1) (ho : ∀ j∈r.own,j∉o1) : ND0 X' d r s c:=
 ⟨hs.get h.cell hd,h.m.step hs (ho _ (by simp [NR.own])),h.ix.step hs hx (ho _ (by simp [NR.own])) (ho _ (by simp [NR.own])),h.gr.step hs hg (fun j hj=>ho j (by
  unfold NR.own
  exact List.mem_cons_of_mem _ (List.mem_cons_of_mem _ (List.mem_cons_of_mem _ hj)))),h.ks,h.dis⟩
theorem ND0.hle (h : ND0 X d r s c) (hl : HLe X X') : ND0 X' d r s c:=h.step hl.step (by simp) (by simp) (by simp) (by simp)
theorem ND0.l0 (h : ND0 X d r s c) : ld1 (pa d 0) X=some (.map (some r.b),X):=Zy h.cell rfl
theorem ND0.l1 (h : ND0 X d r s c) : ld1 (pa d 1) X=some (pt r.x,X):=Zy h.cell rfl
theorem ND0.l2 (h : ND0 X d r s c) : ld1 (pa d 2) X=some (pt r.g,X):=Zy h.cell rfl
theorem ND.step {o1 o2 : List Nat} (h : ND X d r s c) (hs : Zu o1 X o2 X') (hd : d∉o1) (hx : r.x∉o1) (hg : r.g∉o1) (ho : ∀ j∈r.own,j∉o1) : ND X' d r s c:=⟨h.toND0.step hs hd hx hg ho,h.inv⟩
theorem ND.hle (h : ND X d r s c) (hl : HLe X X') : ND X' d r s c:=⟨h.toND0.hle hl,h.inv⟩
def CLe (X X' : Zd) : Prop:=∀ (i : Nat) (cs : List Value) (es : Nat) (g ro : Bool),X[i]?=some (Ze.cells cs es g ro)→X'[i]?=some (Ze.cells cs es g ro)
theorem CLe.trans {Y : Zd} (h : CLe X X') (h' : CLe X' Y) : CLe X Y:=fun i cs es g ro hi=>h' i _ _ _ _ (h i _ _ _ _ hi)
theorem Zu.cle {o1 o2 : List Nat} (hs : Zu o1 X o2 X') (hm : ∀ j∈o1,∀ cs es g ro,X[j]?≠some (Ze.cells cs es g ro)) : CLe X X':=fun i cs es g ro hi=>hs.get hi fun hj=>hm i hj _ _ _ _ hi
theorem ND0.cle {o2 : List Nat} (h : ND0 X d r s c) (hs : Zu r.own X o2 X') : CLe X X':=hs.cle fun j hj=>(h.isMap hj).2
theorem Sl.cle {sl : Value} {vs : List Value} (h : Sl X sl vs) (hc : CLe X X') : Sl X' sl vs:=by
 obtain ⟨a,c,rfl,h0,h⟩:=h
 refine ⟨a,c,rfl,h0,?_⟩
 unfold Qu at h ⊢
 split at h
 ·exact h
 ·rename_i id o n x _
  split at h
  ·rename_i cs es g ro hid
   simp only [hc _ _ _ _ _ hid];exact h
  ·cases h
 ·exact h
 ·rename_i e;cases e
 ·cases h
theorem ZFS {k : Tx} {t : Bool} {H : Zd} : bld (.agg #[.string ⟨#[]⟩,.bool false]) [(0,1,strv k),(1,1,.bool t)] H=some (Zau (k,t),H):=by
 simp [bld,Zal,Value.cells,YX,strv,splice,Zau]
theorem ZDo (X : Zd) : JJ ⟨[],[],[],[],fun _ _=>false⟩:=⟨by simp,by simp,by simp [Zf],by simp,by simp [Zf]⟩
theorem ZFb : ∃ X' d r,R (n+2) ZeM [] X=some (pt d,X')∧ND X' d r ⟨[],[],[],[],fun _ _=>false⟩ 0∧HLe X X'∧X.length≤d∧∀ j∈r.own,X.length≤j:=by
 obtain ⟨X1,e1,m1,k1⟩:=ZuE (α:=Acc) (enc:=Zau) X
 have hl1 : X.length < X1.length:=m1.lt
 obtain ⟨X2,x,o,a,e2,i2,k2,o21,o22,o23⟩:=ZE6 (n:=n) (X:=X1)
 obtain ⟨X3,g,o2,e3,g3,k3,o31,o32⟩:=ZEN (n:=n) (X:=X2)
 have hi:=i2.lt
 have e4 : bld (.agg #[.map none,.pointer none,.pointer none]) [(0,1,.map (some X.length)),(1,1,pt x),(2,1,pt g)] X3=some (.agg #[.map (some X.length),pt x,pt g],X3):=by
  simp [bld,Zal,Value.cells,YX,splice]
 have e5 : alc 1 (.agg #[.map (some X.length),pt x,pt g]) X3=some (pt X3.length,X3++[.cells [.map (some X.length),pt x,pt g] 1 false false]):=Zir (vs:=[.map (some X.length),pt x,pt g]) rfl
 have k4 : HLe X3 (X3++[Ze.cells [.map (some X.length),pt x,pt g] 1 false false]):=.app _ _
 refine ⟨_,X3.length,⟨X.length,x,o,a,g,o2,[]⟩,?_,⟨⟨Zp,((m1.hle k2).hle k3).hle k4,(i2.hle k3).hle k4,g3.hle k4,rfl,⟨by simp only;omega,by simp only;omega,?_,?_,?_⟩⟩,ZDo X⟩,((k1.trans k2).trans k3).trans k4,?_,?_⟩
 ·rw [R,Zww rfl]
  unfold ZjY
  rw [Za e1,Za e2,Za e3,Za e4,Za e5]
  rfl
 ·simp only [Q7,List.map_nil,List.mem_singleton]
  have:=k2.len;omega
 ·simp only [Q7,List.map_nil,List.mem_singleton]
  omega
 ·simp only [Q7,List.map_nil,List.mem_singleton]
  omega
 ·have:=k1.len;have:=k2.len;have:=k3.len;omega
 ·intro j hj
  have:=k1.len;have:=k2.len
  simp only [NR.own,Q7,List.map_nil,List.mem_cons,List.not_mem_nil,or_false] at hj
  omega
theorem ZxO (h : ND X d r s c) : ∃ X',R (n+6) Qr [pt d,strv k] X=some (.tuple #[Zau (if Zt k then (Zf k s.A).getD ([],false) else ([],false)),iv (ZG k s.A)],X')∧HLe X X':=by
 have one : ∀ p : Acc,([strv p.1,.bool p.2] : List Value).all oneCell=true:=fun _=>rfl
 have z1 : alc 1 (.agg #[.string ⟨#[]⟩,.bool false]) X=some (pt X.length,X++[.cells [strv [],.bool false] 1 false false]):=Zir (vs:=[strv [],.bool false]) rfl
 have k1 : HLe X (X++[Ze.cells [strv [],.bool false] 1 false false]):=.app _ _
 have c1 : (X++[Ze.cells [strv [],.bool false] 1 false false])[X.length]?=some (.cells [strv [],.bool false] 1 false false):=Zp
 have ll1 : X.length < (X++[Ze.cells [strv [],.bool false] 1 false false]).length:=by simp
 generalize X++[Ze.cells [strv [],.bool false] 1 false false]=X1 at z1 k1 c1 ll1
 have h1:=h.hle k1
 have e1 : R (n+5) QD [strv k] X1=_:=Zcg
 have f1 : ∀ v X',Wp (R (n+5)) (pt d) (strv k) X=some (v,X')→R (n+6) Qr [pt d,strv k] X=some (v,X'):=fun v X' hr=>by rw [R,Zl7 rfl];exact hr
 have fin : ∀ (p : Acc) (Y : Zd) (K : Value→M Value),Y[X.length]?=some (.cells [strv [],.bool false] 1 false false)→bind (stA 2 (pt X.length) (Zau p)) (fun _=>bind (ldA 2 (pt X.length)) K) Y=K (Zau p) (Y.set X.length (.cells [strv p.1,.bool p.2] 1 false false)):=fun p Y K hY=>by
  have w:=Zb7 (vs:=[strv p.1,.bool p.2]) (n:=2) hY rfl rfl rfl
  have w : stA 2 (pt X.length) (Zau p) Y=_:=w
  have l : ldA 2 (pt X.length) (Y.set X.length (.cells [strv p.1,.bool p.2] 1 false false))=some (Zau p,_):=Qe (n:=2) (Z8 hY) rfl
  rw [Za w,Za l]
 have put : ∀ {Y : Zd} {o : Ze},HLe X Y→HLe X (Y.set X.length o):=fun hl i v hi=>by
  have:=Z6 hi
  rw [List.getElem?_set_ne (by omega)]
  exact hl i v hi
 cases hnm : Zt k
 ·have he : ZG k s.A=10:=by unfold ZG;rw [hnm];rfl
  have q1 : bop .int .neq (iv (ZA k)) (.int .i64 0) X1=some (.bool true,X1):=by rw [Zl];unfold ZA;rw [hnm];rfl
  have zb : bld (.agg #[.string ⟨#[]⟩,.bool false]) [] X1=some (Zau ([],false),X1):=rfl
  rw [he]
  refine ⟨X1.set X.length (.cells [strv [],.bool false] 1 false false),f1 _ _ ?_,put k1⟩
  unfold Wp
  rw [Za z1,Za e1,Za q1,Zb,if_pos rfl,Za zb]
  refine (fin _ _ _ c1).trans ?_
  rw [show ZA k=10 by unfold ZA;rw [hnm];rfl]
  rfl
 ·have q1 : bop .int .neq (iv (ZA k)) (.int .i64 0) X1=some (.bool false,X1):=by rw [Zl];unfold ZA;rw [hnm];rfl
  have e2 : lkp .str (.agg #[.string ⟨#[]⟩,.bool false]) true (.map (some r.b)) (strv k) X1=some (.tuple #[Zau ((Zf k s.A).getD ([],false)),.bool (Zf k s.A).isSome],X1):=by
   rw [h1.m.lkp]
   cases Zf k s.A <;> rfl
  generalize hv : (Zf k s.A).getD ([],false)=p at e2
  have z2 : ∀ K : Value→M Value,bind (alc 1 (.agg #[.string ⟨#[]⟩,.bool false])) (fun q=>bind (stA 2 q (Zau p)) fun _=>K q) X1=K (pt X1.length) (X1++[.cells [strv p.1,.bool p.2] 1 false false]):=fun K=>ZaF (n:=2) (zs:=[strv [],.bool false]) (r:=[strv p.1,.bool p.2]) rfl rfl rfl rfl
  have k2 : HLe X1 (X1++[Ze.cells [strv p.1,.bool p.2] 1 false false]):=.app _ _
  have c2 : (X1++[Ze.cells [strv p.1,.bool p.2] 1 false false])[X1.length]?=some (.cells [strv p.1,.bool p.2] 1 false false):=Zp
  have c12:=k2 _ _ c1
  generalize X1++[Ze.cells [strv p.1,.bool p.2] 1 false false]=X2 at z2 k2 c2 c12
  have d2 : ldA 2 (pt X1.length) X2=some (Zau p,X2):=Qe (n:=2) c2 rfl
  have zb : bld (.agg #[.string ⟨#[]⟩,.bool false]) [] X2=some (Zau ([],false),X2):=rfl
  cases hs : (Zf k s.A).isSome
  ·have he : ZG k s.A=8:=by unfold ZG;rw [hnm,hs];rfl
   have hp : p=([],false):=by
    rw [← hv]
    cases ha : Zf k s.A with
    | none=>rfl
    | some v=>rw [ha] at hs;cases hs
   rw [hs] at e2
   rw [he]
   refine ⟨X2.set X.length (.cells [strv [],.bool false] 1 false false),f1 _ _ ?_,put (k1.trans k2)⟩
   unfold Wp
   rw [Za z1,Za e1,Za q1,Zb,if_neg (by simp),Za Zg,Za Zj,Za h1.l0,Za e2,Za Zq,Za Zr,z2,Za ZM,Zb,if_pos (by rfl),Za zb]
   refine (fin _ _ _ c12).trans ?_
   rw [hp]
   rfl
  ·have he : ZG k s.A=0:=by unfold ZG;rw [hnm,hs];rfl
   rw [hs] at e2
   rw [he]
   refine ⟨X2.set X.length (.cells [strv p.1,.bool p.2] 1 false false),f1 _ _ ?_,put (k1.trans k2)⟩
   unfold Wp
   rw [Za z1,Za e1,Za q1,Zb,if_neg (by simp),Za Zg,Za Zj,Za h1.l0,Za e2,Za Zq,Za Zr,z2,Za ZM,Zb,if_neg (by simp),Za d2]
   exact fin _ _ _ c12
theorem Zto (h : ND X d r s c) : ∃ u q X',R (n+7) Kx [pt d,strv k] X=some (.tuple #[.agg u.cells.toArray,iv (ZG k s.A)],X')∧Zo X' u.gv (u.gs.map strv) q∧(∀ j∈q,X.length≤j)∧HLe X X'∧u.gs.length≤6∧
  JN u=if ZG k s.A=0 then Zbr s k ((Zf k s.A).getD ([],false)) else ([],[],[],false,[]):=by
 have z1 : alc 1 (.agg #[.string ⟨#[]⟩,.string ⟨#[]⟩,.string ⟨#[]⟩,.bool false,.slice none 0 0]) X=some (pt X.length,X++[.cells (usr ([],[])) 1 false false]):=Zir (vs:=usr ([],[])) rfl
 have k1 : HLe X (X++[Ze.cells (usr ([],[])) 1 false false]):=.app _ _
 have c1 : (X++[Ze.cells (usr ([],[])) 1 false false])[X.length]?=some (.cells (usr ([],[])) 1 false false):=Zp
 generalize X++[Ze.cells (usr ([],[])) 1 false false]=X1 at z1 k1 c1
 obtain ⟨X2,e2,k2⟩:=ZxO (n:=n) (k:=k) (h.hle k1)
 have f1 : ∀ v X',ZaA (R (n+6)) (pt d) (strv k) X=some (v,X')→R (n+7) Kx [pt d,strv k] X=some (v,X'):=fun v X' hr=>by rw [R,Zmi rfl];exact hr
 generalize hp : (if Zt k then (Zf k s.A).getD ([],false) else ([],false))=p at e2
 have z2 : ∀ K : Value→M Value,bind (alc 1 (.agg #[.string ⟨#[]⟩,.bool false])) (fun q=>bind (stA 2 q (Zau p)) fun _=>K q) X2=K (pt X2.length) (X2++[.cells [strv p.1,.bool p.2] 1 false false]):=fun K=>ZaF (n:=2) (zs:=[strv [],.bool false]) (r:=[strv p.1,.bool p.2]) rfl rfl rfl rfl
 have k3 : HLe X2 (X2++[Ze.cells [strv p.1,.bool p.2] 1 false false]):=.app _ _
 have c3 : (X2++[Ze.cells [strv p.1,.bool p.2] 1 false false])[X2.length]?=some (.cells [strv p.1,.bool p.2] 1 false false):=Zp
 have hlx : X.length < X2.length:=by have:=Z6 c1;have:=k2.len;omega
 generalize X2++[Ze.cells [strv p.1,.bool p.2] 1 false false]=X3 at z2 k3 c3
 have c13:=k3 _ _ (k2 _ _ c1)
 have k13:=(k1.trans k2).trans k3
 have put : ∀ {Y : Zd} {o : Ze},HLe X Y→HLe X (Y.set X.length o):=fun hl i v hi=>by
  have:=Z6 hi
  rw [List.getElem?_set_ne (by omega)]
  exact hl i v hi
 by_cases he : ZG k s.A=0
 ·obtain ⟨hnm,q0,hq0⟩:=ZqD he
  have hpq : p=q0:=by rw [← hp,hnm,hq0];rfl
  subst hpq
  have q1 : bop .int .neq (iv (ZG k s.A)) (.int .i64 0) X3=some (.bool false,X3):=by rw [Zl,he];rfl
  have h3:=h.hle k13
  have e4 : R (n+6) Zb5 [pt r.x,strv k] X3=_:=ZFn (n:=n+5) h3.ix
  have a0 : ∀ Y,HLe X3 Y→ld1 (pa X2.length 0) Y=some (strv p.1,Y):=fun Y hl=>Zy (hl _ _ c3) rfl
  have a1 : ∀ Y,HLe X3 Y→ld1 (pa X2.length 1) Y=some (.bool p.2,Y):=fun Y hl=>Zy (hl _ _ c3) rfl
  obtain ⟨gv,q,X4,e5,r5,k5,o5⟩:=ZuF (n:=n+2) (m:=k) h3.gr
  have e5 : R (n+6) JE [pt r.g,strv k] X3=_:=e5
  rw [h.ks] at r5
  have hfew : (ofL k s.K s.mem).length≤6:=by
   have h1:=Zjb (m:=k) (K:=s.K) (mem:=s.mem)
   have h2:=h.gr.few
   have h3 : s.K.length=r.G.length:=by rw [← h.ks];simp
   omega
  have hone:=r5.one
  have zb : bld (.agg #[.string ⟨#[]⟩,.string ⟨#[]⟩,.string ⟨#[]⟩,.bool false,.slice none 0 0]) [(0,1,strv k),(1,1,strv p.1),(2,1,strv ((Zf k s.OF).getD [])),(3,1,.bool p.2),(4,1,gv)] X4=some (.agg (Zv.cells ⟨k,p.1,(Zf k s.OF).getD [],p.2,gv,ofL k s.K s.mem⟩).toArray,X4):=by
   obtain ⟨ga,gn,gc,hgv⟩ : ∃ a n c,gv=.slice a n c:=by
    rcases r5 with ⟨_,_,h⟩ | ⟨_,_,_,h,_,_⟩
    ·exact ⟨_,_,_,h⟩
    ·exact ⟨_,_,_,h⟩
   rw [hgv]
   simp [bld,Zal,Value.cells,YX,strv,splice,Zv.cells]
  have c14:=k5 _ _ c13
  have w4:=Zb7 (vs:=Zv.cells ⟨k,p.1,(Zf k s.OF).getD [],p.2,gv,ofL k s.K s.mem⟩) (n:=5) c14 rfl rfl (by simp only [Zv.cells,List.all_cons,hone.1];rfl)
  have d4 : ldA 5 (pt X.length) (X4.set X.length (.cells (Zv.cells ⟨k,p.1,(Zf k s.OF).getD [],p.2,gv,ofL k s.K s.mem⟩) 1 false false))=some (.agg (Zv.cells ⟨k,p.1,(Zf k s.OF).getD [],p.2,gv,ofL k s.K s.mem⟩).toArray,_):=Qe (n:=5) (Z8 c14) rfl
  refine ⟨⟨k,p.1,(Zf k s.OF).getD [],p.2,gv,ofL k s.K s.mem⟩,q,X4.set X.length (.cells (Zv.cells ⟨k,p.1,(Zf k s.OF).getD [],p.2,gv,ofL k s.K s.mem⟩) 1 false false),f1 _ _ ?_,r5.keep fun j hj=>List.getElem?_set_ne (fun e=>?_),fun j hj=>Nat.le_trans k13.len (o5 j hj),put (k13.trans k5),hfew,?_⟩
  ·unfold ZaA
   rw [Za z1,Za e2,Za Zq,Za Zr,z2,Za q1,Zb,if_neg (by simp),Za Zg,Za Zj,Za h3.l1,Za e4,Za Zq,Za Zr,Za Zj,Za (a0 _ (.refl _)),Za Zj,Za (a1 _ (.refl _)),Za Zg,Za Zj,Za h3.l2,Za e5,Za (a1 _ k5),QY,Za (a0 _ k5),QY,Za zb,Za w4,Za d4,he]
   rfl
  ·have:=o5 j hj
   have:=Z6 c13
   omega
  ·rw [if_pos he,hq0]
   rfl
 ·have q1 : bop .int .neq (iv (ZG k s.A)) (.int .i64 0) X3=some (.bool true,X3):=by rw [Zl];simp [he]
  have zb : bld (.agg #[.string ⟨#[]⟩,.string ⟨#[]⟩,.string ⟨#[]⟩,.bool false,.slice none 0 0]) [] X3=some (.agg (usr ([],[])).toArray,X3):=rfl
  have w3:=Zb7 (vs:=usr ([],[])) (n:=5) c13 rfl rfl rfl
  have d3 : ldA 5 (pt X.length) (X3.set X.length (.cells (usr ([],[])) 1 false false))=some (.agg (usr ([],[])).toArray,_):=Qe (n:=5) (Z8 c13) rfl
  refine ⟨⟨[],[],[],false,.slice none 0 0,[]⟩,[],X3.set X.length (.cells (usr ([],[])) 1 false false),f1 _ _ ?_,Zo.nil,by simp,put k13,Nat.zero_le _,by rw [if_neg he];rfl⟩
  unfold ZaA
  rw [Za z1,Za e2,Za Zq,Za Zr,z2,Za q1,Zb,if_pos rfl,Za zb,Za w3,Za d3]
  rfl
theorem ZE0 (h : ND X d r s c) : R (n+1) Zb2 [pt d] X=some (iv s.A.length,X):=by
 rw [R,ZrS rfl]
 unfold Zgo
 rw [Za Zg,Za Zj,Za h.l0,Za h.m.len]
 rfl
theorem ZBl (h : ND X d r s c) : ∃ v q X',R (n+4) Zav [pt d] X=some (v,X')∧Zo X' v ((Z7 s.K).map strv) q∧HLe X X'∧∀ j∈q,X.length≤j:=by
 obtain ⟨v,q,X',e,r1,l,o⟩:=ZBd (n:=n) h.gr
 have e : R (n+3) Kv [pt r.g] X=_:=e
 rw [h.ks] at r1
 refine ⟨v,q,X',?_,r1,l,o⟩
 rw [R,Zm5 rfl]
 unfold ZdO
 rw [Za Zg,Za Zj,Za h.l2,Za e]
 rfl
abbrev Wr (s : NSt) : List Tx:=s.A.map (·.1)
theorem Zu3 (h : ND X d r s c) : ∃ v q X',R (n+2) WG [pt d] X=some (v,X')∧Zo X' v ((Z7 (Wr s)).map strv) q∧HLe X X'∧∀ j∈q,X.length≤j:=by
 have e1 : run Tryz.prog np lvs (n+1) Qz [.map (some r.b)] X=some (.func (.func Jb) #[] #[pt X.length],X++[.cells [.map (some r.b)] 1 false false]):=by
  rw [WQ rfl]
  unfold Je
  rw [Za (Zde rfl rfl _)]
  rfl
 have l1 : HLe X (X++[.cells [.map (some r.b)] 1 false false]):=.app _ _
 obtain ⟨v,q,H2,e2,r2,l2,o2⟩:=(h.m.hle l1).keys (gks:=ZbE) (gc:=ZZ) (gk:=Jb) (c:=X.length) (by decide) Zp (Nat.le_trans h.inv.few (by decide)) (fun p hp=>Nat.le_trans (KV (h.inv.nm p hp).1) (by decide))
 have e2' : run Tryz.prog np lvs (n+1) ZP [.func (.func Jb) #[] #[pt X.length],.func (.func ZZ) #[] #[]] (X++[.cells [.map (some r.b)] 1 false false])=some (v,H2):=by
  rw [ZfE (show np ZP=some (Za9 ZbE ZZ) from rfl)]
  exact e2
 refine ⟨v,q,H2,?_,r2,l1.trans l2,fun j hj=>Nat.le_trans l1.len (o2 j hj)⟩
 rw [R,Zn9 rfl]
 unfold Ze3
 rw [Za Zg,Za Zj,Za h.l0,Za e1,Za e2']
 rfl
theorem Zo.own_of {v : Value} {vs : List Value} {q : List Nat} (h : Zo X v vs q) {i : Nat} (hi : A.own1 v=some i) : i∈q:=by
 rcases h with ⟨_,rfl,rfl⟩ | ⟨sid,rest,g,rfl,rfl,_⟩
 ·cases hi
 ·cases hi;simp
structure ZbT (X0 X : Zd) (sl : Value) (us : List Zv) (q : List Nat) : Prop where
 r : JM 5 X sl (us.map Zv.cells) q
 o : ∀ j∈q,X0.length≤j
 u : ∀ w∈us,∃ qu,Zo X w.gv (w.gs.map strv) qu∧(∀ j∈qu,X0.length≤j∧j∉q)∧w.gs.length≤100000
 un : ∀ a∈us,∀ b∈us,∀ i,own1 a.gv=some i→own1 b.gv=some i→a=b
theorem ZbT.us {X0 X : Zd} {sl : Value} {us : List Zv} {q : List Nat} (h : ZbT X0 X sl us q) : YP X sl us:=⟨h.r.rd,fun w hw=>by
 obtain ⟨qu,h1,_,h2⟩:=h.u w hw
 exact ⟨h1.rd,h1.one.1,by omega⟩⟩
theorem ZbT.hle {X0 X Y : Zd} {sl : Value} {us : List Zv} {q : List Nat} (h : ZbT X0 X sl us q) (hl : HLe X Y) : ZbT X0 Y sl us q:=
 ⟨h.r.step hl.step (by simp),h.o,fun w hw=>by
  obtain ⟨qu,h1,h2,h3⟩:=h.u w hw
  exact ⟨qu,h1.step hl.step (by simp),h2,h3⟩,h.un⟩
theorem ZbT.push0 {X0 : Zd} {sl : Value} {us : List Zv} {q qu : List Nat} {w : Zv} (h : ZbT X0 X sl us q) (hl : us.length≤1000) (hr : Zo X w.gv (w.gs.map strv) qu) (hq : ∀ j∈qu,X0.length≤j∧j∉q) (h6 : w.gs.length≤100000) (hfr : ∀ a∈us,∀ i,own1 a.gv=some i→i∉qu) (hX : X0.length≤X.length) :
  ∃ x X1 sl' X2 q',bsl 5 1 (.agg #[.string ⟨#[]⟩,.string ⟨#[]⟩,.string ⟨#[]⟩,.bool false,.slice none 0 0]) [(0,5,.agg w.cells.toArray)] X=some (x,X1)∧app 5 80 sl x X1=some (sl',X2)∧ZbT X0 X2 sl' (us++[w]) q'∧Zu q X q' X2:=by
 have hone : w.cells.all oneCell=true:=by simp only [Zv.cells,List.all_cons,hr.one.1];rfl
 have x4:=ZyZ (es:=5) (z:=.agg #[.string ⟨#[]⟩,.string ⟨#[]⟩,.string ⟨#[]⟩,.bool false,.slice none 0 0]) (H:=X) rfl (show w.cells.length=5 from rfl) hone
 have l1 : HLe X (X++[Ze.cells w.cells 5 false false]):=.app _ _
 have s1 : SlN 5 (X++[Ze.cells w.cells 5 false false]) (.slice (some ⟨X.length,0,none⟩) 1 1) [w.cells]:=SlN.whole (rows:=[w.cells]) (c:=1) (e:=5) (g:=false) (ro:=false) (by rw [Zp];simp) (by simp)
 generalize X++[Ze.cells w.cells 5 false false]=X1 at x4 l1 s1
 have h1:=h.hle l1
 obtain ⟨sl',X2,q',x5,hn2,s2⟩:=h1.r.push (b:=80) s1 rfl (by simp;omega) (by simp;omega)
 have hX1:=l1.len
 have hm2 : ∀ j∈q',X0.length≤j:=fun j hj=>by
  rcases s2.own j hj with h2 | h2
  ·exact h.o j h2
  ·omega
 rw [← List.map_singleton (f:=Zv.cells),← List.map_append] at hn2
 have hnew : ∀ (v : Zv) (qv : List Nat),Zo X1 v.gv (v.gs.map strv) qv→(∀ j∈qv,X0.length≤j∧j∉q)→Zo X2 v.gv (v.gs.map strv) qv∧∀ j∈qv,X0.length≤j∧j∉q':=fun v qv hv hj=>⟨hv.step s2 (fun j hm=>(hj j hm).2),fun j hm=>⟨(hj j hm).1,fun hq=>by
  rcases s2.own j hq with h2 | h2
  ·exact (hj j hm).2 h2
  ·have:=hv.lt j hm;omega⟩⟩
 refine ⟨_,X1,sl',X2,q',x4,x5,⟨hn2,hm2,fun v hv=>?_,fun a ha b hb i hai hbi=>?_⟩,l1.stepq.trans s2⟩
 ·rcases List.mem_append.1 hv with hv | hv
  ·obtain ⟨qv,a1,a2,a3⟩:=h1.u v hv
   obtain ⟨b1,b2⟩:=hnew v qv a1 a2
   exact ⟨qv,b1,b2,a3⟩
  ·have hv : v=w:=by simpa using hv
   subst hv
   obtain ⟨b1,b2⟩:=hnew v qu (hr.step l1.step (by simp)) hq
   exact ⟨qu,b1,b2,h6⟩
 ·rcases List.mem_append.1 ha with ha | ha <;> rcases List.mem_append.1 hb with hb | hb
  ·exact h.un a ha b hb i hai hbi
  ·have hb : b=w:=by simpa using hb
   rw [hb] at hbi
   exact absurd (hr.own_of hbi) (hfr a ha i hai)
  ·have ha : a=w:=by simpa using ha
   rw [ha] at hai
   exact absurd (hr.own_of hai) (hfr b hb i hbi)
  ·have ha : a=w:=by simpa using ha
   have hb : b=w:=by simpa using hb
   rw [ha,hb]
theorem ZbT.push {X0 : Zd} {sl : Value} {us : List Zv} {q qu : List Nat} {w : Zv} (h : ZbT X0 X sl us q) (hl : us.length≤1000) (hr : Zo X w.gv (w.gs.map strv) qu) (hq : ∀ j∈qu,X0.length≤j∧j∉q) (h6 : w.gs.length≤100000) (hfr : ∀ a∈us,∀ i,own1 a.gv=some i→i∉qu) (hle : HLe X0 X) :
  ∃ x X1 sl' X2 q',bsl 5 1 (.agg #[.string ⟨#[]⟩,.string ⟨#[]⟩,.string ⟨#[]⟩,.bool false,.slice none 0 0]) [(0,5,.agg w.cells.toArray)] X=some (x,X1)∧app 5 80 sl x X1=some (sl',X2)∧ZbT X0 X2 sl' (us++[w]) q'∧HLe X0 X2:=by
 obtain ⟨x,X1,sl',X2,q',a,b,c,e⟩:=h.push0 hl hr hq h6 hfr hle.len
 exact ⟨x,X1,sl',X2,q',a,b,c,(hle.more e h.o).1⟩
theorem Zyj {v : Value} {q0 : List Nat} {ks : List Tx} {X0 : Zd} (h : ND X0 d r s c) (hr : Zo X0 v (ks.map strv) q0) (hk : ks.length≤100) (hK : ∀ k∈ks,ZG k s.A=0) : ∀ (t j : Nat) (sl : Value) (q : List Nat) (us : List Zv) (X : Zd),ks.length - j=t→j≤ks.length→us.length≤j→HLe X0 X→ZbT X0 X sl us q→
  ∃ X' sl' q' us',Zi (c5 (Ko.l1 (R (n+7)))) [pt d,sl,v,iv ks.length,iv j] X=some (.ext 0 [sl'],X')∧ZbT X0 X' sl' (us++us') q'∧us'.map JN=(ks.drop j).map (fun k=>Zbr s k ((Zf k s.A).getD ([],false)))∧HLe X0 X'
 | 0,j,sl,q,us,X,ht,hj,hu,hl,ho=>by
  have : j=ks.length:=by omega
  subst this
  rw [List.drop_length]
  refine ⟨X,sl,q,[],Qa ?_,by rw [List.append_nil];exact ho,rfl,hl⟩
  rw [QF]
  unfold Ko.l1
  rw [Za Zs,Zb,if_neg (by simp)]
  rfl
 | t+1,j,sl,q,us,X,ht,hj,hu,hl,ho=>by
  have hjl : j < ks.length:=by omega
  have hlt : (j : Int) < ks.length:=by omega
  have hg:=List.getElem?_eq_getElem hjl
  have hd:=List.drop_eq_getElem_cons hjl
  generalize ks[j]=k at hg hd
  have hrx:=hr.step hl.step (by simp)
  have x1:=hrx.ix (i:=j) (by simpa using hjl) .i64 X
  have x2:=hrx.ldx (KM hg)
  have he:=hK k (List.mem_of_getElem? hg)
  obtain ⟨w,qw,X1,e1,r1,o1,l1,h6,hkey⟩:=Zto (n:=n) (k:=k) (h.hle hl)
  rw [if_pos he] at hkey
  rw [he] at e1
  have ho1:=ho.hle l1
  have hone : w.cells.all oneCell=true:=by simp only [Zv.cells,List.all_cons,r1.one.1];rfl
  have z2 : ∀ K : Value→M Out,bind (alc 1 (.agg #[.string ⟨#[]⟩,.string ⟨#[]⟩,.string ⟨#[]⟩,.bool false,.slice none 0 0])) (fun p=>bind (stA 5 p (.agg w.cells.toArray)) fun _=>K p) X1=K (pt X1.length) (X1++[.cells w.cells 1 false false]):=fun K=>ZaF (n:=5) (zs:=[.string ⟨#[]⟩,.string ⟨#[]⟩,.string ⟨#[]⟩,.bool false,.slice none 0 0]) (r:=w.cells) rfl rfl rfl hone
  have k2 : HLe X1 (X1++[Ze.cells w.cells 1 false false]):=.app _ _
  have c2 : (X1++[Ze.cells w.cells 1 false false])[X1.length]?=some (.cells w.cells 1 false false):=Zp
  generalize X1++[Ze.cells w.cells 1 false false]=X2 at z2 k2 c2
  have d2 : ldA 5 (pt X1.length) X2=some (.agg w.cells.toArray,X2):=Qe (n:=5) c2 rfl
  have hq : ∀ i∈qw,X0.length≤i∧i∉q:=fun i hi=>by
   have h1:=o1 i hi
   have h2:=hl.len
   exact ⟨by omega,fun hm=>by have:=ho.r.lt i hm;omega⟩
  obtain ⟨y,X3,sl',X4,q',a1,a2,ho4,l4⟩:=(ho1.hle k2).push (by omega) (r1.step k2.step (by simp)) hq (by omega) (fun a ha i hi hm=>by obtain ⟨qa,b1,_,_⟩:=ho.u a ha;have h1:=b1.lt i (b1.own_of hi);have h2:=o1 i hm;omega) ((hl.trans l1).trans k2)
  obtain ⟨X5,sl5,q5,us5,e5,o5,u5,l5⟩:=Zyj h hr hk hK t (j+1) sl' q' (us++[w]) X4 (by omega) (by omega) (by rw [List.length_append,List.length_singleton];omega) l4 ho4
  refine ⟨X5,sl5,q5,w :: us5,(ZL ?_).trans e5,by rw [List.append_assoc] at o5;exact o5,?_,l5⟩
  ·rw [QF]
   unfold Ko.l1
   rw [Za Zs,Zb,if_pos (by simpa using hlt),Za x1,Za x2,Za e1,Za Zq,Za Zr,z2,Za d2,Za a1,Za a2,Za ZF,Jd (by omega)]
   rfl
  ·rw [hd,List.map_cons,List.map_cons,u5,hkey]
def allK (s : NSt) : List ZaM:=(Z7 (Wr s)).map fun k=>Zbr s k ((Zf k s.A).getD ([],false))
theorem ZBL (h : ∀ p∈s.A,Zt p.1=true) {k : Tx} (hk : k∈Wr s) : ZG k s.A=0:=by
 obtain ⟨p,hp,rfl⟩:=List.mem_map.1 hk
 unfold ZG
 rw [h p hp,ZhK,decide_eq_true (List.mem_map.2 ⟨p,hp,rfl⟩)]
 rfl
theorem ZED (h : ND X d r s c) : ∃ v q us X',R (n+8) Zb3 [pt d] X=some (v,X')∧ZbT X X' v us q∧us.map JN=allK s∧HLe X X':=by
 obtain ⟨v,q,X1,e1,r1,l1,o1⟩:=Zu3 (n:=n+5) h
 have e1 : R (n+7) WG [pt d] X=_:=e1
 have hfew : (Z7 (Wr s)).length≤12:=by
  rw [ZaZ]
  have:=h.inv.few
  simpa using this
 obtain ⟨X2,sl,q2,us,e2,o2,u2,l2⟩:=Zyj (n:=n) (h.hle l1) r1 (by omega) (fun k hk=>ZBL (fun p hp=>(h.inv.nm p hp).1) (W7.1 hk)) (Z7 (Wr s)).length 0 (.slice none 0 0) [] [] X1 (by omega) (by omega) (Nat.le_refl _) (.refl _) ⟨JM.nil,by simp,by simp,by simp⟩
 have e2 : Zi (c5 (Ko.l1 (R (n+7)))) [pt d,.slice none 0 0,v,iv (Z7 (Wr s)).length,.int .i64 0] X1=_:=e2
 rw [List.nil_append] at o2
 rw [List.drop_zero] at u2
 have hlen : ZC v X1=some (iv (Z7 (Wr s)).length,X1):=by have:=r1.rd.len (H':=X1);simpa using this
 have hx:=l1.len
 refine ⟨sl,q2,us,X2,?_,⟨o2.r,fun j hj=>Nat.le_trans hx (o2.o j hj),fun w hw=>?_,o2.un⟩,u2,l1.trans l2⟩
 ·rw [R,Zra rfl]
  unfold Ko
  rw [Za e1,Za hlen,QG e2,ZI]
  rfl
 ·obtain ⟨qu,a1,a2,a3⟩:=o2.u w hw
  exact ⟨qu,a1,fun j hj=>⟨Nat.le_trans hx (a2 j hj).1,(a2 j hj).2⟩,a3⟩
end
end Go.Proofs.YtgfbgfafajiehaaGreatDoor.A
namespace Go.Proofs.YtgfbgfafajiehaaGreatDoor.A
set_option linter.unusedVariables false
set_option linter.unusedSimpArgs false
open Go.Proofs Go.Proofs.YtgfbgfafajiehaaGreatDoor
def Jl (k : Tx) (A : AMp) : Acc:=(Zf k A).getD ([],false)
def YU (k h : Tx) (A : AMp) : Int:=if Zt k then (if Kr h then (if (Zf k A).isSome then 9 else if 12≤A.length then 7 else 0) else 4) else 10
def Zch (k h : Tx) (s : NSt) : NSt:=if YU k h s.A=0 then { s with A:=Qo k (h,false) s.A } else s
def Zck (k : Tx) (s : NSt) : NSt:=if ZG k s.A=0 then { s with A:=Yi k s.A,OW:=ZbU k s.OW s.OF,OF:=WF k s.OF,mem:=Zq6 k s.mem } else s
def Yg (k h : Tx) (A : AMp) : Int:=if Zt k then (if Kr h then (if (Zf k A).isSome then (if (Jl k A).2 then 12 else 0) else 8) else 4) else 10
def Zbg (k h : Tx) (s : NSt) : NSt:=if Yg k h s.A=0 then { s with A:=Qo k (h,(Jl k s.A).2) s.A } else s
def Yj (k m : Tx) (s : NSt) : Int:=if Zt k then (if m≠[]∧J2 m=false then 11 else if (Zf k s.A).isSome then KC k m s.OW else 8) else 10
def KQ (k m : Tx) (s : NSt) : NSt:=if Yj k m s=0 then { s with OW:=ZsT k m s.OW s.OF,OF:=Ze1 k m s.OW s.OF } else s
def Ys (k : Tx) (b : Bool) (A : AMp) : Int:=if ZG k A=0 then (if (Jl k A).2=b then 12 else 0) else ZG k A
def KO (k : Tx) (b : Bool) (s : NSt) : NSt:=if Ys k b s.A=0 then { s with A:=Qo k ((Jl k s.A).1,b) s.A } else s
def Kc (o t : Tx) (A : AMp) : Int:=if Zt o && Zt t then (if (Zf o A).isSome then (if (Zf t A).isSome then 9 else 0) else 8) else 10
def Zce (o t : Tx) (s : NSt) : NSt:=if Kc o t s.A=0 then { s with A:=Qo t (Jl o s.A) (Yi o s.A),OW:=Zyz o t s.OW s.OF,OF:=Zmc o t s.OF,mem:=Zf9 o t s.mem } else s
def Znr (g : Tx) (s : NSt) : NSt:={ s with K:=Zim g s.K }
def Zns (g : Tx) (s : NSt) : NSt:={ s with K:=ZqE g s.K,mem:=if JP g s.K=0 then Zhh g s.mem else s.mem }
def J6 (g k : Tx) (A : AMp) : Int:=if Zt g then ZG k A else 10
def ZbF (g k : Tx) (s : NSt) : Int:=if J6 g k s.A=0 then ZaO g k s.K s.mem else J6 g k s.A
def ZfN (g k : Tx) (s : NSt) : NSt:=if ZbF g k s=0 then { s with mem:=Zju g k s.mem } else s
def ZaS (g k : Tx) (s : NSt) : Int:=if J6 g k s.A=0 then ZcK g k s.K s.mem else J6 g k s.A
def ZdE (g k : Tx) (s : NSt) : NSt:=if ZaS g k s=0 then { s with mem:=ZqZ g k s.mem } else s
theorem ZaW {α : Type} {k j : Tx} {v : α} {m : List (Tx × α)} (h : (Zf j m).isSome=true∨j=k) : (Zf j (Qo k v m)).isSome=true:=by
 by_cases e : j=k
 ·rw [e,Zac];rfl
 ·rw [KY e];exact h.resolve_right e
theorem JJ.putA {s : NSt} (h : JJ s) {k : Tx} {v : Acc} (hk : Zt k=true) (hv : Kr v.1=true) (hl : (Zf k s.A).isSome=true∨s.A.length < 12) : JJ { s with A:=Qo k v s.A } where
 nm p hp:=by
  rcases Zkw hp with rfl | hp
  ·exact ⟨hk,hv⟩
  ·exact h.nm p hp
 few:=by
  show (Qo k v s.A).length≤12
  rw [ZcB]
  have:=h.few
  split
  ·exact this
  ·rename_i hn
   rcases hl with h1 | h1
   ·exact absurd h1 hn
   ·omega
 ofA n hn:=ZaW (.inl (h.ofA n hn))
 memA g n hn:=ZaW (.inl (h.memA g n hn))
 good:=h.good
theorem Ztm {k h : Tx} {A : AMp} (he : YU k h A=0) : Zt k=true∧Kr h=true∧Zf k A=none∧A.length < 12:=by
 unfold YU at he
 cases h1 : Zt k <;> cases h2 : Kr h <;> rw [h1,h2] at he <;> try simp at he
 by_cases h3 : (Zf k A).isSome=true
 ·rw [if_pos h3] at he;simp at he
 ·rw [if_neg h3] at he
  by_cases h4 : 12≤A.length
  ·rw [if_pos h4] at he;simp at he
  ·exact ⟨rfl,rfl,by simpa using h3,by omega⟩
theorem JJ.create {s : NSt} (h : JJ s) (k x : Tx) : JJ (Zch k x s):=by
 unfold Zch
 split
 ·rename_i he
  obtain ⟨h1,h2,h3,h4⟩:=Ztm he
  exact h.putA h1 h2 (.inr h4)
 ·exact h
theorem JJ.delete {s : NSt} (h : JJ s) (k : Tx) : JJ (Zck k s):=by
 unfold Zck
 split
 ·exact {
   nm:=fun p hp=>h.nm p (List.mem_filter.1 hp).1
   few:=Nat.le_trans (List.length_filter_le _ _) h.few
   ofA:=fun n hn=>by
    have hne : n≠k:=fun e=>by rw [e,Zc7] at hn;cases hn
    show (Zf n (Yi k s.A)).isSome=true
    rw [J7 hne]
    rw [Zfw hne] at hn
    exact h.ofA n hn
   memA:=fun g n hn=>by
    have hn : (s.mem g n && !(n==k))=true:=hn
    simp only [Bool.and_eq_true,Bool.not_eq_true',beq_eq_false_iff_ne] at hn
    show (Zf n (Yi k s.A)).isSome=true
    rw [J7 hn.2]
    exact h.memA g n hn.1
   good:=fun n m hn=>by
    have hne : n≠k:=fun e=>by
     have hn : Zf n (WF k s.OF)=some m:=hn
     rw [e,Zc7] at hn;cases hn
    have hn : Zf n (WF k s.OF)=some m:=hn
    rw [Zfw hne] at hn
    exact h.good n m hn }
 ·exact h
theorem ZmF {k : Tx} {A : AMp} (h : (Zf k A).isSome=true) : Zf k A=some (Jl k A):=by
 unfold Jl
 cases ha : Zf k A with
 | none=>rw [ha] at h;cases h
 | some p=>rfl
theorem Zrp {k h : Tx} {A : AMp} (he : Yg k h A=0) : Zt k=true∧Kr h=true∧(Zf k A).isSome=true∧(Jl k A).2=false:=by
 unfold Yg at he
 cases h1 : Zt k <;> cases h2 : Kr h <;> rw [h1,h2] at he <;> try simp at he
 cases h3 : (Zf k A).isSome <;> cases h4 : (Jl k A).2 <;> rw [h3,h4] at he <;> simp at he
 exact ⟨rfl,rfl,rfl,rfl⟩
theorem JJ.setHash {s : NSt} (h : JJ s) (k x : Tx) : JJ (Zbg k x s):=by
 unfold Zbg
 split
 ·rename_i he
  obtain ⟨h1,h2,h3,h4⟩:=Zrp he
  exact h.putA h1 h2 (.inl h3)
 ·exact h
theorem Zy4 {k : Tx} {b : Bool} {A : AMp} (he : Ys k b A=0) : ZG k A=0∧(Jl k A).2≠b:=by
 unfold Ys at he
 by_cases h1 : ZG k A=0
 ·rw [if_pos h1] at he
  refine ⟨h1,fun e=>?_⟩
  rw [if_pos e] at he;simp at he
 ·rw [if_neg h1] at he;exact absurd he h1
theorem JJ.disable {s : NSt} (h : JJ s) (k : Tx) (b : Bool) : JJ (KO k b s):=by
 unfold KO
 split
 ·rename_i he
  obtain ⟨h1,_⟩:=Zy4 he
  obtain ⟨h2,p,h3⟩:=ZqD h1
  have h4 : (Zf k s.A).isSome=true:=by rw [h3];rfl
  refine h.putA h2 ?_ (.inl h4)
  have:=h.nm _ (KN (ZmF h4))
  exact this.2
 ·exact h
theorem Zzy {k m : Tx} {s : NSt} (he : Yj k m s=0) : Zt k=true∧(m=[]∨J2 m=true)∧(Zf k s.A).isSome=true∧KC k m s.OW=0:=by
 unfold Yj at he
 cases h1 : Zt k
 ·rw [h1] at he;simp at he
 ·rw [h1] at he
  simp only [if_true] at he
  by_cases h2 : m≠[]∧J2 m=false
  ·rw [if_pos h2] at he;simp at he
  ·rw [if_neg h2] at he
   cases h3 : (Zf k s.A).isSome
   ·rw [h3] at he;simp at he
   ·rw [h3] at he
    simp only [if_true] at he
    refine ⟨rfl,?_,rfl,he⟩
    by_cases h4 : m=[]
    ·exact .inl h4
    ·refine .inr ?_
     cases h5 : J2 m
     ·exact absurd ⟨h4,h5⟩ h2
     ·rfl
theorem Zhg {k m : Tx} {OW OF : QH} (he : KC k m OW=0) (n : Tx) : Zf n (Ze1 k m OW OF)=if n=k then (if m=[] then none else some (Qy m)) else Zf n OF:=by
 unfold Ze1
 rw [if_pos he]
 by_cases hm : m=[]
 ·rw [if_pos hm,if_pos hm]
  by_cases hn : n=k
  ·rw [if_pos hn,hn,Zc7]
  ·rw [if_neg hn,Zfw hn]
 ·rw [if_neg hm,if_neg hm]
  by_cases hn : n=k
  ·rw [if_pos hn,hn,Zac]
  ·rw [if_neg hn,KY hn,Zfw hn]
theorem ZoK {m : Tx} : Qy (Qy m)=Qy m:=by
 unfold Qy
 rw [List.map_map]
 refine List.map_congr_left fun b _=>?_
 exact (ZAt (p:=fun b=>ZeT (ZeT b)=ZeT b) (by decide+kernel)) b
theorem Zxq {m : Tx} (h : J2 m=true) : J2 (Qy m)=true:=by
 unfold J2 at h ⊢
 rw [ZoK,show (Qy m).length=m.length from by simp [Qy]]
 exact h
theorem JJ.setMail {s : NSt} (h : JJ s) (k m : Tx) : JJ (KQ k m s):=by
 unfold KQ
 split
 ·rename_i he
  obtain ⟨h1,h2,h3,h4⟩:=Zzy he
  exact {
   nm:=h.nm
   few:=h.few
   ofA:=fun n hn=>by
    have hn : (Zf n (Ze1 k m s.OW s.OF)).isSome=true:=hn
    rw [Zhg h4] at hn
    by_cases e : n=k
    ·rw [e];exact h3
    ·rw [if_neg e] at hn;exact h.ofA n hn
   memA:=h.memA
   good:=fun n v hn=>by
    have hn : Zf n (Ze1 k m s.OW s.OF)=some v:=hn
    rw [Zhg h4] at hn
    by_cases e : n=k
    ·rw [if_pos e] at hn
     by_cases hm : m=[]
     ·rw [if_pos hm] at hn;cases hn
     ·rw [if_neg hm] at hn
      have hv : Qy m=v:=Option.some.inj hn
      rw [← hv]
      exact ⟨Zxq (h2.resolve_left hm),ZoK⟩
    ·rw [if_neg e] at hn;exact h.good n v hn }
 ·exact h
theorem Zth {o t : Tx} {A : AMp} (he : Kc o t A=0) : Zt o=true∧Zt t=true∧(Zf o A).isSome=true∧Zf t A=none∧o≠t:=by
 unfold Kc at he
 cases h1 : Zt o <;> cases h2 : Zt t <;> rw [h1,h2] at he <;> try simp at he
 cases h3 : (Zf o A).isSome <;> cases h4 : (Zf t A).isSome <;> rw [h3,h4] at he <;> simp at he
 have h4 : Zf t A=none:=by simpa using h4
 refine ⟨rfl,rfl,rfl,h4,fun e=>?_⟩
 rw [e,h4] at h3;cases h3
theorem JJ.ofN {s : NSt} (h : JJ s) {t : Tx} (ht : Zf t s.A=none) : Zf t s.OF=none:=by
 cases ho : Zf t s.OF with
 | none=>rfl
 | some v=>
  have:=h.ofA t (by rw [ho];rfl)
  rw [ht] at this;cases this
theorem JJ.memN {s : NSt} (h : JJ s) {t : Tx} (ht : Zf t s.A=none) (g : Tx) : s.mem g t=false:=by
 cases ho : s.mem g t with
 | false=>rfl
 | true=>
  have:=h.memA g t ho
  rw [ht] at this;cases this
theorem Zx1 {o t : Tx} {OF : QH} (ht : Zt t=true) (hn : Zf t OF=none) (hot : o≠t) (n : Tx) : Zf n (Zmc o t OF)=if n=t then Zf o OF else if n=o then none else Zf n OF:=by
 unfold Zmc Zhi
 rw [ht,hn]
 cases ho : Zf o OF with
 | none=>
  simp only [if_true]
  rw [if_neg (by decide)]
  by_cases h1 : n=t
  ·rw [if_pos h1,h1,hn]
  ·rw [if_neg h1]
   by_cases h2 : n=o
   ·rw [if_pos h2,h2,ho]
   ·rw [if_neg h2]
 | some m=>
  simp only [Option.isSome_none,Bool.false_and,if_true,Option.getD_some]
  rw [if_pos (by simp)]
  by_cases h1 : n=t
  ·rw [if_pos h1,h1,Zac]
  ·rw [if_neg h1,KY h1]
   by_cases h2 : n=o
   ·rw [if_pos h2,h2,Zc7]
   ·rw [if_neg h2,Zfw h2]
theorem JJ.rename {s : NSt} (h : JJ s) (o t : Tx) : JJ (Zce o t s):=by
 unfold Zce
 split
 ·rename_i he
  obtain ⟨h1,h2,h3,h4,h5⟩:=Zth he
  have hof:=h.ofN h4
  exact {
   nm:=fun p hp=>by
    rcases Zkw hp with rfl | hp
    ·exact ⟨h2,(h.nm _ (KN (ZmF h3))).2⟩
    ·exact h.nm p (List.mem_filter.1 hp).1
   few:=by
    show (Qo t (Jl o s.A) (Yi o s.A)).length≤12
    rw [ZcB]
    have hf:=h.few
    have hlt : (Yi o s.A).length < s.A.length:=by
     unfold Yi
     rw [List.length_filter_lt_length_iff_exists]
     exact ⟨_,KN (ZmF h3),by simp⟩
    split <;> omega
   ofA:=fun n hn=>by
    have hn : (Zf n (Zmc o t s.OF)).isSome=true:=hn
    rw [Zx1 h2 hof h5] at hn
    show (Zf n (Qo t (Jl o s.A) (Yi o s.A))).isSome=true
    by_cases e1 : n=t
    ·exact ZaW (.inr e1)
    ·rw [if_neg e1] at hn
     by_cases e2 : n=o
     ·rw [if_pos e2] at hn;cases hn
     ·rw [if_neg e2] at hn
      exact ZaW (.inl (by rw [J7 e2];exact h.ofA n hn))
   memA:=fun g n hn=>by
    have hn : Zf9 o t s.mem g n=true:=hn
    show (Zf n (Qo t (Jl o s.A) (Yi o s.A))).isSome=true
    by_cases e1 : n=t
    ·exact ZaW (.inr e1)
    ·have hm : s.mem g n=true∧n≠o:=by
      unfold Zf9 at hn
      cases hg : s.mem g o
      ·rw [hg] at hn
       simp only [Bool.false_eq_true,if_false] at hn
       exact ⟨hn,fun e=>by rw [e,hg] at hn;cases hn⟩
      ·rw [hg] at hn
       simp only [if_true,Bool.or_eq_true,beq_iff_eq,Bool.and_eq_true,Bool.not_eq_true',beq_eq_false_iff_ne] at hn
       rcases hn with hn | hn
       ·exact absurd hn e1
       ·exact hn
     exact ZaW (.inl (by rw [J7 hm.2];exact h.memA g n hm.1))
   good:=fun n v hn=>by
    have hn : Zf n (Zmc o t s.OF)=some v:=hn
    rw [Zx1 h2 hof h5] at hn
    by_cases e1 : n=t
    ·rw [if_pos e1] at hn;exact h.good o v hn
    ·rw [if_neg e1] at hn
     by_cases e2 : n=o
     ·rw [if_pos e2] at hn;cases hn
     ·rw [if_neg e2] at hn;exact h.good n v hn }
 ·exact h
theorem JJ.make {s : NSt} (h : JJ s) (g : Tx) : JJ (Znr g s):=⟨h.nm,h.few,h.ofA,h.memA,h.good⟩
theorem JJ.drop {s : NSt} (h : JJ s) (g : Tx) : JJ (Zns g s):=by
 refine ⟨h.nm,h.few,h.ofA,fun k n hn=>?_,h.good⟩
 have hn : (if JP g s.K=0 then Zhh g s.mem else s.mem) k n=true:=hn
 split at hn
 ·unfold Zhh at hn
  simp only [Bool.and_eq_true] at hn
  exact h.memA k n hn.1
 ·exact h.memA k n hn
theorem ZzI {g k : Tx} {A : AMp} (h : J6 g k A=0) : Zt g=true∧ZG k A=0:=by
 unfold J6 at h
 cases hg : Zt g
 ·rw [hg] at h;simp at h
 ·rw [hg] at h;exact ⟨rfl,h⟩
theorem JJ.join {s : NSt} (h : JJ s) (g k : Tx) : JJ (ZfN g k s):=by
 unfold ZfN
 split
 ·rename_i he
  unfold ZbF at he
  by_cases hm : J6 g k s.A=0
  ·obtain ⟨_,h2⟩:=ZzI hm
   obtain ⟨_,p,h3⟩:=ZqD h2
   refine ⟨h.nm,h.few,h.ofA,fun j n hn=>?_,h.good⟩
   have hn : (s.mem j n || (j==g && n==k))=true:=hn
   simp only [Bool.or_eq_true,Bool.and_eq_true,beq_iff_eq] at hn
   rcases hn with hn | ⟨_,hn⟩
   ·exact h.memA j n hn
   ·show (Zf n s.A).isSome=true
    rw [hn,h3];rfl
  ·rw [if_neg hm] at he;exact absurd he hm
 ·exact h
theorem JJ.leave {s : NSt} (h : JJ s) (g k : Tx) : JJ (ZdE g k s):=by
 unfold ZdE
 split
 ·refine ⟨h.nm,h.few,h.ofA,fun j n hn=>?_,h.good⟩
  have hn : (s.mem j n && !(j==g && n==k))=true:=hn
  simp only [Bool.and_eq_true] at hn
  exact h.memA j n hn.1
 ·exact h
end Go.Proofs.YtgfbgfafajiehaaGreatDoor.A
namespace Go.Proofs.YtgfbgfafajiehaaGreatDoor.A
set_option linter.unusedVariables false
set_option linter.unusedSimpArgs false
open Go.Proofs Go.Proofs.YtgfbgfafajiehaaGreatDoor
section
variable {X X' : Zd} {n d c c' : Nat} {r : NR} {s : NSt} {k h m t o g : Tx}
theorem NR.mem_b (r : NR) : r.b∈r.own:=by simp [NR.own]
theorem NR.mem_o (r : NR) : r.o∈r.own:=by simp [NR.own]
theorem NR.mem_a (r : NR) : r.a∈r.own:=by simp [NR.own]
theorem NR.mem_g (r : NR) : ∀ j∈Q7 r.o2 r.G,j∈r.own:=fun j hj=>by
 unfold NR.own
 exact List.mem_cons_of_mem _ (List.mem_cons_of_mem _ (List.mem_cons_of_mem _ hj))
theorem ND0.more (hd : ND0 X d r s c) (hc : c≤c') : ND0 X d r s c':=⟨hd.cell,hd.m,hd.ix,hd.gr.more hc (fun _ _=>rfl),hd.ks,hd.dis⟩
theorem ND0.setA (hd : ND0 X d r s c) {A' : AMp} (m' : Jz Zau X' r.b A') (hs : Zu [r.b] X [r.b] X') : ND0 X' d r { s with A:=A' } c∧Zu r.own X r.own X':=by
 obtain ⟨h1,h2,h3,_,_⟩:=hd.dis
 have nb : ∀ {j},j∉r.own→j∉[r.b]:=fun hj e=>hj (by rw [List.mem_singleton.1 e];exact r.mem_b)
 refine ⟨⟨hs.get hd.cell (nb hd.dnot),m',hd.ix.step hs (nb hd.xnot) (by simpa using Ne.symm h1) (by simpa using Ne.symm h2),hd.gr.step hs (nb hd.gnot) (fun j hj e=>h3 ?_),hd.ks,hd.dis⟩,hs.mono2 (by simpa using r.mem_b)⟩
 rw [← List.mem_singleton.1 e];exact hj
theorem ND0.setI (hd : ND0 X d r s c) {OW' OF' : QH} (i' : Idx X' r.x r.o r.a OW' OF') (hs : Zu [r.o,r.a] X [r.o,r.a] X') : ND0 X' d r { s with OW:=OW',OF:=OF' } c∧Zu r.own X r.own X':=by
 obtain ⟨h1,h2,h3,h4,h5⟩:=hd.dis
 have no : ∀ j∈[r.o,r.a],j∈r.own:=fun j hj=>by
  simp only [List.mem_cons,List.not_mem_nil,or_false] at hj
  rcases hj with rfl | rfl
  ·exact r.mem_o
  ·exact r.mem_a
 refine ⟨⟨hs.get hd.cell (fun e=>hd.dnot (no _ e)),hd.m.step hs (by simp [h1,h2]),i',hd.gr.step hs (fun e=>hd.gnot (no _ e)) (fun j hj e=>?_),hd.ks,hd.dis⟩,hs.mono2 no⟩
 simp only [List.mem_cons,List.not_mem_nil,or_false] at e
 rcases e with rfl | rfl
 ·exact h4 hj
 ·exact h5 hj
theorem ND0.setG (hd : ND0 X d r s c) {G' : ZjM} {mem' : Mem} {K' : List Tx} (g' : Grp X' r.g r.o2 G' mem' c') (hs : Zu (Q7 r.o2 r.G) X (Q7 r.o2 G') X') (hk : ZN G'=K') : ND0 X' d { r with G:=G' } { s with K:=K',mem:=mem' } c'∧Zu r.own X (NR.own { r with G:=G' }) X':=by
 obtain ⟨h1,h2,h3,h4,h5⟩:=hd.dis
 have hb:=hd.isMap r.mem_b
 have ho:=hd.isMap r.mem_o
 have ha:=hd.isMap r.mem_a
 have new : ∀ j,j < X.length→j∉Q7 r.o2 r.G→j∉Q7 r.o2 G':=fun j hj hn hm=>by
  rcases hs.own j hm with e | e
  ·exact hn e
  ·omega
 refine ⟨⟨hs.get hd.cell (fun e=>hd.dnot (r.mem_g _ e)),hd.m.step hs h3,hd.ix.step hs (fun e=>hd.xnot (r.mem_g _ e)) h4 h5,g',hk,⟨h1,h2,new _ hb.1 h3,new _ ho.1 h4,new _ ha.1 h5⟩⟩,hs.more r.mem_g (fun j hj=>?_)⟩
 unfold NR.own at hj ⊢
 rcases List.mem_cons.1 hj with rfl | hj
 ·exact .inl (by simp)
 ·rcases List.mem_cons.1 hj with rfl | hj
  ·exact .inl (by simp)
  ·rcases List.mem_cons.1 hj with rfl | hj
   ·exact .inl (by simp)
   ·exact .inr (.inl hj)
theorem ZcU (hd : ND X d r s c) : ∃ (p : Nat) (X2 : Zd),(∀ {β : Type} (K : Value→Value→M β),bind (R (n+9) Qr [pt d,strv k]) (fun v12=>bind (Zn v12 0) fun v13=>bind (Zn v12 1) fun v14=>bind (alc 1 (.agg #[.string ⟨#[]⟩,.bool false])) fun v7=>bind (stA 2 v7 v13) fun _=>K v7 v14) X=K (pt p) (iv (ZG k s.A)) X2)∧
  X2[p]?=some (.cells [strv (if Zt k then Jl k s.A else ([],false)).1,.bool (if Zt k then Jl k s.A else ([],false)).2] 1 false false)∧HLe X X2∧X.length≤p:=by
 obtain ⟨X1,e1,k1⟩:=ZxO (n:=n+3) (k:=k) hd
 have e1 : R (n+9) Qr [pt d,strv k] X=some (.tuple #[Zau (if Zt k then Jl k s.A else ([],false)),iv (ZG k s.A)],X1):=e1
 generalize (if Zt k then Jl k s.A else ([],false))=a at e1
 refine ⟨X1.length,X1++[.cells [strv a.1,.bool a.2] 1 false false],fun {β} K=>?_,Zp,k1.trans (.app _ _),k1.len⟩
 rw [Za e1,Za Zq,Za Zr]
 exact ZaF (n:=2) (zs:=[strv [],.bool false]) (r:=[strv a.1,.bool a.2]) (k:=fun v7=>K v7 (iv (ZG k s.A))) rfl rfl rfl rfl
theorem Zv6 {p : Nat} {X2 X3 : Zd} {own : List Nat} {ob : Ze} (hle : HLe X X2) (hp : X.length≤p) (hs : Zu own (X2.set p ob) own X3) : Zu own X own X3:=
 ⟨by have:=hle.len;have:=hs.len;rw [List.length_set] at this;omega,fun j hj hn=>by
  rw [hs.keep j (by rw [List.length_set];have:=hle.len;omega) hn,List.getElem?_set_ne (by omega)]
  exact hle.step.keep j hj (by simp),fun j hj=>.inl hj⟩
theorem ND0.box (hd : ND0 X d r s c) {p : Nat} {X2 : Zd} {ob : Ze} (hle : HLe X X2) (hp : X.length≤p) : ND0 (X2.set p ob) d r s c:=by
 have hs : Zu [] X [] (X2.set p ob):=⟨by rw [List.length_set];exact hle.len,fun j hj hn=>by
  rw [List.getElem?_set_ne (by omega)]
  exact hle.step.keep j hj (by simp),fun j hj=>by cases hj⟩
 exact hd.step hs (by simp) (by simp) (by simp) (by simp)
theorem Zrf {Y : Zd} : R (n+9) Kj [strv h] Y=some (iv (Z9 h),Y):=Znp (n:=n+5)
theorem ZzH (hd : ND X d r s c) : ∃ X',R (n+10) Zak [pt d,strv k,strv h] X=some (iv (YU k h s.A),X')∧ND X' d r (Zch k h s) c∧Zu r.own X r.own X':=by
 obtain ⟨p,X2,e1,c1,k1,hp⟩:=ZcU (n:=n) (k:=k) hd
 have h2:=hd.hle k1
 have f1 : ∀ v X',Zax (R (n+9)) (pt d) (strv k) (strv h) X=some (v,X')→R (n+10) Zak [pt d,strv k,strv h] X=some (v,X'):=fun v X' hr=>by rw [R,Zm4 rfl];exact hr
 have hstep : Zu r.own X r.own X2:=k1.stepq
 by_cases he : YU k h s.A=0
 ·obtain ⟨a1,a2,a3,a4⟩:=Ztm he
  have hN : ZG k s.A=8:=by unfold ZG;rw [a1,a3];rfl
  rw [hN] at e1
  obtain ⟨X3,e3,m3,s3,_⟩:=h2.m.mup (k:=k) (v:=((h,false) : Acc))
  have e3 : mup .str (.map (some r.b)) (strv k) (Zau (h,false)) X2=_:=e3
  obtain ⟨d3,s4⟩:=h2.toND0.setA m3 s3
  have hn : Zch k h s={ s with A:=Qo k (h,false) s.A }:=by unfold Zch;rw [if_pos he]
  rw [he,hn]
  refine ⟨X3,f1 _ _ ?_,⟨d3,by rw [← hn];exact hd.inv.create k h⟩,hstep.trans s4⟩
  have q1 : bop .int .eql (iv 8) (.int .i64 10) X2=some (.bool false,X2):=by rw [ZE];rfl
  have q2 : bop .int .neq (iv (Z9 h)) (.int .i64 0) X2=some (.bool false,X2):=by rw [Zl];unfold Z9;rw [a2];rfl
  have q3 : bop .int .eql (iv 8) (.int .i64 0) X2=some (.bool false,X2):=by rw [ZE];rfl
  have q4 : bop .int .geq (iv s.A.length) (.int .i64 12) X2=some (.bool false,X2):=by rw [Qp,decide_eq_false (by omega)]
  have zb : bld (.agg #[.string ⟨#[]⟩,.bool false]) [(0,1,strv h)] X2=some (Zau (h,false),X2):=by
   simp [bld,Zal,Value.cells,YX,strv,splice,Zau]
  unfold Zax
  refine (e1 _).trans ?_
  rw [Za q1,Zb,if_neg (by simp),Za Zrf,Za q2,Zb,if_neg (by simp),Za q3,Zb,if_neg (by simp),Za Zg,Za Zj,Za h2.l0,Za h2.m.len,Za q4,Zb,if_neg (by simp),Za Zg,Za Zj,Za h2.l0,Za zb,Za e3]
  rfl
 ·have hn : Zch k h s=s:=by unfold Zch;rw [if_neg he]
  rw [hn]
  refine ⟨X2,f1 _ _ ?_,h2,hstep⟩
  unfold Zax
  refine (e1 _).trans ?_
  cases a1 : Zt k
  ·have hN : ZG k s.A=10:=by unfold ZG;rw [a1];rfl
   have hE : YU k h s.A=10:=by unfold YU;rw [a1];rfl
   have q1 : bop .int .eql (iv 10) (.int .i64 10) X2=some (.bool true,X2):=by rw [ZE];rfl
   rw [hN,hE,Za q1,Zb,if_pos rfl]
   rfl
  ·have hN : ZG k s.A=0∨ZG k s.A=8:=by unfold ZG;rw [a1];cases (Zf k s.A).isSome <;> simp
   have q1 : bop .int .eql (iv (ZG k s.A)) (.int .i64 10) X2=some (.bool false,X2):=by rw [ZE];rcases hN with h1 | h1 <;> rw [h1] <;> rfl
   rw [Za q1,Zb,if_neg (by simp),Za Zrf]
   cases a2 : Kr h
   ·have hE : YU k h s.A=4:=by unfold YU;rw [a1,a2];rfl
    have q2 : bop .int .neq (iv (Z9 h)) (.int .i64 0) X2=some (.bool true,X2):=by rw [Zl];unfold Z9;rw [a2];rfl
    rw [Za q2,Zb,if_pos rfl,hE]
    rfl
   ·have q2 : bop .int .neq (iv (Z9 h)) (.int .i64 0) X2=some (.bool false,X2):=by rw [Zl];unfold Z9;rw [a2];rfl
    rw [Za q2,Zb,if_neg (by simp)]
    cases a3 : (Zf k s.A).isSome
    ·have hN : ZG k s.A=8:=by unfold ZG;rw [a1,a3];rfl
     have q3 : bop .int .eql (iv (ZG k s.A)) (.int .i64 0) X2=some (.bool false,X2):=by rw [ZE,hN];rfl
     have a4 : 12≤s.A.length:=by
      unfold YU at he
      rw [a1,a2,a3] at he
      simpa using he
     have hE : YU k h s.A=7:=by unfold YU;rw [a1,a2,a3];simp [a4]
     have q4 : bop .int .geq (iv s.A.length) (.int .i64 12) X2=some (.bool true,X2):=by rw [Qp,decide_eq_true (by omega)]
     rw [Za q3,Zb,if_neg (by simp),Za Zg,Za Zj,Za h2.l0,Za h2.m.len,Za q4,Zb,if_pos rfl,hE]
     rfl
    ·have hN : ZG k s.A=0:=by unfold ZG;rw [a1,a3];rfl
     have hE : YU k h s.A=9:=by unfold YU;rw [a1,a2,a3];rfl
     have q3 : bop .int .eql (iv (ZG k s.A)) (.int .i64 0) X2=some (.bool true,X2):=by rw [ZE,hN];rfl
     rw [Za q3,Zb,if_pos rfl,hE]
     rfl
theorem ZAp (hd : ND X d r s c) : ∃ X',R (n+10) Zat [pt d,strv k] X=some (iv (ZG k s.A),X')∧ND X' d r (Zck k s) c∧Zu r.own X r.own X':=by
 obtain ⟨p,X2,e1,c1,k1,hp⟩:=ZcU (n:=n) (k:=k) hd
 have h2:=hd.hle k1
 have f1 : ∀ v X',Zaw (R (n+9)) (pt d) (strv k) X=some (v,X')→R (n+10) Zat [pt d,strv k] X=some (v,X'):=fun v X' hr=>by rw [R,Zl2 rfl];exact hr
 have hstep : Zu r.own X r.own X2:=k1.stepq
 by_cases he : ZG k s.A=0
 ·obtain ⟨X3,e3,m3,s3,_⟩:=h2.m.mde (k:=k)
  obtain ⟨d3,t3⟩:=h2.toND0.setA m3 s3
  obtain ⟨X4,e4,i4,s4⟩:=Zni (n:=n+8) (k:=k) d3.ix
  have e4 : R (n+9) Jh [pt r.x,strv k] X3=_:=e4
  obtain ⟨d4,t4⟩:=d3.setI i4 s4
  obtain ⟨X5,e5,g5,s5⟩:=ZA5 (n:=n+1) (m:=k) d4.gr
  have e5 : R (n+9) K9 [pt r.g,strv k] X4=_:=e5
  obtain ⟨d5,t5⟩:=d4.setG g5 s5 hd.ks
  have q1 : bop .int .neq (iv (ZG k s.A)) (.int .i64 0) X2=some (.bool false,X2):=by rw [Zl,he];rfl
  have hn : Zck k s={ s with A:=Yi k s.A,OW:=ZbU k s.OW s.OF,OF:=WF k s.OF,mem:=Zq6 k s.mem }:=by unfold Zck;rw [if_pos he]
  have hinv:=hd.inv.delete k
  rw [hn] at hinv ⊢
  refine ⟨X5,f1 _ _ ?_,⟨d5,hinv⟩,((hstep.trans t3).trans t4).trans t5⟩
  unfold Zaw
  refine (e1 _).trans ?_
  rw [Za q1,Zb,if_neg (by simp),Za Zg,Za Zj,Za h2.l0,Za e3,Za Zg,Za Zj,Za d3.l1,Za e4,Za Zg,Za Zj,Za d4.l2,Za e5,he]
  rfl
 ·have hn : Zck k s=s:=by unfold Zck;rw [if_neg he]
  have q1 : bop .int .neq (iv (ZG k s.A)) (.int .i64 0) X2=some (.bool true,X2):=by rw [Zl];simp [he]
  rw [hn]
  refine ⟨X2,f1 _ _ ?_,h2,hstep⟩
  unfold Zaw
  refine (e1 _).trans ?_
  rw [Za q1,Zb,if_pos rfl]
  rfl
theorem Zy7 (hd : ND X d r s c) : ∃ X',R (n+10) WR [pt d,strv k,strv h] X=some (iv (Yg k h s.A),X')∧ND X' d r (Zbg k h s) c∧Zu r.own X r.own X':=by
 obtain ⟨p,X2,e1,c1,k1,hp⟩:=ZcU (n:=n) (k:=k) hd
 have h2:=hd.hle k1
 have f1 : ∀ v X',WT (R (n+9)) (pt d) (strv k) (strv h) X=some (v,X')→R (n+10) WR [pt d,strv k,strv h] X=some (v,X'):=fun v X' hr=>by rw [R,Zlh rfl];exact hr
 have hstep : Zu r.own X r.own X2:=k1.stepq
 by_cases he : Yg k h s.A=0
 ·obtain ⟨a1,a2,a3,a4⟩:=Zrp he
  have hN : ZG k s.A=0:=by unfold ZG;rw [a1,a3];rfl
  rw [hN] at e1
  rw [a1] at c1
  have c1 : X2[p]?=some (.cells [strv (Jl k s.A).1,.bool (Jl k s.A).2] 1 false false):=c1
  have l1 : ld1 (pa p 1) X2=some (.bool false,X2):=by rw [Zy c1 rfl,a4]
  have w1 : st1 (pa p 0) (strv h) X2=some (undef,X2.set p (.cells [strv h,.bool (Jl k s.A).2] 1 false false)):=ZeS (o:=0) c1 (by simp) rfl
  have d2 : ldA 2 (pt p) (X2.set p (.cells [strv h,.bool (Jl k s.A).2] 1 false false))=some (Zau (h,(Jl k s.A).2),_):=Qe (n:=2) (Z8 c1) rfl
  have h3:=hd.toND0.box (ob:=.cells [strv h,.bool (Jl k s.A).2] 1 false false) k1 hp
  obtain ⟨X3,e3,m3,s3,_⟩:=h3.m.mup (k:=k) (v:=((h,(Jl k s.A).2) : Acc))
  obtain ⟨d3,s4⟩:=h3.setA m3 s3
  have hn : Zbg k h s={ s with A:=Qo k (h,(Jl k s.A).2) s.A }:=by unfold Zbg;rw [if_pos he]
  have hinv:=hd.inv.setHash k h
  rw [hn] at hinv ⊢
  rw [he]
  refine ⟨X3,f1 _ _ ?_,⟨d3,hinv⟩,Zv6 k1 hp s4⟩
  have q1 : bop .int .eql (iv 0) (.int .i64 10) X2=some (.bool false,X2):=by rw [ZE];rfl
  have q2 : bop .int .neq (iv (Z9 h)) (.int .i64 0) X2=some (.bool false,X2):=by rw [Zl];unfold Z9;rw [a2];rfl
  have q3 : bop .int .neq (iv 0) (.int .i64 0) X2=some (.bool false,X2):=by rw [Zl];rfl
  unfold WT
  refine (e1 _).trans ?_
  rw [Za q1,Zb,if_neg (by simp),Za Zrf,Za q2,Zb,if_neg (by simp),Za q3,Zb,if_neg (by simp),Za Zj,Za l1,Zb,if_neg (by simp),Za Zj,Za w1,Za Zg,Za Zj,Za h3.l0,Za d2,Za e3]
  rfl
 ·have hn : Zbg k h s=s:=by unfold Zbg;rw [if_neg he]
  rw [hn]
  refine ⟨X2,f1 _ _ ?_,h2,hstep⟩
  unfold WT
  refine (e1 _).trans ?_
  cases a1 : Zt k
  ·have hN : ZG k s.A=10:=by unfold ZG;rw [a1];rfl
   have hE : Yg k h s.A=10:=by unfold Yg;rw [a1];rfl
   have q1 : bop .int .eql (iv 10) (.int .i64 10) X2=some (.bool true,X2):=by rw [ZE];rfl
   rw [hN,hE,Za q1,Zb,if_pos rfl]
   rfl
  ·rw [a1] at c1
   have c1 : X2[p]?=some (.cells [strv (Jl k s.A).1,.bool (Jl k s.A).2] 1 false false):=c1
   have hN : ZG k s.A=0∨ZG k s.A=8:=by unfold ZG;rw [a1];cases (Zf k s.A).isSome <;> simp
   have q1 : bop .int .eql (iv (ZG k s.A)) (.int .i64 10) X2=some (.bool false,X2):=by rw [ZE];rcases hN with h1 | h1 <;> rw [h1] <;> rfl
   rw [Za q1,Zb,if_neg (by simp),Za Zrf]
   cases a2 : Kr h
   ·have hE : Yg k h s.A=4:=by unfold Yg;rw [a1,a2];rfl
    have q2 : bop .int .neq (iv (Z9 h)) (.int .i64 0) X2=some (.bool true,X2):=by rw [Zl];unfold Z9;rw [a2];rfl
    rw [Za q2,Zb,if_pos rfl,hE]
    rfl
   ·have q2 : bop .int .neq (iv (Z9 h)) (.int .i64 0) X2=some (.bool false,X2):=by rw [Zl];unfold Z9;rw [a2];rfl
    rw [Za q2,Zb,if_neg (by simp)]
    cases a3 : (Zf k s.A).isSome
    ·have hN : ZG k s.A=8:=by unfold ZG;rw [a1,a3];rfl
     have hE : Yg k h s.A=8:=by unfold Yg;rw [a1,a2,a3];rfl
     have q3 : bop .int .neq (iv (ZG k s.A)) (.int .i64 0) X2=some (.bool true,X2):=by rw [Zl,hN];rfl
     rw [Za q3,Zb,if_pos rfl,hE,hN]
     rfl
    ·have hN : ZG k s.A=0:=by unfold ZG;rw [a1,a3];rfl
     have q3 : bop .int .neq (iv (ZG k s.A)) (.int .i64 0) X2=some (.bool false,X2):=by rw [Zl,hN];rfl
     have a4 : (Jl k s.A).2=true:=by
      unfold Yg at he
      rw [a1,a2,a3] at he
      simpa using he
     have hE : Yg k h s.A=12:=by unfold Yg;rw [a1,a2,a3,a4];rfl
     have l1 : ld1 (pa p 1) X2=some (.bool true,X2):=by rw [Zy c1 rfl,a4]
     rw [Za q3,Zb,if_neg (by simp),Za Zj,Za l1,Zb,if_pos rfl,hE]
     rfl
theorem Zza (hd : ND X d r s c) : ∃ X',R (n+10) KZ [pt d,strv k,strv m] X=some (iv (Yj k m s),X')∧ND X' d r (KQ k m s) c∧Zu r.own X r.own X':=by
 obtain ⟨p,X2,e1,c1,k1,hp⟩:=ZcU (n:=n) (k:=k) hd
 have f1 : ∀ v X',Y7 (R (n+9)) (pt d) (strv k) (strv m) X=some (v,X')→R (n+10) KZ [pt d,strv k,strv m] X=some (v,X'):=fun v X' hr=>by rw [R,Zll rfl];exact hr
 obtain ⟨X3,e3,k3⟩:=Zqp (n:=n+1) (s:=m) (X:=X2)
 have e3 : R (n+9) W0 [strv m] X2=_:=e3
 have k13:=k1.trans k3
 have h3:=hd.hle k13
 have hstep : Zu r.own X r.own X3:=k13.stepq
 have hgate : ∀ K : Value→M Value,bind (bop .str .neq (strv m) (Value.string ⟨#[]⟩)) (fun v28=>bind (gate v28 true 2 (bind (bop .int .neq (iv (if J2 m then 0 else 11)) (Value.int .i64 0)) fun v31=>ret [iv (if J2 m then 0 else 11),v31])) (c2 fun _ q=>bind (pick v28 q (Value.bool false)) K)) X3=K (.bool (decide (m≠[]∧J2 m=false))) X3:=fun K=>by
  have q0 : bop .str .neq (strv m) (.string ⟨#[]⟩) X3=some (.bool (decide (m≠[])),X3):=by
   have:=ZfO (a:=m) (b:=[]) (H:=X3)
   rw [show (strv [] : Value)=.string ⟨#[]⟩ from rfl] at this
   rw [this]
   by_cases h : m=[] <;> simp [h]
  have q1 : bop .int .neq (iv (if J2 m then 0 else 11)) (.int .i64 0) X3=some (.bool (!J2 m),X3):=by
   rw [Zl];cases J2 m <;> rfl
  rw [Za q0]
  by_cases h : m=[]
  ·rw [decide_eq_false (fun e=>e h),Za (g_r.trans (if_neg (by simp)))]
   simp only [List.replicate]
   rw [QB,Za Zm,decide_eq_false (fun e=>e.1 h)]
   rfl
  ·rw [decide_eq_true h,ZX,Zk,Za q1,Qi,QB,Za Zm]
   cases hm : J2 m <;> simp [h]
 cases a1 : Zt k
 ·have hN : ZG k s.A=10:=by unfold ZG;rw [a1];rfl
  have hE : Yj k m s=10:=by unfold Yj;rw [a1];rfl
  have hn : KQ k m s=s:=by unfold KQ;rw [if_neg (by rw [hE];decide)]
  have q1 : bop .int .eql (iv 10) (.int .i64 10) X3=some (.bool true,X3):=by rw [ZE];rfl
  rw [hn,hE]
  refine ⟨X3,f1 _ _ ?_,h3,hstep⟩
  unfold Y7
  refine (e1 _).trans ?_
  rw [Za e3,Za Zq,Za Zr,hN,Za q1,Zb,if_pos rfl]
  rfl
 ·have hN : ZG k s.A=0∨ZG k s.A=8:=by unfold ZG;rw [a1];cases (Zf k s.A).isSome <;> simp
  have q1 : bop .int .eql (iv (ZG k s.A)) (.int .i64 10) X3=some (.bool false,X3):=by rw [ZE];rcases hN with h1 | h1 <;> rw [h1] <;> rfl
  by_cases hb : m≠[]∧J2 m=false
  ·have hE : Yj k m s=11:=by unfold Yj;rw [a1];simp [hb]
   have hn : KQ k m s=s:=by unfold KQ;rw [if_neg (by rw [hE];decide)]
   rw [hn,hE]
   refine ⟨X3,f1 _ _ ?_,h3,hstep⟩
   unfold Y7
   refine (e1 _).trans ?_
   rw [Za e3,Za Zq,Za Zr,Za q1,Zb,if_neg (by simp)]
   refine (hgate _).trans ?_
   rw [decide_eq_true hb,Zb,if_pos rfl,hb.2]
   rfl
  ·cases a3 : (Zf k s.A).isSome
   ·have hN : ZG k s.A=8:=by unfold ZG;rw [a1,a3];rfl
    have hE : Yj k m s=8:=by unfold Yj;rw [a1,if_pos rfl,if_neg hb,a3];rfl
    have hn : KQ k m s=s:=by unfold KQ;rw [if_neg (by rw [hE];decide)]
    have q3 : bop .int .neq (iv (ZG k s.A)) (.int .i64 0) X3=some (.bool true,X3):=by rw [Zl,hN];rfl
    rw [hn,hE]
    refine ⟨X3,f1 _ _ ?_,h3,hstep⟩
    unfold Y7
    refine (e1 _).trans ?_
    rw [Za e3,Za Zq,Za Zr,Za q1,Zb,if_neg (by simp)]
    refine (hgate _).trans ?_
    rw [decide_eq_false hb,Zb,if_neg (by simp),Za q3,Zb,if_pos rfl,hN]
    rfl
   ·have hN : ZG k s.A=0:=by unfold ZG;rw [a1,a3];rfl
    have hE : Yj k m s=KC k m s.OW:=by unfold Yj;rw [a1,if_pos rfl,if_neg hb,a3];rfl
    have q3 : bop .int .neq (iv (ZG k s.A)) (.int .i64 0) X3=some (.bool false,X3):=by rw [Zl,hN];rfl
    obtain ⟨X4,e4,i4,s4⟩:=ZAi (n:=n) (k:=k) (m:=m) h3.ix
    obtain ⟨d4,t4⟩:=h3.toND0.setI i4 s4
    have hn : KQ k m s={ s with OW:=ZsT k m s.OW s.OF,OF:=Ze1 k m s.OW s.OF }:=by
     unfold KQ
     by_cases h0 : Yj k m s=0
     ·rw [if_pos h0]
     ·rw [if_neg h0]
      rw [hE] at h0
      unfold ZsT Ze1
      rw [if_neg h0,if_neg h0]
    have hinv:=hd.inv.setMail k m
    rw [hn] at hinv ⊢
    rw [hE]
    refine ⟨X4,f1 _ _ ?_,⟨d4,hinv⟩,hstep.trans t4⟩
    unfold Y7
    refine (e1 _).trans ?_
    rw [Za e3,Za Zq,Za Zr,Za q1,Zb,if_neg (by simp)]
    refine (hgate _).trans ?_
    rw [decide_eq_false hb,Zb,if_neg (by simp),Za q3,Zb,if_neg (by simp),Za Zg,Za Zj,Za h3.l1,Za e4]
    rfl
theorem Zq3 {b : Bool} (hd : ND X d r s c) : ∃ X',R (n+10) Yq [pt d,strv k,.bool b] X=some (iv (Ys k b s.A),X')∧ND X' d r (KO k b s) c∧Zu r.own X r.own X':=by
 obtain ⟨p,X2,e1,c1,k1,hp⟩:=ZcU (n:=n) (k:=k) hd
 have h2:=hd.hle k1
 have f1 : ∀ v X',K5 (R (n+9)) (pt d) (strv k) (.bool b) X=some (v,X')→R (n+10) Yq [pt d,strv k,.bool b] X=some (v,X'):=fun v X' hr=>by rw [R,Zk0 rfl];exact hr
 have hstep : Zu r.own X r.own X2:=k1.stepq
 by_cases hN : ZG k s.A=0
 ·obtain ⟨a1,_⟩:=ZqD hN
  rw [a1] at c1
  have c1 : X2[p]?=some (.cells [strv (Jl k s.A).1,.bool (Jl k s.A).2] 1 false false):=c1
  have l1 : ld1 (pa p 1) X2=some (.bool (Jl k s.A).2,X2):=Zy c1 rfl
  have q1 : bop .int .neq (iv (ZG k s.A)) (.int .i64 0) X2=some (.bool false,X2):=by rw [Zl,hN];rfl
  by_cases hb : (Jl k s.A).2=b
  ·have hE : Ys k b s.A=12:=by unfold Ys;rw [if_pos hN,if_pos hb]
   have hn : KO k b s=s:=by unfold KO;rw [if_neg (by rw [hE];decide)]
   have q2 : bop .bool .eql (.bool (Jl k s.A).2) (.bool b) X2=some (.bool true,X2):=by rw [JB,hb];simp
   rw [hn,hE]
   refine ⟨X2,f1 _ _ ?_,h2,hstep⟩
   unfold K5
   refine (e1 _).trans ?_
   rw [Za q1,Zb,if_neg (by simp),Za Zj,Za l1,Za q2,Zb,if_pos rfl]
   rfl
  ·have hE : Ys k b s.A=0:=by unfold Ys;rw [if_pos hN,if_neg hb]
   have q2 : bop .bool .eql (.bool (Jl k s.A).2) (.bool b) X2=some (.bool false,X2):=by rw [JB];simp [hb]
   have w1 : st1 (pa p 1) (.bool b) X2=some (undef,X2.set p (.cells [strv (Jl k s.A).1,.bool b] 1 false false)):=ZeS (o:=1) c1 (by simp) rfl
   have d2 : ldA 2 (pt p) (X2.set p (.cells [strv (Jl k s.A).1,.bool b] 1 false false))=some (Zau ((Jl k s.A).1,b),_):=Qe (n:=2) (Z8 c1) rfl
   have h3:=hd.toND0.box (ob:=.cells [strv (Jl k s.A).1,.bool b] 1 false false) k1 hp
   obtain ⟨X3,e3,m3,s3,_⟩:=h3.m.mup (k:=k) (v:=(((Jl k s.A).1,b) : Acc))
   obtain ⟨d3,s4⟩:=h3.setA m3 s3
   have hn : KO k b s={ s with A:=Qo k ((Jl k s.A).1,b) s.A }:=by unfold KO;rw [if_pos hE]
   have hinv:=hd.inv.disable k b
   rw [hn] at hinv ⊢
   rw [hE]
   refine ⟨X3,f1 _ _ ?_,⟨d3,hinv⟩,Zv6 k1 hp s4⟩
   unfold K5
   refine (e1 _).trans ?_
   rw [Za q1,Zb,if_neg (by simp),Za Zj,Za l1,Za q2,Zb,if_neg (by simp),Za Zj,Za w1,Za Zg,Za Zj,Za h3.l0,Za d2,Za e3]
   rfl
 ·have hE : Ys k b s.A=ZG k s.A:=by unfold Ys;rw [if_neg hN]
  have hn : KO k b s=s:=by unfold KO;rw [if_neg (by rw [hE];exact hN)]
  have q1 : bop .int .neq (iv (ZG k s.A)) (.int .i64 0) X2=some (.bool true,X2):=by rw [Zl];simp [hN]
  rw [hn,hE]
  refine ⟨X2,f1 _ _ ?_,h2,hstep⟩
  unfold K5
  refine (e1 _).trans ?_
  rw [Za q1,Zb,if_pos rfl]
  rfl
theorem ZAG (hd : ND X d r s c) : ∃ X',R (n+10) Wo [pt d,strv o,strv t] X=some (iv (Kc o t s.A),X')∧ND X' d r (Zce o t s) c∧Zu r.own X r.own X':=by
 obtain ⟨p,X2,e1,c1,k1,hp⟩:=ZcU (n:=n) (k:=o) hd
 obtain ⟨p2,X3,e2,b2,k2,hp2⟩:=ZcU (n:=n) (k:=t) (hd.hle k1)
 have k12:=k1.trans k2
 have h3:=hd.hle k12
 have c13:=k2 _ _ c1
 have hstep : Zu r.own X r.own X3:=k12.stepq
 have f1 : ∀ v X',Zam (R (n+9)) (pt d) (strv o) (strv t) X=some (v,X')→R (n+10) Wo [pt d,strv o,strv t] X=some (v,X'):=fun v X' hr=>by rw [R,Zl9 rfl];exact hr
 have e10 : ∀ (k : Tx),(ZG k s.A==10)=!Zt k:=fun k=>by
  unfold ZG
  cases Zt k
  ·rfl
  ·cases (Zf k s.A).isSome <;> rfl
 have q1 : bop .int .eql (iv (ZG o s.A)) (.int .i64 10) X3=some (.bool (!Zt o),X3):=by rw [ZE,e10]
 have q2 : bop .int .eql (iv (ZG t s.A)) (.int .i64 10) X3=some (.bool (!Zt t),X3):=by rw [ZE,e10]
 have hgate : ∀ K : Value→M Value,bind (bop .int .eql (iv (ZG o s.A)) (.int .i64 10)) (fun v25=>bind (gate v25 false 2 (bind (bop .int .eql (iv (ZG t s.A)) (Value.int .i64 10)) fun v28=>ret [iv (ZG t s.A),v28])) (c2 fun _ q=>bind (pick v25 (Value.bool true) q) K)) X3=K (.bool (!(Zt o && Zt t))) X3:=fun K=>by
  rw [Za q1]
  cases Zt o
  ·simp only [Bool.not_false]
   rw [Za (g_r.trans (if_neg (by simp)))]
   simp only [List.replicate]
   rw [QB,Za Zm]
   rfl
  ·simp only [Bool.not_true]
   rw [ZX,Zk,Za q2,Qi,QB,Za Zm]
   cases Zt t <;> rfl
 by_cases he : Kc o t s.A=0
 ·obtain ⟨a1,a2,a3,a4,a5⟩:=Zth he
  have hN1 : ZG o s.A=0:=by unfold ZG;rw [a1,a3];rfl
  have hN2 : ZG t s.A=8:=by unfold ZG;rw [a2,a4];rfl
  rw [a1] at c13
  have c13 : X3[p]?=some (.cells [strv (Jl o s.A).1,.bool (Jl o s.A).2] 1 false false):=c13
  have q3 : bop .int .neq (iv (ZG o s.A)) (.int .i64 0) X3=some (.bool false,X3):=by rw [Zl,hN1];rfl
  have q4 : bop .int .eql (iv (ZG t s.A)) (.int .i64 0) X3=some (.bool false,X3):=by rw [ZE,hN2];rfl
  obtain ⟨X4,e4,m4,s4,_⟩:=h3.m.mde (k:=o)
  obtain ⟨d4,t4⟩:=h3.toND0.setA m4 s4
  have d4' : ldA 2 (pt p) X4=some (Zau (Jl o s.A),X4):=by
   have c14 : X4[p]?=some (.cells [strv (Jl o s.A).1,.bool (Jl o s.A).2] 1 false false):=(h3.toND0.cle t4) _ _ _ _ _ c13
   exact Qe (n:=2) c14 rfl
  obtain ⟨X5,e5,m5,s5,_⟩:=d4.m.mup (k:=t) (v:=Jl o s.A)
  obtain ⟨d5,t5⟩:=d4.setA m5 s5
  obtain ⟨X6,e6,i6,s6⟩:=ZEt (n:=n+3) (old:=o) (next:=t) d5.ix
  have e6 : R (n+9) K3 [pt r.x,strv o,strv t] X5=_:=e6
  obtain ⟨d6,t6⟩:=d5.setI i6 s6
  obtain ⟨X7,e7,g7,s7⟩:=ZFk (n:=n+1) (s:=o) (t:=t) d6.gr
  have e7 : R (n+9) Kd [pt r.g,strv o,strv t] X6=_:=e7
  have hks : ZN r.G=s.K:=hd.ks
  have hren : Zjm o t (ZN r.G) s.mem=0:=by
   unfold Zjm
   rw [a2,if_pos rfl,if_neg a5]
   have : ofL t (ZN r.G) s.mem=[]:=by
    unfold ofL
    rw [List.filter_eq_nil_iff]
    intro x hx
    rw [hd.inv.memN a4 x];simp
   rw [if_pos this]
  have g7 : Grp X7 r.g r.o2 r.G (if Zjm o t (ZN r.G) s.mem=0 then Zf9 o t s.mem else s.mem) c:=g7
  rw [if_pos hren] at g7
  obtain ⟨d7,t7⟩:=d6.setG g7 s7 hks
  have hn : Zce o t s={ s with A:=Qo t (Jl o s.A) (Yi o s.A),OW:=Zyz o t s.OW s.OF,OF:=Zmc o t s.OF,mem:=Zf9 o t s.mem }:=by unfold Zce;rw [if_pos he]
  have hinv:=hd.inv.rename o t
  rw [hn] at hinv ⊢
  rw [he]
  refine ⟨X7,f1 _ _ ?_,⟨d7,hinv⟩,(((hstep.trans t4).trans t5).trans t6).trans t7⟩
  unfold Zam
  refine (e1 _).trans ((e2 _).trans ((hgate _).trans ?_))
  rw [a1,a2]
  simp only [Bool.and_self,Bool.not_true]
  rw [Zb,if_neg (by simp),Za q3,Zb,if_neg (by simp),Za q4,Zb,if_neg (by simp),Za Zg,Za Zj,Za h3.l0,Za e4,Za Zg,Za Zj,Za d4.l0,Za d4',Za e5,Za Zg,Za Zj,Za d5.l1,Za e6,Za Zg,Za Zj,Za d6.l2,Za e7]
  rfl
 ·have hn : Zce o t s=s:=by unfold Zce;rw [if_neg he]
  rw [hn]
  refine ⟨X3,f1 _ _ ?_,h3,hstep⟩
  unfold Zam
  refine (e1 _).trans ((e2 _).trans ((hgate _).trans ?_))
  cases ab : Zt o && Zt t
  ·have hE : Kc o t s.A=10:=by unfold Kc;rw [ab];rfl
   rw [Zb,if_pos (by rfl),hE]
   rfl
  ·have ab':=ab
   simp only [Bool.and_eq_true] at ab'
   rw [Zb,if_neg (by simp)]
   cases a3 : (Zf o s.A).isSome
   ·have hN1 : ZG o s.A=8:=by unfold ZG;rw [ab'.1,a3];rfl
    have hE : Kc o t s.A=8:=by unfold Kc;rw [ab,a3];rfl
    have q3 : bop .int .neq (iv (ZG o s.A)) (.int .i64 0) X3=some (.bool true,X3):=by rw [Zl,hN1];rfl
    rw [Za q3,Zb,if_pos rfl,hE,hN1]
    rfl
   ·have hN1 : ZG o s.A=0:=by unfold ZG;rw [ab'.1,a3];rfl
    have q3 : bop .int .neq (iv (ZG o s.A)) (.int .i64 0) X3=some (.bool false,X3):=by rw [Zl,hN1];rfl
    have a4 : (Zf t s.A).isSome=true:=by
     unfold Kc at he
     rw [ab,a3] at he
     cases h4 : (Zf t s.A).isSome
     ·rw [h4] at he;simp at he
     ·rfl
    have hN2 : ZG t s.A=0:=by unfold ZG;rw [ab'.2,a4];rfl
    have hE : Kc o t s.A=9:=by unfold Kc;rw [ab,a3,a4];rfl
    have q4 : bop .int .eql (iv (ZG t s.A)) (.int .i64 0) X3=some (.bool true,X3):=by rw [ZE,hN2];rfl
    rw [Za q3,Zb,if_neg (by simp),Za q4,Zb,if_pos rfl,hE]
    rfl
theorem ZDg (hd : ND X d r s c) : ∃ X' r',R (n+10) Wg [pt d,strv g] X=some (iv (Yd g s.K),X')∧ND X' d r' (Znr g s) c∧Zu r.own X r'.own X':=by
 obtain ⟨X1,G',e1,g1,k1,s1⟩:=ZxJ (n:=n+1) (k:=g) hd.gr
 have e1 : R (n+9) JV [pt r.g,strv g] X=_:=e1
 rw [hd.ks] at e1 k1
 obtain ⟨d1,t1⟩:=hd.toND0.setG g1 s1 k1
 refine ⟨X1,_,?_,⟨d1,hd.inv.make g⟩,t1⟩
 rw [R,Zje rfl]
 unfold Zcn
 rw [Za Zg,Za Zj,Za hd.l2,Za e1]
 rfl
theorem ZEi (hd : ND X d r s c) : ∃ X' r',R (n+10) Wf [pt d,strv g] X=some (iv (JP g s.K),X')∧ND X' d r' (Zns g s) c∧Zu r.own X r'.own X':=by
 obtain ⟨X1,G',e1,g1,k1,s1⟩:=ZDf (n:=n+1) (k:=g) hd.gr
 have e1 : R (n+9) K2 [pt r.g,strv g] X=_:=e1
 rw [hd.ks] at e1 g1 k1
 obtain ⟨d1,t1⟩:=hd.toND0.setG g1 s1 k1
 refine ⟨X1,_,?_,⟨d1,hd.inv.drop g⟩,t1⟩
 rw [R,Zjn rfl]
 unfold Zco
 rw [Za Zg,Za Zj,Za hd.l2,Za e1]
 rfl
theorem ZtL (hd : ND X d r s c) : ∃ X',R (n+10) Wj [pt d,strv g,strv k] X=some (iv (J6 g k s.A),X')∧HLe X X':=by
 have e0 : R (n+9) QD [strv g] X=some (iv (ZA g),X):=Zcg (n:=n+4)
 obtain ⟨p,X2,e1,c1,k1,hp⟩:=ZcU (n:=n) (k:=k) hd
 have f1 : ∀ v X',Zao (R (n+9)) (pt d) (strv g) (strv k) X=some (v,X')→R (n+10) Wj [pt d,strv g,strv k] X=some (v,X'):=fun v X' hr=>by rw [R,ZlA rfl];exact hr
 cases hg : Zt g
 ·have q1 : bop .int .neq (iv (ZA g)) (.int .i64 0) X=some (.bool true,X):=by rw [Zl];unfold ZA;rw [hg];rfl
  have hE : J6 g k s.A=10:=by unfold J6;rw [hg];rfl
  refine ⟨X,f1 _ _ ?_,.refl _⟩
  unfold Zao
  rw [Za e0,Za q1,Zb,if_pos rfl,hE,show ZA g=10 by unfold ZA;rw [hg];rfl]
  rfl
 ·have q1 : bop .int .neq (iv (ZA g)) (.int .i64 0) X=some (.bool false,X):=by rw [Zl];unfold ZA;rw [hg];rfl
  have hE : J6 g k s.A=ZG k s.A:=by unfold J6;rw [hg];rfl
  refine ⟨X2,f1 _ _ ?_,k1⟩
  unfold Zao
  rw [Za e0,Za q1,Zb,if_neg (by simp),hE]
  exact e1 _
theorem ZC8 (hd : ND X d r s c) : ∃ X',R (n+11) Zae [pt d,strv g,strv k] X=some (iv (ZbF g k s),X')∧ND X' d r (ZfN g k s) (c+1)∧Zu r.own X r.own X':=by
 obtain ⟨X1,e1,k1⟩:=ZtL (n:=n) (g:=g) (k:=k) hd
 have h1:=hd.hle k1
 have f1 : ∀ v X',ZbG (R (n+10)) (pt d) (strv g) (strv k) X=some (v,X')→R (n+11) Zae [pt d,strv g,strv k] X=some (v,X'):=fun v X' hr=>by rw [R,Zp2 rfl];exact hr
 have hinv:=hd.inv.join g k
 by_cases hm : J6 g k s.A=0
 ·have q1 : bop .int .neq (iv (J6 g k s.A)) (.int .i64 0) X1=some (.bool false,X1):=by rw [Zl,hm];rfl
  have hE : ZbF g k s=ZaO g k s.K s.mem:=by unfold ZbF;rw [if_pos hm]
  obtain ⟨X2,e2,g2,s2⟩:=Zys (n:=n+2) (k:=g) (m:=k) h1.gr
  have e2 : R (n+10) Yo [pt r.g,strv g,strv k] X1=_:=e2
  rw [h1.ks] at e2 g2
  obtain ⟨d2,t2⟩:=h1.toND0.setG g2 s2 h1.ks
  have hn : ZfN g k s={ s with K:=s.K,mem:=if ZaO g k s.K s.mem=0 then Zju g k s.mem else s.mem }:=by
   unfold ZfN
   rw [hE]
   by_cases h0 : ZaO g k s.K s.mem=0
   ·rw [if_pos h0,if_pos h0]
   ·rw [if_neg h0,if_neg h0]
  rw [hn] at hinv ⊢
  rw [hE]
  refine ⟨X2,f1 _ _ ?_,⟨d2,hinv⟩,k1.stepq.trans t2⟩
  unfold ZbG
  rw [Za e1,Za q1,Zb,if_neg (by simp),Za Zg,Za Zj,Za h1.l2,Za e2]
  rfl
 ·have q1 : bop .int .neq (iv (J6 g k s.A)) (.int .i64 0) X1=some (.bool true,X1):=by rw [Zl];simp [hm]
  have hE : ZbF g k s=J6 g k s.A:=by unfold ZbF;rw [if_neg hm]
  have hn : ZfN g k s=s:=by unfold ZfN;rw [if_neg (by rw [hE];exact hm)]
  rw [hn,hE]
  refine ⟨X1,f1 _ _ ?_,⟨h1.toND0.more (Nat.le_succ c),hd.inv⟩,k1.stepq⟩
  unfold ZbG
  rw [Za e1,Za q1,Zb,if_pos rfl]
  rfl
theorem ZCq (hd : ND X d r s c) : ∃ X',R (n+11) WI [pt d,strv g,strv k] X=some (iv (ZaS g k s),X')∧ND X' d r (ZdE g k s) (c+1)∧Zu r.own X r.own X':=by
 obtain ⟨X1,e1,k1⟩:=ZtL (n:=n) (g:=g) (k:=k) hd
 have h1:=hd.hle k1
 have f1 : ∀ v X',Zbb (R (n+10)) (pt d) (strv g) (strv k) X=some (v,X')→R (n+11) WI [pt d,strv g,strv k] X=some (v,X'):=fun v X' hr=>by rw [R,Znz rfl];exact hr
 have hinv:=hd.inv.leave g k
 by_cases hm : J6 g k s.A=0
 ·have q1 : bop .int .neq (iv (J6 g k s.A)) (.int .i64 0) X1=some (.bool false,X1):=by rw [Zl,hm];rfl
  have hE : ZaS g k s=ZcK g k s.K s.mem:=by unfold ZaS;rw [if_pos hm]
  obtain ⟨X2,e2,g2,s2⟩:=ZBB (n:=n+2) (k:=g) (m:=k) h1.gr
  have e2 : R (n+10) KB [pt r.g,strv g,strv k] X1=_:=e2
  rw [h1.ks] at e2 g2
  obtain ⟨d2,t2⟩:=h1.toND0.setG g2 s2 h1.ks
  have hn : ZdE g k s={ s with K:=s.K,mem:=if ZcK g k s.K s.mem=0 then ZqZ g k s.mem else s.mem }:=by
   unfold ZdE
   rw [hE]
   by_cases h0 : ZcK g k s.K s.mem=0
   ·rw [if_pos h0,if_pos h0]
   ·rw [if_neg h0,if_neg h0]
  rw [hn] at hinv ⊢
  rw [hE]
  refine ⟨X2,f1 _ _ ?_,⟨d2,hinv⟩,k1.stepq.trans t2⟩
  unfold Zbb
  rw [Za e1,Za q1,Zb,if_neg (by simp),Za Zg,Za Zj,Za h1.l2,Za e2]
  rfl
 ·have q1 : bop .int .neq (iv (J6 g k s.A)) (.int .i64 0) X1=some (.bool true,X1):=by rw [Zl];simp [hm]
  have hE : ZaS g k s=J6 g k s.A:=by unfold ZaS;rw [if_neg hm]
  have hn : ZdE g k s=s:=by unfold ZdE;rw [if_neg (by rw [hE];exact hm)]
  rw [hn,hE]
  refine ⟨X1,f1 _ _ ?_,⟨h1.toND0.more (Nat.le_succ c),hd.inv⟩,k1.stepq⟩
  unfold Zbb
  rw [Za e1,Za q1,Zb,if_pos rfl]
  rfl
end
end Go.Proofs.YtgfbgfafajiehaaGreatDoor.A

namespace Go.Proofs.YtgfbgfafajiehaaGreatDoor.A
set_option linter.unusedVariables false
set_option linter.unusedSimpArgs false
open Go.Proofs Go.Proofs.YtgfbgfafajiehaaGreatDoor
section
variable {X X' H0 : Zd} {n : Nat} {v : Value} {l : List Tx} {x s : Tx}
end
end Go.Proofs.YtgfbgfafajiehaaGreatDoor.A
namespace Go.Proofs.YtgfbgfafajiehaaGreatDoor.A
set_option linter.unusedVariables false
set_option linter.unusedSimpArgs false
open Go.Proofs Go.Proofs.YtgfbgfafajiehaaGreatDoor
abbrev Pr:=Tx × Tx
def prG (u : Pr) : List Value:=[strv u.1,strv u.2]
structure RG (X : Zd) (nv mv : Value) (N : List Tx) (M : List Pr) : Prop where
 n : ∃ q,Zo X nv (N.map strv) q
 m : ∃ q,JM 2 X mv (M.map prG) q
section
variable {X X' H0 : Zd} {n : Nat} {v nv mv z1 z2 z3 z4 : Value} {N l : List Tx} {M : List Pr} {x s t k m : Tx}
theorem RG.hle (h : RG X nv mv N M) (hl : HLe X X') : RG X' nv mv N M:=⟨h.n.elim fun q h=>⟨q,h.step hl.step (by simp)⟩,h.m.elim fun q h=>⟨q,h.step hl.step (by simp)⟩⟩
theorem RG.sn (h : RG X nv mv N M) : Sl X nv (N.map strv):=h.n.elim fun q h=>h.rd
theorem RG.sm (h : RG X nv mv N M) : SlN 2 X mv (M.map prG):=h.m.elim fun q h=>h.rd
theorem RG.one (h : RG X nv mv N M) : ([nv,mv].all oneCell)=true∧nv.cells=#[nv]∧mv.cells=#[mv]:=by
 obtain ⟨q,hn⟩:=h.n
 obtain ⟨q',hm⟩:=h.m
 exact ⟨by simp [hn.one.1,hm.one.1],hn.one.2,hm.one.2⟩
theorem RG.lenM (h : RG X nv mv N M) (Y : Zd) : ZC mv Y=some (iv M.length,Y):=by have:=h.sm.len (H':=Y);simpa using this
theorem RG.box (h : RG X nv mv N M) (Y : Zd) : alc 1 (.agg #[nv,mv]) Y=some (pt Y.length,Y++[.cells [nv,mv] 1 false false]):=Zir (vs:=[nv,mv]) h.one.1
theorem ZFO (Y : Zd) : alc 1 (.agg #[.slice none 0 0,.slice none 0 0]) Y=some (pt Y.length,Y++[.cells [.slice none 0 0,.slice none 0 0] 1 false false]):=Zir (vs:=[.slice none 0 0,.slice none 0 0]) rfl
theorem Zo.isS {vs : List Value} {q : List Nat} (h : Zo X v vs q) : ∃ a n c,v=.slice a n c:=by
 rcases h with ⟨_,_,rfl⟩ | ⟨sid,rest,gr,rfl,_,_⟩
 ·exact ⟨_,_,_,rfl⟩
 ·exact ⟨_,_,_,rfl⟩
theorem ZCL (h : RG X nv mv N M) : ∃ X2,(∀ {β : Type} (K : Value→Value→A.M β),bind (alc 1 (.agg #[nv,mv])) (fun a=>bind (alc 1 (.agg #[.slice none 0 0,.slice none 0 0])) fun b=>K a b) X=K (pt X.length) (pt (X.length+1)) X2)∧X2[X.length]?=some (.cells [nv,mv] 1 false false)∧X2[X.length+1]?=some (.cells [.slice none 0 0,.slice none 0 0] 1 false false)∧HLe X X2∧X2.length=X.length+2:=by
 refine ⟨X++[.cells [nv,mv] 1 false false]++[.cells [.slice none 0 0,.slice none 0 0] 1 false false],fun K=>?_,ZrC,Zqx,(HLe.app _ _).trans (.app _ _),by simp⟩
 rw [Za (h.box X),Za (ZFO _)]
 simp
theorem fin {b1 b2 : Nat} {a1 a2 c1 c2 : Value} (h1 : X[b1]?=some (.cells [a1,a2] 1 false false)) (h2 : X[b2]?=some (.cells [c1,c2] 1 false false)) (hn : b1≠b2) (ho : ([a1,a2].all oneCell)=true) {β : Type} (K : Value→A.M β) :
  bind (ldA 2 (pt b1)) (fun v=>bind (stA 2 (pt b2) v) fun _=>bind (ldA 2 (pt b2)) K) X=K (.agg #[a1,a2]) (X.set b2 (.cells [a1,a2] 1 false false)):=by
 have e1 : ldA 2 (pt b1) X=some (.agg #[a1,a2],X):=Qe h1 rfl
 have e2 : stA 2 (pt b2) (.agg #[a1,a2]) X=some (undef,X.set b2 (.cells [a1,a2] 1 false false)):=Zb7 (vs:=[a1,a2]) h2 rfl rfl ho
 have e3 : ldA 2 (pt b2) (X.set b2 (.cells [a1,a2] 1 false false))=some (.agg #[a1,a2],X.set b2 (.cells [a1,a2] 1 false false)):=Qe (Z8 h2) rfl
 rw [Za e1,Za e2,Za e3]
theorem Zo.setB {vs : List Value} {q : List Nat} {b : Nat} {o : Ze} (h : Zo X v vs q) (hb : b∉q) : Zo (X.set b o) v vs q:=h.keep fun j hj=>List.getElem?_set_ne fun e=>hb (by rw [e];exact hj)
theorem JM.setB {es : Nat} {vs : List (List Value)} {q : List Nat} {b : Nat} {o : Ze} (h : JM es X v vs q) (hb : b∉q) : JM es (X.set b o) v vs q:=h.keep fun j hj=>List.getElem?_set_ne fun e=>hb (by rw [e];exact hj)
end
end Go.Proofs.YtgfbgfafajiehaaGreatDoor.A
namespace Go.Proofs.YtgfbgfafajiehaaGreatDoor.A
set_option linter.unusedVariables false
set_option linter.unusedSimpArgs false
open Go.Proofs Go.Proofs.YtgfbgfafajiehaaGreatDoor
section
variable {X X' H0 : Zd} {n : Nat} {v nv mv z1 z2 z3 z4 : Value} {N l K : List Tx} {M : List Pr} {mem : Mem} {x s t k m : Tx}
end
end Go.Proofs.YtgfbgfafajiehaaGreatDoor.A
namespace Go.Proofs.YtgfbgfafajiehaaGreatDoor.A
set_option linter.unusedVariables false
set_option linter.unusedSimpArgs false
open Go.Proofs Go.Proofs.YtgfbgfafajiehaaGreatDoor
section
variable {X X' H0 : Zd} {n : Nat} {v nv mv z1 z2 z3 z4 : Value} {N l K : List Tx} {M : List Pr} {mem : Mem} {x s t k m : Tx}
end
end Go.Proofs.YtgfbgfafajiehaaGreatDoor.A

namespace Go.Proofs.YtgfbgfafajiehaaGreatDoor.A
set_option linter.unusedVariables false
set_option linter.unusedSimpArgs false
open Go.Proofs Go.Proofs.YtgfbgfafajiehaaGreatDoor
def Zer (l : List Zv) : Prop:=l.Pairwise fun a b=>a.nm < b.nm
section
variable {x : Zv} {k s : List UInt8}
def Zc5 (u : Zv) : List Zv→Bool→List Zv
 | [],_=>[]
 | v :: l,done=>(if !done && decide (u.nm≤v.nm) then [u] else [])++((if v.nm≠u.nm then [v] else [])++Zc5 u l (done || decide (u.nm≤v.nm)))
def ZbW (u : Zv) : List Zv→Bool→Bool
 | [],done=>done
 | v :: l,done=>ZbW u l (done || decide (u.nm≤v.nm))
def putU (u : Zv) (l : List Zv) : List Zv:=Zc5 u l false++if ZbW u l false then [] else [u]
theorem Znb {u : Zv} : ∀ {l : List Zv},Zc5 u l true=l.filter fun v=>decide (v.nm≠u.nm)
 | []=>rfl
 | v :: l=>by
  unfold Zc5
  rw [Bool.true_or,Znb,List.filter_cons]
  by_cases h : v.nm=u.nm <;> simp [h]
theorem ZkL {u : Zv} : ∀ {l : List Zv},ZbW u l true=true
 | []=>rfl
 | v :: l=>by unfold ZbW;rw [Bool.true_or,ZkL]
theorem ZlV {u v : Zv} {l : List Zv} : putU u (v :: l)=if u.nm≤v.nm then u :: (v :: l).filter (fun v=>decide (v.nm≠u.nm)) else v :: putU u l:=by
 have e1 : Zc5 u (v :: l) false=(if !false && decide (u.nm≤v.nm) then [u] else [])++((if v.nm≠u.nm then [v] else [])++Zc5 u l (false || decide (u.nm≤v.nm))):=rfl
 have e2 : ZbW u (v :: l) false=ZbW u l (false || decide (u.nm≤v.nm)):=rfl
 unfold putU
 rw [e1,e2]
 by_cases h : u.nm≤v.nm
 ·rw [if_pos h]
  simp only [h,decide_true,Bool.or_true,Znb,ZkL,Bool.not_false,Bool.and_self,if_true,List.filter_cons]
  by_cases h2 : v.nm=u.nm <;> simp [h2]
 ·rw [if_neg h]
  have h2 : v.nm≠u.nm:=fun e=>h (by rw [e];exact List.le_refl _)
  simp [h,h2]
theorem Zfy {u : Zv} : ∀ {l : List Zv},x∈putU u l↔x=u∨(x∈l∧x.nm≠u.nm)
 | []=>by simp [putU,Zc5,ZbW]
 | v :: l=>by
  rw [ZlV]
  by_cases h : u.nm≤v.nm
  ·rw [if_pos h,List.mem_cons,List.mem_filter];simp
  ·have h2 : v.nm≠u.nm:=fun e=>h (by rw [e];exact List.le_refl _)
   rw [if_neg h,List.mem_cons,Zfy,List.mem_cons]
   constructor
   ·rintro (rfl | h | h)
    ·exact .inr ⟨.inl rfl,h2⟩
    ·exact .inl h
    ·exact .inr ⟨.inr h.1,h.2⟩
   ·rintro (h | ⟨h | h,h3⟩)
    ·exact .inr (.inl h)
    ·exact .inl h
    ·exact .inr (.inr ⟨h,h3⟩)
theorem Ztf {u : Zv} : ∀ {l : List Zv},Zer l→Zer (putU u l)
 | [],_=>by simp [putU,Zc5,ZbW,Zer]
 | v :: l,hr=>by
  have hr2 : (∀ a∈l,v.nm < a.nm)∧Zer l:=by simpa [Zer] using hr
  rw [ZlV]
  by_cases h : u.nm≤v.nm
  ·rw [if_pos h]
   refine List.pairwise_cons.2 ⟨fun a ha=>?_,List.Pairwise.filter _ hr⟩
   obtain ⟨h1,h2⟩:=List.mem_filter.1 ha
   have h2 : a.nm≠u.nm:=by simpa using h2
   have h3 : u.nm≤a.nm:=by
    rcases List.mem_cons.1 h1 with rfl | h1
    ·exact h
    ·exact List.le_trans h (List.le_of_lt (hr2.1 a h1))
   rcases Zmu u.nm a.nm with h4 | h4 | h4
   ·exact h4
   ·exact absurd h4.symm h2
   ·exact absurd h4 h3
  ·rw [if_neg h]
   refine List.pairwise_cons.2 ⟨fun a ha=>?_,Ztf hr2.2⟩
   rcases Zfy.1 ha with rfl | ⟨h1,_⟩
   ·rcases Zmu v.nm a.nm with h4 | h4 | h4
    ·exact h4
    ·exact absurd (by rw [h4];exact List.le_refl _) h
    ·exact absurd (List.le_of_lt h4) h
   ·exact hr2.1 a h1
end
section
variable {H0 H X : Zd} {n d b : Nat} {ws : List Zv} {k s : List UInt8} {wv : Value}
theorem ZAd {u : Zv} (h : oneCell u.gv=true) : u.cells.all oneCell=true:=by simp only [Zv.cells,List.all_cons,h];rfl
theorem Zsg {β : Type} {k : Value→M β} {sl : Value} {us : List Zv} (h : SlN 5 H sl (us.map Zv.cells)) {j : Nat} {u : Zv} (ho : oneCell u.gv=true) (hj : us[j]?=some u) :
  bind (ixa 5 sl (iv j)) (fun p=>bind (ldA 5 p) fun v=>bind (alc 1 (.agg #[.string ⟨#[]⟩,.string ⟨#[]⟩,.string ⟨#[]⟩,.bool false,.slice none 0 0])) fun q=>bind (stA 5 q v) fun _=>k q) H=k (pt H.length) (H++[.cells u.cells 1 false false]):=by
 have hr : (us.map Zv.cells)[j]?=some u.cells:=by rw [List.getElem?_map,hj];rfl
 rw [h.fetch hr (by omega) .i64]
 exact ZaF (n:=5) (zs:=[.string ⟨#[]⟩,.string ⟨#[]⟩,.string ⟨#[]⟩,.bool false,.slice none 0 0]) (r:=u.cells) rfl rfl rfl (ZAd ho)
end
end Go.Proofs.YtgfbgfafajiehaaGreatDoor.A
namespace Go.Proofs.YtgfbgfafajiehaaGreatDoor.A
set_option linter.unusedVariables false
set_option linter.unusedSimpArgs false
open Go.Proofs Go.Proofs.YtgfbgfafajiehaaGreatDoor
structure ZEK (s : NSt) : Prop where
 nod : s.K.Nodup
 out : ∀ k n,s.mem k n=true→k∈s.K
 few : s.K.length≤6
structure ROK (s : NSt) (us : List Zv) : Prop where
 rise : Zer us
 look : ∀ key : ZaM,key∈us.map JN↔Yx s key.1=some key
section
variable {X : Zd} {d c : Nat} {r : NR} {s s' : NSt} {us ws : List Zv} {u : Zv} {k h m n o t g : Tx} {key : ZaM}
theorem ND0.kn (hd : ND0 X d r s c) : ZEK s:=⟨by rw [← hd.ks];exact hd.gr.mo.nod,fun k n hk=>by
 have:=hd.gr.out k n hk
 rw [ZhK,decide_eq_true_eq] at this
 rw [← hd.ks];exact this,by rw [← hd.ks,List.length_map];exact hd.gr.few⟩
theorem Zbj : key∈us.map JN↔∃ u∈us,JN u=key:=List.mem_map
theorem ROK.put (h : ROK s us) (h1 : Yx s' u.nm=some (JN u)) (h2 : ∀ n,n≠u.nm→Yx s' n=Yx s n) : ROK s' (putU u us):=by
 refine ⟨Ztf h.rise,fun key=>?_⟩
 rw [Zbj]
 constructor
 ·rintro ⟨v,hv,rfl⟩
  rcases Zfy.1 hv with rfl | ⟨hv,hne⟩
  ·exact h1
  ·have:=(h.look (JN v)).1 (Zbj.2 ⟨v,hv,rfl⟩)
   rw [show (JN v).1=v.nm from rfl] at this ⊢
   rw [h2 _ hne];exact this
 ·intro hk
  by_cases e : key.1=u.nm
  ·rw [e,h1] at hk
   exact ⟨u,Zfy.2 (.inl rfl),Option.some.inj hk⟩
  ·rw [h2 _ e] at hk
   obtain ⟨v,hv,rfl⟩:=Zbj.1 ((h.look key).2 hk)
   exact ⟨v,Zfy.2 (.inr ⟨hv,e⟩),rfl⟩
theorem ROK.drop (h : ROK s us) (h1 : Yx s' k=none) (h2 : ∀ n,n≠k→Yx s' n=Yx s n) : ROK s' (us.filter fun v=>decide (v.nm≠k)):=by
 refine ⟨List.Pairwise.filter _ h.rise,fun key=>?_⟩
 rw [Zbj]
 constructor
 ·rintro ⟨v,hv,rfl⟩
  obtain ⟨hv,hne⟩:=List.mem_filter.1 hv
  have hne : v.nm≠k:=by simpa using hne
  have:=(h.look (JN v)).1 (Zbj.2 ⟨v,hv,rfl⟩)
  rw [show (JN v).1=v.nm from rfl] at this ⊢
  rw [h2 _ hne];exact this
 ·intro hk
  have e : key.1≠k:=fun e=>by rw [e,h1] at hk;cases hk
  rw [h2 _ e] at hk
  obtain ⟨v,hv,rfl⟩:=Zbj.1 ((h.look key).2 hk)
  exact ⟨v,List.mem_filter.2 ⟨hv,decide_eq_true e⟩,rfl⟩
theorem ROK.same (h : ROK s us) (h2 : ∀ n,Yx s' n=Yx s n) : ROK s' us:=⟨h.rise,fun key=>by rw [h2];exact h.look key⟩
theorem ROK.at (h : ROK s us) (hu : u∈us) : Yx s u.nm=some (JN u):=(h.look (JN u)).1 (Zbj.2 ⟨u,hu,rfl⟩)
theorem Zer.nodup (h : Zer us) : (us.map (·.nm)).Nodup:=by
 unfold Zer at h
 rw [List.nodup_iff_pairwise_ne,List.pairwise_map]
 refine h.imp ?_
 intro a b hab e
 rw [e] at hab
 exact Zlr hab
theorem ROK.len (h : ROK s us) (hn : (Wr s).Nodup) : us.length=s.A.length:=by
 have hp : (us.map (·.nm)).Perm (Wr s):=(List.perm_ext_iff_of_nodup h.rise.nodup hn).2 fun x=>by
  rw [List.mem_map,List.mem_map]
  constructor
  ·rintro ⟨v,hv,rfl⟩
   have:=h.at hv
   unfold Yx at this
   cases ha : Zf v.nm s.A with
   | none=>rw [ha] at this;cases this
   | some p=>exact ⟨_,KN ha,rfl⟩
  ·rintro ⟨p,hp,rfl⟩
   have ha : Zf p.1 s.A=some p.2:=Zcj hn hp
   obtain ⟨v,hv,he⟩:=Zbj.1 ((h.look (Zbr s p.1 p.2)).2 (by
    show Yx s p.1=_
    unfold Yx;rw [ha];rfl))
   exact ⟨v,hv,congrArg (·.1) he⟩
 have:=hp.length_eq
 simpa using this
theorem ZB8 : ∀ {l l' : List ZaM},l.Pairwise (fun a b=>a.1 < b.1)→l'.Pairwise (fun a b=>a.1 < b.1)→(∀ x,x∈l↔x∈l')→l=l':=by
 intro l l' h h' hm
 have nd : ∀ {l : List ZaM},l.Pairwise (fun a b=>a.1 < b.1)→l.Nodup:=fun h=>by
  rw [List.nodup_iff_pairwise_ne]
  refine List.Pairwise.imp ?_ h
  rintro a b hab rfl
  exact List.lt_irrefl _ hab
 have hp : l.Perm l':=(List.perm_ext_iff_of_nodup (nd h) (nd h')).2 hm
 exact List.Perm.eq_of_pairwise (le:=fun a b=>a.1 < b.1) (fun a b _ _ h1 h2=>absurd h2 (List.lt_asymm h1)) h h' hp
theorem ZtO (hn : (Wr s).Nodup) : (allK s).Pairwise fun a b=>a.1 < b.1:=by
 unfold allK
 rw [List.pairwise_map]
 exact ZiG hn
theorem Zvl (hn : (Wr s).Nodup) : key∈allK s↔Yx s key.1=some key:=by
 unfold allK
 rw [List.mem_map]
 constructor
 ·rintro ⟨k,hk,rfl⟩
  obtain ⟨p,hp,rfl⟩:=List.mem_map.1 (W7.1 hk)
  have ha : Zf p.1 s.A=some p.2:=Zcj hn hp
  show Yx s p.1=_
  unfold Yx
  rw [ha];rfl
 ·intro hk
  unfold Yx at hk
  cases ha : Zf key.1 s.A with
  | none=>rw [ha] at hk;cases hk
  | some p=>
   rw [ha] at hk
   refine ⟨key.1,W7.2 (List.mem_map.2 ⟨_,KN ha,rfl⟩),?_⟩
   rw [ha]
   exact Option.some.inj hk
theorem ROK.all (h : ROK s us) (hn : (Wr s).Nodup) : us.map JN=allK s:=by
 refine ZB8 ?_ (ZtO hn) fun key=>(h.look key).trans (Zvl hn).symm
 rw [List.pairwise_map]
 exact h.rise
end
end Go.Proofs.YtgfbgfafajiehaaGreatDoor.A
namespace Go.Proofs.YtgfbgfafajiehaaGreatDoor.A
set_option linter.unusedVariables false
set_option linter.unusedSimpArgs false
open Go.Proofs Go.Proofs.YtgfbgfafajiehaaGreatDoor
def UOK (X : Zd) (u : Zv) : Prop:=Sl X u.gv (u.gs.map strv)∧oneCell u.gv=true∧u.gs.length≤1000000
structure RD (X : Zd) (uv gv : Value) (s : NSt) : Prop where
 ex : ∃ us,YP X uv us∧ROK s us
 n : ∃ q N,Zo X gv (N.map strv) q∧Is N (·∈s.K)
structure Zpx (s : NSt) : Prop where
 i : JJ s
 k : ZEK s
 n : (Wr s).Nodup
 x : Inv s.OW s.OF
theorem ND.pinv {X : Zd} {d c : Nat} {r : NR} {s : NSt} (h : ND X d r s c) : Zpx s:=⟨h.inv,h.toND0.kn,h.m.nod,h.ix.inv⟩
section
variable {X X' Y H0 : Zd} {n : Nat} {uv gv v : Value} {us : List Zv} {s : NSt} {k h m o t g : Tx} {u w : Zv} {β : Type}
theorem UOK.hle (h : UOK X u) (hl : HLe X X') : UOK X' u:=⟨h.1.mono hl,h.2⟩
theorem YP.ok (h : YP X uv us) (hu : u∈us) : UOK X u:=h.2 u hu
theorem YP.one (h : YP X uv us) : oneCell uv=true:=h.1.one.1
theorem Zo.hle {vs : List Value} {q : List Nat} (h : Zo X v vs q) (hl : HLe X X') : Zo X' v vs q:=h.step hl.step (by simp)
theorem RD.hle (h : RD X uv gv s) (hl : HLe X X') : RD X' uv gv s:=⟨h.ex.imp fun us ⟨a,b⟩=>⟨a.mono hl,b⟩,h.n.imp fun q ⟨N,a,b⟩=>⟨N,a.hle hl,b⟩⟩
abbrev zU : Value:=.agg #[.string ⟨#[]⟩,.string ⟨#[]⟩,.string ⟨#[]⟩,.bool false,.slice none 0 0]
theorem YP.put (h : YP X uv us) (hv : SlN 5 X' v ((putU u us).map Zv.cells)) (hu : UOK X u) (hl : HLe X X') : YP X' v (putU u us):=⟨hv,fun w hw=>by
 rcases Zfy.1 hw with rfl | ⟨hw,_⟩
 ·exact hu.hle hl
 ·exact (h.mono hl).2 w hw⟩
end
end Go.Proofs.YtgfbgfafajiehaaGreatDoor.A
namespace Go.Proofs.YtgfbgfafajiehaaGreatDoor.A
set_option linter.unusedVariables false
set_option linter.unusedSimpArgs false
open Go.Proofs Go.Proofs.YtgfbgfafajiehaaGreatDoor
section
variable {X X' Y H0 : Zd} {n : Nat} {uv gv v : Value} {us : List Zv} {s : NSt} {k h m o t g : Tx} {u w : Zv} {β : Type}
def Zhy (v : Value) : Prop:=∃ a n c,v=.slice a n c
theorem Zhy.one (h : Zhy v) : oneCell v=true:=by
 obtain ⟨a,n,c,rfl⟩:=h;rfl
theorem Zs3 {x : Tx} (h : Zhy (strv x)) : False:=by
 obtain ⟨a,n,c,h⟩:=h
 cases h
theorem Sl.setD {l : List Tx} {b : Nat} {c1 c2 d1 d2 : Value} (h : Sl Y v (l.map strv)) (hb : Y[b]?=some (.cells [c1,c2] 1 false false)) (i1 : Zhy c1) (i2 : Zhy c2) : Sl (Y.set b (.cells [d1,d2] 1 false false)) v (l.map strv):=by
 by_cases ho : own1 v=some b
 ·obtain ⟨a,c,rfl,h0,hf⟩:=h
  unfold own1 at ho
  split at ho
  ·rename_i id o n x e
   cases e
   cases ho
   have hl : l=[]:=by
    unfold Qu at hf
    simp only [hb] at hf
    split at hf
    ·have hf:=Option.some.inj hf
     cases l with
     | nil=>rfl
     | cons y l=>
      have hm : strv y∈([c1,c2].drop o).take ((List.map strv (y :: l)).length * 1):=by rw [hf];simp
      have hm:=List.mem_of_mem_drop (List.mem_of_mem_take hm)
      simp only [List.mem_cons,List.not_mem_nil,or_false] at hm
      rcases hm with hm | hm
      ·rw [← hm] at i1;exact (Zs3 i1).elim
      ·rw [← hm] at i2;exact (Zs3 i2).elim
    ·cases hf
   subst hl
   refine ⟨_,c,rfl,(fun e=>by cases e),?_⟩
   unfold Qu at hf ⊢
   simp only [hb,Z8 hb] at hf ⊢
   split at hf
   ·rename_i hle
    rw [if_pos (by simpa using hle)]
    simp
   ·cases hf
  ·cases ho
 ·exact h.keep fun id hid=>List.getElem?_set_ne (fun e=>ho (by rw [hid,e]))
theorem SlN.setD {rows : List (List Value)} {b : Nat} {c1 c2 d1 d2 : Value} (h : SlN 5 Y v rows) (hb : Y[b]?=some (.cells [c1,c2] 1 false false)) : SlN 5 (Y.set b (.cells [d1,d2] 1 false false)) v rows:=by
 by_cases ho : own1 v=some b
 ·obtain ⟨a,c,rfl,h0,hf,hr⟩:=h
  unfold own1 at ho
  split at ho
  ·rename_i id o n x e
   cases e
   cases ho
   unfold Qu at hf
   simp only [hb] at hf
   split at hf
   ·rename_i hle
    have hl : rows.length=0:=by
     simp only [List.length_cons,List.length_nil] at hle
     omega
    have hl : rows=[]:=List.eq_nil_of_length_eq_zero hl
    subst hl
    refine ⟨_,c,rfl,(fun e=>by cases e),?_,hr⟩
    unfold Qu
    simp only [Z8 hb]
    rw [if_pos (by simpa using hle)]
    simp
   ·cases hf
  ·cases ho
 ·exact h.keep fun id hid=>List.getElem?_set_ne (fun e=>ho (by rw [hid,e]))
theorem YP.setD {b : Nat} {c1 c2 d1 d2 : Value} (h : YP Y v us) (hb : Y[b]?=some (.cells [c1,c2] 1 false false)) (i1 : Zhy c1) (i2 : Zhy c2) : YP (Y.set b (.cells [d1,d2] 1 false false)) v us:=
 ⟨h.1.setD hb,fun u hu=>⟨(h.2 u hu).1.setD hb i1 i2,(h.2 u hu).2⟩⟩
theorem Zo.setD {l : List Tx} {q : List Nat} {b : Nat} {c1 c2 d1 d2 : Value} (h : Zo Y v (l.map strv) q) (hb : Y[b]?=some (.cells [c1,c2] 1 false false)) (i1 : Zhy c1) (i2 : Zhy c2) : Zo (Y.set b (.cells [d1,d2] 1 false false)) v (l.map strv) q:=by
 rcases h with ⟨h1,rfl,rfl⟩ | ⟨sid,rest,gr,rfl,rfl,hid⟩
 ·exact .inl ⟨h1,rfl,rfl⟩
 ·by_cases e : b=sid
  ·subst e
   rw [hb] at hid
   injection hid with hid
   injection hid with hc h2 h3 h4
   cases l with
   | nil=>
    have hc : [c1,c2]=rest:=by simpa using hc
    subst hc
    exact .inr ⟨b,[d1,d2],gr,rfl,rfl,by rw [Z8 hb,h3];rfl⟩
   | cons y l=>
    rw [List.map_cons,List.cons_append] at hc
    injection hc with hc _
    rw [hc] at i1
    exact (Zs3 i1).elim
  ·exact .inr ⟨sid,rest,gr,rfl,rfl,(List.getElem?_set_ne e).trans hid⟩
theorem RD.back (hR : RD X uv gv s) {s' : NSt} (hl : HLe X X') (he : s'=s) : RD X' uv gv s':=by rw [he];exact hR.hle hl
theorem RD.users (hR : RD X uv gv s) {s' : NSt} {uv' : Value} {us' : List Zv} (hl : HLe X X') (hU : YP X' uv' us') (hO : ROK s' us') (hK : s'.K=s.K) : RD X' uv' gv s':=⟨⟨us',hU,hO⟩,by rw [hK];exact (hR.hle hl).n⟩
end
end Go.Proofs.YtgfbgfafajiehaaGreatDoor.A
namespace Go.Proofs.YtgfbgfafajiehaaGreatDoor.A
set_option linter.unusedVariables false
set_option linter.unusedSimpArgs false
open Go.Proofs Go.Proofs.YtgfbgfafajiehaaGreatDoor
section
variable {X X' Y H0 : Zd} {n : Nat} {uv gv v : Value} {us : List Zv} {s : NSt} {k h m o t g x : Tx} {u w : Zv} {β : Type} {l : List Tx}
end
end Go.Proofs.YtgfbgfafajiehaaGreatDoor.A
namespace Go.Proofs.YtgfbgfafajiehaaGreatDoor.A
set_option linter.unusedVariables false
set_option linter.unusedSimpArgs false
open Go.Proofs Go.Proofs.YtgfbgfafajiehaaGreatDoor
section
variable {X X' Y H0 : Zd} {n : Nat} {uv gv v : Value} {us : List Zv} {s s' : NSt} {k h m o t g x : Tx} {u w : Zv} {β : Type} {l : List Tx}
theorem ROK.gs (hO : ROK s us) (hP : Zpx s) (hu : u∈us) : u.gs=ofL u.nm s.K s.mem∧u.gs.length≤6:=by
 have hat:=hO.at hu
 unfold Yx at hat
 cases ha : Zf u.nm s.A with
 | none=>rw [ha] at hat;cases hat
 | some p=>
  rw [ha] at hat
  have h1 : u.gs=ofL u.nm s.K s.mem:=congrArg (·.2.2.2.2) (Option.some.inj hat).symm
  refine ⟨h1,?_⟩
  rw [h1]
  exact Nat.le_trans Zjb hP.k.few
end
end Go.Proofs.YtgfbgfafajiehaaGreatDoor.A
namespace Go.Proofs.YtgfbgfafajiehaaGreatDoor.A
set_option linter.unusedVariables false
set_option linter.unusedSimpArgs false
open Go.Proofs Go.Proofs.YtgfbgfafajiehaaGreatDoor
section
variable {X X' Y H0 : Zd} {n : Nat} {uv gv v : Value} {us : List Zv} {s s' : NSt} {k h m o t g x : Tx} {u w : Zv} {β : Type} {l : List Tx}
end
end Go.Proofs.YtgfbgfafajiehaaGreatDoor.A

namespace Go.Proofs.YtgfbgfafajiehaaGreatDoor.A
set_option linter.unusedVariables false
set_option linter.unusedSimpArgs false
open Go.Proofs Go.Proofs.YtgfbgfafajiehaaGreatDoor
structure ZeK where
 kd : Nat
 a : Tx
 b : Tx
 is : Bool
abbrev ZeK.cells (a : ZeK) : List Value:=[.int .u8 a.kd,strv a.a,strv a.b,.bool a.is]
abbrev zNA : Value:=.agg #[.int .u8 0,.string ⟨#[]⟩,.string ⟨#[]⟩,.bool false]
def Zkc (H : Zd) (sl : Value) (ac : List ZeK) : Prop:=SlN 4 H sl (ac.map ZeK.cells)∧∀ a∈ac,a.kd≤255
section
variable {H H' X X' : Zd} {sl : Value} {ac : List ZeK} {n d c : Nat} {s : NSt} {r : NR} {m : Tx}
theorem Zkc.len (h : Zkc H sl ac) : ZC sl H'=some (iv ac.length,H'):=by
 have:=h.1.len (H':=H')
 rwa [List.length_map] at this
theorem Zkc.mono (h : Zkc H sl ac) (hl : HLe H H') : Zkc H' sl ac:=⟨h.1.mono hl,h.2⟩
theorem Zkc.fetch {β : Type} {k : Value→M β} (h : Zkc H sl ac) {j : Nat} {a : ZeK} (hj : ac[j]?=some a) :
  bind (ixa 4 sl (iv j)) (fun p=>bind (ldA 4 p) fun v=>bind (alc 1 zNA) fun q=>bind (stA 4 q v) fun _=>k q) H=k (pt H.length) (H++[.cells a.cells 1 false false]):=by
 have hr : (ac.map ZeK.cells)[j]?=some a.cells:=by rw [List.getElem?_map,hj];rfl
 rw [h.1.fetch hr (by omega) .i64]
 exact ZaF (n:=4) (zs:=[.int .u8 0,.string ⟨#[]⟩,.string ⟨#[]⟩,.bool false]) (r:=a.cells) rfl rfl rfl rfl
theorem ZwL (h : ND X d r s c) : ∃ X',R (n+10) ZbH [pt d,strv m] X=some (.tuple #[strv (ZiE m s.OW),iv (ZcG m s.OW)],X')∧HLe X X':=by
 obtain ⟨X1,e1,k1⟩:=ZDR (n:=n) (m:=m) h.ix
 refine ⟨X1,?_,k1⟩
 rw [R,Zpp rfl]
 unfold Zfp
 rw [Za Zg,Za Zj,Za h.l1,Za e1,Za Zq,Za Zr]
 rfl
end
end Go.Proofs.YtgfbgfafajiehaaGreatDoor.A
namespace Go.Proofs.YtgfbgfafajiehaaGreatDoor.A
set_option linter.unusedVariables false
set_option linter.unusedSimpArgs false
open Go.Proofs Go.Proofs.YtgfbgfafajiehaaGreatDoor
section
variable {X X' Y Y1 Y2 Y3 H0 : Zd} {n d c c' b1 b2 b3 : Nat} {r r' : NR} {uv gv uv' gv' v : Value} {s s' : NSt} {u : ZeK} {e : Int}
theorem RD.setB {b : Nat} {c1 c2 d1 d2 : Value} (h : RD Y uv gv s) (hb : Y[b]?=some (.cells [c1,c2] 1 false false)) (i1 : Zhy c1) (i2 : Zhy c2) : RD (Y.set b (.cells [d1,d2] 1 false false)) uv gv s:=
 ⟨h.ex.imp fun us ⟨a,b⟩=>⟨a.setD hb i1 i2,b⟩,h.n.imp fun q ⟨N,a,b⟩=>⟨N,a.setD hb i1 i2,b⟩⟩
end
end Go.Proofs.YtgfbgfafajiehaaGreatDoor.A
namespace Go.Proofs.YtgfbgfafajiehaaGreatDoor.A
set_option linter.unusedVariables false
set_option linter.unusedSimpArgs false
open Go.Proofs Go.Proofs.YtgfbgfafajiehaaGreatDoor
section
variable {X X' Y Y1 Y2 Y3 H H0 : Zd} {n d c c' b1 b2 b3 w : Nat} {r r' : NR} {uv gv uv' gv' v sl : Value} {s s' : NSt} {u : ZeK} {e : Int} {ac : List ZeK}
structure NL (H X : Zd) (d : Nat) (r : NR) (s : NSt) (uv gv : Value) (w c : Nat) : Prop where
 le : HLe H X
 nd : ND X d r s c
 rd : RD X uv gv s
 own : ∀ i∈r.own,H.length≤i
 w : X[w]?=some (.cells [uv,gv] 1 false false)
theorem NL.hle (h : NL H X d r s uv gv w c) (hl : HLe X X') : NL H X' d r s uv gv w c:=⟨h.le.trans hl,h.nd.hle hl,h.rd.hle hl,h.own,hl _ _ h.w⟩
end
end Go.Proofs.YtgfbgfafajiehaaGreatDoor.A

namespace Go.Proofs.YtgfbgfafajiehaaGreatDoor.A
set_option linter.unusedVariables false
set_option linter.unusedSimpArgs false
open Go.Proofs Go.Proofs.YtgfbgfafajiehaaGreatDoor
section
variable {H : Zd} {n : Nat} {s : List UInt8}
end
end Go.Proofs.YtgfbgfafajiehaaGreatDoor.A

namespace Go.Proofs.YtgfbgfafajiehaaGreatDoor.A
set_option linter.unusedVariables false
set_option linter.unusedSimpArgs false
open Go.Proofs Go.Proofs.YtgfbgfafajiehaaGreatDoor
section
variable {X X' Y H H0 : Zd} {n d c w : Nat} {r : NR} {uv gv sl wv : Value} {s : NSt} {us ws : List Zv} {k m g pre : Tx} {q0 : List Nat}
theorem ZB6 {x : Tx} {b : Nat} (hs : x.length≤1000000000) (hp : pre.length≤1000000000) (hc : H[b]?=some (.cells [strv pre] 1 false false)) : R (n+3) ZaV [strv x,pt b] H=some (.bool (!Zfo pre x),H):=by
 have e1 : run Tryz.prog np lvs (n+2) YM [strv x,strv pre] H=_:=ZoH hs hp
 rw [R,Zoe rfl]
 unfold Zez
 rw [Za (KH hc),Za e1,Za ZM]
 rfl
theorem ZAh (hd : ND X d r s c) {x : Tx} (hx : x∈Z7 (Wr s)) : x.length≤12:=by
 obtain ⟨p,hp,rfl⟩:=List.mem_map.1 (W7.1 hx)
 exact KV (hd.inv.nm p hp).1
theorem ZBz (hd : ND X d r s c) (hp : pre.length≤1000000000) : ∃ v q X',R (n+6) Zc4 [pt d,strv pre] X=some (.tuple #[v,iv (YH pre)],X')∧Zo X' v ((if ZiJ pre then (Z7 (Wr s)).filter (Zfo pre) else []).map strv) q∧HLe X X'∧∀ j∈q,X.length≤j:=by
 have e0:=Zde (v:=strv pre) rfl rfl X
 have l0 : HLe X (X++[Ze.cells [strv pre] 1 false false]):=.app _ _
 have c0 : (X++[Ze.cells [strv pre] 1 false false])[X.length]?=some (.cells [strv pre] 1 false false):=Zp
 have g0 : (X++[Ze.cells [strv pre] 1 false false]).length=X.length+1:=by simp
 generalize X++[Ze.cells [strv pre] 1 false false]=H1 at e0 l0 c0 g0
 generalize hc : X.length=b at e0 c0 g0
 have e1 : run Tryz.prog np lvs (n+5) Zaz [strv pre] H1=some (iv (YH pre),H1):=Zvd hp
 by_cases hb : ZiJ pre=true
 ·have he : YH pre=0:=by unfold YH;rw [if_pos hb]
  obtain ⟨v,q,H2,e2,r2,l2,o2⟩:=Zu3 (n:=n+3) (hd.hle l0)
  have hQ : ∀ X X',X[b]?=some (.cells [strv pre] 1 false false)→Zu q X q X'→X'[b]?=some (.cells [strv pre] 1 false false):=fun X X' hx hs=>hs.get hx fun hj=>by have:=o2 b hj;omega
  have hcall : ∀ n X,X[b]?=some (.cells [strv pre] 1 false false)→∀ x∈Z7 (Wr s),Qf (R (n+3)) (.func (.func ZaV) #[] #[pt b]) [strv x] X=some (.bool (!Zfo pre x),X):=fun n X hx x hs=>by
   rw [show (#[pt b] : Array Value)=[pt b].toArray from rfl,ZhW]
   exact ZB6 (Nat.le_trans (ZAh hd hs) (by decide)) hp hx
  have hfew : (Z7 (Wr s)).length≤12:=by
   rw [ZaZ]
   have:=hd.inv.few
   simpa using this
  obtain ⟨H3,v',e3,r3,s3⟩:=ZmL (n:=n+3) (f:=.func (.func ZaV) #[] #[pt b]) (p:=fun x=>!Zfo pre x) (Q:=fun X=>X[b]?=some (.cells [strv pre] 1 false false)) r2 (by omega) hQ (hcall n) (hcall (n+1)) (l2 _ _ c0)
  have hm:=(l0.trans l2).more s3 (fun j hj=>by have:=o2 j hj;omega)
  refine ⟨v',q,H3,?_,by simpa [hb] using r3,hm.1,fun j hj=>by have:=hm.2 j hj;omega⟩
  rw [R,ZhQ rfl]
  unfold Zdd
  rw [Za e0,Za (KH c0),Za e1,Za Zl,he,Zb,if_neg (by simp)]
  refine (Za e2).trans ((Za e3).trans rfl)
 ·have he : YH pre=10:=by unfold YH;rw [if_neg hb]
  refine ⟨.slice none 0 0,[],H1,?_,by rw [if_neg hb];exact Zo.nil,l0,by simp⟩
  rw [R,ZhQ rfl]
  unfold Zdd
  rw [Za e0,Za (KH c0),Za e1,Za Zl,he,Zb,if_pos (by simp)]
  rfl
theorem Zw9 (hd : ND X d r s c) (hc : c≤1000000) : ∃ v q l X',R (n+9) WX [pt d,strv g] X=some (.tuple #[v,iv (JP g s.K)],X')∧Zo X' v (l.map strv) q∧Is l (fun m=>JP g s.K=0∧s.mem g m=true)∧l.length≤c∧HLe X X'∧∀ j∈q,X.length≤j:=by
 obtain ⟨v,q,l,X',e,r1,i1,n1,k1,o1⟩:=ZyY (n:=n) (k:=g) hd.gr hc
 rw [hd.ks] at e i1
 refine ⟨v,q,l,X',?_,r1,i1,n1,k1,o1⟩
 rw [R,Zlb rfl]
 unfold Zdo
 rw [Za Zg,Za Zj,Za hd.l2,Za e,Za Zq,Za Zr]
 rfl
theorem ZAl (hO : ROK s us) (hP : Zpx s) (hm : J2 m=true) : (us.find? fun u=>u.ml==Qy m).map (·.nm)=Zf (Qy m) s.OW:=by
 have hat : ∀ u∈us,u.ml=Qy m↔Zf (Qy m) s.OW=some u.nm:=fun u hu=>by
  have h1:=hO.at hu
  unfold Yx at h1
  cases ha : Zf u.nm s.A with
  | none=>rw [ha] at h1;cases h1
  | some p=>
   rw [ha] at h1
   have h2 : Zbr s u.nm p=JN u:=Option.some.inj h1
   have h3 : (Zf u.nm s.OF).getD []=u.ml:=congrArg (·.2.2.1) h2
   rw [← hP.x.inv,← h3]
   cases ho : Zf u.nm s.OF with
   | none=>exact ⟨fun h=>absurd h.symm (Zjd hm).1,fun h=>by cases h⟩
   | some v=>exact ⟨fun h=>by rw [← h];rfl,fun h=>by cases h;rfl⟩
 cases hf : us.find? fun u=>u.ml==Qy m with
 | some u=>
  have h1:=List.find?_some hf
  have h2:=List.mem_of_find?_eq_some hf
  exact ((hat u h2).1 (by simpa using h1)).symm
 | none=>
  rw [List.find?_eq_none] at hf
  cases hw : Zf (Qy m) s.OW with
  | none=>rfl
  | some x=>
   have h1:=(hP.x.inv _ _).2 hw
   have h2:=hP.i.ofA x (by rw [h1];rfl)
   obtain ⟨p,hp⟩:=Option.isSome_iff_exists.1 h2
   have h3 : Yx s x=some (Zbr s x p):=by unfold Yx;rw [hp];rfl
   obtain ⟨u,hu,hk⟩:=Zbj.1 ((hO.look (Zbr s x p)).2 h3)
   have hn : u.nm=x:=congrArg (·.1) hk
   have:=(hat u hu).2 (by rw [hn];exact hw)
   exact absurd (by simpa using this) (hf u hu)
end
end Go.Proofs.YtgfbgfafajiehaaGreatDoor.A

namespace Go.Proofs.YtgfbgfafajiehaaGreatDoor.A
set_option linter.unusedVariables false
set_option linter.unusedSimpArgs false
open Go.Proofs Go.Proofs.YtgfbgfafajiehaaGreatDoor
def le (x : Nat) : Nat→List UInt8
 | 0=>[]
 | k+1=>UInt8.ofNat (x % 256) :: le (x / 256) k
theorem Wc : ∀ {k x : Nat},(le x k).length=k
 | 0,_=>rfl
 | k+1,x=>by unfold le;rw [List.length_cons,Wc]
def txt (s : List UInt8) : List UInt8:=le s.length 2++s
theorem ZDA (a b : List UInt8) : u8s (a++b)=u8s a++u8s b:=by simp [u8s]
section
variable {H X : Zd} {n p : Nat} {sl x v : Value} {vs ws : List Value} {own : List Nat} {bs s : List UInt8}
theorem Zo.addN {b : Nat} (h : Zo H sl vs own) (hf : Qu 1 H x=some ws) (hn : A.flen x=ws.length) (hb : (vs.length+ws.length) * b≤140737488355328) (hb0 : vs.length+ws.length≤140737488355328) :
  ∃ sl' H' own',app 1 b sl x H=some (sl',H')∧Zo H' sl' (vs++ws) own'∧Zu own H own' H':=by
 by_cases h0 : ws.length=0
 ·have hw : ws=[]:=List.eq_nil_of_length_eq_zero h0
  subst hw
  refine ⟨sl,H,own,?_,by simpa using h,.refl _ _⟩
  rcases h with ⟨rfl,rfl,rfl⟩ | ⟨sid,rest,gr,rfl,rfl,hid⟩
  ·unfold app
   rw [hf]
   simp [hn]
  ·unfold app
   rw [hf]
   simp [hn,hid]
 rcases h with ⟨rfl,rfl,rfl⟩ | ⟨sid,rest,gr,rfl,rfl,hid⟩
 ·refine ⟨_,H++[.cells ws 1 true false],[H.length],?_,.inr ⟨H.length,[],true,rfl,rfl,by simp⟩,⟨by simp,fun j hj _=>List.getElem?_append_left hj,by simp⟩⟩
  unfold app
  rw [hf]
  simp only [hn]
  simp only [List.length_nil,Nat.zero_add] at hb hb0
  rw [if_neg h0,if_pos ⟨hb0,hb⟩]
  simp
 ·have hlt:=Z6 hid
  by_cases hc : ws.length≤rest.length
  ·have hsp : splice (vs++rest) ws vs.length=vs++(ws++rest.drop ws.length):=by
    unfold splice
    rw [List.take_left,List.drop_append,List.drop_eq_nil_of_le (by omega),List.nil_append,Nat.add_sub_cancel_left,List.append_assoc]
   have hset : (H.set sid (.cells (vs++(ws++rest.drop ws.length)) 1 gr false))[sid]?=some (.cells (vs++(ws++rest.drop ws.length)) 1 gr false):=Z8 hid
   refine ⟨.slice (some ⟨sid,0,none⟩) (vs.length+ws.length) (vs.length+rest.length),H.set sid (.cells (vs++(ws++rest.drop ws.length)) 1 gr false),[sid],?_,.inr ⟨sid,rest.drop ws.length,gr,?_,rfl,by rw [hset,List.append_assoc]⟩,⟨by simp,fun j hj hn=>List.getElem?_set_ne (fun e=>hn (by simp [e])),by simp⟩⟩
   ·unfold app
    rw [hf]
    simp only [hn,hid,if_true,Nat.mul_one,Nat.zero_add]
    rw [if_pos (by omega),if_neg h0,if_pos ⟨trivial,by rw [List.length_append];omega⟩,hsp]
   ·rw [List.length_append,List.length_drop]
    congr 1;omega
  ·have hold : ((vs++rest).drop 0).take vs.length=vs:=by rw [List.drop_zero,List.take_left]
   have happ : app 1 b (.slice (some ⟨sid,0,none⟩) vs.length (vs.length+rest.length)) x H=some (.slice (some ⟨H.length,0,none⟩) (vs.length+ws.length) (vs.length+ws.length),(bif gr then H.set sid (.view vs 1 H.length) else H)++[.cells (vs++ws) 1 true false]):=by
    unfold app
    rw [hf]
    simp only [hn,hid,if_true,Nat.mul_one,Nat.zero_add]
    rw [if_neg (by omega),if_pos ⟨by simp,by rw [List.length_append];omega,hb0,hb⟩,hold]
    rfl
   have hnew : ((bif gr then H.set sid (.view vs 1 H.length) else H)++[.cells (vs++ws) 1 true false])[H.length]?=some (.cells (vs++ws) 1 true false):=by
    rw [List.getElem?_append_right (by cases gr <;> simp)]
    cases gr <;> simp
   refine ⟨_,_,[H.length],happ,.inr ⟨H.length,[],true,by simp,rfl,by rw [hnew,List.append_nil]⟩,⟨?_,fun j hj hn=>?_,by simp⟩⟩
   ·cases gr <;> simp
   ·rw [List.getElem?_append_left (by cases gr <;> simpa using hj)]
    cases gr
    ·rfl
    ·exact List.getElem?_set_ne (fun e=>hn (by simp [e]))
structure Wtr (H : Zd) (p : Nat) (bs : List UInt8) (own : List Nat) : Prop where
 o : ∃ sl,H[p]?=some (.cells [sl] 1 false false)∧Zo H sl (u8s bs) own
 ne : p∉own
theorem Wtr.lt (h : Wtr H p bs own) : ∀ j∈p :: own,j < H.length:=by
 obtain ⟨sl,hc,hr⟩:=h.o
 intro j hj
 rcases List.mem_cons.1 hj with rfl | hj
 ·exact Z6 hc
 ·exact hr.lt j hj
theorem Wtr.keep (h : Wtr H p bs own) (hk : ∀ j∈p :: own,X[j]?=H[j]?) : Wtr X p bs own:=by
 obtain ⟨sl,hc,hr⟩:=h.o
 exact ⟨⟨sl,by rw [hk p (by simp)];exact hc,hr.keep fun j hj=>hk j (by simp [hj])⟩,h.ne⟩
theorem Wtr.step {o1 o2 : List Nat} (h : Wtr H p bs own) (hs : Zu o1 H o2 X) (hn : ∀ j∈p :: own,j∉o1) : Wtr X p bs own:=
 h.keep fun j hj=>hs.keep j (h.lt j hj) (hn j hj)
theorem Wtr.hle (h : Wtr H p bs own) (hl : HLe H X) : Wtr X p bs own:=h.step hl.step (by simp)
theorem Wtr.put {own' : List Nat} {bs' : List UInt8} (h : Wtr H p bs own) (hr : Zo X sl (u8s bs') own') (hs : Zu own H own' X) : ∃ X',st1 (pt p) sl X=some (undef,X')∧Wtr X' p bs' own'∧Zu (p :: own) H (p :: own') X':=by
 obtain ⟨sl0,hc,hr0⟩:=h.o
 have hc1 : X[p]?=some (.cells [sl0] 1 false false):=hs.get hc h.ne
 have hne : p∉own':=fun hm=>by
  rcases hs.own p hm with h1 | h1
  ·exact h.ne h1
  ·have:=Z6 hc;omega
 have e1 : st1 (pt p) sl X=some (undef,X.set p (.cells [sl] 1 false false)):=ZeS (o:=0) hc1 (by simp) hr.one.1
 refine ⟨_,e1,⟨⟨sl,Z8 hc1,hr.keep fun j hj=>List.getElem?_set_ne (fun e=>hne (by rw [e];exact hj))⟩,hne⟩,?_⟩
 have s1 : Zu [p] X [p] (X.set p (.cells [sl] 1 false false)):=⟨by simp,fun j hj hn=>List.getElem?_set_ne (fun e=>hn (by simp [e])),fun j hj=>.inl hj⟩
 refine (hs.more (o2:=p :: own) (o2':=p :: own') (by simp+contextual) ?_).trans (s1.more (by simp) (fun j hj=>.inl hj))
 intro j hj
 rcases List.mem_cons.1 hj with rfl | hj
 ·exact .inl (by simp)
 ·exact .inr (.inl hj)
theorem ZyV (x : Nat) : ((UInt8.ofNat (x % 256)).toNat : Int)=(x : Int) % 256:=by
 rw [UInt8.toNat_ofNat']
 omega
theorem ZAb {N : Nat} (hN : N≤1000) : ∀ (t k x : Nat) (bs : List UInt8) (own : List Nat) (H : Zd),N - k=t→k≤N→x < 18446744073709551616→bs.length+t≤1000000000000→Wtr H p bs own→
  ∃ H' own',Zi (c4 (Yh.l1 (R n))) [pt p,.int .u64 x,iv N,iv k] H=some (.ext 0 [pt p],H')∧Wtr H' p (bs++le x t) own'∧Zu (p :: own) H (p :: own') H'
 | 0,k,x,bs,own,H,ht,hk,hx,hb,h=>by
  have : k=N:=by omega
  subst this
  refine ⟨H,own,Qa ?_,by simpa [le] using h,.refl _ _⟩
  rw [ZJ]
  unfold Yh.l1
  rw [Za Zs,Zb,if_neg (by simp)]
  rfl
 | t+1,k,x,bs,own,H,ht,hk,hx,hb,h=>by
  have hlt : (k : Int) < N:=by omega
  obtain ⟨sl,hc,hr⟩:=h.o
  have e1 : bsl 1 1 (.int .u8 0) [(0,1,.int .u8 ((UInt8.ofNat (x % 256)).toNat))] H=some (.slice (some ⟨H.length,0,none⟩) 1 1,H++[.cells [.int .u8 ((UInt8.ofNat (x % 256)).toNat)] 1 false false]):=ZpO rfl rfl rfl
  have k1 : HLe H (H++[Ze.cells [.int .u8 ((UInt8.ofNat (x % 256)).toNat)] 1 false false]):=.app _ _
  have s1 : Sl (H++[Ze.cells [.int .u8 ((UInt8.ofNat (x % 256)).toNat)] 1 false false]) (.slice (some ⟨H.length,0,none⟩) 1 1) [.int .u8 ((UInt8.ofNat (x % 256)).toNat)]:=Sl.one (vs:=[.int .u8 ((UInt8.ofNat (x % 256)).toNat)]) Zp
  generalize H++[Ze.cells [.int .u8 ((UInt8.ofNat (x % 256)).toNat)] 1 false false]=X1 at e1 k1 s1
  have h1:=h.hle k1
  have hr1 : Zo X1 sl (u8s bs) own:=hr.step k1.step (by simp)
  have hl : (u8s bs).length=bs.length:=Kk bs
  obtain ⟨sl',X2,own',e2,r2,st2,_⟩:=hr1.push (b:=1) s1 (by omega) (by omega)
  rw [show u8s bs++[.int .u8 ((UInt8.ofNat (x % 256)).toNat)]=u8s (bs++[UInt8.ofNat (x % 256)]) from by simp [u8s]] at r2
  obtain ⟨X3,e3,w3,st3⟩:=h1.put r2 st2
  have hx2 : x / 256 < 18446744073709551616:=by omega
  obtain ⟨H',own2,e4,w4,st4⟩:=ZAb hN t (k+1) (x / 256) (bs++[UInt8.ofNat (x % 256)]) own' X3 (by omega) (by omega) hx2 (by rw [List.length_append,List.length_singleton];omega) w3
  have c1 : cvi .u8 (.int .u64 x) H=some (.int .u8 ((UInt8.ofNat (x % 256)).toNat),H):=by rw [QL,wu8,ZyV]
  have c2 : ∀ Y,bop .int .shr (.int .u64 x) (.int .u64 8) Y=some (.int .u64 ((x / 256 : Nat) : Int),Y):=fun Y=>by
   rw [ZFm,if_neg (by decide)]
   congr 3
   rw [show (2 : Int) ^ min (8 : Int).toNat IntKind.u64.bits=256 from rfl]
   rw [Int.fdiv_eq_ediv_of_nonneg _ (by decide)]
   omega
  have c3 : ld1 (pt p) H=some (sl,H):=KH hc
  refine ⟨H',own2,(ZL ?_).trans e4,?_,(k1.step.more (by simp) (fun j hj=>.inl hj)).trans (st3.trans st4)⟩
  ·rw [ZJ]
   unfold Yh.l1
   rw [Za Zs,Zb,if_pos (by simpa using hlt),Za Zg,Za Zj,Za c3,Za c1,Za e1,Za e2,Za Zg,Za Zj,Za e3,Za (c2 _),Za ZF,Jd (by omega)]
   rfl
  ·rw [List.append_assoc] at w4
   exact w4
theorem ZAY {N x : Nat} (hN : N≤1000) (hx : x < 18446744073709551616) (hb : bs.length+N≤1000000000000) (h : Wtr H p bs own) : ∃ H' own',R (n+1) Ks [pt p,.int .u64 x,iv N] H=some (pt p,H')∧Wtr H' p (bs++le x N) own'∧Zu (p :: own) H (p :: own') H':=by
 obtain ⟨H',own',e,w,s⟩:=ZAb (n:=n) hN N 0 x bs own H (by omega) (by omega) hx hb h
 have e : Zi (c4 (Yh.l1 (R n))) [pt p,.int .u64 x,iv N,.int .i64 0] H=_:=e
 refine ⟨H',own',?_,w,s⟩
 rw [R,ZlC rfl]
 unfold Yh
 rw [QG e,ZI]
 rfl
theorem Zhn {x : Nat} (hx : x < 256) (hb : bs.length≤100000000000) (h : Wtr H p bs own) : ∃ H' own',R (n+2) Z0 [pt p,.int .u8 x] H=some (pt p,H')∧Wtr H' p (bs++le x 1) own'∧Zu (p :: own) H (p :: own') H':=by
 obtain ⟨H',own',e,w,s⟩:=ZAY (n:=n) (N:=1) (x:=x) (by omega) (by omega) (by omega) h
 have e : R (n+1) Ks [pt p,.int .u64 x,.int .i64 1] H=_:=e
 have c1 : cvi .u64 (.int .u8 x) H=some (.int .u64 x,H):=by rw [QL,ZyL,Int.emod_eq_of_lt (by omega) (by omega)]
 refine ⟨H',own',?_,w,s⟩
 rw [R,Zk5 rfl]
 unfold Zdj
 rw [Za c1,Za e]
 rfl
theorem ZrQ {x : Nat} (hx : x < 65536) (hb : bs.length≤100000000000) (h : Wtr H p bs own) : ∃ H' own',R (n+2) JK [pt p,.int .u16 x] H=some (pt p,H')∧Wtr H' p (bs++le x 2) own'∧Zu (p :: own) H (p :: own') H':=by
 obtain ⟨H',own',e,w,s⟩:=ZAY (n:=n) (N:=2) (x:=x) (by omega) (by omega) (by omega) h
 have e : R (n+1) Ks [pt p,.int .u64 x,.int .i64 2] H=_:=e
 have c1 : cvi .u64 (.int .u16 x) H=some (.int .u64 x,H):=by rw [QL,ZyL,Int.emod_eq_of_lt (by omega) (by omega)]
 refine ⟨H',own',?_,w,s⟩
 rw [R,Zlz rfl]
 unfold ZdW
 rw [Za c1,Za e]
 rfl
theorem Zy3 (n : Int) : IntKind.u16.wrap n=n % 65536:=by simp [IntKind.wrap,IntKind.bits,IntKind.signed]
theorem ZEA : Qu 1 H (strv s)=some (u8s s):=by
 unfold strv Qu
 rfl
theorem ZBH : A.flen (strv s)=(u8s s).length:=by
 rw [Kk]
 unfold strv A.flen
 exact Zsd
theorem Zd5 (hs : s.length≤65535) (hb : bs.length≤1000000000) (h : Wtr H p bs own) : ∃ H' own',R (n+3) Ql [pt p,strv s] H=some (pt p,H')∧Wtr H' p (bs++txt s) own'∧Zu (p :: own) H (p :: own') H':=by
 obtain ⟨H1,q1,e1,w1,s1⟩:=ZrQ (n:=n) (x:=s.length) (by omega) (by omega) h
 obtain ⟨sl,hc,hr⟩:=w1.o
 have hl2 : (u8s (bs++le s.length 2)).length=bs.length+2:=by rw [Kk,List.length_append,Wc]
 have hl3 : (u8s s).length=s.length:=Kk s
 obtain ⟨sl',H2,q2,e2,r2,s2⟩:=hr.addN (b:=1) (x:=strv s) ZEA ZBH (by omega) (by omega)
 rw [← ZDA,List.append_assoc] at r2
 obtain ⟨H3,e3,w3,s3⟩:=w1.put r2 s2
 have c0 : mxi false (iv s.length) (.int .i64 65535) H=some (iv s.length,H):=by rw [YE,if_neg (by omega)]
 have c1 : sls (strv s) none (some (iv s.length)) H=some (strv s,H):=by
  have:=Zuz (s:=s) (k:=s.length) (H:=H) (Nat.le_refl _)
  rwa [List.take_length] at this
 have c2 : cvi .u16 (iv s.length) H=some (.int .u16 s.length,H):=by rw [QL,Zy3,Int.emod_eq_of_lt (by omega) (by omega)]
 have c3 : ld1 (pt p) H1=some (sl,H1):=KH hc
 refine ⟨H3,q2,?_,w3,s1.trans s3⟩
 rw [R,Zlm rfl]
 unfold Zdm
 rw [Za ZY,Za c0,Za c1,Za ZY,Za c2,Za e1,Za Zg,Za Zj,Za c3,Za e2,Za Zg,Za Zj,Za e3]
 rfl
theorem ZEa {b : Value} {bs : List UInt8} (hb : Sl H b (u8s bs)) (hp : bs.length≤140737488355328) :
  ∃ v q H',R (n+1) Zev [b] H=some (v,H')∧Zo H' v (u8s bs) q∧HLe H H'∧∀ j∈q,H.length≤j:=by
 rw [R,ZrX rfl]
 rcases hb.isnil (H':=H) with ⟨rfl,hp0,e⟩ | e
 ·refine ⟨.slice none 0 0,[],H,?_,by rw [hp0];exact Zo.nil,.refl _,by simp⟩
  unfold Zet
  rw [Za e]
  rfl
 ·have hb2 : Sl (H++[.cells [] 1 false false]) b (u8s bs):=hb.mono (.app _ _)
  obtain ⟨sl',H',own',e2,hr,hle,ho⟩:=ZA3 (b:=1) hb2 (by rw [Kk];omega) (by rw [Kk];omega) (s:=.slice (some ⟨H.length,0,none⟩) 0 0) (.inr ⟨H.length,false,rfl,Zp,rfl⟩)
  refine ⟨sl',own',H',?_,hr,(HLe.app _ _).trans hle,fun j hj=>?_⟩
  ·unfold Zet
   rw [Za e,Zb,if_neg (by simp),Za ZFj,Za e2]
   rfl
  ·rcases ho j hj with h | ⟨_,h⟩
   ·simp at h;omega
   ·cases h;exact Nat.le_refl _
theorem Zo5 (hb : bs.length≤1000000000) (h : Wtr H p bs own) : ∃ v q H',R (n+2) JH [pt p] H=some (v,H')∧Zo H' v (u8s bs) q∧HLe H H'∧∀ j∈q,H.length≤j:=by
 obtain ⟨sl,hc,hr⟩:=h.o
 obtain ⟨v,q,H',e,r,l,o⟩:=ZEa (n:=n) hr.rd (by omega)
 refine ⟨v,q,H',?_,r,l,o⟩
 rw [R,Zkm rfl]
 unfold Zcz
 rw [Za Zg,Za Zj,Za (KH hc),Za e]
 rfl
theorem Zsf : bld (.agg #[.slice none 0 0]) [] H=some (.agg #[.slice none 0 0],H)∧alc 1 (.agg #[.slice none 0 0]) H=some (pt H.length,H++[.cells [.slice none 0 0] 1 false false])∧Wtr (H++[.cells [.slice none 0 0] 1 false false]) H.length [] []:=
 ⟨rfl,rfl,⟨⟨.slice none 0 0,Zp,Zo.nil⟩,by simp⟩⟩
end
end Go.Proofs.YtgfbgfafajiehaaGreatDoor.A
namespace Go.Proofs.YtgfbgfafajiehaaGreatDoor.A
set_option linter.unusedVariables false
set_option linter.unusedSimpArgs false
open Go.Proofs Go.Proofs.YtgfbgfafajiehaaGreatDoor
abbrev RSt:=Nat × List UInt8
def RB (H : Zd) (sl : Value) (bs : List UInt8) : Prop:=
 (bs=[]∧(sl=.slice none 0 0∨∃ id o j,sl=.slice (some ⟨id,o,some j⟩) 0 0))∨
 ∃ id o c cs g ro,sl=.slice (some ⟨id,o,none⟩) bs.length c∧bs.length≤c∧H[id]?=some (.cells cs 1 g ro)∧o+bs.length≤cs.length∧(cs.drop o).take bs.length=u8s bs
def Rdr (H : Zd) (p : Nat) (s : RSt) : Prop:=
 ∃ sl,H[p]?=some (.cells [sl,iv s.1] 1 false false)∧RB H sl s.2∧(∀ j,own1 sl=some j→j < p)∧(s.1≠0→s.2=[])
section
variable {H X : Zd} {n p : Nat} {sl x v : Value} {vs ws : List Value} {own : List Nat} {bs : List UInt8} {s : RSt}
theorem RB.rd (h : RB H sl bs) : Sl H sl (u8s bs):=by
 rcases h with ⟨rfl,rfl | ⟨id,o,j,rfl⟩⟩ | ⟨id,o,c,cs,g,ro,rfl,h1,h2,h3,h4⟩
 ·exact Sl.nil
 ·exact ⟨_,_,rfl,(fun e=>by cases e),rfl⟩
 ·refine ⟨_,c,by rw [Kk],(fun e=>by cases e),?_⟩
  unfold Qu
  simp only [h2,Nat.mul_one]
  rw [if_pos h3,h4]
theorem RB.one (h : RB H sl bs) : oneCell sl=true:=by
 rcases h with ⟨rfl,rfl | ⟨id,o,j,rfl⟩⟩ | ⟨id,o,c,cs,g,ro,rfl,_⟩ <;> rfl
theorem RB.keep (h : RB H sl bs) (hk : ∀ j,own1 sl=some j→X[j]?=H[j]?) : RB X sl bs:=by
 rcases h with h | ⟨id,o,c,cs,g,ro,rfl,h1,h2,h3,h4⟩
 ·exact .inl h
 ·exact .inr ⟨id,o,c,cs,g,ro,rfl,h1,by rw [hk id rfl];exact h2,h3,h4⟩
theorem RB.cut (h : RB H sl bs) {k : Nat} (hk : k≤bs.length) : ∃ a b,slv 1 sl none (some (iv k)) none H=some (a,H)∧slv 1 sl (some (iv k)) none none H=some (b,H)∧RB H a (bs.take k)∧RB H b (bs.drop k)∧(∀ j,own1 a=some j→own1 sl=some j)∧(∀ j,own1 b=some j→own1 sl=some j):=by
 have b1 : ∀ d,bnd (some (iv k)) d=some k:=fun d=>by simp [bnd]
 have b2 : ∀ d,bnd none d=some d:=fun _=>rfl
 rcases h with ⟨rfl,h⟩ | ⟨id,o,c,cs,g,ro,rfl,h1,h2,h3,h4⟩
 ·have hk0 : k=0:=by simpa using hk
  subst hk0
  rcases h with rfl | ⟨id,o,j,rfl⟩
  ·exact ⟨_,_,rfl,rfl,.inl ⟨rfl,.inl rfl⟩,.inl ⟨rfl,.inl rfl⟩,fun _ h=>h,fun _ h=>h⟩
  ·exact ⟨_,_,rfl,rfl,.inl ⟨rfl,.inr ⟨_,_,_,rfl⟩⟩,.inl ⟨rfl,.inr ⟨_,_,_,rfl⟩⟩,fun _ h=>h,fun _ h=>h⟩
 ·have hA : ∃ a,slv 1 (.slice (some ⟨id,o,none⟩) bs.length c) none (some (iv k)) none H=some (a,H)∧RB H a (bs.take k)∧(∀ j,own1 a=some j→some id=some j):=by
   by_cases h0 : c=0
   ·have hb : bs=[]:=List.eq_nil_of_length_eq_zero (by omega)
    subst hb
    refine ⟨.slice (some ⟨id,o,some (bif g then 1 else 0)⟩) 0 0,?_,.inl ⟨List.take_nil,.inr ⟨_,_,_,rfl⟩⟩,fun j h=>by cases h⟩
    have hk0 : k=0:=by simpa using hk
    subst hk0
    simp only [slv,h2,b1,b2]
    rw [if_pos ⟨trivial,by omega,by omega,Nat.le_refl _⟩,if_pos (by omega)]
   ·have hl : (bs.take k).length=k:=by simp;omega
    refine ⟨.slice (some ⟨id,o,none⟩) k c,?_,.inr ⟨id,o,c,cs,g,ro,by rw [hl],by omega,h2,by omega,?_⟩,fun j h=>h⟩
    ·simp only [slv,h2,b1,b2]
     rw [if_pos ⟨trivial,by omega,by omega,Nat.le_refl _⟩,if_neg (by omega)]
     simp
    ·have:=congrArg (List.take k) h4
     rw [List.take_take,Nat.min_eq_left hk] at this
     rw [hl,this]
     simp [u8s,List.map_take]
  have hB : ∃ b,slv 1 (.slice (some ⟨id,o,none⟩) bs.length c) (some (iv k)) none none H=some (b,H)∧RB H b (bs.drop k)∧(∀ j,own1 b=some j→some id=some j):=by
   by_cases h0 : c=k
   ·have hb : bs.drop k=[]:=List.drop_eq_nil_of_le (by omega)
    refine ⟨.slice (some ⟨id,o,some (bif g then 1 else 0)⟩) 0 0,?_,.inl ⟨hb,.inr ⟨_,_,_,rfl⟩⟩,fun j h=>by cases h⟩
    simp only [slv,h2,b1,b2]
    rw [if_pos ⟨trivial,by omega,by omega,Nat.le_refl _⟩,if_pos (by omega)]
   ·have hl : (bs.drop k).length=bs.length - k:=by simp
    refine ⟨.slice (some ⟨id,o+k,none⟩) (bs.length - k) (c - k),?_,.inr ⟨id,o+k,c - k,cs,g,ro,by rw [hl],by omega,h2,by omega,?_⟩,fun j h=>h⟩
    ·simp only [slv,h2,b1,b2]
     rw [if_pos ⟨trivial,by omega,by omega,Nat.le_refl _⟩,if_neg (by omega)]
     simp
    ·have:=congrArg (List.drop k) h4
     rw [List.drop_take,List.drop_drop] at this
     rw [hl,this]
     simp [u8s,List.map_drop]
  obtain ⟨a,a1,a2,a3⟩:=hA
  obtain ⟨b,c1,c2,c3⟩:=hB
  exact ⟨a,b,a1,c1,a2,c2,a3,c3⟩
theorem Rdr.other {a : Nat} {o : Ze} (h : Rdr H p s) (ha : p < a) : Rdr (H.set a o) p s:=by
 obtain ⟨sl,h1,h2,h3,h4⟩:=h
 exact ⟨sl,(List.getElem?_set_ne (by omega)).trans h1,h2.keep fun j hj=>List.getElem?_set_ne (by have:=h3 j hj;omega),h3,h4⟩
theorem Rdr.hle (h : Rdr H p s) (hl : HLe H X) : Rdr X p s:=by
 obtain ⟨sl,hc,hr,hn,h0⟩:=h
 refine ⟨sl,hl _ _ hc,hr.keep fun j hj=>?_,hn,h0⟩
 rcases hr with ⟨_,rfl | ⟨id,o,k,rfl⟩⟩ | ⟨id,o,c,cs,g,ro,rfl,h1,h2,h3,h4⟩
 ·cases hj
 ·cases hj
 ·cases hj
  rw [h2,hl _ _ h2]
theorem Rdr.put {s' : RSt} {sl' : Value} (hc : H[p]?=some (.cells [x,v] 1 false false)) (hr : RB H sl' s'.2) (hn : ∀ j,own1 sl'=some j→j < p) (h0 : s'.1≠0→s'.2=[]) : Rdr (H.set p (.cells [sl',iv s'.1] 1 false false)) p s'∧Zu [p] H [p] (H.set p (.cells [sl',iv s'.1] 1 false false)):=
 ⟨⟨sl',Z8 hc,hr.keep fun j hj=>List.getElem?_set_ne (fun e=>by have:=hn j hj;omega),hn,h0⟩,⟨by simp,fun j hj hm=>List.getElem?_set_ne (fun e=>hm (by simp [e])),fun j hj=>.inl hj⟩⟩
def Zzf (s : RSt) : Nat:=if s.1=0 then (if s.2=[] then 0 else 3) else s.1
end
end Go.Proofs.YtgfbgfafajiehaaGreatDoor.A

namespace Go.Proofs.YtgfbgfafajiehaaGreatDoor.A
set_option linter.unusedVariables false
set_option linter.unusedSimpArgs false
structure OpT where
 kd : Nat
 a : Tx
 b : Tx
 nd : Nat
 rl : Nat
 deriving DecidableEq
def OpT.cells (o : OpT) : List Value:=[.int .u8 o.kd,strv o.a,strv o.b,.int .u8 o.nd,.int .u8 o.rl]
structure Zln (o : OpT) : Prop where
 kd : o.kd≤255
 nd : o.nd≤255
 rl : o.rl≤255
def ZaQ : List Tx:=[[97,98],[97],[97,98],[97],[97],[97,98],[97],[97],[97,98],[97],[97],[97,98],[97,98],[97],[97],[],[110,114]]
def sgn (o : OpT) : Tx:=ZaQ.getD o.kd []
def ZeI (o : OpT) : OpT:=
 ⟨o.kd,if 97∈sgn o then o.a else [],if 98∈sgn o then o.b else [],if 110∈sgn o then o.nd else 0,if 114∈sgn o then o.rl else 0⟩
def Zjg (o : OpT) (c : UInt8) : Bool:=if c=110 then decide (o.nd < 7) else if c=114 then decide (1≤o.rl) && decide (o.rl≤3) else true
def ZpY (o : OpT) (c : UInt8) : List UInt8:=if c=97 then txt o.a else if c=98 then txt o.b else if c=110 then le o.nd 1 else if c=114 then le o.rl 1 else []
def ZeC (o : OpT) : List UInt8:=le o.kd 1++((sgn o).map (ZpY o)).flatten
def checkO (o : OpT) : Nat:=
 if 17≤o.kd∨o≠ZeI o then 4
 else if (sgn o).all (Zjg o) then (if 64 < o.a.length+o.b.length∨64 < (ZeC o).length then 3 else 0) else 4
inductive QS where
 | old (m : QH)
 | now (s : NSt)
structure QI where
 num : Nat
 e : Nat
 l : List Tx
structure YY where
 cl : Nat
 num : Nat
 o : OpT
def YY.cells (r : YY) : List Value:=[.int .u8 r.cl,.int .u64 r.num]++r.o.cells
structure ZjR (r : YY) : Prop where
 cl : r.cl≤255
 num : r.num < 18446744073709551616
 o : Zln r.o
def judgeS (t : List QI) (c n : Nat) : Nat:=
 if 8≤c∨n=0∨1099511627776 < n then 0
 else match t[c]? with
  | some r=>if n < r.num then 1 else if n=r.num then 2 else 3
  | none=>0
end Go.Proofs.YtgfbgfafajiehaaGreatDoor.A

namespace Go.Proofs.YtgfbgfafajiehaaGreatDoor.A
set_option linter.unusedVariables false
set_option linter.unusedSimpArgs false
open Go.Proofs Go.Proofs.YtgfbgfafajiehaaGreatDoor
def Zdq (m : Tx) : Bool:=m==[] || (J2 m && Qy m==m)
def Y6 : List Tx→Bool
 | a :: b :: l=>decide (a < b) && Y6 (b :: l)
 | _=>true
def Zgw (gs : List Tx) : Int:=if 6 < gs.length then 7 else if gs.all Zt then (if Y6 gs then 0 else 9) else 10
def Jw (u : Zv) : Int:=if Zt u.nm then (if Kr u.hs then (if Zdq u.ml then Zgw u.gs else 11) else 4) else 10
section
variable {X X' H H0 : Zd} {n p : Nat} {v sl : Value} {l gs : List Tx} {m : Tx} {u : Zv}
theorem ZiC {a b : Tx} : Y6 (a :: b :: l)=(decide (a < b) && Y6 (b :: l)):=rfl
theorem Zqv (hl : l.length≤1000000) (hs : Sl X v (l.map strv)) : ∀ (t j : Nat),l.length - j=t→j≤l.length→
  Zi (c4 (Ji.l1 (R (n+5)))) [v,v,iv l.length,iv j] X=some (if (l.drop j).all Zt then .ext 0 [v] else .ret (iv 10),X)
 | 0,j,ht,hj=>by
  rw [List.drop_eq_nil_of_le (by omega)]
  refine Qa ?_
  rw [ZJ,show j=l.length by omega]
  unfold Ji.l1
  rw [Za Zs,Zb,if_neg (by simp)]
  rfl
 | t+1,j,ht,hj=>by
  have hkl : j < l.length:=by omega
  have hlt : (j : Int) < l.length:=by omega
  have hg:=List.getElem?_eq_getElem hkl
  have hd:=List.drop_eq_getElem_cons hkl
  generalize l[j]=y at hg hd
  have x1:=hs.ix (i:=j) (by simpa using hkl) .i64 X
  have x2:=hs.ldx (KM hg)
  have e1 : R (n+5) QD [strv y] X=some (iv (ZA y),X):=Zcg
  rw [hd,List.all_cons]
  cases hn : Zt y
  ·have he : ZA y=10:=by unfold ZA;rw [hn];rfl
   rw [he] at e1
   refine Yu ?_
   rw [ZJ]
   unfold Ji.l1
   rw [Za Zs,Zb,if_pos (by simpa using hlt),Za x1,Za x2,Za e1,Za Zl,Zb,if_pos (by simp)]
   rfl
  ·have he : ZA y=0:=ZbO.2 hn
   rw [he] at e1
   rw [Bool.true_and]
   refine (ZL ?_).trans (Zqv hl hs t (j+1) (by omega) (by omega))
   rw [ZJ]
   unfold Ji.l1
   rw [Za Zs,Zb,if_pos (by simpa using hlt),Za x1,Za x2,Za e1,Za Zl,Zb,if_neg (by simp),Za ZF,Jd (by omega)]
   rfl
theorem ZtB (hl : l.length≤1000000) (hs : Sl X v (l.map strv)) : ∀ (t j : Nat),l.length - j=t→1≤j→(j≤l.length∨j=1)→
  Zi (c2 (Ji.l2 (R n))) [v,iv j] X=some (if Y6 (l.drop (j - 1)) then .ext 2 [] else .ret (iv 9),X)
 | 0,j,ht,hj,hj2=>by
  have hr : Y6 (l.drop (j - 1))=true:=by
   have h1 : (l.drop (j - 1)).length≤1:=by rw [List.length_drop];omega
   match l.drop (j - 1),h1 with
   | [],_=>rfl
   | [a],_=>rfl
  have hlen : ZC v X=some (iv l.length,X):=by have:=hs.len (H':=X);simpa using this
  rw [hr]
  refine Qa ?_
  rw [QB]
  unfold Ji.l2
  rw [Za hlen,Za Zs,Zb,if_neg (by simp;omega)]
  rfl
 | t+1,j,ht,hj,hj2=>by
  have hkl : j < l.length:=by omega
  have hlt : (j : Int) < l.length:=by omega
  have hlen : ZC v X=some (iv l.length,X):=by have:=hs.len (H':=X);simpa using this
  have hk0 : j - 1 < l.length:=by omega
  have hg:=List.getElem?_eq_getElem hkl
  have hg0:=List.getElem?_eq_getElem hk0
  have hd:=List.drop_eq_getElem_cons hkl
  have hd0:=List.drop_eq_getElem_cons hk0
  rw [show j - 1+1=j by omega,hd] at hd0
  generalize l[j]=y at hg hd hd0
  generalize l[j - 1]=y0 at hg0 hd0
  have x1:=hs.ix (i:=j) (by simpa using hkl) .i64 X
  have x2:=hs.ldx (KM hg)
  have x3:=hs.ix (i:=j - 1) (by simpa using hk0) .i64 X
  have x4:=hs.ldx (KM hg0)
  have w0 : IntKind.i64.wrap ((j : Int) - 1)=((j - 1 : Nat) : Int):=by rw [w64 (by omega) (by omega)];omega
  have q1 : bop .str .geq (strv y0) (strv y) X=some (.bool (!decide (y0 < y)),X):=ZFL
  rw [hd0,ZiC]
  by_cases hy : y0 < y
  ·rw [decide_eq_true hy] at q1 ⊢
   rw [Bool.true_and,← hd]
   have ih:=ZtB hl hs t (j+1) (by omega) (by omega) (by omega)
   rw [Nat.add_sub_cancel] at ih
   refine (ZL ?_).trans ih
   rw [QB]
   unfold Ji.l2
   rw [Za hlen,Za Zs,Zb,if_pos (by simpa using hlt),Za Q0,w0,Za x3,Za x4,Za x1,Za x2,Za q1,Zb,if_neg (by simp),Za ZF,Jd (by omega)]
   rfl
  ·rw [decide_eq_false hy] at q1 ⊢
   refine Yu ?_
   rw [QB]
   unfold Ji.l2
   rw [Za hlen,Za Zs,Zb,if_pos (by simpa using hlt),Za Q0,w0,Za x3,Za x4,Za x1,Za x2,Za q1,Zb,if_pos (by simp)]
   rfl
theorem Zv0 (hl : l.length≤1000000) (hs : Sl X v (l.map strv)) : R (n+6) ZcS [v] X=some (iv (Zgw l),X):=by
 have hlen : ZC v X=some (iv l.length,X):=by have:=hs.len (H':=X);simpa using this
 have e1:=Zqv (n:=n) hl hs l.length 0 (by omega) (by omega)
 have e2:=ZtB (n:=n+5) hl hs (l.length - 1) 1 rfl (Nat.le_refl _) (.inr rfl)
 rw [show iv ((0 : Nat) : Int)=.int .i64 0 from rfl,List.drop_zero] at e1
 rw [show iv ((1 : Nat) : Int)=.int .i64 1 from rfl,Nat.sub_self,List.drop_zero] at e2
 rw [R,Zr6 rfl]
 unfold Ji Zgw
 rw [Za hlen]
 by_cases h6 : 6 < l.length
 ·rw [Za Qg,Zb,if_pos (by simp;omega),if_pos h6];rfl
 ·rw [Za Qg,Zb,if_neg (by simp;omega),if_neg h6,Za hlen]
  cases ha : l.all Zt
  ·rw [ha] at e1
   rw [Ky e1];rfl
  ·rw [ha] at e1
   rw [QG e1,ZI,Jy]
   cases hr : Y6 l
   ·rw [hr] at e2
    rw [Ky e2];rfl
   ·rw [hr] at e2
    rw [QG e2,ZI];rfl
theorem Zzk : ∃ X',R (n+9) ZeQ [strv m] X=some (iv (if Zdq m then 0 else 11),X')∧HLe X X':=by
 have f1 : ∀ r X',ZeG (R (n+8)) (strv m) X=some (r,X')→R (n+9) ZeQ [strv m] X=some (r,X'):=fun r X' hr=>by rw [R,Zwd rfl];exact hr
 have q1 : bop .str .eql (strv m) (.string ⟨#[]⟩) X=some (.bool (m==[]),X):=Ziy (b:=[])
 unfold Zdq
 by_cases hm : m=[]
 ·refine ⟨X,f1 _ _ ?_,.refl _⟩
  unfold ZeG
  rw [Za q1,Zb,if_pos (by simpa using hm)]
  simp [hm,ret]
 ·have hmb : (m==[])=false:=by simpa using hm
  obtain ⟨X1,e1,k1⟩:=Zqp (n:=n) (s:=m) (X:=X)
  refine ⟨X1,f1 _ _ ?_,k1⟩
  unfold ZeG
  rw [hmb] at q1 ⊢
  rw [Za q1,Zb,if_neg (by simp),Za e1,Za Zq,Za Zr]
  cases hb : J2 m
  ·have q2 : bop .int .neq (iv 11) (.int .i64 0) X1=some (.bool true,X1):=by rw [Zl];rfl
   simp only [Bool.false_eq_true,if_false,Bool.false_and,Bool.or_false]
   rw [Za q2,Za (g_r.trans (if_neg (by simp)))]
   simp only [List.replicate]
   rw [ZR,Za Zm]
   simp only [cond_true]
   rw [Zb,if_pos rfl]
   rfl
  ·have q2 : bop .int .neq (iv 0) (.int .i64 0) X1=some (.bool false,X1):=by rw [Zl];rfl
   have q3 : bop .str .neq (strv (Qy m)) (strv m) X1=some (.bool (!(Qy m==m)),X1):=ZfO
   simp only [if_true,Bool.true_and,Bool.false_or]
   rw [Za q2,ZX,Zk,Za q3,Qi,ZR,Za Zm]
   simp only [cond_false]
   cases hf : Qy m==m
   ·rw [Zb,if_pos (by rfl)];rfl
   ·rw [Zb,if_neg (by simp)];rfl
theorem UOK.cells1 (h : UOK X u) : alc 1 (.agg u.cells.toArray) X=some (pt X.length,X++[.cells u.cells 1 false false]):=ZFh h.2.1
theorem ZlB (h : UOK X u) : ∃ X',R (n+10) Wx [iv 2,.agg u.cells.toArray] X=some (iv (Jw u),X')∧HLe X X':=by
 have e1:=h.cells1
 have k1 : HLe X (X++[.cells u.cells 1 false false]):=.app _ _
 have c1 : (X++[Ze.cells u.cells 1 false false])[X.length]?=some (.cells u.cells 1 false false):=Zp
 generalize X++[Ze.cells u.cells 1 false false]=X1 at e1 k1 c1
 generalize X.length=p at e1 c1
 have a0 : ∀ Y,HLe X1 Y→∀ f x,u.cells[f]?=some x→ld1 (pa p f) Y=some (x,Y):=fun Y hl f x h=>Zy (hl _ _ c1) h
 have e2 : R (n+9) QD [strv u.nm] X1=some (iv (ZA u.nm),X1):=Zcg (n:=n+4)
 have e3 : R (n+9) Kj [strv u.hs] X1=some (iv (Z9 u.hs),X1):=Znp (n:=n+5)
 have b2:=Zzp (a:=ZA u.nm) (c:=Z9 u.hs) X1
 have k2 : HLe X1 (X1++[Ze.cells [iv (ZA u.nm),iv (Z9 u.hs)] 1 false false]):=.app _ _
 have s2 : Sl (X1++[Ze.cells [iv (ZA u.nm),iv (Z9 u.hs)] 1 false false]) (.slice (some ⟨X1.length,0,none⟩) 2 2) [iv (ZA u.nm),iv (Z9 u.hs)]:=Sl.one (vs:=[iv (ZA u.nm),iv (Z9 u.hs)]) (es:=1) (g:=false) (ro:=false) Zp
 generalize X1++[Ze.cells [iv (ZA u.nm),iv (Z9 u.hs)] 1 false false]=X2 at b2 k2 s2
 generalize X1.length=p2 at b2 s2
 have e4 : R (n+9) W8 [.slice (some ⟨p2,0,none⟩) 2 2] X2=_:=Zr4 (n:=n+8) s2
 have q1 : bop .int .neq (iv 2) (.int .i64 1) X1=some (.bool true,X1):=by rw [Zl];rfl
 have q2 : bop .int .neq (iv 2) (.int .i64 2) X1=some (.bool false,X1):=by rw [Zl];rfl
 have q3 : bop .int .eql (iv 2) (.int .i64 2) X2=some (.bool true,X2):=by rw [ZE];rfl
 have f1 : ∀ r X',Zbh (R (n+9)) (iv 2) (.agg u.cells.toArray) X=some (r,X')→R (n+10) Wx [iv 2,.agg u.cells.toArray] X=some (r,X'):=fun r X' hr=>by rw [R,ZkN rfl];exact hr
 have hpre : ∀ K : Value→M Value,bind (alc 1 (.agg u.cells.toArray)) (fun v3=>bind (bop .int .neq (iv 2) (.int .i64 1)) fun v7=>bind (gate v7 true 2 (bind (bop .int .neq (iv 2) (.int .i64 2)) fun v10=>ret [iv 2,v10])) (c2 fun _ q=>bind (pick v7 q (.bool false)) fun v11=>cnd v11 (ret (.int .i64 6)) (K v3))) X=K (pt p) X1:=fun K=>by
  rw [Za e1,Za q1,ZX,Zk,Za q2,Qi,QB,Za Zm]
  simp only [cond_true]
  rw [Zb,if_neg (by simp)]
 unfold Jw
 cases hn : Zt u.nm
 ·have h0 : ZA u.nm=10:=by unfold ZA;rw [hn];rfl
  refine ⟨X2,f1 _ _ ?_,k1.trans k2⟩
  unfold Zbh
  refine (hpre _).trans ?_
  rw [Za Zj,Za (a0 _ (.refl _) 0 _ rfl),Za Zj,Za (a0 _ (.refl _) 1 _ rfl),Za e2,Za (a0 _ (.refl _) 1 _ rfl),QY,Za e3,Za b2,Za e4,h0,Za Zl,Zb,if_pos (by simp)]
  rfl
 ·have h0 : ZA u.nm=0:=ZbO.2 hn
  cases hs : Kr u.hs
  ·have h1 : Z9 u.hs=4:=by unfold Z9;rw [hs];rfl
   refine ⟨X2,f1 _ _ ?_,k1.trans k2⟩
   unfold Zbh
   refine (hpre _).trans ?_
   rw [Za Zj,Za (a0 _ (.refl _) 0 _ rfl),Za Zj,Za (a0 _ (.refl _) 1 _ rfl),Za e2,Za (a0 _ (.refl _) 1 _ rfl),QY,Za e3,Za b2,Za e4,h0,h1,Za Zl,Zb,if_pos (by simp)]
   rfl
  ·have h1 : Z9 u.hs=0:=Zva.2 hs
   have k12:=k1.trans k2
   have s4:=(h.hle k12).1
   have hl6:=h.2.2
   obtain ⟨X3,e5,k3⟩:=Zzk (n:=n) (m:=u.ml) (X:=X2)
   have e6 : R (n+9) ZcS [u.gv] X3=_:=Zv0 (n:=n+3) hl6 (s4.mono k3)
   have b7:=Zzp (a:=if Zdq u.ml then 0 else 11) (c:=Zgw u.gs) X3
   have k7 : HLe X3 (X3++[Ze.cells [iv (if Zdq u.ml then 0 else 11),iv (Zgw u.gs)] 1 false false]):=.app _ _
   have s7 : Sl (X3++[Ze.cells [iv (if Zdq u.ml then 0 else 11),iv (Zgw u.gs)] 1 false false]) (.slice (some ⟨X3.length,0,none⟩) 2 2) [iv (if Zdq u.ml then 0 else 11),iv (Zgw u.gs)]:=Sl.one (vs:=[iv (if Zdq u.ml then 0 else 11),iv (Zgw u.gs)]) (es:=1) (g:=false) (ro:=false) Zp
   generalize X3++[Ze.cells [iv (if Zdq u.ml then 0 else 11),iv (Zgw u.gs)] 1 false false]=X7 at b7 k7 s7
   generalize X3.length=p7 at b7 s7
   have e8 : R (n+9) W8 [.slice (some ⟨p7,0,none⟩) 2 2] X7=_:=Zr4 (n:=n+8) s7
   refine ⟨X7,f1 _ _ ?_,(k12.trans k3).trans k7⟩
   unfold Zbh
   refine (hpre _).trans ?_
   rw [Za Zj,Za (a0 _ (.refl _) 0 _ rfl),Za Zj,Za (a0 _ (.refl _) 1 _ rfl),Za e2,Za (a0 _ (.refl _) 1 _ rfl),QY,Za e3,Za b2,Za e4,h0,h1,Za Zl,Zb,if_neg (by simp),Za q3,Zb,if_pos rfl,Za Zj,Za (a0 _ k2 2 _ rfl),Za Zj,Za (a0 _ k2 4 _ rfl),Za e5,Za (a0 _ (k2.trans k3) 4 _ rfl),QY,Za e6,Za b7,Za e8]
   cases hm : Zdq u.ml <;> simp [ret]
end
end Go.Proofs.YtgfbgfafajiehaaGreatDoor.A

namespace Go.Proofs.YtgfbgfafajiehaaGreatDoor.A
set_option linter.unusedVariables false
set_option linter.unusedSimpArgs false
open Go.Proofs Go.Proofs.YtgfbgfafajiehaaGreatDoor
def Yc : List Zv→Int
 | []=>0
 | u :: l=>if Jw u=0 then Yc l else Jw u
def Zkt (us : List Zv) : Int:=if Yc us=0 then (if Y6 (us.map (·.nm)) then (if 12 < us.length then 7 else 0) else 9) else Yc us
def ZcR (us : List Zv) (gs : List Tx) : Int:=if Zkt us=0 then (if gs.all Zt then (if Y6 gs then (if 6 < gs.length then 7 else 0) else 9) else 10) else Zkt us
def ZeW (gs : List Tx) (prev : List Zv) (u : Zv) : Int:=if u.gs.all (fun g=>decide (g∈gs)) then (if u.ml≠[]∧prev.any (fun v=>u.ml==v.ml)=true then 9 else 0) else 8
def ZaG (gs : List Tx) : List Zv→List Zv→Int
 | _,[]=>0
 | prev,u :: l=>if ZeW gs prev u=0 then ZaG gs (prev++[u]) l else ZeW gs prev u
def Zbs (us : List Zv) (gs : List Tx) : Int:=if ZcR us gs=0 then ZaG gs [] us else ZcR us gs
def ZF0 (X : Zd) (sl : Value) (us : List Zv) : Prop:=∀ k,k≤us.length→∃ v,(∀ X',HLe X X'→slv 5 sl none (some (iv k)) none X'=some (v,X'))∧SlN 5 X v ((us.take k).map Zv.cells)
section
variable {X X' H H0 : Zd} {n p d b : Nat} {v sl gv : Value} {l gs : List Tx} {m : Tx} {u : Zv} {us : List Zv}
theorem ZhV : ∀ {l : List Tx},Y6 l=true→l.Pairwise (· < ·)
 | [],_=>List.Pairwise.nil
 | [a],_=>by simp
 | a :: b :: l,h=>by
  rw [ZiC,Bool.and_eq_true,decide_eq_true_eq] at h
  have ih:=ZhV h.2
  refine List.Pairwise.cons (fun x hx=>?_) ih
  rcases List.mem_cons.1 hx with rfl | hx
  ·exact h.1
  ·exact List.lt_trans h.1 ((List.pairwise_cons.1 ih).1 x hx)
theorem ZlH : ∀ {us : List Zv},Yc us=0→∀ u∈us,Jw u=0
 | [],_,_,h=>by simp at h
 | w :: us,h,u,hu=>by
  unfold Yc at h
  by_cases hw : Jw w=0
  ·rw [if_pos hw] at h
   rcases List.mem_cons.1 hu with rfl | hu
   ·exact hw
   ·exact ZlH h u hu
  ·rw [if_neg hw] at h;exact absurd h hw
theorem Zos {k : Nat} (hl : l.length≤1000000) (hs : Sl X v (l.map strv)) : R (n+4) KI [v,iv k] X=some (iv (if Y6 l then (if k < l.length then 7 else 0) else 9),X):=by
 have hlen : ZC v X=some (iv l.length,X):=by have:=hs.len (H':=X);simpa using this
 have lp : ∀ (t j : Nat),l.length - j=t→1≤j→(j≤l.length∨j=1)→Zi (c3 (Wy.l1 (R (n+3)))) [v,iv k,iv j] X=some (if Y6 (l.drop (j - 1)) then .ext 0 [v,iv k] else .ret (iv 9),X):=by
  intro t
  induction t with
  | zero=>
   intro j ht hj hj2
   have hr : Y6 (l.drop (j - 1))=true:=by
    have h1 : (l.drop (j - 1)).length≤1:=by rw [List.length_drop];omega
    match l.drop (j - 1),h1 with
    | [],_=>rfl
    | [a],_=>rfl
   rw [hr]
   refine Qa ?_
   rw [ZR]
   unfold Wy.l1
   rw [Za hlen,Za Zs,Zb,if_neg (by simp;omega)]
   rfl
  | succ t ih=>
   intro j ht hj hj2
   have hkl : j < l.length:=by omega
   have hlt : (j : Int) < l.length:=by omega
   have hk0 : j - 1 < l.length:=by omega
   have hg:=List.getElem?_eq_getElem hkl
   have hg0:=List.getElem?_eq_getElem hk0
   have hd:=List.drop_eq_getElem_cons hkl
   have hd0:=List.drop_eq_getElem_cons hk0
   rw [show j - 1+1=j by omega,hd] at hd0
   generalize l[j]=y at hg hd hd0
   generalize l[j - 1]=y0 at hg0 hd0
   have x1:=hs.ix (i:=j) (by simpa using hkl) .i64 X
   have x2:=hs.ldx (KM hg)
   have x3:=hs.ix (i:=j - 1) (by simpa using hk0) .i64 X
   have x4:=hs.ldx (KM hg0)
   have w0 : IntKind.i64.wrap ((j : Int) - 1)=((j - 1 : Nat) : Int):=by rw [w64 (by omega) (by omega)];omega
   have e1 : R (n+3) ZZ [strv y0,strv y] X=some (iv (Zdp y0 y),X):=ZzW (n:=n)
   have q1 : bop .int .geq (iv (Zdp y0 y)) (.int .i64 0) X=some (.bool (!decide (y0 < y)),X):=by rw [Qp,ZDD]
   rw [hd0,ZiC]
   by_cases hy : y0 < y
   ·rw [decide_eq_true hy] at q1 ⊢
    rw [Bool.true_and,← hd]
    have ih:=ih (j+1) (by omega) (by omega) (by omega)
    rw [Nat.add_sub_cancel] at ih
    refine (ZL ?_).trans ih
    rw [ZR]
    unfold Wy.l1
    rw [Za hlen,Za Zs,Zb,if_pos (by simpa using hlt),Za Q0,w0,Za x3,Za x4,Za x1,Za x2,Za e1,Za q1,Zb,if_neg (by simp),Za ZF,Jd (by omega)]
    rfl
   ·rw [decide_eq_false hy] at q1 ⊢
    refine Yu ?_
    rw [ZR]
    unfold Wy.l1
    rw [Za hlen,Za Zs,Zb,if_pos (by simpa using hlt),Za Q0,w0,Za x3,Za x4,Za x1,Za x2,Za e1,Za q1,Zb,if_pos (by simp)]
    rfl
 have e1:=lp (l.length - 1) 1 rfl (Nat.le_refl _) (.inr rfl)
 rw [show iv ((1 : Nat) : Int)=.int .i64 1 from rfl,Nat.sub_self,List.drop_zero] at e1
 rw [R,Zuc rfl]
 unfold Wy
 cases hr : Y6 l
 ·rw [hr] at e1
  rw [Ky e1];rfl
 ·rw [hr] at e1
  rw [QG e1,ZI,QB,Za hlen,Za Qg,Zb]
  by_cases h : k < l.length
  ·rw [if_pos (by simp;omega),if_pos h];rfl
  ·rw [if_neg (by simp;omega),if_neg h];rfl
theorem ZvE (hn : us.length≤1000) (hA : YP H0 sl us) : ∀ (t j : Nat) (nv : Value) (q : List Nat) (acc : List Tx) (X : Zd),us.length - j=t→j≤us.length→acc.length≤j→HLe H0 X→(∀ i∈q,H0.length≤i)→Zo X nv (acc.map strv) q→
  ∃ X' o,Zi (c5 (QX.l1 (R (n+10)))) [gv,nv,sl,iv us.length,iv j] X=some (o,X')∧HLe H0 X'∧(if Yc (us.drop j)=0 then ∃ nv' q',o=.ext 0 [gv,nv']∧Zo X' nv' ((acc++(us.drop j).map (·.nm)).map strv) q' else o=.ret (iv (Yc (us.drop j))))
 | 0,j,nv,q,acc,X,ht,hj,ha,hle,hq,hr=>by
  rw [List.drop_eq_nil_of_le (by omega)]
  refine ⟨X,.ext 0 [gv,nv],Qa ?_,hle,?_⟩
  ·rw [QF,show j=us.length by omega]
   unfold QX.l1
   rw [Za Zs,Zb,if_neg (by simp)]
   rfl
  ·rw [if_pos (show Yc []=0 from rfl)]
   exact ⟨nv,q,rfl,by simpa using hr⟩
 | t+1,j,nv,q,acc,X,ht,hj,ha,hle,hq,hr=>by
  have hjl : j < us.length:=by omega
  have hlt : (j : Int) < us.length:=by omega
  have hg:=List.getElem?_eq_getElem hjl
  have hd:=List.drop_eq_getElem_cons hjl
  generalize us[j]=u at hg hd
  have hok:=(hA.mono hle).ok (List.mem_of_getElem? hg)
  have hf:=fun {K : Value→M Out}=>Zsg (k:=K) (hA.mono hle).1 hok.2.1 hg
  have g1 : (X++[Ze.cells u.cells 1 false false])[X.length]?=some (.cells u.cells 1 false false):=Zp
  have k1 : HLe X (X++[Ze.cells u.cells 1 false false]):=.app _ _
  generalize X++[Ze.cells u.cells 1 false false]=X1 at g1 k1 hf
  generalize X.length=p at g1 hf
  have d1 : ldA 5 (pt p) X1=some (.agg u.cells.toArray,X1):=Qe (n:=5) g1 rfl
  obtain ⟨X2,e2,k2⟩:=ZlB (n:=n) (hok.hle k1)
  have k12:=k1.trans k2
  have le2:=hle.trans k12
  rw [hd]
  unfold Yc
  by_cases he : Jw u=0
  ·rw [he] at e2
   simp only [if_pos he]
   have q2 : bop .int .neq (iv 0) (.int .i64 0) X2=some (.bool false,X2):=by rw [Zl];rfl
   have l0 : ld1 (pa p 0) X2=some (strv u.nm,X2):=Zy (k2 _ _ g1) rfl
   have x4:=ZpO (es:=1) (z:=.string ⟨#[]⟩) (v:=strv u.nm) (H:=X2) rfl rfl rfl
   have k3 : HLe X2 (X2++[Ze.cells [strv u.nm] 1 false false]):=.app _ _
   have s3 : Sl (X2++[Ze.cells [strv u.nm] 1 false false]) (.slice (some ⟨X2.length,0,none⟩) 1 1) [strv u.nm]:=Sl.one (c:=1) Zp
   generalize X2++[Ze.cells [strv u.nm] 1 false false]=X3 at x4 k3 s3
   have hr3 : Zo X3 nv _ q:=hr.step (k12.trans k3).step (by simp)
   obtain ⟨nv',X4,q',x5,hr4,s4,_⟩:=hr3.push (b:=16) s3 (by simp;omega) (by simp;omega)
   have hm:=(le2.trans k3).more s4 hq
   have hr4' : Zo X4 nv' ((acc++[u.nm]).map strv) q':=by rw [List.map_append];exact hr4
   obtain ⟨X5,o5,e5,k5,h5⟩:=ZvE hn hA t (j+1) nv' q' (acc++[u.nm]) X4 (by omega) (by omega) (by simp;omega) hm.1 hm.2 hr4'
   refine ⟨X5,o5,(ZL ?_).trans e5,k5,by simpa using h5⟩
   rw [QF]
   unfold QX.l1
   rw [Za Zs,Zb,if_pos (by simpa using hlt),hf,Za d1,Za e2,Za q2,Zb,if_neg (by simp),Za Zj,Za l0,Za x4,Za x5,Za ZF,Jd (by omega)]
   rfl
  ·simp only [if_neg he]
   have q2 : bop .int .neq (iv (Jw u)) (.int .i64 0) X2=some (.bool true,X2):=by rw [Zl];simp [he]
   refine ⟨X2,_,Yu (v:=iv (Jw u)) ?_,le2,rfl⟩
   rw [QF]
   unfold QX.l1
   rw [Za Zs,Zb,if_pos (by simpa using hlt),hf,Za d1,Za e2,Za q2,Zb,if_pos rfl]
   rfl
theorem Zv1 (hl : l.length≤1000000) (hs : Sl X v (l.map strv)) : ∀ (t j : Nat),l.length - j=t→j≤l.length→
  Zi (c4 (QX.l2 (R (n+5)))) [v,v,iv l.length,iv j] X=some (if (l.drop j).all Zt then .ext 2 [v] else .ret (iv 10),X)
 | 0,j,ht,hj=>by
  rw [List.drop_eq_nil_of_le (by omega)]
  refine Qa ?_
  rw [ZJ,show j=l.length by omega]
  unfold QX.l2
  rw [Za Zs,Zb,if_neg (by simp)]
  rfl
 | t+1,j,ht,hj=>by
  have hkl : j < l.length:=by omega
  have hlt : (j : Int) < l.length:=by omega
  have hg:=List.getElem?_eq_getElem hkl
  have hd:=List.drop_eq_getElem_cons hkl
  generalize l[j]=y at hg hd
  have x1:=hs.ix (i:=j) (by simpa using hkl) .i64 X
  have x2:=hs.ldx (KM hg)
  have e1 : R (n+5) QD [strv y] X=some (iv (ZA y),X):=Zcg
  rw [hd,List.all_cons]
  cases hn : Zt y
  ·have he : ZA y=10:=by unfold ZA;rw [hn];rfl
   rw [he] at e1
   refine Yu ?_
   rw [ZJ]
   unfold QX.l2
   rw [Za Zs,Zb,if_pos (by simpa using hlt),Za x1,Za x2,Za e1,Za Zl,Zb,if_pos (by simp)]
   rfl
  ·have he : ZA y=0:=ZbO.2 hn
   rw [he] at e1
   rw [Bool.true_and]
   refine (ZL ?_).trans (Zv1 hl hs t (j+1) (by omega) (by omega))
   rw [ZJ]
   unfold QX.l2
   rw [Za Zs,Zb,if_pos (by simpa using hlt),Za x1,Za x2,Za e1,Za Zl,Zb,if_neg (by simp),Za ZF,Jd (by omega)]
   rfl
theorem Zvj (hn : us.length≤1000) (hl : gs.length≤1000000) (hA : YP X sl us) (hs : Sl X gv (gs.map strv)) : ∃ X',R (n+11) ZcI [sl,gv] X=some (iv (ZcR us gs),X')∧HLe X X':=by
 obtain ⟨X1,o,e1,k1,h1⟩:=ZvE (n:=n) (gv:=gv) hn hA us.length 0 (.slice none 0 0) [] [] X (by omega) (by omega) (by simp) (.refl _) (by simp) Zo.nil
 rw [List.drop_zero] at h1
 have e1 : Zi (c5 (QX.l1 (R (n+10)))) [gv,.slice none 0 0,sl,iv us.length,.int .i64 0] X=_:=e1
 have hlen : ZC sl X=some (iv us.length,X):=by have:=hA.1.len (H':=X);rwa [List.length_map] at this
 have f1 : ∀ r X',QX (R (n+10)) sl gv X=some (r,X')→R (n+11) ZcI [sl,gv] X=some (r,X'):=fun r X' hr=>by rw [R,ZsY rfl];exact hr
 refine ⟨X1,f1 _ _ ?_,k1⟩
 unfold QX ZcR Zkt
 rw [Za hlen]
 by_cases hf : Yc us=0
 ·rw [if_pos hf] at h1
  simp only [if_pos hf]
  obtain ⟨nv,q,rfl,hr⟩:=h1
  rw [List.nil_append] at hr
  have e2 : R (n+10) KI [nv,iv 12] X1=_:=Zos (n:=n+6) (k:=12) (l:=us.map (·.nm)) (by rw [List.length_map];omega) hr.rd
  have hs1:=hs.mono k1
  have hgl : ZC gv X1=some (iv gs.length,X1):=by have:=hs1.len (H':=X1);simpa using this
  have e3:=Zv1 (n:=n+5) hl hs1 gs.length 0 (by omega) (by omega)
  rw [show iv ((0 : Nat) : Int)=.int .i64 0 from rfl,List.drop_zero] at e3
  have e4 : R (n+10) KI [gv,iv 6] X1=_:=Zos (n:=n+6) (k:=6) hl hs1
  rw [List.length_map] at e2
  rw [QG e1,ZI,QB]
  cases hr1 : Y6 (us.map (·.nm))
  ·rw [hr1] at e2
   have e2 : R (n+10) KI [nv,iv 12] X1=some (iv 9,X1):=e2
   rw [Za e2,Za Zl,Zb,if_pos (by simp)]
   rfl
  ·rw [hr1] at e2
   simp only [if_true] at e2 ⊢
   by_cases h12 : 12 < us.length
   ·rw [if_pos h12] at e2 ⊢
    have e2 : R (n+10) KI [nv,iv 12] X1=some (iv 7,X1):=e2
    rw [Za e2,Za Zl,Zb,if_pos (by simp)]
    rfl
   ·rw [if_neg h12] at e2 ⊢
    have e2 : R (n+10) KI [nv,iv 12] X1=some (iv 0,X1):=e2
    rw [Za e2,Za Zl,Zb,if_neg (by simp),Za hgl,if_pos rfl]
    cases ha : gs.all Zt
    ·rw [ha] at e3
     rw [Ky e3];rfl
    ·rw [ha] at e3
     rw [QG e3,ZI,Jy,Za e4]
     rfl
 ·rw [if_neg hf] at h1
  simp only [if_neg hf]
  subst h1
  rw [Ky e1]
  rfl
end
end Go.Proofs.YtgfbgfafajiehaaGreatDoor.A

namespace Go.Proofs.YtgfbgfafajiehaaGreatDoor.A
set_option linter.unusedVariables false
set_option linter.unusedSimpArgs false
open Go.Proofs Go.Proofs.YtgfbgfafajiehaaGreatDoor
def WM (ps : List Tx) (k : Tx) (mem : Mem) : Mem:=fun g n=>mem g n || (decide (g∈ps) && n==k)
section
variable {X X' X0 H H0 : Zd} {n p d b c i : Nat} {r : NR} {s : NSt} {v sl gv ugv zl : Value} {l gs : List Tx} {m k g : Tx} {u : Zv} {us prev : List Zv}
theorem Ztu {i : Nat} (hg : us[i]?=some u) : us.take (i+1)=us.take i++[u]:=by
 rw [List.take_add_one,hg];rfl
end
end Go.Proofs.YtgfbgfafajiehaaGreatDoor.A

namespace Go.Proofs.YtgfbgfafajiehaaGreatDoor.A
set_option linter.unusedVariables false
set_option linter.unusedSimpArgs false
open Go.Proofs Go.Proofs.YtgfbgfafajiehaaGreatDoor
section
variable {X X' X0 H H0 : Zd} {n p d b c i : Nat} {r : NR} {s : NSt} {v sl gv ugv zl : Value} {l gs : List Tx} {m k g : Tx} {u : Zv} {us prev : List Zv}
def nGs (gs : List Tx) : NSt:=⟨[],[],[],gs,fun _ _=>false⟩
theorem ZDT (hr : Y6 gs=true) (hn : gs.all Zt=true) (h6 : gs.length≤6) {j : Nat} (hg : gs[j]?=some g) : Yd g (gs.take j)=0∧Zim g (gs.take j)=gs.take (j+1):=by
 have hj : j < gs.length:=(List.getElem?_eq_some_iff.1 hg).1
 have hgm:=List.mem_of_getElem? hg
 have h1 : Zt g=true:=List.all_eq_true.1 hn g hgm
 have hd:=List.drop_eq_getElem_cons hj
 have hge : gs[j]=g:=by have:=List.getElem?_eq_getElem hj;rw [hg] at this;exact (Option.some.inj this).symm
 have hp:=ZhV hr
 rw [← List.take_append_drop j gs,List.pairwise_append,hd,hge] at hp
 have h2 : g∉gs.take j:=fun hm=>List.lt_irrefl g (hp.2.2 g hm g (by simp))
 have hl : (gs.take j).length=j:=by rw [List.length_take];omega
 have h0 : Yd g (gs.take j)=0:=by
  unfold Yd
  rw [h1,if_pos rfl,if_neg h2,hl,if_neg (by omega)]
 refine ⟨h0,?_⟩
 unfold Zim
 rw [if_pos h0,List.take_add_one,hg]
 rfl
theorem ZAc (hs : Sl X0 gv (gs.map strv)) (hr : Y6 gs=true) (hn : gs.all Zt=true) (h6 : gs.length≤6) : ∀ (t j : Nat) (r : NR) (X : Zd),gs.length - j=t→j≤gs.length→HLe X0 X→ND X d r (nGs (gs.take j)) 0→(∀ i∈r.own,X0.length≤i)→
  ∃ X' r',Zi (c5 (QN.l1 (R (n+11)))) [sl,pt d,gv,iv gs.length,iv j] X=some (.ext 0 [sl,pt d],X')∧HLe X0 X'∧ND X' d r' (nGs gs) 0∧∀ i∈r'.own,X0.length≤i
 | 0,j,r,X,ht,hj,hle,hd,ho=>by
  have hj : j=gs.length:=by omega
  subst hj
  rw [List.take_length] at hd
  refine ⟨X,r,Qa ?_,hle,hd,ho⟩
  rw [QF]
  unfold QN.l1
  rw [Za Zs,Zb,if_neg (by simp)]
  rfl
 | t+1,j,r,X,ht,hj,hle,hd,ho=>by
  have hkl : j < gs.length:=by omega
  have hlt : (j : Int) < gs.length:=by omega
  have hg:=List.getElem?_eq_getElem hkl
  generalize gs[j]=g at hg
  have x1:=(hs.mono hle).ix (i:=j) (by simpa using hkl) .i64 X
  have x2:=(hs.mono hle).ldx (KM hg)
  obtain ⟨m1,m2⟩:=ZDT hr hn h6 hg
  obtain ⟨X1,G',e1,g1,k1,s1⟩:=ZxJ (n:=n+3) (k:=g) hd.gr
  have e1 : R (n+11) JV [pt r.g,strv g] X=_:=e1
  rw [hd.ks] at e1 k1
  rw [show (nGs (gs.take j)).K=gs.take j from rfl,m2] at k1
  obtain ⟨d1,t1⟩:=hd.toND0.setG g1 s1 k1
  have hm:=hle.more t1 ho
  have hd1 : ND X1 d { r with G:=G' } (nGs (gs.take (j+1))) 0:=⟨d1,⟨by simp [nGs],by simp [nGs],by simp [nGs,Zf],by simp [nGs],by simp [nGs,Zf]⟩⟩
  obtain ⟨X2,r2,e2,k2,h2,o2⟩:=ZAc hs hr hn h6 t (j+1) _ X1 (by omega) (by omega) hm.1 hd1 hm.2
  refine ⟨X2,r2,(ZL ?_).trans e2,k2,h2,o2⟩
  rw [QF]
  unfold QN.l1
  rw [Za Zs,Zb,if_pos (by simpa using hlt),Za x1,Za x2,Za Zg,Za Zj,Za hd.l2,Za e1,Za ZF,Jd (by omega)]
  rfl
theorem ZBt {mem : Mem} : WM [] k mem=mem:=by
 funext g n
 unfold WM
 simp
theorem ZAu {mem : Mem} {ps : List Tx} : Zju g k (WM ps k mem)=WM (ps++[g]) k mem:=by
 funext g' n
 unfold Zju WM
 by_cases h1 : g'∈ps <;> by_cases h2 : g'=g <;> cases mem g' n <;> cases hn : n==k <;> simp [h1,h2,hn]
theorem ZBi (hnm : Zt u.nm=true) (hall : u.gs.all Zt=true) (hasc : Y6 u.gs=true) (hl : u.gs.length≤6) (hfree : ∀ g,s.mem g u.nm=false) (hK : s.K=gs) {z1 z2 z3 : Value} : ∀ (t j : Nat) (c : Nat) (X : Zd),u.gs.length - j=t→j≤u.gs.length→ND0 X d r { s with mem:=WM (u.gs.take j) u.nm s.mem } c→X[b]?=some (.cells u.cells 1 false false)→Sl X ugv (u.gs.map strv)→
  ∃ X',Zi (c8 (QN.l3 (R (n+11)))) [pt d,pt b,z1,z2,z3,ugv,iv u.gs.length,iv j] X=some (if (u.gs.drop j).all (fun g=>decide (g∈gs)) then .ext 4 [pt d,pt b,z1,z2,z3] else .ret (.tuple #[.pointer none,iv 8]),X')∧Zu r.own X r.own X'∧((u.gs.drop j).all (fun g=>decide (g∈gs))=true→∃ c',ND0 X' d r { s with mem:=WM u.gs u.nm s.mem } c')
 | 0,j,c,X,ht,hj,hd,hb,hs=>by
  have hj : j=u.gs.length:=by omega
  subst hj
  rw [List.take_length] at hd
  rw [List.drop_length]
  refine ⟨X,Qa ?_,.refl _ _,fun _=>⟨c,hd⟩⟩
  rw [Kp]
  unfold QN.l3
  rw [Za Zs,Zb,if_neg (by simp)]
  rfl
 | t+1,j,c,X,ht,hj,hd,hb,hs=>by
  have hkl : j < u.gs.length:=by omega
  have hlt : (j : Int) < u.gs.length:=by omega
  have hg:=List.getElem?_eq_getElem hkl
  have hdr:=List.drop_eq_getElem_cons hkl
  have hsn:=take_snocT hg
  generalize u.gs[j]=g at hg hdr hsn
  have x1:=hs.ix (i:=j) (by simpa using hkl) .i64 X
  have x2:=hs.ldx (KM hg)
  have l0 : ld1 (pa b 0) X=some (strv u.nm,X):=Zy hb rfl
  obtain ⟨X1,e1,g1,s1⟩:=Zys (n:=n+3) (k:=g) (m:=u.nm) hd.gr
  have e1 : R (n+11) Yo [pt r.g,strv g,strv u.nm] X=_:=e1
  rw [hd.ks] at e1 g1
  have hKs : ({ s with mem:=WM (u.gs.take j) u.nm s.mem } : NSt).K=gs:=hK
  rw [hKs] at e1 g1
  have hgn : Zt g=true:=List.all_eq_true.1 hall g (List.mem_of_getElem? hg)
  have hgt : g∉u.gs.take j:=by
   have hp:=ZhV hasc
   rw [← List.take_append_drop j u.gs,List.pairwise_append,hdr] at hp
   exact fun hm=>List.lt_irrefl g (hp.2.2 g hm g (by simp))
  have hmf : WM (u.gs.take j) u.nm s.mem g u.nm=false:=by
   unfold WM
   rw [hfree]
   simp [hgt]
  have hfd : Q9 g [u.nm] gs=if g∈gs then 0 else 8:=by
   unfold Q9
   simp [hgn,hnm]
  rw [hdr,List.all_cons]
  by_cases hgm : g∈gs
  ·rw [if_pos hgm] at hfd
   have hE : ZaO g u.nm gs (WM (u.gs.take j) u.nm s.mem)=0:=by
    unfold ZaO
    rw [hfd,if_pos rfl,hmf];rfl
   rw [hE] at e1
   rw [show ({ s with mem:=WM (u.gs.take j) u.nm s.mem } : NSt).mem=WM (u.gs.take j) u.nm s.mem from rfl,hE,if_pos rfl,ZAu,← hsn] at g1
   obtain ⟨d1,t1⟩:=hd.setG g1 s1 hd.ks
   have hc1:=hd.cle t1
   rw [decide_eq_true hgm,Bool.true_and]
   have d1' : ND0 X1 d r { s with mem:=WM (u.gs.take (j+1)) u.nm s.mem } (c+1):=d1
   obtain ⟨X2,e2,t2,h2⟩:=ZBi hnm hall hasc hl hfree hK t (j+1) (c+1) X1 (by omega) (by omega) d1' (hc1 _ _ _ _ _ hb) (hs.cle hc1)
   refine ⟨X2,(ZL ?_).trans e2,Zu.trans t1 t2,h2⟩
   rw [Kp]
   unfold QN.l3
   rw [Za Zs,Zb,if_pos (by simpa using hlt),Za x1,Za x2,Za Zg,Za Zj,Za hd.l2,Za Zj,Za l0,Za e1,Za Zl,Zb,if_neg (by simp),Za ZF,Jd (by omega)]
   rfl
  ·rw [if_neg hgm] at hfd
   have hE : ZaO g u.nm gs (WM (u.gs.take j) u.nm s.mem)=8:=by
    unfold ZaO
    rw [hfd,if_neg (by simp)]
   rw [hE] at e1
   obtain ⟨d1,t1⟩:=hd.setG g1 s1 hd.ks
   rw [decide_eq_false hgm,Bool.false_and]
   refine ⟨X1,Yu ?_,t1,fun h=>by cases h⟩
   rw [Kp]
   unfold QN.l3
   rw [Za Zs,Zb,if_pos (by simpa using hlt),Za x1,Za x2,Za Zg,Za Zj,Za hd.l2,Za Zj,Za l0,Za e1,Za Zl,Zb,if_pos (by simp)]
   rfl
where
 take_snocT {l : List Tx} {j : Nat} {h : j < l.length} (hg : l[j]?=some l[j]) : l.take (j+1)=l.take j++[l[j]]:=by
  rw [List.take_add_one,hg];rfl
theorem Ztw : ∀ {us : List Zv},(∀ v∈us,v.nm < u.nm)→putU u us=us++[u]
 | [],_=>by simp [putU,Zc5,ZbW]
 | v :: us,h=>by
  rw [ZlV,if_neg (fun hle=>(List.not_lt.2 hle) (h v (by simp))),Ztw fun w hw=>h w (by simp [hw])]
  rfl
theorem ZCt (hO : ROK s prev) (hP : Zpx s) (hm : J2 m=true) (hf : Qy m=m) : prev.any (fun w=>m==w.ml)=(Zf m s.OW).isSome:=by
 have h1:=ZAl hO hP hm
 rw [hf] at h1
 rw [← h1,Option.isSome_map,List.isSome_find?]
 congr 1
 funext w
 exact BEq.comm
def addN (u : Zv) (s : NSt) : NSt:={ A:=Qo u.nm (u.hs,u.ds) s.A,OW:=ZsT u.nm u.ml s.OW s.OF,OF:=Ze1 u.nm u.ml s.OW s.OF,K:=s.K,mem:=WM u.gs u.nm s.mem }
theorem Znc (h : Zdq m=true) : m=[]∨(J2 m=true∧Qy m=m):=by
 unfold Zdq at h
 simpa using h
theorem Zhm (h : Jw u=0) : Zt u.nm=true∧Kr u.hs=true∧Zdq u.ml=true∧u.gs.length≤6∧u.gs.all Zt=true∧Y6 u.gs=true:=by
 unfold Jw at h
 split at h
 ·rename_i h1
  split at h
  ·rename_i h2
   split at h
   ·rename_i h3
    unfold Zgw at h
    split at h
    ·exact absurd h (by decide)
    ·rename_i h6
     split at h
     ·rename_i h4
      split at h
      ·rename_i h5
       exact ⟨h1,h2,h3,by omega,h4,h5⟩
      ·exact absurd h (by decide)
     ·exact absurd h (by decide)
   ·exact absurd h (by decide)
  ·exact absurd h (by decide)
 ·exact absurd h (by decide)
theorem ZDx (hO : ROK s prev) (hP : Zpx s) (hu : Jw u=0) (hA : Zf u.nm s.A=none) : KC u.nm u.ml s.OW=if u.ml≠[]∧prev.any (fun w=>u.ml==w.ml)=true then 9 else 0:=by
 obtain ⟨h1,_,h3,_,_,_⟩:=Zhm hu
 unfold KC
 rw [h1,if_pos rfl]
 rcases Znc h3 with hm | ⟨hm,hf⟩
 ·rw [if_pos hm,if_neg (fun h=>h.1 hm)]
 ·have hne : u.ml≠[]:=by have:=(Zjd hm).1;rwa [hf] at this
  rw [if_neg hne,hm,if_pos rfl,hf,ZCt hO hP hm hf]
  cases hw : Zf u.ml s.OW with
  | none=>simp
  | some w=>
   have hww : w≠u.nm:=fun e=>by
    subst e
    have:=hP.i.ofA u.nm (by rw [(hP.x.inv u.nm u.ml).2 hw];rfl)
    rw [hA] at this;cases this
   simp [hww,hne]
theorem ZBI (hi : JJ s) (hu : Jw u=0) (hgs : ∀ g∈u.gs,g∈s.K) (hk : s.K.Nodup) (hA : Zf u.nm s.A=none) (hfree : ∀ g,s.mem g u.nm=false) (he : KC u.nm u.ml s.OW=0) (x : Tx) : Yx (addN u s) x=if x=u.nm then some (JN u) else Yx s x:=by
 obtain ⟨h1,h2,h3,h4,h5,h6⟩:=Zhm hu
 by_cases hx : x=u.nm
 ·rw [if_pos hx,hx]
  unfold Yx
  show (Zf u.nm (Qo u.nm (u.hs,u.ds) s.A)).map _=_
  rw [Zac]
  show some (Zbr _ u.nm (u.hs,u.ds))=_
  unfold Zbr JN
  show some (u.nm,u.hs,(Zf u.nm (Ze1 u.nm u.ml s.OW s.OF)).getD [],u.ds,ofL u.nm s.K (WM u.gs u.nm s.mem))=_
  rw [Zhg he,if_pos rfl]
  have hg : ofL u.nm s.K (WM u.gs u.nm s.mem)=u.gs:=by
   refine (ZmK hk).uniq ⟨ZhV h6,fun y=>Iff.rfl⟩ fun y=>?_
   unfold WM
   rw [hfree]
   simp
   exact hgs y
  rw [hg]
  rcases Znc h3 with hm | ⟨hm,hf⟩
  ·rw [if_pos hm,hm];rfl
  ·have hne : u.ml≠[]:=by have:=(Zjd hm).1;rwa [hf] at this
   rw [if_neg hne,hf];rfl
 ·rw [if_neg hx]
  unfold Yx
  show (Zf x (Qo u.nm (u.hs,u.ds) s.A)).map _=_
  rw [KY hx]
  cases Zf x s.A with
  | none=>rfl
  | some p=>
   show some (Zbr _ x p)=some (Zbr s x p)
   unfold Zbr
   show some (x,p.1,(Zf x (Ze1 u.nm u.ml s.OW s.OF)).getD [],p.2,ofL x s.K (WM u.gs u.nm s.mem))=_
   rw [Zhg he,if_neg hx]
   have : ofL x s.K (WM u.gs u.nm s.mem)=ofL x s.K s.mem:=by
    unfold ofL WM
    refine List.filter_congr fun g _=>?_
    simp [hx]
   rw [this]
theorem JJ.add (hi : JJ s) (hu : Jw u=0) (hA : s.A.length < 12) (he : KC u.nm u.ml s.OW=0) : JJ (addN u s):=by
 obtain ⟨h1,h2,h3,h4,h5,h6⟩:=Zhm hu
 have p1:=hi.putA (k:=u.nm) (v:=(u.hs,u.ds)) h1 h2 (.inr hA)
 refine ⟨p1.nm,p1.few,fun x hx=>?_,fun g x hx=>?_,fun x y hx=>?_⟩
 ·have hx : (Zf x (Ze1 u.nm u.ml s.OW s.OF)).isSome=true:=hx
  rw [Zhg he] at hx
  by_cases e : x=u.nm
  ·show (Zf x (Qo u.nm (u.hs,u.ds) s.A)).isSome=true
   rw [e,Zac];rfl
  ·rw [if_neg e] at hx
   exact ZaW (.inl (hi.ofA x hx))
 ·have hx : WM u.gs u.nm s.mem g x=true:=hx
  unfold WM at hx
  rw [Bool.or_eq_true] at hx
  rcases hx with hx | hx
  ·exact ZaW (.inl (hi.memA g x hx))
  ·rw [Bool.and_eq_true,beq_iff_eq] at hx
   exact ZaW (.inr hx.2)
 ·have hx : Zf x (Ze1 u.nm u.ml s.OW s.OF)=some y:=hx
  rw [Zhg he] at hx
  by_cases e : x=u.nm
  ·rw [if_pos e] at hx
   rcases Znc h3 with hm | ⟨hm,hf⟩
   ·rw [if_pos hm] at hx;cases hx
   ·have hne : u.ml≠[]:=by have:=(Zjd hm).1;rwa [hf] at this
    rw [if_neg hne,hf] at hx
    cases hx
    exact ⟨hm,hf⟩
  ·rw [if_neg e] at hx
   exact hi.good x y hx
structure OfS (X0 X : Zd) (d : Nat) (r : NR) (s : NSt) (c : Nat) (gs : List Tx) (prev : List Zv) : Prop where
 le : HLe X0 X
 nd : ND X d r s c
 own : ∀ i∈r.own,X0.length≤i
 K : s.K=gs
 ok : ROK s prev
theorem ZBc (hn : us.length≤12) (hA : YP X0 sl us) (h2 : ∀ u∈us,Jw u=0) (hris : Y6 (us.map (·.nm))=true) : ∀ (t i : Nat) (s : NSt) (c : Nat) (X : Zd),us.length - i=t→i≤us.length→OfS X0 X d r s c gs (us.take i)→
  ∃ X' o,Zi (c4 (QN.l2 (R (n+11)))) [pt d,sl,iv us.length,iv i] X=some (o,X')∧HLe X0 X'∧(if ZaG gs (us.take i) (us.drop i)=0 then o=.ext 2 [pt d]∧∃ s' c',OfS X0 X' d r s' c' gs us else o=.ret (.tuple #[.pointer none,iv (ZaG gs (us.take i) (us.drop i))]))
 | 0,i,s,c,X,ht,hi,hS=>by
  have hi : i=us.length:=by omega
  subst hi
  rw [List.take_length] at hS
  rw [List.drop_length,List.take_length]
  refine ⟨X,.ext 2 [pt d],Qa ?_,hS.le,?_⟩
  ·rw [ZJ]
   unfold QN.l2
   rw [Za Zs,Zb,if_neg (by simp)]
   rfl
  ·rw [if_pos (show ZaG gs us []=0 from by unfold ZaG;rfl)]
   exact ⟨rfl,s,c,hS⟩
 | t+1,i,s,c,X,ht,hi,hS=>by
  have hjl : i < us.length:=by omega
  have hlt : (i : Int) < us.length:=by omega
  have hg:=List.getElem?_eq_getElem hjl
  have hdr:=List.drop_eq_getElem_cons hjl
  generalize us[i]=u at hg hdr
  have hum:=List.mem_of_getElem? hg
  have hu:=h2 u hum
  obtain ⟨u1,u2,u3,u4,u5,u6⟩:=Zhm hu
  have hP:=hS.nd.pinv
  have hrp : ∀ v∈us.take i,v.nm < u.nm:=fun v hv=>by
   have hp:=ZhV hris
   rw [← List.take_append_drop i us,hdr,List.map_append,List.pairwise_append] at hp
   exact hp.2.2 v.nm (List.mem_map.2 ⟨v,hv,rfl⟩) u.nm (by simp)
  have hlen:=hS.ok.len hP.n
  have hlt' : (us.take i).length=i:=by rw [List.length_take];omega
  have hnone : Zf u.nm s.A=none:=by
   cases ha : Zf u.nm s.A with
   | none=>rfl
   | some p=>
    have h3 : Yx s u.nm=some (Zbr s u.nm p):=by unfold Yx;rw [ha];rfl
    obtain ⟨v,hv,hk⟩:=Zbj.1 ((hS.ok.look (Zbr s u.nm p)).2 h3)
    have hvn : v.nm=u.nm:=congrArg (·.1) hk
    have:=hrp v hv
    rw [hvn] at this
    exact absurd this (List.lt_irrefl _)
  have hfree:=hP.i.memN hnone
  have hok:=(hA.mono hS.le).ok hum
  have hf:=fun {K : Value→M Out}=>Zsg (k:=K) (hA.mono hS.le).1 hok.2.1 hg
  have g1 : (X++[Ze.cells u.cells 1 false false])[X.length]?=some (.cells u.cells 1 false false):=Zp
  have k1 : HLe X (X++[Ze.cells u.cells 1 false false]):=.app _ _
  generalize X++[Ze.cells u.cells 1 false false]=X1 at g1 k1 hf
  generalize X.length=b at g1 hf
  have d1:=hS.nd.hle k1
  have ok1:=hok.hle k1
  have a0 : ∀ f x,u.cells[f]?=some x→ld1 (pa b f) X1=some (x,X1):=fun f x h=>Zy g1 h
  obtain ⟨X2,e2,m2,s2,_⟩:=d1.m.mup (k:=u.nm) (v:=(u.hs,u.ds))
  obtain ⟨d2,t2⟩:=d1.toND0.setA m2 s2
  have c2:=d1.toND0.cle t2
  have g2:=c2 _ _ _ _ _ g1
  have a4 : ld1 (pa b 4) X2=some (u.gv,X2):=Zy g2 rfl
  have hs2:=ok1.1.cle c2
  have hul : ZC u.gv X2=some (iv u.gs.length,X2):=by have:=hs2.len (H':=X2);simpa using this
  have d2' : ND0 X2 d r { ({ s with A:=Qo u.nm (u.hs,u.ds) s.A } : NSt) with mem:=WM (u.gs.take 0) u.nm s.mem } c:=by
   rw [List.take_zero,ZBt];exact d2
  obtain ⟨X3,e3,t3,h3⟩:=ZBi (n:=n) (s:={ s with A:=Qo u.nm (u.hs,u.ds) s.A }) (gs:=gs) (z1:=sl) (z2:=iv us.length) (z3:=iv i) u1 u5 u6 u4 hfree hS.K u.gs.length 0 c X2 (by omega) (by omega) d2' g2 hs2
  rw [show iv ((0 : Nat) : Int)=.int .i64 0 from rfl,List.drop_zero] at e3
  rw [List.drop_zero] at h3
  obtain ⟨q1,q2⟩:=(hS.le.trans k1).more (t2.trans t3) hS.own
  have hbody : ∀ o Z,jn (Zi (c8 (QN.l3 (R (n+11)))) [pt d,pt b,sl,iv us.length,iv i,u.gv,iv u.gs.length,(Value.int .i64 0)]) noN (xk 4 (c5 fun q45_0 q45_1 q45_2 q45_3 q45_4=>
    bind (ZD q45_0) fun v73x46=>bind (fa 1 v73x46) fun v74x47=>bind (ld1 v74x47) fun v75x48=>bind (fa 0 q45_1) fun v76x49=>bind (ld1 v76x49) fun v77x50=>bind (fa 2 q45_1) fun v78x51=>bind (ld1 v78x51) fun v79x52=>
    bind (R (n+11) YV [v75x48,v77x50,v79x52]) fun v80x53=>bind (bop .int .neq v80x53 (Value.int .i64 0)) fun v82x54=>
    cnd v82x54 (ret (.ret (Value.tuple #[(Value.pointer none),v80x53]))) (bind (bop .int .add q45_4 (Value.int .i64 1)) fun v84x55=>ret (.nrm [q45_0,q45_2,q45_3,v84x55]))) noX) ZH X2=some (o,Z)→c4 (QN.l2 (R (n+11))) [pt d,sl,iv us.length,iv i] X=some (o,Z):=fun o Z h=>by
   rw [ZJ]
   unfold QN.l2
   rw [Za Zs,Zb,if_pos (by simpa using hlt),hf,Za Zg,Za Zj,Za d1.l0,Za Zj,Za (a0 0 _ rfl),Za Zj,Za (a0 1 _ rfl),Za Zj,Za (a0 3 _ rfl),Za ZFS,Za e2,Za Zj,Za a4,Za hul]
   exact h
  rw [hdr]
  unfold ZaG ZeW
  cases ha : u.gs.all fun g=>decide (g∈gs)
  ·rw [ha] at e3
   simp only [Bool.false_eq_true,if_false]
   exact ⟨X3,_,Yu (hbody _ _ ((Ky e3).trans rfl)),q1,rfl⟩
  ·rw [ha] at e3
   simp only [if_true]
   obtain ⟨c3,d3⟩:=h3 ha
   have c23:=d2.cle t3
   have g3:=c23 _ _ _ _ _ g2
   have l0 : ld1 (pa b 0) X3=some (strv u.nm,X3):=Zy g3 rfl
   have l2 : ld1 (pa b 2) X3=some (strv u.ml,X3):=Zy g3 rfl
   obtain ⟨X4,e4,i4,s4⟩:=ZAi (n:=n+2) (k:=u.nm) (m:=u.ml) d3.ix
   have e4 : R (n+11) YV [pt r.x,strv u.nm,strv u.ml] X3=some (iv (KC u.nm u.ml s.OW),X4):=e4
   obtain ⟨d4,t4⟩:=d3.setI i4 s4
   obtain ⟨q3,q4⟩:=q1.more t4 q2
   have hE:=ZDx hS.ok hP hu hnone
   by_cases hp : u.ml≠[]∧(us.take i).any (fun w=>u.ml==w.ml)=true
   ·rw [if_pos hp] at hE
    simp only [if_pos hp]
    rw [hE] at e4
    refine ⟨X4,_,Yu (hbody (.ret (.tuple #[.pointer none,iv 9])) X4 ?_),q3,rfl⟩
    rw [QG e3,ZI,QF,Za Zg,Za Zj,Za d3.l1,Za Zj,Za l0,Za Zj,Za l2,Za e4,Za Zl,Zb,if_pos (by simp)]
    rfl
   ·rw [if_neg hp] at hE
    simp only [if_neg hp,if_true]
    rw [hE] at e4
    have hgs : ∀ g∈u.gs,g∈s.K:=fun g hgm=>by
     rw [hS.K]
     simpa using List.all_eq_true.1 ha g hgm
    have hadd:=ZBI hP.i hu hgs hP.k.nod hnone hfree hE
    have hd4 : ND X4 d r (addN u s) c3:=⟨d4,hP.i.add hu (by omega) hE⟩
    have hok4 : ROK (addN u s) (us.take (i+1)):=by
     rw [Ztu hg,← Ztw hrp]
     exact hS.ok.put (by rw [hadd,if_pos rfl]) (fun x hx=>by rw [hadd,if_neg hx])
    obtain ⟨X5,o5,e5,k5,h5⟩:=ZBc hn hA h2 hris t (i+1) (addN u s) c3 X4 (by omega) (by omega) ⟨q3,hd4,q4,hS.K,hok4⟩
    rw [Ztu hg] at h5
    refine ⟨X5,o5,(ZL (hbody _ X4 ?_)).trans e5,k5,h5⟩
    rw [QG e3,ZI,QF,Za Zg,Za Zj,Za d3.l1,Za Zj,Za l0,Za Zj,Za l2,Za e4,Za Zl,Zb,if_neg (by simp),Za ZF,Jd (by omega)]
    rfl
theorem Zz8 (h : ZcR us gs=0) : Yc us=0∧Y6 (us.map (·.nm))=true∧us.length≤12∧gs.all Zt=true∧Y6 gs=true∧gs.length≤6:=by
 unfold ZcR Zkt at h
 by_cases h1 : Yc us=0
 ·simp only [if_pos h1] at h
  cases h2 : Y6 (us.map (·.nm))
  ·rw [h2] at h;simp at h
  ·rw [h2] at h
   by_cases h3 : 12 < us.length
   ·simp [h3] at h
   ·cases h4 : gs.all Zt <;> cases h5 : Y6 gs <;> rw [h4,h5] at h <;> by_cases h6 : 6 < gs.length <;> simp [h3,h6] at h
    exact ⟨h1,rfl,by omega,rfl,rfl,by omega⟩
 ·simp only [if_neg h1] at h
  exact absurd h h1
theorem ZAo (hn : us.length≤1000) (hl : gs.length≤1000000) (hA : YP X sl us) (hs : Sl X gv (gs.map strv)) : ∃ X',HLe X X'∧(if Zbs us gs=0 then ∃ d r s c,R (n+12) ZcC [sl,gv] X=some (.tuple #[pt d,iv 0],X')∧OfS X X' d r s c gs us else R (n+12) ZcC [sl,gv] X=some (.tuple #[.pointer none,iv (Zbs us gs)],X')):=by
 obtain ⟨X1,e1,k1⟩:=Zvj (n:=n) hn hl hA hs
 have f1 : ∀ r X',QN (R (n+11)) sl gv X=some (r,X')→R (n+12) ZcC [sl,gv] X=some (r,X'):=fun r X' hr=>by rw [R,ZwZ rfl];exact hr
 unfold Zbs
 by_cases hc : ZcR us gs=0
 ·obtain ⟨c1,c2,c3,c4,c5,c6⟩:=Zz8 hc
  rw [hc] at e1
  simp only [if_pos hc]
  have q1 : bop .int .neq (iv 0) (.int .i64 0) X1=some (.bool false,X1):=by rw [Zl];rfl
  obtain ⟨X2,d,r,e2,D2,l2,o1,o2⟩:=ZFb (n:=n+9) (X:=X1)
  have e2 : R (n+11) ZeM [] X1=_:=e2
  have k2:=k1.trans l2
  have hgn : ZC gv X2=some (iv gs.length,X2):=by have:=hs.len (H':=X2);simpa using this
  obtain ⟨X3,r3,e3,k3,D3,o3⟩:=ZAc (n:=n) (sl:=sl) hs c5 c4 c6 gs.length 0 r X2 (by omega) (by omega) k2 D2 (fun i hi=>Nat.le_trans k1.len (o2 i hi))
  rw [show iv ((0 : Nat) : Int)=.int .i64 0 from rfl] at e3
  have hlen : ZC sl X3=some (iv us.length,X3):=by have:=hA.1.len (H':=X3);rwa [List.length_map] at this
  have hS : OfS X X3 d r3 (nGs gs) 0 gs (us.take 0):=⟨k3,D3,o3,rfl,⟨List.Pairwise.nil,fun key=>by simp [Yx,nGs,Zf]⟩⟩
  obtain ⟨X4,o,e4,k4,h4⟩:=ZBc (n:=n) c3 hA (ZlH c1) c2 us.length 0 (nGs gs) 0 X3 (by omega) (by omega) hS
  rw [show iv ((0 : Nat) : Int)=.int .i64 0 from rfl] at e4
  rw [List.take_zero,List.drop_zero] at h4
  refine ⟨X4,k4,?_⟩
  by_cases hz : ZaG gs [] us=0
  ·rw [if_pos hz] at h4 ⊢
   obtain ⟨rfl,s',c',hS'⟩:=h4
   refine ⟨d,r3,s',c',f1 _ _ ?_,hS'⟩
   unfold QN
   rw [Za e1,Za q1,Zb,if_neg (by simp),Za e2,Za hgn,QG e3,ZI,QB,Za hlen,QG e4,ZI]
   rfl
  ·rw [if_neg hz] at h4 ⊢
   subst h4
   refine f1 _ _ ?_
   unfold QN
   rw [Za e1,Za q1,Zb,if_neg (by simp),Za e2,Za hgn,QG e3,ZI,QB,Za hlen,Ky e4]
   rfl
 ·simp only [if_neg hc]
  have q1 : bop .int .neq (iv (ZcR us gs)) (.int .i64 0) X1=some (.bool true,X1):=by rw [Zl];simp [hc]
  refine ⟨X1,k1,f1 _ _ ?_⟩
  unfold QN
  rw [Za e1,Za q1,Zb,if_pos rfl]
  rfl
theorem ZB7 {us ws : List Zv} (h : us.map JN=ws.map JN) : Zbs us gs=Zbs ws gs:=by
 have hrest : ∀ (l l' p p' : List Zv),l.map JN=l'.map JN→p.map JN=p'.map JN→ZaG gs p l=ZaG gs p' l':=by
  intro l
  induction l with
  | nil=>
   intro l' p p' hl hp
   cases l' with
   | nil=>unfold ZaG;rfl
   | cons a b=>simp at hl
  | cons u l ih=>
   intro l' p p' hl hp
   cases l' with
   | nil=>simp at hl
   | cons w l'=>
    rw [List.map_cons,List.map_cons,List.cons.injEq] at hl
    have hg : u.gs=w.gs:=congrArg (·.2.2.2.2) hl.1
    have hm : u.ml=w.ml:=congrArg (·.2.2.1) hl.1
    have hany : p.any (fun v=>u.ml==v.ml)=p'.any (fun v=>w.ml==v.ml):=by
     have h1 : ∀ (p : List Zv) (m : Tx),p.any (fun v=>m==v.ml)=(p.map JN).any (fun v=>m==v.2.2.1):=fun p m=>by
      rw [List.any_map];rfl
     rw [h1,h1,hp,hm]
    have hpe : ZeW gs p u=ZeW gs p' w:=by
     unfold ZeW
     rw [hg,hm]
     rw [hm] at hany
     rw [hany]
    unfold ZaG
    rw [hpe,ih l' (p++[u]) (p'++[w]) hl.2 (by rw [List.map_append,List.map_append,hp,List.map_singleton,List.map_singleton,hl.1])]
 have hfirst : ∀ (l l' : List Zv),l.map JN=l'.map JN→Yc l=Yc l':=by
  intro l
  induction l with
  | nil=>
   intro l' hl
   cases l' with
   | nil=>rfl
   | cons a b=>simp at hl
  | cons u l ih=>
   intro l' hl
   cases l' with
   | nil=>simp at hl
   | cons w l'=>
    rw [List.map_cons,List.map_cons,List.cons.injEq] at hl
    have he : Jw u=Jw w:=by
     have h1 : u.nm=w.nm:=congrArg (·.1) hl.1
     have h2 : u.hs=w.hs:=congrArg (·.2.1) hl.1
     have h3 : u.ml=w.ml:=congrArg (·.2.2.1) hl.1
     have h4 : u.gs=w.gs:=congrArg (·.2.2.2.2) hl.1
     unfold Jw
     rw [h1,h2,h3,h4]
    unfold Yc
    rw [he,ih l' hl.2]
 have hnm : us.map (·.nm)=ws.map (·.nm):=by
  have h1:=congrArg (List.map (·.1)) h
  rw [List.map_map,List.map_map] at h1
  exact h1
 have hlen : us.length=ws.length:=by
  have h1:=congrArg List.length h
  rwa [List.length_map,List.length_map] at h1
 unfold Zbs ZcR Zkt
 rw [hfirst us ws h,hnm,hlen,hrest us ws [] [] h rfl]
theorem ROK.keys {us ws : List Zv} (hO : ROK s us) (h : us.map JN=ws.map JN) : ROK s ws:=⟨by
 have h1:=congrArg (List.map (·.1)) h
 rw [List.map_map,List.map_map] at h1
 have h1 : us.map (·.nm)=ws.map (·.nm):=h1
 have h2 : (us.map (·.nm)).Pairwise (· < ·):=by rw [List.pairwise_map];exact hO.rise
 rw [h1,List.pairwise_map] at h2
 exact h2,fun key=>by rw [← h];exact hO.look key⟩
end
end Go.Proofs.YtgfbgfafajiehaaGreatDoor.A

