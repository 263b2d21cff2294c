/- What the law HostUpgrades needs (part 5). -/
import Derived.Test.YtgfbgfafajiehaaGreatDoorZHostUpgrades4
set_option linter.unusedVariables false
set_option linter.unusedSimpArgs false
namespace Go.Proofs.YtgfbgfafajiehaaGreatDoor.A
open Go.Proofs Go.Proofs.YtgfbgfafajiehaaGreatDoor
section
variable {H:Zd} {n:Nat} {f v:Value} {p:List UInt8->Bool} {l:List (List UInt8)} {q:List Nat} {Q:Zd->Prop}
theorem HLe.stepq {X X':Zd} (h:HLe X X'):Zr q X q X':=h.step.more (by simp) (fun j hj=>.inl hj)
theorem Zyw (hl:l.length<=1000000) (hQ:∀ X X',Q X->HLe X X'->Q X') (hf:∀ X,Q X->∀ s∈l,∃ X',Qn (R n) f [strv s] X=some (.bool (p s),X')/\HLe X X'):∀ (t k:Nat) (X:Zd),l.length - k=t->k<=l.length->Q X->Zu X v (l.map strv) q->
  ∃ X',Zi (c4 (ZD.l1 (R n))) [v,f,iv l.length,iv k] X=some (match (l.drop k).findIdx? p with|some i=>.ret (iv (k+i:Nat))|none=>.ext 0 [],X')/\HLe X X'
 | 0,k,X,ht,hk,hq,hr=>by
  have:k=l.length:=by omega
  subst this;rw[List.drop_length];refine⟨X,Qq ?_,.refl _⟩;rw[ZM];unfold ZD.l1;rw[Za Zt,Zb,if_neg (by simp)];rfl
 | t+1,k,X,ht,hk,hq,hr=>by
  have hkl:k < l.length:=by omega
  have hlt:(k:Int) < l.length:=by omega
  have hg:=List.getElem?_eq_getElem hkl;have hm:l[k]∈l:=List.getElem_mem hkl;have hd:=List.drop_eq_getElem_cons hkl;generalize l[k]=x at hg hd hm;have x1:=hr.ix (i:=k) (by simpa using hkl) .i64 X;have x2:=hr.ldx (WC hg);obtain⟨X1,x3,l1⟩:=hf X hq x hm;obtain⟨X2,ih,l2⟩:=Zyw hl hQ hf t (k+1) X1 (by omega) (by omega) (hQ _ _ hq l1) (hr.step l1.step (by simp));rw[hd,List.findIdx?_cons];cases hp:p x
  .rw[hp] at x3;refine⟨X2,(ZU ?_).trans (ih.trans ?_),l1.trans l2⟩
   .rw[ZM];unfold ZD.l1;rw[Za Zt,Zb,if_pos (by simpa using hlt),Za x1,Za x2,Za x3,Zb,if_neg (by simp),Za ZI,JX (by omega)];rfl
   .cases (l.drop (k+1)).findIdx? p with
    | none=>rfl
    | some i=>simp only[Bool.false_eq_true,if_false,Option.map_some];rw[show k+1+i=k+(i+1) by omega]
  .rw[hp] at x3;refine⟨X1,YA ?_,l1⟩;rw[ZM];unfold ZD.l1;rw[Za Zt,Zb,if_pos (by simpa using hlt),Za x1,Za x2,Za x3,Zb,if_pos rfl];rfl
theorem ZAU (hr:Zu H v (l.map strv) q) (hl:l.length<=1000000) (hQ:∀ X X',Q X->HLe X X'->Q X') (hf:∀ X,Q X->∀ s∈l,∃ X',Qn (R n) f [strv s] X=some (.bool (p s),X')/\HLe X X') (h0:Q H) :
  ∃ H',R (n+1) QP [v,f] H=some (match l.findIdx? p with|some i=>iv i|none=>iv (-1),H')/\HLe H H':=by
 obtain⟨H',e,le⟩:=Zyw hl hQ hf l.length 0 H (by omega) (by omega) h0 hr;rw[List.drop_zero] at e;have e:Zi (c4 (ZD.l1 (R n))) [v,f,iv l.length,.int .i64 0] H=_:=e;have hlen:ZC v H=some (iv l.length,H):=by have:=hr.rd.len (H':=H);simpa using this
 refine⟨H',?_,le⟩;rw[R,ZaQ rfl];unfold ZD;rw[Za hlen];cases h:l.findIdx? p with
 | none=>rw[h] at e;rw[Q4 e,ZP];rfl
 | some i=>
  rw[h] at e;rw[KG e];simp[ret]
theorem Zsb (hl:l.length<=1000000) (hQ:∀ X X',Q X->Zr q X q X'->Q X') (hf:∀ X,Q X->∀ s∈l,∃ X',Qn (R n) f [strv s] X=some (.bool (p s),X')/\HLe X X'):∀ (t j i:Nat) (cs:List (List UInt8)) (X:Zd),l.length - j=t->j<=l.length->i<=j->cs.length=l.length->cs.drop j=l.drop j->Zu X v (cs.map strv) q->Q X->
  ∃ (X':Zd) (cs':List (List UInt8)),Zi (c4 (ZB.l1 (R n))) [v,f,iv i,iv j] X=some (.ext 0 [v,iv (i+((l.drop j).filter fun s=>!p s).length:Nat)],X')/\Zu X' v (cs'.map strv) q/\cs'.length=l.length/\
   cs'.take (i+((l.drop j).filter fun s=>!p s).length)=cs.take i++(l.drop j).filter (fun s=>!p s)/\Zr q X q X'
 | 0,j,i,cs,X,ht,hj,hi,hc,hd,hr,hq=>by
  have:j=l.length:=by omega
  subst this;rw[List.drop_length];have hlen:ZC v X=some (iv l.length,X):=by have:=hr.rd.len (H':=X);simpa[hc] using this
  refine⟨X,cs,Qq ?_,hr,hc,by simp,.refl _ _⟩;rw[ZM];unfold ZB.l1;rw[Za hlen,Za Zt,Zb,if_neg (by simp)];rfl
 | t+1,j,i,cs,X,ht,hj,hi,hc,hd,hr,hq=>by
  have hjl:j < l.length:=by omega
  have hlt:(j:Int) < l.length:=by omega
  have hg:=List.getElem?_eq_getElem hjl;have hm:l[j]∈l:=List.getElem_mem hjl;have hdl:=List.drop_eq_getElem_cons hjl;generalize l[j]=x at hg hdl hm;have hgc:cs[j]?=some x:=by
   have h1:(cs.drop j)[0]?=(l.drop j)[0]?:=by rw[hd]
   simpa[hg] using h1
  have hlen:ZC v X=some (iv l.length,X):=by have:=hr.rd.len (H':=X);simpa[hc] using this
  have x1:=hr.ix (i:=j) (by simpa[hc] using hjl) .i64 X;have x2:=hr.ldx (WC hgc);obtain⟨Y,x3,ly⟩:=hf X hq x hm;have hqy:=hQ _ _ hq (ly.stepq (q:=q));have hry:=hr.step ly.step (by simp);have hd1:cs.drop (j+1)=l.drop (j+1):=by
   rw[<- List.drop_drop,hd,List.drop_drop]
  rw[hdl,List.filter_cons];cases hp:p x
  .rw[hp] at x3;have x4:=hry.ix (i:=i) (by simp[hc];omega) .i64 Y;obtain⟨X1,x5,r1,s1,_⟩:=hry.stx (i:=i) (u:=strv x) (by simp[hc];omega) rfl;have hset:(cs.map strv).set i (strv x)=(cs.set i x).map strv:=by rw[List.map_set]
   rw[hset] at r1;obtain⟨X',cs',e,r',hc',ht',s'⟩:=Zsb hl hQ hf t (j+1) (i+1) (cs.set i x) X1 (by omega) (by omega) (by omega) (by simpa using hc) (by rw[List.drop_set_of_lt (by omega)];exact hd1) r1 (hQ _ _ hqy s1);have hn:i+1+((l.drop (j+1)).filter fun s=>!p s).length=i+(((l.drop (j+1)).filter fun s=>!p s).length+1):=by omega
   rw[hn] at e ht';simp only[Bool.not_false,if_true,List.length_cons];refine⟨X',cs',(ZU ?_).trans e,r',hc',?_,(ly.stepq.trans s1).trans s'⟩
   .rw[ZM];unfold ZB.l1;rw[Za hlen,Za Zt,Zb,if_pos (by simpa using hlt),Za x1,Za x2,Za x3,Za ZL];refine(ZJ (vs:=[v,f,iv ((i+1:Nat):Int),iv j]) (H':=X1) ?_).trans ?_
    .rw[Zb,if_pos (by rfl),Za x4,Za x5,Za ZI,JX (by omega)];rfl
    .rw[ZM,Za ZI,JX (by omega)];rfl
   .rw[ht'];have:(cs.set i x).take (i+1)=cs.take i++[x]:=by
     have hil:i < (cs.set i x).length:=by simp[hc];omega
     rw[List.take_succ_eq_append_getElem hil,List.take_set_of_le (Nat.le_refl _)];simp
    rw[this];simp
  .rw[hp] at x3;obtain⟨X',cs',e,r',hc',ht',s'⟩:=Zsb hl hQ hf t (j+1) i cs Y (by omega) (by omega) (by omega) hc hd1 hry hqy;simp only[Bool.not_true,Bool.false_eq_true,if_false];refine⟨X',cs',(ZU ?_).trans e,r',hc',ht',ly.stepq.trans s'⟩;rw[ZM];unfold ZB.l1;rw[Za hlen,Za Zt,Zb,if_pos (by simpa using hlt),Za x1,Za x2,Za x3,Za ZL];refine(ZJ (vs:=[v,f,iv i,iv j]) (H':=Y) ?_).trans ?_
   .rw[Zb,if_neg (by simp)];rfl
   .rw[ZM,Za ZI,JX (by omega)];rfl
theorem Zux (hr:Zu H v (l.map strv) q) (hl:l.length<=1000000) (hQ:∀ X X',Q X->Zr q X q X'->Q X') (hf:∀ X,Q X->∀ s∈l,∃ X',Qn (R n) f [strv s] X=some (.bool (p s),X')/\HLe X X') (hf1:∀ X,Q X->∀ s∈l,∃ X',Qn (R (n+1)) f [strv s] X=some (.bool (p s),X')/\HLe X X') (h0:Q H) :
  ∃ H' v',R (n+2) Z4 [v,f] H=some (v',H')/\Zu H' v' ((l.filter fun s=>!p s).map strv) q/\Zr q H q H':=by
 obtain⟨Y,e1,ly⟩:=ZAU hr hl (fun X X' hq hx=>hQ X X' hq hx.stepq) hf h0;have e1:run Tryz.prog np lvs (n+1) QP [v,f] H=_:=e1;have hry:=hr.step ly.step (by simp);have hqy:=hQ _ _ h0 (ly.stepq (q:=q));have hfi:=ZgI (p:=p) (l:=l);have hrun:R (n+2) Z4 [v,f] H=ZB (R (n+1)) v f H:=by rw[R,ZaL rfl]
 rw[hrun];unfold ZB;cases h:l.findIdx? p with
 | none=>
  rw[h] at e1 hfi;refine⟨Y,v,?_,by rw[hfi];exact hry,ly.stepq⟩;rw[Za e1,Za ZE,Zb,if_pos (by simp)];rfl
 | some i=>
  rw[h] at e1 hfi;simp only at e1 hfi;obtain⟨X',cs',e2,r2,hc2,ht2,s2⟩:=Zsb (n:=n+1) hl hQ hf1 (l.length - (i+1)) (i+1) i l Y rfl (by omega) (by omega) rfl rfl hry hqy;have hle:((l.drop (i+1)).filter fun s=>!p s).length<=l.length - (i+1):=by
   have:=List.length_filter_le (fun s=>!p s) (l.drop (i+1));simpa using this
  obtain⟨a,X2,v',a1,a2,a3,a4,a5⟩:=Zty r2 (i:=i+((l.drop (i+1)).filter fun s=>!p s).length) (by omega);refine⟨X2,v',?_,by rw[hfi.1,<- ht2];exact a4,(ly.stepq.trans s2).trans a5⟩;rw[Za e1,Za ZE,Zb,if_neg (by simp),Za ZI,JX (by omega),Q4 e2,ZP,Qv,Za a1,Za a2,Za a3];rfl
end
abbrev Tx:=List UInt8
def Asc (l:List Tx):Prop:=l.Pairwise (· < ·)
theorem ZmB {a:Tx}:¬ a < a:=List.lt_irrefl a
theorem Zsj:∀ {l l':List Tx},Asc l->Asc l'->(∀ x,x∈l↔x∈l')->l=l'
 | [],[],_,_,_=>rfl
 | [],b :: l',_,_,h=>by have:=(h b).2 (by simp);cases this
 | a :: l,[],_,_,h=>by have:=(h a).1 (by simp);cases this
 | a :: l,b :: l',h1,h2,h=>by
  obtain⟨a1,a2⟩:=List.pairwise_cons.1 h1;obtain⟨b1,b2⟩:=List.pairwise_cons.1 h2;have hab:a=b:=by
   rcases List.mem_cons.1 ((h a).1 (by simp)) with e|e
   .exact e
   .rcases List.mem_cons.1 ((h b).2 (by simp)) with e'|e'
    .exact e'.symm
    .exact absurd (List.lt_trans (b1 a e) (a1 b e')) ZmB
  subst hab
  congr 1
  refine Zsj a2 b2 fun x=>⟨fun hx=>?_,fun hx=>?_⟩
  .rcases List.mem_cons.1 ((h x).1 (List.mem_cons_of_mem _ hx)) with e|e
   .subst e;exact absurd (a1 _ hx) ZmB
   .exact e
  .rcases List.mem_cons.1 ((h x).2 (List.mem_cons_of_mem _ hx)) with e|e
   .subst e;exact absurd (b1 _ hx) ZmB
   .exact e
theorem Zgs {l:List Tx} (hn:l.Nodup):Asc (QK l):=by
 have h1:(QK l).Pairwise (fun a b=>leB a b=true):=List.pairwise_mergeSort (fun a b c h h'=>by
  simp only[leB,decide_eq_true_eq] at *;exact List.le_trans h h') (fun a b=>by
  simp only[leB,Bool.or_eq_true,decide_eq_true_eq];exact List.le_total a b) l
 have h2:(QK l).Nodup:=((List.mergeSort_perm l _).nodup_iff).2 hn;unfold Asc;have h3:=h1.and h2;refine h3.imp fun {a b} h=>?_;obtain⟨h4,h5⟩:=h;simp only[leB,decide_eq_true_eq] at h4;exact Decidable.byContradiction fun h6=>h5 (List.le_antisymm h4 (List.not_lt.1 h6))
theorem Zad {l:List Tx} {x:Tx}:x∈QK l↔x∈l:=List.mem_mergeSort
structure Is (l:List Tx) (p:Tx->Prop):Prop where
 asc:Asc l
 mem:∀ x,x∈l↔p x
theorem Is.uniq {l l':List Tx} {p p':Tx->Prop} (h:Is l p) (h':Is l' p') (hp:∀ x,p x↔p' x):l=l':=Zsj h.asc h'.asc fun x=>(h.mem x).trans ((hp x).trans (h'.mem x).symm)
theorem Is.nil {l:List Tx} {p:Tx->Prop} (h:Is l p):l=[]↔∀ x,¬ p x:=by
 constructor
 .rintro rfl x hx;have:=(h.mem x).2 hx;cases this
 .intro hx;exact List.eq_nil_iff_forall_not_mem.2 fun x hm=>hx x ((h.mem x).1 hm)
theorem Asc.nodup {l:List Tx} (h:Asc l):l.Nodup:=h.imp fun {a b} hab e=>by subst e;exact ZmB hab
theorem Asc.filter {l:List Tx} (h:Asc l) (p:Tx->Bool):Asc (l.filter p):=List.Pairwise.filter p h
abbrev Zta (s:Nat):Value:=.map (some s)
abbrev ZnG (_:Unit):Value:=.agg #[]
abbrev ZcR:=List (Tx × Nat)
abbrev ZyQ:=List (Tx × Unit)
abbrev Mem:=Tx->Tx->Bool
abbrev Q3 (o:Nat) (G:ZcR):List Nat:=o :: G.map (·.2)
abbrev ZK (G:ZcR):List Tx:=G.map (·.1)
structure Grp (X:Zd) (g o:Nat) (G:ZcR) (mem:Mem) (c:Nat):Prop where
 cell:X[g]?=some (.cells [.map (some o)] 1 false false)
 mo:JL Zta X o G
 ms:∀ p∈G,∃ S:ZyQ,JL ZnG X p.2 S/\(∀ n,(Zf n S).isSome=mem p.1 n)/\S.length<=c/\∀ q∈S,Zw q.1=true
 out:∀ k n,mem k n=true->(Zf k G).isSome=true
 nod:(Q3 o G).Nodup
 ok:∀ p∈G,Zw p.1=true
 few:G.length<=6
theorem ZkO {α:Type} {k:Tx}:∀ {m:List (Tx × α)},(Zf k m).isSome=decide (k∈m.map (·.1))
 | []=>rfl
 | p :: m=>by
  simp only[Zf,List.map_cons,List.mem_cons];by_cases h:p.1=k
  .rw[if_pos h];simp[h]
  .rw[if_neg h,ZkO];have:k≠p.1:=Ne.symm h;simp[this]
section
variable {X X':Zd} {n g o c c':Nat} {G:ZcR} {mem mem':Mem} {k m s t:Tx}
theorem Grp.isMap (h:Grp X g o G mem c) {j:Nat} (hj:j∈Q3 o G):j < X.length/\∀ cs es gr ro,X[j]?≠some (.cells cs es gr ro):=by
 have key:∀ {α:Type} {enc:α->Value} {id:Nat} {mm:List (Tx × α)},JL enc X id mm->id < X.length/\∀ cs es gr ro,X[id]?≠some (.cells cs es gr ro):=fun hm=>⟨hm.lt,fun cs es gr ro e=>by
  obtain⟨es',_,h1|h1⟩:=hm.ex
  .obtain⟨clk,h1,_⟩:=h1;rw[e] at h1;cases h1
  .rw[e] at h1;cases h1⟩
 rcases List.mem_cons.1 hj with rfl|hj
 .exact key h.mo
 .obtain⟨p,hp,rfl⟩:=List.mem_map.1 hj;obtain⟨S,hS,_⟩:=h.ms p hp;exact key hS
theorem Grp.gnot (h:Grp X g o G mem c):g∉Q3 o G:=fun hj=>(h.isMap hj).2 _ _ _ _ h.cell
theorem Grp.glt (h:Grp X g o G mem c):g < X.length:=Z6 h.cell
theorem Grp.step {o1 o2:List Nat} (h:Grp X g o G mem c) (hs:Zr o1 X o2 X') (hg:g∉o1) (ho:∀ j∈Q3 o G,j∉o1):Grp X' g o G mem c:=
 ⟨hs.get h.cell hg,h.mo.step hs (ho o (by simp)),fun p hp=>by
  obtain⟨S,h1,h2⟩:=h.ms p hp;exact⟨S,h1.step hs (ho p.2 (List.mem_cons_of_mem _ (List.mem_map.2 ⟨p,hp,rfl⟩))),h2⟩,h.out,h.nod,h.ok,h.few⟩
theorem Grp.hle (h:Grp X g o G mem c) (hl:HLe X X'):Grp X' g o G mem c:=h.step hl.step (by simp) (by simp)
theorem Grp.more (h:Grp X g o G mem c) (hc:c<=c') (hm:∀ k n,mem' k n=mem k n):Grp X g o G mem' c':=
 ⟨h.cell,h.mo,fun p hp=>by
  obtain⟨S,h1,h2,h3,h4⟩:=h.ms p hp;exact⟨S,h1,fun n=>(h2 n).trans (hm _ _).symm,Nat.le_trans h3 hc,h4⟩,fun k n hk=>h.out k n (by rw[<- hm];exact hk),h.nod,h.ok,h.few⟩
theorem Grp.ldo (h:Grp X g o G mem c):ld1 (pt g) X=some (.map (some o),X):=KM h.cell
theorem Grp.upd (h:Grp X g o G mem c) {id:Nat} {S':ZyQ} (hk:Zf k G=some id) (hm:JL ZnG X' id S') (hs:Zr [id] X [id] X') (hn:∀ q∈S',Zw q.1=true) (hc:S'.length<=c') (hcc:c<=c')
  (hmem:∀ k' n,mem' k' n=if k'=k then(Zf n S').isSome else mem k' n):Grp X' g o G mem' c':=by
 have hpm:=Kz hk;have hnod:=h.nod;simp only[List.nodup_cons] at hnod;have hidm:id∈G.map (·.2):=List.mem_map.2 ⟨_,hpm,rfl⟩;have hido:o≠id:=fun e=>hnod.1 (e ▸ hidm);have hidg:g≠id:=fun e=>h.gnot (e ▸ List.mem_cons_of_mem _ hidm);refine⟨hs.get h.cell (by simpa using hidg),h.mo.step hs (by simpa using hido),fun p hp=>?_,fun k' n hk'=>?_,h.nod,h.ok,h.few⟩
 .by_cases hpid:p.2=id
  .have hpk:p.1=k:=by
    have h1:Zf p.1 G=some p.2:=Zck h.mo.nod hp;have hinj:∀ (G:ZcR),(G.map (·.2)).Nodup->p∈G->(k,id)∈G->p=(k,id):=by
     intro G hG h1 h2
     induction G with
     | nil=>cases h1
     | cons a G ih=>
      simp only[List.map_cons,List.nodup_cons,List.mem_map,not_exists,not_and] at hG;rcases List.mem_cons.1 h1 with e1|e1
      .rcases List.mem_cons.1 h2 with e2|e2
       .rw[e1,e2]
       .exact absurd (by rw[<- e1];exact hpid.symm) (hG.1 _ e2)
      .rcases List.mem_cons.1 h2 with e2|e2
       .exact absurd (by rw[<- e2];exact hpid) (hG.1 _ e1)
       .exact ih hG.2 e1 e2
    rw[hinj G hnod.2 hp hpm]
   exact⟨S',by rw[hpid];exact hm,fun n=>by rw[hmem,if_pos hpk],hc,hn⟩
  .obtain⟨S,h1,h2,h3,h4⟩:=h.ms p hp;have hpk:p.1≠k:=fun e=>hpid (by
    have h5:Zf p.1 G=some p.2:=Zck h.mo.nod hp;rw[e,hk] at h5;exact(Option.some.inj h5).symm)
   exact⟨S,h1.step hs (by simpa using hpid),fun n=>by rw[hmem,if_neg hpk];exact h2 n,Nat.le_trans h3 hcc,h4⟩
 .rw[hmem] at hk';by_cases e:k'=k
  .rw[e,hk];rfl
  .rw[if_neg e] at hk';exact h.out k' n hk'
theorem Grp.step1 (h:Grp X g o G mem c) {id:Nat} (hk:Zf k G=some id) (hs:Zr [id] X [id] X'):Zr (Q3 o G) X (Q3 o G) X':=
 hs.more (fun j hj=>by
  have hj:j=id:=by simpa using hj
  subst hj;exact List.mem_cons_of_mem _ (List.mem_map.2 ⟨_,Kz hk,rfl⟩)) (fun j hj=>.inl hj)
theorem Grp.set (h:Grp X g o G mem c) {id:Nat} (hk:Zf k G=some id):∃ S:ZyQ,JL ZnG X id S/\(∀ n,(Zf n S).isSome=mem k n)/\S.length<=c/\∀ q∈S,Zw q.1=true:=h.ms _ (Kz hk)
theorem Grp.key (h:Grp X g o G mem c):(Zf k G).isSome=decide (k∈ZK G):=ZkO
theorem ZtP {v:Value} {l:List Tx} (hl:l.length<=1000) (hs:Sl X v (l.map strv)):∀ (t j:Nat),l.length - j=t->j<=l.length->
  Zi (c3 (KQ.l1 (R (n+5)))) [v,iv l.length,iv j] X=some (if(l.drop j).all Zw then .ext 0 [] else .ret (iv 10),X)
 | 0,j,ht,hj=>by
  rw[List.drop_eq_nil_of_le (by omega)];refine Qq ?_;rw[ZV,show j=l.length by omega];unfold KQ.l1;rw[Za Zt,Zb,if_neg (by simp)];rfl
 | t+1,j,ht,hj=>by
  have hkl:j < l.length:=by omega
  have hlt:(j:Int) < l.length:=by omega
  have hg:=List.getElem?_eq_getElem hkl;have hd:=List.drop_eq_getElem_cons hkl;generalize l[j]=x at hg hd;have x1:=hs.ix (i:=j) (by simpa using hkl) .i64 X;have x2:=hs.ldx (WC hg);have x3:R (n+5) QS [strv x] X=some (iv (ZG x),X):=Zdf;rw[hd,List.all_cons];cases hx:Zw x
  .refine YA ?_;rw[ZV];unfold KQ.l1;rw[Za Zt,Zb,if_pos (by simpa using hlt),Za x1,Za x2,Za x3,show ZG x=10 by unfold ZG;rw[hx];rfl,Za Zn,Zb,if_pos (by simp)];rfl
  .refine(ZU ?_).trans (ZtP hl hs t (j+1) (by omega) (by omega));rw[ZV];unfold KQ.l1;rw[Za Zt,Zb,if_pos (by simpa using hlt),Za x1,Za x2,Za x3,show ZG x=0 by unfold ZG;rw[hx];rfl,Za Zn,Zb,if_neg (by simp),Za ZI,JX (by omega)];rfl
def ZdZ (l:List Tx):Int:=if l.all Zw then 0 else 10
theorem Zwo {v:Value} {l:List Tx} (hl:l.length<=1000) (hs:Sl X v (l.map strv)):R (n+6) ZaH [v] X=some (iv (ZdZ l),X):=by
 have e:=ZtP (n:=n) hl hs l.length 0 (by omega) (by omega);rw[show iv ((0:Nat):Int)=.int .i64 0 from rfl,List.drop_zero] at e;have hlen:ZC v X=some (iv l.length,X):=by have:=hs.len (H':=X);simpa using this
 rw[R,ZsX rfl];unfold KQ ZdZ;rw[Za hlen];by_cases h:l.all Zw=true
 .rw[if_pos h] at e ⊢;rw[Q4 e,ZP];rfl
 .rw[if_neg h] at e ⊢;rw[KG e];rfl
def Je (k:Tx) (ms:List Tx) (K:List Tx):Int:=if(k :: ms).all Zw then(if k∈K then 0 else 8) else 10
theorem Zx2 (h:Grp X g o G mem c) {mv:Value} {ms:List Tx} (hml:ms.length<=5)
  (hrow:∃ w X1 v X2,bsl 1 1 (.string ⟨#[]⟩) [(0,1,strv k)] X=some (w,X1)/\app 1 16 w mv X1=some (v,X2)/\Sl X2 v ((k :: ms).map strv)/\HLe X X2) :
  ∃ X',R (n+7) JD [pt g,strv k,mv] X=some (.tuple #[.map (if Je k ms (ZK G)=0 then Zf k G else none),iv (Je k ms (ZK G))],X')/\HLe X X':=by
 obtain⟨w,X1,v,X2,e1,e2,s2,l2⟩:=hrow;have e3:R (n+6) ZaH [v] X2=_:=Zwo (n:=n) (l:=k :: ms) (by simp;omega) s2;have h2:=h.hle l2;refine⟨X2,?_,l2⟩;rw[R,ZlE rfl];unfold Zdv Je;rw[Za e1,Za e2,Za e3];unfold ZdZ;by_cases hn:(k :: ms).all Zw=true
 .rw[if_pos hn,if_pos hn];have e4:=h2.mo.lkp (k:=k) (z:=.map none) (ok:=true);have hkey:=h2.key (k:=k);rw[Za Zn,Zb,if_neg (by simp),Za Zg,Za Zj,Za h2.ldo];cases hk:Zf k G with
  | none=>
   rw[hk] at e4 hkey;have hnk:¬ k∈ZK G:=by simpa using hkey.symm
   rw[if_neg hnk,if_neg (by decide)];simp only[cond_true] at e4;rw[Za e4,Za Zp,Za Zq,Za ZL,Zb,if_pos (by rfl)];rfl
  | some id=>
   rw[hk] at e4 hkey;have hnk:k∈ZK G:=by simpa using hkey.symm
   rw[if_pos hnk,if_pos rfl];simp only[cond_true] at e4;rw[Za e4,Za Zp,Za Zq,Za ZL,Zb,if_neg (by simp)];rfl
 .rw[if_neg hn,if_neg hn,Za Zn,Zb,if_pos (by rfl)];rfl
theorem ZwN {x:Tx} {H:Zd}:bsl 1 1 (.string ⟨#[]⟩) [(0,1,strv x)] H=some (.slice (some ⟨H.length,0,none⟩) 1 1,H++[.cells [strv x] 1 false false]):=Zqb rfl rfl rfl
theorem Zns {x:Tx} {H:Zd}:Zu (H++[.cells [strv x] 1 false false]) (.slice (some ⟨H.length,0,none⟩) 1 1) ([x].map strv) [H.length]:=.inr ⟨H.length,[],false,rfl,rfl,by rw[Zo];rfl⟩
theorem ZDW {b:Nat} {sl:Value} {vs:List Value} {q:List Nat} (h:Zu X sl vs q):app 1 b sl (.slice none 0 0) X=some (sl,X):=by
 rcases h with⟨rfl,rfl,rfl⟩|⟨sid,rest,gr,rfl,rfl,hid⟩
 .rfl
 .unfold app;simp only[QH,flen,hid,Nat.add_zero,Nat.le_add_right,if_true]
theorem Zpz (h:Grp X g o G mem c):∃ X',R (n+7) JD [pt g,strv k,.slice none 0 0] X=some (.tuple #[.map (if Je k [] (ZK G)=0 then Zf k G else none),iv (Je k [] (ZK G))],X')/\HLe X X':=
 Zx2 h (by simp) ⟨_,_,_,_,ZwN,ZDW Zns,Zns.rd,.app _ _⟩
theorem Zvn (h:Grp X g o G mem c) {mv:Value} (hm:Sl X mv [strv m]):∃ X',R (n+7) JD [pt g,strv k,mv] X=some (.tuple #[.map (if Je k [m] (ZK G)=0 then Zf k G else none),iv (Je k [m] (ZK G))],X')/\HLe X X':=by
 have l1:HLe X (X++[.cells [strv k] 1 false false]):=.app _ _;obtain⟨v,X2,q,e2,r2,s2,_⟩:=(Zns (x:=k) (H:=X)).push (b:=16) (hm.mono l1) (by simp) (by simp);have l2:=(l1.more s2 (by simp)).1;exact Zx2 h (by simp) ⟨_,_,_,_,ZwN,e2,r2.rd,l2⟩
theorem ZFy:∃ X' g o,R (n+1) Zhe [] X=some (pt g,X')/\Grp X' g o [] (fun _ _=>false) 0/\HLe X X'/\X.length<=g/\X.length<=o:=by
 obtain⟨H1,e1,g1,l1⟩:=ZuP (α:=Nat) (enc:=Zta) X;have e2:bld (.agg #[.map none]) [(0,1,.map (some X.length))] H1=some (.agg #[.map (some X.length)],H1):=by simp[↓Z7,Z5,↓QC,Qg,Qj,Qk,↓Zb,JS,Zg,Yq,Qp,Js,Qt,Jq,Jo,QN,Jz,QO,QT,QZ,Q0,QU,Zl,ZL,YY,YB,Jb,QL,JC,ZI,Q1,JU,JY,JO,ZE,Zn,Zt,Jj,Qm,Qo,JA,JG,Jy,JI,↓YV,JV,↓g_r,Y0,Yw,WB,splice,Value.cells]
 have e3:alc 1 (.agg #[.map (some X.length)]) H1=some (pt H1.length,H1++[.cells [.map (some X.length)] 1 false false]):=by
  rw[QT];simp[Value.cells,oneCell]
 refine⟨H1++[.cells [.map (some X.length)] 1 false false],H1.length,X.length,?_,⟨Zo,g1.hle (.app _ _),by simp,by simp,by simp,by simp,by simp⟩,l1.trans (.app _ _),l1.len,Nat.le_refl _⟩;rw[R,ZwI rfl];unfold ZjY;rw[Za e1,Za e2,Za e3];rfl
def Yg (k:Tx) (K:List Tx):Int:=if Zw k then(if k∈K then 9 else if 6<=K.length then 7 else 0) else 10
def Zi1 (k:Tx) (K:List Tx):List Tx:=if Yg k K=0 then K++[k] else K
theorem ZxU (h:Grp X g o G mem c):∃ X' G',R (n+8) Ya [pt g,strv k] X=some (iv (Yg k (ZK G)),X')/\Grp X' g o G' mem c/\ZK G'=Zi1 k (ZK G)/\Zr (Q3 o G) X (Q3 o G') X':=by
 obtain⟨X1,e1,l1⟩:=Zpz (n:=n) (k:=k) h;have h1:=h.hle l1;have f1:∀ r X',Yy (R (n+7)) (pt g) (strv k) X=some (r,X')->R (n+8) Ya [pt g,strv k] X=some (r,X'):=fun r X' hr=>by rw[R,Zlw rfl];exact hr
 have same:∀ e,Yg k (ZK G)=e->e≠0->(Yy (R (n+7)) (pt g) (strv k) X=some (iv e,X1))->∃ X' G',R (n+8) Ya [pt g,strv k] X=some (iv (Yg k (ZK G)),X')/\Grp X' g o G' mem c/\ZK G'=Zi1 k (ZK G)/\Zr (Q3 o G) X (Q3 o G') X':=fun e he hne hr=>by
  refine⟨X1,G,by rw[he];exact f1 _ _ hr,h1,?_,l1.stepq⟩;unfold Zi1;rw[if_neg (by rw[he];exact hne)]
 cases hn:Zw k
 .have hE:Yg k (ZK G)=10:=by unfold Yg;rw[hn];rfl
  have hF:Je k [] (ZK G)=10:=by unfold Je;simp[hn]
  rw[hF] at e1;refine same _ hE (by decide) ?_;unfold Yy;rw[Za e1,Za Zp,Za Zq,Za ZE,Zb,if_neg (by decide),Za Zn,Zb,if_pos (by decide)];rfl
 .by_cases hk:k∈ZK G
  .have hE:Yg k (ZK G)=9:=by unfold Yg;rw[hn,if_pos rfl,if_pos hk]
   have hF:Je k [] (ZK G)=0:=by unfold Je;simp[hn,hk]
   rw[hF] at e1;refine same _ hE (by decide) ?_;unfold Yy;rw[Za e1,Za Zp,Za Zq,Za ZE,Zb,if_pos (by decide)];rfl
  .have hF:Je k [] (ZK G)=8:=by unfold Je;simp[hn,hk]
   rw[hF] at e1;have hkl:(ZK G).length=G.length:=by simp
   by_cases hl:6<=(ZK G).length
   .have hE:Yg k (ZK G)=7:=by unfold Yg;rw[hn,if_pos rfl,if_neg hk,if_pos hl]
    refine same _ hE (by decide) ?_;unfold Yy;rw[Za e1,Za Zp,Za Zq,Za ZE,Zb,if_neg (by decide),Za Zn,Zb,if_neg (by decide),Za Zg,Za Zj,Za h1.ldo,Za h1.mo.len,Za Qo,Zb,if_pos (by simp;omega)];rfl
   .have hE:Yg k (ZK G)=0:=by unfold Yg;rw[hn,if_pos rfl,if_neg hk,if_neg hl]
    obtain⟨X2,e2,m2,l2⟩:=ZuP (α:=Unit) (enc:=ZnG) X1;have h2:=h1.hle l2;have hkn:Zf k G=none:=by
     have:=h.key (k:=k);cases ha:Zf k G with
     | none=>rfl
     | some v=>rw[ha] at this;exact absurd (by simpa using this.symm) hk
    obtain⟨X3,e3,m3,s3,len3⟩:=h2.mo.mup (k:=k) (v:=X1.length);have ha:Qs k X1.length G=G++[(k,X1.length)]:=by unfold Qs;rw[hkn];rfl
    rw[ha] at m3;have hlt:∀ j∈Q3 o G,j < X1.length:=fun j hj=>(h1.isMap hj).1;refine⟨X3,G++[(k,X1.length)],?_,?_,?_,?_⟩
    .rw[hE];refine f1 _ _ ?_;unfold Yy;rw[Za e1,Za Zp,Za Zq,Za ZE,Zb,if_neg (by decide),Za Zn,Zb,if_neg (by decide),Za Zg,Za Zj,Za h1.ldo,Za h1.mo.len,Za Qo,Zb,if_neg (by simp;omega),Za Zg,Za Zj,Za h1.ldo,Za e2,Za e3];rfl
    .have hgo:g≠o:=fun e=>h.gnot (by rw[e];simp);have hoid:∀ p∈G,p.2≠o:=fun p hp e=>by
      have:=h.nod;simp only[List.nodup_cons] at this;exact this.1 (List.mem_map.2 ⟨p,hp,e⟩)
     refine⟨s3.get h2.cell (by simpa using hgo),m3,fun p hp=>?_,fun k' n' hk'=>?_,?_,fun p hp=>?_,by simp;omega⟩
     .rcases List.mem_append.1 hp with hp|hp
      .obtain⟨S,h5,h6⟩:=h2.ms p hp;exact⟨S,h5.step s3 (by simpa using hoid p hp),h6⟩
      .have:p=(k,X1.length):=by simpa using hp
       subst this;refine⟨[],m2.step s3 (by have:=hlt o (by simp);simp;omega),fun n'=>?_,Nat.zero_le _,by simp⟩;cases hb:mem k n' with
       | false=>rfl
       | true=>have:=h.out k n' hb;rw[hkn] at this;cases this
     .rw[ZfZ];have:=h.out k' n' hk';cases hg:Zf k' G with
      | none=>rw[hg] at this;cases this
      | some v=>rfl
     .have:Q3 o (G++[(k,X1.length)])=Q3 o G++[X1.length]:=by simp
      rw[this,List.nodup_append];refine⟨h.nod,by simp,fun a ha b hb e=>?_⟩;have:=hlt a ha;have hb:b=X1.length:=by simpa using hb
      omega
     .rcases List.mem_append.1 hp with hp|hp
      .exact h.ok p hp
      .have:p=(k,X1.length):=by simpa using hp
       subst this;exact hn
    .unfold Zi1;rw[if_pos hE];simp
    .have s:=(l1.trans l2).stepq (q:=Q3 o G);have s:=s.trans (s3.more (o2:=Q3 o G) (o2':=Q3 o G) (by simp) (fun j hj=>.inl hj));refine⟨s.len,s.keep,fun j hj=>?_⟩
     .have:Q3 o (G++[(k,X1.length)])=Q3 o G++[X1.length]:=by simp
      rw[this] at hj;rcases List.mem_append.1 hj with hj|hj
      .exact .inl hj
      .have hj:j=X1.length:=by simpa using hj
       exact .inr (by rw[hj];exact l1.len)
def Jn (k:Tx) (K:List Tx):Int:=if Zw k then(if k∈K then 0 else 8) else 10
def Zqu (k:Tx) (K:List Tx):List Tx:=if Jn k K=0 then K.filter (fun x=>decide (x≠k)) else K
def Zhz (k:Tx) (mem:Mem):Mem:=fun k' n=>mem k' n && !(k'==k)
theorem Zu5 {k:Tx} {K:List Tx}:Je k [] K=Jn k K:=by unfold Je Jn;simp
theorem ZDE (h:Grp X g o G mem c):∃ X' G',R (n+8) K8 [pt g,strv k] X=some (iv (Jn k (ZK G)),X')/\Grp X' g o G' (if Jn k (ZK G)=0 then Zhz k mem else mem) c/\ZK G'=Zqu k (ZK G)/\Zr (Q3 o G) X (Q3 o G') X':=by
 obtain⟨X1,e1,l1⟩:=Zpz (n:=n) (k:=k) h;rw[Zu5] at e1;have h1:=h.hle l1;have f1:∀ r X',WT (R (n+7)) (pt g) (strv k) X=some (r,X')->R (n+8) K8 [pt g,strv k] X=some (r,X'):=fun r X' hr=>by rw[R,Zlq rfl];exact hr
 by_cases hE:Jn k (ZK G)=0
 .rw[hE] at e1 ⊢;obtain⟨X2,e2,m2,s2,_⟩:=h1.mo.mde (k:=k);have hgo:g≠o:=fun e=>h.gnot (by rw[e];simp);have hoid:∀ p∈G,p.2≠o:=fun p hp e=>by
   have:=h.nod;simp only[List.nodup_cons] at this;exact this.1 (List.mem_map.2 ⟨p,hp,e⟩)
  have hsub:(Ys k G).Sublist G:=List.filter_sublist;refine⟨X2,Ys k G,f1 _ _ ?_,?_,?_,?_⟩
  .unfold WT;rw[Za e1,Za Zp,Za Zq,Za ZE];refine(ZJ (vs:=[iv 0]) (H':=X2) ?_).trans ?_
   .rw[Zb,if_pos (by rfl),Za Zg,Za Zj,Za h1.ldo,Za e2];rfl
   .rfl
  .rw[if_pos rfl];refine⟨s2.get h1.cell (by simpa using hgo),m2,fun p hp=>?_,fun k' n' hk'=>?_,?_,fun p hp=>h.ok p (hsub.subset hp),Nat.le_trans hsub.length_le h.few⟩
   .obtain⟨S,h5,h6,h7⟩:=h1.ms p (hsub.subset hp);have hpk:p.1≠k:=by simpa[Ys] using (List.mem_filter.1 hp).2
    refine⟨S,h5.step s2 (by simpa using hoid p (hsub.subset hp)),fun n'=>?_,h7⟩;rw[h6];unfold Zhz;simp[hpk]
   .unfold Zhz at hk';simp only[Bool.and_eq_true,Bool.not_eq_true',beq_eq_false_iff_ne] at hk';rw[Yd hk'.2];exact h.out k' n' hk'.1
   .exact((hsub.map (·.2)).cons_cons o).nodup h.nod
  .unfold Zqu;rw[if_pos hE];unfold Ys ZK;rw[List.filter_map];rfl
  .have s:=l1.stepq (q:=Q3 o G);have s:=s.trans (s2.more (o2:=Q3 o G) (o2':=Q3 o G) (by simp) (fun j hj=>.inl hj));refine⟨s.len,s.keep,fun j hj=>.inl ?_⟩;exact((hsub.map (·.2)).cons_cons o).subset hj
 .refine⟨X1,G,f1 _ _ ?_,by rw[if_neg hE];exact h1,by unfold Zqu;rw[if_neg hE],l1.stepq⟩;unfold WT;rw[Za e1,Za Zp,Za Zq,Za ZE];refine(ZJ (vs:=[iv (Jn k (ZK G))]) (H':=X1) ?_).trans ?_
  .rw[Zb,if_neg (by simpa using hE)];rfl
  .rfl
end
theorem Zkt {α:Type} {k:Tx} {v:α} {m:List (Tx × α)} {q:Tx × α} (h:q∈Qs k v m):q=(k,v)\/q∈m:=by
 unfold Qs at h;split at h
 .obtain⟨p,hp,rfl⟩:=List.mem_map.1 h;by_cases e:p.1=k
  .rw[if_pos e];exact .inl rfl
  .rw[if_neg e];exact .inr hp
 .rcases List.mem_append.1 h with h|h
  .exact .inr h
  .exact .inl (by simpa using h)
section
variable {X X':Zd} {n g o c c':Nat} {G:ZcR} {mem mem':Mem} {k m s t:Tx}
def Za0 (k m:Tx) (K:List Tx) (mem:Mem):Int:=if Je k [m] K=0 then(if mem k m then 9 else 0) else Je k [m] K
def Zc2 (k m:Tx) (K:List Tx) (mem:Mem):Int:=if Je k [m] K=0 then(if mem k m then 0 else 12) else Je k [m] K
def ZjM (k m:Tx) (mem:Mem):Mem:=fun k' n=>mem k' n || (k'==k && n==m)
def Zqv (k m:Tx) (mem:Mem):Mem:=fun k' n=>mem k' n && !(k'==k && n==m)
theorem ZqU {k m:Tx} {K:List Tx} (h:Je k [m] K=0):Zw k=true/\Zw m=true/\k∈K:=by
 unfold Je at h;by_cases h1:(k :: [m]).all Zw=true
 .rw[if_pos h1] at h;simp only[List.all_cons,List.all_nil,Bool.and_true,Bool.and_eq_true] at h1;by_cases h2:k∈K
  .exact⟨h1.1,h1.2,h2⟩
  .rw[if_neg h2] at h;cases h
 .rw[if_neg h1] at h;cases h
theorem ZEz {H:Zd}:bld (.agg #[]) [] H=some (.agg #[],H):=by simp[↓Z7,Z5,↓QC,Qg,Qj,Qk,↓Zb,JS,Zg,Yq,Qp,Js,Qt,Jq,Jo,QN,Jz,QO,QT,QZ,Q0,QU,Zl,ZL,YY,YB,Jb,QL,JC,ZI,Q1,JU,JY,JO,ZE,Zn,Zt,Jj,Qm,Qo,JA,JG,Jy,JI,↓YV,JV,↓g_r,Y0,Yw,WB,splice,Value.cells]
theorem Grp.has (h:Grp X g o G mem c) (hk:k∈ZK G):∃ id,Zf k G=some id:=by
 have:=h.key (k:=k);cases ha:Zf k G with
 | none=>rw[ha] at this;exact absurd hk (by simpa using this.symm)
 | some v=>exact⟨v,rfl⟩
theorem ZxL (h:Grp X g o G mem c):∃ X',R (n+8) Yx [pt g,strv k,strv m] X=some (iv (Za0 k m (ZK G) mem),X')/\Grp X' g o G (if Za0 k m (ZK G) mem=0 then ZjM k m mem else mem) (c+1)/\Zr (Q3 o G) X (Q3 o G) X':=by
 have l0:HLe X (X++[.cells [strv m] 1 false false]):=.app _ _;have s0:=(Zns (x:=m) (H:=X)).rd;have e0:=ZwN (x:=m) (H:=X);generalize X++[Ze.cells [strv m] 1 false false]=X0 at l0 s0 e0;obtain⟨X1,e1,l1⟩:=Zvn (n:=n) (k:=k) (m:=m) (h.hle l0) s0;have l01:=l0.trans l1;have h1:=h.hle l01;have f1:∀ r X',K6 (R (n+7)) (pt g) (strv k) (strv m) X=some (r,X')->R (n+8) Yx [pt g,strv k,strv m] X=some (r,X'):=fun r X' hr=>by rw[R,ZlB rfl];exact hr
 unfold Za0;by_cases hE:Je k [m] (ZK G)=0
 .rw[hE] at e1 ⊢;rw[if_pos rfl] at e1 ⊢;obtain⟨b1,b2,b3⟩:=ZqU hE;obtain⟨id,hid⟩:=h.has b3;rw[hid] at e1;obtain⟨S,m1,m2,m3,m4⟩:=h1.set hid;have e2:=m1.lkp (k:=m) (z:=.agg #[]) (ok:=true);have l2:HLe X1 (X1++[.cells [] 1 false false]):=.app _ _;have hbox:=fun {K:Value->M Value}=>ZbB (k:=K) (zs:=[]) (r:=[]) (n:=0) (H:=X1) rfl rfl rfl rfl;have h2:=h1.hle l2;have m1:=m1.hle l2;generalize X1++[Ze.cells [] 1 false false]=X2 at hbox l2 h2 m1;have hmm:=m2 m;cases hg:Zf m S with
  | some u=>
   rw[hg] at hmm e2;have hmm:mem k m=true:=hmm.symm;rw[if_pos hmm,if_neg (by decide)];refine⟨X2,f1 _ _ ?_,h2.more (Nat.le_succ _) (fun _ _=>rfl),(l01.trans l2).stepq⟩;unfold K6;simp only[cond_true] at e2;rw[Za e0,Za e1,Za Zp,Za Zq,Za Zn,Zb,if_neg (by decide),Za e2,Za Zp,Za Zq];refine hbox.trans ?_;rw[Zb,if_pos rfl];rfl
  | none=>
   rw[hg] at hmm e2;have hmm:mem k m=false:=hmm.symm;rw[if_neg (by simp[hmm]),if_pos rfl];simp only[cond_true] at e2;obtain⟨X3,e3,m5,s3,_⟩:=m1.mup (k:=m) (v:=());have hlen:(Qs m () S).length<=c+1:=by rw[ZcK,hg];simp;omega
   refine⟨X3,f1 _ _ ?_,h2.upd hid m5 s3 (fun q hq=>?_) hlen (Nat.le_succ _) (fun k' n'=>?_),(l01.trans l2).stepq.trans (h2.step1 hid s3)⟩
   .unfold K6;rw[Za e0,Za e1,Za Zp,Za Zq,Za Zn,Zb,if_neg (by decide),Za e2,Za Zp,Za Zq];refine hbox.trans ?_;rw[Zb,if_neg (by simp),Za ZEz,Za e3];rfl
   .rcases Zkt hq with rfl|hq
    .exact b2
    .exact m4 q hq
   .unfold ZjM;by_cases hk:k'=k
    .subst hk;rw[if_pos rfl];by_cases hn:n'=m
     .subst hn;rw[Zaf];simp
     .rw[KR hn,m2];simp[hn]
    .rw[if_neg hk];simp[hk]
 .rw[if_neg hE,if_neg hE];refine⟨X1,f1 _ _ ?_,h1.more (Nat.le_succ _) (fun _ _=>rfl),l01.stepq⟩;unfold K6;rw[Za e0,Za e1,Za Zp,Za Zq,Za Zn,Zb,if_pos (by simpa using hE)];rfl
theorem ZBV (h:Grp X g o G mem c):∃ X',R (n+8) KJ [pt g,strv k,strv m] X=some (iv (Zc2 k m (ZK G) mem),X')/\Grp X' g o G (if Zc2 k m (ZK G) mem=0 then Zqv k m mem else mem) (c+1)/\Zr (Q3 o G) X (Q3 o G) X':=by
 have l0:HLe X (X++[.cells [strv m] 1 false false]):=.app _ _;have s0:=(Zns (x:=m) (H:=X)).rd;have e0:=ZwN (x:=m) (H:=X);generalize X++[Ze.cells [strv m] 1 false false]=X0 at l0 s0 e0;obtain⟨X1,e1,l1⟩:=Zvn (n:=n) (k:=k) (m:=m) (h.hle l0) s0;have l01:=l0.trans l1;have h1:=h.hle l01;have f1:∀ r X',KD (R (n+7)) (pt g) (strv k) (strv m) X=some (r,X')->R (n+8) KJ [pt g,strv k,strv m] X=some (r,X'):=fun r X' hr=>by rw[R,ZkW rfl];exact hr
 unfold Zc2;by_cases hE:Je k [m] (ZK G)=0
 .rw[hE] at e1 ⊢;rw[if_pos rfl] at e1 ⊢;obtain⟨b1,b2,b3⟩:=ZqU hE;obtain⟨id,hid⟩:=h.has b3;rw[hid] at e1;obtain⟨S,m1,m2,m3,m4⟩:=h1.set hid;have e2:=m1.lkp (k:=m) (z:=.agg #[]) (ok:=true);have l2:HLe X1 (X1++[.cells [] 1 false false]):=.app _ _;have hbox:=fun {K:Value->M Value}=>ZbB (k:=K) (zs:=[]) (r:=[]) (n:=0) (H:=X1) rfl rfl rfl rfl;have h2:=h1.hle l2;have m1:=m1.hle l2;generalize X1++[Ze.cells [] 1 false false]=X2 at hbox l2 h2 m1;have hmm:=m2 m;cases hg:Zf m S with
  | some u=>
   rw[hg] at hmm e2;have hmm:mem k m=true:=hmm.symm;rw[if_pos hmm,if_pos rfl];simp only[cond_true] at e2;obtain⟨X3,e3,m5,s3,_⟩:=m1.mde (k:=m);have hsub:(Ys m S).Sublist S:=List.filter_sublist;refine⟨X3,f1 _ _ ?_,h2.upd hid m5 s3 (fun q hq=>m4 q (hsub.subset hq)) (Nat.le_trans hsub.length_le (Nat.le_trans m3 (Nat.le_succ _))) (Nat.le_succ _) (fun k' n'=>?_),(l01.trans l2).stepq.trans (h2.step1 hid s3)⟩
   .unfold KD;rw[Za e0,Za e1,Za Zp,Za Zq,Za Zn,Zb,if_neg (by decide),Za e2,Za Zp,Za Zq];refine hbox.trans ?_;rw[Za ZL,Zb,if_neg (by simp),Za e3];rfl
   .unfold Zqv;by_cases hk:k'=k
    .subst hk;rw[if_pos rfl];by_cases hn:n'=m
     .subst hn;rw[ZbZ];simp
     .rw[Yd hn,m2];simp[hn]
    .rw[if_neg hk];simp[hk]
  | none=>
   rw[hg] at hmm e2;have hmm:mem k m=false:=hmm.symm;rw[if_neg (by simp[hmm]),if_neg (by decide)];refine⟨X2,f1 _ _ ?_,h2.more (Nat.le_succ _) (fun _ _=>rfl),(l01.trans l2).stepq⟩;unfold KD;simp only[cond_true] at e2;rw[Za e0,Za e1,Za Zp,Za Zq,Za Zn,Zb,if_neg (by decide),Za e2,Za Zp,Za Zq];refine hbox.trans ?_;rw[Za ZL,Zb,if_pos (by rfl)];rfl
 .rw[if_neg hE,if_neg hE];refine⟨X1,f1 _ _ ?_,h1.more (Nat.le_succ _) (fun _ _=>rfl),l01.stepq⟩;unfold KD;rw[Za e0,Za e1,Za Zp,Za Zq,Za Zn,Zb,if_pos (by simpa using hE)];rfl
theorem ZBx {id:Nat} {S:ZyQ} (hm:JL ZnG X id S) (hl:S.length<=1000000) (hn:∀ q∈S,Zw q.1=true):∃ v q X',R (n+2) Wd [.map (some id)] X=some (v,X')/\Zu X' v ((QK (S.map (·.1))).map strv) q/\HLe X X'/\∀ j∈q,X.length<=j:=by
 have e1:R (n+1) JK [.map (some id)] X=some (.func (.func YC) #[] #[pt X.length],X++[.cells [.map (some id)] 1 false false]):=by
  rw[R,Zcf rfl];unfold YL;rw[Za (Zdd rfl rfl _)];rfl
 have l1:HLe X (X++[.cells [.map (some id)] 1 false false]):=.app _ _;obtain⟨v,q,X2,e2,r2,l2,o2⟩:=(hm.hle l1).keys (gks:=ZbH) (gc:=Qa) (gk:=YC) (c:=X.length) (by decide) Zo hl (fun p hp=>Nat.le_trans (ZcY (hn p hp)) (by decide));have e2':R (n+1) ZO [.func (.func YC) #[] #[pt X.length],.func (.func Qa) #[] #[]] (X++[.cells [.map (some id)] 1 false false])=some (v,X2):=by
  rw[R,Zay (show np ZO=some (Za7 ZbH Qa) from rfl)];exact e2
 refine⟨v,q,X2,?_,r2,l1.trans l2,fun j hj=>Nat.le_trans l1.len (o2 j hj)⟩;rw[R,ZjU rfl];unfold Zcx;rw[Za e1,Za e2'];rfl
theorem ZE9 (h:Grp X g o G mem c):∃ v q X',R (n+3) ZaN [pt g] X=some (v,X')/\Zu X' v ((QK (ZK G)).map strv) q/\HLe X X'/\∀ j∈q,X.length<=j:=by
 have e1:R (n+1) Ja [.map (some o)] X=some (.func (.func Yb) #[] #[pt X.length],X++[.cells [.map (some o)] 1 false false]):=by
  rw[R,Zbz rfl];unfold Yi;rw[Za (Zdd rfl rfl _)];rfl
 have l1:HLe X (X++[.cells [.map (some o)] 1 false false]):=.app _ _;obtain⟨v,q,X2,e2,r2,l2,o2⟩:=(h.mo.hle l1).keys (gks:=ZbH) (gc:=Qa) (gk:=Yb) (c:=X.length) (by decide) Zo (Nat.le_trans h.few (by decide)) (fun p hp=>Nat.le_trans (ZcY (h.ok p hp)) (by decide));have e2':R (n+1) ZO [.func (.func Yb) #[] #[pt X.length],.func (.func Qa) #[] #[]] (X++[.cells [.map (some o)] 1 false false])=some (v,X2):=by
  rw[R,Zay (show np ZO=some (Za7 ZbH Qa) from rfl)];exact e2
 have e3:R (n+2) WG [.map (some o)] X=some (v,X2):=by
  rw[R,Zir rfl];unfold ZbR;rw[Za e1,Za e2'];rfl
 refine⟨v,q,X2,?_,r2,l1.trans l2,fun j hj=>Nat.le_trans l1.len (o2 j hj)⟩;rw[R,Zl3 rfl];unfold ZdV;rw[Za Zg,Za Zj,Za h.ldo,Za e3];rfl
theorem Zef {l:List Tx}:(QK l).length=l.length:=List.length_mergeSort l
theorem Zzt (h:Grp X g o G mem c) (hc:c<=1000000):∃ v q l X',R (n+8) K0 [pt g,strv k] X=some (.tuple #[v,iv (Jn k (ZK G))],X')/\Zu X' v (l.map strv) q/\Is l (fun m=>Jn k (ZK G)=0/\mem k m=true)/\l.length<=c/\HLe X X'/\∀ j∈q,X.length<=j:=by
 obtain⟨X1,e1,l1⟩:=Zpz (n:=n) (k:=k) h;rw[Zu5] at e1;have h1:=h.hle l1;have f1:∀ r X',KV (R (n+7)) (pt g) (strv k) X=some (r,X')->R (n+8) K0 [pt g,strv k] X=some (r,X'):=fun r X' hr=>by rw[R,Zjc rfl];exact hr
 by_cases hE:Jn k (ZK G)=0
 .rw[hE] at e1 ⊢;rw[if_pos rfl] at e1;have hk:k∈ZK G:=by
   unfold Jn at hE;by_cases hn:Zw k=true
   .rw[if_pos hn] at hE;by_cases h2:k∈ZK G
    .exact h2
    .rw[if_neg h2] at hE;cases hE
   .rw[if_neg hn] at hE;cases hE
  obtain⟨id,hid⟩:=h.has hk;rw[hid] at e1;obtain⟨S,m1,m2,m3,m4⟩:=h1.set hid;obtain⟨v,q,X2,e2,r2,l2,o2⟩:=ZBx (n:=n+5) m1 (by omega) m4;have e2:R (n+7) Wd [.map (some id)] X1=_:=e2;refine⟨v,q,_,X2,f1 _ _ ?_,r2,⟨Zgs m1.nod,fun x=>?_⟩,by rw[Zef];simpa using m3,l1.trans l2,fun j hj=>Nat.le_trans l1.len (o2 j hj)⟩
  .unfold KV;rw[Za e1,Za Zp,Za Zq,Za Zn,Zb,if_neg (by decide),Za e2];rfl
  .rw[Zad];have:=m2 x;rw[ZkO] at this;rw[<- this];simp
 .refine⟨_,[],[],X1,f1 _ _ ?_,Zu.nil,⟨List.Pairwise.nil,fun x=>⟨fun hx=>absurd hx (by simp),fun hx=>absurd hx.1 hE⟩⟩,Nat.zero_le _,l1,by simp⟩;unfold KV;rw[Za e1,Za Zp,Za Zq,Za Zn,Zb,if_pos (by simpa using hE)];rfl
def ofL (m:Tx) (K:List Tx) (mem:Mem):List Tx:=(QK K).filter fun k=>mem k m
theorem ZwR {K:List Tx} (hn:K.Nodup):Is (ofL m K mem) (fun k=>k∈K/\mem k m=true):=⟨(Zgs hn).filter _,fun x=>by unfold ofL;rw[List.mem_filter,Zad]⟩
theorem Znv {K:List Tx}:(ofL m K mem).length<=K.length:=by
 unfold ofL;have:=List.length_filter_le (fun k=>mem k m) (QK K)
 rwa [Zef] at this
theorem ZFk {b1 b2:Nat} (h:Grp X g o G mem c) (h1:X[b1]?=some (.cells [pt g] 1 false false)) (h2:X[b2]?=some (.cells [strv m] 1 false false)) (hk:k∈ZK G) :
  ∃ X',R (n+1) KC [strv k,pt b1,pt b2] X=some (.bool (!mem k m),X')/\HLe X X':=by
 obtain⟨id,hid⟩:=h.has hk;obtain⟨S,m1,m2,m3,m4⟩:=h.set hid;have e2:lkp .str (.map none) false (.map (some o)) (strv k) X=some (.map (some id),X):=by rw[h.mo.lkp,hid];rfl
 have e3:lkp .str (.agg #[]) true (.map (some id)) (strv m) X=some (.tuple #[.agg #[],.bool (mem k m)],X):=by
  rw[m1.lkp,<- m2 m];cases Zf m S<;>rfl
 have l2:HLe X (X++[.cells [] 1 false false]):=.app _ _;have e4:alc 1 (.agg #[]) X=some (pt X.length,X++[.cells [] 1 false false]):=Zhr (vs:=[]) rfl;have a4:(X++[Ze.cells [] 1 false false])[X.length]?=some (.cells [] 1 false false):=Zo;have e5:stA 0 (pt X.length) (.agg #[]) (X++[Ze.cells [] 1 false false])=some (undef,(X++[Ze.cells [] 1 false false]).set X.length (.cells [] 1 false false)):=WX (vs:=[]) a4 rfl rfl rfl;rw[ZEm] at e5;have h':=h.hle l2;have m1':=m1.hle l2;have b1':=l2 _ _ h1;have b2':=l2 _ _ h2;generalize X++[Ze.cells [] 1 false false]=X2 at l2 e4 e5 h' m1' b1' b2';have e2':lkp .str (.map none) false (.map (some o)) (strv k) X2=some (.map (some id),X2):=by rw[h'.mo.lkp,hid];rfl
 have e3':lkp .str (.agg #[]) true (.map (some id)) (strv m) X2=some (.tuple #[.agg #[],.bool (mem k m)],X2):=by
  rw[m1'.lkp,<- m2 m];cases Zf m S<;>rfl
 refine⟨X2,?_,l2⟩;rw[R,ZmM rfl];unfold ZdS;rw[Za (KM h1),Za Zg,Za Zj,Za h.ldo,Za e2,Za (KM h2),Za e3,Za Zp,Za Zq,Za e4,Za e3',Qx,Za (KM b2'),Qx,Za e2',Qx];refine(Za h'.ldo).trans ?_;rw[Qx,Za (KM b1'),Qx,Za e5,Za ZL];rfl
theorem ZuU (h:Grp X g o G mem c):∃ v q X',R (n+4) JP [pt g,strv m] X=some (v,X')/\Zu X' v ((ofL m (ZK G) mem).map strv) q/\HLe X X'/\∀ j∈q,X.length<=j:=by
 have e1:=Zdd (v:=pt g) rfl rfl X;have l1:HLe X (X++[Ze.cells [pt g] 1 false false]):=.app _ _;have c1:(X++[Ze.cells [pt g] 1 false false])[X.length]?=some (.cells [pt g] 1 false false):=Zo;generalize X++[Ze.cells [pt g] 1 false false]=X1 at e1 l1 c1;have e2:=Zdd (v:=strv m) rfl rfl X1;have l2:HLe X1 (X1++[Ze.cells [strv m] 1 false false]):=.app _ _;have c2:(X1++[Ze.cells [strv m] 1 false false])[X1.length]?=some (.cells [strv m] 1 false false):=Zo;generalize X1++[Ze.cells [strv m] 1 false false]=X2 at e2 l2 c2;have c1:=l2 _ _ c1;have h2:=h.hle (l1.trans l2);obtain⟨v,q,X3,e3,r3,l3,o3⟩:=ZE9 (n:=n) h2;have e3:R (n+3) ZaN [pt g] X2=_:=e3;have l123:=(l1.trans l2).trans l3;have hq:∀ j∈q,j∉Q3 o G/\j≠g/\j≠X.length/\j≠X1.length:=fun j hj=>by
  have:=o3 j hj;have a1:=Z6 c1;have a2:=Z6 c2;have a3:=h2.glt;exact⟨fun hm=>by have:=(h2.isMap hm).1;omega,by omega,by omega,by omega⟩
 have hkeep:∀ Y Y',(Grp Y g o G mem c/\Y[X.length]?=some (.cells [pt g] 1 false false)/\Y[X1.length]?=some (.cells [strv m] 1 false false))->Zr q Y q Y'->(Grp Y' g o G mem c/\Y'[X.length]?=some (.cells [pt g] 1 false false)/\Y'[X1.length]?=some (.cells [strv m] 1 false false)):=fun Y Y' ⟨a1,a2,a3⟩ hs=>
  ⟨a1.step hs (fun hm=>(hq g hm).2.1 rfl) (fun j hj hm=>(hq j hm).1 hj),hs.get a2 (fun hm=>(hq _ hm).2.2.1 rfl),hs.get a3 (fun hm=>(hq _ hm).2.2.2 rfl)⟩
 have hf:∀ i Y,(Grp Y g o G mem c/\Y[X.length]?=some (.cells [pt g] 1 false false)/\Y[X1.length]?=some (.cells [strv m] 1 false false))->∀ s∈QK (ZK G),∃ Y',Qn (R (i+1)) (.func (.func KC) #[] #[pt X.length,pt X1.length]) [strv s] Y=some (.bool (!mem s m),Y')/\HLe Y Y':=fun i Y ⟨a1,a2,a3⟩ s hs=>by
  obtain⟨Y',e,l⟩:=ZFk (n:=i) a1 a2 a3 (Zad.1 hs);refine⟨Y',?_,l⟩;have:=Zh7 (n:=i+1) (g:=KC) (bs:=[pt X.length,pt X1.length]) (args:=[strv s]);exact(congrFun this Y).trans e
 obtain⟨X4,v',e4,r4,s4⟩:=Zux (n:=n+1) (p:=fun s=>!mem s m) (f:=.func (.func KC) #[] #[pt X.length,pt X1.length]) (Q:=fun Y=>Grp Y g o G mem c/\Y[X.length]?=some (.cells [pt g] 1 false false)/\Y[X1.length]?=some (.cells [strv m] 1 false false)) r3 (by rw[Zef];have:=h.few;simp;omega) hkeep (hf n) (hf (n+1)) ⟨h2.hle l3,l3 _ _ c1,l3 _ _ c2⟩;have e4:R (n+3) Z4 [v,.func (.func KC) #[] #[pt X.length,pt X1.length]] X3=_:=e4;have hm:=l123.more s4 (fun j hj=>Nat.le_trans (l1.trans l2).len (o3 j hj));refine⟨v',q,X4,?_,by simpa[ofL] using r4,hm.1,hm.2⟩;rw[R,Zos rfl];unfold Zfc;rw[Za e1,Za e2,Za (KM c1),Za e3,Za e4];rfl
end
section
variable {X X':Zd} {n g o c c':Nat} {G:ZcR} {mem mem':Mem} {k m s t:Tx}
theorem Zu.grp {v:Value} {vs:List Value} {q S':List Nat} (h:Zu X v vs q) (hG:Grp X g o G mem c) (hs:Zr (Q3 o G) X S' X'):Zu X' v vs q:=by
 refine h.step hs fun j hj hm=>?_;rcases h with⟨_,rfl,_⟩|⟨sid,rest,gr,_,rfl,hid⟩
 .cases hj
 .have hj:j=sid:=by simpa using hj
  subst hj;exact(hG.isMap hm).2 _ _ _ _ hid
def Zjw (s t:Tx) (K:List Tx) (mem:Mem):Int:=if Zw t then(if s=t then 0 else if ofL t K mem=[] then 0 else 9) else 10
def ZgB (s t:Tx) (mem:Mem):Mem:=fun k n=>if mem k s then(n==t || (mem k n && !(n==s))) else mem k n
def Zr8 (m:Tx) (mem:Mem):Mem:=fun k n=>mem k n && !(n==m)
def Zjm (s t:Tx) (l:List Tx) (mem:Mem) (j:Nat):Mem:=fun k n=>if k∈l.take j then(n==t || (mem k n && !(n==s))) else mem k n
def Zkv (m:Tx) (l:List Tx) (mem:Mem) (j:Nat):Mem:=fun k n=>if k∈l.take j then mem k n && !(n==m) else mem k n
theorem Zhu {l:List Tx} {j:Nat} {x k:Tx} (hx:l[j]?=some x):k∈l.take (j+1)↔k∈l.take j\/k=x:=by
 rw[List.take_add_one,hx];simp
theorem Zv2 {l:List Tx} {j:Nat} {x:Tx} (hn:l.Nodup) (hx:l[j]?=some x):x∉l.take j:=fun hm=>by
 obtain⟨i,hi⟩:=List.getElem?_of_mem hm;rw[List.getElem?_take] at hi;split at hi
 .rename_i hij;obtain⟨h1,h2⟩:=List.getElem?_eq_some_iff.1 hi;obtain⟨h3,h4⟩:=List.getElem?_eq_some_iff.1 hx;exact List.pairwise_iff_getElem.1 hn i j h1 h3 hij (h2.trans h4.symm)
 .cases hi
theorem ZAg {v:Value} {q:List Nat} {l:List Tx} (hl:l.length<=1000) (hn:l.Nodup) (hK:∀ x∈l,x∈ZK G/\mem x s=true):∀ (r j:Nat) (X:Zd),l.length - j=r->j<=l.length->Grp X g o G (Zjm s t l mem j) c->Zw t=true->Zu X v (l.map strv) q->
  ∃ X',Zi (c6 (QF.l1 (R n))) [pt g,strv s,strv t,v,iv l.length,iv j] X=some (.ext 0 [],X')/\Grp X' g o G (Zjm s t l mem l.length) c/\Zr (Q3 o G) X (Q3 o G) X'
 | 0,j,X,hr,hj,h,ht,hrow=>by
  have:j=l.length:=by omega
  subst this;refine⟨X,Qq ?_,h,.refl _ _⟩;rw[YN];unfold QF.l1;rw[Za Zt,Zb,if_neg (by simp)];rfl
 | r+1,j,X,hr,hj,h,ht,hrow=>by
  have hkl:j < l.length:=by omega
  have hlt:(j:Int) < l.length:=by omega
  have hg:=List.getElem?_eq_getElem hkl;have hmm:=List.getElem_mem hkl;generalize l[j]=k at hg hmm;obtain⟨hkK,hks⟩:=hK k hmm;have hnot:=Zv2 hn hg;have x1:=hrow.ix (i:=j) (by simpa using hkl) .i64 X;have x2:=hrow.ldx (WC hg);obtain⟨id,hid⟩:=h.has hkK;obtain⟨S,m1,m2,m3,m4⟩:=h.set hid;have hmk:∀ n',(Zf n' S).isSome=mem k n':=fun n'=>by rw[m2 n'];unfold Zjm;rw[if_neg hnot]
  have e2:lkp .str (.map none) false (.map (some o)) (strv k) X=some (.map (some id),X):=by rw[h.mo.lkp,hid];rfl
  obtain⟨X1,e3,m5,s3,_⟩:=m1.mde (k:=s);have hsub:(Ys s S).Sublist S:=List.filter_sublist;have h1:=h.upd (mem':=fun k' n'=>if k'=k then(Zf n' (Ys s S)).isSome else Zjm s t l mem j k' n') hid m5 s3 (fun q hq=>m4 q (hsub.subset hq)) (Nat.le_trans hsub.length_le m3) (Nat.le_refl _) (fun _ _=>rfl);have e4:lkp .str (.map none) false (.map (some o)) (strv k) X1=some (.map (some id),X1):=by rw[h1.mo.lkp,hid];rfl
  obtain⟨X2,e5,m6,s5,_⟩:=m5.mup (k:=t) (v:=());have hsS:(Zf s S).isSome=true:=by rw[hmk];exact hks
  have hpos:0 < S.length:=by
   cases hS:S with
   | nil=>rw[hS] at hsS;cases hsS
   | cons a b=>simp
  have hlen:(Qs t () (Ys s S)).length<=c:=by
   rw[ZcK];have:=Zqn m1.nod hsS;split<;>omega
  have h2:=h1.upd (mem':=Zjm s t l mem (j+1)) hid m6 s5 (fun q hq=>by
   rcases Zkt hq with rfl|hq
   .exact ht
   .exact m4 q (hsub.subset hq)) hlen (Nat.le_refl _) (fun k' n'=>by
   by_cases hk:k'=k
   .subst hk;rw[if_pos rfl];unfold Zjm;rw[if_pos ((Zhu hg).2 (.inr rfl))];by_cases hnt:n'=t
    .subst hnt;rw[Zaf];simp
    .rw[KR hnt];by_cases hns:n'=s
     .subst hns;rw[ZbZ];simp[hnt]
     .rw[Yd hns,hmk,beq_eq_false_iff_ne.2 hnt,beq_eq_false_iff_ne.2 hns];simp
   .rw[if_neg hk,if_neg hk];unfold Zjm;by_cases hin:k'∈l.take j
    .rw[if_pos hin,if_pos ((Zhu hg).2 (.inl hin))]
    .rw[if_neg hin,if_neg fun h=>(Zhu hg).1 h |>.elim hin hk])
  have st:=(h.step1 hid s3).trans (h1.step1 hid s5);obtain⟨X3,e6,h3,s6⟩:=ZAg hl hn hK r (j+1) X2 (by omega) (by omega) h2 ht (hrow.grp h st);refine⟨X3,(ZU ?_).trans e6,h3,st.trans s6⟩;rw[YN];unfold QF.l1;rw[Za Zt,Zb,if_pos (by simpa using hlt),Za x1,Za x2,Za Zg,Za Zj,Za h.ldo,Za e2,Za e3,Za Zg,Za Zj,Za h1.ldo,Za e4,Za ZEz,Za e5,Za ZI,JX (by omega)];rfl
theorem ZmW {K:List Tx} {x:Tx}:x∈ofL m K mem↔x∈K/\mem x m=true:=by unfold ofL;rw[List.mem_filter,Zad]
theorem ZE0 (h:Grp X g o G mem c):∃ X',R (n+8) Kj [pt g,strv s,strv t] X=some (iv (Zjw s t (ZK G) mem),X')/\Grp X' g o G (if Zjw s t (ZK G) mem=0 then ZgB s t mem else mem) c/\Zr (Q3 o G) X (Q3 o G) X':=by
 have l0:HLe X (X++[.cells [strv t] 1 false false]):=.app _ _;have s0:=(Zns (x:=t) (H:=X)).rd;have e0:=ZwN (x:=t) (H:=X);generalize X++[Ze.cells [strv t] 1 false false]=X0 at l0 s0 e0;have f1:∀ r X',QF (R (n+7)) (pt g) (strv s) (strv t) X=some (r,X')->R (n+8) Kj [pt g,strv s,strv t] X=some (r,X'):=fun r X' hr=>by rw[R,Zjo rfl];exact hr
 have e1:R (n+7) ZaH [_] X0=_:=Zwo (n:=n+1) (l:=[t]) (by simp) s0;have h0:=h.hle l0;unfold Zjw;by_cases ht:Zw t=true
 .have hN:ZdZ [t]=0:=by unfold ZdZ;simp[ht]
  rw[hN] at e1;rw[if_pos ht];have q1:bop .str .eql (strv s) (strv t) X0=some (.bool (s==t),X0):=Zix;by_cases hst:s=t
  .rw[if_pos hst,if_pos rfl];refine⟨X0,f1 _ _ ?_,h0.more (Nat.le_refl _) (fun k' n'=>?_),l0.stepq⟩
   .unfold QF;rw[Za e0,Za e1,Za Zn,Zb,if_neg (by decide),Za q1,Zb,if_pos (by simpa using hst)];rfl
   .unfold ZgB;subst hst;split
    .rename_i hm;by_cases hn:n'=s
     .subst hn;simp[hm]
     .rw[beq_eq_false_iff_ne.2 hn];simp
    .rfl
  .rw[if_neg hst];obtain⟨v1,q1',X1,e2,r2,l2,o2⟩:=ZuU (n:=n+3) (m:=t) h0;have e2:R (n+7) JP [pt g,strv t] X0=_:=e2;have hlen1:ZC v1 X1=some (iv (ofL t (ZK G) mem).length,X1):=by have:=r2.rd.len (H':=X1);simpa using this
   have h1:=h0.hle l2;by_cases hO:ofL t (ZK G) mem=[]
   .rw[if_pos hO,if_pos rfl];rw[hO] at hlen1;obtain⟨v2,q2,X2,e3,r3,l3,o3⟩:=ZuU (n:=n+3) (m:=s) h1;have e3:R (n+7) JP [pt g,strv s] X1=_:=e3;have h2:=h1.hle l3;have hlen2:ZC v2 X2=some (iv (ofL s (ZK G) mem).length,X2):=by have:=r3.rd.len (H':=X2);simpa using this
    have hfew:(ofL s (ZK G) mem).length<=1000:=by have:=Znv (m:=s) (mem:=mem) (K:=ZK G);have:=h.few;simp at *;omega
    have hnod:(ofL s (ZK G) mem).Nodup:=(ZwR h.mo.nod).asc.nodup;have hr0:∀ k n',Zjm s t (ofL s (ZK G) mem) mem 0 k n'=mem k n':=fun k n'=>by unfold Zjm;simp
    obtain⟨X3,e4,h3,s4⟩:=ZAg (n:=n+7) (s:=s) (t:=t) hfew hnod (fun x hx=>ZmW.1 hx) (ofL s (ZK G) mem).length 0 X2 (by omega) (by omega) (h2.more (Nat.le_refl _) hr0) ht r3;rw[show iv ((0:Nat):Int)=.int .i64 0 from rfl] at e4;refine⟨X3,f1 _ _ ?_,h3.more (Nat.le_refl _) (fun k' n'=>?_),((l0.trans l2).trans l3).stepq.trans s4⟩
    .unfold QF;rw[Za e0,Za e1,Za Zn,Zb,if_neg (by decide),Za q1,Zb,if_neg (by simpa using hst),Za e2,Za hlen1,Za Qm,Zb,if_neg (by simp),Za e3,Za hlen2,Q4 e4,ZP];rfl
    .unfold ZgB Zjm;rw[List.take_length];by_cases hm:mem k' s=true
     .have hin:k'∈ofL s (ZK G) mem:=ZmW.2 ⟨by
       have:=h.out k' s hm;rw[h.key] at this;simpa using this,hm⟩
      rw[if_pos hm,if_pos hin]
     .rw[if_neg hm,if_neg fun hin=>hm (ZmW.1 hin).2]
   .rw[if_neg hO,if_neg (by decide)];have hpos:0 < (ofL t (ZK G) mem).length:=List.length_pos_iff.2 hO;refine⟨X1,f1 _ _ ?_,h1,(l0.trans l2).stepq⟩;unfold QF;rw[Za e0,Za e1,Za Zn,Zb,if_neg (by decide),Za q1,Zb,if_neg (by simpa using hst),Za e2,Za hlen1,Za Qm,Zb,if_pos (by simpa using hpos)];rfl
 .have hN:ZdZ [t]=10:=by unfold ZdZ;simp[ht]
  rw[hN] at e1;rw[if_neg ht,if_neg (by decide)];refine⟨X0,f1 _ _ ?_,h0,l0.stepq⟩;unfold QF;rw[Za e0,Za e1,Za Zn,Zb,if_pos (by decide)];rfl
theorem ZzT {v z:Value} {q:List Nat} {l:List Tx} (hl:l.length<=1000) (hn:l.Nodup) (hK:∀ x∈l,x∈ZK G):∀ (r j:Nat) (X:Zd),l.length - j=r->j<=l.length->Grp X g o G (Zkv m l mem j) c->Zu X v (l.map strv) q->
  ∃ X',Zi (c6 (J5.l1 (R n))) [pt g,strv m,z,v,iv l.length,iv j] X=some (.ext 0 [z],X')/\Grp X' g o G (Zkv m l mem l.length) c/\Zr (Q3 o G) X (Q3 o G) X'
 | 0,j,X,hr,hj,h,hrow=>by
  have:j=l.length:=by omega
  subst this;refine⟨X,Qq ?_,h,.refl _ _⟩;rw[YN];unfold J5.l1;rw[Za Zt,Zb,if_neg (by simp)];rfl
 | r+1,j,X,hr,hj,h,hrow=>by
  have hkl:j < l.length:=by omega
  have hlt:(j:Int) < l.length:=by omega
  have hg:=List.getElem?_eq_getElem hkl;have hmm:=List.getElem_mem hkl;generalize l[j]=k at hg hmm;have hkK:=hK k hmm;have hnot:=Zv2 hn hg;have x1:=hrow.ix (i:=j) (by simpa using hkl) .i64 X;have x2:=hrow.ldx (WC hg);obtain⟨id,hid⟩:=h.has hkK;obtain⟨S,m1,m2,m3,m4⟩:=h.set hid;have hmk:∀ n',(Zf n' S).isSome=mem k n':=fun n'=>by rw[m2 n'];unfold Zkv;rw[if_neg hnot]
  have e2:lkp .str (.map none) false (.map (some o)) (strv k) X=some (.map (some id),X):=by rw[h.mo.lkp,hid];rfl
  obtain⟨X1,e3,m5,s3,_⟩:=m1.mde (k:=m);have hsub:(Ys m S).Sublist S:=List.filter_sublist;have h1:=h.upd (mem':=Zkv m l mem (j+1)) hid m5 s3 (fun q hq=>m4 q (hsub.subset hq)) (Nat.le_trans hsub.length_le m3) (Nat.le_refl _) (fun k' n'=>by
   by_cases hk:k'=k
   .subst hk;rw[if_pos rfl];unfold Zkv;rw[if_pos ((Zhu hg).2 (.inr rfl))];by_cases hns:n'=m
    .subst hns;rw[ZbZ];simp
    .rw[Yd hns,hmk];simp[hns]
   .rw[if_neg hk];unfold Zkv;by_cases hin:k'∈l.take j
    .rw[if_pos hin,if_pos ((Zhu hg).2 (.inl hin))]
    .rw[if_neg hin,if_neg fun h=>(Zhu hg).1 h |>.elim hin hk])
  have st:=h.step1 hid s3;obtain⟨X3,e6,h3,s6⟩:=ZzT hl hn hK r (j+1) X1 (by omega) (by omega) h1 (hrow.grp h st);refine⟨X3,(ZU ?_).trans e6,h3,st.trans s6⟩;rw[YN];unfold J5.l1;rw[Za Zt,Zb,if_pos (by simpa using hlt),Za x1,Za x2,Za Zg,Za Zj,Za h.ldo,Za e2,Za e3,Za ZI,JX (by omega)];rfl
theorem ZAJ (h:Grp X g o G mem c):∃ X',R (n+8) Wf [pt g,strv m] X=some (iv (ofL m (ZK G) mem).length,X')/\Grp X' g o G (Zr8 m mem) c/\Zr (Q3 o G) X (Q3 o G) X':=by
 obtain⟨v2,q2,X2,e3,r3,l3,o3⟩:=ZuU (n:=n+3) (m:=m) h;have e3:R (n+7) JP [pt g,strv m] X=_:=e3;have h2:=h.hle l3;have hlen2:∀ Y,ZC v2 Y=some (iv (ofL m (ZK G) mem).length,Y):=fun Y=>by have:=r3.rd.len (H':=Y);simpa using this
 have hfew:(ofL m (ZK G) mem).length<=1000:=by have:=Znv (m:=m) (mem:=mem) (K:=ZK G);have:=h.few;simp at *;omega
 have hnod:(ofL m (ZK G) mem).Nodup:=(ZwR h.mo.nod).asc.nodup;have hr0:∀ k n',Zkv m (ofL m (ZK G) mem) mem 0 k n'=mem k n':=fun k n'=>by unfold Zkv;simp
 obtain⟨X3,e4,h3,s4⟩:=ZzT (n:=n+7) (m:=m) (z:=v2) hfew hnod (fun x hx=>(ZmW.1 hx).1) (ofL m (ZK G) mem).length 0 X2 (by omega) (by omega) (h2.more (Nat.le_refl _) hr0) r3;rw[show iv ((0:Nat):Int)=.int .i64 0 from rfl] at e4;refine⟨X3,?_,h3.more (Nat.le_refl _) (fun k' n'=>?_),l3.stepq.trans s4⟩
 .rw[R,ZjS rfl];unfold J5;rw[Za e3,Za (hlen2 _),Q4 e4,ZP,J1,Za (hlen2 _)];rfl
 .unfold Zr8 Zkv;rw[List.take_length];by_cases hin:k'∈ofL m (ZK G) mem
  .rw[if_pos hin]
  .rw[if_neg hin];by_cases hn:n'=m
   .subst hn;cases hm:mem k' n' with
    | false=>rfl
    | true=>exact absurd (ZmW.2 ⟨by have:=h.out k' n' hm;rw[h.key] at this;simpa using this,hm⟩) hin
   .simp[hn]
def Zc4 (b:Nat):ZcR->ZcR
 | []=>[]
 | p :: G=>(p.1,b) :: Zc4 (b+1) G
theorem Zks:∀ {G:ZcR} {b:Nat},ZK (Zc4 b G)=ZK G
 | [],_=>rfl
 | p :: G,b=>by
  show p.1 :: ZK (Zc4 (b+1) G)=p.1 :: ZK G
  rw[Zks]
theorem Zp3:∀ {G:ZcR} {b:Nat} {p:Tx × Nat},p∈Zc4 b G->∃ i q,G[i]?=some q/\p=(q.1,b+i)
 | [],_,_,h=>by cases h
 | q :: G,b,p,h=>by
  rcases List.mem_cons.1 h with rfl|h
  .exact⟨0,q,rfl,rfl⟩
  .obtain⟨i,r,h1,h2⟩:=Zp3 h;exact⟨i+1,r,by simpa using h1,by rw[h2];congr 1;omega⟩
theorem ZiR:∀ {G:ZcR} {b:Nat},(Zc4 b G).map (·.2)=List.range' b G.length
 | [],_=>rfl
 | p :: G,b=>by
  show b :: (Zc4 (b+1) G).map (·.2)=_
  rw[ZiR,List.length_cons,List.range'_succ]
theorem Zqy:∀ {G:ZcR} {b:Nat},(Zf k (Zc4 b G)).isSome=(Zf k G).isSome
 | [],_=>rfl
 | p :: G,b=>by
  simp only[Zc4,Zf];by_cases h:p.1=k
  .rw[if_pos h,if_pos h];rfl
  .rw[if_neg h,if_neg h,Zqy]
theorem ZrJ:∀ {es:List (Value × Value × Nat)} {G:ZcR} {b:Nat},es.map kv=G.map (fun p=>(strv p.1,Zta p.2))->(Zb7 b es).map kv=(Zc4 b G).map (fun p=>(strv p.1,Zta p.2))
 | [],[],_,_=>rfl
 | [],_ :: _,_,h=>by cases h
 | _ :: _,[],_,h=>by cases h
 | e :: es,p :: G,b,h=>by
  simp only[List.map_cons,List.cons.injEq,kv,Prod.mk.injEq] at h;simp only[Zb7,Zc4,List.map_cons,kv,h.1.1];rw[ZrJ h.2]
theorem Zq9:∀ {es:List (Value × Value × Nat)} {G:ZcR},es.map kv=G.map (fun p=>(strv p.1,Zta p.2))->(∀ p∈G,∃ S,JL ZnG X p.2 S)->∃ l,ZeV X es=some l/\l.length=G.length/\∀ (i:Nat) (p:Tx × Nat),G[i]?=some p->l[i]?=X[p.2]?
 | [],[],_,_=>⟨[],rfl,rfl,fun i p h=>by simp at h⟩
 | [],_ :: _,h,_=>by cases h
 | _ :: _,[],h,_=>by cases h
 | e :: es,p :: G,h,hS=>by
  simp only[List.map_cons,List.cons.injEq,kv,Prod.mk.injEq] at h;obtain⟨l,h1,h2,h3⟩:=Zq9 h.2 (fun p hp=>hS p (List.mem_cons_of_mem _ hp));obtain⟨S,hm⟩:=hS p (by simp);obtain⟨x,hx,hmx⟩:∃ x,X[p.2]?=some x/\Zh5 x=true:=by
   obtain⟨es',_,h4|h4⟩:=hm.ex
   .obtain⟨clk,h4,_⟩:=h4;exact⟨_,h4,rfl⟩
   .exact⟨_,h4,rfl⟩
  refine⟨x :: l,?_,by simp[h2],fun i q hi=>?_⟩
  .unfold ZeV;simp only[h.1.2,h1,Zta,hx,hmx,if_true]
  .cases i with
   | zero=>
    have:p=q:=by simpa using hi
    subst this;simp[hx]
   | succ i=>simpa using h3 i q (by simpa using hi)
theorem JL.move {α:Type} {enc:α->Value} {id id':Nat} {mm:List (Tx × α)} (h:JL enc X id mm) (he:X'[id']?=X[id]?):JL enc X' id' mm:=by
 obtain⟨es,h1,h2⟩:=h.ex;exact⟨⟨es,h1,by rw[he];exact h2⟩,h.nod⟩
theorem ZC5 (h:Grp X g o G mem c):∃ X' g' o' G',R (n+1) WW [pt g] X=some (pt g',X')/\Grp X' g' o' G' mem c/\ZK G'=ZK G/\HLe X X'/\X.length<=g'/\∀ j∈Q3 o' G',X.length<=j:=by
 obtain⟨es,h1,h2⟩:=h.mo.ex;obtain⟨l,h3,h4,h5⟩:=Zq9 h1 (fun p hp=>by obtain⟨S,hS,_⟩:=h.ms p hp;exact⟨S,hS⟩);have hents:Znh X o=some es:=by
  unfold Znh;rcases h2 with⟨clk,h2,hst⟩|h2
  .simp only[h2];rw[if_pos hst]
  .simp only[h2]
 have hk:Zgq es (ZK G):=⟨by
  have:=congrArg (List.map (·.1)) h1;rw[ZeG] at this;rw[this];simp[Function.comp_def],h.mo.nod,by have:=h.few;simp;omega,fun k hk=>by
  obtain⟨p,hp,rfl⟩:=List.mem_map.1 hk;exact Nat.le_trans (ZcY (h.ok p hp)) (by decide)⟩
 have hrun:R (n+1) WW [pt g] X=some (pt (X.length+l.length+1),X++l++[.mapU (Zb7 X.length es)]++[.cells [.map (some (X.length+l.length))] 1 false false]):=by
  rw[R,Zay (show np WW=some Zjx from rfl)];unfold Zjx;simp only[h.cell,hents,h3];rw[if_pos ⟨_,hk⟩]
 have hlen1:(X++l).length=X.length+l.length:=List.length_append;have hlen2:(X++l++[Ze.mapU (Zb7 X.length es)]).length=X.length+l.length+1:=by rw[List.length_append,hlen1,List.length_singleton]
 have hle:HLe X (X++l++[.mapU (Zb7 X.length es)]++[.cells [.map (some (X.length+l.length))] 1 false false]):=fun i v hi=>by
  rw[List.append_assoc,List.append_assoc,List.getElem?_append_left (Z6 hi)];exact hi
 refine⟨_,_,X.length+l.length,Zc4 X.length G,hrun,⟨?_,⟨⟨Zb7 X.length es,ZrJ h1,.inr ?_⟩,?_⟩,fun p hp=>?_,fun k' n' hk'=>by rw[Zqy];exact h.out k' n' hk',?_,fun p hp=>?_,?_⟩,Zks,hle,by omega,fun j hj=>?_⟩
 .rw[<- hlen2];exact Zo
 .rw[List.getElem?_append_left (by rw[hlen2];omega),<- hlen1];exact Zo
 .have:(ZK (Zc4 X.length G)).Nodup:=by rw[Zks];exact h.mo.nod
  exact this
 .obtain⟨i,q,hq,rfl⟩:=Zp3 hp;obtain⟨S,a1,a2,a3,a4⟩:=h.ms q (List.mem_of_getElem? hq);refine⟨S,a1.move ?_,a2,a3,a4⟩;have hil:i < l.length:=by rw[h4];exact(List.getElem?_eq_some_iff.1 hq).1
  show(_:Zd)[X.length+i]?=_
  rw[List.getElem?_append_left (by rw[hlen2];omega),List.getElem?_append_left (by rw[hlen1];omega),List.getElem?_append_right (by omega),Nat.add_sub_cancel_left];exact h5 i q hq
 .rw[Q3,ZiR,List.nodup_cons];refine⟨fun hm=>?_,List.nodup_range'⟩;have:=List.mem_range'_1.1 hm;omega
 .obtain⟨i,q,hq,rfl⟩:=Zp3 hp;exact h.ok q (List.mem_of_getElem? hq)
 .have:(Zc4 X.length G).length=G.length:=by
   have:=congrArg List.length (ZiR (G:=G) (b:=X.length));simpa using this
  rw[this];exact h.few
 .rw[Q3,ZiR] at hj;rcases List.mem_cons.1 hj with rfl|hj
  .omega
  .exact(List.mem_range'_1.1 hj).1
end
def Zev (b:UInt8):UInt8:=if decide (65<=b.toNat) && decide (b.toNat<=90) then UInt8.ofNat (b.toNat+32) else b
def QM (s:List UInt8):List UInt8:=s.map Zev
theorem ZBy:∀ b:UInt8,(decide (65<=b.toNat) && decide (b.toNat<=90))=true->IntKind.u8.wrap (IntKind.u8.wrap ((b.toNat:Int)+97) - 65)=(Zev b).toNat:=ZA0 (by decide+kernel)
section
variable {H X:Zd} {n:Nat} {s:List UInt8}
theorem ZEQ {cs:List UInt8} {k:Nat} {b:UInt8} (h:cs[k]?=some b):(u8s cs)[k]?=some (u8v b):=by unfold u8s;rw[List.getElem?_map,h];rfl
theorem ZDf {cs:List UInt8} {k:Nat} {b:UInt8}:(u8s cs).set k (u8v b)=u8s (cs.set k b):=by unfold u8s;rw[List.map_set]
theorem ZFQ:s2b (strv s) H=some (.slice (some ⟨H.length,0,none⟩) s.length s.length,H++[.cells (u8s s) 1 true false]):=by
 unfold s2b strv Zjf;simp[ByteArray.size]
theorem Zs5 {v:Value} {q:List Nat} (hs:s.length<=1000000):∀ (t k:Nat) (cs:List UInt8) (X:Zd),s.length - k=t->k<=s.length->cs.length=s.length->cs.take k=(s.take k).map Zev->cs.drop k=s.drop k->Zu X v (u8s cs) q->
  ∃ X',Zi (c4 (Wy.l1 (R n))) [v,v,iv s.length,iv k] X=some (.ext 0 [v],X')/\Zu X' v (u8s (QM s)) q/\Zr q X q X'
 | 0,k,cs,X,ht,hk,hl,h1,h2,hr=>by
  have:k=s.length:=by omega
  subst this;have:cs=QM s:=by
   rw[List.take_of_length_le (by omega),List.take_of_length_le (by omega)] at h1;exact h1
  subst this;refine⟨X,Qq ?_,hr,.refl _ _⟩;rw[ZM];unfold Wy.l1;rw[Za Zt,Zb,if_neg (by simp)];rfl
 | t+1,k,cs,X,ht,hk,hl,h1,h2,hr=>by
  have hkl:k < s.length:=by omega
  have hlt:(k:Int) < s.length:=by omega
  have hg:=List.getElem?_eq_getElem hkl;have htk:=List.take_succ_eq_append_getElem hkl;have hdk:=List.drop_eq_getElem_cons hkl;generalize s[k]=b at hg htk hdk;have hgc:cs[k]?=some b:=by
   have h3:(cs.drop k)[0]?=(s.drop k)[0]?:=by rw[h2]
   simpa[hg] using h3
  have hul:(u8s cs).length=s.length:=by rw[Kp,hl]
  have x1:=hr.ix (i:=k) (by omega) .i64 X;have x2:=hr.ldx (ZEQ hgc);have hd1:cs.drop (k+1)=s.drop (k+1):=by rw[<- List.drop_drop,h2,List.drop_drop]
  have htc:cs.take (k+1)=cs.take k++[b]:=by
   have:=List.take_succ_eq_append_getElem (show k < cs.length by omega);rw[this,(List.getElem?_eq_some_iff.1 hgc).2]
  have hpk:∀ (K:Value->M Out),bind (bop .int .geq (u8v b) (Value.int .u8 65)) (fun v16x6=>bind (gate v16x6 true 2 (bind (bop .int .leq (u8v b) (Value.int .u8 90)) fun v19x7=>ret [u8v b,v19x7])) (c2 fun _ q8_1=>bind (pick v16x6 q8_1 (Value.bool false)) K)) X=K (.bool (decide (65<=b.toNat) && decide (b.toNat<=90))) X:=fun K=>by
   have e1:decide ((b.toNat:Int)≥65)=decide (65<=b.toNat):=by rw[decide_eq_decide];omega
   have e2:decide ((b.toNat:Int)<=90)=decide (b.toNat<=90):=by rw[decide_eq_decide];omega
   rw[Za Qo,e1];cases decide (65<=b.toNat)
   .rw[Za (g_r.trans (if_neg (by simp)))];simp only[List.replicate];rw[Qv,Za Zl];rfl
   .rw[Z0,Zk,Za Jj,Qe,Qv,Za Zl,e2];rfl
  cases hup:(decide (65<=b.toNat) && decide (b.toNat<=90))
  .have hfb:Zev b=b:=by unfold Zev;rw[hup];rfl
   rw[hup] at hpk;obtain⟨X',e,r',s'⟩:=Zs5 hs t (k+1) cs X (by omega) (by omega) hl (by rw[htc,h1,htk,List.map_append,List.map_singleton,hfb]) hd1 hr;refine⟨X',(ZU ?_).trans e,r',s'⟩;rw[ZM];unfold Wy.l1;rw[Za Zt,Zb,if_pos (by simpa using hlt),Za x1,Za x2];refine(hpk _).trans ?_;refine(ZJ (vs:=[v,v,iv s.length,iv k]) (H':=X) ?_).trans ?_
   .rw[Zb,if_neg (by simp)];rfl
   .rw[ZM,Za ZI,JX (by omega)];rfl
  .have hfu:=ZBy b hup;rw[hup] at hpk;obtain⟨X1,x3,r1,s1,_⟩:=hr.stx (i:=k) (u:=u8v (Zev b)) (by omega) rfl;rw[ZDf] at r1;obtain⟨X',e,r',s'⟩:=Zs5 hs t (k+1) (cs.set k (Zev b)) X1 (by omega) (by omega) (by simpa using hl) (by
    have h5:k < (cs.set k (Zev b)).length:=by simp;omega
    rw[List.take_succ_eq_append_getElem h5,List.take_set_of_le (Nat.le_refl _),h1,htk,List.map_append];simp) (by rw[List.drop_set_of_lt (by omega)];exact hd1) r1
   refine⟨X',(ZU ?_).trans e,r',s1.trans s'⟩;rw[ZM];unfold Wy.l1;rw[Za Zt,Zb,if_pos (by simpa using hlt),Za x1,Za x2];refine(hpk _).trans ?_;refine(ZJ (vs:=[v,v,iv s.length,iv k]) (H':=X1) ?_).trans ?_
   .rw[Zb,if_pos rfl,Za ZI,Za Q1,hfu,Za x1,Za x3];rfl
   .rw[ZM,Za ZI,JX (by omega)];rfl
theorem ZFs (hs:s.length<=1000000):∃ H',R (n+1) Ze3 [strv s] H=some (strv (QM s),H')/\HLe H H':=by
 have e1:=ZFQ (s:=s) (H:=H);have k1:HLe H (H++[.cells (u8s s) 1 true false]):=.app _ _;have r1:Zu (H++[.cells (u8s s) 1 true false]) (.slice (some ⟨H.length,0,none⟩) s.length s.length) (u8s s) [H.length]:=.inr ⟨H.length,[],true,by rw[Kp];rfl,rfl,by rw[Zo,List.append_nil]⟩;have hnl:∀ j∈[H.length],H.length<=j:=by simp
 generalize H++[Ze.cells (u8s s) 1 true false]=H1 at e1 k1 r1;obtain⟨H2,e2,r2,s2⟩:=Zs5 (n:=n) hs s.length 0 s H1 (by omega) (by omega) rfl rfl rfl r1;have e2:Zi (c4 (Wy.l1 (R n))) [.slice (some ⟨H.length,0,none⟩) s.length s.length,.slice (some ⟨H.length,0,none⟩) s.length s.length,iv s.length,.int .i64 0] H1=_:=e2;refine⟨H2,?_,(k1.more s2 hnl).1⟩;rw[R,ZvH rfl];unfold Wy;have hl:ZC (.slice (some ⟨H.length,0,none⟩) s.length s.length) H1=some (iv s.length,H1):=rfl;rw[Za e1,Za hl,Q4 e2,ZP,J1,Za (ZFH r2.rd)];rfl
theorem ZCU {i:Nat} (hi:i<=s.length):sls (strv s) (some (iv i)) none H=some (strv (s.drop i),H):=by
 have h1:(⟨s.toArray⟩:ByteArray).size=s.length:=by simp[ByteArray.size]
 have h2:(⟨s.toArray⟩:ByteArray).extract i s.length=⟨(s.drop i).toArray⟩:=by
  apply ByteArray.ext
  rw[ByteArray.data_extract];simp[List.take_of_length_le]
 have hb:∀ k:Nat,∀ d,bnd (some (iv k)) d=some k:=fun k d=>by simp[bnd]
 have hb0:∀ d,bnd none d=some d:=fun _=>rfl;unfold strv sls;simp only[h1,hb,hb0];rw[if_pos ⟨hi,Nat.le_refl _⟩,h2]
end
def Q6 (c:UInt8):List UInt8->List (List UInt8)
 | []=>[[]]
 | b :: l=>if b=c then[] :: Q6 c l else match Q6 c l with
  | h :: t=>(b :: h) :: t
  | []=>[[b]]
theorem Ztp {c:UInt8}:∀ {s:List UInt8},Q6 c s≠[]
 | []=>by simp[Q6]
 | b :: s=>by
  unfold Q6;split
  .simp
  .split<;>simp
theorem Zr6 {c:UInt8}:∀ {s:List UInt8},c∉s->Q6 c s=[s]
 | [],_=>rfl
 | b :: s,h=>by
  simp only[List.mem_cons,not_or] at h;unfold Q6;rw[if_neg (Ne.symm h.1),Zr6 h.2]
theorem Zl4 {c:UInt8}:∀ {s:List UInt8},c∈s->Q6 c s=s.takeWhile (· !=c) :: Q6 c (s.drop ((s.takeWhile (· !=c)).length+1))
 | [],h=>by cases h
 | b :: s,h=>by
  rw[show Q6 c (b :: s)=(if b=c then[] :: Q6 c s else match Q6 c s with|h :: t=>(b :: h) :: t|[]=>[[b]]) from rfl];by_cases hb:b=c
  .subst hb;rw[if_pos rfl];simp
  .rw[if_neg hb];have hm:c∈s:=by
    rcases List.mem_cons.1 h with h|h
    .exact absurd h.symm hb
    .exact h
   rw[Zl4 hm];have h2:(b !=c)=true:=by simp[hb]
   simp[List.takeWhile_cons,h2]
theorem ZeP {c:UInt8}:∀ {s:List UInt8},(Q6 c s).length=s.count c+1
 | []=>rfl
 | b :: s=>by
  have ih:=ZeP (c:=c) (s:=s);unfold Q6;by_cases hb:b=c
  .subst hb;rw[if_pos rfl,List.length_cons,ih,List.count_cons_self]
  .rw[if_neg hb,List.count_cons_of_ne (by simpa using hb)];cases h:Q6 c s with
   | nil=>exact absurd h Ztp
   | cons a t=>rw[h] at ih;simpa using ih
theorem ZCa {c:UInt8}:∀ {s:List UInt8},c∈s->s.count c=(s.drop ((s.takeWhile (· !=c)).length+1)).count c+1:=by
 intro s h;have h1:=ZeP (c:=c) (s:=s);rw[Zl4 h,List.length_cons,ZeP] at h1;omega
def Zsl (l:List UInt8):Bool:=!(l==[]) && l.all Zf7
def Zbo (f:List UInt8):List UInt8:=if 64∈f then f.drop ((f.takeWhile (· !=64)).length+1) else[]
def okM (f:List UInt8):Bool:=decide (64∈f) && (Zw (f.takeWhile (· !=64)) && (decide (2<=(Q6 46 (Zbo f)).length) && (Q6 46 (Zbo f)).all Zsl))
def Yn (s:List UInt8):Bool:=decide (s.length<=20) && okM (QM s)
section
variable {H X:Zd} {n:Nat} {s:List UInt8} {c:UInt8}
theorem ZDw {args:List Value}:run Tryz.prog np lvs (n+1) Yp args=ZkM args:=Zay (show np Yp=some ZkM from rfl)
theorem ZC0 {args:List Value}:run Tryz.prog np lvs (n+1) Y9 args=Zkq args:=Zay (show np Y9=some Zkq from rfl)
theorem ZwE:R (n+3) Q8 [strv s,strv [c]] H=some (iv (Go.Lib.indexByte s c),H):=by
 have e1:run Tryz.prog np lvs (n+2) JW [strv s,u8v c] H=some (iv (Go.Lib.indexByte s c),H):=by
  have e0:run Tryz.prog np lvs (n+1) Yp [strv s,u8v c] H=some (iv (Go.Lib.indexByte s c),H):=by rw[ZDw];exact ZEO
  rw[ZdU rfl];unfold K1;rw[Za e0];rfl
 have q0:bop .int .eql (iv [c].length) (.int .i64 0) H=some (.bool false,H):=by rw[ZE];rfl
 have q1:bop .int .eql (iv [c].length) (.int .i64 1) H=some (.bool true,H):=by rw[ZE];rfl
 have x1:ixs (strv [c]) (.int .i64 0) H=some (u8v c,H):=ZrK (s:=[c]) (i:=0) rfl .i64 H;rw[R,ZfP rfl];unfold Yv;rw[Za Z9,Za q0,Z0,Zk,Za Zix,Qe,ZV,Za Zl];simp only[cond_false];by_cases h:s=[c]
 .subst h;rw[Zb,if_pos (by simp)];unfold Go.Lib.indexByte;simp[ret]
 .rw[Zb,if_neg (by simp;exact fun e=>h e.symm),Za q1,Zb,if_pos rfl,Za x1,Za e1];rfl
theorem ZBo:R (n+4) Zao [strv s,strv [c]] H=some (iv (Go.Lib.indexByte s c),H):=by
 have e1:run Tryz.prog np lvs (n+3) Q8 [strv s,strv [c]] H=_:=ZwE;rw[R,ZpX rfl];unfold ZfD;rw[Za e1];rfl
theorem ZDn:R (n+2) ZbI [strv s,strv [c]] H=some (iv (s.count c),H):=by
 have e0:run Tryz.prog np lvs (n+1) Y9 [strv s,u8v c] H=some (iv (s.count c),H):=by rw[ZC0];exact ZFg
 have q0:bop .int .eql (iv [c].length) (.int .i64 0) H=some (.bool false,H):=by rw[ZE];rfl
 have q1:bop .int .eql (iv [c].length) (.int .i64 1) H=some (.bool true,H):=by rw[ZE];rfl
 have x1:ixs (strv [c]) (.int .i64 0) H=some (u8v c,H):=ZrK (s:=[c]) (i:=0) rfl .i64 H;rw[R,Zqm rfl];unfold ZbL;rw[Za Z9,Za q0,Zb,if_neg (by simp),Za Z9,Za q1,Zb,if_pos rfl,Za x1,Za e0];rfl
theorem ZAk {s:List UInt8} {c:UInt8} (h:c∈s):(s.takeWhile (· !=c)).length < s.length:=by
 rcases Nat.lt_or_ge (s.takeWhile (· !=c)).length s.length with h1|h1
 .exact h1
 .have h2:s.takeWhile (· !=c)=s:=by
   have:=List.takeWhile_prefix (p:=(· !=c)) (l:=s);exact this.eq_of_length (by have:=this.length_le;omega)
  have h3:=List.all_eq_true.1 (List.all_takeWhile (p:=(· !=c)) (l:=s)) c (by rw[h2];exact h);simp at h3
theorem ZxW {s:List UInt8} {p:UInt8->Bool}:s.take (s.takeWhile p).length=s.takeWhile p:=
 (List.prefix_iff_eq_take.1 (List.takeWhile_prefix p)).symm
theorem ZFR (hs:s.length<=1000000):R (n+5) Zax [strv s,strv [c]] H=some (if c∈s then .tuple #[strv (s.takeWhile (· !=c)),strv (s.drop ((s.takeWhile (· !=c)).length+1)),.bool true] else .tuple #[strv s,strv [],.bool false],H):=by
 have e1:run Tryz.prog np lvs (n+3) Q8 [strv s,strv [c]] H=_:=ZwE;have e2:run Tryz.prog np lvs (n+4) KP [strv s,strv [c]] H=some (if c∈s then .tuple #[strv (s.takeWhile (· !=c)),strv (s.drop ((s.takeWhile (· !=c)).length+1)),.bool true] else .tuple #[strv s,strv [],.bool false],H):=by
  rw[ZgL rfl];unfold ZaB;rw[Za e1,ZfF,Za Qo,Zb];by_cases h:c∈s
  .have hl:=ZAk h;have w:IntKind.i64.wrap (((s.takeWhile (· !=c)).length:Int)+(([c]:List UInt8).length:Nat))=(((s.takeWhile (· !=c)).length+1:Nat):Int):=JX (by omega);rw[if_pos h,if_pos (by simp),Za (ZuR (by omega)),ZxW,Za Z9,Za ZI,w,Za (ZCU (by omega)),if_pos h];rfl
  .rw[if_neg h,if_neg (by decide),if_neg h];rfl
 rw[R,Ztd rfl];unfold ZhE;rw[Za e2];by_cases h:c∈s
 .rw[if_pos h];rfl
 .rw[if_neg h];rfl
theorem Zvz {v:Value} {q:List Nat} {N:Nat} (hN:N<=1000001):∀ (t i:Nat) (s:List UInt8) (cs:List (List UInt8)) (X:Zd),N - 1 - i=t->i < N->s.length<=1000000->s.count c+1+i=N->cs.length=N->Zu X v (cs.map strv) q->
  ∃ (X':Zd) (s':List UInt8) (cs':List (List UInt8)),Zi (c6 (J6.l1 (R (n+4)))) [strv s,strv [c],iv 0,iv ((N - 1:Nat):Int),v,iv i] X=some (.ext 0 [strv s',v,iv ((N - 1:Nat):Int)],X')/\Zu X' v (cs'.map strv) q/\cs'.length=N/\cs'.take (N - 1)++[s']=cs.take i++Q6 c s/\Zr q X q X'
 | 0,i,s,cs,X,ht,hi,hs,hc,hl,hr=>by
  have hi2:i=N - 1:=by omega
  subst hi2;have hcs:c∉s:=by
   intro h;have:=List.count_pos_iff.2 h;omega
  refine⟨X,s,cs,Qq ?_,hr,hl,by rw[Zr6 hcs],.refl _ _⟩;rw[YN];unfold J6.l1;rw[Za Zt,Zb,if_neg (by simp)];rfl
 | t+1,i,s,cs,X,ht,hi,hs,hc,hl,hr=>by
  have hlt:(i:Int) < ((N - 1:Nat):Int):=by omega
  have hcs:c∈s:=List.count_pos_iff.1 (by omega);have htl:=ZAk hcs;have hct:=ZCa hcs;have e1:R (n+4) Zao [strv s,strv [c]] X=_:=ZBo;rw[ZfF,if_pos hcs] at e1;have w0:IntKind.i64.wrap (((s.takeWhile (· !=c)).length:Int)+0)=((s.takeWhile (· !=c)).length:Int):=by rw[Int.add_zero];exact w64 (by omega) (by omega)
  have w:IntKind.i64.wrap (((s.takeWhile (· !=c)).length:Int)+(([c]:List UInt8).length:Nat))=(((s.takeWhile (· !=c)).length+1:Nat):Int):=JX (by omega);have x1:=hr.ix (i:=i) (by simp;omega) .i64 X;obtain⟨X1,x2,r1,s1,_⟩:=hr.stx (i:=i) (u:=strv (s.takeWhile (· !=c))) (by simp;omega) rfl;rw[show(cs.map strv).set i (strv (s.takeWhile (· !=c)))=(cs.set i (s.takeWhile (· !=c))).map strv from by rw[List.map_set]] at r1;obtain⟨X',s',cs',e2,r2,l2,h2,s2⟩:=Zvz hN t (i+1) (s.drop ((s.takeWhile (· !=c)).length+1)) (cs.set i (s.takeWhile (· !=c))) X1 (by omega) (by omega) (by simp;omega) (by omega) (by simpa using hl) r1;refine⟨X',s',cs',(ZU ?_).trans e2,r2,l2,?_,s1.trans s2⟩
  .have q1:bop .int .lss (iv ((s.takeWhile (· !=c)).length:Nat)) (.int .i64 0) X=some (.bool false,X):=by rw[Zt,decide_eq_false (by omega)]
   rw[YN];unfold J6.l1;rw[Za Zt,Zb,if_pos (by simpa using hlt),Za e1,Za q1,Zb,if_neg (by simp),Za ZI,w0,Za (ZuR (by omega)),ZxW,Za x1,Za x2,Za Z9,Za ZI,w,Za (ZCU (by omega)),Za ZI,JX (by omega)];rfl
  .have h5:i < (cs.set i (s.takeWhile (· !=c))).length:=by simp;omega
   rw[h2,Zl4 hcs,List.take_succ_eq_append_getElem h5,List.take_set_of_le (Nat.le_refl _)];simp
theorem ZDP (hs:s.length<=1000000):∃ X' v q,R (n+6) ZbJ [strv s,strv [c]] X=some (v,X')/\Zu X' v ((Q6 c s).map strv) q/\HLe X X':=by
 have hcl:s.count c<=s.length:=List.count_le_length;have e0:run Tryz.prog np lvs (n+4) ZbI [strv s,strv [c]] X=_:=ZDn (n:=n+2);have w1:IntKind.i64.wrap ((s.count c:Int)+1)=((s.count c+1:Nat):Int):=JX (by omega);have w2:IntKind.i64.wrap ((s.length:Int)+1)=((s.length+1:Nat):Int):=JX (by omega);have q0:bop .int .eql (.int .i64 (-1)) (.int .i64 0) X=some (.bool false,X):=by rw[ZE];rfl
 have q1:bop .str .eql (strv [c]) (.string ⟨#[]⟩) X=some (.bool false,X):=Zix (b:=[]);have q2:bop .int .lss (.int .i64 (-1)) (.int .i64 0) X=some (.bool true,X):=by rw[Zt];rfl
 have hm:mxi false (iv ((s.count c+1:Nat):Int)) (iv ((s.length+1:Nat):Int)) X=some (iv ((s.count c+1:Nat):Int),X):=by rw[YB,if_neg (by omega)]
 have e1:=ZFW (k:=s.count c+1) (b:=16) (z:=.string ⟨#[]⟩) (H:=X) rfl (by omega) (by omega);have k1:HLe X (X++[.cells (List.replicate (s.count c+1) (Value.string ⟨#[]⟩)) 1 false false]):=.app _ _;have r1:Zu (X++[.cells (List.replicate (s.count c+1) (Value.string ⟨#[]⟩)) 1 false false]) (.slice (some ⟨X.length,0,none⟩) (s.count c+1) (s.count c+1)) ((List.replicate (s.count c+1) ([]:List UInt8)).map strv) [X.length]:=by
  rw[List.map_replicate];exact Zu.new Zo
 have ho:∀ j∈[X.length],X.length<=j:=by simp
 generalize X++[Ze.cells (List.replicate (s.count c+1) (Value.string ⟨#[]⟩)) 1 false false]=X1 at e1 k1 r1;generalize hv:Value.slice (some ⟨X.length,0,none⟩) (s.count c+1) (s.count c+1)=v at e1 r1;have w3:IntKind.i64.wrap (((s.count c+1:Nat):Int) - 1)=((s.count c+1 - 1:Nat):Int):=ZCX (by omega) (by omega);obtain⟨X2,s',cs',e2,r2,l2,h2,s2⟩:=Zvz (n:=n) (c:=c) (N:=s.count c+1) (by omega) (s.count c+1 - 1 - 0) 0 s _ X1 rfl (by omega) hs (by omega) (by simp) r1;have e2:Zi (c6 (J6.l1 (R (n+4)))) [strv s,strv [c],.int .i64 0,iv ((s.count c+1 - 1:Nat):Int),v,.int .i64 0] X1=_:=e2;have x1:=r2.ix (i:=s.count c+1 - 1) (by simp;omega) .i64 X2;obtain⟨X3,x2,r3,s3,_⟩:=r2.stx (i:=s.count c+1 - 1) (u:=strv s') (by simp;omega) rfl;have hfin:(cs'.set (s.count c+1 - 1) s')=Q6 c s:=by
  have h6:s.count c+1 - 1 < cs'.length:=by omega
  rw[<- List.take_append_drop (s.count c+1 - 1) (cs'.set (s.count c+1 - 1) s'),List.take_set_of_le (Nat.le_refl _),List.drop_set];rw[if_neg (by omega),Nat.sub_self];have hd:(cs'.drop (s.count c+1 - 1)).length=1:=by simp;omega
  obtain⟨a,ha⟩:=List.length_eq_one_iff.1 hd;rw[ha,List.set_cons_zero,h2];rfl
 rw[show(cs'.map strv).set (s.count c+1 - 1) (strv s')=(cs'.set (s.count c+1 - 1) s').map strv from by rw[List.map_set],hfin] at r3;have hlen:((Q6 c s).map strv).length=s.count c+1:=by rw[List.length_map,ZeP]
 have x3:∃ v',slv 1 v none (some (iv ((s.count c+1:Nat):Int))) none X3=some (v',X3)/\Zu X3 v' ((Q6 c s).map strv) [X.length]:=by
  rcases r3 with⟨h,_,_⟩|⟨sid,rest,g,h1,h3,h4⟩
  .rw[h] at hlen;simp at hlen
  .rw[hlen] at h1;refine⟨.slice (some ⟨sid,0,none⟩) (s.count c+1) (s.count c+1+rest.length),?_,.inr ⟨sid,rest,g,by rw[hlen],h3,h4⟩⟩;have b1:bnd (some (iv ((s.count c+1:Nat):Int))) (s.count c+1)=some (s.count c+1):=by simp[bnd];omega
   have b2:∀ d,bnd none d=some d:=fun _=>rfl;rw[h1];simp only[slv,h4,b1,b2];rw[if_pos ⟨trivial,by omega,by omega,Nat.le_refl _⟩,if_neg (by omega)];simp
 obtain⟨v',x3,r4⟩:=x3;have w4:IntKind.i64.wrap (((s.count c+1 - 1:Nat):Int)+1)=((s.count c+1:Nat):Int):=by rw[JX (by omega)];congr 1
 have e3:run Tryz.prog np lvs (n+5) ZbA [strv s,strv [c],.int .i64 0,.int .i64 (-1)] X=some (v',X3):=by
  rw[Zlg rfl];unfold J6;rw[Za q0,Zb,if_neg (by simp),Za q1,Zb,if_neg (by simp),Za q2];refine(ZJ (vs:=[strv s,strv [c],.int .i64 0,iv ((s.count c+1:Nat):Int)]) (H':=X) ?_).trans ?_
  .rw[Zb,if_pos rfl,Za e0,Za ZI,w1];rfl
  .rw[ZM,Za Z9,Za ZI,w2,Za hm,Za e1,Za Q1,w3];refine(ZJ (vs:=[strv s',v,iv ((s.count c+1 - 1:Nat):Int)]) (H':=X2) ?_).trans ?_
   .rw[Q4 e2,ZP,ZV];rfl
   .rw[ZV,Za x1,Za x2,Za ZI,w4,Za x3];rfl
 refine⟨X3,v',[X.length],?_,r4,(k1.more (s2.trans s3) ho).1⟩;rw[R,Zql rfl];unfold ZfB;rw[Za e3];rfl
end
section
variable {H X:Zd} {n:Nat} {s f:List UInt8} {c:UInt8}
theorem ZC7 {b:UInt8}:R (n+2) ZdL [u8v b] H=some (.bool (Zf7 b),H):=by
 have e1:run Tryz.prog np lvs (n+1) YU [u8v b] H=some (.bool (Zal b),H):=Zku;have e2:run Tryz.prog np lvs (n+1) Ko [u8v b] H=some (.bool (ZcZ b),H):=ZnI;rw[R,Zuo rfl];unfold Zf7 Zjl;rw[Za e1];cases Zal b
 .rw[Z0,Zk,Za e2,Qe,Qv,Za Zl];rfl
 .rw[Za (g_r.trans (if_neg (by simp)))];simp only[List.replicate];rw[Qv,Za Zl];rfl
theorem ZzI (hs:s.length<=1000000000):R (n+3) Kh [strv s,.func (.func ZdL) #[] #[]] H=some (.bool (s.all Zf7),H):=
 ZyO (fun b H=>by rw[ZvL];exact ZC7) hs
theorem ZBc {v:Value} {q:List Nat} {ls:List (List UInt8)} (hl:ls.length<=1000) (hb:∀ l∈ls,l.length<=1000000) (hr:Zu X v (ls.map strv) q):∀ (t k:Nat),ls.length - k=t->k<=ls.length->
  Zi (c4 (Kq.l1 (R (n+3)))) [strv f,v,iv ls.length,iv k] X=some (if(ls.drop k).all Zsl then .ext 0 [strv f] else .ret (.tuple #[strv [],iv 11]),X)
 | 0,k,ht,hk=>by
  have:k=ls.length:=by omega
  subst this;rw[List.drop_length];refine Qq ?_;rw[ZM];unfold Kq.l1;rw[Za Zt,Zb,if_neg (by simp)];rfl
 | t+1,k,ht,hk=>by
  have hkl:k < ls.length:=by omega
  have hlt:(k:Int) < ls.length:=by omega
  have hg:=List.getElem?_eq_getElem hkl;have hm:=List.getElem_mem hkl;have hd:=List.drop_eq_getElem_cons hkl;generalize ls[k]=l at hg hd hm;have x1:=hr.ix (i:=k) (by simpa using hkl) .i64 X;have x2:=hr.ldx (WC hg);have e1:R (n+3) Kh [strv l,.func (.func ZdL) #[] #[]] X=some (.bool (l.all Zf7),X):=ZzI (Nat.le_trans (hb l hm) (by decide));have ih:=ZBc hl hb hr t (k+1) (by omega) (by omega);have q1:bop .str .eql (strv l) (.string ⟨#[]⟩) X=some (.bool (l==[]),X):=Zix (b:=[]);have hb1:c4 (Kq.l1 (R (n+3))) [strv f,v,iv ls.length,iv k] X=some (if Zsl l then .nrm [strv f,v,iv ls.length,iv ((k+1:Nat):Int)] else .ret (.tuple #[strv [],iv 11]),X):=by
   rw[ZM];unfold Kq.l1 Zsl;rw[Za Zt,Zb,if_pos (by simpa using hlt),Za x1,Za x2,Za q1];cases l==[]
   .rw[Z0,Zk,Za e1,Zk,Za ZL,Qe,ZV,Za Zl];simp only[cond_false];cases l.all Zf7
    .rw[Zb,if_pos (by rfl)];rfl
    .rw[Zb,if_neg (by simp),Za ZI,JX (by omega)];rfl
   .rw[Za (g_r.trans (if_neg (by simp)))];simp only[List.replicate];rw[ZV,Za Zl];simp only[cond_true];rw[Zb,if_pos rfl];rfl
  rw[hd,List.all_cons];cases hlb:Zsl l
  .rw[hlb] at hb1;exact YA hb1
  .rw[hlb] at hb1;rw[Bool.true_and];exact(ZU hb1).trans ih
theorem Zf2 {c:UInt8}:∀ {s:List UInt8},∀ l∈Q6 c s,l.length<=s.length
 | [],l,h=>by simp[Q6] at h;simp[h]
 | b :: s,l,h=>by
  rw[show Q6 c (b :: s)=(if b=c then[] :: Q6 c s else match Q6 c s with|h :: t=>(b :: h) :: t|[]=>[[b]]) from rfl] at h;split at h
  .rcases List.mem_cons.1 h with rfl|h
   .simp
   .have:=Zf2 l h;simp;omega
  .cases hsp:Q6 c s with
   | nil=>exact absurd hsp Ztp
   | cons a t=>
    rw[hsp] at h;rcases List.mem_cons.1 h with rfl|h
    .have:=Zf2 (c:=c) (s:=s) a (by rw[hsp];simp);simpa using this
    .have:=Zf2 (c:=c) (s:=s) l (by rw[hsp];simp[h]);simp;omega
theorem ZtT:(QM s).length=s.length:=by simp[QM]
theorem ZrP:∃ X',R (n+8) W4 [strv s] X=some (.tuple #[strv (if Yn s then QM s else[]),iv (if Yn s then 0 else 11)],X')/\HLe X X':=by
 have f1:∀ r X',Kq (R (n+7)) (strv s) X=some (r,X')->R (n+8) W4 [strv s] X=some (r,X'):=fun r X' hr=>by rw[R,Zwf rfl];exact hr
 unfold Yn;by_cases h20:s.length<=20
 .have q1:bop .int .gtr (iv s.length) (.int .i64 20) X=some (.bool false,X):=by rw[Qm,decide_eq_false (by omega)]
  obtain⟨X1,e1,k1⟩:=ZFs (n:=n+6) (s:=s) (H:=X) (by omega);have e1:R (n+7) Ze3 [strv s] X=_:=e1;have hfl:(QM s).length<=20:=by rw[ZtT];exact h20
  generalize QM s=f at e1 hfl;have e2:R (n+7) Zax [strv f,strv [64]] X1=_:=ZFR (n:=n+2) (c:=64) (by omega);obtain⟨loc,e2'⟩:∃ loc:List UInt8,R (n+7) Zax [strv f,strv [64]] X1=some (.tuple #[strv loc,strv (Zbo f),.bool (decide (64∈f))],X1)/\(64∈f->loc=f.takeWhile (· !=64)):=by
   unfold Zbo;by_cases h:64∈f
   .rw[if_pos h] at e2;exact⟨_,by rw[e2,if_pos h,decide_eq_true h],fun _=>rfl⟩
   .rw[if_neg h] at e2;exact⟨_,by rw[e2,if_neg h,decide_eq_false h],fun h2=>absurd h2 h⟩
  obtain⟨e2',hloc⟩:=e2';have hdl:(Zbo f).length<=20:=by unfold Zbo;split<;>simp;omega
  obtain⟨X2,v,q,e3,r3,k3⟩:=ZDP (n:=n+1) (c:=46) (s:=Zbo f) (X:=X1) (by omega);have e3:R (n+7) ZbJ [strv (Zbo f),.string ⟨#[46]⟩] X1=_:=e3;have e2'':R (n+7) Zax [strv f,.string ⟨#[64]⟩] X1=_:=e2';have hcl:(Zbo f).count 46<=(Zbo f).length:=List.count_le_length;have hsl:=ZeP (c:=46) (s:=Zbo f);have hl:ZC v X2=some (iv (Q6 46 (Zbo f)).length,X2):=by have:=r3.rd.len (H':=X2);rwa [List.length_map] at this
  have e4:R (n+7) Zaz [strv loc] X2=some (.bool (Zw loc),X2):=ZtK (n:=n+3);have e5:=ZBc (n:=n+4) (f:=f) (ls:=Q6 46 (Zbo f)) (by omega) (fun l h=>Nat.le_trans (Zf2 l h) (by omega)) r3 (Q6 46 (Zbo f)).length 0 (by omega) (by omega);rw[List.drop_zero] at e5;have e5:Zi (c4 (Kq.l1 (R (n+7)))) [strv f,v,iv (Q6 46 (Zbo f)).length,.int .i64 0] X2=_:=e5;refine⟨X2,f1 _ _ ?_,k1.trans k3⟩;unfold Kq;rw[Za Z9,Za q1,Zb,if_neg (by simp),Za e1,Za e2''];have t0:Zm (.tuple #[strv loc,strv (Zbo f),.bool (decide (64∈f))]) 0 X1=some (strv loc,X1):=rfl;have t1:Zm (.tuple #[strv loc,strv (Zbo f),.bool (decide (64∈f))]) 1 X1=some (strv (Zbo f),X1):=rfl;have t2:Zm (.tuple #[strv loc,strv (Zbo f),.bool (decide (64∈f))]) 2 X1=some (.bool (decide (64∈f)),X1):=rfl;rw[Za t0,Za t1,Za t2,Za e3,Za ZL];unfold okM;rw[decide_eq_true h20];by_cases h:64∈f
  .rw[decide_eq_true h,<- hloc h];simp only[Bool.not_true,Bool.true_and];rw[Z0,Zk,Za e4,Zk,Za ZL,Qe,ZV,Za Zl];simp only[cond_false];cases Zw loc
   .simp only[Bool.not_false,Bool.false_and];rw[Za (g_r.trans (if_neg (by simp)))];simp only[List.replicate];rw[ZV,Za Zl];simp only[cond_true];rw[Zb,if_pos rfl];rfl
   .simp only[Bool.not_true,Bool.true_and];rw[Z0,Zk,Za hl,Zk,Za Zt,Qe,ZV,Za Zl];simp only[cond_false];by_cases h2:2<=(Q6 46 (Zbo f)).length
    .rw[decide_eq_false (by omega),Zb,if_neg (by simp),Za hl,decide_eq_true h2,Bool.true_and];cases ha:(Q6 46 (Zbo f)).all Zsl
     .rw[ha] at e5;rw[KG e5];rfl
     .rw[ha] at e5;rw[Q4 e5,ZP];rfl
    .rw[decide_eq_true (by omega),Zb,if_pos rfl,decide_eq_false h2];rfl
  .rw[decide_eq_false h];simp only[Bool.not_false,Bool.false_and,Bool.and_false];rw[Za (g_r.trans (if_neg (by simp)))];simp only[List.replicate];rw[ZV,Za Zl];simp only[cond_true];rw[Za (g_r.trans (if_neg (by simp)))];simp only[List.replicate];rw[ZV,Za Zl];simp only[cond_true];rw[Zb,if_pos rfl];rfl
 .have q1:bop .int .gtr (iv s.length) (.int .i64 20) X=some (.bool true,X):=by rw[Qm,decide_eq_true (by omega)]
  refine⟨X,f1 _ _ ?_,.refl _⟩;unfold Kq;rw[Za Z9,Za q1,Zb,if_pos rfl,decide_eq_false h20];rfl
end
structure WK {α:Type} (enc:α->Value) (H:Zd) (id:Nat) (m:List (List UInt8 × α)):Prop where
 ex:∃ es clk,es.map kv=m.map (fun p=>(strv p.1,enc p.2))/\H[id]?=some (.map es clk)/\Zcg es clk
 nod:(m.map (·.1)).Nodup
section
variable {α:Type} {enc:α->Value} {H H':Zd} {id:Nat} {m:List (List UInt8 × α)} {k:List UInt8} {v:α} {z:Value}
theorem WK.g (h:WK enc H id m):JL enc H id m:=by
 obtain⟨es,clk,h1,h2,h3⟩:=h.ex;exact⟨⟨es,h1,.inl ⟨clk,h2,h3⟩⟩,h.nod⟩
theorem WK.lt (h:WK enc H id m):id < H.length:=h.g.lt
theorem WK.keep (h:WK enc H id m) (hk:H'[id]?=H[id]?):WK enc H' id m:=by
 obtain⟨es,clk,h1,h2,h3⟩:=h.ex;exact⟨⟨es,clk,h1,by rw[hk];exact h2,h3⟩,h.nod⟩
theorem WK.hle (h:WK enc H id m) (hl:HLe H H'):WK enc H' id m:=h.keep (hl.step.keep id h.lt (by simp))
theorem WK.step {o1 o2:List Nat} (h:WK enc H id m) (hs:Zr o1 H o2 H') (hn:id∉o1):WK enc H' id m:=h.keep (hs.keep id h.lt hn)
theorem ZCP (H:Zd):∃ H',mkm H=some (.map (some H.length),H')/\WK enc H' H.length ([]:List (List UInt8 × α))/\HLe H H'/\H'.length=H.length+1:=
 ⟨_,rfl,⟨⟨[],0,rfl,Zo,⟨by simp,by simp⟩⟩,by simp⟩,.app _ _,by simp⟩
theorem WK.clone (h:WK enc H id m):∃ H',Za1 [.map (some id)] H=some (.map (some H.length),H')/\WK enc H' H.length m/\HLe H H'/\H'.length=H.length+1:=by
 obtain⟨es,clk,h1,h2,h3⟩:=h.ex;exact⟨_,by unfold Za1;simp only[h2],⟨⟨es,clk,h1,Zo,h3⟩,h.nod⟩,.app _ _,by simp⟩
theorem WK.mde (h:WK enc H id m):∃ H',A.mde .str (.map (some id)) (strv k) H=some (.tuple #[],H')/\WK enc H' id (Ys k m)/\Zr [id] H [id] H'/\H'.length=H.length:=by
 obtain⟨es,clk,h1,h2,hs⟩:=h.ex;have hst:∀ o,Zr [id] H [id] (H.set id o):=fun o=>⟨by simp,fun j hj hn=>List.getElem?_set_ne (fun e=>hn (by simp[e])),fun j hj=>.inl hj⟩;have hnod:=ZqP (k:=k) h.nod;rcases Zhv (k:=k) 0 h1 with⟨h3,h4⟩|⟨j,v0,h3,h4,h5⟩
 .refine⟨H,?_,by rw[Zts h3];exact h,.refl _ _,rfl⟩;unfold A.mde;simp only[h2,Zaq,cond_true,h4]
 .have ha:Ys k m=m.eraseIdx j:=(ZeU h.nod h3).symm;rw[ha] at hnod ⊢;rw[Nat.zero_add] at h5;have hm:(es.eraseIdx j).map kv=(m.eraseIdx j).map fun p=>(strv p.1,enc p.2):=by
   have hg:∀ {β γ:Type} (f:β->γ) (l:List β) (j:Nat),(l.eraseIdx j).map f=(l.map f).eraseIdx j:=fun f l j=>by
    rw[List.eraseIdx_eq_take_drop_succ,List.eraseIdx_eq_take_drop_succ,List.map_append,List.map_take,List.map_drop]
   rw[hg,hg,h1]
  refine⟨H.set id (.map (es.eraseIdx j) clk),?_,⟨⟨_,clk,hm,ZW h2,⟨fun e he=>hs.lt e ((List.eraseIdx_sublist es j).subset he),((List.eraseIdx_sublist es j).map _).nodup hs.nod⟩⟩,hnod⟩,hst _,by simp⟩;unfold A.mde;simp only[h2,Zaq,cond_true,h5]
theorem Zk6 {es:List (Value × Value × Nat)} {j:Nat} {e:Value × Value × Nat} (hn:(es.map (·.2.2)).Nodup) (hj:es[j]?=some e):es.findIdx? (fun x=>(x.2.2:Int)==(e.2.2:Nat))=some j:=by
 rw[List.findIdx?_eq_some_iff_getElem];have hlt:=(List.getElem?_eq_some_iff.1 hj).1;have he:=(List.getElem?_eq_some_iff.1 hj).2;refine⟨hlt,by rw[he];simp,fun i hi=>?_⟩;have hil:i < es.length:=by omega
 simp only[Bool.not_eq_true,beq_eq_false_iff_ne,ne_eq];intro h;have h2:es[i].2.2=e.2.2:=by omega
 have hp:=List.pairwise_iff_getElem.1 (List.nodup_iff_pairwise_ne.1 hn) i j (by simpa using hil) (by simpa using hlt) hi;rw[List.getElem_map,List.getElem_map,he] at hp;exact hp h2
theorem WK.put (h:WK enc H id m):∃ t st H1 H2,men .str z (.map (some id)) (strv k) H=some (t,H1)/\Zm t 1 H1=some (st,H1)/\ens (.map (some id)) st (enc v) H1=some (undef,H2)/\WK enc H2 id (Qs k v m)/\Zr [id] H [id] H1/\Zr [id] H [id] H2/\H2.length=H.length:=by
 obtain⟨es,clk,h1,h2,hs⟩:=h.ex;have hst:∀ o,Zr [id] H [id] (H.set id o):=fun o=>⟨by simp,fun j hj hn=>List.getElem?_set_ne (fun e=>hn (by simp[e])),fun j hj=>.inl hj⟩;have hst2:∀ o o',Zr [id] H [id] ((H.set id o).set id o'):=fun o o'=>⟨by simp,fun j hj hn=>by rw[List.getElem?_set_ne (fun e=>hn (by simp[e])),List.getElem?_set_ne (fun e=>hn (by simp[e]))],fun j hj=>.inl hj⟩;have hnod:=Zqs (k:=k) (v:=v) h.nod;rcases Zhv (k:=k) 0 h1 with⟨h3,h4⟩|⟨j,v0,h3,h4,h5⟩
 .have ha:Qs k v m=m++[(k,v)]:=by unfold Qs;rw[h3];rfl
  rw[ha] at hnod ⊢;have hS:Zcg (es++[(strv k,z,clk)]) (clk+1):=⟨fun e he=>by
   rcases List.mem_append.1 he with he|he
   .have:=hs.lt e he;omega
   .have:e=(strv k,z,clk):=by simpa using he
    rw[this];exact Nat.lt_succ_self _,by
   rw[List.map_append,List.nodup_append];refine⟨hs.nod,by simp,fun a ha b hb=>?_⟩;have hb:b=clk:=by simpa using hb
   obtain⟨e,he,rfl⟩:=List.mem_map.1 ha;have:=hs.lt e he;omega⟩
  have hlen:es.length=m.length:=by have:=congrArg List.length h1;simpa using this
  have hget:(es++[(strv k,z,clk)])[es.length]?=some (strv k,z,clk):=by simp
  have hfi:=Zk6 hS.nod hget;have hgk:((es++[(strv k,z,clk)]).map kv)[es.length]?=some (strv k,z):=by rw[List.getElem?_map,hget];rfl
  refine⟨.tuple #[z,.int .i64 (clk:Nat)],.int .i64 (clk:Nat),H.set id (.map (es++[(strv k,z,clk)]) (clk+1)),(H.set id (.map (es++[(strv k,z,clk)]) (clk+1))).set id (.map (YJ (es++[(strv k,z,clk)]) es.length (enc v)) (clk+1)),?_,rfl,?_,⟨⟨_,clk+1,?_,ZW (ZW h2),ZnH hS⟩,hnod⟩,hst _,hst2 _ _,by simp⟩
  .unfold men;simp only[h2,Zaq,cond_true,h4]
  .unfold ens;simp only[ZW h2,hfi]
  .rw[Zkb hgk,List.map_append,h1,List.map_append];have:es.length=(m.map fun p=>(strv p.1,enc p.2)).length:=by rw[List.length_map,hlen]
   rw[this];simp[kv]
 .have ha:Qs k v m=m.set j (k,v):=by unfold Qs;rw[h4];exact(ZkC h.nod h3).symm
  rw[ha] at hnod ⊢;rw[Nat.zero_add] at h5;have hget:(es.map kv)[j]?=some (strv k,enc v0):=by rw[h1,List.getElem?_map,h3];rfl
  obtain⟨e,he,hek⟩:∃ e,es[j]?=some e/\kv e=(strv k,enc v0):=by
   rw[List.getElem?_map] at hget;cases hh:es[j]? with
   | none=>rw[hh] at hget;cases hget
   | some e=>rw[hh] at hget;exact⟨e,rfl,by simpa using hget⟩
  have hfi:=Zk6 hs.nod he;have hgd:(es.getD j (undef,undef,0)).2.2=e.2.2:=by rw[List.getD_eq_getElem?_getD,he];rfl
  refine⟨.tuple #[enc v0,.int .i64 (e.2.2:Nat)],.int .i64 (e.2.2:Nat),H,H.set id (.map (YJ es j (enc v)) clk),?_,rfl,?_,⟨⟨_,clk,?_,ZW h2,ZnH hs⟩,hnod⟩,.refl _ _,hst _,by simp⟩
  .unfold men;simp only[h2,Zaq,cond_true,h5,hgd]
  .unfold ens;simp only[h2,hfi]
  .rw[Zkb hget,h1,List.map_set]
end
structure Inv (OW OF:Qw):Prop where
 inv:∀ k v,Zf k OF=some v↔Zf v OW=some k
 same:OW.length=OF.length
 lens:∀ p∈OF,p.1≠[]/\p.1.length<=12/\p.2≠[]/\p.2.length<=20
def Zb6 (k:List UInt8) (OW OF:Qw):Qw:=match Zf k OF with
 | some m=>Ys m OW
 | none=>OW
def WI (k:List UInt8) (OF:Qw):Qw:=match Zf k OF with
 | some _=>Ys k OF
 | none=>OF
section
variable {OW OF:Qw} {k f:List UInt8}
theorem Inv.drop (h:Inv OW OF) (n1:(OW.map (·.1)).Nodup) (n2:(OF.map (·.1)).Nodup):Inv (Zb6 k OW OF) (WI k OF):=by
 unfold Zb6 WI;cases hk:Zf k OF with
 | none=>exact h
 | some m=>
  have hm:=(h.inv k m).1 hk;refine⟨fun j v=>?_,?_,fun p hp=>h.lens p (List.mem_filter.1 hp).1⟩
  .by_cases hj:j=k
   .subst hj;rw[ZbZ];constructor
    .intro e;cases e
    .intro e;by_cases hv:v=m
     .subst hv;rw[ZbZ] at e;cases e
     .rw[Yd hv,<- h.inv] at e;rw[hk] at e;exact absurd (Option.some.inj e).symm hv
   .rw[Yd hj];by_cases hv:v=m
    .subst hv;rw[ZbZ,h.inv,hm];constructor
     .intro e;exact absurd (Option.some.inj e).symm hj
     .intro e;cases e
    .rw[Yd hv,h.inv]
  .rw[Zqn n1 (by rw[hm];rfl),Zqn n2 (by rw[hk];rfl),h.same]
theorem Inv.put (h:Inv OW OF) (h1:Zf f OW=none) (h2:Zf k OF=none) (hk:k≠[]/\k.length<=12) (hf:f≠[]/\f.length<=20):Inv (Qs f k OW) (Qs k f OF):=by
 refine⟨fun j v=>?_,?_,fun p hp=>?_⟩
 .by_cases hj:j=k
  .subst hj;rw[Zaf];by_cases hv:v=f
   .subst hv;rw[Zaf];simp
   .rw[KR hv,<- h.inv,h2];constructor
    .intro e;exact absurd (Option.some.inj e).symm hv
    .intro e;cases e
  .rw[KR hj];by_cases hv:v=f
   .subst hv;rw[Zaf,h.inv,h1];constructor
    .intro e;cases e
    .intro e;exact absurd (Option.some.inj e).symm hj
   .rw[KR hv,h.inv]
 .rw[ZcK,ZcK,h1,h2,h.same]
 .unfold Qs at hp;rw[h2] at hp;simp only[Option.isSome_none,Bool.false_eq_true,if_false,List.mem_append,List.mem_singleton] at hp;rcases hp with hp|rfl
  .exact h.lens p hp
  .exact⟨hk.1,hk.2,hf.1,hf.2⟩
theorem Zdi:Zf k (WI k OF)=none:=by
 unfold WI;cases hk:Zf k OF with
 | none=>exact hk
 | some m=>exact ZbZ
theorem ZqY (h:Inv OW OF) (hf:∀ w,Zf f OW=some w->w=k):Zf f (Zb6 k OW OF)=none:=by
 unfold Zb6;cases hk:Zf k OF with
 | none=>
  cases ho:Zf f OW with
  | none=>rfl
  | some w=>
   have:=hf w ho;subst this;rw[<- h.inv,hk] at ho;cases ho
 | some m=>
  by_cases hm:f=m
  .subst hm;exact ZbZ
  .simp only;rw[Yd hm];cases ho:Zf f OW with
   | none=>rfl
   | some w=>
    have:=hf w ho;subst this;rw[<- h.inv,hk] at ho;exact absurd (Option.some.inj ho).symm hm
theorem Zfw {j:List UInt8} (hj:j≠k):Zf j (WI k OF)=Zf j OF:=by
 unfold WI;cases hk:Zf k OF with
 | none=>rfl
 | some m=>exact Yd hj
def KF (k m:List UInt8) (OW:Qw):Int:=
 if Zw k then(if m=[] then 0 else if Yn m then(match Zf (QM m) OW with
  | some w=>if w=k then 0 else 9
  | none=>0) else 11) else 10
def ZsS (k m:List UInt8) (OW OF:Qw):Qw:=if KF k m OW=0 then(if m=[] then Zb6 k OW OF else Qs (QM m) k (Zb6 k OW OF)) else OW
def ZeL (k m:List UInt8) (OW OF:Qw):Qw:=if KF k m OW=0 then(if m=[] then WI k OF else Qs k (QM m) (WI k OF)) else OF
def ZhA (old next:List UInt8) (OF:Qw):Int:=
 if Zw next then(match Zf old OF with
  | some _=>if(Zf next OF).isSome && !(next==old) then 9 else 0
  | none=>8) else 10
def ZyF (old next:List UInt8) (OW OF:Qw):Qw:=if ZhA old next OF=0 then Qs ((Zf old OF).getD []) next (Zb6 old OW OF) else OW
def Zmt (old next:List UInt8) (OF:Qw):Qw:=if ZhA old next OF=0 then Qs next ((Zf old OF).getD []) (WI old OF) else OF
theorem ZxV (h:Zw k=true):k≠[]/\k.length<=12:=by
 refine⟨?_,ZcY h⟩
 rintro rfl
 revert h;decide
theorem ZjR {m:List UInt8} (h:Yn m=true):QM m≠[]/\(QM m).length<=20:=by
 unfold Yn at h;simp only[Bool.and_eq_true,decide_eq_true_eq] at h;refine⟨fun e=>?_,by rw[ZtT];exact h.1⟩;have h2:=h.2;rw[e] at h2;revert h2;decide
end
structure Idx (X:Zd) (x o a:Nat) (OW OF:Qw):Prop where
 c:X[x]?=some (.cells [.map (some o),.map (some a)] 1 false false)
 ow:WK strv X o OW
 of:WK strv X a OF
 ne:o≠a
 inv:Inv OW OF
section
variable {X X':Zd} {n x o a:Nat} {OW OF:Qw} {k m:List UInt8}
theorem Idx.not (h:Idx X x o a OW OF):x≠o/\x≠a:=by
 constructor
 .rintro rfl
  obtain⟨es,clk,_,h2,_⟩:=h.ow.ex;rw[h.c] at h2;cases h2
 .rintro rfl
  obtain⟨es,clk,_,h2,_⟩:=h.of.ex;rw[h.c] at h2;cases h2
theorem Idx.hle (h:Idx X x o a OW OF) (hl:HLe X X'):Idx X' x o a OW OF:=⟨hl _ _ h.c,h.ow.hle hl,h.of.hle hl,h.ne,h.inv⟩
theorem Idx.lt (h:Idx X x o a OW OF):x < X.length/\o < X.length/\a < X.length:=⟨Z6 h.c,h.ow.lt,h.of.lt⟩
theorem Idx.step {o1 o2:List Nat} (h:Idx X x o a OW OF) (hs:Zr o1 X o2 X') (h1:x∉o1) (h2:o∉o1) (h3:a∉o1):Idx X' x o a OW OF:=
 ⟨hs.get h.c h1,h.ow.step hs h2,h.of.step hs h3,h.ne,h.inv⟩
theorem Idx.l0 (h:Idx X x o a OW OF):ld1 (pa x 0) X=some (.map (some o),X):=Zv h.c rfl
theorem Idx.l1 (h:Idx X x o a OW OF):ld1 (pa x 1) X=some (.map (some a),X):=Zv h.c rfl
theorem Zst {id:Nat} {mm:Qw} (h:JL strv X id mm):lkp .str (.string ⟨#[]⟩) true (.map (some id)) (strv k) X=some (.tuple #[strv ((Zf k mm).getD []),.bool (Zf k mm).isSome],X):=by
 rw[h.lkp];cases Zf k mm<;>rfl
theorem Zr.mono2 {o1 o2:List Nat} (h:Zr o1 X o1 X') (hs:∀ j∈o1,j∈o2):Zr o2 X o2 X':=h.more hs (fun j hj=>.inl hj)
theorem ZEM:∃ X' x o a,R (n+1) ZiC [] X=some (pt x,X')/\Idx X' x o a [] []/\HLe X X'/\X.length<=x/\X.length<=o/\X.length<=a:=by
 obtain⟨X1,e1,g1,l1,n1⟩:=ZCP (α:=List UInt8) (enc:=strv) X;obtain⟨X2,e2,g2,l2,n2⟩:=ZCP (α:=List UInt8) (enc:=strv) X1;have e3:bld (.agg #[.map none,.map none]) [(0,1,.map (some X.length)),(1,1,.map (some X1.length))] X2=some (.agg #[.map (some X.length),.map (some X1.length)],X2):=by simp[↓Z7,Z5,↓QC,Qg,Qj,Qk,↓Zb,JS,Zg,Yq,Qp,Js,Qt,Jq,Jo,QN,Jz,QO,QT,QZ,Q0,QU,Zl,ZL,YY,YB,Jb,QL,JC,ZI,Q1,JU,JY,JO,ZE,Zn,Zt,Jj,Qm,Qo,JA,JG,Jy,JI,↓YV,JV,↓g_r,Y0,Yw,WB,splice,Value.cells]
 have e4:alc 1 (.agg #[.map (some X.length),.map (some X1.length)]) X2=some (pt X2.length,X2++[.cells [.map (some X.length),.map (some X1.length)] 1 false false]):=by
  rw[QT];simp[Value.cells,oneCell]
 refine⟨X2++[.cells [.map (some X.length),.map (some X1.length)] 1 false false],X2.length,X.length,X1.length,?_,⟨Zo,(g1.hle l2).hle (.app _ _),g2.hle (.app _ _),by omega,⟨fun k v=>by simp[Zf],rfl,by simp⟩⟩,(l1.trans l2).trans (.app _ _),by omega,Nat.le_refl _,by omega⟩;rw[R,Zw8 rfl];unfold Zl5;rw[Za e1,Za e2,Za e3,Za e4];rfl
theorem Zny (h:Idx X x o a OW OF):∃ X',R (n+1) Jp [pt x,strv k] X=some (.bool (Zf k OF).isSome,X')/\Idx X' x o a (Zb6 k OW OF) (WI k OF)/\Zr [o,a] X [o,a] X':=by
 have e1:=Zst (k:=k) h.of.g;have f1:∀ r X',Zbe (R n) (pt x) (strv k) X=some (r,X')->R (n+1) Jp [pt x,strv k] X=some (r,X'):=fun r X' hr=>by rw[R,Zom rfl];exact hr
 cases hk:Zf k OF with
 | none=>
  rw[hk] at e1;simp only[Option.isSome_none,Option.getD_none] at e1 ⊢;have hi:Idx X x o a (Zb6 k OW OF) (WI k OF):=by unfold Zb6 WI;rw[hk];exact h
  refine⟨X,f1 _ _ ?_,hi,.refl _ _⟩;unfold Zbe;rw[Za Zg,Za Zj,Za h.l1,Za e1,Za Zp,Za Zq];refine(ZJ (vs:=[.bool false]) (H':=X) ?_).trans rfl;rw[Zb,if_neg (by simp)];rfl
 | some mm=>
  rw[hk] at e1;simp only[Option.isSome_some,Option.getD_some] at e1 ⊢;obtain⟨X1,e2,m2,s2,_⟩:=h.ow.mde (k:=mm);have of1:=h.of.step s2 (by simp[Ne.symm h.ne]);have c1:=s2.get h.c (by simp[h.not.1]);obtain⟨X2,e3,m3,s3,_⟩:=of1.mde (k:=k);have s12:=(s2.mono2 (o2:=[o,a]) (by simp)).trans (s3.mono2 (o2:=[o,a]) (by simp));have hinv:=h.inv.drop (k:=k) h.ow.nod h.of.nod;have hi:Idx X2 x o a (Zb6 k OW OF) (WI k OF):=by
   unfold Zb6 WI at hinv ⊢;rw[hk] at hinv ⊢;exact⟨s3.get c1 (by simp[h.not.2]),m2.step s3 (by simp[h.ne]),m3,h.ne,hinv⟩
  refine⟨X2,f1 _ _ ?_,hi,s12⟩;have l0':ld1 (pa x 0) X=some (.map (some o),X):=h.l0;have l1':ld1 (pa x 1) X1=some (.map (some a),X1):=Zv c1 rfl;unfold Zbe;rw[Za Zg,Za Zj,Za h.l1,Za e1,Za Zp,Za Zq];refine(ZJ (vs:=[.bool true]) (H':=X2) ?_).trans rfl;rw[Zb,if_pos rfl,Za Zg,Za Zj,Za l0'];refine(Za e2).trans ?_;rw[Za Zg,Za Zj,Za l1',Za e3];rfl
theorem Zwz {f:List UInt8} (h:Idx X x o a OW OF) (h1:Zf f OW=none) (h2:Zf k OF=none) (hk:k≠[]/\k.length<=12) (hf:f≠[]/\f.length<=20) :
  ∃ X',(∀ K:M Value,bind (men .str (.string ⟨#[]⟩) (.map (some o)) (strv f)) (fun v60=>bind (Zm v60 1) fun v61=>bind (ens (.map (some o)) v61 (strv k)) fun _=>bind (men .str (.string ⟨#[]⟩) (.map (some a)) (strv k)) fun v62=>bind (Zm v62 1) fun v63=>bind (ens (.map (some a)) v63 (strv f)) fun _=>K) X=K X')/\Idx X' x o a (Qs f k OW) (Qs k f OF)/\Zr [o,a] X [o,a] X':=by
 obtain⟨t1,st1,Y1,Y2,e1,e2,e3,m1,_,s1,_⟩:=h.ow.put (k:=f) (v:=k) (z:=.string ⟨#[]⟩);have of1:=h.of.step s1 (by simp[Ne.symm h.ne]);have c1:=s1.get h.c (by simp[h.not.1]);obtain⟨t2,st2,Z1,Z2,e4,e5,e6,m2,_,s2,_⟩:=of1.put (k:=k) (v:=f) (z:=.string ⟨#[]⟩);refine⟨Z2,fun K=>?_,⟨s2.get c1 (by simp[h.not.2]),m1.step s2 (by simp[h.ne]),m2,h.ne,h.inv.put h1 h2 hk hf⟩,(s1.mono2 (o2:=[o,a]) (by simp)).trans (s2.mono2 (o2:=[o,a]) (by simp))⟩;rw[Za e1,Za e2,Za e3,Za e4,Za e5,Za e6]
theorem ZAe (h:Idx X x o a OW OF):∃ X',R (n+9) Y8 [pt x,strv k,strv m] X=some (iv (KF k m OW),X')/\Idx X' x o a (ZsS k m OW OF) (ZeL k m OW OF)/\Zr [o,a] X [o,a] X':=by
 have f1:∀ r X',KI (R (n+8)) (pt x) (strv k) (strv m) X=some (r,X')->R (n+9) Y8 [pt x,strv k,strv m] X=some (r,X'):=fun r X' hr=>by rw[R,Zqa rfl];exact hr
 have e1:R (n+8) QS [strv k] X=some (iv (ZG k),X):=Zdf (n:=n+3);have q1:bop .str .eql (strv m) (.string ⟨#[]⟩) X=some (.bool (m==[]),X):=Zix (b:=[]);unfold KF ZsS ZeL KF;cases hn:Zw k
 .have he:ZG k=10:=by unfold ZG;rw[hn];rfl
  refine⟨X,f1 _ _ ?_,by simpa using h,.refl _ _⟩;unfold KI;rw[Za e1,he,Za Zn,Zb,if_pos (by rfl)];rfl
 .have he:ZG k=0:=ZcE.2 hn;by_cases hm0:m=[]
  .obtain⟨X1,e2,i2,s2⟩:=Zny (n:=n+7) (k:=k) h;have e2:R (n+8) Jp [pt x,strv k] X=_:=e2;refine⟨X1,f1 _ _ ?_,by simpa[hm0] using i2,s2⟩;unfold KI;rw[Za e1,he,Za Zn,Zb,if_neg (by decide),Za q1,Zb,if_pos (by simp[hm0]),Za e2];simp[hm0,ret]
  .obtain⟨X1,e2,k2⟩:=ZrP (n:=n) (s:=m) (X:=X);have h1:=h.hle k2;have ks:=k2.step.more (o2:=[o,a]) (o2':=[o,a]) (by simp) (fun j hj=>.inl hj);cases hmb:Yn m
   .rw[hmb] at e2;refine⟨X1,f1 _ _ ?_,by simpa[hm0] using h1,ks⟩;unfold KI;rw[Za e1,he,Za Zn,Zb,if_neg (by decide),Za q1,Zb,if_neg (by simpa using hm0),Za e2,Za Zp,Za Zq];have q3:bop .int .neq (iv (if false=true then 0 else 11)) (.int .i64 0) X1=some (.bool true,X1):=by rw[Zn];rfl
    rw[Za q3,Zb,if_pos rfl];simp[hm0,ret]
   .rw[hmb] at e2;simp only[if_true] at e2;have e3:=Zst (k:=QM m) h1.ow.g;have hfm:=ZjR hmb;have hkn:=ZxV hn;have q3:bop .int .neq (iv 0) (.int .i64 0) X1=some (.bool false,X1):=by rw[Zn];rfl
    simp only[if_true,if_neg hm0];have hgo:(∀ w,Zf (QM m) OW=some w->w=k)->∃ X',R (n+9) Y8 [pt x,strv k,strv m] X=some (iv 0,X')/\Idx X' x o a (Qs (QM m) k (Zb6 k OW OF)) (Qs k (QM m) (WI k OF))/\Zr [o,a] X [o,a] X':=fun hw=>by
     obtain⟨X2,e4,i4,s4⟩:=Zny (n:=n+7) (k:=k) h1;have e4:R (n+8) Jp [pt x,strv k] X1=_:=e4;obtain⟨X3,e5,i5,s5⟩:=Zwz (k:=k) (f:=QM m) i4 (ZqY h.inv hw) Zdi hkn hfm;refine⟨X3,f1 _ _ ?_,i5,(ks.trans s4).trans s5⟩;unfold KI;rw[Za e1,he,Za Zn,Zb,if_neg (by decide),Za q1,Zb,if_neg (by simpa using hm0),Za e2,Za Zp,Za Zq,Za q3,Zb,if_neg (by simp),Za Zg,Za Zj,Za h1.l0,Za e3,Za Zp,Za Zq];cases ho:Zf (QM m) OW with
     | none=>
      simp only[Option.isSome_none];rw[Za (g_r.trans (if_neg (by simp)))];simp only[List.replicate];rw[ZV,Za Zl];simp only[cond_false];rw[Zb,if_neg (by simp),Za e4,Za Zg,Za Zj,Za i4.l0,Za Zg,Za Zj,Za i4.l1];exact e5 _
     | some w=>
      have:=hw w ho;subst this;have q4:bop .str .neq (strv w) (strv w) X1=some (.bool false,X1):=by rw[ZiB];simp
      simp only[Option.isSome_some,Option.getD_some];rw[Z0,Zk,Za q4,Qe,ZV,Za Zl];simp only[cond_true];rw[Zb,if_neg (by simp),Za e4,Za Zg,Za Zj,Za i4.l0,Za Zg,Za Zj,Za i4.l1];exact e5 _
    cases ho:Zf (QM m) OW with
    | none=>simpa using hgo (fun w hw=>by rw[ho] at hw;cases hw)
    | some w=>
     by_cases hw:w=k
     .simpa[hw] using hgo (fun w' hw'=>by rw[ho] at hw';cases hw';exact hw)
     .simp only[if_neg hw];refine⟨X1,f1 _ _ ?_,by simpa using h1,ks⟩;have q4:bop .str .neq (strv w) (strv k) X1=some (.bool true,X1):=by rw[ZiB,beq_eq_false_iff_ne.2 hw];rfl
      rw[ho] at e3;simp only[Option.isSome_some,Option.getD_some] at e3;unfold KI;rw[Za e1,he,Za Zn,Zb,if_neg (by decide),Za q1,Zb,if_neg (by simpa using hm0),Za e2,Za Zp,Za Zq,Za q3,Zb,if_neg (by simp),Za Zg,Za Zj,Za h1.l0,Za e3,Za Zp,Za Zq,Z0,Zk,Za q4,Qe,ZV,Za Zl];simp only[cond_true];rw[Zb,if_pos rfl];rfl
theorem ZE8 {old next:List UInt8} (h:Idx X x o a OW OF):∃ X',R (n+6) K4 [pt x,strv old,strv next] X=some (iv (ZhA old next OF),X')/\Idx X' x o a (ZyF old next OW OF) (Zmt old next OF)/\Zr [o,a] X [o,a] X':=by
 have f1:∀ r X',Ka (R (n+5)) (pt x) (strv old) (strv next) X=some (r,X')->R (n+6) K4 [pt x,strv old,strv next] X=some (r,X'):=fun r X' hr=>by rw[R,Zlj rfl];exact hr
 have e1:R (n+5) QS [strv next] X=some (iv (ZG next),X):=Zdf;have e2:=Zst (k:=old) h.of.g;have e3:=Zst (k:=next) h.of.g;unfold ZhA ZyF Zmt ZhA;cases hn:Zw next
 .have he:ZG next=10:=by unfold ZG;rw[hn];rfl
  refine⟨X,f1 _ _ ?_,by simpa using h,.refl _ _⟩;unfold Ka;rw[Za e1,he,Za Zn,Zb,if_pos (by rfl)];rfl
 .have he:ZG next=0:=ZcE.2 hn;simp only[if_true];cases ho:Zf old OF with
  | none=>
   rw[ho] at e2;simp only[Option.isSome_none,Option.getD_none] at e2;refine⟨X,f1 _ _ ?_,by simpa using h,.refl _ _⟩;unfold Ka;rw[Za e1,he,Za Zn,Zb,if_neg (by decide),Za Zg,Za Zj,Za h.l1,Za e2,Za Zp,Za Zq,Za Zg,Za Zj,Za h.l1,Za e3,Za Zp,Za Zq,Za ZL,Zb,if_pos (by rfl)];rfl
  | some mm=>
   rw[ho] at e2;simp only[Option.isSome_some,Option.getD_some] at e2 ⊢;have hml:=h.inv.lens (old,mm) (Kz ho);have hmo:=(h.inv.inv old mm).1 ho;have q4:bop .str .neq (strv next) (strv old) X=some (.bool (!(next==old)),X):=ZiB;have hpk:∀ K:Value->M Value,bind (gate (.bool (Zf next OF).isSome) true 3 (bind (bop .str .neq (strv next) (strv old)) fun v43x16=>ret [strv next,strv old,v43x16])) (c3 fun _ _ q17_2=>bind (pick (.bool (Zf next OF).isSome) q17_2 (Value.bool false)) K) X=K (.bool ((Zf next OF).isSome && !(next==old))) X:=fun K=>by
    cases (Zf next OF).isSome
    .rw[Za (g_r.trans (if_neg (by simp)))];simp only[List.replicate];rw[ZV,Za Zl];rfl
    .rw[Z0,Zk,Za q4,Qe,ZV,Za Zl];rfl
   cases ht:(Zf next OF).isSome && !(next==old)
   .rw[ht] at hpk;simp only[Bool.false_eq_true,if_false,if_true];obtain⟨X2,e4,i4,s4⟩:=Zny (n:=n+4) (k:=old) h;have e4:R (n+5) Jp [pt x,strv old] X=_:=e4;have hnn:Zf next (WI old OF)=none:=by
     by_cases hno:next=old
     .subst hno;exact Zdi
     .rw[Zfw hno];have h5:(next==old)=false:=beq_eq_false_iff_ne.2 hno;rw[h5] at ht;cases hx:Zf next OF with
      | none=>rfl
      | some y=>rw[hx] at ht;simp at ht
    obtain⟨X3,e5,i5,s5⟩:=Zwz (k:=next) (f:=mm) i4 (ZqY h.inv (fun w hw=>by rw[hmo] at hw;exact(Option.some.inj hw).symm)) hnn (ZxV hn) ⟨hml.2.2.1,hml.2.2.2⟩;refine⟨X3,f1 _ _ ?_,i5,s4.trans s5⟩;unfold Ka;rw[Za e1,he,Za Zn,Zb,if_neg (by decide),Za Zg,Za Zj,Za h.l1,Za e2,Za Zp,Za Zq,Za Zg,Za Zj,Za h.l1,Za e3,Za Zp,Za Zq,Za ZL,Zb,if_neg (by simp)];refine(hpk _).trans ?_;rw[Zb,if_neg (by simp),Za e4,Za Zg,Za Zj,Za i4.l0,Za Zg,Za Zj,Za i4.l1];exact e5 _
   .rw[ht] at hpk;simp only[if_true];refine⟨X,f1 _ _ ?_,by simpa using h,.refl _ _⟩;unfold Ka;rw[Za e1,he,Za Zn,Zb,if_neg (by decide),Za Zg,Za Zj,Za h.l1,Za e2,Za Zp,Za Zq,Za Zg,Za Zj,Za h.l1,Za e3,Za Zp,Za Zq,Za ZL,Zb,if_neg (by simp)];refine(hpk _).trans ?_;rw[Zb,if_pos rfl];rfl
theorem ZFO (h:Idx X x o a OW OF):R (n+1) Zce [pt x,strv k] X=some (.tuple #[strv ((Zf k OF).getD []),.bool (Zf k OF).isSome],X):=by
 have e1:=Zst (k:=k) h.of.g;rw[R,ZrW rfl];unfold ZgK;rw[Za Zg,Za Zj,Za h.l1,Za e1,Za Zp,Za Zq];rfl
def Zb9 (m:List UInt8) (OW:Qw):Int:=if Yn m then(if(Zf (QM m) OW).isSome then 0 else 8) else 11
def Zhf (m:List UInt8) (OW:Qw):List UInt8:=if Yn m then(Zf (QM m) OW).getD [] else[]
theorem ZEo (h:Idx X x o a OW OF):∃ X',R (n+9) Za3 [pt x,strv m] X=some (.tuple #[strv (Zhf m OW),iv (Zb9 m OW)],X')/\HLe X X':=by
 obtain⟨X1,e2,k2⟩:=ZrP (n:=n) (s:=m) (X:=X);have f1:∀ r X',ZcB (R (n+8)) (pt x) (strv m) X=some (r,X')->R (n+9) Za3 [pt x,strv m] X=some (r,X'):=fun r X' hr=>by rw[R,Zot rfl];exact hr
 have h1:=h.hle k2;refine⟨X1,f1 _ _ ?_,k2⟩;unfold ZcB Zb9 Zhf;cases hmb:Yn m
 .rw[hmb] at e2;have q3:bop .int .neq (iv (if false=true then 0 else 11)) (.int .i64 0) X1=some (.bool true,X1):=by rw[Zn];rfl
  rw[Za e2,Za Zp,Za Zq,Za q3,Zb,if_pos rfl];rfl
 .rw[hmb] at e2;simp only[if_true] at e2;have e3:=Zst (k:=QM m) h1.ow.g;have q3:bop .int .neq (iv 0) (.int .i64 0) X1=some (.bool false,X1):=by rw[Zn];rfl
  rw[Za e2,Za Zp,Za Zq,Za q3,Zb,if_neg (by simp),Za Zg,Za Zj,Za h1.l0,Za e3,Za Zp,Za Zq,Za ZL];cases Zf (QM m) OW with
  | none=>simp[Zb,ret];rfl
  | some w=>simp[Zb,ret]
end
section
variable {H X X':Zd} {n x o a:Nat} {OW OF:Qw} {k m:List UInt8}
theorem ZDG (h:Idx X x o a OW OF):∃ X' x' o' a',R (n+2) Zbf [pt x] X=some (pt x',X')/\Idx X' x' o' a' OW OF/\HLe X X'/\X.length<=x'/\X.length<=o'/\X.length<=a':=by
 obtain⟨X1,e1,g1,l1,n1⟩:=h.ow.clone;obtain⟨X2,e2,g2,l2,n2⟩:=(h.of.hle l1).clone;have e1':run Tryz.prog np lvs (n+1) ZQ [.map (some o)] X=some (.map (some X.length),X1):=by
  rw[Zay (show np ZQ=some Za1 from rfl)];exact e1
 have e2':run Tryz.prog np lvs (n+1) ZQ [.map (some a)] X1=some (.map (some X1.length),X2):=by
  rw[Zay (show np ZQ=some Za1 from rfl)];exact e2
 have e3:bld (.agg #[.map none,.map none]) [(0,1,.map (some X.length)),(1,1,.map (some X1.length))] X2=some (.agg #[.map (some X.length),.map (some X1.length)],X2):=by simp[↓Z7,Z5,↓QC,Qg,Qj,Qk,↓Zb,JS,Zg,Yq,Qp,Js,Qt,Jq,Jo,QN,Jz,QO,QT,QZ,Q0,QU,Zl,ZL,YY,YB,Jb,QL,JC,ZI,Q1,JU,JY,JO,ZE,Zn,Zt,Jj,Qm,Qo,JA,JG,Jy,JI,↓YV,JV,↓g_r,Y0,Yw,WB,splice,Value.cells]
 have e4:alc 1 (.agg #[.map (some X.length),.map (some X1.length)]) X2=some (pt X2.length,X2++[.cells [.map (some X.length),.map (some X1.length)] 1 false false]):=by
  rw[QT];simp[Value.cells,oneCell]
 refine⟨X2++[.cells [.map (some X.length),.map (some X1.length)] 1 false false],X2.length,X.length,X1.length,?_,⟨Zo,(g1.hle l2).hle (.app _ _),g2.hle (.app _ _),by omega,h.inv⟩,(l1.trans l2).trans (.app _ _),by omega,Nat.le_refl _,by omega⟩;rw[R,ZoA rfl];unfold ZeI;rw[Za Zg,Za Zj,Za h.l0,Za Zg,Za Zj,Za h.l1,Za e1',Za (h.hle l1).l1,Qx,Za e2',Za e3,Za e4];rfl
end
section
variable {n:Nat}
variable {X:Zd} {x o a:Nat} {OW OF:Qw}
end
abbrev Acc:=Tx × Bool
def Zar (p:Acc):Value:=.agg #[strv p.1,.bool p.2]
abbrev AMp:=List (Tx × Acc)
structure NSt where
 A:AMp
 OW:Qw
 OF:Qw
 K:List Tx
 mem:Mem
structure JT (s:NSt):Prop where
 nm:∀ p∈s.A,Zw p.1=true/\WD p.2.1=true
 few:s.A.length<=12
 ofA:∀ n,(Zf n s.OF).isSome=true->(Zf n s.A).isSome=true
 memA:∀ k n,s.mem k n=true->(Zf n s.A).isSome=true
 good:∀ n m,Zf n s.OF=some m->Yn m=true/\QM m=m
structure NR where
 b:Nat
 x:Nat
 o:Nat
 a:Nat
 g:Nat
 o2:Nat
 G:ZcR
def NR.own (r:NR):List Nat:=r.b :: r.o :: r.a :: Q3 r.o2 r.G
structure ND0 (X:Zd) (d:Nat) (r:NR) (s:NSt) (c:Nat):Prop where
 cell:X[d]?=some (.cells [.map (some r.b),pt r.x,pt r.g] 1 false false)
 m:JL Zar X r.b s.A
 ix:Idx X r.x r.o r.a s.OW s.OF
 gr:Grp X r.g r.o2 r.G s.mem c
 ks:ZK r.G=s.K
 dis:r.b≠r.o/\r.b≠r.a/\r.b∉Q3 r.o2 r.G/\r.o∉Q3 r.o2 r.G/\r.a∉Q3 r.o2 r.G
structure ND (X:Zd) (d:Nat) (r:NR) (s:NSt) (c:Nat):Prop extends ND0 X d r s c where
 inv:JT s
def W7 (s:NSt) (n:Tx) (p:Acc):ZcJ:=(n,p.1,(Zf n s.OF).getD [],p.2,ofL n s.K s.mem)
def J7 (s:NSt) (n:Tx):Option ZcJ:=(Zf n s.A).map (W7 s n)
def ZH (n:Tx) (A:AMp):Int:=if Zw n then(if(Zf n A).isSome then 0 else 8) else 10
theorem ZqG {n:Tx} {A:AMp} (h:ZH n A=0):Zw n=true/\∃ p,Zf n A=some p:=by
 unfold ZH at h;cases hn:Zw n
 .rw[hn] at h;simp at h
 .rw[hn] at h;cases ha:Zf n A with
  | none=>rw[ha] at h;simp at h
  | some p=>exact⟨rfl,p,rfl⟩
section
variable {X X':Zd} {n d c:Nat} {r:NR} {s:NSt} {k:Tx}
theorem JL.isMap {α:Type} {enc:α->Value} {id:Nat} {mm:List (Tx × α)} (hm:JL enc X id mm):id < X.length/\∀ cs es gr ro,X[id]?≠some (.cells cs es gr ro):=⟨hm.lt,fun cs es gr ro e=>by
 obtain⟨es',_,h1|h1⟩:=hm.ex
 .obtain⟨clk,h1,_⟩:=h1;rw[e] at h1;cases h1
 .rw[e] at h1;cases h1⟩
theorem ND0.isMap (h:ND0 X d r s c) {j:Nat} (hj:j∈r.own):j < X.length/\∀ cs es gr ro,X[j]?≠some (.cells cs es gr ro):=by
 unfold NR.own at hj;rcases List.mem_cons.1 hj with rfl|hj
 .exact h.m.isMap
 .rcases List.mem_cons.1 hj with rfl|hj
  .exact h.ix.ow.g.isMap
  .rcases List.mem_cons.1 hj with rfl|hj
   .exact h.ix.of.g.isMap
   .exact h.gr.isMap hj
theorem ND0.dnot (h:ND0 X d r s c):d∉r.own:=fun hj=>(h.isMap hj).2 _ _ _ _ h.cell
theorem ND0.xnot (h:ND0 X d r s c):r.x∉r.own:=fun hj=>(h.isMap hj).2 _ _ _ _ h.ix.c
theorem ND0.gnot (h:ND0 X d r s c):r.g∉r.own:=fun hj=>(h.isMap hj).2 _ _ _ _ h.gr.cell
theorem ND0.step {o1 o2:List Nat} (h:ND0 X d r s c) (hs:Zr o1 X o2 X') (hd:d∉o1) (hx:r.x∉o1) (hg:r.g∉o1) (ho:∀ j∈r.own,j∉o1):ND0 X' d r s c:=
 ⟨hs.get h.cell hd,h.m.step hs (ho _ (by simp[NR.own])),h.ix.step hs hx (ho _ (by simp[NR.own])) (ho _ (by simp[NR.own])),h.gr.step hs hg (fun j hj=>ho j (by
  unfold NR.own;exact List.mem_cons_of_mem _ (List.mem_cons_of_mem _ (List.mem_cons_of_mem _ hj)))),h.ks,h.dis⟩
theorem ND0.hle (h:ND0 X d r s c) (hl:HLe X X'):ND0 X' d r s c:=h.step hl.step (by simp) (by simp) (by simp) (by simp)
theorem ND0.l0 (h:ND0 X d r s c):ld1 (pa d 0) X=some (.map (some r.b),X):=Zv h.cell rfl
theorem ND0.l1 (h:ND0 X d r s c):ld1 (pa d 1) X=some (pt r.x,X):=Zv h.cell rfl
theorem ND0.l2 (h:ND0 X d r s c):ld1 (pa d 2) X=some (pt r.g,X):=Zv h.cell rfl
theorem ND.step {o1 o2:List Nat} (h:ND X d r s c) (hs:Zr o1 X o2 X') (hd:d∉o1) (hx:r.x∉o1) (hg:r.g∉o1) (ho:∀ j∈r.own,j∉o1):ND X' d r s c:=⟨h.toND0.step hs hd hx hg ho,h.inv⟩
theorem ND.hle (h:ND X d r s c) (hl:HLe X X'):ND X' d r s c:=⟨h.toND0.hle hl,h.inv⟩
def CLe (X X':Zd):Prop:=∀ (i:Nat) (cs:List Value) (es:Nat) (g ro:Bool),X[i]?=some (Ze.cells cs es g ro)->X'[i]?=some (Ze.cells cs es g ro)
theorem CLe.trans {Y:Zd} (h:CLe X X') (h':CLe X' Y):CLe X Y:=fun i cs es g ro hi=>h' i _ _ _ _ (h i _ _ _ _ hi)
theorem Zr.cle {o1 o2:List Nat} (hs:Zr o1 X o2 X') (hm:∀ j∈o1,∀ cs es g ro,X[j]?≠some (Ze.cells cs es g ro)):CLe X X':=fun i cs es g ro hi=>hs.get hi fun hj=>hm i hj _ _ _ _ hi
theorem ND0.cle {o2:List Nat} (h:ND0 X d r s c) (hs:Zr r.own X o2 X'):CLe X X':=hs.cle fun j hj=>(h.isMap hj).2
theorem Sl.cle {sl:Value} {vs:List Value} (h:Sl X sl vs) (hc:CLe X X'):Sl X' sl vs:=by
 obtain⟨a,c,rfl,h0,h⟩:=h;refine⟨a,c,rfl,h0,?_⟩;unfold QH at h ⊢;split at h
 .exact h
 .rename_i id o n x _;split at h
  .rename_i cs es g ro hid;simp only[hc _ _ _ _ _ hid];exact h
  .cases h
 .exact h
 .rename_i e;cases e
 .cases h
theorem ZFZ {k:Tx} {t:Bool} {H:Zd}:bld (.agg #[.string ⟨#[]⟩,.bool false]) [(0,1,strv k),(1,1,.bool t)] H=some (Zar (k,t),H):=by
 simp[bld,WB,Value.cells,Yw,strv,splice,Zar]
theorem ZDl (X:Zd):JT ⟨[],[],[],[],fun _ _=>false⟩:=⟨by simp,by simp,by simp[Zf],by simp,by simp[Zf]⟩
theorem ZEx:∃ X' d r,R (n+2) Ze9 [] X=some (pt d,X')/\ND X' d r ⟨[],[],[],[],fun _ _=>false⟩ 0/\HLe X X'/\X.length<=d/\∀ j∈r.own,X.length<=j:=by
 obtain⟨X1,e1,m1,k1⟩:=ZuP (α:=Acc) (enc:=Zar) X;have hl1:X.length < X1.length:=m1.lt;obtain⟨X2,x,o,a,e2,i2,k2,o21,o22,o23⟩:=ZEM (n:=n) (X:=X1);obtain⟨X3,g,o2,e3,g3,k3,o31,o32⟩:=ZFy (n:=n) (X:=X2);have hi:=i2.lt;have e4:bld (.agg #[.map none,.pointer none,.pointer none]) [(0,1,.map (some X.length)),(1,1,pt x),(2,1,pt g)] X3=some (.agg #[.map (some X.length),pt x,pt g],X3):=by
  simp[bld,WB,Value.cells,Yw,splice]
 have e5:alc 1 (.agg #[.map (some X.length),pt x,pt g]) X3=some (pt X3.length,X3++[.cells [.map (some X.length),pt x,pt g] 1 false false]):=Zhr (vs:=[.map (some X.length),pt x,pt g]) rfl;have k4:HLe X3 (X3++[Ze.cells [.map (some X.length),pt x,pt g] 1 false false]):=.app _ _;refine⟨_,X3.length,⟨X.length,x,o,a,g,o2,[]⟩,?_,⟨⟨Zo,((m1.hle k2).hle k3).hle k4,(i2.hle k3).hle k4,g3.hle k4,rfl,⟨by simp only;omega,by simp only;omega,?_,?_,?_⟩⟩,ZDl X⟩,((k1.trans k2).trans k3).trans k4,?_,?_⟩
 .rw[R,ZvQ rfl];unfold Zj3;rw[Za e1,Za e2,Za e3,Za e4,Za e5];rfl
 .simp only[Q3,List.map_nil,List.mem_singleton];have:=k2.len;omega
 .simp only[Q3,List.map_nil,List.mem_singleton];omega
 .simp only[Q3,List.map_nil,List.mem_singleton];omega
 .have:=k1.len;have:=k2.len;have:=k3.len;omega
 .intro j hj;have:=k1.len;have:=k2.len;simp only[NR.own,Q3,List.map_nil,List.mem_cons,List.not_mem_nil,or_false] at hj;omega
theorem ZxT (h:ND X d r s c):∃ X',R (n+6) Qy [pt d,strv k] X=some (.tuple #[Zar (if Zw k then(Zf k s.A).getD ([],false) else([],false)),iv (ZH k s.A)],X')/\HLe X X':=by
 have one:∀ p:Acc,([strv p.1,.bool p.2]:List Value).all oneCell=true:=fun _=>rfl;have z1:alc 1 (.agg #[.string ⟨#[]⟩,.bool false]) X=some (pt X.length,X++[.cells [strv [],.bool false] 1 false false]):=Zhr (vs:=[strv [],.bool false]) rfl;have k1:HLe X (X++[Ze.cells [strv [],.bool false] 1 false false]):=.app _ _;have c1:(X++[Ze.cells [strv [],.bool false] 1 false false])[X.length]?=some (.cells [strv [],.bool false] 1 false false):=Zo;have ll1:X.length < (X++[Ze.cells [strv [],.bool false] 1 false false]).length:=by simp
 generalize X++[Ze.cells [strv [],.bool false] 1 false false]=X1 at z1 k1 c1 ll1;have h1:=h.hle k1;have e1:R (n+5) QS [strv k] X1=_:=Zdf;have f1:∀ v X',Wk (R (n+5)) (pt d) (strv k) X=some (v,X')->R (n+6) Qy [pt d,strv k] X=some (v,X'):=fun v X' hr=>by rw[R,ZlT rfl];exact hr
 have fin:∀ (p:Acc) (Y:Zd) (K:Value->M Value),Y[X.length]?=some (.cells [strv [],.bool false] 1 false false)->bind (stA 2 (pt X.length) (Zar p)) (fun _=>bind (ldA 2 (pt X.length)) K) Y=K (Zar p) (Y.set X.length (.cells [strv p.1,.bool p.2] 1 false false)):=fun p Y K hY=>by
  have w:=WX (vs:=[strv p.1,.bool p.2]) (n:=2) hY rfl rfl rfl;have w:stA 2 (pt X.length) (Zar p) Y=_:=w;have l:ldA 2 (pt X.length) (Y.set X.length (.cells [strv p.1,.bool p.2] 1 false false))=some (Zar p,_):=Qd (n:=2) (ZW hY) rfl;rw[Za w,Za l]
 have put:∀ {Y:Zd} {o:Ze},HLe X Y->HLe X (Y.set X.length o):=fun hl i v hi=>by
  have:=Z6 hi;rw[List.getElem?_set_ne (by omega)];exact hl i v hi
 cases hnm:Zw k
 .have he:ZH k s.A=10:=by unfold ZH;rw[hnm];rfl
  have q1:bop .int .neq (iv (ZG k)) (.int .i64 0) X1=some (.bool true,X1):=by rw[Zn];unfold ZG;rw[hnm];rfl
  have zb:bld (.agg #[.string ⟨#[]⟩,.bool false]) [] X1=some (Zar ([],false),X1):=rfl;rw[he];refine⟨X1.set X.length (.cells [strv [],.bool false] 1 false false),f1 _ _ ?_,put k1⟩;unfold Wk;rw[Za z1,Za e1,Za q1,Zb,if_pos rfl,Za zb];refine(fin _ _ _ c1).trans ?_;rw[show ZG k=10 by unfold ZG;rw[hnm];rfl];rfl
 .have q1:bop .int .neq (iv (ZG k)) (.int .i64 0) X1=some (.bool false,X1):=by rw[Zn];unfold ZG;rw[hnm];rfl
  have e2:lkp .str (.agg #[.string ⟨#[]⟩,.bool false]) true (.map (some r.b)) (strv k) X1=some (.tuple #[Zar ((Zf k s.A).getD ([],false)),.bool (Zf k s.A).isSome],X1):=by
   rw[h1.m.lkp];cases Zf k s.A<;>rfl
  generalize hv:(Zf k s.A).getD ([],false)=p at e2;have z2:∀ K:Value->M Value,bind (alc 1 (.agg #[.string ⟨#[]⟩,.bool false])) (fun q=>bind (stA 2 q (Zar p)) fun _=>K q) X1=K (pt X1.length) (X1++[.cells [strv p.1,.bool p.2] 1 false false]):=fun K=>ZbB (n:=2) (zs:=[strv [],.bool false]) (r:=[strv p.1,.bool p.2]) rfl rfl rfl rfl;have k2:HLe X1 (X1++[Ze.cells [strv p.1,.bool p.2] 1 false false]):=.app _ _;have c2:(X1++[Ze.cells [strv p.1,.bool p.2] 1 false false])[X1.length]?=some (.cells [strv p.1,.bool p.2] 1 false false):=Zo;have c12:=k2 _ _ c1;generalize X1++[Ze.cells [strv p.1,.bool p.2] 1 false false]=X2 at z2 k2 c2 c12;have d2:ldA 2 (pt X1.length) X2=some (Zar p,X2):=Qd (n:=2) c2 rfl;have zb:bld (.agg #[.string ⟨#[]⟩,.bool false]) [] X2=some (Zar ([],false),X2):=rfl;cases hs:(Zf k s.A).isSome
  .have he:ZH k s.A=8:=by unfold ZH;rw[hnm,hs];rfl
   have hp:p=([],false):=by
    rw[<- hv];cases ha:Zf k s.A with
    | none=>rfl
    | some v=>rw[ha] at hs;cases hs
   rw[hs] at e2;rw[he];refine⟨X2.set X.length (.cells [strv [],.bool false] 1 false false),f1 _ _ ?_,put (k1.trans k2)⟩;unfold Wk;rw[Za z1,Za e1,Za q1,Zb,if_neg (by simp),Za Zg,Za Zj,Za h1.l0,Za e2,Za Zp,Za Zq,z2,Za ZL,Zb,if_pos (by rfl),Za zb];refine(fin _ _ _ c12).trans ?_;rw[hp];rfl
  .have he:ZH k s.A=0:=by unfold ZH;rw[hnm,hs];rfl
   rw[hs] at e2;rw[he];refine⟨X2.set X.length (.cells [strv p.1,.bool p.2] 1 false false),f1 _ _ ?_,put (k1.trans k2)⟩;unfold Wk;rw[Za z1,Za e1,Za q1,Zb,if_neg (by simp),Za Zg,Za Zj,Za h1.l0,Za e2,Za Zp,Za Zq,z2,Za ZL,Zb,if_neg (by simp),Za d2];exact fin _ _ _ c12
theorem ZAy (h:ND X d r s c):∃ u q X',R (n+7) KB [pt d,strv k] X=some (.tuple #[.agg u.cells.toArray,iv (ZH k s.A)],X')/\Zu X' u.gv (u.gs.map strv) q/\(∀ j∈q,X.length<=j)/\HLe X X'/\u.gs.length<=6/\
  Zcv u=if ZH k s.A=0 then W7 s k ((Zf k s.A).getD ([],false)) else([],[],[],false,[]):=by
 have z1:alc 1 (.agg #[.string ⟨#[]⟩,.string ⟨#[]⟩,.string ⟨#[]⟩,.bool false,.slice none 0 0]) X=some (pt X.length,X++[.cells (usr ([],[])) 1 false false]):=Zhr (vs:=usr ([],[])) rfl;have k1:HLe X (X++[Ze.cells (usr ([],[])) 1 false false]):=.app _ _;have c1:(X++[Ze.cells (usr ([],[])) 1 false false])[X.length]?=some (.cells (usr ([],[])) 1 false false):=Zo;generalize X++[Ze.cells (usr ([],[])) 1 false false]=X1 at z1 k1 c1;obtain⟨X2,e2,k2⟩:=ZxT (n:=n) (k:=k) (h.hle k1);have f1:∀ v X',ZaD (R (n+6)) (pt d) (strv k) X=some (v,X')->R (n+7) KB [pt d,strv k] X=some (v,X'):=fun v X' hr=>by rw[R,ZmZ rfl];exact hr
 generalize hp:(if Zw k then(Zf k s.A).getD ([],false) else([],false))=p at e2;have z2:∀ K:Value->M Value,bind (alc 1 (.agg #[.string ⟨#[]⟩,.bool false])) (fun q=>bind (stA 2 q (Zar p)) fun _=>K q) X2=K (pt X2.length) (X2++[.cells [strv p.1,.bool p.2] 1 false false]):=fun K=>ZbB (n:=2) (zs:=[strv [],.bool false]) (r:=[strv p.1,.bool p.2]) rfl rfl rfl rfl;have k3:HLe X2 (X2++[Ze.cells [strv p.1,.bool p.2] 1 false false]):=.app _ _;have c3:(X2++[Ze.cells [strv p.1,.bool p.2] 1 false false])[X2.length]?=some (.cells [strv p.1,.bool p.2] 1 false false):=Zo;have hlx:X.length < X2.length:=by have:=Z6 c1;have:=k2.len;omega
 generalize X2++[Ze.cells [strv p.1,.bool p.2] 1 false false]=X3 at z2 k3 c3;have c13:=k3 _ _ (k2 _ _ c1);have k13:=(k1.trans k2).trans k3;have put:∀ {Y:Zd} {o:Ze},HLe X Y->HLe X (Y.set X.length o):=fun hl i v hi=>by
  have:=Z6 hi;rw[List.getElem?_set_ne (by omega)];exact hl i v hi
 by_cases he:ZH k s.A=0
 .obtain⟨hnm,q0,hq0⟩:=ZqG he;have hpq:p=q0:=by rw[<- hp,hnm,hq0];rfl
  subst hpq;have q1:bop .int .neq (iv (ZH k s.A)) (.int .i64 0) X3=some (.bool false,X3):=by rw[Zn,he];rfl
  have h3:=h.hle k13;have e4:R (n+6) Zce [pt r.x,strv k] X3=_:=ZFO (n:=n+5) h3.ix;have a0:∀ Y,HLe X3 Y->ld1 (pa X2.length 0) Y=some (strv p.1,Y):=fun Y hl=>Zv (hl _ _ c3) rfl;have a1:∀ Y,HLe X3 Y->ld1 (pa X2.length 1) Y=some (.bool p.2,Y):=fun Y hl=>Zv (hl _ _ c3) rfl;obtain⟨gv,q,X4,e5,r5,k5,o5⟩:=ZuU (n:=n+2) (m:=k) h3.gr;have e5:R (n+6) JP [pt r.g,strv k] X3=_:=e5;rw[h.ks] at r5;have hfew:(ofL k s.K s.mem).length<=6:=by
   have h1:=Znv (m:=k) (K:=s.K) (mem:=s.mem);have h2:=h.gr.few;have h3:s.K.length=r.G.length:=by rw[<- h.ks];simp
   omega
  have hone:=r5.one;have zb:bld (.agg #[.string ⟨#[]⟩,.string ⟨#[]⟩,.string ⟨#[]⟩,.bool false,.slice none 0 0]) [(0,1,strv k),(1,1,strv p.1),(2,1,strv ((Zf k s.OF).getD [])),(3,1,.bool p.2),(4,1,gv)] X4=some (.agg (ZA.cells ⟨k,p.1,(Zf k s.OF).getD [],p.2,gv,ofL k s.K s.mem⟩).toArray,X4):=by
   obtain⟨ga,gn,gc,hgv⟩:∃ a n c,gv=.slice a n c:=by
    rcases r5 with⟨_,_,h⟩|⟨_,_,_,h,_,_⟩
    .exact⟨_,_,_,h⟩
    .exact⟨_,_,_,h⟩
   rw[hgv];simp[bld,WB,Value.cells,Yw,strv,splice,ZA.cells]
  have c14:=k5 _ _ c13;have w4:=WX (vs:=ZA.cells ⟨k,p.1,(Zf k s.OF).getD [],p.2,gv,ofL k s.K s.mem⟩) (n:=5) c14 rfl rfl (by simp only[ZA.cells,List.all_cons,hone.1];rfl);have d4:ldA 5 (pt X.length) (X4.set X.length (.cells (ZA.cells ⟨k,p.1,(Zf k s.OF).getD [],p.2,gv,ofL k s.K s.mem⟩) 1 false false))=some (.agg (ZA.cells ⟨k,p.1,(Zf k s.OF).getD [],p.2,gv,ofL k s.K s.mem⟩).toArray,_):=Qd (n:=5) (ZW c14) rfl;refine⟨⟨k,p.1,(Zf k s.OF).getD [],p.2,gv,ofL k s.K s.mem⟩,q,X4.set X.length (.cells (ZA.cells ⟨k,p.1,(Zf k s.OF).getD [],p.2,gv,ofL k s.K s.mem⟩) 1 false false),f1 _ _ ?_,r5.keep fun j hj=>List.getElem?_set_ne (fun e=>?_),fun j hj=>Nat.le_trans k13.len (o5 j hj),put (k13.trans k5),hfew,?_⟩
  .unfold ZaD;rw[Za z1,Za e2,Za Zp,Za Zq,z2,Za q1,Zb,if_neg (by simp),Za Zg,Za Zj,Za h3.l1,Za e4,Za Zp,Za Zq,Za Zj,Za (a0 _ (.refl _)),Za Zj,Za (a1 _ (.refl _)),Za Zg,Za Zj,Za h3.l2,Za e5,Za (a1 _ k5),Qx,Za (a0 _ k5),Qx,Za zb,Za w4,Za d4,he];rfl
  .have:=o5 j hj;have:=Z6 c13;omega
  .rw[if_pos he,hq0];rfl
 .have q1:bop .int .neq (iv (ZH k s.A)) (.int .i64 0) X3=some (.bool true,X3):=by rw[Zn];simp[he]
  have zb:bld (.agg #[.string ⟨#[]⟩,.string ⟨#[]⟩,.string ⟨#[]⟩,.bool false,.slice none 0 0]) [] X3=some (.agg (usr ([],[])).toArray,X3):=rfl;have w3:=WX (vs:=usr ([],[])) (n:=5) c13 rfl rfl rfl;have d3:ldA 5 (pt X.length) (X3.set X.length (.cells (usr ([],[])) 1 false false))=some (.agg (usr ([],[])).toArray,_):=Qd (n:=5) (ZW c13) rfl;refine⟨⟨[],[],[],false,.slice none 0 0,[]⟩,[],X3.set X.length (.cells (usr ([],[])) 1 false false),f1 _ _ ?_,Zu.nil,by simp,put k13,Nat.zero_le _,by rw[if_neg he];rfl⟩;unfold ZaD;rw[Za z1,Za e2,Za Zp,Za Zq,z2,Za q1,Zb,if_pos rfl,Za zb,Za w3,Za d3];rfl
abbrev W3 (s:NSt):List Tx:=s.A.map (·.1)
theorem ZCH (h:ND X d r s c):∃ v q X',R (n+2) Zbg [pt d] X=some (v,X')/\Zu X' v ((QK (W3 s)).map strv) q/\HLe X X'/\∀ j∈q,X.length<=j:=by
 have e1:run Tryz.prog np lvs (n+1) QI [.map (some r.b)] X=some (.func (.func Ji) #[] #[pt X.length],X++[.cells [.map (some r.b)] 1 false false]):=by
  rw[WQ rfl];unfold Jm;rw[Za (Zdd rfl rfl _)];rfl
 have l1:HLe X (X++[.cells [.map (some r.b)] 1 false false]):=.app _ _;obtain⟨v,q,H2,e2,r2,l2,o2⟩:=(h.m.hle l1).keys (gks:=ZbH) (gc:=Qa) (gk:=Ji) (c:=X.length) (by decide) Zo (Nat.le_trans h.inv.few (by decide)) (fun p hp=>Nat.le_trans (ZcY (h.inv.nm p hp).1) (by decide));have e2':run Tryz.prog np lvs (n+1) ZO [.func (.func Ji) #[] #[pt X.length],.func (.func Qa) #[] #[]] (X++[.cells [.map (some r.b)] 1 false false])=some (v,H2):=by
  rw[Zay (show np ZO=some (Za7 ZbH Qa) from rfl)];exact e2
 refine⟨v,q,H2,?_,r2,l1.trans l2,fun j hj=>Nat.le_trans l1.len (o2 j hj)⟩;rw[R,Zn6 rfl];unfold Zet;rw[Za Zg,Za Zj,Za h.l0,Za e1,Za e2'];rfl
theorem Zu.own_of {v:Value} {vs:List Value} {q:List Nat} (h:Zu X v vs q) {i:Nat} (hi:A.own1 v=some i):i∈q:=by
 rcases h with⟨_,rfl,rfl⟩|⟨sid,rest,g,rfl,rfl,_⟩
 .cases hi
 .cases hi;simp
structure Zi6 (X0 X:Zd) (sl:Value) (us:List ZA) (q:List Nat):Prop where
 r:Yj 5 X sl (us.map ZA.cells) q
 o:∀ j∈q,X0.length<=j
 u:∀ w∈us,∃ qu,Zu X w.gv (w.gs.map strv) qu/\(∀ j∈qu,X0.length<=j/\j∉q)/\w.gs.length<=100000
 un:∀ a∈us,∀ b∈us,∀ i,own1 a.gv=some i->own1 b.gv=some i->a=b
theorem Zi6.us {X0 X:Zd} {sl:Value} {us:List ZA} {q:List Nat} (h:Zi6 X0 X sl us q):YS X sl us:=⟨h.r.rd,fun w hw=>by
 obtain⟨qu,h1,_,h2⟩:=h.u w hw;exact⟨h1.rd,h1.one.1,by omega⟩⟩
theorem Zi6.hle {X0 X Y:Zd} {sl:Value} {us:List ZA} {q:List Nat} (h:Zi6 X0 X sl us q) (hl:HLe X Y):Zi6 X0 Y sl us q:=
 ⟨h.r.step hl.step (by simp),h.o,fun w hw=>by
  obtain⟨qu,h1,h2,h3⟩:=h.u w hw;exact⟨qu,h1.step hl.step (by simp),h2,h3⟩,h.un⟩
def allK (s:NSt):List ZcJ:=(QK (W3 s)).map fun k=>W7 s k ((Zf k s.A).getD ([],false))
end
def Ju (k:Tx) (A:AMp):Acc:=(Zf k A).getD ([],false)
def Y6 (k h:Tx) (A:AMp):Int:=if Zw k then(if WD h then(if(Zf k A).isSome then 9 else if 12<=A.length then 7 else 0) else 4) else 10
def Zcn (k h:Tx) (s:NSt):NSt:=if Y6 k h s.A=0 then { s with A:=Qs k (h,false) s.A } else s
def Zcm (k:Tx) (s:NSt):NSt:=if ZH k s.A=0 then { s with A:=Ys k s.A,OW:=Zb6 k s.OW s.OF,OF:=WI k s.OF,mem:=Zr8 k s.mem } else s
def Yo (k h:Tx) (A:AMp):Int:=if Zw k then(if WD h then(if(Zf k A).isSome then(if(Ju k A).2 then 12 else 0) else 8) else 4) else 10
def Zbp (k h:Tx) (s:NSt):NSt:=if Yo k h s.A=0 then { s with A:=Qs k (h,(Ju k s.A).2) s.A } else s
def Ye (k m:Tx) (s:NSt):Int:=if Zw k then(if m≠[]/\Yn m=false then 11 else if(Zf k s.A).isSome then KF k m s.OW else 8) else 10
def Kw (k m:Tx) (s:NSt):NSt:=if Ye k m s=0 then { s with OW:=ZsS k m s.OW s.OF,OF:=ZeL k m s.OW s.OF } else s
def Yc (k:Tx) (b:Bool) (A:AMp):Int:=if ZH k A=0 then(if(Ju k A).2=b then 12 else 0) else ZH k A
def Kd (k:Tx) (b:Bool) (s:NSt):NSt:=if Yc k b s.A=0 then { s with A:=Qs k ((Ju k s.A).1,b) s.A } else s
def Y4 (o t:Tx) (A:AMp):Int:=if Zw o && Zw t then(if(Zf o A).isSome then(if(Zf t A).isSome then 9 else 0) else 8) else 10
def ZbS (o t:Tx) (s:NSt):NSt:=if Y4 o t s.A=0 then { s with A:=Qs t (Ju o s.A) (Ys o s.A),OW:=ZyF o t s.OW s.OF,OF:=Zmt o t s.OF,mem:=ZgB o t s.mem } else s
def ZkL (g:Tx) (s:NSt):NSt:={ s with K:=Zi1 g s.K }
def Zkd (g:Tx) (s:NSt):NSt:={ s with K:=Zqu g s.K,mem:=if Jn g s.K=0 then Zhz g s.mem else s.mem }
def Yf (g k:Tx) (A:AMp):Int:=if Zw g then ZH k A else 10
def Zbk (g k:Tx) (s:NSt):Int:=if Yf g k s.A=0 then Za0 g k s.K s.mem else Yf g k s.A
def ZeE (g k:Tx) (s:NSt):NSt:=if Zbk g k s=0 then { s with mem:=ZjM g k s.mem } else s
def Zak (g k:Tx) (s:NSt):Int:=if Yf g k s.A=0 then Zc2 g k s.K s.mem else Yf g k s.A
def ZcT (g k:Tx) (s:NSt):NSt:=if Zak g k s=0 then { s with mem:=Zqv g k s.mem } else s
theorem Zba {α:Type} {k j:Tx} {v:α} {m:List (Tx × α)} (h:(Zf j m).isSome=true\/j=k):(Zf j (Qs k v m)).isSome=true:=by
 by_cases e:j=k
 .rw[e,Zaf];rfl
 .rw[KR e];exact h.resolve_right e
theorem JT.putA {s:NSt} (h:JT s) {k:Tx} {v:Acc} (hk:Zw k=true) (hv:WD v.1=true) (hl:(Zf k s.A).isSome=true\/s.A.length < 12):JT { s with A:=Qs k v s.A } where
 nm p hp:=by
  rcases Zkt hp with rfl|hp
  .exact⟨hk,hv⟩
  .exact h.nm p hp
 few:=by
  show(Qs k v s.A).length<=12
  rw[ZcK];have:=h.few;split
  .exact this
  .rename_i hn;rcases hl with h1|h1
   .exact absurd h1 hn
   .omega
 ofA n hn:=Zba (.inl (h.ofA n hn))
 memA g n hn:=Zba (.inl (h.memA g n hn))
 good:=h.good
theorem ZtL {k h:Tx} {A:AMp} (he:Y6 k h A=0):Zw k=true/\WD h=true/\Zf k A=none/\A.length < 12:=by
 unfold Y6 at he;cases h1:Zw k<;>cases h2:WD h<;>rw[h1,h2] at he<;>try simp at he
 by_cases h3:(Zf k A).isSome=true
 .rw[if_pos h3] at he;simp at he
 .rw[if_neg h3] at he;by_cases h4:12<=A.length
  .rw[if_pos h4] at he;simp at he
  .exact⟨rfl,rfl,by simpa using h3,by omega⟩
theorem JT.create {s:NSt} (h:JT s) (k x:Tx):JT (Zcn k x s):=by
 unfold Zcn;split
 .rename_i he;obtain⟨h1,h2,h3,h4⟩:=ZtL he;exact h.putA h1 h2 (.inr h4)
 .exact h
theorem JT.delete {s:NSt} (h:JT s) (k:Tx):JT (Zcm k s):=by
 unfold Zcm;split
 .exact {
   nm:=fun p hp=>h.nm p (List.mem_filter.1 hp).1
   few:=Nat.le_trans (List.length_filter_le _ _) h.few
   ofA:=fun n hn=>by
    have hne:n≠k:=fun e=>by rw[e,Zdi] at hn;cases hn
    show(Zf n (Ys k s.A)).isSome=true
    rw[Yd hne];rw[Zfw hne] at hn;exact h.ofA n hn
   memA:=fun g n hn=>by
    have hn:(s.mem g n && !(n==k))=true:=hn;simp only[Bool.and_eq_true,Bool.not_eq_true',beq_eq_false_iff_ne] at hn;show(Zf n (Ys k s.A)).isSome=true
    rw[Yd hn.2];exact h.memA g n hn.1
   good:=fun n m hn=>by
    have hne:n≠k:=fun e=>by
     have hn:Zf n (WI k s.OF)=some m:=hn;rw[e,Zdi] at hn;cases hn
    have hn:Zf n (WI k s.OF)=some m:=hn;rw[Zfw hne] at hn;exact h.good n m hn }
 .exact h
theorem Zl1 {k:Tx} {A:AMp} (h:(Zf k A).isSome=true):Zf k A=some (Ju k A):=by
 unfold Ju;cases ha:Zf k A with
 | none=>rw[ha] at h;cases h
 | some p=>rfl
theorem Zr3 {k h:Tx} {A:AMp} (he:Yo k h A=0):Zw k=true/\WD h=true/\(Zf k A).isSome=true/\(Ju k A).2=false:=by
 unfold Yo at he;cases h1:Zw k<;>cases h2:WD h<;>rw[h1,h2] at he<;>try simp at he
 cases h3:(Zf k A).isSome<;>cases h4:(Ju k A).2<;>rw[h3,h4] at he<;>simp at he;exact⟨rfl,rfl,rfl,rfl⟩
theorem JT.setHash {s:NSt} (h:JT s) (k x:Tx):JT (Zbp k x s):=by
 unfold Zbp;split
 .rename_i he;obtain⟨h1,h2,h3,h4⟩:=Zr3 he;exact h.putA h1 h2 (.inl h3)
 .exact h
theorem ZyI {k:Tx} {b:Bool} {A:AMp} (he:Yc k b A=0):ZH k A=0/\(Ju k A).2≠b:=by
 unfold Yc at he;by_cases h1:ZH k A=0
 .rw[if_pos h1] at he;refine⟨h1,fun e=>?_⟩;rw[if_pos e] at he;simp at he
 .rw[if_neg h1] at he;exact absurd he h1
theorem JT.disable {s:NSt} (h:JT s) (k:Tx) (b:Bool):JT (Kd k b s):=by
 unfold Kd;split
 .rename_i he;obtain⟨h1,_⟩:=ZyI he;obtain⟨h2,p,h3⟩:=ZqG h1;have h4:(Zf k s.A).isSome=true:=by rw[h3];rfl
  refine h.putA h2 ?_ (.inl h4);have:=h.nm _ (Kz (Zl1 h4));exact this.2
 .exact h
theorem ZyX {k m:Tx} {s:NSt} (he:Ye k m s=0):Zw k=true/\(m=[]\/Yn m=true)/\(Zf k s.A).isSome=true/\KF k m s.OW=0:=by
 unfold Ye at he;cases h1:Zw k
 .rw[h1] at he;simp at he
 .rw[h1] at he;simp only[if_true] at he;by_cases h2:m≠[]/\Yn m=false
  .rw[if_pos h2] at he;simp at he
  .rw[if_neg h2] at he;cases h3:(Zf k s.A).isSome
   .rw[h3] at he;simp at he
   .rw[h3] at he;simp only[if_true] at he;refine⟨rfl,?_,rfl,he⟩;by_cases h4:m=[]
    .exact .inl h4
    .refine .inr ?_;cases h5:Yn m
     .exact absurd ⟨h4,h5⟩ h2
     .rfl
theorem Zhy {k m:Tx} {OW OF:Qw} (he:KF k m OW=0) (n:Tx):Zf n (ZeL k m OW OF)=if n=k then(if m=[] then none else some (QM m)) else Zf n OF:=by
 unfold ZeL;rw[if_pos he];by_cases hm:m=[]
 .rw[if_pos hm,if_pos hm];by_cases hn:n=k
  .rw[if_pos hn,hn,Zdi]
  .rw[if_neg hn,Zfw hn]
 .rw[if_neg hm,if_neg hm];by_cases hn:n=k
  .rw[if_pos hn,hn,Zaf]
  .rw[if_neg hn,KR hn,Zfw hn]
theorem ZoT {m:Tx}:QM (QM m)=QM m:=by
 unfold QM;rw[List.map_map];refine List.map_congr_left fun b _=>?_;exact(ZA0 (p:=fun b=>Zev (Zev b)=Zev b) (by decide+kernel)) b
theorem ZwZ {m:Tx} (h:Yn m=true):Yn (QM m)=true:=by
 unfold Yn at h ⊢;rw[ZoT,show(QM m).length=m.length from by simp[QM]];exact h
theorem JT.setMail {s:NSt} (h:JT s) (k m:Tx):JT (Kw k m s):=by
 unfold Kw;split
 .rename_i he;obtain⟨h1,h2,h3,h4⟩:=ZyX he;exact {
   nm:=h.nm
   few:=h.few
   ofA:=fun n hn=>by
    have hn:(Zf n (ZeL k m s.OW s.OF)).isSome=true:=hn;rw[Zhy h4] at hn;by_cases e:n=k
    .rw[e];exact h3
    .rw[if_neg e] at hn;exact h.ofA n hn
   memA:=h.memA
   good:=fun n v hn=>by
    have hn:Zf n (ZeL k m s.OW s.OF)=some v:=hn;rw[Zhy h4] at hn;by_cases e:n=k
    .rw[if_pos e] at hn;by_cases hm:m=[]
     .rw[if_pos hm] at hn;cases hn
     .rw[if_neg hm] at hn;have hv:QM m=v:=Option.some.inj hn;rw[<- hv];exact⟨ZwZ (h2.resolve_left hm),ZoT⟩
    .rw[if_neg e] at hn;exact h.good n v hn }
 .exact h
theorem ZtO {o t:Tx} {A:AMp} (he:Y4 o t A=0):Zw o=true/\Zw t=true/\(Zf o A).isSome=true/\Zf t A=none/\o≠t:=by
 unfold Y4 at he;cases h1:Zw o<;>cases h2:Zw t<;>rw[h1,h2] at he<;>try simp at he
 cases h3:(Zf o A).isSome<;>cases h4:(Zf t A).isSome<;>rw[h3,h4] at he<;>simp at he;have h4:Zf t A=none:=by simpa using h4
 refine⟨rfl,rfl,rfl,h4,fun e=>?_⟩;rw[e,h4] at h3;cases h3
theorem JT.ofN {s:NSt} (h:JT s) {t:Tx} (ht:Zf t s.A=none):Zf t s.OF=none:=by
 cases ho:Zf t s.OF with
 | none=>rfl
 | some v=>
  have:=h.ofA t (by rw[ho];rfl);rw[ht] at this;cases this
theorem JT.memN {s:NSt} (h:JT s) {t:Tx} (ht:Zf t s.A=none) (g:Tx):s.mem g t=false:=by
 cases ho:s.mem g t with
 | false=>rfl
 | true=>
  have:=h.memA g t ho;rw[ht] at this;cases this
theorem Zyh {o t:Tx} {OF:Qw} (ht:Zw t=true) (hn:Zf t OF=none) (hot:o≠t) (n:Tx):Zf n (Zmt o t OF)=if n=t then Zf o OF else if n=o then none else Zf n OF:=by
 unfold Zmt ZhA;rw[ht,hn];cases ho:Zf o OF with
 | none=>
  simp only[if_true];rw[if_neg (by decide)];by_cases h1:n=t
  .rw[if_pos h1,h1,hn]
  .rw[if_neg h1];by_cases h2:n=o
   .rw[if_pos h2,h2,ho]
   .rw[if_neg h2]
 | some m=>
  simp only[Option.isSome_none,Bool.false_and,if_true,Option.getD_some];rw[if_pos (by simp)];by_cases h1:n=t
  .rw[if_pos h1,h1,Zaf]
  .rw[if_neg h1,KR h1];by_cases h2:n=o
   .rw[if_pos h2,h2,Zdi]
   .rw[if_neg h2,Zfw h2]
theorem JT.rename {s:NSt} (h:JT s) (o t:Tx):JT (ZbS o t s):=by
 unfold ZbS;split
 .rename_i he;obtain⟨h1,h2,h3,h4,h5⟩:=ZtO he;have hof:=h.ofN h4;exact {
   nm:=fun p hp=>by
    rcases Zkt hp with rfl|hp
    .exact⟨h2,(h.nm _ (Kz (Zl1 h3))).2⟩
    .exact h.nm p (List.mem_filter.1 hp).1
   few:=by
    show(Qs t (Ju o s.A) (Ys o s.A)).length<=12
    rw[ZcK];have hf:=h.few;have hlt:(Ys o s.A).length < s.A.length:=by
     unfold Ys;rw[List.length_filter_lt_length_iff_exists];exact⟨_,Kz (Zl1 h3),by simp⟩
    split<;>omega
   ofA:=fun n hn=>by
    have hn:(Zf n (Zmt o t s.OF)).isSome=true:=hn;rw[Zyh h2 hof h5] at hn;show(Zf n (Qs t (Ju o s.A) (Ys o s.A))).isSome=true
    by_cases e1:n=t
    .exact Zba (.inr e1)
    .rw[if_neg e1] at hn;by_cases e2:n=o
     .rw[if_pos e2] at hn;cases hn
     .rw[if_neg e2] at hn;exact Zba (.inl (by rw[Yd e2];exact h.ofA n hn))
   memA:=fun g n hn=>by
    have hn:ZgB o t s.mem g n=true:=hn;show(Zf n (Qs t (Ju o s.A) (Ys o s.A))).isSome=true
    by_cases e1:n=t
    .exact Zba (.inr e1)
    .have hm:s.mem g n=true/\n≠o:=by
      unfold ZgB at hn;cases hg:s.mem g o
      .rw[hg] at hn;simp only[Bool.false_eq_true,if_false] at hn;exact⟨hn,fun e=>by rw[e,hg] at hn;cases hn⟩
      .rw[hg] at hn;simp only[if_true,Bool.or_eq_true,beq_iff_eq,Bool.and_eq_true,Bool.not_eq_true',beq_eq_false_iff_ne] at hn;rcases hn with hn|hn
       .exact absurd hn e1
       .exact hn
     exact Zba (.inl (by rw[Yd hm.2];exact h.memA g n hm.1))
   good:=fun n v hn=>by
    have hn:Zf n (Zmt o t s.OF)=some v:=hn;rw[Zyh h2 hof h5] at hn;by_cases e1:n=t
    .rw[if_pos e1] at hn;exact h.good o v hn
    .rw[if_neg e1] at hn;by_cases e2:n=o
     .rw[if_pos e2] at hn;cases hn
     .rw[if_neg e2] at hn;exact h.good n v hn }
 .exact h
theorem JT.make {s:NSt} (h:JT s) (g:Tx):JT (ZkL g s):=⟨h.nm,h.few,h.ofA,h.memA,h.good⟩
theorem JT.drop {s:NSt} (h:JT s) (g:Tx):JT (Zkd g s):=by
 refine⟨h.nm,h.few,h.ofA,fun k n hn=>?_,h.good⟩;have hn:(if Jn g s.K=0 then Zhz g s.mem else s.mem) k n=true:=hn;split at hn
 .unfold Zhz at hn;simp only[Bool.and_eq_true] at hn;exact h.memA k n hn.1
 .exact h.memA k n hn
theorem ZBi {g k:Tx} {A:AMp} (h:Yf g k A=0):Zw g=true/\ZH k A=0:=by
 unfold Yf at h;cases hg:Zw g
 .rw[hg] at h;simp at h
 .rw[hg] at h;exact⟨rfl,h⟩
theorem JT.join {s:NSt} (h:JT s) (g k:Tx):JT (ZeE g k s):=by
 unfold ZeE;split
 .rename_i he;unfold Zbk at he;by_cases hm:Yf g k s.A=0
  .obtain⟨_,h2⟩:=ZBi hm;obtain⟨_,p,h3⟩:=ZqG h2;refine⟨h.nm,h.few,h.ofA,fun j n hn=>?_,h.good⟩;have hn:(s.mem j n || (j==g && n==k))=true:=hn;simp only[Bool.or_eq_true,Bool.and_eq_true,beq_iff_eq] at hn;rcases hn with hn|⟨_,hn⟩
   .exact h.memA j n hn
   .show(Zf n s.A).isSome=true
    rw[hn,h3];rfl
  .rw[if_neg hm] at he;exact absurd he hm
 .exact h
theorem JT.leave {s:NSt} (h:JT s) (g k:Tx):JT (ZcT g k s):=by
 unfold ZcT;split
 .refine⟨h.nm,h.few,h.ofA,fun j n hn=>?_,h.good⟩;have hn:(s.mem j n && !(j==g && n==k))=true:=hn;simp only[Bool.and_eq_true] at hn;exact h.memA j n hn.1
 .exact h
section
variable {X X':Zd} {n d c c':Nat} {r:NR} {s:NSt} {k h m t o g:Tx}
theorem NR.mem_b (r:NR):r.b∈r.own:=by simp[NR.own]
theorem NR.mem_o (r:NR):r.o∈r.own:=by simp[NR.own]
theorem NR.mem_a (r:NR):r.a∈r.own:=by simp[NR.own]
theorem NR.mem_g (r:NR):∀ j∈Q3 r.o2 r.G,j∈r.own:=fun j hj=>by
 unfold NR.own;exact List.mem_cons_of_mem _ (List.mem_cons_of_mem _ (List.mem_cons_of_mem _ hj))
theorem ND0.more (hd:ND0 X d r s c) (hc:c<=c'):ND0 X d r s c':=⟨hd.cell,hd.m,hd.ix,hd.gr.more hc (fun _ _=>rfl),hd.ks,hd.dis⟩
theorem ND0.setA (hd:ND0 X d r s c) {A':AMp} (m':JL Zar X' r.b A') (hs:Zr [r.b] X [r.b] X'):ND0 X' d r { s with A:=A' } c/\Zr r.own X r.own X':=by
 obtain⟨h1,h2,h3,_,_⟩:=hd.dis;have nb:∀ {j},j∉r.own->j∉[r.b]:=fun hj e=>hj (by rw[List.mem_singleton.1 e];exact r.mem_b);refine⟨⟨hs.get hd.cell (nb hd.dnot),m',hd.ix.step hs (nb hd.xnot) (by simpa using Ne.symm h1) (by simpa using Ne.symm h2),hd.gr.step hs (nb hd.gnot) (fun j hj e=>h3 ?_),hd.ks,hd.dis⟩,hs.mono2 (by simpa using r.mem_b)⟩;rw[<- List.mem_singleton.1 e];exact hj
theorem ND0.setI (hd:ND0 X d r s c) {OW' OF':Qw} (i':Idx X' r.x r.o r.a OW' OF') (hs:Zr [r.o,r.a] X [r.o,r.a] X'):ND0 X' d r { s with OW:=OW',OF:=OF' } c/\Zr r.own X r.own X':=by
 obtain⟨h1,h2,h3,h4,h5⟩:=hd.dis;have no:∀ j∈[r.o,r.a],j∈r.own:=fun j hj=>by
  simp only[List.mem_cons,List.not_mem_nil,or_false] at hj;rcases hj with rfl|rfl
  .exact r.mem_o
  .exact r.mem_a
 refine⟨⟨hs.get hd.cell (fun e=>hd.dnot (no _ e)),hd.m.step hs (by simp[h1,h2]),i',hd.gr.step hs (fun e=>hd.gnot (no _ e)) (fun j hj e=>?_),hd.ks,hd.dis⟩,hs.mono2 no⟩;simp only[List.mem_cons,List.not_mem_nil,or_false] at e;rcases e with rfl|rfl
 .exact h4 hj
 .exact h5 hj
theorem ND0.setG (hd:ND0 X d r s c) {G':ZcR} {mem':Mem} {K':List Tx} (g':Grp X' r.g r.o2 G' mem' c') (hs:Zr (Q3 r.o2 r.G) X (Q3 r.o2 G') X') (hk:ZK G'=K'):ND0 X' d { r with G:=G' } { s with K:=K',mem:=mem' } c'/\Zr r.own X (NR.own { r with G:=G' }) X':=by
 obtain⟨h1,h2,h3,h4,h5⟩:=hd.dis;have hb:=hd.isMap r.mem_b;have ho:=hd.isMap r.mem_o;have ha:=hd.isMap r.mem_a;have new:∀ j,j < X.length->j∉Q3 r.o2 r.G->j∉Q3 r.o2 G':=fun j hj hn hm=>by
  rcases hs.own j hm with e|e
  .exact hn e
  .omega
 refine⟨⟨hs.get hd.cell (fun e=>hd.dnot (r.mem_g _ e)),hd.m.step hs h3,hd.ix.step hs (fun e=>hd.xnot (r.mem_g _ e)) h4 h5,g',hk,⟨h1,h2,new _ hb.1 h3,new _ ho.1 h4,new _ ha.1 h5⟩⟩,hs.more r.mem_g (fun j hj=>?_)⟩;unfold NR.own at hj ⊢;rcases List.mem_cons.1 hj with rfl|hj
 .exact .inl (by simp)
 .rcases List.mem_cons.1 hj with rfl|hj
  .exact .inl (by simp)
  .rcases List.mem_cons.1 hj with rfl|hj
   .exact .inl (by simp)
   .exact .inr (.inl hj)
theorem Zc3 (hd:ND X d r s c):∃ (p:Nat) (X2:Zd),(∀ {β:Type} (K:Value->Value->M β),bind (R (n+9) Qy [pt d,strv k]) (fun v12=>bind (Zm v12 0) fun v13=>bind (Zm v12 1) fun v14=>bind (alc 1 (.agg #[.string ⟨#[]⟩,.bool false])) fun v7=>bind (stA 2 v7 v13) fun _=>K v7 v14) X=K (pt p) (iv (ZH k s.A)) X2)/\
  X2[p]?=some (.cells [strv (if Zw k then Ju k s.A else([],false)).1,.bool (if Zw k then Ju k s.A else([],false)).2] 1 false false)/\HLe X X2/\X.length<=p:=by
 obtain⟨X1,e1,k1⟩:=ZxT (n:=n+3) (k:=k) hd;have e1:R (n+9) Qy [pt d,strv k] X=some (.tuple #[Zar (if Zw k then Ju k s.A else([],false)),iv (ZH k s.A)],X1):=e1;generalize(if Zw k then Ju k s.A else([],false))=a at e1;refine⟨X1.length,X1++[.cells [strv a.1,.bool a.2] 1 false false],fun {β} K=>?_,Zo,k1.trans (.app _ _),k1.len⟩;rw[Za e1,Za Zp,Za Zq];exact ZbB (n:=2) (zs:=[strv [],.bool false]) (r:=[strv a.1,.bool a.2]) (k:=fun v7=>K v7 (iv (ZH k s.A))) rfl rfl rfl rfl
theorem Zwj {p:Nat} {X2 X3:Zd} {own:List Nat} {ob:Ze} (hle:HLe X X2) (hp:X.length<=p) (hs:Zr own (X2.set p ob) own X3):Zr own X own X3:=
 ⟨by have:=hle.len;have:=hs.len;rw[List.length_set] at this;omega,fun j hj hn=>by
  rw[hs.keep j (by rw[List.length_set];have:=hle.len;omega) hn,List.getElem?_set_ne (by omega)];exact hle.step.keep j hj (by simp),fun j hj=>.inl hj⟩
theorem ND0.box (hd:ND0 X d r s c) {p:Nat} {X2:Zd} {ob:Ze} (hle:HLe X X2) (hp:X.length<=p):ND0 (X2.set p ob) d r s c:=by
 have hs:Zr [] X [] (X2.set p ob):=⟨by rw[List.length_set];exact hle.len,fun j hj hn=>by
  rw[List.getElem?_set_ne (by omega)];exact hle.step.keep j hj (by simp),fun j hj=>by cases hj⟩
 exact hd.step hs (by simp) (by simp) (by simp) (by simp)
theorem Zq3 {Y:Zd}:R (n+9) KZ [strv h] Y=some (iv (QG h),Y):=Zs2 (n:=n+5)
theorem ZAY (hd:ND X d r s c):∃ X',R (n+10) ZaG [pt d,strv k,strv h] X=some (iv (Y6 k h s.A),X')/\ND X' d r (Zcn k h s) c/\Zr r.own X r.own X':=by
 obtain⟨p,X2,e1,c1,k1,hp⟩:=Zc3 (n:=n) (k:=k) hd;have h2:=hd.hle k1;have f1:∀ v X',ZaJ (R (n+9)) (pt d) (strv k) (strv h) X=some (v,X')->R (n+10) ZaG [pt d,strv k,strv h] X=some (v,X'):=fun v X' hr=>by rw[R,Zl7 rfl];exact hr
 have hstep:Zr r.own X r.own X2:=k1.stepq;by_cases he:Y6 k h s.A=0
 .obtain⟨a1,a2,a3,a4⟩:=ZtL he;have hN:ZH k s.A=8:=by unfold ZH;rw[a1,a3];rfl
  rw[hN] at e1;obtain⟨X3,e3,m3,s3,_⟩:=h2.m.mup (k:=k) (v:=((h,false):Acc));have e3:mup .str (.map (some r.b)) (strv k) (Zar (h,false)) X2=_:=e3;obtain⟨d3,s4⟩:=h2.toND0.setA m3 s3;have hn:Zcn k h s={ s with A:=Qs k (h,false) s.A }:=by unfold Zcn;rw[if_pos he]
  rw[he,hn];refine⟨X3,f1 _ _ ?_,⟨d3,by rw[<- hn];exact hd.inv.create k h⟩,hstep.trans s4⟩;have q1:bop .int .eql (iv 8) (.int .i64 10) X2=some (.bool false,X2):=by rw[ZE];rfl
  have q2:bop .int .neq (iv (QG h)) (.int .i64 0) X2=some (.bool false,X2):=by rw[Zn];unfold QG;rw[a2];rfl
  have q3:bop .int .eql (iv 8) (.int .i64 0) X2=some (.bool false,X2):=by rw[ZE];rfl
  have q4:bop .int .geq (iv s.A.length) (.int .i64 12) X2=some (.bool false,X2):=by rw[Qo,decide_eq_false (by omega)]
  have zb:bld (.agg #[.string ⟨#[]⟩,.bool false]) [(0,1,strv h)] X2=some (Zar (h,false),X2):=by
   simp[bld,WB,Value.cells,Yw,strv,splice,Zar]
  unfold ZaJ;refine(e1 _).trans ?_;rw[Za q1,Zb,if_neg (by simp),Za Zq3,Za q2,Zb,if_neg (by simp),Za q3,Zb,if_neg (by simp),Za Zg,Za Zj,Za h2.l0,Za h2.m.len,Za q4,Zb,if_neg (by simp),Za Zg,Za Zj,Za h2.l0,Za zb,Za e3];rfl
 .have hn:Zcn k h s=s:=by unfold Zcn;rw[if_neg he]
  rw[hn];refine⟨X2,f1 _ _ ?_,h2,hstep⟩;unfold ZaJ;refine(e1 _).trans ?_;cases a1:Zw k
  .have hN:ZH k s.A=10:=by unfold ZH;rw[a1];rfl
   have hE:Y6 k h s.A=10:=by unfold Y6;rw[a1];rfl
   have q1:bop .int .eql (iv 10) (.int .i64 10) X2=some (.bool true,X2):=by rw[ZE];rfl
   rw[hN,hE,Za q1,Zb,if_pos rfl];rfl
  .have hN:ZH k s.A=0\/ZH k s.A=8:=by unfold ZH;rw[a1];cases (Zf k s.A).isSome<;>simp
   have q1:bop .int .eql (iv (ZH k s.A)) (.int .i64 10) X2=some (.bool false,X2):=by rw[ZE];rcases hN with h1|h1<;>rw[h1]<;>rfl
   rw[Za q1,Zb,if_neg (by simp),Za Zq3];cases a2:WD h
   .have hE:Y6 k h s.A=4:=by unfold Y6;rw[a1,a2];rfl
    have q2:bop .int .neq (iv (QG h)) (.int .i64 0) X2=some (.bool true,X2):=by rw[Zn];unfold QG;rw[a2];rfl
    rw[Za q2,Zb,if_pos rfl,hE];rfl
   .have q2:bop .int .neq (iv (QG h)) (.int .i64 0) X2=some (.bool false,X2):=by rw[Zn];unfold QG;rw[a2];rfl
    rw[Za q2,Zb,if_neg (by simp)];cases a3:(Zf k s.A).isSome
    .have hN:ZH k s.A=8:=by unfold ZH;rw[a1,a3];rfl
     have q3:bop .int .eql (iv (ZH k s.A)) (.int .i64 0) X2=some (.bool false,X2):=by rw[ZE,hN];rfl
     have a4:12<=s.A.length:=by
      unfold Y6 at he;rw[a1,a2,a3] at he;simpa using he
     have hE:Y6 k h s.A=7:=by unfold Y6;rw[a1,a2,a3];simp[a4]
     have q4:bop .int .geq (iv s.A.length) (.int .i64 12) X2=some (.bool true,X2):=by rw[Qo,decide_eq_true (by omega)]
     rw[Za q3,Zb,if_neg (by simp),Za Zg,Za Zj,Za h2.l0,Za h2.m.len,Za q4,Zb,if_pos rfl,hE];rfl
    .have hN:ZH k s.A=0:=by unfold ZH;rw[a1,a3];rfl
     have hE:Y6 k h s.A=9:=by unfold Y6;rw[a1,a2,a3];rfl
     have q3:bop .int .eql (iv (ZH k s.A)) (.int .i64 0) X2=some (.bool true,X2):=by rw[ZE,hN];rfl
     rw[Za q3,Zb,if_pos rfl,hE];rfl
theorem ZAH (hd:ND X d r s c):∃ X',R (n+10) Zat [pt d,strv k] X=some (iv (ZH k s.A),X')/\ND X' d r (Zcm k s) c/\Zr r.own X r.own X':=by
 obtain⟨p,X2,e1,c1,k1,hp⟩:=Zc3 (n:=n) (k:=k) hd;have h2:=hd.hle k1;have f1:∀ v X',ZaC (R (n+9)) (pt d) (strv k) X=some (v,X')->R (n+10) Zat [pt d,strv k] X=some (v,X'):=fun v X' hr=>by rw[R,ZmU rfl];exact hr
 have hstep:Zr r.own X r.own X2:=k1.stepq;by_cases he:ZH k s.A=0
 .obtain⟨X3,e3,m3,s3,_⟩:=h2.m.mde (k:=k);obtain⟨d3,t3⟩:=h2.toND0.setA m3 s3;obtain⟨X4,e4,i4,s4⟩:=Zny (n:=n+8) (k:=k) d3.ix;have e4:R (n+9) Jp [pt r.x,strv k] X3=_:=e4;obtain⟨d4,t4⟩:=d3.setI i4 s4;obtain⟨X5,e5,g5,s5⟩:=ZAJ (n:=n+1) (m:=k) d4.gr;have e5:R (n+9) Wf [pt r.g,strv k] X4=_:=e5;obtain⟨d5,t5⟩:=d4.setG g5 s5 hd.ks;have q1:bop .int .neq (iv (ZH k s.A)) (.int .i64 0) X2=some (.bool false,X2):=by rw[Zn,he];rfl
  have hn:Zcm k s={ s with A:=Ys k s.A,OW:=Zb6 k s.OW s.OF,OF:=WI k s.OF,mem:=Zr8 k s.mem }:=by unfold Zcm;rw[if_pos he]
  have hinv:=hd.inv.delete k;rw[hn] at hinv ⊢;refine⟨X5,f1 _ _ ?_,⟨d5,hinv⟩,((hstep.trans t3).trans t4).trans t5⟩;unfold ZaC;refine(e1 _).trans ?_;rw[Za q1,Zb,if_neg (by simp),Za Zg,Za Zj,Za h2.l0,Za e3,Za Zg,Za Zj,Za d3.l1,Za e4,Za Zg,Za Zj,Za d4.l2,Za e5,he];rfl
 .have hn:Zcm k s=s:=by unfold Zcm;rw[if_neg he]
  have q1:bop .int .neq (iv (ZH k s.A)) (.int .i64 0) X2=some (.bool true,X2):=by rw[Zn];simp[he]
  rw[hn];refine⟨X2,f1 _ _ ?_,h2,hstep⟩;unfold ZaC;refine(e1 _).trans ?_;rw[Za q1,Zb,if_pos rfl];rfl
theorem Zy4 (hd:ND X d r s c):∃ X',R (n+10) WV [pt d,strv k,strv h] X=some (iv (Yo k h s.A),X')/\ND X' d r (Zbp k h s) c/\Zr r.own X r.own X':=by
 obtain⟨p,X2,e1,c1,k1,hp⟩:=Zc3 (n:=n) (k:=k) hd;have h2:=hd.hle k1;have f1:∀ v X',WR (R (n+9)) (pt d) (strv k) (strv h) X=some (v,X')->R (n+10) WV [pt d,strv k,strv h] X=some (v,X'):=fun v X' hr=>by rw[R,Zli rfl];exact hr
 have hstep:Zr r.own X r.own X2:=k1.stepq;by_cases he:Yo k h s.A=0
 .obtain⟨a1,a2,a3,a4⟩:=Zr3 he;have hN:ZH k s.A=0:=by unfold ZH;rw[a1,a3];rfl
  rw[hN] at e1;rw[a1] at c1;have c1:X2[p]?=some (.cells [strv (Ju k s.A).1,.bool (Ju k s.A).2] 1 false false):=c1;have l1:ld1 (pa p 1) X2=some (.bool false,X2):=by rw[Zv c1 rfl,a4]
  have w1:st1 (pa p 0) (strv h) X2=some (undef,X2.set p (.cells [strv h,.bool (Ju k s.A).2] 1 false false)):=Zew (o:=0) c1 (by simp) rfl;have d2:ldA 2 (pt p) (X2.set p (.cells [strv h,.bool (Ju k s.A).2] 1 false false))=some (Zar (h,(Ju k s.A).2),_):=Qd (n:=2) (ZW c1) rfl;have h3:=hd.toND0.box (ob:=.cells [strv h,.bool (Ju k s.A).2] 1 false false) k1 hp;obtain⟨X3,e3,m3,s3,_⟩:=h3.m.mup (k:=k) (v:=((h,(Ju k s.A).2):Acc));obtain⟨d3,s4⟩:=h3.setA m3 s3;have hn:Zbp k h s={ s with A:=Qs k (h,(Ju k s.A).2) s.A }:=by unfold Zbp;rw[if_pos he]
  have hinv:=hd.inv.setHash k h;rw[hn] at hinv ⊢;rw[he];refine⟨X3,f1 _ _ ?_,⟨d3,hinv⟩,Zwj k1 hp s4⟩;have q1:bop .int .eql (iv 0) (.int .i64 10) X2=some (.bool false,X2):=by rw[ZE];rfl
  have q2:bop .int .neq (iv (QG h)) (.int .i64 0) X2=some (.bool false,X2):=by rw[Zn];unfold QG;rw[a2];rfl
  have q3:bop .int .neq (iv 0) (.int .i64 0) X2=some (.bool false,X2):=by rw[Zn];rfl
  unfold WR;refine(e1 _).trans ?_;rw[Za q1,Zb,if_neg (by simp),Za Zq3,Za q2,Zb,if_neg (by simp),Za q3,Zb,if_neg (by simp),Za Zj,Za l1,Zb,if_neg (by simp),Za Zj,Za w1,Za Zg,Za Zj,Za h3.l0,Za d2,Za e3];rfl
 .have hn:Zbp k h s=s:=by unfold Zbp;rw[if_neg he]
  rw[hn];refine⟨X2,f1 _ _ ?_,h2,hstep⟩;unfold WR;refine(e1 _).trans ?_;cases a1:Zw k
  .have hN:ZH k s.A=10:=by unfold ZH;rw[a1];rfl
   have hE:Yo k h s.A=10:=by unfold Yo;rw[a1];rfl
   have q1:bop .int .eql (iv 10) (.int .i64 10) X2=some (.bool true,X2):=by rw[ZE];rfl
   rw[hN,hE,Za q1,Zb,if_pos rfl];rfl
  .rw[a1] at c1;have c1:X2[p]?=some (.cells [strv (Ju k s.A).1,.bool (Ju k s.A).2] 1 false false):=c1;have hN:ZH k s.A=0\/ZH k s.A=8:=by unfold ZH;rw[a1];cases (Zf k s.A).isSome<;>simp
   have q1:bop .int .eql (iv (ZH k s.A)) (.int .i64 10) X2=some (.bool false,X2):=by rw[ZE];rcases hN with h1|h1<;>rw[h1]<;>rfl
   rw[Za q1,Zb,if_neg (by simp),Za Zq3];cases a2:WD h
   .have hE:Yo k h s.A=4:=by unfold Yo;rw[a1,a2];rfl
    have q2:bop .int .neq (iv (QG h)) (.int .i64 0) X2=some (.bool true,X2):=by rw[Zn];unfold QG;rw[a2];rfl
    rw[Za q2,Zb,if_pos rfl,hE];rfl
   .have q2:bop .int .neq (iv (QG h)) (.int .i64 0) X2=some (.bool false,X2):=by rw[Zn];unfold QG;rw[a2];rfl
    rw[Za q2,Zb,if_neg (by simp)];cases a3:(Zf k s.A).isSome
    .have hN:ZH k s.A=8:=by unfold ZH;rw[a1,a3];rfl
     have hE:Yo k h s.A=8:=by unfold Yo;rw[a1,a2,a3];rfl
     have q3:bop .int .neq (iv (ZH k s.A)) (.int .i64 0) X2=some (.bool true,X2):=by rw[Zn,hN];rfl
     rw[Za q3,Zb,if_pos rfl,hE,hN];rfl
    .have hN:ZH k s.A=0:=by unfold ZH;rw[a1,a3];rfl
     have q3:bop .int .neq (iv (ZH k s.A)) (.int .i64 0) X2=some (.bool false,X2):=by rw[Zn,hN];rfl
     have a4:(Ju k s.A).2=true:=by
      unfold Yo at he;rw[a1,a2,a3] at he;simpa using he
     have hE:Yo k h s.A=12:=by unfold Yo;rw[a1,a2,a3,a4];rfl
     have l1:ld1 (pa p 1) X2=some (.bool true,X2):=by rw[Zv c1 rfl,a4]
     rw[Za q3,Zb,if_neg (by simp),Za Zj,Za l1,Zb,if_pos rfl,hE];rfl
theorem Zzh (hd:ND X d r s c):∃ X',R (n+10) K3 [pt d,strv k,strv m] X=some (iv (Ye k m s),X')/\ND X' d r (Kw k m s) c/\Zr r.own X r.own X':=by
 obtain⟨p,X2,e1,c1,k1,hp⟩:=Zc3 (n:=n) (k:=k) hd;have f1:∀ v X',Ke (R (n+9)) (pt d) (strv k) (strv m) X=some (v,X')->R (n+10) K3 [pt d,strv k,strv m] X=some (v,X'):=fun v X' hr=>by rw[R,Zlm rfl];exact hr
 obtain⟨X3,e3,k3⟩:=ZrP (n:=n+1) (s:=m) (X:=X2);have e3:R (n+9) W4 [strv m] X2=_:=e3;have k13:=k1.trans k3;have h3:=hd.hle k13;have hstep:Zr r.own X r.own X3:=k13.stepq;have hgate:∀ K:Value->M Value,bind (bop .str .neq (strv m) (Value.string ⟨#[]⟩)) (fun v28=>bind (gate v28 true 2 (bind (bop .int .neq (iv (if Yn m then 0 else 11)) (Value.int .i64 0)) fun v31=>ret [iv (if Yn m then 0 else 11),v31])) (c2 fun _ q=>bind (pick v28 q (Value.bool false)) K)) X3=K (.bool (decide (m≠[]/\Yn m=false))) X3:=fun K=>by
  have q0:bop .str .neq (strv m) (.string ⟨#[]⟩) X3=some (.bool (decide (m≠[])),X3):=by
   have:=ZiB (a:=m) (b:=[]) (H:=X3);rw[show(strv []:Value)=.string ⟨#[]⟩ from rfl] at this;rw[this];by_cases h:m=[]<;>simp[h]
  have q1:bop .int .neq (iv (if Yn m then 0 else 11)) (.int .i64 0) X3=some (.bool (!Yn m),X3):=by
   rw[Zn];cases Yn m<;>rfl
  rw[Za q0];by_cases h:m=[]
  .rw[decide_eq_false (fun e=>e h),Za (g_r.trans (if_neg (by simp)))];simp only[List.replicate];rw[Qv,Za Zl,decide_eq_false (fun e=>e.1 h)];rfl
  .rw[decide_eq_true h,Z0,Zk,Za q1,Qe,Qv,Za Zl];cases hm:Yn m<;>simp[h]
 cases a1:Zw k
 .have hN:ZH k s.A=10:=by unfold ZH;rw[a1];rfl
  have hE:Ye k m s=10:=by unfold Ye;rw[a1];rfl
  have hn:Kw k m s=s:=by unfold Kw;rw[if_neg (by rw[hE];decide)]
  have q1:bop .int .eql (iv 10) (.int .i64 10) X3=some (.bool true,X3):=by rw[ZE];rfl
  rw[hn,hE];refine⟨X3,f1 _ _ ?_,h3,hstep⟩;unfold Ke;refine(e1 _).trans ?_;rw[Za e3,Za Zp,Za Zq,hN,Za q1,Zb,if_pos rfl];rfl
 .have hN:ZH k s.A=0\/ZH k s.A=8:=by unfold ZH;rw[a1];cases (Zf k s.A).isSome<;>simp
  have q1:bop .int .eql (iv (ZH k s.A)) (.int .i64 10) X3=some (.bool false,X3):=by rw[ZE];rcases hN with h1|h1<;>rw[h1]<;>rfl
  by_cases hb:m≠[]/\Yn m=false
  .have hE:Ye k m s=11:=by unfold Ye;rw[a1];simp[hb]
   have hn:Kw k m s=s:=by unfold Kw;rw[if_neg (by rw[hE];decide)]
   rw[hn,hE];refine⟨X3,f1 _ _ ?_,h3,hstep⟩;unfold Ke;refine(e1 _).trans ?_;rw[Za e3,Za Zp,Za Zq,Za q1,Zb,if_neg (by simp)];refine(hgate _).trans ?_;rw[decide_eq_true hb,Zb,if_pos rfl,hb.2];rfl
  .cases a3:(Zf k s.A).isSome
   .have hN:ZH k s.A=8:=by unfold ZH;rw[a1,a3];rfl
    have hE:Ye k m s=8:=by unfold Ye;rw[a1,if_pos rfl,if_neg hb,a3];rfl
    have hn:Kw k m s=s:=by unfold Kw;rw[if_neg (by rw[hE];decide)]
    have q3:bop .int .neq (iv (ZH k s.A)) (.int .i64 0) X3=some (.bool true,X3):=by rw[Zn,hN];rfl
    rw[hn,hE];refine⟨X3,f1 _ _ ?_,h3,hstep⟩;unfold Ke;refine(e1 _).trans ?_;rw[Za e3,Za Zp,Za Zq,Za q1,Zb,if_neg (by simp)];refine(hgate _).trans ?_;rw[decide_eq_false hb,Zb,if_neg (by simp),Za q3,Zb,if_pos rfl,hN];rfl
   .have hN:ZH k s.A=0:=by unfold ZH;rw[a1,a3];rfl
    have hE:Ye k m s=KF k m s.OW:=by unfold Ye;rw[a1,if_pos rfl,if_neg hb,a3];rfl
    have q3:bop .int .neq (iv (ZH k s.A)) (.int .i64 0) X3=some (.bool false,X3):=by rw[Zn,hN];rfl
    obtain⟨X4,e4,i4,s4⟩:=ZAe (n:=n) (k:=k) (m:=m) h3.ix;obtain⟨d4,t4⟩:=h3.toND0.setI i4 s4;have hn:Kw k m s={ s with OW:=ZsS k m s.OW s.OF,OF:=ZeL k m s.OW s.OF }:=by
     unfold Kw;by_cases h0:Ye k m s=0
     .rw[if_pos h0]
     .rw[if_neg h0];rw[hE] at h0;unfold ZsS ZeL;rw[if_neg h0,if_neg h0]
    have hinv:=hd.inv.setMail k m;rw[hn] at hinv ⊢;rw[hE];refine⟨X4,f1 _ _ ?_,⟨d4,hinv⟩,hstep.trans t4⟩;unfold Ke;refine(e1 _).trans ?_;rw[Za e3,Za Zp,Za Zq,Za q1,Zb,if_neg (by simp)];refine(hgate _).trans ?_;rw[decide_eq_false hb,Zb,if_neg (by simp),Za q3,Zb,if_neg (by simp),Za Zg,Za Zj,Za h3.l1,Za e4];rfl
theorem ZqZ {b:Bool} (hd:ND X d r s c):∃ X',R (n+10) Yz [pt d,strv k,.bool b] X=some (iv (Yc k b s.A),X')/\ND X' d r (Kd k b s) c/\Zr r.own X r.own X':=by
 obtain⟨p,X2,e1,c1,k1,hp⟩:=Zc3 (n:=n) (k:=k) hd;have h2:=hd.hle k1;have f1:∀ v X',K5 (R (n+9)) (pt d) (strv k) (.bool b) X=some (v,X')->R (n+10) Yz [pt d,strv k,.bool b] X=some (v,X'):=fun v X' hr=>by rw[R,Zly rfl];exact hr
 have hstep:Zr r.own X r.own X2:=k1.stepq;by_cases hN:ZH k s.A=0
 .obtain⟨a1,_⟩:=ZqG hN;rw[a1] at c1;have c1:X2[p]?=some (.cells [strv (Ju k s.A).1,.bool (Ju k s.A).2] 1 false false):=c1;have l1:ld1 (pa p 1) X2=some (.bool (Ju k s.A).2,X2):=Zv c1 rfl;have q1:bop .int .neq (iv (ZH k s.A)) (.int .i64 0) X2=some (.bool false,X2):=by rw[Zn,hN];rfl
  by_cases hb:(Ju k s.A).2=b
  .have hE:Yc k b s.A=12:=by unfold Yc;rw[if_pos hN,if_pos hb]
   have hn:Kd k b s=s:=by unfold Kd;rw[if_neg (by rw[hE];decide)]
   have q2:bop .bool .eql (.bool (Ju k s.A).2) (.bool b) X2=some (.bool true,X2):=by rw[JA,hb];simp
   rw[hn,hE];refine⟨X2,f1 _ _ ?_,h2,hstep⟩;unfold K5;refine(e1 _).trans ?_;rw[Za q1,Zb,if_neg (by simp),Za Zj,Za l1,Za q2,Zb,if_pos rfl];rfl
  .have hE:Yc k b s.A=0:=by unfold Yc;rw[if_pos hN,if_neg hb]
   have q2:bop .bool .eql (.bool (Ju k s.A).2) (.bool b) X2=some (.bool false,X2):=by rw[JA];simp[hb]
   have w1:st1 (pa p 1) (.bool b) X2=some (undef,X2.set p (.cells [strv (Ju k s.A).1,.bool b] 1 false false)):=Zew (o:=1) c1 (by simp) rfl;have d2:ldA 2 (pt p) (X2.set p (.cells [strv (Ju k s.A).1,.bool b] 1 false false))=some (Zar ((Ju k s.A).1,b),_):=Qd (n:=2) (ZW c1) rfl;have h3:=hd.toND0.box (ob:=.cells [strv (Ju k s.A).1,.bool b] 1 false false) k1 hp;obtain⟨X3,e3,m3,s3,_⟩:=h3.m.mup (k:=k) (v:=(((Ju k s.A).1,b):Acc));obtain⟨d3,s4⟩:=h3.setA m3 s3;have hn:Kd k b s={ s with A:=Qs k ((Ju k s.A).1,b) s.A }:=by unfold Kd;rw[if_pos hE]
   have hinv:=hd.inv.disable k b;rw[hn] at hinv ⊢;rw[hE];refine⟨X3,f1 _ _ ?_,⟨d3,hinv⟩,Zwj k1 hp s4⟩;unfold K5;refine(e1 _).trans ?_;rw[Za q1,Zb,if_neg (by simp),Za Zj,Za l1,Za q2,Zb,if_neg (by simp),Za Zj,Za w1,Za Zg,Za Zj,Za h3.l0,Za d2,Za e3];rfl
 .have hE:Yc k b s.A=ZH k s.A:=by unfold Yc;rw[if_neg hN]
  have hn:Kd k b s=s:=by unfold Kd;rw[if_neg (by rw[hE];exact hN)]
  have q1:bop .int .neq (iv (ZH k s.A)) (.int .i64 0) X2=some (.bool true,X2):=by rw[Zn];simp[hN]
  rw[hn,hE];refine⟨X2,f1 _ _ ?_,h2,hstep⟩;unfold K5;refine(e1 _).trans ?_;rw[Za q1,Zb,if_pos rfl];rfl
theorem Zz0 (hd:ND X d r s c):∃ X',R (n+10) Wp [pt d,strv o,strv t] X=some (iv (Y4 o t s.A),X')/\ND X' d r (ZbS o t s) c/\Zr r.own X r.own X':=by
 obtain⟨p,X2,e1,c1,k1,hp⟩:=Zc3 (n:=n) (k:=o) hd;obtain⟨p2,X3,e2,b2,k2,hp2⟩:=Zc3 (n:=n) (k:=t) (hd.hle k1);have k12:=k1.trans k2;have h3:=hd.hle k12;have c13:=k2 _ _ c1;have hstep:Zr r.own X r.own X3:=k12.stepq;have f1:∀ v X',Zav (R (n+9)) (pt d) (strv o) (strv t) X=some (v,X')->R (n+10) Wp [pt d,strv o,strv t] X=some (v,X'):=fun v X' hr=>by rw[R,Zni rfl];exact hr
 have e10:∀ (k:Tx),(ZH k s.A==10)=!Zw k:=fun k=>by
  unfold ZH;cases Zw k
  .rfl
  .cases (Zf k s.A).isSome<;>rfl
 have q1:bop .int .eql (iv (ZH o s.A)) (.int .i64 10) X3=some (.bool (!Zw o),X3):=by rw[ZE,e10]
 have q2:bop .int .eql (iv (ZH t s.A)) (.int .i64 10) X3=some (.bool (!Zw t),X3):=by rw[ZE,e10]
 have hgate:∀ K:Value->M Value,bind (bop .int .eql (iv (ZH o s.A)) (.int .i64 10)) (fun v25=>bind (gate v25 false 2 (bind (bop .int .eql (iv (ZH t s.A)) (Value.int .i64 10)) fun v28=>ret [iv (ZH t s.A),v28])) (c2 fun _ q=>bind (pick v25 (Value.bool true) q) K)) X3=K (.bool (!(Zw o && Zw t))) X3:=fun K=>by
  rw[Za q1];cases Zw o
  .simp only[Bool.not_false];rw[Za (g_r.trans (if_neg (by simp)))];simp only[List.replicate];rw[Qv,Za Zl];rfl
  .simp only[Bool.not_true];rw[Z0,Zk,Za q2,Qe,Qv,Za Zl];cases Zw t<;>rfl
 by_cases he:Y4 o t s.A=0
 .obtain⟨a1,a2,a3,a4,a5⟩:=ZtO he;have hN1:ZH o s.A=0:=by unfold ZH;rw[a1,a3];rfl
  have hN2:ZH t s.A=8:=by unfold ZH;rw[a2,a4];rfl
  rw[a1] at c13;have c13:X3[p]?=some (.cells [strv (Ju o s.A).1,.bool (Ju o s.A).2] 1 false false):=c13;have q3:bop .int .neq (iv (ZH o s.A)) (.int .i64 0) X3=some (.bool false,X3):=by rw[Zn,hN1];rfl
  have q4:bop .int .eql (iv (ZH t s.A)) (.int .i64 0) X3=some (.bool false,X3):=by rw[ZE,hN2];rfl
  obtain⟨X4,e4,m4,s4,_⟩:=h3.m.mde (k:=o);obtain⟨d4,t4⟩:=h3.toND0.setA m4 s4;have d4':ldA 2 (pt p) X4=some (Zar (Ju o s.A),X4):=by
   have c14:X4[p]?=some (.cells [strv (Ju o s.A).1,.bool (Ju o s.A).2] 1 false false):=(h3.toND0.cle t4) _ _ _ _ _ c13;exact Qd (n:=2) c14 rfl
  obtain⟨X5,e5,m5,s5,_⟩:=d4.m.mup (k:=t) (v:=Ju o s.A);obtain⟨d5,t5⟩:=d4.setA m5 s5;obtain⟨X6,e6,i6,s6⟩:=ZE8 (n:=n+3) (old:=o) (next:=t) d5.ix;have e6:R (n+9) K4 [pt r.x,strv o,strv t] X5=_:=e6;obtain⟨d6,t6⟩:=d5.setI i6 s6;obtain⟨X7,e7,g7,s7⟩:=ZE0 (n:=n+1) (s:=o) (t:=t) d6.gr;have e7:R (n+9) Kj [pt r.g,strv o,strv t] X6=_:=e7;have hks:ZK r.G=s.K:=hd.ks;have hren:Zjw o t (ZK r.G) s.mem=0:=by
   unfold Zjw;rw[a2,if_pos rfl,if_neg a5];have:ofL t (ZK r.G) s.mem=[]:=by
    unfold ofL;rw[List.filter_eq_nil_iff];intro x hx;rw[hd.inv.memN a4 x];simp
   rw[if_pos this]
  have g7:Grp X7 r.g r.o2 r.G (if Zjw o t (ZK r.G) s.mem=0 then ZgB o t s.mem else s.mem) c:=g7;rw[if_pos hren] at g7;obtain⟨d7,t7⟩:=d6.setG g7 s7 hks;have hn:ZbS o t s={ s with A:=Qs t (Ju o s.A) (Ys o s.A),OW:=ZyF o t s.OW s.OF,OF:=Zmt o t s.OF,mem:=ZgB o t s.mem }:=by unfold ZbS;rw[if_pos he]
  have hinv:=hd.inv.rename o t;rw[hn] at hinv ⊢;rw[he];refine⟨X7,f1 _ _ ?_,⟨d7,hinv⟩,(((hstep.trans t4).trans t5).trans t6).trans t7⟩;unfold Zav;refine(e1 _).trans ((e2 _).trans ((hgate _).trans ?_));rw[a1,a2];simp only[Bool.and_self,Bool.not_true];rw[Zb,if_neg (by simp),Za q3,Zb,if_neg (by simp),Za q4,Zb,if_neg (by simp),Za Zg,Za Zj,Za h3.l0,Za e4,Za Zg,Za Zj,Za d4.l0,Za d4',Za e5,Za Zg,Za Zj,Za d5.l1,Za e6,Za Zg,Za Zj,Za d6.l2,Za e7];rfl
 .have hn:ZbS o t s=s:=by unfold ZbS;rw[if_neg he]
  rw[hn];refine⟨X3,f1 _ _ ?_,h3,hstep⟩;unfold Zav;refine(e1 _).trans ((e2 _).trans ((hgate _).trans ?_));cases ab:Zw o && Zw t
  .have hE:Y4 o t s.A=10:=by unfold Y4;rw[ab];rfl
   rw[Zb,if_pos (by rfl),hE];rfl
  .have ab':=ab;simp only[Bool.and_eq_true] at ab';rw[Zb,if_neg (by simp)];cases a3:(Zf o s.A).isSome
   .have hN1:ZH o s.A=8:=by unfold ZH;rw[ab'.1,a3];rfl
    have hE:Y4 o t s.A=8:=by unfold Y4;rw[ab,a3];rfl
    have q3:bop .int .neq (iv (ZH o s.A)) (.int .i64 0) X3=some (.bool true,X3):=by rw[Zn,hN1];rfl
    rw[Za q3,Zb,if_pos rfl,hE,hN1];rfl
   .have hN1:ZH o s.A=0:=by unfold ZH;rw[ab'.1,a3];rfl
    have q3:bop .int .neq (iv (ZH o s.A)) (.int .i64 0) X3=some (.bool false,X3):=by rw[Zn,hN1];rfl
    have a4:(Zf t s.A).isSome=true:=by
     unfold Y4 at he;rw[ab,a3] at he;cases h4:(Zf t s.A).isSome
     .rw[h4] at he;simp at he
     .rfl
    have hN2:ZH t s.A=0:=by unfold ZH;rw[ab'.2,a4];rfl
    have hE:Y4 o t s.A=9:=by unfold Y4;rw[ab,a3,a4];rfl
    have q4:bop .int .eql (iv (ZH t s.A)) (.int .i64 0) X3=some (.bool true,X3):=by rw[ZE,hN2];rfl
    rw[Za q3,Zb,if_neg (by simp),Za q4,Zb,if_pos rfl,hE];rfl
theorem ZDs (hd:ND X d r s c):∃ X' r',R (n+10) We [pt d,strv g] X=some (iv (Yg g s.K),X')/\ND X' d r' (ZkL g s) c/\Zr r.own X r'.own X':=by
 obtain⟨X1,G',e1,g1,k1,s1⟩:=ZxU (n:=n+1) (k:=g) hd.gr;have e1:R (n+9) Ya [pt r.g,strv g] X=_:=e1;rw[hd.ks] at e1 k1;obtain⟨d1,t1⟩:=hd.toND0.setG g1 s1 k1;refine⟨X1,_,?_,⟨d1,hd.inv.make g⟩,t1⟩;rw[R,ZjP rfl];unfold Zct;rw[Za Zg,Za Zj,Za hd.l2,Za e1];rfl
theorem ZEb (hd:ND X d r s c):∃ X' r',R (n+10) Wi [pt d,strv g] X=some (iv (Jn g s.K),X')/\ND X' d r' (Zkd g s) c/\Zr r.own X r'.own X':=by
 obtain⟨X1,G',e1,g1,k1,s1⟩:=ZDE (n:=n+1) (k:=g) hd.gr;have e1:R (n+9) K8 [pt r.g,strv g] X=_:=e1;rw[hd.ks] at e1 g1 k1;obtain⟨d1,t1⟩:=hd.toND0.setG g1 s1 k1;refine⟨X1,_,?_,⟨d1,hd.inv.drop g⟩,t1⟩;rw[R,ZjJ rfl];unfold Zcs;rw[Za Zg,Za Zj,Za hd.l2,Za e1];rfl
theorem ZtS (hd:ND X d r s c):∃ X',R (n+10) Wq [pt d,strv g,strv k] X=some (iv (Yf g k s.A),X')/\HLe X X':=by
 have e0:R (n+9) QS [strv g] X=some (iv (ZG g),X):=Zdf (n:=n+4);obtain⟨p,X2,e1,c1,k1,hp⟩:=Zc3 (n:=n) (k:=k) hd;have f1:∀ v X',ZaF (R (n+9)) (pt d) (strv g) (strv k) X=some (v,X')->R (n+10) Wq [pt d,strv g,strv k] X=some (v,X'):=fun v X' hr=>by rw[R,Zmx rfl];exact hr
 cases hg:Zw g
 .have q1:bop .int .neq (iv (ZG g)) (.int .i64 0) X=some (.bool true,X):=by rw[Zn];unfold ZG;rw[hg];rfl
  have hE:Yf g k s.A=10:=by unfold Yf;rw[hg];rfl
  refine⟨X,f1 _ _ ?_,.refl _⟩;unfold ZaF;rw[Za e0,Za q1,Zb,if_pos rfl,hE,show ZG g=10 by unfold ZG;rw[hg];rfl];rfl
 .have q1:bop .int .neq (iv (ZG g)) (.int .i64 0) X=some (.bool false,X):=by rw[Zn];unfold ZG;rw[hg];rfl
  have hE:Yf g k s.A=ZH k s.A:=by unfold Yf;rw[hg];rfl
  refine⟨X2,f1 _ _ ?_,k1⟩;unfold ZaF;rw[Za e0,Za q1,Zb,if_neg (by simp),hE];exact e1 _
theorem ZEh (hd:ND X d r s c):∃ X',R (n+11) Zan [pt d,strv g,strv k] X=some (iv (Zbk g k s),X')/\ND X' d r (ZeE g k s) (c+1)/\Zr r.own X r.own X':=by
 obtain⟨X1,e1,k1⟩:=ZtS (n:=n) (g:=g) (k:=k) hd;have h1:=hd.hle k1;have f1:∀ v X',ZbG (R (n+10)) (pt d) (strv g) (strv k) X=some (v,X')->R (n+11) Zan [pt d,strv g,strv k] X=some (v,X'):=fun v X' hr=>by rw[R,ZpS rfl];exact hr
 have hinv:=hd.inv.join g k;by_cases hm:Yf g k s.A=0
 .have q1:bop .int .neq (iv (Yf g k s.A)) (.int .i64 0) X1=some (.bool false,X1):=by rw[Zn,hm];rfl
  have hE:Zbk g k s=Za0 g k s.K s.mem:=by unfold Zbk;rw[if_pos hm]
  obtain⟨X2,e2,g2,s2⟩:=ZxL (n:=n+2) (k:=g) (m:=k) h1.gr;have e2:R (n+10) Yx [pt r.g,strv g,strv k] X1=_:=e2;rw[h1.ks] at e2 g2;obtain⟨d2,t2⟩:=h1.toND0.setG g2 s2 h1.ks;have hn:ZeE g k s={ s with K:=s.K,mem:=if Za0 g k s.K s.mem=0 then ZjM g k s.mem else s.mem }:=by
   unfold ZeE;rw[hE];by_cases h0:Za0 g k s.K s.mem=0
   .rw[if_pos h0,if_pos h0]
   .rw[if_neg h0,if_neg h0]
  rw[hn] at hinv ⊢;rw[hE];refine⟨X2,f1 _ _ ?_,⟨d2,hinv⟩,k1.stepq.trans t2⟩;unfold ZbG;rw[Za e1,Za q1,Zb,if_neg (by simp),Za Zg,Za Zj,Za h1.l2,Za e2];rfl
 .have q1:bop .int .neq (iv (Yf g k s.A)) (.int .i64 0) X1=some (.bool true,X1):=by rw[Zn];simp[hm]
  have hE:Zbk g k s=Yf g k s.A:=by unfold Zbk;rw[if_neg hm]
  have hn:ZeE g k s=s:=by unfold ZeE;rw[if_neg (by rw[hE];exact hm)]
  rw[hn,hE];refine⟨X1,f1 _ _ ?_,⟨h1.toND0.more (Nat.le_succ c),hd.inv⟩,k1.stepq⟩;unfold ZbG;rw[Za e1,Za q1,Zb,if_pos rfl];rfl
theorem ZCp (hd:ND X d r s c):∃ X',R (n+11) WH [pt d,strv g,strv k] X=some (iv (Zak g k s),X')/\ND X' d r (ZcT g k s) (c+1)/\Zr r.own X r.own X':=by
 obtain⟨X1,e1,k1⟩:=ZtS (n:=n) (g:=g) (k:=k) hd;have h1:=hd.hle k1;have f1:∀ v X',Zbd (R (n+10)) (pt d) (strv g) (strv k) X=some (v,X')->R (n+11) WH [pt d,strv g,strv k] X=some (v,X'):=fun v X' hr=>by rw[R,ZnW rfl];exact hr
 have hinv:=hd.inv.leave g k;by_cases hm:Yf g k s.A=0
 .have q1:bop .int .neq (iv (Yf g k s.A)) (.int .i64 0) X1=some (.bool false,X1):=by rw[Zn,hm];rfl
  have hE:Zak g k s=Zc2 g k s.K s.mem:=by unfold Zak;rw[if_pos hm]
  obtain⟨X2,e2,g2,s2⟩:=ZBV (n:=n+2) (k:=g) (m:=k) h1.gr;have e2:R (n+10) KJ [pt r.g,strv g,strv k] X1=_:=e2;rw[h1.ks] at e2 g2;obtain⟨d2,t2⟩:=h1.toND0.setG g2 s2 h1.ks;have hn:ZcT g k s={ s with K:=s.K,mem:=if Zc2 g k s.K s.mem=0 then Zqv g k s.mem else s.mem }:=by
   unfold ZcT;rw[hE];by_cases h0:Zc2 g k s.K s.mem=0
   .rw[if_pos h0,if_pos h0]
   .rw[if_neg h0,if_neg h0]
  rw[hn] at hinv ⊢;rw[hE];refine⟨X2,f1 _ _ ?_,⟨d2,hinv⟩,k1.stepq.trans t2⟩;unfold Zbd;rw[Za e1,Za q1,Zb,if_neg (by simp),Za Zg,Za Zj,Za h1.l2,Za e2];rfl
 .have q1:bop .int .neq (iv (Yf g k s.A)) (.int .i64 0) X1=some (.bool true,X1):=by rw[Zn];simp[hm]
  have hE:Zak g k s=Yf g k s.A:=by unfold Zak;rw[if_neg hm]
  have hn:ZcT g k s=s:=by unfold ZcT;rw[if_neg (by rw[hE];exact hm)]
  rw[hn,hE];refine⟨X1,f1 _ _ ?_,⟨h1.toND0.more (Nat.le_succ c),hd.inv⟩,k1.stepq⟩;unfold Zbd;rw[Za e1,Za q1,Zb,if_pos rfl];rfl
theorem ZDS (hd:ND X d r s c):∃ X' d' r',R (n+4) Zap [pt d] X=some (pt d',X')/\ND X' d' r' s c/\HLe X X'/\X.length<=d'/\∀ j∈r'.own,X.length<=j:=by
 obtain⟨X1,e1,m1,k1⟩:=hd.m.clone;have e1':R (n+3) Jh [.map (some r.b)] X=some (.map (some X.length),X1):=by
  show run Tryz.prog np lvs (n+3) _ _ X=_
  rw[Zay (show np Jh=some Za1 from rfl)];exact e1
 have h1:=hd.hle k1;obtain⟨X2,x',o',a',e2,i2,k2,p1,p2,p3⟩:=ZDG (n:=n+1) h1.ix;have e2:R (n+3) Zbf [pt r.x] X1=_:=e2;have h2:=h1.hle k2;obtain⟨X3,g',o2',G',e3,g3,hk3,k3,q1,q2⟩:=ZC5 (n:=n+2) h2.gr;have e3:R (n+3) WW [pt r.g] X2=_:=e3;have e4:bld (.agg #[.map none,.pointer none,.pointer none]) [(0,1,.map (some X.length)),(1,1,pt x'),(2,1,pt g')] X3=some (.agg #[.map (some X.length),pt x',pt g'],X3):=by
  simp[bld,WB,Value.cells,Yw,splice]
 have e5:alc 1 (.agg #[.map (some X.length),pt x',pt g']) X3=some (pt X3.length,X3++[.cells [.map (some X.length),pt x',pt g'] 1 false false]):=Zhr (vs:=[.map (some X.length),pt x',pt g']) rfl;have k4:HLe X3 (X3++[Ze.cells [.map (some X.length),pt x',pt g'] 1 false false]):=.app _ _;have hi:=i2.lt;have hx1:X.length < X1.length:=m1.lt;have l1:=k1.len;have l2:=k2.len;have l3:=k3.len;refine⟨X3++[.cells [.map (some X.length),pt x',pt g'] 1 false false],X3.length,⟨X.length,x',o',a',g',o2',G'⟩,?_,⟨⟨Zo,((m1.hle k2).hle k3).hle k4,(i2.hle k3).hle k4,g3.hle k4,hk3.trans hd.ks,⟨by simp only;omega,by simp only;omega,fun hm=>?_,fun hm=>?_,fun hm=>?_⟩⟩,hd.inv⟩,((k1.trans k2).trans k3).trans k4,by omega,fun j hj=>?_⟩
 .rw[R,Zpp rfl];unfold ZfN;rw[Za Zg,Za Zj,Za hd.l0,Za Zg,Za Zj,Za hd.l1,Za Zg,Za Zj,Za hd.l2,Za e1',Za h1.l2,Qx,Za h1.l1,Qx,Za e2,Za h2.l2,Qx,Za e3,Za e4,Za e5];rfl
 .have:=q2 _ hm;simp only at this;omega
 .have:=q2 _ hm;simp only at this;omega
 .have:=q2 _ hm;simp only at this;omega
 .unfold NR.own at hj;simp only[List.mem_cons] at hj;rcases hj with h|h|h|h
  .omega
  .omega
  .omega
  .have:=q2 _ (List.mem_cons.2 h);omega
end
section
variable {X X' H0:Zd} {n:Nat} {v:Value} {l:List Tx} {x s:Tx}
end
abbrev Pr:=Tx × Tx
def prG (u:Pr):List Value:=[strv u.1,strv u.2]
structure RG (X:Zd) (nv mv:Value) (N:List Tx) (M:List Pr):Prop where
 n:∃ q,Zu X nv (N.map strv) q
 m:∃ q,Yj 2 X mv (M.map prG) q
section
variable {X X' H0:Zd} {n:Nat} {v nv mv z1 z2 z3 z4:Value} {N l:List Tx} {M:List Pr} {x s t k m:Tx}
theorem RG.hle (h:RG X nv mv N M) (hl:HLe X X'):RG X' nv mv N M:=⟨h.n.elim fun q h=>⟨q,h.step hl.step (by simp)⟩,h.m.elim fun q h=>⟨q,h.step hl.step (by simp)⟩⟩
theorem RG.sn (h:RG X nv mv N M):Sl X nv (N.map strv):=h.n.elim fun q h=>h.rd
theorem RG.sm (h:RG X nv mv N M):SlN 2 X mv (M.map prG):=h.m.elim fun q h=>h.rd
theorem RG.one (h:RG X nv mv N M):([nv,mv].all oneCell)=true/\nv.cells=#[nv]/\mv.cells=#[mv]:=by
 obtain⟨q,hn⟩:=h.n;obtain⟨q',hm⟩:=h.m;exact⟨by simp[hn.one.1,hm.one.1],hn.one.2,hm.one.2⟩
theorem RG.lenM (h:RG X nv mv N M) (Y:Zd):ZC mv Y=some (iv M.length,Y):=by have:=h.sm.len (H':=Y);simpa using this
theorem RG.box (h:RG X nv mv N M) (Y:Zd):alc 1 (.agg #[nv,mv]) Y=some (pt Y.length,Y++[.cells [nv,mv] 1 false false]):=Zhr (vs:=[nv,mv]) h.one.1
theorem ZF4 (Y:Zd):alc 1 (.agg #[.slice none 0 0,.slice none 0 0]) Y=some (pt Y.length,Y++[.cells [.slice none 0 0,.slice none 0 0] 1 false false]):=Zhr (vs:=[.slice none 0 0,.slice none 0 0]) rfl
theorem Zu.isS {vs:List Value} {q:List Nat} (h:Zu X v vs q):∃ a n c,v=.slice a n c:=by
 rcases h with⟨_,_,rfl⟩|⟨sid,rest,gr,rfl,_,_⟩
 .exact⟨_,_,_,rfl⟩
 .exact⟨_,_,_,rfl⟩
theorem ZCR (h:RG X nv mv N M):∃ X2,(∀ {β:Type} (K:Value->Value->A.M β),bind (alc 1 (.agg #[nv,mv])) (fun a=>bind (alc 1 (.agg #[.slice none 0 0,.slice none 0 0])) fun b=>K a b) X=K (pt X.length) (pt (X.length+1)) X2)/\X2[X.length]?=some (.cells [nv,mv] 1 false false)/\X2[X.length+1]?=some (.cells [.slice none 0 0,.slice none 0 0] 1 false false)/\HLe X X2/\X2.length=X.length+2:=by
 refine⟨X++[.cells [nv,mv] 1 false false]++[.cells [.slice none 0 0,.slice none 0 0] 1 false false],fun K=>?_,Zrn,ZqE,(HLe.app _ _).trans (.app _ _),by simp⟩;rw[Za (h.box X),Za (ZF4 _)];simp
theorem fin {b1 b2:Nat} {a1 a2 c1 c2:Value} (h1:X[b1]?=some (.cells [a1,a2] 1 false false)) (h2:X[b2]?=some (.cells [c1,c2] 1 false false)) (hn:b1≠b2) (ho:([a1,a2].all oneCell)=true) {β:Type} (K:Value->A.M β) :
  bind (ldA 2 (pt b1)) (fun v=>bind (stA 2 (pt b2) v) fun _=>bind (ldA 2 (pt b2)) K) X=K (.agg #[a1,a2]) (X.set b2 (.cells [a1,a2] 1 false false)):=by
 have e1:ldA 2 (pt b1) X=some (.agg #[a1,a2],X):=Qd h1 rfl;have e2:stA 2 (pt b2) (.agg #[a1,a2]) X=some (undef,X.set b2 (.cells [a1,a2] 1 false false)):=WX (vs:=[a1,a2]) h2 rfl rfl ho;have e3:ldA 2 (pt b2) (X.set b2 (.cells [a1,a2] 1 false false))=some (.agg #[a1,a2],X.set b2 (.cells [a1,a2] 1 false false)):=Qd (ZW h2) rfl;rw[Za e1,Za e2,Za e3]
theorem Zu.setB {vs:List Value} {q:List Nat} {b:Nat} {o:Ze} (h:Zu X v vs q) (hb:b∉q):Zu (X.set b o) v vs q:=h.keep fun j hj=>List.getElem?_set_ne fun e=>hb (by rw[e];exact hj)
theorem Yj.setB {es:Nat} {vs:List (List Value)} {q:List Nat} {b:Nat} {o:Ze} (h:Yj es X v vs q) (hb:b∉q):Yj es (X.set b o) v vs q:=h.keep fun j hj=>List.getElem?_set_ne fun e=>hb (by rw[e];exact hj)
end
section
variable {X X' H0:Zd} {n:Nat} {v nv mv z1 z2 z3 z4:Value} {N l K:List Tx} {M:List Pr} {mem:Mem} {x s t k m:Tx}
end
section
variable {X X' H0:Zd} {n:Nat} {v nv mv z1 z2 z3 z4:Value} {N l K:List Tx} {M:List Pr} {mem:Mem} {x s t k m:Tx}
end
def Zf5 (l:List ZA):Prop:=l.Pairwise fun a b=>a.nm < b.nm
section
variable {x:ZA} {k s:List UInt8}
def Zdc (u:ZA):List ZA->Bool->List ZA
 | [],_=>[]
 | v :: l,done=>(if !done && decide (u.nm<=v.nm) then[u] else[])++((if v.nm≠u.nm then[v] else[])++Zdc u l (done || decide (u.nm<=v.nm)))
def Zcb (u:ZA):List ZA->Bool->Bool
 | [],done=>done
 | v :: l,done=>Zcb u l (done || decide (u.nm<=v.nm))
def putU (u:ZA) (l:List ZA):List ZA:=Zdc u l false++if Zcb u l false then[] else[u]
theorem Znp {u:ZA}:∀ {l:List ZA},Zdc u l true=l.filter fun v=>decide (v.nm≠u.nm)
 | []=>rfl
 | v :: l=>by
  unfold Zdc;rw[Bool.true_or,Znp,List.filter_cons];by_cases h:v.nm=u.nm<;>simp[h]
theorem Zla {u:ZA}:∀ {l:List ZA},Zcb u l true=true
 | []=>rfl
 | v :: l=>by unfold Zcb;rw[Bool.true_or,Zla]
theorem Zmd {u v:ZA} {l:List ZA}:putU u (v :: l)=if u.nm<=v.nm then u :: (v :: l).filter (fun v=>decide (v.nm≠u.nm)) else v :: putU u l:=by
 have e1:Zdc u (v :: l) false=(if !false && decide (u.nm<=v.nm) then[u] else[])++((if v.nm≠u.nm then[v] else[])++Zdc u l (false || decide (u.nm<=v.nm))):=rfl;have e2:Zcb u (v :: l) false=Zcb u l (false || decide (u.nm<=v.nm)):=rfl;unfold putU;rw[e1,e2];by_cases h:u.nm<=v.nm
 .rw[if_pos h];simp only[h,decide_true,Bool.or_true,Znp,Zla,Bool.not_false,Bool.and_self,if_true,List.filter_cons];by_cases h2:v.nm=u.nm<;>simp[h2]
 .rw[if_neg h];have h2:v.nm≠u.nm:=fun e=>h (by rw[e];exact List.le_refl _);simp[h,h2]
theorem Zft {u:ZA}:∀ {l:List ZA},x∈putU u l↔x=u\/(x∈l/\x.nm≠u.nm)
 | []=>by simp[putU,Zdc,Zcb]
 | v :: l=>by
  rw[Zmd];by_cases h:u.nm<=v.nm
  .rw[if_pos h,List.mem_cons,List.mem_filter];simp
  .have h2:v.nm≠u.nm:=fun e=>h (by rw[e];exact List.le_refl _);rw[if_neg h,List.mem_cons,Zft,List.mem_cons];constructor
   .rintro(rfl|h|h)
    .exact .inr ⟨.inl rfl,h2⟩
    .exact .inl h
    .exact .inr ⟨.inr h.1,h.2⟩
   .rintro(h|⟨h|h,h3⟩)
    .exact .inr (.inl h)
    .exact .inl h
    .exact .inr (.inr ⟨h,h3⟩)
theorem ZtZ {u:ZA}:∀ {l:List ZA},Zf5 l->Zf5 (putU u l)
 | [],_=>by simp[putU,Zdc,Zcb,Zf5]
 | v :: l,hr=>by
  have hr2:(∀ a∈l,v.nm < a.nm)/\Zf5 l:=by simpa[Zf5] using hr
  rw[Zmd];by_cases h:u.nm<=v.nm
  .rw[if_pos h];refine List.pairwise_cons.2 ⟨fun a ha=>?_,List.Pairwise.filter _ hr⟩;obtain⟨h1,h2⟩:=List.mem_filter.1 ha;have h2:a.nm≠u.nm:=by simpa using h2
   have h3:u.nm<=a.nm:=by
    rcases List.mem_cons.1 h1 with rfl|h1
    .exact h
    .exact List.le_trans h (List.le_of_lt (hr2.1 a h1))
   rcases ZmX u.nm a.nm with h4|h4|h4
   .exact h4
   .exact absurd h4.symm h2
   .exact absurd h4 h3
  .rw[if_neg h];refine List.pairwise_cons.2 ⟨fun a ha=>?_,ZtZ hr2.2⟩;rcases Zft.1 ha with rfl|⟨h1,_⟩
   .rcases ZmX v.nm a.nm with h4|h4|h4
    .exact h4
    .exact absurd (by rw[h4];exact List.le_refl _) h
    .exact absurd (List.le_of_lt h4) h
   .exact hr2.1 a h1
end
section
variable {H0 H X:Zd} {n d b:Nat} {ws:List ZA} {k s:List UInt8} {wv:Value}
theorem ZA9 {u:ZA} (h:oneCell u.gv=true):u.cells.all oneCell=true:=by simp only[ZA.cells,List.all_cons,h];rfl
theorem Zyf {β:Type} {k:Value->M β} {sl:Value} {us:List ZA} (h:SlN 5 H sl (us.map ZA.cells)) {j:Nat} {u:ZA} (ho:oneCell u.gv=true) (hj:us[j]?=some u) :
  bind (ixa 5 sl (iv j)) (fun p=>bind (ldA 5 p) fun v=>bind (alc 1 (.agg #[.string ⟨#[]⟩,.string ⟨#[]⟩,.string ⟨#[]⟩,.bool false,.slice none 0 0])) fun q=>bind (stA 5 q v) fun _=>k q) H=k (pt H.length) (H++[.cells u.cells 1 false false]):=by
 have hr:(us.map ZA.cells)[j]?=some u.cells:=by rw[List.getElem?_map,hj];rfl
 rw[h.fetch hr (by omega) .i64];exact ZbB (n:=5) (zs:=[.string ⟨#[]⟩,.string ⟨#[]⟩,.string ⟨#[]⟩,.bool false,.slice none 0 0]) (r:=u.cells) rfl rfl rfl (ZA9 ho)
end
structure ZEH (s:NSt):Prop where
 nod:s.K.Nodup
 out:∀ k n,s.mem k n=true->k∈s.K
 few:s.K.length<=6
structure ROK (s:NSt) (us:List ZA):Prop where
 rise:Zf5 us
 look:∀ key:ZcJ,key∈us.map Zcv↔J7 s key.1=some key
section
variable {X:Zd} {d c:Nat} {r:NR} {s s':NSt} {us ws:List ZA} {u:ZA} {k h m n o t g:Tx} {key:ZcJ}
theorem ND0.kn (hd:ND0 X d r s c):ZEH s:=⟨by rw[<- hd.ks];exact hd.gr.mo.nod,fun k n hk=>by
 have:=hd.gr.out k n hk;rw[ZkO,decide_eq_true_eq] at this;rw[<- hd.ks];exact this,by rw[<- hd.ks,List.length_map];exact hd.gr.few⟩
theorem Zbm:key∈us.map Zcv↔∃ u∈us,Zcv u=key:=List.mem_map
theorem ROK.put (h:ROK s us) (h1:J7 s' u.nm=some (Zcv u)) (h2:∀ n,n≠u.nm->J7 s' n=J7 s n):ROK s' (putU u us):=by
 refine⟨ZtZ h.rise,fun key=>?_⟩;rw[Zbm];constructor
 .rintro⟨v,hv,rfl⟩
  rcases Zft.1 hv with rfl|⟨hv,hne⟩
  .exact h1
  .have:=(h.look (Zcv v)).1 (Zbm.2 ⟨v,hv,rfl⟩);rw[show(Zcv v).1=v.nm from rfl] at this ⊢;rw[h2 _ hne];exact this
 .intro hk;by_cases e:key.1=u.nm
  .rw[e,h1] at hk;exact⟨u,Zft.2 (.inl rfl),Option.some.inj hk⟩
  .rw[h2 _ e] at hk;obtain⟨v,hv,rfl⟩:=Zbm.1 ((h.look key).2 hk);exact⟨v,Zft.2 (.inr ⟨hv,e⟩),rfl⟩
theorem ROK.drop (h:ROK s us) (h1:J7 s' k=none) (h2:∀ n,n≠k->J7 s' n=J7 s n):ROK s' (us.filter fun v=>decide (v.nm≠k)):=by
 refine⟨List.Pairwise.filter _ h.rise,fun key=>?_⟩;rw[Zbm];constructor
 .rintro⟨v,hv,rfl⟩
  obtain⟨hv,hne⟩:=List.mem_filter.1 hv;have hne:v.nm≠k:=by simpa using hne
  have:=(h.look (Zcv v)).1 (Zbm.2 ⟨v,hv,rfl⟩);rw[show(Zcv v).1=v.nm from rfl] at this ⊢;rw[h2 _ hne];exact this
 .intro hk;have e:key.1≠k:=fun e=>by rw[e,h1] at hk;cases hk
  rw[h2 _ e] at hk;obtain⟨v,hv,rfl⟩:=Zbm.1 ((h.look key).2 hk);exact⟨v,List.mem_filter.2 ⟨hv,decide_eq_true e⟩,rfl⟩
theorem ROK.same (h:ROK s us) (h2:∀ n,J7 s' n=J7 s n):ROK s' us:=⟨h.rise,fun key=>by rw[h2];exact h.look key⟩
theorem ROK.at (h:ROK s us) (hu:u∈us):J7 s u.nm=some (Zcv u):=(h.look (Zcv u)).1 (Zbm.2 ⟨u,hu,rfl⟩)
theorem Zf5.nodup (h:Zf5 us):(us.map (·.nm)).Nodup:=by
 unfold Zf5 at h;rw[List.nodup_iff_pairwise_ne,List.pairwise_map];refine h.imp ?_;intro a b hab e;rw[e] at hab;exact ZmB hab
theorem ROK.len (h:ROK s us) (hn:(W3 s).Nodup):us.length=s.A.length:=by
 have hp:(us.map (·.nm)).Perm (W3 s):=(List.perm_ext_iff_of_nodup h.rise.nodup hn).2 fun x=>by
  rw[List.mem_map,List.mem_map];constructor
  .rintro⟨v,hv,rfl⟩
   have:=h.at hv;unfold J7 at this;cases ha:Zf v.nm s.A with
   | none=>rw[ha] at this;cases this
   | some p=>exact⟨_,Kz ha,rfl⟩
  .rintro⟨p,hp,rfl⟩
   have ha:Zf p.1 s.A=some p.2:=Zck hn hp;obtain⟨v,hv,he⟩:=Zbm.1 ((h.look (W7 s p.1 p.2)).2 (by
    show J7 s p.1=_
    unfold J7;rw[ha];rfl))
   exact⟨v,hv,congrArg (·.1) he⟩
 have:=hp.length_eq;simpa using this
theorem ZCB:∀ {l l':List ZcJ},l.Pairwise (fun a b=>a.1 < b.1)->l'.Pairwise (fun a b=>a.1 < b.1)->(∀ x,x∈l↔x∈l')->l=l':=by
 intro l l' h h' hm;have nd:∀ {l:List ZcJ},l.Pairwise (fun a b=>a.1 < b.1)->l.Nodup:=fun h=>by
  rw[List.nodup_iff_pairwise_ne];refine List.Pairwise.imp ?_ h
  rintro a b hab rfl
  exact List.lt_irrefl _ hab
 have hp:l.Perm l':=(List.perm_ext_iff_of_nodup (nd h) (nd h')).2 hm;exact List.Perm.eq_of_pairwise (le:=fun a b=>a.1 < b.1) (fun a b _ _ h1 h2=>absurd h2 (List.lt_asymm h1)) h h' hp
theorem ZtV (hn:(W3 s).Nodup):(allK s).Pairwise fun a b=>a.1 < b.1:=by
 unfold allK;rw[List.pairwise_map];exact Zgs hn
theorem ZkS (hn:(W3 s).Nodup):key∈allK s↔J7 s key.1=some key:=by
 unfold allK;rw[List.mem_map];constructor
 .rintro⟨k,hk,rfl⟩
  obtain⟨p,hp,rfl⟩:=List.mem_map.1 (Zad.1 hk);have ha:Zf p.1 s.A=some p.2:=Zck hn hp;show J7 s p.1=_
  unfold J7;rw[ha];rfl
 .intro hk;unfold J7 at hk;cases ha:Zf key.1 s.A with
  | none=>rw[ha] at hk;cases hk
  | some p=>
   rw[ha] at hk;refine⟨key.1,Zad.2 (List.mem_map.2 ⟨_,Kz ha,rfl⟩),?_⟩;rw[ha];exact Option.some.inj hk
theorem ROK.all (h:ROK s us) (hn:(W3 s).Nodup):us.map Zcv=allK s:=by
 refine ZCB ?_ (ZtV hn) fun key=>(h.look key).trans (ZkS hn).symm;rw[List.pairwise_map];exact h.rise
end
def UOK (X:Zd) (u:ZA):Prop:=Sl X u.gv (u.gs.map strv)/\oneCell u.gv=true/\u.gs.length<=1000000
structure RD (X:Zd) (uv gv:Value) (s:NSt):Prop where
 ex:∃ us,YS X uv us/\ROK s us
 n:∃ q N,Zu X gv (N.map strv) q/\Is N (·∈s.K)
structure Zh1 (s:NSt):Prop where
 i:JT s
 k:ZEH s
 n:(W3 s).Nodup
 x:Inv s.OW s.OF
theorem ND.pinv {X:Zd} {d c:Nat} {r:NR} {s:NSt} (h:ND X d r s c):Zh1 s:=⟨h.inv,h.toND0.kn,h.m.nod,h.ix.inv⟩
section
variable {X X' Y H0:Zd} {n:Nat} {uv gv v:Value} {us:List ZA} {s:NSt} {k h m o t g:Tx} {u w:ZA} {β:Type}
theorem UOK.hle (h:UOK X u) (hl:HLe X X'):UOK X' u:=⟨h.1.mono hl,h.2⟩
theorem YS.ok (h:YS X uv us) (hu:u∈us):UOK X u:=h.2 u hu
theorem YS.one (h:YS X uv us):oneCell uv=true:=h.1.one.1
theorem Zu.hle {vs:List Value} {q:List Nat} (h:Zu X v vs q) (hl:HLe X X'):Zu X' v vs q:=h.step hl.step (by simp)
theorem RD.hle (h:RD X uv gv s) (hl:HLe X X'):RD X' uv gv s:=⟨h.ex.imp fun us ⟨a,b⟩=>⟨a.mono hl,b⟩,h.n.imp fun q ⟨N,a,b⟩=>⟨N,a.hle hl,b⟩⟩
abbrev zU:Value:=.agg #[.string ⟨#[]⟩,.string ⟨#[]⟩,.string ⟨#[]⟩,.bool false,.slice none 0 0]
theorem YS.put (h:YS X uv us) (hv:SlN 5 X' v ((putU u us).map ZA.cells)) (hu:UOK X u) (hl:HLe X X'):YS X' v (putU u us):=⟨hv,fun w hw=>by
 rcases Zft.1 hw with rfl|⟨hw,_⟩
 .exact hu.hle hl
 .exact(h.mono hl).2 w hw⟩
end
section
variable {X X' Y H0:Zd} {n:Nat} {uv gv v:Value} {us:List ZA} {s:NSt} {k h m o t g:Tx} {u w:ZA} {β:Type}
def ZhP (v:Value):Prop:=∃ a n c,v=.slice a n c
theorem ZhP.one (h:ZhP v):oneCell v=true:=by
 obtain⟨a,n,c,rfl⟩:=h;rfl
theorem Zs3 {x:Tx} (h:ZhP (strv x)):False:=by
 obtain⟨a,n,c,h⟩:=h;cases h
theorem Sl.setD {l:List Tx} {b:Nat} {c1 c2 d1 d2:Value} (h:Sl Y v (l.map strv)) (hb:Y[b]?=some (.cells [c1,c2] 1 false false)) (i1:ZhP c1) (i2:ZhP c2):Sl (Y.set b (.cells [d1,d2] 1 false false)) v (l.map strv):=by
 by_cases ho:own1 v=some b
 .obtain⟨a,c,rfl,h0,hf⟩:=h;unfold own1 at ho;split at ho
  .rename_i id o n x e;cases e;cases ho;have hl:l=[]:=by
    unfold QH at hf;simp only[hb] at hf;split at hf
    .have hf:=Option.some.inj hf;cases l with
     | nil=>rfl
     | cons y l=>
      have hm:strv y∈([c1,c2].drop o).take ((List.map strv (y :: l)).length * 1):=by rw[hf];simp
      have hm:=List.mem_of_mem_drop (List.mem_of_mem_take hm);simp only[List.mem_cons,List.not_mem_nil,or_false] at hm;rcases hm with hm|hm
      .rw[<- hm] at i1;exact(Zs3 i1).elim
      .rw[<- hm] at i2;exact(Zs3 i2).elim
    .cases hf
   subst hl;refine⟨_,c,rfl,(fun e=>by cases e),?_⟩;unfold QH at hf ⊢;simp only[hb,ZW hb] at hf ⊢;split at hf
   .rename_i hle;rw[if_pos (by simpa using hle)];simp
   .cases hf
  .cases ho
 .exact h.keep fun id hid=>List.getElem?_set_ne (fun e=>ho (by rw[hid,e]))
theorem SlN.setD {rows:List (List Value)} {b:Nat} {c1 c2 d1 d2:Value} (h:SlN 5 Y v rows) (hb:Y[b]?=some (.cells [c1,c2] 1 false false)):SlN 5 (Y.set b (.cells [d1,d2] 1 false false)) v rows:=by
 by_cases ho:own1 v=some b
 .obtain⟨a,c,rfl,h0,hf,hr⟩:=h;unfold own1 at ho;split at ho
  .rename_i id o n x e;cases e;cases ho;unfold QH at hf;simp only[hb] at hf;split at hf
   .rename_i hle;have hl:rows.length=0:=by
     simp only[List.length_cons,List.length_nil] at hle;omega
    have hl:rows=[]:=List.eq_nil_of_length_eq_zero hl;subst hl;refine⟨_,c,rfl,(fun e=>by cases e),?_,hr⟩;unfold QH;simp only[ZW hb];rw[if_pos (by simpa using hle)];simp
   .cases hf
  .cases ho
 .exact h.keep fun id hid=>List.getElem?_set_ne (fun e=>ho (by rw[hid,e]))
theorem YS.setD {b:Nat} {c1 c2 d1 d2:Value} (h:YS Y v us) (hb:Y[b]?=some (.cells [c1,c2] 1 false false)) (i1:ZhP c1) (i2:ZhP c2):YS (Y.set b (.cells [d1,d2] 1 false false)) v us:=
 ⟨h.1.setD hb,fun u hu=>⟨(h.2 u hu).1.setD hb i1 i2,(h.2 u hu).2⟩⟩
theorem Zu.setD {l:List Tx} {q:List Nat} {b:Nat} {c1 c2 d1 d2:Value} (h:Zu Y v (l.map strv) q) (hb:Y[b]?=some (.cells [c1,c2] 1 false false)) (i1:ZhP c1) (i2:ZhP c2):Zu (Y.set b (.cells [d1,d2] 1 false false)) v (l.map strv) q:=by
 rcases h with⟨h1,rfl,rfl⟩|⟨sid,rest,gr,rfl,rfl,hid⟩
 .exact .inl ⟨h1,rfl,rfl⟩
 .by_cases e:b=sid
  .subst e;rw[hb] at hid;injection hid with hid
   injection hid with hc h2 h3 h4
   cases l with
   | nil=>
    have hc:[c1,c2]=rest:=by simpa using hc
    subst hc;exact .inr ⟨b,[d1,d2],gr,rfl,rfl,by rw[ZW hb,h3];rfl⟩
   | cons y l=>
    rw[List.map_cons,List.cons_append] at hc;injection hc with hc _
    rw[hc] at i1;exact(Zs3 i1).elim
  .exact .inr ⟨sid,rest,gr,rfl,rfl,(List.getElem?_set_ne e).trans hid⟩
theorem RD.back (hR:RD X uv gv s) {s':NSt} (hl:HLe X X') (he:s'=s):RD X' uv gv s':=by rw[he];exact hR.hle hl
theorem RD.users (hR:RD X uv gv s) {s':NSt} {uv':Value} {us':List ZA} (hl:HLe X X') (hU:YS X' uv' us') (hO:ROK s' us') (hK:s'.K=s.K):RD X' uv' gv s':=⟨⟨us',hU,hO⟩,by rw[hK];exact(hR.hle hl).n⟩
end
section
variable {X X' Y H0:Zd} {n:Nat} {uv gv v:Value} {us:List ZA} {s:NSt} {k h m o t g x:Tx} {u w:ZA} {β:Type} {l:List Tx}
end
section
variable {X X' Y H0:Zd} {n:Nat} {uv gv v:Value} {us:List ZA} {s s':NSt} {k h m o t g x:Tx} {u w:ZA} {β:Type} {l:List Tx}
theorem ROK.gs (hO:ROK s us) (hP:Zh1 s) (hu:u∈us):u.gs=ofL u.nm s.K s.mem/\u.gs.length<=6:=by
 have hat:=hO.at hu;unfold J7 at hat;cases ha:Zf u.nm s.A with
 | none=>rw[ha] at hat;cases hat
 | some p=>
  rw[ha] at hat;have h1:u.gs=ofL u.nm s.K s.mem:=congrArg (·.2.2.2.2) (Option.some.inj hat).symm;refine⟨h1,?_⟩;rw[h1];exact Nat.le_trans Znv hP.k.few
end
section
variable {X X' Y H0:Zd} {n:Nat} {uv gv v:Value} {us:List ZA} {s s':NSt} {k h m o t g x:Tx} {u w:ZA} {β:Type} {l:List Tx}
end
structure Zd5 where
 kd:Nat
 a:Tx
 b:Tx
 is:Bool
abbrev Zd5.cells (a:Zd5):List Value:=[.int .u8 a.kd,strv a.a,strv a.b,.bool a.is]
abbrev zNA:Value:=.agg #[.int .u8 0,.string ⟨#[]⟩,.string ⟨#[]⟩,.bool false]
def Zkw (H:Zd) (sl:Value) (ac:List Zd5):Prop:=SlN 4 H sl (ac.map Zd5.cells)/\∀ a∈ac,a.kd<=255
section
variable {H H' X X':Zd} {sl:Value} {ac:List Zd5} {n d c:Nat} {s:NSt} {r:NR} {m:Tx}
theorem Zkw.len (h:Zkw H sl ac):ZC sl H'=some (iv ac.length,H'):=by
 have:=h.1.len (H':=H')
 rwa [List.length_map] at this
theorem Zkw.mono (h:Zkw H sl ac) (hl:HLe H H'):Zkw H' sl ac:=⟨h.1.mono hl,h.2⟩
theorem Zkw.fetch {β:Type} {k:Value->M β} (h:Zkw H sl ac) {j:Nat} {a:Zd5} (hj:ac[j]?=some a) :
  bind (ixa 4 sl (iv j)) (fun p=>bind (ldA 4 p) fun v=>bind (alc 1 zNA) fun q=>bind (stA 4 q v) fun _=>k q) H=k (pt H.length) (H++[.cells a.cells 1 false false]):=by
 have hr:(ac.map Zd5.cells)[j]?=some a.cells:=by rw[List.getElem?_map,hj];rfl
 rw[h.1.fetch hr (by omega) .i64];exact ZbB (n:=4) (zs:=[.int .u8 0,.string ⟨#[]⟩,.string ⟨#[]⟩,.bool false]) (r:=a.cells) rfl rfl rfl rfl
theorem ZxH (h:ND X d r s c):∃ X',R (n+10) ZbN [pt d,strv m] X=some (.tuple #[strv (Zhf m s.OW),iv (Zb9 m s.OW)],X')/\HLe X X':=by
 obtain⟨X1,e1,k1⟩:=ZEo (n:=n) (m:=m) h.ix;refine⟨X1,?_,k1⟩;rw[R,ZpO rfl];unfold ZfL;rw[Za Zg,Za Zj,Za h.l1,Za e1,Za Zp,Za Zq];rfl
end
section
variable {X X' Y Y1 Y2 Y3 H0:Zd} {n d c c' b1 b2 b3:Nat} {r r':NR} {uv gv uv' gv' v:Value} {s s':NSt} {u:Zd5} {e:Int}
theorem RD.setB {b:Nat} {c1 c2 d1 d2:Value} (h:RD Y uv gv s) (hb:Y[b]?=some (.cells [c1,c2] 1 false false)) (i1:ZhP c1) (i2:ZhP c2):RD (Y.set b (.cells [d1,d2] 1 false false)) uv gv s:=
 ⟨h.ex.imp fun us ⟨a,b⟩=>⟨a.setD hb i1 i2,b⟩,h.n.imp fun q ⟨N,a,b⟩=>⟨N,a.setD hb i1 i2,b⟩⟩
end
section
variable {X X' Y Y1 Y2 Y3 H H0:Zd} {n d c c' b1 b2 b3 w:Nat} {r r':NR} {uv gv uv' gv' v sl:Value} {s s':NSt} {u:Zd5} {e:Int} {ac:List Zd5}
structure NL (H X:Zd) (d:Nat) (r:NR) (s:NSt) (uv gv:Value) (w c:Nat):Prop where
 le:HLe H X
 nd:ND X d r s c
 rd:RD X uv gv s
 own:∀ i∈r.own,H.length<=i
 w:X[w]?=some (.cells [uv,gv] 1 false false)
theorem NL.hle (h:NL H X d r s uv gv w c) (hl:HLe X X'):NL H X' d r s uv gv w c:=⟨h.le.trans hl,h.nd.hle hl,h.rd.hle hl,h.own,hl _ _ h.w⟩
end
section
variable {H:Zd} {n:Nat} {s:List UInt8}
end
section
variable {X X' Y H H0:Zd} {n d c w:Nat} {r:NR} {uv gv sl wv:Value} {s:NSt} {us ws:List ZA} {k m g pre:Tx} {q0:List Nat}
theorem ZCm {x:Tx} {b:Nat} (hs:x.length<=1000000000) (hp:pre.length<=1000000000) (hc:H[b]?=some (.cells [strv pre] 1 false false)):R (n+3) Zbj [strv x,pt b] H=some (.bool (!Zdw pre x),H):=by
 have e1:run Tryz.prog np lvs (n+2) YZ [strv x,strv pre] H=_:=ZoO hs hp;rw[R,Zoe rfl];unfold Zfh;rw[Za (KM hc),Za e1,Za ZL];rfl
theorem ZAQ (hd:ND X d r s c) {x:Tx} (hx:x∈QK (W3 s)):x.length<=12:=by
 obtain⟨p,hp,rfl⟩:=List.mem_map.1 (Zad.1 hx);exact ZcY (hd.inv.nm p hp).1
theorem ZCn (hd:ND X d r s c) (hp:pre.length<=1000000000):∃ v q X',R (n+6) Zdk [pt d,strv pre] X=some (.tuple #[v,iv (Ym pre)],X')/\Zu X' v ((if Zff pre then(QK (W3 s)).filter (Zdw pre) else[]).map strv) q/\HLe X X'/\∀ j∈q,X.length<=j:=by
 have e0:=Zdd (v:=strv pre) rfl rfl X;have l0:HLe X (X++[Ze.cells [strv pre] 1 false false]):=.app _ _;have c0:(X++[Ze.cells [strv pre] 1 false false])[X.length]?=some (.cells [strv pre] 1 false false):=Zo;have g0:(X++[Ze.cells [strv pre] 1 false false]).length=X.length+1:=by simp
 generalize X++[Ze.cells [strv pre] 1 false false]=H1 at e0 l0 c0 g0;generalize hc:X.length=b at e0 c0 g0;have e1:run Tryz.prog np lvs (n+5) ZaA [strv pre] H1=some (iv (Ym pre),H1):=Zvt hp;by_cases hb:Zff pre=true
 .have he:Ym pre=0:=by unfold Ym;rw[if_pos hb]
  obtain⟨v,q,H2,e2,r2,l2,o2⟩:=ZCH (n:=n+3) (hd.hle l0);have hQ:∀ X X',X[b]?=some (.cells [strv pre] 1 false false)->Zr q X q X'->X'[b]?=some (.cells [strv pre] 1 false false):=fun X X' hx hs=>hs.get hx fun hj=>by have:=o2 b hj;omega
  have hcall:∀ n X,X[b]?=some (.cells [strv pre] 1 false false)->∀ x∈QK (W3 s),Qn (R (n+3)) (.func (.func Zbj) #[] #[pt b]) [strv x] X=some (.bool (!Zdw pre x),X):=fun n X hx x hs=>by
   rw[show(#[pt b]:Array Value)=[pt b].toArray from rfl,Zh7];exact ZCm (Nat.le_trans (ZAQ hd hs) (by decide)) hp hx
  have hfew:(QK (W3 s)).length<=12:=by
   rw[Zef];have:=hd.inv.few;simpa using this
  obtain⟨H3,v',e3,r3,s3⟩:=ZlS (n:=n+3) (f:=.func (.func Zbj) #[] #[pt b]) (p:=fun x=>!Zdw pre x) (Q:=fun X=>X[b]?=some (.cells [strv pre] 1 false false)) r2 (by omega) hQ (hcall n) (hcall (n+1)) (l2 _ _ c0);have hm:=(l0.trans l2).more s3 (fun j hj=>by have:=o2 j hj;omega);refine⟨v',q,H3,?_,by simpa[hb] using r3,hm.1,fun j hj=>by have:=hm.2 j hj;omega⟩;rw[R,ZhI rfl];unfold Zdj;rw[Za e0,Za (KM c0),Za e1,Za Zn,he,Zb,if_neg (by simp)];refine(Za e2).trans ((Za e3).trans rfl)
 .have he:Ym pre=10:=by unfold Ym;rw[if_neg hb]
  refine⟨.slice none 0 0,[],H1,?_,by rw[if_neg hb];exact Zu.nil,l0,by simp⟩;rw[R,ZhI rfl];unfold Zdj;rw[Za e0,Za (KM c0),Za e1,Za Zn,he,Zb,if_pos (by simp)];rfl
theorem Zw4 (hd:ND X d r s c) (hc:c<=1000000):∃ v q l X',R (n+9) WO [pt d,strv g] X=some (.tuple #[v,iv (Jn g s.K)],X')/\Zu X' v (l.map strv) q/\Is l (fun m=>Jn g s.K=0/\s.mem g m=true)/\l.length<=c/\HLe X X'/\∀ j∈q,X.length<=j:=by
 obtain⟨v,q,l,X',e,r1,i1,n1,k1,o1⟩:=Zzt (n:=n) (k:=g) hd.gr hc;rw[hd.ks] at e i1;refine⟨v,q,l,X',?_,r1,i1,n1,k1,o1⟩;rw[R,Zlr rfl];unfold Zds;rw[Za Zg,Za Zj,Za hd.l2,Za e,Za Zp,Za Zq];rfl
theorem ZAl (hO:ROK s us) (hP:Zh1 s) (hm:Yn m=true):(us.find? fun u=>u.ml==QM m).map (·.nm)=Zf (QM m) s.OW:=by
 have hat:∀ u∈us,u.ml=QM m↔Zf (QM m) s.OW=some u.nm:=fun u hu=>by
  have h1:=hO.at hu;unfold J7 at h1;cases ha:Zf u.nm s.A with
  | none=>rw[ha] at h1;cases h1
  | some p=>
   rw[ha] at h1;have h2:W7 s u.nm p=Zcv u:=Option.some.inj h1;have h3:(Zf u.nm s.OF).getD []=u.ml:=congrArg (·.2.2.1) h2;rw[<- hP.x.inv,<- h3];cases ho:Zf u.nm s.OF with
   | none=>exact⟨fun h=>absurd h.symm (ZjR hm).1,fun h=>by cases h⟩
   | some v=>exact⟨fun h=>by rw[<- h];rfl,fun h=>by cases h;rfl⟩
 cases hf:us.find? fun u=>u.ml==QM m with
 | some u=>
  have h1:=List.find?_some hf;have h2:=List.mem_of_find?_eq_some hf;exact((hat u h2).1 (by simpa using h1)).symm
 | none=>
  rw[List.find?_eq_none] at hf;cases hw:Zf (QM m) s.OW with
  | none=>rfl
  | some x=>
   have h1:=(hP.x.inv _ _).2 hw;have h2:=hP.i.ofA x (by rw[h1];rfl);obtain⟨p,hp⟩:=Option.isSome_iff_exists.1 h2;have h3:J7 s x=some (W7 s x p):=by unfold J7;rw[hp];rfl
   obtain⟨u,hu,hk⟩:=Zbm.1 ((hO.look (W7 s x p)).2 h3);have hn:u.nm=x:=congrArg (·.1) hk;have:=(hat u hu).2 (by rw[hn];exact hw);exact absurd (by simpa using this) (hf u hu)
end
def le (x:Nat):Nat->List UInt8
 | 0=>[]
 | k+1=>UInt8.ofNat (x % 256) :: le (x / 256) k
theorem ZdJ:∀ {k x:Nat},(le x k).length=k
 | 0,_=>rfl
 | k+1,x=>by unfold le;rw[List.length_cons,ZdJ]
def txt (s:List UInt8):List UInt8:=le s.length 2++s
theorem ZEa (a b:List UInt8):u8s (a++b)=u8s a++u8s b:=by simp[u8s]
section
variable {H X:Zd} {n p:Nat} {sl x v:Value} {vs ws:List Value} {own:List Nat} {bs s:List UInt8}
theorem Zu.addN {b:Nat} (h:Zu H sl vs own) (hf:QH 1 H x=some ws) (hn:A.flen x=ws.length) (hb:(vs.length+ws.length) * b<=140737488355328) (hb0:vs.length+ws.length<=140737488355328) :
  ∃ sl' H' own',app 1 b sl x H=some (sl',H')/\Zu H' sl' (vs++ws) own'/\Zr own H own' H':=by
 by_cases h0:ws.length=0
 .have hw:ws=[]:=List.eq_nil_of_length_eq_zero h0;subst hw;refine⟨sl,H,own,?_,by simpa using h,.refl _ _⟩;rcases h with⟨rfl,rfl,rfl⟩|⟨sid,rest,gr,rfl,rfl,hid⟩
  .unfold app;rw[hf];simp[hn]
  .unfold app;rw[hf];simp[hn,hid]
 rcases h with⟨rfl,rfl,rfl⟩|⟨sid,rest,gr,rfl,rfl,hid⟩
 .refine⟨_,H++[.cells ws 1 true false],[H.length],?_,.inr ⟨H.length,[],true,rfl,rfl,by simp⟩,⟨by simp,fun j hj _=>List.getElem?_append_left hj,by simp⟩⟩;unfold app;rw[hf];simp only[hn];simp only[List.length_nil,Nat.zero_add] at hb hb0;rw[if_neg h0,if_pos ⟨hb0,hb⟩];simp
 .have hlt:=Z6 hid;by_cases hc:ws.length<=rest.length
  .have hsp:splice (vs++rest) ws vs.length=vs++(ws++rest.drop ws.length):=by
    unfold splice;rw[List.take_left,List.drop_append,List.drop_eq_nil_of_le (by omega),List.nil_append,Nat.add_sub_cancel_left,List.append_assoc]
   have hset:(H.set sid (.cells (vs++(ws++rest.drop ws.length)) 1 gr false))[sid]?=some (.cells (vs++(ws++rest.drop ws.length)) 1 gr false):=ZW hid;refine⟨.slice (some ⟨sid,0,none⟩) (vs.length+ws.length) (vs.length+rest.length),H.set sid (.cells (vs++(ws++rest.drop ws.length)) 1 gr false),[sid],?_,.inr ⟨sid,rest.drop ws.length,gr,?_,rfl,by rw[hset,List.append_assoc]⟩,⟨by simp,fun j hj hn=>List.getElem?_set_ne (fun e=>hn (by simp[e])),by simp⟩⟩
   .unfold app;rw[hf];simp only[hn,hid,if_true,Nat.mul_one,Nat.zero_add];rw[if_pos (by omega),if_neg h0,if_pos ⟨trivial,by rw[List.length_append];omega⟩,hsp]
   .rw[List.length_append,List.length_drop]
    congr 1;omega
  .have hold:((vs++rest).drop 0).take vs.length=vs:=by rw[List.drop_zero,List.take_left]
   have happ:app 1 b (.slice (some ⟨sid,0,none⟩) vs.length (vs.length+rest.length)) x H=some (.slice (some ⟨H.length,0,none⟩) (vs.length+ws.length) (vs.length+ws.length),(bif gr then H.set sid (.view vs 1 H.length) else H)++[.cells (vs++ws) 1 true false]):=by
    unfold app;rw[hf];simp only[hn,hid,if_true,Nat.mul_one,Nat.zero_add];rw[if_neg (by omega),if_pos ⟨by simp,by rw[List.length_append];omega,hb0,hb⟩,hold];rfl
   have hnew:((bif gr then H.set sid (.view vs 1 H.length) else H)++[.cells (vs++ws) 1 true false])[H.length]?=some (.cells (vs++ws) 1 true false):=by
    rw[List.getElem?_append_right (by cases gr<;>simp)];cases gr<;>simp
   refine⟨_,_,[H.length],happ,.inr ⟨H.length,[],true,by simp,rfl,by rw[hnew,List.append_nil]⟩,⟨?_,fun j hj hn=>?_,by simp⟩⟩
   .cases gr<;>simp
   .rw[List.getElem?_append_left (by cases gr<;>simpa using hj)];cases gr
    .rfl
    .exact List.getElem?_set_ne (fun e=>hn (by simp[e]))
structure Wtr (H:Zd) (p:Nat) (bs:List UInt8) (own:List Nat):Prop where
 o:∃ sl,H[p]?=some (.cells [sl] 1 false false)/\Zu H sl (u8s bs) own
 ne:p∉own
theorem Wtr.lt (h:Wtr H p bs own):∀ j∈p :: own,j < H.length:=by
 obtain⟨sl,hc,hr⟩:=h.o;intro j hj;rcases List.mem_cons.1 hj with rfl|hj
 .exact Z6 hc
 .exact hr.lt j hj
theorem Wtr.keep (h:Wtr H p bs own) (hk:∀ j∈p :: own,X[j]?=H[j]?):Wtr X p bs own:=by
 obtain⟨sl,hc,hr⟩:=h.o;exact⟨⟨sl,by rw[hk p (by simp)];exact hc,hr.keep fun j hj=>hk j (by simp[hj])⟩,h.ne⟩
theorem Wtr.step {o1 o2:List Nat} (h:Wtr H p bs own) (hs:Zr o1 H o2 X) (hn:∀ j∈p :: own,j∉o1):Wtr X p bs own:=
 h.keep fun j hj=>hs.keep j (h.lt j hj) (hn j hj)
theorem Wtr.hle (h:Wtr H p bs own) (hl:HLe H X):Wtr X p bs own:=h.step hl.step (by simp)
theorem Wtr.put {own':List Nat} {bs':List UInt8} (h:Wtr H p bs own) (hr:Zu X sl (u8s bs') own') (hs:Zr own H own' X):∃ X',st1 (pt p) sl X=some (undef,X')/\Wtr X' p bs' own'/\Zr (p :: own) H (p :: own') X':=by
 obtain⟨sl0,hc,hr0⟩:=h.o;have hc1:X[p]?=some (.cells [sl0] 1 false false):=hs.get hc h.ne;have hne:p∉own':=fun hm=>by
  rcases hs.own p hm with h1|h1
  .exact h.ne h1
  .have:=Z6 hc;omega
 have e1:st1 (pt p) sl X=some (undef,X.set p (.cells [sl] 1 false false)):=Zew (o:=0) hc1 (by simp) hr.one.1;refine⟨_,e1,⟨⟨sl,ZW hc1,hr.keep fun j hj=>List.getElem?_set_ne (fun e=>hne (by rw[e];exact hj))⟩,hne⟩,?_⟩;have s1:Zr [p] X [p] (X.set p (.cells [sl] 1 false false)):=⟨by simp,fun j hj hn=>List.getElem?_set_ne (fun e=>hn (by simp[e])),fun j hj=>.inl hj⟩;refine(hs.more (o2:=p :: own) (o2':=p :: own') (by simp+contextual) ?_).trans (s1.more (by simp) (fun j hj=>.inl hj));intro j hj;rcases List.mem_cons.1 hj with rfl|hj
 .exact .inl (by simp)
 .exact .inr (.inl hj)
theorem ZyG (x:Nat):((UInt8.ofNat (x % 256)).toNat:Int)=(x:Int) % 256:=by
 rw[UInt8.toNat_ofNat'];omega
theorem ZAb {N:Nat} (hN:N<=1000):∀ (t k x:Nat) (bs:List UInt8) (own:List Nat) (H:Zd),N - k=t->k<=N->x < 18446744073709551616->bs.length+t<=1000000000000->Wtr H p bs own->
  ∃ H' own',Zi (c4 (Yt.l1 (R n))) [pt p,.int .u64 x,iv N,iv k] H=some (.ext 0 [pt p],H')/\Wtr H' p (bs++le x t) own'/\Zr (p :: own) H (p :: own') H'
 | 0,k,x,bs,own,H,ht,hk,hx,hb,h=>by
  have:k=N:=by omega
  subst this;refine⟨H,own,Qq ?_,by simpa[le] using h,.refl _ _⟩;rw[ZM];unfold Yt.l1;rw[Za Zt,Zb,if_neg (by simp)];rfl
 | t+1,k,x,bs,own,H,ht,hk,hx,hb,h=>by
  have hlt:(k:Int) < N:=by omega
  obtain⟨sl,hc,hr⟩:=h.o;have e1:bsl 1 1 (.int .u8 0) [(0,1,.int .u8 ((UInt8.ofNat (x % 256)).toNat))] H=some (.slice (some ⟨H.length,0,none⟩) 1 1,H++[.cells [.int .u8 ((UInt8.ofNat (x % 256)).toNat)] 1 false false]):=Zqb rfl rfl rfl;have k1:HLe H (H++[Ze.cells [.int .u8 ((UInt8.ofNat (x % 256)).toNat)] 1 false false]):=.app _ _;have s1:Sl (H++[Ze.cells [.int .u8 ((UInt8.ofNat (x % 256)).toNat)] 1 false false]) (.slice (some ⟨H.length,0,none⟩) 1 1) [.int .u8 ((UInt8.ofNat (x % 256)).toNat)]:=Sl.one (vs:=[.int .u8 ((UInt8.ofNat (x % 256)).toNat)]) Zo;generalize H++[Ze.cells [.int .u8 ((UInt8.ofNat (x % 256)).toNat)] 1 false false]=X1 at e1 k1 s1;have h1:=h.hle k1;have hr1:Zu X1 sl (u8s bs) own:=hr.step k1.step (by simp);have hl:(u8s bs).length=bs.length:=Kp bs;obtain⟨sl',X2,own',e2,r2,st2,_⟩:=hr1.push (b:=1) s1 (by omega) (by omega);rw[show u8s bs++[.int .u8 ((UInt8.ofNat (x % 256)).toNat)]=u8s (bs++[UInt8.ofNat (x % 256)]) from by simp[u8s]] at r2;obtain⟨X3,e3,w3,st3⟩:=h1.put r2 st2;have hx2:x / 256 < 18446744073709551616:=by omega
  obtain⟨H',own2,e4,w4,st4⟩:=ZAb hN t (k+1) (x / 256) (bs++[UInt8.ofNat (x % 256)]) own' X3 (by omega) (by omega) hx2 (by rw[List.length_append,List.length_singleton];omega) w3;have c1:cvi .u8 (.int .u64 x) H=some (.int .u8 ((UInt8.ofNat (x % 256)).toNat),H):=by rw[QU,wu8,ZyG]
  have c2:∀ Y,bop .int .shr (.int .u64 x) (.int .u64 8) Y=some (.int .u64 ((x / 256:Nat):Int),Y):=fun Y=>by
   rw[ZFA,if_neg (by decide)]
   congr 3
   rw[show(2:Int) ^ min (8:Int).toNat IntKind.u64.bits=256 from rfl];rw[Int.fdiv_eq_ediv_of_nonneg _ (by decide)];omega
  have c3:ld1 (pt p) H=some (sl,H):=KM hc;refine⟨H',own2,(ZU ?_).trans e4,?_,(k1.step.more (by simp) (fun j hj=>.inl hj)).trans (st3.trans st4)⟩
  .rw[ZM];unfold Yt.l1;rw[Za Zt,Zb,if_pos (by simpa using hlt),Za Zg,Za Zj,Za c3,Za c1,Za e1,Za e2,Za Zg,Za Zj,Za e3,Za (c2 _),Za ZI,JX (by omega)];rfl
  .rw[List.append_assoc] at w4;exact w4
theorem ZzS {N x:Nat} (hN:N<=1000) (hx:x < 18446744073709551616) (hb:bs.length+N<=1000000000000) (h:Wtr H p bs own):∃ H' own',R (n+1) Kv [pt p,.int .u64 x,iv N] H=some (pt p,H')/\Wtr H' p (bs++le x N) own'/\Zr (p :: own) H (p :: own') H':=by
 obtain⟨H',own',e,w,s⟩:=ZAb (n:=n) hN N 0 x bs own H (by omega) (by omega) hx hb h;have e:Zi (c4 (Yt.l1 (R n))) [pt p,.int .u64 x,iv N,.int .i64 0] H=_:=e;refine⟨H',own',?_,w,s⟩;rw[R,ZmI rfl];unfold Yt;rw[Q4 e,ZP];rfl
theorem Zr9 {x:Nat} (hx:x < 256) (hb:bs.length<=100000000000) (h:Wtr H p bs own):∃ H' own',R (n+2) Jc [pt p,.int .u8 x] H=some (pt p,H')/\Wtr H' p (bs++le x 1) own'/\Zr (p :: own) H (p :: own') H':=by
 obtain⟨H',own',e,w,s⟩:=ZzS (n:=n) (N:=1) (x:=x) (by omega) (by omega) (by omega) h;have e:R (n+1) Kv [pt p,.int .u64 x,.int .i64 1] H=_:=e;have c1:cvi .u64 (.int .u8 x) H=some (.int .u64 x,H):=by rw[QU,ZBN,Int.emod_eq_of_lt (by omega) (by omega)]
 refine⟨H',own',?_,w,s⟩;rw[R,Zlx rfl];unfold Zdm;rw[Za c1,Za e];rfl
theorem ZFm {x:Nat} (hx:x < 65536) (hb:bs.length<=100000000000) (h:Wtr H p bs own):∃ H' own',R (n+2) KA [pt p,.int .u16 x] H=some (pt p,H')/\Wtr H' p (bs++le x 2) own'/\Zr (p :: own) H (p :: own') H':=by
 obtain⟨H',own',e,w,s⟩:=ZzS (n:=n) (N:=2) (x:=x) (by omega) (by omega) (by omega) h;have e:R (n+1) Kv [pt p,.int .u64 x,.int .i64 2] H=_:=e;have c1:cvi .u64 (.int .u16 x) H=some (.int .u64 x,H):=by rw[QU,ZBN,Int.emod_eq_of_lt (by omega) (by omega)]
 refine⟨H',own',?_,w,s⟩;rw[R,ZlY rfl];unfold Zd7;rw[Za c1,Za e];rfl
theorem ZF2 (n:Int):IntKind.u16.wrap n=n % 65536:=by simp[IntKind.wrap,IntKind.bits,IntKind.signed]
theorem ZE3:QH 1 H (strv s)=some (u8s s):=by
 unfold strv QH;rfl
theorem ZCy:A.flen (strv s)=(u8s s).length:=by
 rw[Kp];unfold strv A.flen;exact Zsv
theorem ZxO (hs:s.length<=65535) (hb:bs.length<=1000000000) (h:Wtr H p bs own):∃ H' own',R (n+3) Kb [pt p,strv s] H=some (pt p,H')/\Wtr H' p (bs++txt s) own'/\Zr (p :: own) H (p :: own') H':=by
 obtain⟨H1,q1,e1,w1,s1⟩:=ZFm (n:=n) (x:=s.length) (by omega) (by omega) h;obtain⟨sl,hc,hr⟩:=w1.o;have hl2:(u8s (bs++le s.length 2)).length=bs.length+2:=by rw[Kp,List.length_append,ZdJ]
 have hl3:(u8s s).length=s.length:=Kp s;obtain⟨sl',H2,q2,e2,r2,s2⟩:=hr.addN (b:=1) (x:=strv s) ZE3 ZCy (by omega) (by omega);rw[<- ZEa,List.append_assoc] at r2;obtain⟨H3,e3,w3,s3⟩:=w1.put r2 s2;have c0:mxi false (iv s.length) (.int .i64 65535) H=some (iv s.length,H):=by rw[YB,if_neg (by omega)]
 have c1:sls (strv s) none (some (iv s.length)) H=some (strv s,H):=by
  have:=ZuR (s:=s) (k:=s.length) (H:=H) (Nat.le_refl _)
  rwa [List.take_length] at this
 have c2:cvi .u16 (iv s.length) H=some (.int .u16 s.length,H):=by rw[QU,ZF2,Int.emod_eq_of_lt (by omega) (by omega)]
 have c3:ld1 (pt p) H1=some (sl,H1):=KM hc;refine⟨H3,q2,?_,w3,s1.trans s3⟩;rw[R,Zlu rfl];unfold Zdx;rw[Za Z9,Za c0,Za c1,Za Z9,Za c2,Za e1,Za Zg,Za Zj,Za c3,Za e2,Za Zg,Za Zj,Za e3];rfl
theorem ZCZ {b:Value} {bs:List UInt8} (hb:Sl H b (u8s bs)) (hp:bs.length<=140737488355328) :
  ∃ v q H',R (n+1) Zfd [b] H=some (v,H')/\Zu H' v (u8s bs) q/\HLe H H'/\∀ j∈q,H.length<=j:=by
 rw[R,Zsz rfl];rcases hb.isnil (H':=H) with⟨rfl,hp0,e⟩|e
 .refine⟨.slice none 0 0,[],H,?_,by rw[hp0];exact Zu.nil,.refl _,by simp⟩;unfold Ze8;rw[Za e];rfl
 .have hb2:Sl (H++[.cells [] 1 false false]) b (u8s bs):=hb.mono (.app _ _);obtain⟨sl',H',own',e2,hr,hle,ho⟩:=ZwK (b:=1) hb2 (by rw[Kp];omega) (by rw[Kp];omega) (s:=.slice (some ⟨H.length,0,none⟩) 0 0) (.inr ⟨H.length,false,rfl,Zo,rfl⟩);refine⟨sl',own',H',?_,hr,(HLe.app _ _).trans hle,fun j hj=>?_⟩
  .unfold Ze8;rw[Za e,Zb,if_neg (by simp),Za ZBH,Za e2];rfl
  .rcases ho j hj with h|⟨_,h⟩
   .simp at h;omega
   .cases h;exact Nat.le_refl _
theorem ZBu (hb:bs.length<=1000000000) (h:Wtr H p bs own):∃ v q H',R (n+2) YT [pt p] H=some (v,H')/\Zu H' v (u8s bs) q/\HLe H H'/\∀ j∈q,H.length<=j:=by
 obtain⟨sl,hc,hr⟩:=h.o;obtain⟨v,q,H',e,r,l,o⟩:=ZCZ (n:=n) hr.rd (by omega);refine⟨v,q,H',?_,r,l,o⟩;rw[R,Zj5 rfl];unfold ZcS;rw[Za Zg,Za Zj,Za (KM hc),Za e];rfl
theorem ZEf:bld (.agg #[.slice none 0 0]) [] H=some (.agg #[.slice none 0 0],H)/\alc 1 (.agg #[.slice none 0 0]) H=some (pt H.length,H++[.cells [.slice none 0 0] 1 false false])/\Wtr (H++[.cells [.slice none 0 0] 1 false false]) H.length [] []:=
 ⟨rfl,rfl,⟨⟨.slice none 0 0,Zo,Zu.nil⟩,by simp⟩⟩
end
abbrev RSt:=Nat × List UInt8
def RB (H:Zd) (sl:Value) (bs:List UInt8):Prop:=
 (bs=[]/\(sl=.slice none 0 0\/∃ id o j,sl=.slice (some ⟨id,o,some j⟩) 0 0))\/
 ∃ id o c cs g ro,sl=.slice (some ⟨id,o,none⟩) bs.length c/\bs.length<=c/\H[id]?=some (.cells cs 1 g ro)/\o+bs.length<=cs.length/\(cs.drop o).take bs.length=u8s bs
def Rdr (H:Zd) (p:Nat) (s:RSt):Prop:=
 ∃ sl,H[p]?=some (.cells [sl,iv s.1] 1 false false)/\RB H sl s.2/\(∀ j,own1 sl=some j->j < p)/\(s.1≠0->s.2=[])
section
variable {H X:Zd} {n p:Nat} {sl x v:Value} {vs ws:List Value} {own:List Nat} {bs:List UInt8} {s:RSt}
theorem RB.rd (h:RB H sl bs):Sl H sl (u8s bs):=by
 rcases h with⟨rfl,rfl|⟨id,o,j,rfl⟩⟩|⟨id,o,c,cs,g,ro,rfl,h1,h2,h3,h4⟩
 .exact Sl.nil
 .exact⟨_,_,rfl,(fun e=>by cases e),rfl⟩
 .refine⟨_,c,by rw[Kp],(fun e=>by cases e),?_⟩;unfold QH;simp only[h2,Nat.mul_one];rw[if_pos h3,h4]
theorem RB.one (h:RB H sl bs):oneCell sl=true:=by
 rcases h with⟨rfl,rfl|⟨id,o,j,rfl⟩⟩|⟨id,o,c,cs,g,ro,rfl,_⟩<;>rfl
theorem RB.keep (h:RB H sl bs) (hk:∀ j,own1 sl=some j->X[j]?=H[j]?):RB X sl bs:=by
 rcases h with h|⟨id,o,c,cs,g,ro,rfl,h1,h2,h3,h4⟩
 .exact .inl h
 .exact .inr ⟨id,o,c,cs,g,ro,rfl,h1,by rw[hk id rfl];exact h2,h3,h4⟩
theorem RB.cut (h:RB H sl bs) {k:Nat} (hk:k<=bs.length):∃ a b,slv 1 sl none (some (iv k)) none H=some (a,H)/\slv 1 sl (some (iv k)) none none H=some (b,H)/\RB H a (bs.take k)/\RB H b (bs.drop k)/\(∀ j,own1 a=some j->own1 sl=some j)/\(∀ j,own1 b=some j->own1 sl=some j):=by
 have b1:∀ d,bnd (some (iv k)) d=some k:=fun d=>by simp[bnd]
 have b2:∀ d,bnd none d=some d:=fun _=>rfl;rcases h with⟨rfl,h⟩|⟨id,o,c,cs,g,ro,rfl,h1,h2,h3,h4⟩
 .have hk0:k=0:=by simpa using hk
  subst hk0;rcases h with rfl|⟨id,o,j,rfl⟩
  .exact⟨_,_,rfl,rfl,.inl ⟨rfl,.inl rfl⟩,.inl ⟨rfl,.inl rfl⟩,fun _ h=>h,fun _ h=>h⟩
  .exact⟨_,_,rfl,rfl,.inl ⟨rfl,.inr ⟨_,_,_,rfl⟩⟩,.inl ⟨rfl,.inr ⟨_,_,_,rfl⟩⟩,fun _ h=>h,fun _ h=>h⟩
 .have hA:∃ a,slv 1 (.slice (some ⟨id,o,none⟩) bs.length c) none (some (iv k)) none H=some (a,H)/\RB H a (bs.take k)/\(∀ j,own1 a=some j->some id=some j):=by
   by_cases h0:c=0
   .have hb:bs=[]:=List.eq_nil_of_length_eq_zero (by omega);subst hb;refine⟨.slice (some ⟨id,o,some (bif g then 1 else 0)⟩) 0 0,?_,.inl ⟨List.take_nil,.inr ⟨_,_,_,rfl⟩⟩,fun j h=>by cases h⟩;have hk0:k=0:=by simpa using hk
    subst hk0;simp only[slv,h2,b1,b2];rw[if_pos ⟨trivial,by omega,by omega,Nat.le_refl _⟩,if_pos (by omega)]
   .have hl:(bs.take k).length=k:=by simp;omega
    refine⟨.slice (some ⟨id,o,none⟩) k c,?_,.inr ⟨id,o,c,cs,g,ro,by rw[hl],by omega,h2,by omega,?_⟩,fun j h=>h⟩
    .simp only[slv,h2,b1,b2];rw[if_pos ⟨trivial,by omega,by omega,Nat.le_refl _⟩,if_neg (by omega)];simp
    .have:=congrArg (List.take k) h4;rw[List.take_take,Nat.min_eq_left hk] at this;rw[hl,this];simp[u8s,List.map_take]
  have hB:∃ b,slv 1 (.slice (some ⟨id,o,none⟩) bs.length c) (some (iv k)) none none H=some (b,H)/\RB H b (bs.drop k)/\(∀ j,own1 b=some j->some id=some j):=by
   by_cases h0:c=k
   .have hb:bs.drop k=[]:=List.drop_eq_nil_of_le (by omega);refine⟨.slice (some ⟨id,o,some (bif g then 1 else 0)⟩) 0 0,?_,.inl ⟨hb,.inr ⟨_,_,_,rfl⟩⟩,fun j h=>by cases h⟩;simp only[slv,h2,b1,b2];rw[if_pos ⟨trivial,by omega,by omega,Nat.le_refl _⟩,if_pos (by omega)]
   .have hl:(bs.drop k).length=bs.length - k:=by simp
    refine⟨.slice (some ⟨id,o+k,none⟩) (bs.length - k) (c - k),?_,.inr ⟨id,o+k,c - k,cs,g,ro,by rw[hl],by omega,h2,by omega,?_⟩,fun j h=>h⟩
    .simp only[slv,h2,b1,b2];rw[if_pos ⟨trivial,by omega,by omega,Nat.le_refl _⟩,if_neg (by omega)];simp
    .have:=congrArg (List.drop k) h4;rw[List.drop_take,List.drop_drop] at this;rw[hl,this];simp[u8s,List.map_drop]
  obtain⟨a,a1,a2,a3⟩:=hA;obtain⟨b,c1,c2,c3⟩:=hB;exact⟨a,b,a1,c1,a2,c2,a3,c3⟩
theorem Rdr.hle (h:Rdr H p s) (hl:HLe H X):Rdr X p s:=by
 obtain⟨sl,hc,hr,hn,h0⟩:=h;refine⟨sl,hl _ _ hc,hr.keep fun j hj=>?_,hn,h0⟩;rcases hr with⟨_,rfl|⟨id,o,k,rfl⟩⟩|⟨id,o,c,cs,g,ro,rfl,h1,h2,h3,h4⟩
 .cases hj
 .cases hj
 .cases hj;rw[h2,hl _ _ h2]
theorem Rdr.put {s':RSt} {sl':Value} (hc:H[p]?=some (.cells [x,v] 1 false false)) (hr:RB H sl' s'.2) (hn:∀ j,own1 sl'=some j->j < p) (h0:s'.1≠0->s'.2=[]):Rdr (H.set p (.cells [sl',iv s'.1] 1 false false)) p s'/\Zr [p] H [p] (H.set p (.cells [sl',iv s'.1] 1 false false)):=
 ⟨⟨sl',ZW hc,hr.keep fun j hj=>List.getElem?_set_ne (fun e=>by have:=hn j hj;omega),hn,h0⟩,⟨by simp,fun j hj hm=>List.getElem?_set_ne (fun e=>hm (by simp[e])),fun j hj=>.inl hj⟩⟩
def ZzJ (s:RSt):Nat:=if s.1=0 then(if s.2=[] then 0 else 3) else s.1
end
structure OpT where
 kd:Nat
 a:Tx
 b:Tx
 nd:Nat
 rl:Nat
 deriving DecidableEq
def OpT.cells (o:OpT):List Value:=[.int .u8 o.kd,strv o.a,strv o.b,.int .u8 o.nd,.int .u8 o.rl]
structure ZgF (o:OpT):Prop where
 kd:o.kd<=255
 nd:o.nd<=255
 rl:o.rl<=255
def ZaW:List Tx:=[[97,98],[97],[97,98],[97],[97],[97,98],[97],[97],[97,98],[97],[97],[97,98],[97,98],[97],[97],[],[110,114]]
def sgn (o:OpT):Tx:=ZaW.getD o.kd []
def Zb2 (o:OpT):OpT:=
 ⟨o.kd,if 97∈sgn o then o.a else[],if 98∈sgn o then o.b else[],if 110∈sgn o then o.nd else 0,if 114∈sgn o then o.rl else 0⟩
def ZjT (o:OpT) (c:UInt8):Bool:=if c=110 then decide (o.nd < 7) else if c=114 then decide (1<=o.rl) && decide (o.rl<=3) else true
def Zpv (o:OpT) (c:UInt8):List UInt8:=if c=97 then txt o.a else if c=98 then txt o.b else if c=110 then le o.nd 1 else if c=114 then le o.rl 1 else[]
def ZdB (o:OpT):List UInt8:=le o.kd 1++((sgn o).map (Zpv o)).flatten
def checkO (o:OpT):Nat:=
 if 17<=o.kd\/o≠Zb2 o then 4
 else if(sgn o).all (ZjT o) then(if 64 < o.a.length+o.b.length\/64 < (ZdB o).length then 3 else 0) else 4
inductive Z8 where
 | old (m:Qw)
 | now (s:NSt)
structure Ql where
 num:Nat
 e:Nat
 l:List Tx
structure YM where
 cl:Nat
 num:Nat
 o:OpT
def YM.cells (r:YM):List Value:=[.int .u8 r.cl,.int .u64 r.num]++r.o.cells
structure ZiT (r:YM):Prop where
 cl:r.cl<=255
 num:r.num < 18446744073709551616
 o:ZgF r.o
def judgeS (t:List Ql) (c n:Nat):Nat:=
 if 8<=c\/n=0\/1099511627776 < n then 0
 else match t[c]? with
  | some r=>if n < r.num then 1 else if n=r.num then 2 else 3
  | none=>0
def ZfH (m:Tx):Bool:=m==[] || (Yn m && QM m==m)
def KW:List Tx->Bool
 | a :: b :: l=>decide (a < b) && KW (b :: l)
 | _=>true
def Zje (gs:List Tx):Int:=if 6 < gs.length then 7 else if gs.all Zw then(if KW gs then 0 else 9) else 10
def ZaP (u:ZA):Int:=if Zw u.nm then(if WD u.hs then(if ZfH u.ml then Zje u.gs else 11) else 4) else 10
section
variable {X X' H H0:Zd} {n p:Nat} {v sl:Value} {l gs:List Tx} {m:Tx} {u:ZA}
theorem ZiQ {a b:Tx}:KW (a :: b :: l)=(decide (a < b) && KW (b :: l)):=rfl
theorem Zrt (hl:l.length<=1000000) (hs:Sl X v (l.map strv)):∀ (t j:Nat),l.length - j=t->j<=l.length->
  Zi (c4 (Jw.l1 (R (n+5)))) [v,v,iv l.length,iv j] X=some (if(l.drop j).all Zw then .ext 0 [v] else .ret (iv 10),X)
 | 0,j,ht,hj=>by
  rw[List.drop_eq_nil_of_le (by omega)];refine Qq ?_;rw[ZM,show j=l.length by omega];unfold Jw.l1;rw[Za Zt,Zb,if_neg (by simp)];rfl
 | t+1,j,ht,hj=>by
  have hkl:j < l.length:=by omega
  have hlt:(j:Int) < l.length:=by omega
  have hg:=List.getElem?_eq_getElem hkl;have hd:=List.drop_eq_getElem_cons hkl;generalize l[j]=y at hg hd;have x1:=hs.ix (i:=j) (by simpa using hkl) .i64 X;have x2:=hs.ldx (WC hg);have e1:R (n+5) QS [strv y] X=some (iv (ZG y),X):=Zdf;rw[hd,List.all_cons];cases hn:Zw y
  .have he:ZG y=10:=by unfold ZG;rw[hn];rfl
   rw[he] at e1;refine YA ?_;rw[ZM];unfold Jw.l1;rw[Za Zt,Zb,if_pos (by simpa using hlt),Za x1,Za x2,Za e1,Za Zn,Zb,if_pos (by simp)];rfl
  .have he:ZG y=0:=ZcE.2 hn;rw[he] at e1;rw[Bool.true_and];refine(ZU ?_).trans (Zrt hl hs t (j+1) (by omega) (by omega));rw[ZM];unfold Jw.l1;rw[Za Zt,Zb,if_pos (by simpa using hlt),Za x1,Za x2,Za e1,Za Zn,Zb,if_neg (by simp),Za ZI,JX (by omega)];rfl
theorem Zto (hl:l.length<=1000000) (hs:Sl X v (l.map strv)):∀ (t j:Nat),l.length - j=t->1<=j->(j<=l.length\/j=1)->
  Zi (c2 (Jw.l2 (R n))) [v,iv j] X=some (if KW (l.drop (j - 1)) then .ext 2 [] else .ret (iv 9),X)
 | 0,j,ht,hj,hj2=>by
  have hr:KW (l.drop (j - 1))=true:=by
   have h1:(l.drop (j - 1)).length<=1:=by rw[List.length_drop];omega
   match l.drop (j - 1),h1 with
   | [],_=>rfl
   | [a],_=>rfl
  have hlen:ZC v X=some (iv l.length,X):=by have:=hs.len (H':=X);simpa using this
  rw[hr];refine Qq ?_;rw[Qv];unfold Jw.l2;rw[Za hlen,Za Zt,Zb,if_neg (by simp;omega)];rfl
 | t+1,j,ht,hj,hj2=>by
  have hkl:j < l.length:=by omega
  have hlt:(j:Int) < l.length:=by omega
  have hlen:ZC v X=some (iv l.length,X):=by have:=hs.len (H':=X);simpa using this
  have hk0:j - 1 < l.length:=by omega
  have hg:=List.getElem?_eq_getElem hkl;have hg0:=List.getElem?_eq_getElem hk0;have hd:=List.drop_eq_getElem_cons hkl;have hd0:=List.drop_eq_getElem_cons hk0;rw[show j - 1+1=j by omega,hd] at hd0;generalize l[j]=y at hg hd hd0;generalize l[j - 1]=y0 at hg0 hd0;have x1:=hs.ix (i:=j) (by simpa using hkl) .i64 X;have x2:=hs.ldx (WC hg);have x3:=hs.ix (i:=j - 1) (by simpa using hk0) .i64 X;have x4:=hs.ldx (WC hg0);have w0:IntKind.i64.wrap ((j:Int) - 1)=((j - 1:Nat):Int):=by rw[w64 (by omega) (by omega)];omega
  have q1:bop .str .geq (strv y0) (strv y) X=some (.bool (!decide (y0 < y)),X):=ZFN;rw[hd0,ZiQ];by_cases hy:y0 < y
  .rw[decide_eq_true hy] at q1 ⊢;rw[Bool.true_and,<- hd];have ih:=Zto hl hs t (j+1) (by omega) (by omega) (by omega);rw[Nat.add_sub_cancel] at ih;refine(ZU ?_).trans ih;rw[Qv];unfold Jw.l2;rw[Za hlen,Za Zt,Zb,if_pos (by simpa using hlt),Za Q1,w0,Za x3,Za x4,Za x1,Za x2,Za q1,Zb,if_neg (by simp),Za ZI,JX (by omega)];rfl
  .rw[decide_eq_false hy] at q1 ⊢;refine YA ?_;rw[Qv];unfold Jw.l2;rw[Za hlen,Za Zt,Zb,if_pos (by simpa using hlt),Za Q1,w0,Za x3,Za x4,Za x1,Za x2,Za q1,Zb,if_pos (by simp)];rfl
theorem Zvu (hl:l.length<=1000000) (hs:Sl X v (l.map strv)):R (n+6) ZcH [v] X=some (iv (Zje l),X):=by
 have hlen:ZC v X=some (iv l.length,X):=by have:=hs.len (H':=X);simpa using this
 have e1:=Zrt (n:=n) hl hs l.length 0 (by omega) (by omega);have e2:=Zto (n:=n+5) hl hs (l.length - 1) 1 rfl (Nat.le_refl _) (.inr rfl);rw[show iv ((0:Nat):Int)=.int .i64 0 from rfl,List.drop_zero] at e1;rw[show iv ((1:Nat):Int)=.int .i64 1 from rfl,Nat.sub_self,List.drop_zero] at e2;rw[R,Zte rfl];unfold Jw Zje;rw[Za hlen];by_cases h6:6 < l.length
 .rw[Za Qm,Zb,if_pos (by simp;omega),if_pos h6];rfl
 .rw[Za Qm,Zb,if_neg (by simp;omega),if_neg h6,Za hlen];cases ha:l.all Zw
  .rw[ha] at e1;rw[KG e1];rfl
  .rw[ha] at e1;rw[Q4 e1,ZP,J1];cases hr:KW l
   .rw[hr] at e2;rw[KG e2];rfl
   .rw[hr] at e2;rw[Q4 e2,ZP];rfl
theorem ZzE:∃ X',R (n+9) ZeT [strv m] X=some (iv (if ZfH m then 0 else 11),X')/\HLe X X':=by
 have f1:∀ r X',Zfg (R (n+8)) (strv m) X=some (r,X')->R (n+9) ZeT [strv m] X=some (r,X'):=fun r X' hr=>by rw[R,Zwn rfl];exact hr
 have q1:bop .str .eql (strv m) (.string ⟨#[]⟩) X=some (.bool (m==[]),X):=Zix (b:=[]);unfold ZfH;by_cases hm:m=[]
 .refine⟨X,f1 _ _ ?_,.refl _⟩;unfold Zfg;rw[Za q1,Zb,if_pos (by simpa using hm)];simp[hm,ret]
 .have hmb:(m==[])=false:=by simpa using hm
  obtain⟨X1,e1,k1⟩:=ZrP (n:=n) (s:=m) (X:=X);refine⟨X1,f1 _ _ ?_,k1⟩;unfold Zfg;rw[hmb] at q1 ⊢;rw[Za q1,Zb,if_neg (by simp),Za e1,Za Zp,Za Zq];cases hb:Yn m
  .have q2:bop .int .neq (iv 11) (.int .i64 0) X1=some (.bool true,X1):=by rw[Zn];rfl
   simp only[Bool.false_eq_true,if_false,Bool.false_and,Bool.or_false];rw[Za q2,Za (g_r.trans (if_neg (by simp)))];simp only[List.replicate];rw[ZV,Za Zl];simp only[cond_true];rw[Zb,if_pos rfl];rfl
  .have q2:bop .int .neq (iv 0) (.int .i64 0) X1=some (.bool false,X1):=by rw[Zn];rfl
   have q3:bop .str .neq (strv (QM m)) (strv m) X1=some (.bool (!(QM m==m)),X1):=ZiB;simp only[if_true,Bool.true_and,Bool.false_or];rw[Za q2,Z0,Zk,Za q3,Qe,ZV,Za Zl];simp only[cond_false];cases hf:QM m==m
   .rw[Zb,if_pos (by rfl)];rfl
   .rw[Zb,if_neg (by simp)];rfl
theorem UOK.cells1 (h:UOK X u):alc 1 (.agg u.cells.toArray) X=some (pt X.length,X++[.cells u.cells 1 false false]):=ZFw h.2.1
theorem Zvl (h:UOK X u):∃ X',R (n+10) Zcl [iv 2,.agg u.cells.toArray] X=some (iv (ZaP u),X')/\HLe X X':=by
 have e1:=h.cells1;have k1:HLe X (X++[.cells u.cells 1 false false]):=.app _ _;have c1:(X++[Ze.cells u.cells 1 false false])[X.length]?=some (.cells u.cells 1 false false):=Zo;generalize X++[Ze.cells u.cells 1 false false]=X1 at e1 k1 c1;generalize X.length=p at e1 c1;have a0:∀ Y,HLe X1 Y->∀ f x,u.cells[f]?=some x->ld1 (pa p f) Y=some (x,Y):=fun Y hl f x h=>Zv (hl _ _ c1) h;have e2:R (n+9) QS [strv u.nm] X1=some (iv (ZG u.nm),X1):=Zdf (n:=n+4);have e3:R (n+9) KZ [strv u.hs] X1=some (iv (QG u.hs),X1):=Zs2 (n:=n+5);have b2:=ZCS (a:=ZG u.nm) (c:=QG u.hs) X1;have k2:HLe X1 (X1++[Ze.cells [iv (ZG u.nm),iv (QG u.hs)] 1 false false]):=.app _ _;have s2:Sl (X1++[Ze.cells [iv (ZG u.nm),iv (QG u.hs)] 1 false false]) (.slice (some ⟨X1.length,0,none⟩) 2 2) [iv (ZG u.nm),iv (QG u.hs)]:=Sl.one (vs:=[iv (ZG u.nm),iv (QG u.hs)]) (es:=1) (g:=false) (ro:=false) Zo;generalize X1++[Ze.cells [iv (ZG u.nm),iv (QG u.hs)] 1 false false]=X2 at b2 k2 s2;generalize X1.length=p2 at b2 s2;have e4:R (n+9) Zbq [.slice (some ⟨p2,0,none⟩) 2 2] X2=_:=Zym (n:=n+8) s2;have q1:bop .int .neq (iv 2) (.int .i64 1) X1=some (.bool true,X1):=by rw[Zn];rfl
 have q2:bop .int .neq (iv 2) (.int .i64 2) X1=some (.bool false,X1):=by rw[Zn];rfl
 have q3:bop .int .eql (iv 2) (.int .i64 2) X2=some (.bool true,X2):=by rw[ZE];rfl
 have f1:∀ r X',Zco (R (n+9)) (iv 2) (.agg u.cells.toArray) X=some (r,X')->R (n+10) Zcl [iv 2,.agg u.cells.toArray] X=some (r,X'):=fun r X' hr=>by rw[R,Zuv rfl];exact hr
 have hpre:∀ K:Value->M Value,bind (alc 1 (.agg u.cells.toArray)) (fun v3=>bind (bop .int .neq (iv 2) (.int .i64 1)) fun v7=>bind (gate v7 true 2 (bind (bop .int .neq (iv 2) (.int .i64 2)) fun v10=>ret [iv 2,v10])) (c2 fun _ q=>bind (pick v7 q (.bool false)) fun v11=>cnd v11 (ret (.int .i64 6)) (K v3))) X=K (pt p) X1:=fun K=>by
  rw[Za e1,Za q1,Z0,Zk,Za q2,Qe,Qv,Za Zl];simp only[cond_true];rw[Zb,if_neg (by simp)]
 unfold ZaP;cases hn:Zw u.nm
 .have h0:ZG u.nm=10:=by unfold ZG;rw[hn];rfl
  refine⟨X2,f1 _ _ ?_,k1.trans k2⟩;unfold Zco;refine(hpre _).trans ?_;rw[Za Zj,Za (a0 _ (.refl _) 0 _ rfl),Za Zj,Za (a0 _ (.refl _) 1 _ rfl),Za e2,Za (a0 _ (.refl _) 1 _ rfl),Qx,Za e3,Za b2,Za e4,h0,Za Zn,Zb,if_pos (by simp)];rfl
 .have h0:ZG u.nm=0:=ZcE.2 hn;cases hs:WD u.hs
  .have h1:QG u.hs=4:=by unfold QG;rw[hs];rfl
   refine⟨X2,f1 _ _ ?_,k1.trans k2⟩;unfold Zco;refine(hpre _).trans ?_;rw[Za Zj,Za (a0 _ (.refl _) 0 _ rfl),Za Zj,Za (a0 _ (.refl _) 1 _ rfl),Za e2,Za (a0 _ (.refl _) 1 _ rfl),Qx,Za e3,Za b2,Za e4,h0,h1,Za Zn,Zb,if_pos (by simp)];rfl
  .have h1:QG u.hs=0:=ZBS.2 hs;have k12:=k1.trans k2;have s4:=(h.hle k12).1;have hl6:=h.2.2;obtain⟨X3,e5,k3⟩:=ZzE (n:=n) (m:=u.ml) (X:=X2);have e6:R (n+9) ZcH [u.gv] X3=_:=Zvu (n:=n+3) hl6 (s4.mono k3);have b7:=ZCS (a:=if ZfH u.ml then 0 else 11) (c:=Zje u.gs) X3;have k7:HLe X3 (X3++[Ze.cells [iv (if ZfH u.ml then 0 else 11),iv (Zje u.gs)] 1 false false]):=.app _ _;have s7:Sl (X3++[Ze.cells [iv (if ZfH u.ml then 0 else 11),iv (Zje u.gs)] 1 false false]) (.slice (some ⟨X3.length,0,none⟩) 2 2) [iv (if ZfH u.ml then 0 else 11),iv (Zje u.gs)]:=Sl.one (vs:=[iv (if ZfH u.ml then 0 else 11),iv (Zje u.gs)]) (es:=1) (g:=false) (ro:=false) Zo;generalize X3++[Ze.cells [iv (if ZfH u.ml then 0 else 11),iv (Zje u.gs)] 1 false false]=X7 at b7 k7 s7;generalize X3.length=p7 at b7 s7;have e8:R (n+9) Zbq [.slice (some ⟨p7,0,none⟩) 2 2] X7=_:=Zym (n:=n+8) s7;refine⟨X7,f1 _ _ ?_,(k12.trans k3).trans k7⟩;unfold Zco;refine(hpre _).trans ?_;rw[Za Zj,Za (a0 _ (.refl _) 0 _ rfl),Za Zj,Za (a0 _ (.refl _) 1 _ rfl),Za e2,Za (a0 _ (.refl _) 1 _ rfl),Qx,Za e3,Za b2,Za e4,h0,h1,Za Zn,Zb,if_neg (by simp),Za q3,Zb,if_pos rfl,Za Zj,Za (a0 _ k2 2 _ rfl),Za Zj,Za (a0 _ k2 4 _ rfl),Za e5,Za (a0 _ (k2.trans k3) 4 _ rfl),Qx,Za e6,Za b7,Za e8];cases hm:ZfH u.ml<;>simp[ret]
end
def Wr:List ZA->Int
 | []=>0
 | u :: l=>if ZaP u=0 then Wr l else ZaP u
def ZsI (us:List ZA):Int:=if Wr us=0 then(if KW (us.map (·.nm)) then(if 12 < us.length then 7 else 0) else 9) else Wr us
def Zjd (us:List ZA) (gs:List Tx):Int:=if ZsI us=0 then(if gs.all Zw then(if KW gs then(if 6 < gs.length then 7 else 0) else 9) else 10) else ZsI us
def Zrr (gs:List Tx) (prev:List ZA) (u:ZA):Int:=if u.gs.all (fun g=>decide (g∈gs)) then(if u.ml≠[]/\prev.any (fun v=>u.ml==v.ml)=true then 9 else 0) else 8
def Ze5 (gs:List Tx):List ZA->List ZA->Int
 | _,[]=>0
 | prev,u :: l=>if Zrr gs prev u=0 then Ze5 gs (prev++[u]) l else Zrr gs prev u
def Zr1 (us:List ZA) (gs:List Tx):Int:=if Zjd us gs=0 then Ze5 gs [] us else Zjd us gs
def ZF7 (X:Zd) (sl:Value) (us:List ZA):Prop:=∀ k,k<=us.length->∃ v,(∀ X',HLe X X'->slv 5 sl none (some (iv k)) none X'=some (v,X'))/\SlN 5 X v ((us.take k).map ZA.cells)
section
variable {X X' H H0:Zd} {n p d b:Nat} {v sl gv:Value} {l gs:List Tx} {m:Tx} {u:ZA} {us:List ZA}
theorem ZhY:∀ {l:List Tx},KW l=true->l.Pairwise (· < ·)
 | [],_=>List.Pairwise.nil
 | [a],_=>by simp
 | a :: b :: l,h=>by
  rw[ZiQ,Bool.and_eq_true,decide_eq_true_eq] at h;have ih:=ZhY h.2;refine List.Pairwise.cons (fun x hx=>?_) ih;rcases List.mem_cons.1 hx with rfl|hx
  .exact h.1
  .exact List.lt_trans h.1 ((List.pairwise_cons.1 ih).1 x hx)
theorem Ztx:∀ {us:List ZA},Wr us=0->∀ u∈us,ZaP u=0
 | [],_,_,h=>by simp at h
 | w :: us,h,u,hu=>by
  unfold Wr at h;by_cases hw:ZaP w=0
  .rw[if_pos hw] at h;rcases List.mem_cons.1 hu with rfl|hu
   .exact hw
   .exact Ztx h u hu
  .rw[if_neg hw] at h;exact absurd h hw
theorem ZoF {k:Nat} (hl:l.length<=1000000) (hs:Sl X v (l.map strv)):R (n+4) KO [v,iv k] X=some (iv (if KW l then(if k < l.length then 7 else 0) else 9),X):=by
 have hlen:ZC v X=some (iv l.length,X):=by have:=hs.len (H':=X);simpa using this
 have lp:∀ (t j:Nat),l.length - j=t->1<=j->(j<=l.length\/j=1)->Zi (c3 (Wv.l1 (R (n+3)))) [v,iv k,iv j] X=some (if KW (l.drop (j - 1)) then .ext 0 [v,iv k] else .ret (iv 9),X):=by
  intro t
  induction t with
  | zero=>
   intro j ht hj hj2;have hr:KW (l.drop (j - 1))=true:=by
    have h1:(l.drop (j - 1)).length<=1:=by rw[List.length_drop];omega
    match l.drop (j - 1),h1 with
    | [],_=>rfl
    | [a],_=>rfl
   rw[hr];refine Qq ?_;rw[ZV];unfold Wv.l1;rw[Za hlen,Za Zt,Zb,if_neg (by simp;omega)];rfl
  | succ t ih=>
   intro j ht hj hj2;have hkl:j < l.length:=by omega
   have hlt:(j:Int) < l.length:=by omega
   have hk0:j - 1 < l.length:=by omega
   have hg:=List.getElem?_eq_getElem hkl;have hg0:=List.getElem?_eq_getElem hk0;have hd:=List.drop_eq_getElem_cons hkl;have hd0:=List.drop_eq_getElem_cons hk0;rw[show j - 1+1=j by omega,hd] at hd0;generalize l[j]=y at hg hd hd0;generalize l[j - 1]=y0 at hg0 hd0;have x1:=hs.ix (i:=j) (by simpa using hkl) .i64 X;have x2:=hs.ldx (WC hg);have x3:=hs.ix (i:=j - 1) (by simpa using hk0) .i64 X;have x4:=hs.ldx (WC hg0);have w0:IntKind.i64.wrap ((j:Int) - 1)=((j - 1:Nat):Int):=by rw[w64 (by omega) (by omega)];omega
   have e1:R (n+3) Qa [strv y0,strv y] X=some (iv (Zdl y0 y),X):=ZBe (n:=n);have q1:bop .int .geq (iv (Zdl y0 y)) (.int .i64 0) X=some (.bool (!decide (y0 < y)),X):=by rw[Qo,ZEl]
   rw[hd0,ZiQ];by_cases hy:y0 < y
   .rw[decide_eq_true hy] at q1 ⊢;rw[Bool.true_and,<- hd];have ih:=ih (j+1) (by omega) (by omega) (by omega);rw[Nat.add_sub_cancel] at ih;refine(ZU ?_).trans ih;rw[ZV];unfold Wv.l1;rw[Za hlen,Za Zt,Zb,if_pos (by simpa using hlt),Za Q1,w0,Za x3,Za x4,Za x1,Za x2,Za e1,Za q1,Zb,if_neg (by simp),Za ZI,JX (by omega)];rfl
   .rw[decide_eq_false hy] at q1 ⊢;refine YA ?_;rw[ZV];unfold Wv.l1;rw[Za hlen,Za Zt,Zb,if_pos (by simpa using hlt),Za Q1,w0,Za x3,Za x4,Za x1,Za x2,Za e1,Za q1,Zb,if_pos (by simp)];rfl
 have e1:=lp (l.length - 1) 1 rfl (Nat.le_refl _) (.inr rfl);rw[show iv ((1:Nat):Int)=.int .i64 1 from rfl,Nat.sub_self,List.drop_zero] at e1;rw[R,Zuf rfl];unfold Wv;cases hr:KW l
 .rw[hr] at e1;rw[KG e1];rfl
 .rw[hr] at e1;rw[Q4 e1,ZP,Qv,Za hlen,Za Qm,Zb];by_cases h:k < l.length
  .rw[if_pos (by simp;omega),if_pos h];rfl
  .rw[if_neg (by simp;omega),if_neg h];rfl
theorem Zwi (hn:us.length<=1000) (hA:YS H0 sl us):∀ (t j:Nat) (nv:Value) (q:List Nat) (acc:List Tx) (X:Zd),us.length - j=t->j<=us.length->acc.length<=j->HLe H0 X->(∀ i∈q,H0.length<=i)->Zu X nv (acc.map strv) q->
  ∃ X' o,Zi (c5 (Q5.l1 (R (n+10)))) [gv,nv,sl,iv us.length,iv j] X=some (o,X')/\HLe H0 X'/\(if Wr (us.drop j)=0 then ∃ nv' q',o=.ext 0 [gv,nv']/\Zu X' nv' ((acc++(us.drop j).map (·.nm)).map strv) q' else o=.ret (iv (Wr (us.drop j))))
 | 0,j,nv,q,acc,X,ht,hj,ha,hle,hq,hr=>by
  rw[List.drop_eq_nil_of_le (by omega)];refine⟨X,.ext 0 [gv,nv],Qq ?_,hle,?_⟩
  .rw[Jf,show j=us.length by omega];unfold Q5.l1;rw[Za Zt,Zb,if_neg (by simp)];rfl
  .rw[if_pos (show Wr []=0 from rfl)];exact⟨nv,q,rfl,by simpa using hr⟩
 | t+1,j,nv,q,acc,X,ht,hj,ha,hle,hq,hr=>by
  have hjl:j < us.length:=by omega
  have hlt:(j:Int) < us.length:=by omega
  have hg:=List.getElem?_eq_getElem hjl;have hd:=List.drop_eq_getElem_cons hjl;generalize us[j]=u at hg hd;have hok:=(hA.mono hle).ok (List.mem_of_getElem? hg);have hf:=fun {K:Value->M Out}=>Zyf (k:=K) (hA.mono hle).1 hok.2.1 hg;have g1:(X++[Ze.cells u.cells 1 false false])[X.length]?=some (.cells u.cells 1 false false):=Zo;have k1:HLe X (X++[Ze.cells u.cells 1 false false]):=.app _ _;generalize X++[Ze.cells u.cells 1 false false]=X1 at g1 k1 hf;generalize X.length=p at g1 hf;have d1:ldA 5 (pt p) X1=some (.agg u.cells.toArray,X1):=Qd (n:=5) g1 rfl;obtain⟨X2,e2,k2⟩:=Zvl (n:=n) (hok.hle k1);have k12:=k1.trans k2;have le2:=hle.trans k12;rw[hd];unfold Wr;by_cases he:ZaP u=0
  .rw[he] at e2;simp only[if_pos he];have q2:bop .int .neq (iv 0) (.int .i64 0) X2=some (.bool false,X2):=by rw[Zn];rfl
   have l0:ld1 (pa p 0) X2=some (strv u.nm,X2):=Zv (k2 _ _ g1) rfl;have x4:=Zqb (es:=1) (z:=.string ⟨#[]⟩) (v:=strv u.nm) (H:=X2) rfl rfl rfl;have k3:HLe X2 (X2++[Ze.cells [strv u.nm] 1 false false]):=.app _ _;have s3:Sl (X2++[Ze.cells [strv u.nm] 1 false false]) (.slice (some ⟨X2.length,0,none⟩) 1 1) [strv u.nm]:=Sl.one (c:=1) Zo;generalize X2++[Ze.cells [strv u.nm] 1 false false]=X3 at x4 k3 s3;have hr3:Zu X3 nv _ q:=hr.step (k12.trans k3).step (by simp);obtain⟨nv',X4,q',x5,hr4,s4,_⟩:=hr3.push (b:=16) s3 (by simp;omega) (by simp;omega);have hm:=(le2.trans k3).more s4 hq;have hr4':Zu X4 nv' ((acc++[u.nm]).map strv) q':=by rw[List.map_append];exact hr4
   obtain⟨X5,o5,e5,k5,h5⟩:=Zwi hn hA t (j+1) nv' q' (acc++[u.nm]) X4 (by omega) (by omega) (by simp;omega) hm.1 hm.2 hr4';refine⟨X5,o5,(ZU ?_).trans e5,k5,by simpa using h5⟩;rw[Jf];unfold Q5.l1;rw[Za Zt,Zb,if_pos (by simpa using hlt),hf,Za d1,Za e2,Za q2,Zb,if_neg (by simp),Za Zj,Za l0,Za x4,Za x5,Za ZI,JX (by omega)];rfl
  .simp only[if_neg he];have q2:bop .int .neq (iv (ZaP u)) (.int .i64 0) X2=some (.bool true,X2):=by rw[Zn];simp[he]
   refine⟨X2,_,YA (v:=iv (ZaP u)) ?_,le2,rfl⟩;rw[Jf];unfold Q5.l1;rw[Za Zt,Zb,if_pos (by simpa using hlt),hf,Za d1,Za e2,Za q2,Zb,if_pos rfl];rfl
theorem Zwe (hl:l.length<=1000000) (hs:Sl X v (l.map strv)):∀ (t j:Nat),l.length - j=t->j<=l.length->
  Zi (c4 (Q5.l2 (R (n+5)))) [v,v,iv l.length,iv j] X=some (if(l.drop j).all Zw then .ext 2 [v] else .ret (iv 10),X)
 | 0,j,ht,hj=>by
  rw[List.drop_eq_nil_of_le (by omega)];refine Qq ?_;rw[ZM,show j=l.length by omega];unfold Q5.l2;rw[Za Zt,Zb,if_neg (by simp)];rfl
 | t+1,j,ht,hj=>by
  have hkl:j < l.length:=by omega
  have hlt:(j:Int) < l.length:=by omega
  have hg:=List.getElem?_eq_getElem hkl;have hd:=List.drop_eq_getElem_cons hkl;generalize l[j]=y at hg hd;have x1:=hs.ix (i:=j) (by simpa using hkl) .i64 X;have x2:=hs.ldx (WC hg);have e1:R (n+5) QS [strv y] X=some (iv (ZG y),X):=Zdf;rw[hd,List.all_cons];cases hn:Zw y
  .have he:ZG y=10:=by unfold ZG;rw[hn];rfl
   rw[he] at e1;refine YA ?_;rw[ZM];unfold Q5.l2;rw[Za Zt,Zb,if_pos (by simpa using hlt),Za x1,Za x2,Za e1,Za Zn,Zb,if_pos (by simp)];rfl
  .have he:ZG y=0:=ZcE.2 hn;rw[he] at e1;rw[Bool.true_and];refine(ZU ?_).trans (Zwe hl hs t (j+1) (by omega) (by omega));rw[ZM];unfold Q5.l2;rw[Za Zt,Zb,if_pos (by simpa using hlt),Za x1,Za x2,Za e1,Za Zn,Zb,if_neg (by simp),Za ZI,JX (by omega)];rfl
theorem Zvb (hn:us.length<=1000) (hl:gs.length<=1000000) (hA:YS X sl us) (hs:Sl X gv (gs.map strv)):∃ X',R (n+11) ZcO [sl,gv] X=some (iv (Zjd us gs),X')/\HLe X X':=by
 obtain⟨X1,o,e1,k1,h1⟩:=Zwi (n:=n) (gv:=gv) hn hA us.length 0 (.slice none 0 0) [] [] X (by omega) (by omega) (by simp) (.refl _) (by simp) Zu.nil;rw[List.drop_zero] at h1;have e1:Zi (c5 (Q5.l1 (R (n+10)))) [gv,.slice none 0 0,sl,iv us.length,.int .i64 0] X=_:=e1;have hlen:ZC sl X=some (iv us.length,X):=by have:=hA.1.len (H':=X);rwa [List.length_map] at this
 have f1:∀ r X',Q5 (R (n+10)) sl gv X=some (r,X')->R (n+11) ZcO [sl,gv] X=some (r,X'):=fun r X' hr=>by rw[R,ZsT rfl];exact hr
 refine⟨X1,f1 _ _ ?_,k1⟩;unfold Q5 Zjd ZsI;rw[Za hlen];by_cases hf:Wr us=0
 .rw[if_pos hf] at h1;simp only[if_pos hf];obtain⟨nv,q,rfl,hr⟩:=h1;rw[List.nil_append] at hr;have e2:R (n+10) KO [nv,iv 12] X1=_:=ZoF (n:=n+6) (k:=12) (l:=us.map (·.nm)) (by rw[List.length_map];omega) hr.rd;have hs1:=hs.mono k1;have hgl:ZC gv X1=some (iv gs.length,X1):=by have:=hs1.len (H':=X1);simpa using this
  have e3:=Zwe (n:=n+5) hl hs1 gs.length 0 (by omega) (by omega);rw[show iv ((0:Nat):Int)=.int .i64 0 from rfl,List.drop_zero] at e3;have e4:R (n+10) KO [gv,iv 6] X1=_:=ZoF (n:=n+6) (k:=6) hl hs1;rw[List.length_map] at e2;rw[Q4 e1,ZP,Qv];cases hr1:KW (us.map (·.nm))
  .rw[hr1] at e2;have e2:R (n+10) KO [nv,iv 12] X1=some (iv 9,X1):=e2;rw[Za e2,Za Zn,Zb,if_pos (by simp)];rfl
  .rw[hr1] at e2;simp only[if_true] at e2 ⊢;by_cases h12:12 < us.length
   .rw[if_pos h12] at e2 ⊢;have e2:R (n+10) KO [nv,iv 12] X1=some (iv 7,X1):=e2;rw[Za e2,Za Zn,Zb,if_pos (by simp)];rfl
   .rw[if_neg h12] at e2 ⊢;have e2:R (n+10) KO [nv,iv 12] X1=some (iv 0,X1):=e2;rw[Za e2,Za Zn,Zb,if_neg (by simp),Za hgl,if_pos rfl];cases ha:gs.all Zw
    .rw[ha] at e3;rw[KG e3];rfl
    .rw[ha] at e3;rw[Q4 e3,ZP,J1,Za e4];rfl
 .rw[if_neg hf] at h1;simp only[if_neg hf];subst h1;rw[KG e1];rfl
end
def WL (ps:List Tx) (k:Tx) (mem:Mem):Mem:=fun g n=>mem g n || (decide (g∈ps) && n==k)
section
variable {X X' X0 H H0:Zd} {n p d b c i:Nat} {r:NR} {s:NSt} {v sl gv ugv zl:Value} {l gs:List Tx} {m k g:Tx} {u:ZA} {us prev:List ZA}
theorem Ztw {i:Nat} (hg:us[i]?=some u):us.take (i+1)=us.take i++[u]:=by
 rw[List.take_add_one,hg];rfl
end
section
variable {X X' X0 H H0:Zd} {n p d b c i:Nat} {r:NR} {s:NSt} {v sl gv ugv zl:Value} {l gs:List Tx} {m k g:Tx} {u:ZA} {us prev:List ZA}
def nGs (gs:List Tx):NSt:=⟨[],[],[],gs,fun _ _=>false⟩
theorem ZDo (hr:KW gs=true) (hn:gs.all Zw=true) (h6:gs.length<=6) {j:Nat} (hg:gs[j]?=some g):Yg g (gs.take j)=0/\Zi1 g (gs.take j)=gs.take (j+1):=by
 have hj:j < gs.length:=(List.getElem?_eq_some_iff.1 hg).1;have hgm:=List.mem_of_getElem? hg;have h1:Zw g=true:=List.all_eq_true.1 hn g hgm;have hd:=List.drop_eq_getElem_cons hj;have hge:gs[j]=g:=by have:=List.getElem?_eq_getElem hj;rw[hg] at this;exact(Option.some.inj this).symm
 have hp:=ZhY hr;rw[<- List.take_append_drop j gs,List.pairwise_append,hd,hge] at hp;have h2:g∉gs.take j:=fun hm=>List.lt_irrefl g (hp.2.2 g hm g (by simp));have hl:(gs.take j).length=j:=by rw[List.length_take];omega
 have h0:Yg g (gs.take j)=0:=by
  unfold Yg;rw[h1,if_pos rfl,if_neg h2,hl,if_neg (by omega)]
 refine⟨h0,?_⟩;unfold Zi1;rw[if_pos h0,List.take_add_one,hg];rfl
theorem ZAI (hs:Sl X0 gv (gs.map strv)) (hr:KW gs=true) (hn:gs.all Zw=true) (h6:gs.length<=6):∀ (t j:Nat) (r:NR) (X:Zd),gs.length - j=t->j<=gs.length->HLe X0 X->ND X d r (nGs (gs.take j)) 0->(∀ i∈r.own,X0.length<=i)->
  ∃ X' r',Zi (c5 (QV.l1 (R (n+11)))) [sl,pt d,gv,iv gs.length,iv j] X=some (.ext 0 [sl,pt d],X')/\HLe X0 X'/\ND X' d r' (nGs gs) 0/\∀ i∈r'.own,X0.length<=i
 | 0,j,r,X,ht,hj,hle,hd,ho=>by
  have hj:j=gs.length:=by omega
  subst hj;rw[List.take_length] at hd;refine⟨X,r,Qq ?_,hle,hd,ho⟩;rw[Jf];unfold QV.l1;rw[Za Zt,Zb,if_neg (by simp)];rfl
 | t+1,j,r,X,ht,hj,hle,hd,ho=>by
  have hkl:j < gs.length:=by omega
  have hlt:(j:Int) < gs.length:=by omega
  have hg:=List.getElem?_eq_getElem hkl;generalize gs[j]=g at hg;have x1:=(hs.mono hle).ix (i:=j) (by simpa using hkl) .i64 X;have x2:=(hs.mono hle).ldx (WC hg);obtain⟨m1,m2⟩:=ZDo hr hn h6 hg;obtain⟨X1,G',e1,g1,k1,s1⟩:=ZxU (n:=n+3) (k:=g) hd.gr;have e1:R (n+11) Ya [pt r.g,strv g] X=_:=e1;rw[hd.ks] at e1 k1;rw[show(nGs (gs.take j)).K=gs.take j from rfl,m2] at k1;obtain⟨d1,t1⟩:=hd.toND0.setG g1 s1 k1;have hm:=hle.more t1 ho;have hd1:ND X1 d { r with G:=G' } (nGs (gs.take (j+1))) 0:=⟨d1,⟨by simp[nGs],by simp[nGs],by simp[nGs,Zf],by simp[nGs],by simp[nGs,Zf]⟩⟩;obtain⟨X2,r2,e2,k2,h2,o2⟩:=ZAI hs hr hn h6 t (j+1) _ X1 (by omega) (by omega) hm.1 hd1 hm.2;refine⟨X2,r2,(ZU ?_).trans e2,k2,h2,o2⟩;rw[Jf];unfold QV.l1;rw[Za Zt,Zb,if_pos (by simpa using hlt),Za x1,Za x2,Za Zg,Za Zj,Za hd.l2,Za e1,Za ZI,JX (by omega)];rfl
theorem ZBQ {mem:Mem}:WL [] k mem=mem:=by
 funext g n
 unfold WL;simp
theorem ZAm {mem:Mem} {ps:List Tx}:ZjM g k (WL ps k mem)=WL (ps++[g]) k mem:=by
 funext g' n
 unfold ZjM WL;by_cases h1:g'∈ps<;>by_cases h2:g'=g<;>cases mem g' n<;>cases hn:n==k<;>simp[h1,h2,hn]
theorem ZzP (hnm:Zw u.nm=true) (hall:u.gs.all Zw=true) (hasc:KW u.gs=true) (hl:u.gs.length<=6) (hfree:∀ g,s.mem g u.nm=false) (hK:s.K=gs) {z1 z2 z3:Value}:∀ (t j:Nat) (c:Nat) (X:Zd),u.gs.length - j=t->j<=u.gs.length->ND0 X d r { s with mem:=WL (u.gs.take j) u.nm s.mem } c->X[b]?=some (.cells u.cells 1 false false)->Sl X ugv (u.gs.map strv)->
  ∃ X',Zi (c8 (QV.l3 (R (n+11)))) [pt d,pt b,z1,z2,z3,ugv,iv u.gs.length,iv j] X=some (if(u.gs.drop j).all (fun g=>decide (g∈gs)) then .ext 4 [pt d,pt b,z1,z2,z3] else .ret (.tuple #[.pointer none,iv 8]),X')/\Zr r.own X r.own X'/\((u.gs.drop j).all (fun g=>decide (g∈gs))=true->∃ c',ND0 X' d r { s with mem:=WL u.gs u.nm s.mem } c')
 | 0,j,c,X,ht,hj,hd,hb,hs=>by
  have hj:j=u.gs.length:=by omega
  subst hj;rw[List.take_length] at hd;rw[List.drop_length];refine⟨X,Qq ?_,.refl _ _,fun _=>⟨c,hd⟩⟩;rw[Y5];unfold QV.l3;rw[Za Zt,Zb,if_neg (by simp)];rfl
 | t+1,j,c,X,ht,hj,hd,hb,hs=>by
  have hkl:j < u.gs.length:=by omega
  have hlt:(j:Int) < u.gs.length:=by omega
  have hg:=List.getElem?_eq_getElem hkl;have hdr:=List.drop_eq_getElem_cons hkl;have hsn:=take_snocT hg;generalize u.gs[j]=g at hg hdr hsn;have x1:=hs.ix (i:=j) (by simpa using hkl) .i64 X;have x2:=hs.ldx (WC hg);have l0:ld1 (pa b 0) X=some (strv u.nm,X):=Zv hb rfl;obtain⟨X1,e1,g1,s1⟩:=ZxL (n:=n+3) (k:=g) (m:=u.nm) hd.gr;have e1:R (n+11) Yx [pt r.g,strv g,strv u.nm] X=_:=e1;rw[hd.ks] at e1 g1;have hKs:({ s with mem:=WL (u.gs.take j) u.nm s.mem }:NSt).K=gs:=hK;rw[hKs] at e1 g1;have hgn:Zw g=true:=List.all_eq_true.1 hall g (List.mem_of_getElem? hg);have hgt:g∉u.gs.take j:=by
   have hp:=ZhY hasc;rw[<- List.take_append_drop j u.gs,List.pairwise_append,hdr] at hp;exact fun hm=>List.lt_irrefl g (hp.2.2 g hm g (by simp))
  have hmf:WL (u.gs.take j) u.nm s.mem g u.nm=false:=by
   unfold WL;rw[hfree];simp[hgt]
  have hfd:Je g [u.nm] gs=if g∈gs then 0 else 8:=by
   unfold Je;simp[hgn,hnm]
  rw[hdr,List.all_cons];by_cases hgm:g∈gs
  .rw[if_pos hgm] at hfd;have hE:Za0 g u.nm gs (WL (u.gs.take j) u.nm s.mem)=0:=by
    unfold Za0;rw[hfd,if_pos rfl,hmf];rfl
   rw[hE] at e1;rw[show({ s with mem:=WL (u.gs.take j) u.nm s.mem }:NSt).mem=WL (u.gs.take j) u.nm s.mem from rfl,hE,if_pos rfl,ZAm,<- hsn] at g1;obtain⟨d1,t1⟩:=hd.setG g1 s1 hd.ks;have hc1:=hd.cle t1;rw[decide_eq_true hgm,Bool.true_and];have d1':ND0 X1 d r { s with mem:=WL (u.gs.take (j+1)) u.nm s.mem } (c+1):=d1;obtain⟨X2,e2,t2,h2⟩:=ZzP hnm hall hasc hl hfree hK t (j+1) (c+1) X1 (by omega) (by omega) d1' (hc1 _ _ _ _ _ hb) (hs.cle hc1);refine⟨X2,(ZU ?_).trans e2,Zr.trans t1 t2,h2⟩;rw[Y5];unfold QV.l3;rw[Za Zt,Zb,if_pos (by simpa using hlt),Za x1,Za x2,Za Zg,Za Zj,Za hd.l2,Za Zj,Za l0,Za e1,Za Zn,Zb,if_neg (by simp),Za ZI,JX (by omega)];rfl
  .rw[if_neg hgm] at hfd;have hE:Za0 g u.nm gs (WL (u.gs.take j) u.nm s.mem)=8:=by
    unfold Za0;rw[hfd,if_neg (by simp)]
   rw[hE] at e1;obtain⟨d1,t1⟩:=hd.setG g1 s1 hd.ks;rw[decide_eq_false hgm,Bool.false_and];refine⟨X1,YA ?_,t1,fun h=>by cases h⟩;rw[Y5];unfold QV.l3;rw[Za Zt,Zb,if_pos (by simpa using hlt),Za x1,Za x2,Za Zg,Za Zj,Za hd.l2,Za Zj,Za l0,Za e1,Za Zn,Zb,if_pos (by simp)];rfl
where
 take_snocT {l:List Tx} {j:Nat} {h:j < l.length} (hg:l[j]?=some l[j]):l.take (j+1)=l.take j++[l[j]]:=by
  rw[List.take_add_one,hg];rfl
theorem Zt0:∀ {us:List ZA},(∀ v∈us,v.nm < u.nm)->putU u us=us++[u]
 | [],_=>by simp[putU,Zdc,Zcb]
 | v :: us,h=>by
  rw[Zmd,if_neg (fun hle=>(List.not_lt.2 hle) (h v (by simp))),Zt0 fun w hw=>h w (by simp[hw])];rfl
theorem ZBm (hO:ROK s prev) (hP:Zh1 s) (hm:Yn m=true) (hf:QM m=m):prev.any (fun w=>m==w.ml)=(Zf m s.OW).isSome:=by
 have h1:=ZAl hO hP hm;rw[hf] at h1;rw[<- h1,Option.isSome_map,List.isSome_find?]
 congr 1
 funext w
 exact BEq.comm
def addN (u:ZA) (s:NSt):NSt:={ A:=Qs u.nm (u.hs,u.ds) s.A,OW:=ZsS u.nm u.ml s.OW s.OF,OF:=ZeL u.nm u.ml s.OW s.OF,K:=s.K,mem:=WL u.gs u.nm s.mem }
theorem ZsM (h:ZfH m=true):m=[]\/(Yn m=true/\QM m=m):=by
 unfold ZfH at h;simpa using h
theorem ZnC (h:ZaP u=0):Zw u.nm=true/\WD u.hs=true/\ZfH u.ml=true/\u.gs.length<=6/\u.gs.all Zw=true/\KW u.gs=true:=by
 unfold ZaP at h;split at h
 .rename_i h1;split at h
  .rename_i h2;split at h
   .rename_i h3;unfold Zje at h;split at h
    .exact absurd h (by decide)
    .rename_i h6;split at h
     .rename_i h4;split at h
      .rename_i h5;exact⟨h1,h2,h3,by omega,h4,h5⟩
      .exact absurd h (by decide)
     .exact absurd h (by decide)
   .exact absurd h (by decide)
  .exact absurd h (by decide)
 .exact absurd h (by decide)
theorem ZEt (hO:ROK s prev) (hP:Zh1 s) (hu:ZaP u=0) (hA:Zf u.nm s.A=none):KF u.nm u.ml s.OW=if u.ml≠[]/\prev.any (fun w=>u.ml==w.ml)=true then 9 else 0:=by
 obtain⟨h1,_,h3,_,_,_⟩:=ZnC hu;unfold KF;rw[h1,if_pos rfl];rcases ZsM h3 with hm|⟨hm,hf⟩
 .rw[if_pos hm,if_neg (fun h=>h.1 hm)]
 .have hne:u.ml≠[]:=by have:=(ZjR hm).1;rwa [hf] at this
  rw[if_neg hne,hm,if_pos rfl,hf,ZBm hO hP hm hf];cases hw:Zf u.ml s.OW with
  | none=>simp
  | some w=>
   have hww:w≠u.nm:=fun e=>by
    subst e;have:=hP.i.ofA u.nm (by rw[(hP.x.inv u.nm u.ml).2 hw];rfl);rw[hA] at this;cases this
   simp[hww,hne]
theorem ZBZ (hi:JT s) (hu:ZaP u=0) (hgs:∀ g∈u.gs,g∈s.K) (hk:s.K.Nodup) (hA:Zf u.nm s.A=none) (hfree:∀ g,s.mem g u.nm=false) (he:KF u.nm u.ml s.OW=0) (x:Tx):J7 (addN u s) x=if x=u.nm then some (Zcv u) else J7 s x:=by
 obtain⟨h1,h2,h3,h4,h5,h6⟩:=ZnC hu;by_cases hx:x=u.nm
 .rw[if_pos hx,hx];unfold J7;show(Zf u.nm (Qs u.nm (u.hs,u.ds) s.A)).map _=_
  rw[Zaf];show some (W7 _ u.nm (u.hs,u.ds))=_
  unfold W7 Zcv;show some (u.nm,u.hs,(Zf u.nm (ZeL u.nm u.ml s.OW s.OF)).getD [],u.ds,ofL u.nm s.K (WL u.gs u.nm s.mem))=_
  rw[Zhy he,if_pos rfl];have hg:ofL u.nm s.K (WL u.gs u.nm s.mem)=u.gs:=by
   refine(ZwR hk).uniq ⟨ZhY h6,fun y=>Iff.rfl⟩ fun y=>?_;unfold WL;rw[hfree];simp
   exact hgs y
  rw[hg];rcases ZsM h3 with hm|⟨hm,hf⟩
  .rw[if_pos hm,hm];rfl
  .have hne:u.ml≠[]:=by have:=(ZjR hm).1;rwa [hf] at this
   rw[if_neg hne,hf];rfl
 .rw[if_neg hx];unfold J7;show(Zf x (Qs u.nm (u.hs,u.ds) s.A)).map _=_
  rw[KR hx];cases Zf x s.A with
  | none=>rfl
  | some p=>
   show some (W7 _ x p)=some (W7 s x p)
   unfold W7;show some (x,p.1,(Zf x (ZeL u.nm u.ml s.OW s.OF)).getD [],p.2,ofL x s.K (WL u.gs u.nm s.mem))=_
   rw[Zhy he,if_neg hx];have:ofL x s.K (WL u.gs u.nm s.mem)=ofL x s.K s.mem:=by
    unfold ofL WL;refine List.filter_congr fun g _=>?_;simp[hx]
   rw[this]
theorem JT.add (hi:JT s) (hu:ZaP u=0) (hA:s.A.length < 12) (he:KF u.nm u.ml s.OW=0):JT (addN u s):=by
 obtain⟨h1,h2,h3,h4,h5,h6⟩:=ZnC hu;have p1:=hi.putA (k:=u.nm) (v:=(u.hs,u.ds)) h1 h2 (.inr hA);refine⟨p1.nm,p1.few,fun x hx=>?_,fun g x hx=>?_,fun x y hx=>?_⟩
 .have hx:(Zf x (ZeL u.nm u.ml s.OW s.OF)).isSome=true:=hx;rw[Zhy he] at hx;by_cases e:x=u.nm
  .show(Zf x (Qs u.nm (u.hs,u.ds) s.A)).isSome=true
   rw[e,Zaf];rfl
  .rw[if_neg e] at hx;exact Zba (.inl (hi.ofA x hx))
 .have hx:WL u.gs u.nm s.mem g x=true:=hx;unfold WL at hx;rw[Bool.or_eq_true] at hx;rcases hx with hx|hx
  .exact Zba (.inl (hi.memA g x hx))
  .rw[Bool.and_eq_true,beq_iff_eq] at hx;exact Zba (.inr hx.2)
 .have hx:Zf x (ZeL u.nm u.ml s.OW s.OF)=some y:=hx;rw[Zhy he] at hx;by_cases e:x=u.nm
  .rw[if_pos e] at hx;rcases ZsM h3 with hm|⟨hm,hf⟩
   .rw[if_pos hm] at hx;cases hx
   .have hne:u.ml≠[]:=by have:=(ZjR hm).1;rwa [hf] at this
    rw[if_neg hne,hf] at hx;cases hx;exact⟨hm,hf⟩
  .rw[if_neg e] at hx;exact hi.good x y hx
structure OfS (X0 X:Zd) (d:Nat) (r:NR) (s:NSt) (c:Nat) (gs:List Tx) (prev:List ZA):Prop where
 le:HLe X0 X
 nd:ND X d r s c
 own:∀ i∈r.own,X0.length<=i
 K:s.K=gs
 ok:ROK s prev
theorem ZAE (hn:us.length<=12) (hA:YS X0 sl us) (h2:∀ u∈us,ZaP u=0) (hris:KW (us.map (·.nm))=true):∀ (t i:Nat) (s:NSt) (c:Nat) (X:Zd),us.length - i=t->i<=us.length->OfS X0 X d r s c gs (us.take i)->
  ∃ X' o,Zi (c4 (QV.l2 (R (n+11)))) [pt d,sl,iv us.length,iv i] X=some (o,X')/\HLe X0 X'/\(if Ze5 gs (us.take i) (us.drop i)=0 then o=.ext 2 [pt d]/\∃ s' c',OfS X0 X' d r s' c' gs us else o=.ret (.tuple #[.pointer none,iv (Ze5 gs (us.take i) (us.drop i))]))
 | 0,i,s,c,X,ht,hi,hS=>by
  have hi:i=us.length:=by omega
  subst hi;rw[List.take_length] at hS;rw[List.drop_length,List.take_length];refine⟨X,.ext 2 [pt d],Qq ?_,hS.le,?_⟩
  .rw[ZM];unfold QV.l2;rw[Za Zt,Zb,if_neg (by simp)];rfl
  .rw[if_pos (show Ze5 gs us []=0 from by unfold Ze5;rfl)];exact⟨rfl,s,c,hS⟩
 | t+1,i,s,c,X,ht,hi,hS=>by
  have hjl:i < us.length:=by omega
  have hlt:(i:Int) < us.length:=by omega
  have hg:=List.getElem?_eq_getElem hjl;have hdr:=List.drop_eq_getElem_cons hjl;generalize us[i]=u at hg hdr;have hum:=List.mem_of_getElem? hg;have hu:=h2 u hum;obtain⟨u1,u2,u3,u4,u5,u6⟩:=ZnC hu;have hP:=hS.nd.pinv;have hrp:∀ v∈us.take i,v.nm < u.nm:=fun v hv=>by
   have hp:=ZhY hris;rw[<- List.take_append_drop i us,hdr,List.map_append,List.pairwise_append] at hp;exact hp.2.2 v.nm (List.mem_map.2 ⟨v,hv,rfl⟩) u.nm (by simp)
  have hlen:=hS.ok.len hP.n;have hlt':(us.take i).length=i:=by rw[List.length_take];omega
  have hnone:Zf u.nm s.A=none:=by
   cases ha:Zf u.nm s.A with
   | none=>rfl
   | some p=>
    have h3:J7 s u.nm=some (W7 s u.nm p):=by unfold J7;rw[ha];rfl
    obtain⟨v,hv,hk⟩:=Zbm.1 ((hS.ok.look (W7 s u.nm p)).2 h3);have hvn:v.nm=u.nm:=congrArg (·.1) hk;have:=hrp v hv;rw[hvn] at this;exact absurd this (List.lt_irrefl _)
  have hfree:=hP.i.memN hnone;have hok:=(hA.mono hS.le).ok hum;have hf:=fun {K:Value->M Out}=>Zyf (k:=K) (hA.mono hS.le).1 hok.2.1 hg;have g1:(X++[Ze.cells u.cells 1 false false])[X.length]?=some (.cells u.cells 1 false false):=Zo;have k1:HLe X (X++[Ze.cells u.cells 1 false false]):=.app _ _;generalize X++[Ze.cells u.cells 1 false false]=X1 at g1 k1 hf;generalize X.length=b at g1 hf;have d1:=hS.nd.hle k1;have ok1:=hok.hle k1;have a0:∀ f x,u.cells[f]?=some x->ld1 (pa b f) X1=some (x,X1):=fun f x h=>Zv g1 h;obtain⟨X2,e2,m2,s2,_⟩:=d1.m.mup (k:=u.nm) (v:=(u.hs,u.ds));obtain⟨d2,t2⟩:=d1.toND0.setA m2 s2;have c2:=d1.toND0.cle t2;have g2:=c2 _ _ _ _ _ g1;have a4:ld1 (pa b 4) X2=some (u.gv,X2):=Zv g2 rfl;have hs2:=ok1.1.cle c2;have hul:ZC u.gv X2=some (iv u.gs.length,X2):=by have:=hs2.len (H':=X2);simpa using this
  have d2':ND0 X2 d r { ({ s with A:=Qs u.nm (u.hs,u.ds) s.A }:NSt) with mem:=WL (u.gs.take 0) u.nm s.mem } c:=by
   rw[List.take_zero,ZBQ];exact d2
  obtain⟨X3,e3,t3,h3⟩:=ZzP (n:=n) (s:={ s with A:=Qs u.nm (u.hs,u.ds) s.A }) (gs:=gs) (z1:=sl) (z2:=iv us.length) (z3:=iv i) u1 u5 u6 u4 hfree hS.K u.gs.length 0 c X2 (by omega) (by omega) d2' g2 hs2;rw[show iv ((0:Nat):Int)=.int .i64 0 from rfl,List.drop_zero] at e3;rw[List.drop_zero] at h3;obtain⟨q1,q2⟩:=(hS.le.trans k1).more (t2.trans t3) hS.own;have hbody:∀ o Z,jn (Zi (c8 (QV.l3 (R (n+11)))) [pt d,pt b,sl,iv us.length,iv i,u.gv,iv u.gs.length,(Value.int .i64 0)]) noN (xk 4 (c5 fun q45_0 q45_1 q45_2 q45_3 q45_4=>
    bind (Zz q45_0) fun v73x46=>bind (fa 1 v73x46) fun v74x47=>bind (ld1 v74x47) fun v75x48=>bind (fa 0 q45_1) fun v76x49=>bind (ld1 v76x49) fun v77x50=>bind (fa 2 q45_1) fun v78x51=>bind (ld1 v78x51) fun v79x52=>
    bind (R (n+11) Y8 [v75x48,v77x50,v79x52]) fun v80x53=>bind (bop .int .neq v80x53 (Value.int .i64 0)) fun v82x54=>
    cnd v82x54 (ret (.ret (Value.tuple #[(Value.pointer none),v80x53]))) (bind (bop .int .add q45_4 (Value.int .i64 1)) fun v84x55=>ret (.nrm [q45_0,q45_2,q45_3,v84x55]))) noX) ZF X2=some (o,Z)->c4 (QV.l2 (R (n+11))) [pt d,sl,iv us.length,iv i] X=some (o,Z):=fun o Z h=>by
   rw[ZM];unfold QV.l2;rw[Za Zt,Zb,if_pos (by simpa using hlt),hf,Za Zg,Za Zj,Za d1.l0,Za Zj,Za (a0 0 _ rfl),Za Zj,Za (a0 1 _ rfl),Za Zj,Za (a0 3 _ rfl),Za ZFZ,Za e2,Za Zj,Za a4,Za hul];exact h
  rw[hdr];unfold Ze5 Zrr;cases ha:u.gs.all fun g=>decide (g∈gs)
  .rw[ha] at e3;simp only[Bool.false_eq_true,if_false];exact⟨X3,_,YA (hbody _ _ ((KG e3).trans rfl)),q1,rfl⟩
  .rw[ha] at e3;simp only[if_true];obtain⟨c3,d3⟩:=h3 ha;have c23:=d2.cle t3;have g3:=c23 _ _ _ _ _ g2;have l0:ld1 (pa b 0) X3=some (strv u.nm,X3):=Zv g3 rfl;have l2:ld1 (pa b 2) X3=some (strv u.ml,X3):=Zv g3 rfl;obtain⟨X4,e4,i4,s4⟩:=ZAe (n:=n+2) (k:=u.nm) (m:=u.ml) d3.ix;have e4:R (n+11) Y8 [pt r.x,strv u.nm,strv u.ml] X3=some (iv (KF u.nm u.ml s.OW),X4):=e4;obtain⟨d4,t4⟩:=d3.setI i4 s4;obtain⟨q3,q4⟩:=q1.more t4 q2;have hE:=ZEt hS.ok hP hu hnone;by_cases hp:u.ml≠[]/\(us.take i).any (fun w=>u.ml==w.ml)=true
   .rw[if_pos hp] at hE;simp only[if_pos hp];rw[hE] at e4;refine⟨X4,_,YA (hbody (.ret (.tuple #[.pointer none,iv 9])) X4 ?_),q3,rfl⟩;rw[Q4 e3,ZP,Jf,Za Zg,Za Zj,Za d3.l1,Za Zj,Za l0,Za Zj,Za l2,Za e4,Za Zn,Zb,if_pos (by simp)];rfl
   .rw[if_neg hp] at hE;simp only[if_neg hp,if_true];rw[hE] at e4;have hgs:∀ g∈u.gs,g∈s.K:=fun g hgm=>by
     rw[hS.K];simpa using List.all_eq_true.1 ha g hgm
    have hadd:=ZBZ hP.i hu hgs hP.k.nod hnone hfree hE;have hd4:ND X4 d r (addN u s) c3:=⟨d4,hP.i.add hu (by omega) hE⟩;have hok4:ROK (addN u s) (us.take (i+1)):=by
     rw[Ztw hg,<- Zt0 hrp];exact hS.ok.put (by rw[hadd,if_pos rfl]) (fun x hx=>by rw[hadd,if_neg hx])
    obtain⟨X5,o5,e5,k5,h5⟩:=ZAE hn hA h2 hris t (i+1) (addN u s) c3 X4 (by omega) (by omega) ⟨q3,hd4,q4,hS.K,hok4⟩;rw[Ztw hg] at h5;refine⟨X5,o5,(ZU (hbody _ X4 ?_)).trans e5,k5,h5⟩;rw[Q4 e3,ZP,Jf,Za Zg,Za Zj,Za d3.l1,Za Zj,Za l0,Za Zj,Za l2,Za e4,Za Zn,Zb,if_neg (by simp),Za ZI,JX (by omega)];rfl
theorem ZFe (h:Zjd us gs=0):Wr us=0/\KW (us.map (·.nm))=true/\us.length<=12/\gs.all Zw=true/\KW gs=true/\gs.length<=6:=by
 unfold Zjd ZsI at h;by_cases h1:Wr us=0
 .simp only[if_pos h1] at h;cases h2:KW (us.map (·.nm))
  .rw[h2] at h;simp at h
  .rw[h2] at h;by_cases h3:12 < us.length
   .simp[h3] at h
   .cases h4:gs.all Zw<;>cases h5:KW gs<;>rw[h4,h5] at h<;>by_cases h6:6 < gs.length<;>simp[h3,h6] at h;exact⟨h1,rfl,by omega,rfl,rfl,by omega⟩
 .simp only[if_neg h1] at h;exact absurd h h1
theorem ZAu (hn:us.length<=1000) (hl:gs.length<=1000000) (hA:YS X sl us) (hs:Sl X gv (gs.map strv)):∃ X',HLe X X'/\(if Zr1 us gs=0 then ∃ d r s c,R (n+12) ZcI [sl,gv] X=some (.tuple #[pt d,iv 0],X')/\OfS X X' d r s c gs us else R (n+12) ZcI [sl,gv] X=some (.tuple #[.pointer none,iv (Zr1 us gs)],X')):=by
 obtain⟨X1,e1,k1⟩:=Zvb (n:=n) hn hl hA hs;have f1:∀ r X',QV (R (n+11)) sl gv X=some (r,X')->R (n+12) ZcI [sl,gv] X=some (r,X'):=fun r X' hr=>by rw[R,Zw3 rfl];exact hr
 unfold Zr1;by_cases hc:Zjd us gs=0
 .obtain⟨c1,c2,c3,c4,c5,c6⟩:=ZFe hc;rw[hc] at e1;simp only[if_pos hc];have q1:bop .int .neq (iv 0) (.int .i64 0) X1=some (.bool false,X1):=by rw[Zn];rfl
  obtain⟨X2,d,r,e2,D2,l2,o1,o2⟩:=ZEx (n:=n+9) (X:=X1);have e2:R (n+11) Ze9 [] X1=_:=e2;have k2:=k1.trans l2;have hgn:ZC gv X2=some (iv gs.length,X2):=by have:=hs.len (H':=X2);simpa using this
  obtain⟨X3,r3,e3,k3,D3,o3⟩:=ZAI (n:=n) (sl:=sl) hs c5 c4 c6 gs.length 0 r X2 (by omega) (by omega) k2 D2 (fun i hi=>Nat.le_trans k1.len (o2 i hi));rw[show iv ((0:Nat):Int)=.int .i64 0 from rfl] at e3;have hlen:ZC sl X3=some (iv us.length,X3):=by have:=hA.1.len (H':=X3);rwa [List.length_map] at this
  have hS:OfS X X3 d r3 (nGs gs) 0 gs (us.take 0):=⟨k3,D3,o3,rfl,⟨List.Pairwise.nil,fun key=>by simp[J7,nGs,Zf]⟩⟩;obtain⟨X4,o,e4,k4,h4⟩:=ZAE (n:=n) c3 hA (Ztx c1) c2 us.length 0 (nGs gs) 0 X3 (by omega) (by omega) hS;rw[show iv ((0:Nat):Int)=.int .i64 0 from rfl] at e4;rw[List.take_zero,List.drop_zero] at h4;refine⟨X4,k4,?_⟩;by_cases hz:Ze5 gs [] us=0
  .rw[if_pos hz] at h4 ⊢;obtain⟨rfl,s',c',hS'⟩:=h4;refine⟨d,r3,s',c',f1 _ _ ?_,hS'⟩;unfold QV;rw[Za e1,Za q1,Zb,if_neg (by simp),Za e2,Za hgn,Q4 e3,ZP,Qv,Za hlen,Q4 e4,ZP];rfl
  .rw[if_neg hz] at h4 ⊢;subst h4;refine f1 _ _ ?_;unfold QV;rw[Za e1,Za q1,Zb,if_neg (by simp),Za e2,Za hgn,Q4 e3,ZP,Qv,Za hlen,KG e4];rfl
 .simp only[if_neg hc];have q1:bop .int .neq (iv (Zjd us gs)) (.int .i64 0) X1=some (.bool true,X1):=by rw[Zn];simp[hc]
  refine⟨X1,k1,f1 _ _ ?_⟩;unfold QV;rw[Za e1,Za q1,Zb,if_pos rfl];rfl
end
def ZcX (e:Ent):Nat:=if Zw e.1 then(if WD e.2 then 0 else 4) else 10
def Zfu (e:Ent):ZA:=⟨e.1,e.2,[],false,.slice none 0 0,[]⟩
theorem ZEr (e:Ent) (H:Zd):(Zfu e).ok H:=.inl ⟨rfl,.inl rfl⟩
theorem Zwg {e:Ent}:ZcX e=0↔Zw e.1=true/\WD e.2=true:=by
 unfold ZcX;cases Zw e.1<;>cases WD e.2<;>simp
theorem ZC2 {s:List UInt8}:(txt s).length=s.length+2:=by unfold txt;rw[List.length_append,ZdJ];omega
section
variable {H X:Zd} {n p d b:Nat} {sl x v:Value} {own q:List Nat} {bs:List UInt8} {m:List Ent} {e:Ent}
theorem Yj.users (hr:Yj 5 H v (m.map usr) q):Users H v (m.map Zfu):=
 ⟨by have h:=hr.rd;rw[List.map_map];exact h,fun u hu=>by obtain⟨e,_,rfl⟩:=List.mem_map.1 hu;exact ZEr e H⟩
end
def ofN (l:List Ent):Nat:=(ofE (l.map Zfu)).toNat
section
variable {H X:Zd} {n p d b:Nat} {sl x v:Value} {own q:List Nat} {bs:List UInt8} {m:List Ent} {e:Ent} {s:RSt}
theorem Rdr.step {o1 o2:List Nat} (h:Rdr H p s) (hs:Zr o1 H o2 X) (hn:∀ j∈o1,p < j):Rdr X p s:=by
 obtain⟨sl,h1,h2,h3,h4⟩:=h;refine⟨sl,hs.get h1 fun hm=>Nat.lt_irrefl _ (hn _ hm),h2.keep fun j hj=>hs.keep j ?_ fun hm=>?_,h3,h4⟩
 .have:=h3 j hj;have:=Z6 h1;omega
 .have:=h3 j hj;have:=hn j hm;omega
end
section
variable {H0 H X:Zd} {n p d b:Nat} {u w:ZA} {us ws:List ZA} {sl a c v:Value} {bs:List UInt8} {m:List Ent}
end
section
variable {H0 H X:Zd} {n p d b:Nat} {a c v:Value} {bs s:List UInt8} {β:Type} {K:Value->M β}
theorem HLe.put {H0 X:Zd} (h:HLe H0 X) {b:Nat} {o:Ze} (hb:H0.length<=b):HLe H0 (X.set b o):=fun i v hi=>by
 have:=Z6 hi;rw[List.getElem?_set_ne (by omega)];exact h i v hi
theorem bx {vs:List Value} (h1:vs.all oneCell=true):alc 1 (.agg vs.toArray) X=some (pt X.length,X++[.cells vs 1 false false]):=Zhr h1
theorem ZC9 {vs cs:List Value} {es:Nat} (hc:X[p]?=some (.cells cs es false false)) (h2:cs.length=n) (hv:vs.length=n) (h1:vs.all oneCell=true) :
  bind (stA n (pt p) (.agg vs.toArray)) (fun _=>bind (ldA n (pt p)) K) X=K (.agg vs.toArray) (X.set p (.cells vs es false false)):=by
 rw[Za (WX hc h2 hv h1),Za (Qd (ZW hc) hv)]
end
abbrev RR (s:RSt):List Value:=[strv s.2,iv s.1]
theorem ZEw (s:RSt):(RR s).all oneCell=true:=rfl
section
variable {H0 H X:Zd} {n p d b:Nat} {a c v:Value} {bs:List UInt8} {β:Type} {K:Value->M β} {s:RSt}
end
section
variable {H0 H X:Zd} {n p d b:Nat} {a c v:Value} {bs:List UInt8} {s:RSt} {q:List Nat}
theorem Yj.us {m:List Ent} (h:Yj 5 H v (m.map usr) q):YS H v (m.map Zfu):=h.users.s (fun u hu=>by obtain⟨e,_,rfl⟩:=List.mem_map.1 hu;exact Nat.zero_le _)
end
end Go.Proofs.YtgfbgfafajiehaaGreatDoor.A

