/- What the law HostOf needs (part 5). -/
import Derived.Test.YtgfbgfafajiehaaGreatDoorZHostOf4
set_option linter.unusedVariables false
set_option linter.unusedSimpArgs false
namespace Go.Proofs.YtgfbgfafajiehaaGreatDoor.A
open Go.Proofs Go.Proofs.YtgfbgfafajiehaaGreatDoor
section
variable {H:Zd} {n:Nat} {f v:Value} {p:List UInt8->Bool} {l:List (List UInt8)} {q:List Nat} {Q:Zd->Prop}
theorem HLe.stepq {X X':Zd} (h:HLe X X'):Zo q X q X':=h.step.more (by simp) (fun j hj=>.inl hj)
theorem ZBK (hl:l.length<=1000000) (hQ:∀ X X',Q X->HLe X X'->Q X') (hf:∀ X,Q X->∀ s∈l,∃ X',Qt (R n) f [strv s] X=some (.bool (p s),X')/\HLe X X'):∀ (t k:Nat) (X:Zd),l.length - k=t->k<=l.length->Q X->Zt X v (l.map strv) q->
  ∃ X',Zj (c4 (ZF.l1 (R n))) [v,f,iv l.length,iv k] X=some (match (l.drop k).findIdx? p with|some i=>.ret (iv (k+i:Nat))|none=>.ext 0 [],X')/\HLe X X'
 | 0,k,X,ht,hk,hq,hr=>by
  have:k=l.length:=by omega
  subst this;rw[List.drop_length];refine⟨X,ZZ ?_,.refl _⟩;rw[ZL];unfold ZF.l1;rw[Za Zs,Zb,if_neg (by simp)];rfl
 | t+1,k,X,ht,hk,hq,hr=>by
  have hkl:k < l.length:=by omega
  have hlt:(k:Int) < l.length:=by omega
  have hg:=List.getElem?_eq_getElem hkl;have hm:l[k]∈l:=List.getElem_mem hkl;have hd:=List.drop_eq_getElem_cons hkl;generalize l[k]=x at hg hd hm;have x1:=hr.ix (i:=k) (by simpa using hkl) .i64 X;have x2:=hr.ldx (Wr hg);obtain⟨X1,x3,l1⟩:=hf X hq x hm;obtain⟨X2,ih,l2⟩:=ZBK hl hQ hf t (k+1) X1 (by omega) (by omega) (hQ _ _ hq l1) (hr.step l1.step (by simp));rw[hd,List.findIdx?_cons];cases hp:p x
  .rw[hp] at x3;refine⟨X2,(ZJ ?_).trans (ih.trans ?_),l1.trans l2⟩
   .rw[ZL];unfold ZF.l1;rw[Za Zs,Zb,if_pos (by simpa using hlt),Za x1,Za x2,Za x3,Zb,if_neg (by simp),Za ZG,Je (by omega)];rfl
   .cases (l.drop (k+1)).findIdx? p with
    | none=>rfl
    | some i=>simp only[Bool.false_eq_true,if_false,Option.map_some];rw[show k+1+i=k+(i+1) by omega]
  .rw[hp] at x3;refine⟨X1,Yu ?_,l1⟩;rw[ZL];unfold ZF.l1;rw[Za Zs,Zb,if_pos (by simpa using hlt),Za x1,Za x2,Za x3,Zb,if_pos rfl];rfl
theorem ZEm (hr:Zt H v (l.map strv) q) (hl:l.length<=1000000) (hQ:∀ X X',Q X->HLe X X'->Q X') (hf:∀ X,Q X->∀ s∈l,∃ X',Qt (R n) f [strv s] X=some (.bool (p s),X')/\HLe X X') (h0:Q H) :
  ∃ H',R (n+1) QX [v,f] H=some (match l.findIdx? p with|some i=>iv i|none=>iv (-1),H')/\HLe H H':=by
 obtain⟨H',e,le⟩:=ZBK hl hQ hf l.length 0 H (by omega) (by omega) h0 hr;rw[List.drop_zero] at e;have e:Zj (c4 (ZF.l1 (R n))) [v,f,iv l.length,.int .i64 0] H=_:=e;have hlen:ZB v H=some (iv l.length,H):=by have:=hr.rd.len (H':=H);simpa using this
 refine⟨H',?_,le⟩;rw[R,ZbJ rfl];unfold ZF;rw[Za hlen];cases h:l.findIdx? p with
 | none=>rw[h] at e;rw[Qk e,ZI];rfl
 | some i=>
  rw[h] at e;rw[KG e];simp[ret]
theorem ZuP (hl:l.length<=1000000) (hQ:∀ X X',Q X->Zo q X q X'->Q X') (hf:∀ X,Q X->∀ s∈l,∃ X',Qt (R n) f [strv s] X=some (.bool (p s),X')/\HLe X X'):∀ (t j i:Nat) (cs:List (List UInt8)) (X:Zd),l.length - j=t->j<=l.length->i<=j->cs.length=l.length->cs.drop j=l.drop j->Zt X v (cs.map strv) q->Q X->
  ∃ (X':Zd) (cs':List (List UInt8)),Zj (c4 (ZD.l1 (R n))) [v,f,iv i,iv j] X=some (.ext 0 [v,iv (i+((l.drop j).filter fun s=>!p s).length:Nat)],X')/\Zt X' v (cs'.map strv) q/\cs'.length=l.length/\
   cs'.take (i+((l.drop j).filter fun s=>!p s).length)=cs.take i++(l.drop j).filter (fun s=>!p s)/\Zo q X q X'
 | 0,j,i,cs,X,ht,hj,hi,hc,hd,hr,hq=>by
  have:j=l.length:=by omega
  subst this;rw[List.drop_length];have hlen:ZB v X=some (iv l.length,X):=by have:=hr.rd.len (H':=X);simpa[hc] using this
  refine⟨X,cs,ZZ ?_,hr,hc,by simp,.refl _ _⟩;rw[ZL];unfold ZD.l1;rw[Za hlen,Za Zs,Zb,if_neg (by simp)];rfl
 | t+1,j,i,cs,X,ht,hj,hi,hc,hd,hr,hq=>by
  have hjl:j < l.length:=by omega
  have hlt:(j:Int) < l.length:=by omega
  have hg:=List.getElem?_eq_getElem hjl;have hm:l[j]∈l:=List.getElem_mem hjl;have hdl:=List.drop_eq_getElem_cons hjl;generalize l[j]=x at hg hdl hm;have hgc:cs[j]?=some x:=by
   have h1:(cs.drop j)[0]?=(l.drop j)[0]?:=by rw[hd]
   simpa[hg] using h1
  have hlen:ZB v X=some (iv l.length,X):=by have:=hr.rd.len (H':=X);simpa[hc] using this
  have x1:=hr.ix (i:=j) (by simpa[hc] using hjl) .i64 X;have x2:=hr.ldx (Wr hgc);obtain⟨Y,x3,ly⟩:=hf X hq x hm;have hqy:=hQ _ _ hq (ly.stepq (q:=q));have hry:=hr.step ly.step (by simp);have hd1:cs.drop (j+1)=l.drop (j+1):=by
   rw[<- List.drop_drop,hd,List.drop_drop]
  rw[hdl,List.filter_cons];cases hp:p x
  .rw[hp] at x3;have x4:=hry.ix (i:=i) (by simp[hc];omega) .i64 Y;obtain⟨X1,x5,r1,s1,_⟩:=hry.stx (i:=i) (u:=strv x) (by simp[hc];omega) rfl;have hset:(cs.map strv).set i (strv x)=(cs.set i x).map strv:=by rw[List.map_set]
   rw[hset] at r1;obtain⟨X',cs',e,r',hc',ht',s'⟩:=ZuP hl hQ hf t (j+1) (i+1) (cs.set i x) X1 (by omega) (by omega) (by omega) (by simpa using hc) (by rw[List.drop_set_of_lt (by omega)];exact hd1) r1 (hQ _ _ hqy s1);have hn:i+1+((l.drop (j+1)).filter fun s=>!p s).length=i+(((l.drop (j+1)).filter fun s=>!p s).length+1):=by omega
   rw[hn] at e ht';simp only[Bool.not_false,if_true,List.length_cons];refine⟨X',cs',(ZJ ?_).trans e,r',hc',?_,(ly.stepq.trans s1).trans s'⟩
   .rw[ZL];unfold ZD.l1;rw[Za hlen,Za Zs,Zb,if_pos (by simpa using hlt),Za x1,Za x2,Za x3,Za ZP];refine(ZC (vs:=[v,f,iv ((i+1:Nat):Int),iv j]) (H':=X1) ?_).trans ?_
    .rw[Zb,if_pos (by rfl),Za x4,Za x5,Za ZG,Je (by omega)];rfl
    .rw[ZL,Za ZG,Je (by omega)];rfl
   .rw[ht'];have:(cs.set i x).take (i+1)=cs.take i++[x]:=by
     have hil:i < (cs.set i x).length:=by simp[hc];omega
     rw[List.take_succ_eq_append_getElem hil,List.take_set_of_le (Nat.le_refl _)];simp
    rw[this];simp
  .rw[hp] at x3;obtain⟨X',cs',e,r',hc',ht',s'⟩:=ZuP hl hQ hf t (j+1) i cs Y (by omega) (by omega) (by omega) hc hd1 hry hqy;simp only[Bool.not_true,Bool.false_eq_true,if_false];refine⟨X',cs',(ZJ ?_).trans e,r',hc',ht',ly.stepq.trans s'⟩;rw[ZL];unfold ZD.l1;rw[Za hlen,Za Zs,Zb,if_pos (by simpa using hlt),Za x1,Za x2,Za x3,Za ZP];refine(ZC (vs:=[v,f,iv i,iv j]) (H':=Y) ?_).trans ?_
   .rw[Zb,if_neg (by simp)];rfl
   .rw[ZL,Za ZG,Je (by omega)];rfl
theorem Zxh (hr:Zt H v (l.map strv) q) (hl:l.length<=1000000) (hQ:∀ X X',Q X->Zo q X q X'->Q X') (hf:∀ X,Q X->∀ s∈l,∃ X',Qt (R n) f [strv s] X=some (.bool (p s),X')/\HLe X X') (hf1:∀ X,Q X->∀ s∈l,∃ X',Qt (R (n+1)) f [strv s] X=some (.bool (p s),X')/\HLe X X') (h0:Q H) :
  ∃ H' v',R (n+2) Qa [v,f] H=some (v',H')/\Zt H' v' ((l.filter fun s=>!p s).map strv) q/\Zo q H q H':=by
 obtain⟨Y,e1,ly⟩:=ZEm hr hl (fun X X' hq hx=>hQ X X' hq hx.stepq) hf h0;have e1:run Tryz.prog np lvs (n+1) QX [v,f] H=_:=e1;have hry:=hr.step ly.step (by simp);have hqy:=hQ _ _ h0 (ly.stepq (q:=q));have hfi:=Zif (p:=p) (l:=l);have hrun:R (n+2) Qa [v,f] H=ZD (R (n+1)) v f H:=by rw[R,ZbE rfl]
 rw[hrun];unfold ZD;cases h:l.findIdx? p with
 | none=>
  rw[h] at e1 hfi;refine⟨Y,v,?_,by rw[hfi];exact hry,ly.stepq⟩;rw[Za e1,Za ZA,Zb,if_pos (by simp)];rfl
 | some i=>
  rw[h] at e1 hfi;simp only at e1 hfi;obtain⟨X',cs',e2,r2,hc2,ht2,s2⟩:=ZuP (n:=n+1) hl hQ hf1 (l.length - (i+1)) (i+1) i l Y rfl (by omega) (by omega) rfl rfl hry hqy;have hle:((l.drop (i+1)).filter fun s=>!p s).length<=l.length - (i+1):=by
   have:=List.length_filter_le (fun s=>!p s) (l.drop (i+1));simpa using this
  obtain⟨a,X2,v',a1,a2,a3,a4,a5⟩:=Zwc r2 (i:=i+((l.drop (i+1)).filter fun s=>!p s).length) (by omega);refine⟨X2,v',?_,by rw[hfi.1,<- ht2];exact a4,(ly.stepq.trans s2).trans a5⟩;rw[Za e1,Za ZA,Zb,if_neg (by simp),Za ZG,Je (by omega),Qk e2,ZI,ZT,Za a1,Za a2,Za a3];rfl
end
abbrev Tx:=List UInt8
def Asc (l:List Tx):Prop:=l.Pairwise (· < ·)
theorem ZoX {a:Tx}:¬ a < a:=List.lt_irrefl a
theorem ZpW:∀ {l l':List Tx},Asc l->Asc l'->(∀ x,x∈l↔x∈l')->l=l'
 | [],[],_,_,_=>rfl
 | [],b :: l',_,_,h=>by have:=(h b).2 (by simp);cases this
 | a :: l,[],_,_,h=>by have:=(h a).1 (by simp);cases this
 | a :: l,b :: l',h1,h2,h=>by
  obtain⟨a1,a2⟩:=List.pairwise_cons.1 h1;obtain⟨b1,b2⟩:=List.pairwise_cons.1 h2;have hab:a=b:=by
   rcases List.mem_cons.1 ((h a).1 (by simp)) with e|e
   .exact e
   .rcases List.mem_cons.1 ((h b).2 (by simp)) with e'|e'
    .exact e'.symm
    .exact absurd (List.lt_trans (b1 a e) (a1 b e')) ZoX
  subst hab
  congr 1
  refine ZpW a2 b2 fun x=>⟨fun hx=>?_,fun hx=>?_⟩
  .rcases List.mem_cons.1 ((h x).1 (List.mem_cons_of_mem _ hx)) with e|e
   .subst e;exact absurd (a1 _ hx) ZoX
   .exact e
  .rcases List.mem_cons.1 ((h x).2 (List.mem_cons_of_mem _ hx)) with e|e
   .subst e;exact absurd (b1 _ hx) ZoX
   .exact e
theorem ZcV {l:List Tx} (hn:l.Nodup):Asc (ZN l):=by
 have h1:(ZN l).Pairwise (fun a b=>leB a b=true):=List.pairwise_mergeSort (fun a b c h h'=>by
  simp only[leB,decide_eq_true_eq] at *;exact List.le_trans h h') (fun a b=>by
  simp only[leB,Bool.or_eq_true,decide_eq_true_eq];exact List.le_total a b) l
 have h2:(ZN l).Nodup:=((List.mergeSort_perm l _).nodup_iff).2 hn;unfold Asc;have h3:=h1.and h2;refine h3.imp fun {a b} h=>?_;obtain⟨h4,h5⟩:=h;simp only[leB,decide_eq_true_eq] at h4;exact Decidable.byContradiction fun h6=>h5 (List.le_antisymm h4 (List.not_lt.1 h6))
theorem Kp {l:List Tx} {x:Tx}:x∈ZN l↔x∈l:=List.mem_mergeSort
structure Is (l:List Tx) (p:Tx->Prop):Prop where
 asc:Asc l
 mem:∀ x,x∈l↔p x
theorem Is.uniq {l l':List Tx} {p p':Tx->Prop} (h:Is l p) (h':Is l' p') (hp:∀ x,p x↔p' x):l=l':=ZpW h.asc h'.asc fun x=>(h.mem x).trans ((hp x).trans (h'.mem x).symm)
theorem Is.nil {l:List Tx} {p:Tx->Prop} (h:Is l p):l=[]↔∀ x,¬ p x:=by
 constructor
 .rintro rfl x hx;have:=(h.mem x).2 hx;cases this
 .intro hx;exact List.eq_nil_iff_forall_not_mem.2 fun x hm=>hx x ((h.mem x).1 hm)
theorem Asc.nodup {l:List Tx} (h:Asc l):l.Nodup:=h.imp fun {a b} hab e=>by subst e;exact ZoX hab
theorem Asc.filter {l:List Tx} (h:Asc l) (p:Tx->Bool):Asc (l.filter p):=List.Pairwise.filter p h
abbrev ZvM (s:Nat):Value:=.map (some s)
abbrev Zp4 (_:Unit):Value:=.agg #[]
abbrev ZdS:=List (Tx × Nat)
abbrev ZB6:=List (Tx × Unit)
abbrev Mem:=Tx->Tx->Bool
abbrev Ji (o:Nat) (G:ZdS):List Nat:=o :: G.map (·.2)
abbrev ZK (G:ZdS):List Tx:=G.map (·.1)
structure Grp (X:Zd) (g o:Nat) (G:ZdS) (mem:Mem) (c:Nat):Prop where
 cell:X[g]?=some (.cells [.map (some o)] 1 false false)
 mo:JL ZvM X o G
 ms:∀ p∈G,∃ S:ZB6,JL Zp4 X p.2 S/\(∀ n,(Ze n S).isSome=mem p.1 n)/\S.length<=c/\∀ q∈S,Zw q.1=true
 out:∀ k n,mem k n=true->(Ze k G).isSome=true
 nod:(Ji o G).Nodup
 ok:∀ p∈G,Zw p.1=true
 few:G.length<=6
theorem Zj3 {α:Type} {k:Tx}:∀ {m:List (Tx × α)},(Ze k m).isSome=decide (k∈m.map (·.1))
 | []=>rfl
 | p :: m=>by
  simp only[Ze,List.map_cons,List.mem_cons];by_cases h:p.1=k
  .rw[if_pos h];simp[h]
  .rw[if_neg h,Zj3];have:k≠p.1:=Ne.symm h;simp[this]
section
variable {X X':Zd} {n g o c c':Nat} {G:ZdS} {mem mem':Mem} {k m s t:Tx}
theorem Grp.isMap (h:Grp X g o G mem c) {j:Nat} (hj:j∈Ji o G):j < X.length/\∀ cs es gr ro,X[j]?≠some (.cells cs es gr ro):=by
 have key:∀ {α:Type} {enc:α->Value} {id:Nat} {mm:List (Tx × α)},JL enc X id mm->id < X.length/\∀ cs es gr ro,X[id]?≠some (.cells cs es gr ro):=fun hm=>⟨hm.lt,fun cs es gr ro e=>by
  obtain⟨es',_,h1|h1⟩:=hm.ex
  .obtain⟨clk,h1,_⟩:=h1;rw[e] at h1;cases h1
  .rw[e] at h1;cases h1⟩
 rcases List.mem_cons.1 hj with rfl|hj
 .exact key h.mo
 .obtain⟨p,hp,rfl⟩:=List.mem_map.1 hj;obtain⟨S,hS,_⟩:=h.ms p hp;exact key hS
theorem Grp.gnot (h:Grp X g o G mem c):g∉Ji o G:=fun hj=>(h.isMap hj).2 _ _ _ _ h.cell
theorem Grp.glt (h:Grp X g o G mem c):g < X.length:=ZX h.cell
theorem Grp.step {o1 o2:List Nat} (h:Grp X g o G mem c) (hs:Zo o1 X o2 X') (hg:g∉o1) (ho:∀ j∈Ji o G,j∉o1):Grp X' g o G mem c:=
 ⟨hs.get h.cell hg,h.mo.step hs (ho o (by simp)),fun p hp=>by
  obtain⟨S,h1,h2⟩:=h.ms p hp;exact⟨S,h1.step hs (ho p.2 (List.mem_cons_of_mem _ (List.mem_map.2 ⟨p,hp,rfl⟩))),h2⟩,h.out,h.nod,h.ok,h.few⟩
theorem Grp.hle (h:Grp X g o G mem c) (hl:HLe X X'):Grp X' g o G mem c:=h.step hl.step (by simp) (by simp)
theorem Grp.more (h:Grp X g o G mem c) (hc:c<=c') (hm:∀ k n,mem' k n=mem k n):Grp X g o G mem' c':=
 ⟨h.cell,h.mo,fun p hp=>by
  obtain⟨S,h1,h2,h3,h4⟩:=h.ms p hp;exact⟨S,h1,fun n=>(h2 n).trans (hm _ _).symm,Nat.le_trans h3 hc,h4⟩,fun k n hk=>h.out k n (by rw[<- hm];exact hk),h.nod,h.ok,h.few⟩
theorem Grp.ldo (h:Grp X g o G mem c):ld1 (pt g) X=some (.map (some o),X):=KQ h.cell
theorem Grp.upd (h:Grp X g o G mem c) {id:Nat} {S':ZB6} (hk:Ze k G=some id) (hm:JL Zp4 X' id S') (hs:Zo [id] X [id] X') (hn:∀ q∈S',Zw q.1=true) (hc:S'.length<=c') (hcc:c<=c')
  (hmem:∀ k' n,mem' k' n=if k'=k then(Ze n S').isSome else mem k' n):Grp X' g o G mem' c':=by
 have hpm:=Ku hk;have hnod:=h.nod;simp only[List.nodup_cons] at hnod;have hidm:id∈G.map (·.2):=List.mem_map.2 ⟨_,hpm,rfl⟩;have hido:o≠id:=fun e=>hnod.1 (e ▸ hidm);have hidg:g≠id:=fun e=>h.gnot (e ▸ List.mem_cons_of_mem _ hidm);refine⟨hs.get h.cell (by simpa using hidg),h.mo.step hs (by simpa using hido),fun p hp=>?_,fun k' n hk'=>?_,h.nod,h.ok,h.few⟩
 .by_cases hpid:p.2=id
  .have hpk:p.1=k:=by
    have h1:Ze p.1 G=some p.2:=Zck h.mo.nod hp;have hinj:∀ (G:ZdS),(G.map (·.2)).Nodup->p∈G->(k,id)∈G->p=(k,id):=by
     intro G hG h1 h2
     induction G with
     | nil=>cases h1
     | cons a G ih=>
      simp only[List.map_cons,List.nodup_cons,List.mem_map,not_exists,not_and] at hG;rcases List.mem_cons.1 h1 with e1|e1
      .rcases List.mem_cons.1 h2 with e2|e2
       .rw[e1,e2]
       .exact absurd (by rw[<- e1];exact hpid.symm) (hG.1 _ e2)
      .rcases List.mem_cons.1 h2 with e2|e2
       .exact absurd (by rw[<- e2];exact hpid) (hG.1 _ e1)
       .exact ih hG.2 e1 e2
    rw[hinj G hnod.2 hp hpm]
   exact⟨S',by rw[hpid];exact hm,fun n=>by rw[hmem,if_pos hpk],hc,hn⟩
  .obtain⟨S,h1,h2,h3,h4⟩:=h.ms p hp;have hpk:p.1≠k:=fun e=>hpid (by
    have h5:Ze p.1 G=some p.2:=Zck h.mo.nod hp;rw[e,hk] at h5;exact(Option.some.inj h5).symm)
   exact⟨S,h1.step hs (by simpa using hpid),fun n=>by rw[hmem,if_neg hpk];exact h2 n,Nat.le_trans h3 hcc,h4⟩
 .rw[hmem] at hk';by_cases e:k'=k
  .rw[e,hk];rfl
  .rw[if_neg e] at hk';exact h.out k' n hk'
theorem Grp.step1 (h:Grp X g o G mem c) {id:Nat} (hk:Ze k G=some id) (hs:Zo [id] X [id] X'):Zo (Ji o G) X (Ji o G) X':=
 hs.more (fun j hj=>by
  have hj:j=id:=by simpa using hj
  subst hj;exact List.mem_cons_of_mem _ (List.mem_map.2 ⟨_,Ku hk,rfl⟩)) (fun j hj=>.inl hj)
theorem Grp.set (h:Grp X g o G mem c) {id:Nat} (hk:Ze k G=some id):∃ S:ZB6,JL Zp4 X id S/\(∀ n,(Ze n S).isSome=mem k n)/\S.length<=c/\∀ q∈S,Zw q.1=true:=h.ms _ (Ku hk)
theorem Grp.key (h:Grp X g o G mem c):(Ze k G).isSome=decide (k∈ZK G):=Zj3
theorem Zwv {v:Value} {l:List Tx} (hl:l.length<=1000) (hs:Sl X v (l.map strv)):∀ (t j:Nat),l.length - j=t->j<=l.length->
  Zj (c3 (Wo.l1 (R (n+5)))) [v,iv l.length,iv j] X=some (if(l.drop j).all Zw then .ext 0 [] else .ret (iv 10),X)
 | 0,j,ht,hj=>by
  rw[List.drop_eq_nil_of_le (by omega)];refine ZZ ?_;rw[ZY,show j=l.length by omega];unfold Wo.l1;rw[Za Zs,Zb,if_neg (by simp)];rfl
 | t+1,j,ht,hj=>by
  have hkl:j < l.length:=by omega
  have hlt:(j:Int) < l.length:=by omega
  have hg:=List.getElem?_eq_getElem hkl;have hd:=List.drop_eq_getElem_cons hkl;generalize l[j]=x at hg hd;have x1:=hs.ix (i:=j) (by simpa using hkl) .i64 X;have x2:=hs.ldx (Wr hg);have x3:R (n+5) QR [strv x] X=some (iv (ZE x),X):=Zdi;rw[hd,List.all_cons];cases hx:Zw x
  .refine Yu ?_;rw[ZY];unfold Wo.l1;rw[Za Zs,Zb,if_pos (by simpa using hlt),Za x1,Za x2,Za x3,show ZE x=10 by unfold ZE;rw[hx];rfl,Za Zl,Zb,if_pos (by simp)];rfl
  .refine(ZJ ?_).trans (Zwv hl hs t (j+1) (by omega) (by omega));rw[ZY];unfold Wo.l1;rw[Za Zs,Zb,if_pos (by simpa using hlt),Za x1,Za x2,Za x3,show ZE x=0 by unfold ZE;rw[hx];rfl,Za Zl,Zb,if_neg (by simp),Za ZG,Je (by omega)];rfl
def Zfa (l:List Tx):Int:=if l.all Zw then 0 else 10
theorem Zzr {v:Value} {l:List Tx} (hl:l.length<=1000) (hs:Sl X v (l.map strv)):R (n+6) Zbz [v] X=some (iv (Zfa l),X):=by
 have e:=Zwv (n:=n) hl hs l.length 0 (by omega) (by omega);rw[show iv ((0:Nat):Int)=.int .i64 0 from rfl,List.drop_zero] at e;have hlen:ZB v X=some (iv l.length,X):=by have:=hs.len (H':=X);simpa using this
 rw[R,Zvx rfl];unfold Wo Zfa;rw[Za hlen];by_cases h:l.all Zw=true
 .rw[if_pos h] at e ⊢;rw[Qk e,ZI];rfl
 .rw[if_neg h] at e ⊢;rw[KG e];rfl
def QP (k:Tx) (ms:List Tx) (K:List Tx):Int:=if(k :: ms).all Zw then(if k∈K then 0 else 8) else 10
theorem ZBf (h:Grp X g o G mem c) {mv:Value} {ms:List Tx} (hml:ms.length<=5)
  (hrow:∃ w X1 v X2,bsl 1 1 (.string ⟨#[]⟩) [(0,1,strv k)] X=some (w,X1)/\app 1 16 w mv X1=some (v,X2)/\Sl X2 v ((k :: ms).map strv)/\HLe X X2) :
  ∃ X',R (n+7) JV [pt g,strv k,mv] X=some (.tuple #[.map (if QP k ms (ZK G)=0 then Ze k G else none),iv (QP k ms (ZK G))],X')/\HLe X X':=by
 obtain⟨w,X1,v,X2,e1,e2,s2,l2⟩:=hrow;have e3:R (n+6) Zbz [v] X2=_:=Zzr (n:=n) (l:=k :: ms) (by simp;omega) s2;have h2:=h.hle l2;refine⟨X2,?_,l2⟩;rw[R,ZnP rfl];unfold Zez QP;rw[Za e1,Za e2,Za e3];unfold Zfa;by_cases hn:(k :: ms).all Zw=true
 .rw[if_pos hn,if_pos hn];have e4:=h2.mo.lkp (k:=k) (z:=.map none) (ok:=true);have hkey:=h2.key (k:=k);rw[Za Zl,Zb,if_neg (by simp),Za Zg,Za Zi,Za h2.ldo];cases hk:Ze k G with
  | none=>
   rw[hk] at e4 hkey;have hnk:¬ k∈ZK G:=by simpa using hkey.symm
   rw[if_neg hnk,if_neg (by decide)];simp only[cond_true] at e4;rw[Za e4,Za Zp,Za Zq,Za ZP,Zb,if_pos (by rfl)];rfl
  | some id=>
   rw[hk] at e4 hkey;have hnk:k∈ZK G:=by simpa using hkey.symm
   rw[if_pos hnk,if_pos rfl];simp only[cond_true] at e4;rw[Za e4,Za Zp,Za Zq,Za ZP,Zb,if_neg (by simp)];rfl
 .rw[if_neg hn,if_neg hn,Za Zl,Zb,if_pos (by rfl)];rfl
theorem ZzR {x:Tx} {H:Zd}:bsl 1 1 (.string ⟨#[]⟩) [(0,1,strv x)] H=some (.slice (some ⟨H.length,0,none⟩) 1 1,H++[.cells [strv x] 1 false false]):=Zpt rfl rfl rfl
theorem ZpS {x:Tx} {H:Zd}:Zt (H++[.cells [strv x] 1 false false]) (.slice (some ⟨H.length,0,none⟩) 1 1) ([x].map strv) [H.length]:=.inr ⟨H.length,[],false,rfl,rfl,by rw[Zn];rfl⟩
theorem ZHC {b:Nat} {sl:Value} {vs:List Value} {q:List Nat} (h:Zt X sl vs q):app 1 b sl (.slice none 0 0) X=some (sl,X):=by
 rcases h with⟨rfl,rfl,rfl⟩|⟨sid,rest,gr,rfl,rfl,hid⟩
 .rfl
 .unfold app;simp only[QL,flen,hid,Nat.add_zero,Nat.le_add_right,if_true]
theorem Zr4 (h:Grp X g o G mem c):∃ X',R (n+7) JV [pt g,strv k,.slice none 0 0] X=some (.tuple #[.map (if QP k [] (ZK G)=0 then Ze k G else none),iv (QP k [] (ZK G))],X')/\HLe X X':=
 ZBf h (by simp) ⟨_,_,_,_,ZzR,ZHC ZpS,ZpS.rd,.app _ _⟩
theorem Zyc (h:Grp X g o G mem c) {mv:Value} (hm:Sl X mv [strv m]):∃ X',R (n+7) JV [pt g,strv k,mv] X=some (.tuple #[.map (if QP k [m] (ZK G)=0 then Ze k G else none),iv (QP k [m] (ZK G))],X')/\HLe X X':=by
 have l1:HLe X (X++[.cells [strv k] 1 false false]):=.app _ _;obtain⟨v,X2,q,e2,r2,s2,_⟩:=(ZpS (x:=k) (H:=X)).push (b:=16) (hm.mono l1) (by simp) (by simp);have l2:=(l1.more s2 (by simp)).1;exact ZBf h (by simp) ⟨_,_,_,_,ZzR,e2,r2.rd,l2⟩
theorem ZJm:∃ X' g o,R (n+1) ZiU [] X=some (pt g,X')/\Grp X' g o [] (fun _ _=>false) 0/\HLe X X'/\X.length<=g/\X.length<=o:=by
 obtain⟨H1,e1,g1,l1⟩:=Zxy (α:=Nat) (enc:=ZvM) X;have e2:bld (.agg #[.map none]) [(0,1,.map (some X.length))] H1=some (.agg #[.map (some X.length)],H1):=by simp[↓Qe,Qd,↓QF,Qn,Qq,Qr,↓Zb,Yc,Zg,YA,Qs,JK,QB,JJ,Jx,QV,JR,QW,QU,Q8,Q9,Qx,Zk,ZP,Kf,YO,Ju,QS,JU,ZG,QZ,JZ,Yg,J8,ZA,Zl,Zs,JB,Z0,Qu,JS,JX,Jc,J0,↓Kq,Ye,↓g_r,Kz,YR,Zaj,splice,Value.cells]
 have e3:alc 1 (.agg #[.map (some X.length)]) H1=some (pt H1.length,H1++[.cells [.map (some X.length)] 1 false false]):=by
  rw[QU];simp[Value.cells,oneCell]
 refine⟨H1++[.cells [.map (some X.length)] 1 false false],H1.length,X.length,?_,⟨Zn,g1.hle (.app _ _),by simp,by simp,by simp,by simp,by simp⟩,l1.trans (.app _ _),l1.len,Nat.le_refl _⟩;rw[R,ZzM rfl];unfold ZlW;rw[Za e1,Za e2,Za e3];rfl
def Jp (k:Tx) (K:List Tx):Int:=if Zw k then(if k∈K then 9 else if 6<=K.length then 7 else 0) else 10
def Zjb (k:Tx) (K:List Tx):List Tx:=if Jp k K=0 then K++[k] else K
theorem ZA3 (h:Grp X g o G mem c):∃ X' G',R (n+8) Yt [pt g,strv k] X=some (iv (Jp k (ZK G)),X')/\Grp X' g o G' mem c/\ZK G'=Zjb k (ZK G)/\Zo (Ji o G) X (Ji o G') X':=by
 obtain⟨X1,e1,l1⟩:=Zr4 (n:=n) (k:=k) h;have h1:=h.hle l1;have f1:∀ r X',YU (R (n+7)) (pt g) (strv k) X=some (r,X')->R (n+8) Yt [pt g,strv k] X=some (r,X'):=fun r X' hr=>by rw[R,ZnF rfl];exact hr
 have same:∀ e,Jp k (ZK G)=e->e≠0->(YU (R (n+7)) (pt g) (strv k) X=some (iv e,X1))->∃ X' G',R (n+8) Yt [pt g,strv k] X=some (iv (Jp k (ZK G)),X')/\Grp X' g o G' mem c/\ZK G'=Zjb k (ZK G)/\Zo (Ji o G) X (Ji o G') X':=fun e he hne hr=>by
  refine⟨X1,G,by rw[he];exact f1 _ _ hr,h1,?_,l1.stepq⟩;unfold Zjb;rw[if_neg (by rw[he];exact hne)]
 cases hn:Zw k
 .have hE:Jp k (ZK G)=10:=by unfold Jp;rw[hn];rfl
  have hF:QP k [] (ZK G)=10:=by unfold QP;simp[hn]
  rw[hF] at e1;refine same _ hE (by decide) ?_;unfold YU;rw[Za e1,Za Zp,Za Zq,Za ZA,Zb,if_neg (by decide),Za Zl,Zb,if_pos (by decide)];rfl
 .by_cases hk:k∈ZK G
  .have hE:Jp k (ZK G)=9:=by unfold Jp;rw[hn,if_pos rfl,if_pos hk]
   have hF:QP k [] (ZK G)=0:=by unfold QP;simp[hn,hk]
   rw[hF] at e1;refine same _ hE (by decide) ?_;unfold YU;rw[Za e1,Za Zp,Za Zq,Za ZA,Zb,if_pos (by decide)];rfl
  .have hF:QP k [] (ZK G)=8:=by unfold QP;simp[hn,hk]
   rw[hF] at e1;have hkl:(ZK G).length=G.length:=by simp
   by_cases hl:6<=(ZK G).length
   .have hE:Jp k (ZK G)=7:=by unfold Jp;rw[hn,if_pos rfl,if_neg hk,if_pos hl]
    refine same _ hE (by decide) ?_;unfold YU;rw[Za e1,Za Zp,Za Zq,Za ZA,Zb,if_neg (by decide),Za Zl,Zb,if_neg (by decide),Za Zg,Za Zi,Za h1.ldo,Za h1.mo.len,Za Qu,Zb,if_pos (by simp;omega)];rfl
   .have hE:Jp k (ZK G)=0:=by unfold Jp;rw[hn,if_pos rfl,if_neg hk,if_neg hl]
    obtain⟨X2,e2,m2,l2⟩:=Zxy (α:=Unit) (enc:=Zp4) X1;have h2:=h1.hle l2;have hkn:Ze k G=none:=by
     have:=h.key (k:=k);cases ha:Ze k G with
     | none=>rfl
     | some v=>rw[ha] at this;exact absurd (by simpa using this.symm) hk
    obtain⟨X3,e3,m3,s3,len3⟩:=h2.mo.mup (k:=k) (v:=X1.length);have ha:Qw k X1.length G=G++[(k,X1.length)]:=by unfold Qw;rw[hkn];rfl
    rw[ha] at m3;have hlt:∀ j∈Ji o G,j < X1.length:=fun j hj=>(h1.isMap hj).1;refine⟨X3,G++[(k,X1.length)],?_,?_,?_,?_⟩
    .rw[hE];refine f1 _ _ ?_;unfold YU;rw[Za e1,Za Zp,Za Zq,Za ZA,Zb,if_neg (by decide),Za Zl,Zb,if_neg (by decide),Za Zg,Za Zi,Za h1.ldo,Za h1.mo.len,Za Qu,Zb,if_neg (by simp;omega),Za Zg,Za Zi,Za h1.ldo,Za e2,Za e3];rfl
    .have hgo:g≠o:=fun e=>h.gnot (by rw[e];simp);have hoid:∀ p∈G,p.2≠o:=fun p hp e=>by
      have:=h.nod;simp only[List.nodup_cons] at this;exact this.1 (List.mem_map.2 ⟨p,hp,e⟩)
     refine⟨s3.get h2.cell (by simpa using hgo),m3,fun p hp=>?_,fun k' n' hk'=>?_,?_,fun p hp=>?_,by simp;omega⟩
     .rcases List.mem_append.1 hp with hp|hp
      .obtain⟨S,h5,h6⟩:=h2.ms p hp;exact⟨S,h5.step s3 (by simpa using hoid p hp),h6⟩
      .have:p=(k,X1.length):=by simpa using hp
       subst this;refine⟨[],m2.step s3 (by have:=hlt o (by simp);simp;omega),fun n'=>?_,Nat.zero_le _,by simp⟩;cases hb:mem k n' with
       | false=>rfl
       | true=>have:=h.out k n' hb;rw[hkn] at this;cases this
     .rw[Zhr];have:=h.out k' n' hk';cases hg:Ze k' G with
      | none=>rw[hg] at this;cases this
      | some v=>rfl
     .have:Ji o (G++[(k,X1.length)])=Ji o G++[X1.length]:=by simp
      rw[this,List.nodup_append];refine⟨h.nod,by simp,fun a ha b hb e=>?_⟩;have:=hlt a ha;have hb:b=X1.length:=by simpa using hb
      omega
     .rcases List.mem_append.1 hp with hp|hp
      .exact h.ok p hp
      .have:p=(k,X1.length):=by simpa using hp
       subst this;exact hn
    .unfold Zjb;rw[if_pos hE];simp
    .have s:=(l1.trans l2).stepq (q:=Ji o G);have s:=s.trans (s3.more (o2:=Ji o G) (o2':=Ji o G) (by simp) (fun j hj=>.inl hj));refine⟨s.len,s.keep,fun j hj=>?_⟩
     .have:Ji o (G++[(k,X1.length)])=Ji o G++[X1.length]:=by simp
      rw[this] at hj;rcases List.mem_append.1 hj with hj|hj
      .exact .inl hj
      .have hj:j=X1.length:=by simpa using hj
       exact .inr (by rw[hj];exact l1.len)
def Q6 (k:Tx) (K:List Tx):Int:=if Zw k then(if k∈K then 0 else 8) else 10
def ZpQ (k:Tx) (K:List Tx):List Tx:=if Q6 k K=0 then K.filter (fun x=>decide (x≠k)) else K
def Zhb (k:Tx) (mem:Mem):Mem:=fun k' n=>mem k' n && !(k'==k)
theorem ZgS {k:Tx} {K:List Tx}:QP k [] K=Q6 k K:=by unfold QP Q6;simp
theorem ZHj (h:Grp X g o G mem c):∃ X' G',R (n+8) WK [pt g,strv k] X=some (iv (Q6 k (ZK G)),X')/\Grp X' g o G' (if Q6 k (ZK G)=0 then Zhb k mem else mem) c/\ZK G'=ZpQ k (ZK G)/\Zo (Ji o G) X (Ji o G') X':=by
 obtain⟨X1,e1,l1⟩:=Zr4 (n:=n) (k:=k) h;rw[ZgS] at e1;have h1:=h.hle l1;have f1:∀ r X',ZaJ (R (n+7)) (pt g) (strv k) X=some (r,X')->R (n+8) WK [pt g,strv k] X=some (r,X'):=fun r X' hr=>by rw[R,Znx rfl];exact hr
 by_cases hE:Q6 k (ZK G)=0
 .rw[hE] at e1 ⊢;obtain⟨X2,e2,m2,s2,_⟩:=h1.mo.mde (k:=k);have hgo:g≠o:=fun e=>h.gnot (by rw[e];simp);have hoid:∀ p∈G,p.2≠o:=fun p hp e=>by
   have:=h.nod;simp only[List.nodup_cons] at this;exact this.1 (List.mem_map.2 ⟨p,hp,e⟩)
  have hsub:(Yx k G).Sublist G:=List.filter_sublist;refine⟨X2,Yx k G,f1 _ _ ?_,?_,?_,?_⟩
  .unfold ZaJ;rw[Za e1,Za Zp,Za Zq,Za ZA];refine(ZC (vs:=[iv 0]) (H':=X2) ?_).trans ?_
   .rw[Zb,if_pos (by rfl),Za Zg,Za Zi,Za h1.ldo,Za e2];rfl
   .rfl
  .rw[if_pos rfl];refine⟨s2.get h1.cell (by simpa using hgo),m2,fun p hp=>?_,fun k' n' hk'=>?_,?_,fun p hp=>h.ok p (hsub.subset hp),Nat.le_trans hsub.length_le h.few⟩
   .obtain⟨S,h5,h6,h7⟩:=h1.ms p (hsub.subset hp);have hpk:p.1≠k:=by simpa[Yx] using (List.mem_filter.1 hp).2
    refine⟨S,h5.step s2 (by simpa using hoid p (hsub.subset hp)),fun n'=>?_,h7⟩;rw[h6];unfold Zhb;simp[hpk]
   .unfold Zhb at hk';simp only[Bool.and_eq_true,Bool.not_eq_true',beq_eq_false_iff_ne] at hk';rw[JM hk'.2];exact h.out k' n' hk'.1
   .exact((hsub.map (·.2)).cons_cons o).nodup h.nod
  .unfold ZpQ;rw[if_pos hE];unfold Yx ZK;rw[List.filter_map];rfl
  .have s:=l1.stepq (q:=Ji o G);have s:=s.trans (s2.more (o2:=Ji o G) (o2':=Ji o G) (by simp) (fun j hj=>.inl hj));refine⟨s.len,s.keep,fun j hj=>.inl ?_⟩;exact((hsub.map (·.2)).cons_cons o).subset hj
 .refine⟨X1,G,f1 _ _ ?_,by rw[if_neg hE];exact h1,by unfold ZpQ;rw[if_neg hE],l1.stepq⟩;unfold ZaJ;rw[Za e1,Za Zp,Za Zq,Za ZA];refine(ZC (vs:=[iv (Q6 k (ZK G))]) (H':=X1) ?_).trans ?_
  .rw[Zb,if_neg (by simpa using hE)];rfl
  .rfl
end
theorem Zmr {α:Type} {k:Tx} {v:α} {m:List (Tx × α)} {q:Tx × α} (h:q∈Qw k v m):q=(k,v)\/q∈m:=by
 unfold Qw at h;split at h
 .obtain⟨p,hp,rfl⟩:=List.mem_map.1 h;by_cases e:p.1=k
  .rw[if_pos e];exact .inl rfl
  .rw[if_neg e];exact .inr hp
 .rcases List.mem_append.1 h with h|h
  .exact .inr h
  .exact .inl (by simpa using h)
section
variable {X X':Zd} {n g o c c':Nat} {G:ZdS} {mem mem':Mem} {k m s t:Tx}
def Zav (k m:Tx) (K:List Tx) (mem:Mem):Int:=if QP k [m] K=0 then(if mem k m then 9 else 0) else QP k [m] K
def Zcp (k m:Tx) (K:List Tx) (mem:Mem):Int:=if QP k [m] K=0 then(if mem k m then 0 else 12) else QP k [m] K
def Zgx (k m:Tx) (mem:Mem):Mem:=fun k' n=>mem k' n || (k'==k && n==m)
def Zjo (k m:Tx) (mem:Mem):Mem:=fun k' n=>mem k' n && !(k'==k && n==m)
theorem Ztr {k m:Tx} {K:List Tx} (h:QP k [m] K=0):Zw k=true/\Zw m=true/\k∈K:=by
 unfold QP at h;by_cases h1:(k :: [m]).all Zw=true
 .rw[if_pos h1] at h;simp only[List.all_cons,List.all_nil,Bool.and_true,Bool.and_eq_true] at h1;by_cases h2:k∈K
  .exact⟨h1.1,h1.2,h2⟩
  .rw[if_neg h2] at h;cases h
 .rw[if_neg h1] at h;cases h
theorem ZIf {H:Zd}:bld (.agg #[]) [] H=some (.agg #[],H):=by simp[↓Qe,Qd,↓QF,Qn,Qq,Qr,↓Zb,Yc,Zg,YA,Qs,JK,QB,JJ,Jx,QV,JR,QW,QU,Q8,Q9,Qx,Zk,ZP,Kf,YO,Ju,QS,JU,ZG,QZ,JZ,Yg,J8,ZA,Zl,Zs,JB,Z0,Qu,JS,JX,Jc,J0,↓Kq,Ye,↓g_r,Kz,YR,Zaj,splice,Value.cells]
theorem Grp.has (h:Grp X g o G mem c) (hk:k∈ZK G):∃ id,Ze k G=some id:=by
 have:=h.key (k:=k);cases ha:Ze k G with
 | none=>rw[ha] at this;exact absurd hk (by simpa using this.symm)
 | some v=>exact⟨v,rfl⟩
theorem ZAU (h:Grp X g o G mem c):∃ X',R (n+8) YT [pt g,strv k,strv m] X=some (iv (Zav k m (ZK G) mem),X')/\Grp X' g o G (if Zav k m (ZK G) mem=0 then Zgx k m mem else mem) (c+1)/\Zo (Ji o G) X (Ji o G) X':=by
 have l0:HLe X (X++[.cells [strv m] 1 false false]):=.app _ _;have s0:=(ZpS (x:=m) (H:=X)).rd;have e0:=ZzR (x:=m) (H:=X);generalize X++[Zf.cells [strv m] 1 false false]=X0 at l0 s0 e0;obtain⟨X1,e1,l1⟩:=Zyc (n:=n) (k:=k) (m:=m) (h.hle l0) s0;have l01:=l0.trans l1;have h1:=h.hle l01;have f1:∀ r X',WI (R (n+7)) (pt g) (strv k) (strv m) X=some (r,X')->R (n+8) YT [pt g,strv k,strv m] X=some (r,X'):=fun r X' hr=>by rw[R,ZnL rfl];exact hr
 unfold Zav;by_cases hE:QP k [m] (ZK G)=0
 .rw[hE] at e1 ⊢;rw[if_pos rfl] at e1 ⊢;obtain⟨b1,b2,b3⟩:=Ztr hE;obtain⟨id,hid⟩:=h.has b3;rw[hid] at e1;obtain⟨S,m1,m2,m3,m4⟩:=h1.set hid;have e2:=m1.lkp (k:=m) (z:=.agg #[]) (ok:=true);have l2:HLe X1 (X1++[.cells [] 1 false false]):=.app _ _;have hbox:=fun {K:Value->M Value}=>ZaX (k:=K) (zs:=[]) (r:=[]) (n:=0) (H:=X1) rfl rfl rfl rfl;have h2:=h1.hle l2;have m1:=m1.hle l2;generalize X1++[Zf.cells [] 1 false false]=X2 at hbox l2 h2 m1;have hmm:=m2 m;cases hg:Ze m S with
  | some u=>
   rw[hg] at hmm e2;have hmm:mem k m=true:=hmm.symm;rw[if_pos hmm,if_neg (by decide)];refine⟨X2,f1 _ _ ?_,h2.more (Nat.le_succ _) (fun _ _=>rfl),(l01.trans l2).stepq⟩;unfold WI;simp only[cond_true] at e2;rw[Za e0,Za e1,Za Zp,Za Zq,Za Zl,Zb,if_neg (by decide),Za e2,Za Zp,Za Zq];refine hbox.trans ?_;rw[Zb,if_pos rfl];rfl
  | none=>
   rw[hg] at hmm e2;have hmm:mem k m=false:=hmm.symm;rw[if_neg (by simp[hmm]),if_pos rfl];simp only[cond_true] at e2;obtain⟨X3,e3,m5,s3,_⟩:=m1.mup (k:=m) (v:=());have hlen:(Qw m () S).length<=c+1:=by rw[ZdF,hg];simp;omega
   refine⟨X3,f1 _ _ ?_,h2.upd hid m5 s3 (fun q hq=>?_) hlen (Nat.le_succ _) (fun k' n'=>?_),(l01.trans l2).stepq.trans (h2.step1 hid s3)⟩
   .unfold WI;rw[Za e0,Za e1,Za Zp,Za Zq,Za Zl,Zb,if_neg (by decide),Za e2,Za Zp,Za Zq];refine hbox.trans ?_;rw[Zb,if_neg (by simp),Za ZIf,Za e3];rfl
   .rcases Zmr hq with rfl|hq
    .exact b2
    .exact m4 q hq
   .unfold Zgx;by_cases hk:k'=k
    .subst hk;rw[if_pos rfl];by_cases hn:n'=m
     .subst hn;rw[WL];simp
     .rw[Kt hn,m2];simp[hn]
    .rw[if_neg hk];simp[hk]
 .rw[if_neg hE,if_neg hE];refine⟨X1,f1 _ _ ?_,h1.more (Nat.le_succ _) (fun _ _=>rfl),l01.stepq⟩;unfold WI;rw[Za e0,Za e1,Za Zp,Za Zq,Za Zl,Zb,if_pos (by simpa using hE)];rfl
theorem ZFn (h:Grp X g o G mem c):∃ X',R (n+8) Wi [pt g,strv k,strv m] X=some (iv (Zcp k m (ZK G) mem),X')/\Grp X' g o G (if Zcp k m (ZK G) mem=0 then Zjo k m mem else mem) (c+1)/\Zo (Ji o G) X (Ji o G) X':=by
 have l0:HLe X (X++[.cells [strv m] 1 false false]):=.app _ _;have s0:=(ZpS (x:=m) (H:=X)).rd;have e0:=ZzR (x:=m) (H:=X);generalize X++[Zf.cells [strv m] 1 false false]=X0 at l0 s0 e0;obtain⟨X1,e1,l1⟩:=Zyc (n:=n) (k:=k) (m:=m) (h.hle l0) s0;have l01:=l0.trans l1;have h1:=h.hle l01;have f1:∀ r X',Wf (R (n+7)) (pt g) (strv k) (strv m) X=some (r,X')->R (n+8) Wi [pt g,strv k,strv m] X=some (r,X'):=fun r X' hr=>by rw[R,Zm0 rfl];exact hr
 unfold Zcp;by_cases hE:QP k [m] (ZK G)=0
 .rw[hE] at e1 ⊢;rw[if_pos rfl] at e1 ⊢;obtain⟨b1,b2,b3⟩:=Ztr hE;obtain⟨id,hid⟩:=h.has b3;rw[hid] at e1;obtain⟨S,m1,m2,m3,m4⟩:=h1.set hid;have e2:=m1.lkp (k:=m) (z:=.agg #[]) (ok:=true);have l2:HLe X1 (X1++[.cells [] 1 false false]):=.app _ _;have hbox:=fun {K:Value->M Value}=>ZaX (k:=K) (zs:=[]) (r:=[]) (n:=0) (H:=X1) rfl rfl rfl rfl;have h2:=h1.hle l2;have m1:=m1.hle l2;generalize X1++[Zf.cells [] 1 false false]=X2 at hbox l2 h2 m1;have hmm:=m2 m;cases hg:Ze m S with
  | some u=>
   rw[hg] at hmm e2;have hmm:mem k m=true:=hmm.symm;rw[if_pos hmm,if_pos rfl];simp only[cond_true] at e2;obtain⟨X3,e3,m5,s3,_⟩:=m1.mde (k:=m);have hsub:(Yx m S).Sublist S:=List.filter_sublist;refine⟨X3,f1 _ _ ?_,h2.upd hid m5 s3 (fun q hq=>m4 q (hsub.subset hq)) (Nat.le_trans hsub.length_le (Nat.le_trans m3 (Nat.le_succ _))) (Nat.le_succ _) (fun k' n'=>?_),(l01.trans l2).stepq.trans (h2.step1 hid s3)⟩
   .unfold Wf;rw[Za e0,Za e1,Za Zp,Za Zq,Za Zl,Zb,if_neg (by decide),Za e2,Za Zp,Za Zq];refine hbox.trans ?_;rw[Za ZP,Zb,if_neg (by simp),Za e3];rfl
   .unfold Zjo;by_cases hk:k'=k
    .subst hk;rw[if_pos rfl];by_cases hn:n'=m
     .subst hn;rw[Za6];simp
     .rw[JM hn,m2];simp[hn]
    .rw[if_neg hk];simp[hk]
  | none=>
   rw[hg] at hmm e2;have hmm:mem k m=false:=hmm.symm;rw[if_neg (by simp[hmm]),if_neg (by decide)];refine⟨X2,f1 _ _ ?_,h2.more (Nat.le_succ _) (fun _ _=>rfl),(l01.trans l2).stepq⟩;unfold Wf;simp only[cond_true] at e2;rw[Za e0,Za e1,Za Zp,Za Zq,Za Zl,Zb,if_neg (by decide),Za e2,Za Zp,Za Zq];refine hbox.trans ?_;rw[Za ZP,Zb,if_pos (by rfl)];rfl
 .rw[if_neg hE,if_neg hE];refine⟨X1,f1 _ _ ?_,h1.more (Nat.le_succ _) (fun _ _=>rfl),l01.stepq⟩;unfold Wf;rw[Za e0,Za e1,Za Zp,Za Zq,Za Zl,Zb,if_pos (by simpa using hE)];rfl
theorem ZE0 {id:Nat} {S:ZB6} (hm:JL Zp4 X id S) (hl:S.length<=1000000) (hn:∀ q∈S,Zw q.1=true):∃ v q X',R (n+2) WS [.map (some id)] X=some (v,X')/\Zt X' v ((ZN (S.map (·.1))).map strv) q/\HLe X X'/\∀ j∈q,X.length<=j:=by
 have e1:R (n+1) J3 [.map (some id)] X=some (.func (.func YY) #[] #[pt X.length],X++[.cells [.map (some id)] 1 false false]):=by
  rw[R,Zdc rfl];unfold Kg;rw[Za (Zeg rfl rfl _)];rfl
 have l1:HLe X (X++[.cells [.map (some id)] 1 false false]):=.app _ _;obtain⟨v,q,X2,e2,r2,l2,o2⟩:=(hm.hle l1).keys (gks:=ZcF) (gc:=Z6) (gk:=YY) (c:=X.length) (by decide) Zn hl (fun p hp=>Nat.le_trans (Ky (hn p hp)) (by decide));have e2':R (n+1) ZR [.func (.func YY) #[] #[pt X.length],.func (.func Z6) #[] #[]] (X++[.cells [.map (some id)] 1 false false])=some (v,X2):=by
  rw[R,Zbp (show np ZR=some (Zb2 ZcF Z6) from rfl)];exact e2
 refine⟨v,q,X2,?_,r2,l1.trans l2,fun j hj=>Nat.le_trans l1.len (o2 j hj)⟩;rw[R,ZlT rfl];unfold Zdr;rw[Za e1,Za e2'];rfl
theorem ZEd (h:Grp X g o G mem c):∃ v q X',R (n+3) We [pt g] X=some (v,X')/\Zt X' v ((ZN (ZK G)).map strv) q/\HLe X X'/\∀ j∈q,X.length<=j:=by
 have e1:R (n+1) Jt [.map (some o)] X=some (.func (.func Yw) #[] #[pt X.length],X++[.cells [.map (some o)] 1 false false]):=by
  rw[R,Zcv rfl];unfold YB;rw[Za (Zeg rfl rfl _)];rfl
 have l1:HLe X (X++[.cells [.map (some o)] 1 false false]):=.app _ _;obtain⟨v,q,X2,e2,r2,l2,o2⟩:=(h.mo.hle l1).keys (gks:=ZcF) (gc:=Z6) (gk:=Yw) (c:=X.length) (by decide) Zn (Nat.le_trans h.few (by decide)) (fun p hp=>Nat.le_trans (Ky (h.ok p hp)) (by decide));have e2':R (n+1) ZR [.func (.func Yw) #[] #[pt X.length],.func (.func Z6) #[] #[]] (X++[.cells [.map (some o)] 1 false false])=some (v,X2):=by
  rw[R,Zbp (show np ZR=some (Zb2 ZcF Z6) from rfl)];exact e2
 have e3:R (n+2) Zar [.map (some o)] X=some (v,X2):=by
  rw[R,Zkg rfl];unfold ZcO;rw[Za e1,Za e2'];rfl
 refine⟨v,q,X2,?_,r2,l1.trans l2,fun j hj=>Nat.le_trans l1.len (o2 j hj)⟩;rw[R,Zoi rfl];unfold Ze6;rw[Za Zg,Za Zi,Za h.ldo,Za e3];rfl
theorem YC {l:List Tx}:(ZN l).length=l.length:=List.length_mergeSort l
theorem ZCN (h:Grp X g o G mem c) (hc:c<=1000000):∃ v q l X',R (n+8) WA [pt g,strv k] X=some (.tuple #[v,iv (Q6 k (ZK G))],X')/\Zt X' v (l.map strv) q/\Is l (fun m=>Q6 k (ZK G)=0/\mem k m=true)/\l.length<=c/\HLe X X'/\∀ j∈q,X.length<=j:=by
 obtain⟨X1,e1,l1⟩:=Zr4 (n:=n) (k:=k) h;rw[ZgS] at e1;have h1:=h.hle l1;have f1:∀ r X',Ww (R (n+7)) (pt g) (strv k) X=some (r,X')->R (n+8) WA [pt g,strv k] X=some (r,X'):=fun r X' hr=>by rw[R,Zk5 rfl];exact hr
 by_cases hE:Q6 k (ZK G)=0
 .rw[hE] at e1 ⊢;rw[if_pos rfl] at e1;have hk:k∈ZK G:=by
   unfold Q6 at hE;by_cases hn:Zw k=true
   .rw[if_pos hn] at hE;by_cases h2:k∈ZK G
    .exact h2
    .rw[if_neg h2] at hE;cases hE
   .rw[if_neg hn] at hE;cases hE
  obtain⟨id,hid⟩:=h.has hk;rw[hid] at e1;obtain⟨S,m1,m2,m3,m4⟩:=h1.set hid;obtain⟨v,q,X2,e2,r2,l2,o2⟩:=ZE0 (n:=n+5) m1 (by omega) m4;have e2:R (n+7) WS [.map (some id)] X1=_:=e2;refine⟨v,q,_,X2,f1 _ _ ?_,r2,⟨ZcV m1.nod,fun x=>?_⟩,by rw[YC];simpa using m3,l1.trans l2,fun j hj=>Nat.le_trans l1.len (o2 j hj)⟩
  .unfold Ww;rw[Za e1,Za Zp,Za Zq,Za Zl,Zb,if_neg (by decide),Za e2];rfl
  .rw[Kp];have:=m2 x;rw[Zj3] at this;rw[<- this];simp
 .refine⟨_,[],[],X1,f1 _ _ ?_,Zt.nil,⟨List.Pairwise.nil,fun x=>⟨fun hx=>absurd hx (by simp),fun hx=>absurd hx.1 hE⟩⟩,Nat.zero_le _,l1,by simp⟩;unfold Ww;rw[Za e1,Za Zp,Za Zq,Za Zl,Zb,if_pos (by simpa using hE)];rfl
def ofL (m:Tx) (K:List Tx) (mem:Mem):List Tx:=(ZN K).filter fun k=>mem k m
theorem ZpO {K:List Tx} (hn:K.Nodup):Is (ofL m K mem) (fun k=>k∈K/\mem k m=true):=⟨(ZcV hn).filter _,fun x=>by unfold ofL;rw[List.mem_filter,Kp]⟩
theorem Zli {K:List Tx}:(ofL m K mem).length<=K.length:=by
 unfold ofL;have:=List.length_filter_le (fun k=>mem k m) (ZN K)
 rwa [YC] at this
theorem ZI4 {b1 b2:Nat} (h:Grp X g o G mem c) (h1:X[b1]?=some (.cells [pt g] 1 false false)) (h2:X[b2]?=some (.cells [strv m] 1 false false)) (hk:k∈ZK G) :
  ∃ X',R (n+1) Wc [strv k,pt b1,pt b2] X=some (.bool (!mem k m),X')/\HLe X X':=by
 obtain⟨id,hid⟩:=h.has hk;obtain⟨S,m1,m2,m3,m4⟩:=h.set hid;have e2:lkp .str (.map none) false (.map (some o)) (strv k) X=some (.map (some id),X):=by rw[h.mo.lkp,hid];rfl
 have e3:lkp .str (.agg #[]) true (.map (some id)) (strv m) X=some (.tuple #[.agg #[],.bool (mem k m)],X):=by
  rw[m1.lkp,<- m2 m];cases Ze m S<;>rfl
 have l2:HLe X (X++[.cells [] 1 false false]):=.app _ _;have e4:alc 1 (.agg #[]) X=some (pt X.length,X++[.cells [] 1 false false]):=Zeh (vs:=[]) rfl;have a4:(X++[Zf.cells [] 1 false false])[X.length]?=some (.cells [] 1 false false):=Zn;have e5:stA 0 (pt X.length) (.agg #[]) (X++[Zf.cells [] 1 false false])=some (undef,(X++[Zf.cells [] 1 false false]).set X.length (.cells [] 1 false false)):=ZbD (vs:=[]) a4 rfl rfl rfl;rw[ZH2] at e5;have h':=h.hle l2;have m1':=m1.hle l2;have b1':=l2 _ _ h1;have b2':=l2 _ _ h2;generalize X++[Zf.cells [] 1 false false]=X2 at l2 e4 e5 h' m1' b1' b2';have e2':lkp .str (.map none) false (.map (some o)) (strv k) X2=some (.map (some id),X2):=by rw[h'.mo.lkp,hid];rfl
 have e3':lkp .str (.agg #[]) true (.map (some id)) (strv m) X2=some (.tuple #[.agg #[],.bool (mem k m)],X2):=by
  rw[m1'.lkp,<- m2 m];cases Ze m S<;>rfl
 refine⟨X2,?_,l2⟩;rw[R,Zo9 rfl];unfold Ze2;rw[Za (KQ h1),Za Zg,Za Zi,Za h.ldo,Za e2,Za (KQ h2),Za e3,Za Zp,Za Zq,Za e4,Za e3',Ql,Za (KQ b2'),Ql,Za e2',Ql];refine(Za h'.ldo).trans ?_;rw[Ql,Za (KQ b1'),Ql,Za e5,Za ZP];rfl
theorem ZxH (h:Grp X g o G mem c):∃ v q X',R (n+4) J9 [pt g,strv m] X=some (v,X')/\Zt X' v ((ofL m (ZK G) mem).map strv) q/\HLe X X'/\∀ j∈q,X.length<=j:=by
 have e1:=Zeg (v:=pt g) rfl rfl X;have l1:HLe X (X++[Zf.cells [pt g] 1 false false]):=.app _ _;have c1:(X++[Zf.cells [pt g] 1 false false])[X.length]?=some (.cells [pt g] 1 false false):=Zn;generalize X++[Zf.cells [pt g] 1 false false]=X1 at e1 l1 c1;have e2:=Zeg (v:=strv m) rfl rfl X1;have l2:HLe X1 (X1++[Zf.cells [strv m] 1 false false]):=.app _ _;have c2:(X1++[Zf.cells [strv m] 1 false false])[X1.length]?=some (.cells [strv m] 1 false false):=Zn;generalize X1++[Zf.cells [strv m] 1 false false]=X2 at e2 l2 c2;have c1:=l2 _ _ c1;have h2:=h.hle (l1.trans l2);obtain⟨v,q,X3,e3,r3,l3,o3⟩:=ZEd (n:=n) h2;have e3:R (n+3) We [pt g] X2=_:=e3;have l123:=(l1.trans l2).trans l3;have hq:∀ j∈q,j∉Ji o G/\j≠g/\j≠X.length/\j≠X1.length:=fun j hj=>by
  have:=o3 j hj;have a1:=ZX c1;have a2:=ZX c2;have a3:=h2.glt;exact⟨fun hm=>by have:=(h2.isMap hm).1;omega,by omega,by omega,by omega⟩
 have hkeep:∀ Y Y',(Grp Y g o G mem c/\Y[X.length]?=some (.cells [pt g] 1 false false)/\Y[X1.length]?=some (.cells [strv m] 1 false false))->Zo q Y q Y'->(Grp Y' g o G mem c/\Y'[X.length]?=some (.cells [pt g] 1 false false)/\Y'[X1.length]?=some (.cells [strv m] 1 false false)):=fun Y Y' ⟨a1,a2,a3⟩ hs=>
  ⟨a1.step hs (fun hm=>(hq g hm).2.1 rfl) (fun j hj hm=>(hq j hm).1 hj),hs.get a2 (fun hm=>(hq _ hm).2.2.1 rfl),hs.get a3 (fun hm=>(hq _ hm).2.2.2 rfl)⟩
 have hf:∀ i Y,(Grp Y g o G mem c/\Y[X.length]?=some (.cells [pt g] 1 false false)/\Y[X1.length]?=some (.cells [strv m] 1 false false))->∀ s∈ZN (ZK G),∃ Y',Qt (R (i+1)) (.func (.func Wc) #[] #[pt X.length,pt X1.length]) [strv s] Y=some (.bool (!mem s m),Y')/\HLe Y Y':=fun i Y ⟨a1,a2,a3⟩ s hs=>by
  obtain⟨Y',e,l⟩:=ZI4 (n:=i) a1 a2 a3 (Kp.1 hs);refine⟨Y',?_,l⟩;have:=ZjU (n:=i+1) (g:=Wc) (bs:=[pt X.length,pt X1.length]) (args:=[strv s]);exact(congrFun this Y).trans e
 obtain⟨X4,v',e4,r4,s4⟩:=Zxh (n:=n+1) (p:=fun s=>!mem s m) (f:=.func (.func Wc) #[] #[pt X.length,pt X1.length]) (Q:=fun Y=>Grp Y g o G mem c/\Y[X.length]?=some (.cells [pt g] 1 false false)/\Y[X1.length]?=some (.cells [strv m] 1 false false)) r3 (by rw[YC];have:=h.few;simp;omega) hkeep (hf n) (hf (n+1)) ⟨h2.hle l3,l3 _ _ c1,l3 _ _ c2⟩;have e4:R (n+3) Qa [v,.func (.func Wc) #[] #[pt X.length,pt X1.length]] X3=_:=e4;have hm:=l123.more s4 (fun j hj=>Nat.le_trans (l1.trans l2).len (o3 j hj));refine⟨v',q,X4,?_,by simpa[ofL] using r4,hm.1,hm.2⟩;rw[R,ZqS rfl];unfold ZgB;rw[Za e1,Za e2,Za (KQ c1),Za e3,Za e4];rfl
end
section
variable {X X':Zd} {n g o c c':Nat} {G:ZdS} {mem mem':Mem} {k m s t:Tx}
theorem Zt.grp {v:Value} {vs:List Value} {q S':List Nat} (h:Zt X v vs q) (hG:Grp X g o G mem c) (hs:Zo (Ji o G) X S' X'):Zt X' v vs q:=by
 refine h.step hs fun j hj hm=>?_;rcases h with⟨_,rfl,_⟩|⟨sid,rest,gr,_,rfl,hid⟩
 .cases hj
 .have hj:j=sid:=by simpa using hj
  subst hj;exact(hG.isMap hm).2 _ _ _ _ hid
def Zlr (s t:Tx) (K:List Tx) (mem:Mem):Int:=if Zw t then(if s=t then 0 else if ofL t K mem=[] then 0 else 9) else 10
def Zd2 (s t:Tx) (mem:Mem):Mem:=fun k n=>if mem k s then(n==t || (mem k n && !(n==s))) else mem k n
def Zkf (m:Tx) (mem:Mem):Mem:=fun k n=>mem k n && !(n==m)
def Zlf (s t:Tx) (l:List Tx) (mem:Mem) (j:Nat):Mem:=fun k n=>if k∈l.take j then(n==t || (mem k n && !(n==s))) else mem k n
def Zmu (m:Tx) (l:List Tx) (mem:Mem) (j:Nat):Mem:=fun k n=>if k∈l.take j then mem k n && !(n==m) else mem k n
theorem Zjd {l:List Tx} {j:Nat} {x k:Tx} (hx:l[j]?=some x):k∈l.take (j+1)↔k∈l.take j\/k=x:=by
 rw[List.take_add_one,hx];simp
theorem Zy1 {l:List Tx} {j:Nat} {x:Tx} (hn:l.Nodup) (hx:l[j]?=some x):x∉l.take j:=fun hm=>by
 obtain⟨i,hi⟩:=List.getElem?_of_mem hm;rw[List.getElem?_take] at hi;split at hi
 .rename_i hij;obtain⟨h1,h2⟩:=List.getElem?_eq_some_iff.1 hi;obtain⟨h3,h4⟩:=List.getElem?_eq_some_iff.1 hx;exact List.pairwise_iff_getElem.1 hn i j h1 h3 hij (h2.trans h4.symm)
 .cases hi
theorem ZDE {v:Value} {q:List Nat} {l:List Tx} (hl:l.length<=1000) (hn:l.Nodup) (hK:∀ x∈l,x∈ZK G/\mem x s=true):∀ (r j:Nat) (X:Zd),l.length - j=r->j<=l.length->Grp X g o G (Zlf s t l mem j) c->Zw t=true->Zt X v (l.map strv) q->
  ∃ X',Zj (c6 (QK.l1 (R n))) [pt g,strv s,strv t,v,iv l.length,iv j] X=some (.ext 0 [],X')/\Grp X' g o G (Zlf s t l mem l.length) c/\Zo (Ji o G) X (Ji o G) X'
 | 0,j,X,hr,hj,h,ht,hrow=>by
  have:j=l.length:=by omega
  subst this;refine⟨X,ZZ ?_,h,.refl _ _⟩;rw[YL];unfold QK.l1;rw[Za Zs,Zb,if_neg (by simp)];rfl
 | r+1,j,X,hr,hj,h,ht,hrow=>by
  have hkl:j < l.length:=by omega
  have hlt:(j:Int) < l.length:=by omega
  have hg:=List.getElem?_eq_getElem hkl;have hmm:=List.getElem_mem hkl;generalize l[j]=k at hg hmm;obtain⟨hkK,hks⟩:=hK k hmm;have hnot:=Zy1 hn hg;have x1:=hrow.ix (i:=j) (by simpa using hkl) .i64 X;have x2:=hrow.ldx (Wr hg);obtain⟨id,hid⟩:=h.has hkK;obtain⟨S,m1,m2,m3,m4⟩:=h.set hid;have hmk:∀ n',(Ze n' S).isSome=mem k n':=fun n'=>by rw[m2 n'];unfold Zlf;rw[if_neg hnot]
  have e2:lkp .str (.map none) false (.map (some o)) (strv k) X=some (.map (some id),X):=by rw[h.mo.lkp,hid];rfl
  obtain⟨X1,e3,m5,s3,_⟩:=m1.mde (k:=s);have hsub:(Yx s S).Sublist S:=List.filter_sublist;have h1:=h.upd (mem':=fun k' n'=>if k'=k then(Ze n' (Yx s S)).isSome else Zlf s t l mem j k' n') hid m5 s3 (fun q hq=>m4 q (hsub.subset hq)) (Nat.le_trans hsub.length_le m3) (Nat.le_refl _) (fun _ _=>rfl);have e4:lkp .str (.map none) false (.map (some o)) (strv k) X1=some (.map (some id),X1):=by rw[h1.mo.lkp,hid];rfl
  obtain⟨X2,e5,m6,s5,_⟩:=m5.mup (k:=t) (v:=());have hsS:(Ze s S).isSome=true:=by rw[hmk];exact hks
  have hpos:0 < S.length:=by
   cases hS:S with
   | nil=>rw[hS] at hsS;cases hsS
   | cons a b=>simp
  have hlen:(Qw t () (Yx s S)).length<=c:=by
   rw[ZdF];have:=ZsR m1.nod hsS;split<;>omega
  have h2:=h1.upd (mem':=Zlf s t l mem (j+1)) hid m6 s5 (fun q hq=>by
   rcases Zmr hq with rfl|hq
   .exact ht
   .exact m4 q (hsub.subset hq)) hlen (Nat.le_refl _) (fun k' n'=>by
   by_cases hk:k'=k
   .subst hk;rw[if_pos rfl];unfold Zlf;rw[if_pos ((Zjd hg).2 (.inr rfl))];by_cases hnt:n'=t
    .subst hnt;rw[WL];simp
    .rw[Kt hnt];by_cases hns:n'=s
     .subst hns;rw[Za6];simp[hnt]
     .rw[JM hns,hmk,beq_eq_false_iff_ne.2 hnt,beq_eq_false_iff_ne.2 hns];simp
   .rw[if_neg hk,if_neg hk];unfold Zlf;by_cases hin:k'∈l.take j
    .rw[if_pos hin,if_pos ((Zjd hg).2 (.inl hin))]
    .rw[if_neg hin,if_neg fun h=>(Zjd hg).1 h |>.elim hin hk])
  have st:=(h.step1 hid s3).trans (h1.step1 hid s5);obtain⟨X3,e6,h3,s6⟩:=ZDE hl hn hK r (j+1) X2 (by omega) (by omega) h2 ht (hrow.grp h st);refine⟨X3,(ZJ ?_).trans e6,h3,st.trans s6⟩;rw[YL];unfold QK.l1;rw[Za Zs,Zb,if_pos (by simpa using hlt),Za x1,Za x2,Za Zg,Za Zi,Za h.ldo,Za e2,Za e3,Za Zg,Za Zi,Za h1.ldo,Za e4,Za ZIf,Za e5,Za ZG,Je (by omega)];rfl
theorem ZjW {K:List Tx} {x:Tx}:x∈ofL m K mem↔x∈K/\mem x m=true:=by unfold ofL;rw[List.mem_filter,Kp]
theorem ZIM (h:Grp X g o G mem c):∃ X',R (n+8) KP [pt g,strv s,strv t] X=some (iv (Zlr s t (ZK G) mem),X')/\Grp X' g o G (if Zlr s t (ZK G) mem=0 then Zd2 s t mem else mem) c/\Zo (Ji o G) X (Ji o G) X':=by
 have l0:HLe X (X++[.cells [strv t] 1 false false]):=.app _ _;have s0:=(ZpS (x:=t) (H:=X)).rd;have e0:=ZzR (x:=t) (H:=X);generalize X++[Zf.cells [strv t] 1 false false]=X0 at l0 s0 e0;have f1:∀ r X',QK (R (n+7)) (pt g) (strv s) (strv t) X=some (r,X')->R (n+8) KP [pt g,strv s,strv t] X=some (r,X'):=fun r X' hr=>by rw[R,Zlh rfl];exact hr
 have e1:R (n+7) Zbz [_] X0=_:=Zzr (n:=n+1) (l:=[t]) (by simp) s0;have h0:=h.hle l0;unfold Zlr;by_cases ht:Zw t=true
 .have hN:Zfa [t]=0:=by unfold Zfa;simp[ht]
  rw[hN] at e1;rw[if_pos ht];have q1:bop .str .eql (strv s) (strv t) X0=some (.bool (s==t),X0):=Zkm;by_cases hst:s=t
  .rw[if_pos hst,if_pos rfl];refine⟨X0,f1 _ _ ?_,h0.more (Nat.le_refl _) (fun k' n'=>?_),l0.stepq⟩
   .unfold QK;rw[Za e0,Za e1,Za Zl,Zb,if_neg (by decide),Za q1,Zb,if_pos (by simpa using hst)];rfl
   .unfold Zd2;subst hst;split
    .rename_i hm;by_cases hn:n'=s
     .subst hn;simp[hm]
     .rw[beq_eq_false_iff_ne.2 hn];simp
    .rfl
  .rw[if_neg hst];obtain⟨v1,q1',X1,e2,r2,l2,o2⟩:=ZxH (n:=n+3) (m:=t) h0;have e2:R (n+7) J9 [pt g,strv t] X0=_:=e2;have hlen1:ZB v1 X1=some (iv (ofL t (ZK G) mem).length,X1):=by have:=r2.rd.len (H':=X1);simpa using this
   have h1:=h0.hle l2;by_cases hO:ofL t (ZK G) mem=[]
   .rw[if_pos hO,if_pos rfl];rw[hO] at hlen1;obtain⟨v2,q2,X2,e3,r3,l3,o3⟩:=ZxH (n:=n+3) (m:=s) h1;have e3:R (n+7) J9 [pt g,strv s] X1=_:=e3;have h2:=h1.hle l3;have hlen2:ZB v2 X2=some (iv (ofL s (ZK G) mem).length,X2):=by have:=r3.rd.len (H':=X2);simpa using this
    have hfew:(ofL s (ZK G) mem).length<=1000:=by have:=Zli (m:=s) (mem:=mem) (K:=ZK G);have:=h.few;simp at *;omega
    have hnod:(ofL s (ZK G) mem).Nodup:=(ZpO h.mo.nod).asc.nodup;have hr0:∀ k n',Zlf s t (ofL s (ZK G) mem) mem 0 k n'=mem k n':=fun k n'=>by unfold Zlf;simp
    obtain⟨X3,e4,h3,s4⟩:=ZDE (n:=n+7) (s:=s) (t:=t) hfew hnod (fun x hx=>ZjW.1 hx) (ofL s (ZK G) mem).length 0 X2 (by omega) (by omega) (h2.more (Nat.le_refl _) hr0) ht r3;rw[show iv ((0:Nat):Int)=.int .i64 0 from rfl] at e4;refine⟨X3,f1 _ _ ?_,h3.more (Nat.le_refl _) (fun k' n'=>?_),((l0.trans l2).trans l3).stepq.trans s4⟩
    .unfold QK;rw[Za e0,Za e1,Za Zl,Zb,if_neg (by decide),Za q1,Zb,if_neg (by simpa using hst),Za e2,Za hlen1,Za Z0,Zb,if_neg (by simp),Za e3,Za hlen2,Qk e4,ZI];rfl
    .unfold Zd2 Zlf;rw[List.take_length];by_cases hm:mem k' s=true
     .have hin:k'∈ofL s (ZK G) mem:=ZjW.2 ⟨by
       have:=h.out k' s hm;rw[h.key] at this;simpa using this,hm⟩
      rw[if_pos hm,if_pos hin]
     .rw[if_neg hm,if_neg fun hin=>hm (ZjW.1 hin).2]
   .rw[if_neg hO,if_neg (by decide)];have hpos:0 < (ofL t (ZK G) mem).length:=List.length_pos_iff.2 hO;refine⟨X1,f1 _ _ ?_,h1,(l0.trans l2).stepq⟩;unfold QK;rw[Za e0,Za e1,Za Zl,Zb,if_neg (by decide),Za q1,Zb,if_neg (by simpa using hst),Za e2,Za hlen1,Za Z0,Zb,if_pos (by simpa using hpos)];rfl
 .have hN:Zfa [t]=10:=by unfold Zfa;simp[ht]
  rw[hN] at e1;rw[if_neg ht,if_neg (by decide)];refine⟨X0,f1 _ _ ?_,h0,l0.stepq⟩;unfold QK;rw[Za e0,Za e1,Za Zl,Zb,if_pos (by decide)];rfl
theorem ZDh {v z:Value} {q:List Nat} {l:List Tx} (hl:l.length<=1000) (hn:l.Nodup) (hK:∀ x∈l,x∈ZK G):∀ (r j:Nat) (X:Zd),l.length - j=r->j<=l.length->Grp X g o G (Zmu m l mem j) c->Zt X v (l.map strv) q->
  ∃ X',Zj (c6 (Yn.l1 (R n))) [pt g,strv m,z,v,iv l.length,iv j] X=some (.ext 0 [z],X')/\Grp X' g o G (Zmu m l mem l.length) c/\Zo (Ji o G) X (Ji o G) X'
 | 0,j,X,hr,hj,h,hrow=>by
  have:j=l.length:=by omega
  subst this;refine⟨X,ZZ ?_,h,.refl _ _⟩;rw[YL];unfold Yn.l1;rw[Za Zs,Zb,if_neg (by simp)];rfl
 | r+1,j,X,hr,hj,h,hrow=>by
  have hkl:j < l.length:=by omega
  have hlt:(j:Int) < l.length:=by omega
  have hg:=List.getElem?_eq_getElem hkl;have hmm:=List.getElem_mem hkl;generalize l[j]=k at hg hmm;have hkK:=hK k hmm;have hnot:=Zy1 hn hg;have x1:=hrow.ix (i:=j) (by simpa using hkl) .i64 X;have x2:=hrow.ldx (Wr hg);obtain⟨id,hid⟩:=h.has hkK;obtain⟨S,m1,m2,m3,m4⟩:=h.set hid;have hmk:∀ n',(Ze n' S).isSome=mem k n':=fun n'=>by rw[m2 n'];unfold Zmu;rw[if_neg hnot]
  have e2:lkp .str (.map none) false (.map (some o)) (strv k) X=some (.map (some id),X):=by rw[h.mo.lkp,hid];rfl
  obtain⟨X1,e3,m5,s3,_⟩:=m1.mde (k:=m);have hsub:(Yx m S).Sublist S:=List.filter_sublist;have h1:=h.upd (mem':=Zmu m l mem (j+1)) hid m5 s3 (fun q hq=>m4 q (hsub.subset hq)) (Nat.le_trans hsub.length_le m3) (Nat.le_refl _) (fun k' n'=>by
   by_cases hk:k'=k
   .subst hk;rw[if_pos rfl];unfold Zmu;rw[if_pos ((Zjd hg).2 (.inr rfl))];by_cases hns:n'=m
    .subst hns;rw[Za6];simp
    .rw[JM hns,hmk];simp[hns]
   .rw[if_neg hk];unfold Zmu;by_cases hin:k'∈l.take j
    .rw[if_pos hin,if_pos ((Zjd hg).2 (.inl hin))]
    .rw[if_neg hin,if_neg fun h=>(Zjd hg).1 h |>.elim hin hk])
  have st:=h.step1 hid s3;obtain⟨X3,e6,h3,s6⟩:=ZDh hl hn hK r (j+1) X1 (by omega) (by omega) h1 (hrow.grp h st);refine⟨X3,(ZJ ?_).trans e6,h3,st.trans s6⟩;rw[YL];unfold Yn.l1;rw[Za Zs,Zb,if_pos (by simpa using hlt),Za x1,Za x2,Za Zg,Za Zi,Za h.ldo,Za e2,Za e3,Za ZG,Je (by omega)];rfl
theorem ZD8 (h:Grp X g o G mem c):∃ X',R (n+8) WU [pt g,strv m] X=some (iv (ofL m (ZK G) mem).length,X')/\Grp X' g o G (Zkf m mem) c/\Zo (Ji o G) X (Ji o G) X':=by
 obtain⟨v2,q2,X2,e3,r3,l3,o3⟩:=ZxH (n:=n+3) (m:=m) h;have e3:R (n+7) J9 [pt g,strv m] X=_:=e3;have h2:=h.hle l3;have hlen2:∀ Y,ZB v2 Y=some (iv (ofL m (ZK G) mem).length,Y):=fun Y=>by have:=r3.rd.len (H':=Y);simpa using this
 have hfew:(ofL m (ZK G) mem).length<=1000:=by have:=Zli (m:=m) (mem:=mem) (K:=ZK G);have:=h.few;simp at *;omega
 have hnod:(ofL m (ZK G) mem).Nodup:=(ZpO h.mo.nod).asc.nodup;have hr0:∀ k n',Zmu m (ofL m (ZK G) mem) mem 0 k n'=mem k n':=fun k n'=>by unfold Zmu;simp
 obtain⟨X3,e4,h3,s4⟩:=ZDh (n:=n+7) (m:=m) (z:=v2) hfew hnod (fun x hx=>(ZjW.1 hx).1) (ofL m (ZK G) mem).length 0 X2 (by omega) (by omega) (h2.more (Nat.le_refl _) hr0) r3;rw[show iv ((0:Nat):Int)=.int .i64 0 from rfl] at e4;refine⟨X3,?_,h3.more (Nat.le_refl _) (fun k' n'=>?_),l3.stepq.trans s4⟩
 .rw[R,ZlR rfl];unfold Yn;rw[Za e3,Za (hlen2 _),Qk e4,ZI,Yi,Za (hlen2 _)];rfl
 .unfold Zkf Zmu;rw[List.take_length];by_cases hin:k'∈ofL m (ZK G) mem
  .rw[if_pos hin]
  .rw[if_neg hin];by_cases hn:n'=m
   .subst hn;cases hm:mem k' n' with
    | false=>rfl
    | true=>exact absurd (ZjW.2 ⟨by have:=h.out k' n' hm;rw[h.key] at this;simpa using this,hm⟩) hin
   .simp[hn]
def Zd7 (b:Nat):ZdS->ZdS
 | []=>[]
 | p :: G=>(p.1,b) :: Zd7 (b+1) G
theorem Zmq:∀ {G:ZdS} {b:Nat},ZK (Zd7 b G)=ZK G
 | [],_=>rfl
 | p :: G,b=>by
  show p.1 :: ZK (Zd7 (b+1) G)=p.1 :: ZK G
  rw[Zmq]
theorem ZsA:∀ {G:ZdS} {b:Nat} {p:Tx × Nat},p∈Zd7 b G->∃ i q,G[i]?=some q/\p=(q.1,b+i)
 | [],_,_,h=>by cases h
 | q :: G,b,p,h=>by
  rcases List.mem_cons.1 h with rfl|h
  .exact⟨0,q,rfl,rfl⟩
  .obtain⟨i,r,h1,h2⟩:=ZsA h;exact⟨i+1,r,by simpa using h1,by rw[h2];congr 1;omega⟩
theorem ZkJ:∀ {G:ZdS} {b:Nat},(Zd7 b G).map (·.2)=List.range' b G.length
 | [],_=>rfl
 | p :: G,b=>by
  show b :: (Zd7 (b+1) G).map (·.2)=_
  rw[ZkJ,List.length_cons,List.range'_succ]
theorem Zs2:∀ {G:ZdS} {b:Nat},(Ze k (Zd7 b G)).isSome=(Ze k G).isSome
 | [],_=>rfl
 | p :: G,b=>by
  simp only[Zd7,Ze];by_cases h:p.1=k
  .rw[if_pos h,if_pos h];rfl
  .rw[if_neg h,if_neg h,Zs2]
theorem Zuk:∀ {es:List (Value × Value × Nat)} {G:ZdS} {b:Nat},es.map kv=G.map (fun p=>(strv p.1,ZvM p.2))->(Zc1 b es).map kv=(Zd7 b G).map (fun p=>(strv p.1,ZvM p.2))
 | [],[],_,_=>rfl
 | [],_ :: _,_,h=>by cases h
 | _ :: _,[],_,h=>by cases h
 | e :: es,p :: G,b,h=>by
  simp only[List.map_cons,List.cons.injEq,kv,Prod.mk.injEq] at h;simp only[Zc1,Zd7,List.map_cons,kv,h.1.1];rw[Zuk h.2]
theorem ZtG:∀ {es:List (Value × Value × Nat)} {G:ZdS},es.map kv=G.map (fun p=>(strv p.1,ZvM p.2))->(∀ p∈G,∃ S,JL Zp4 X p.2 S)->∃ l,Zgh X es=some l/\l.length=G.length/\∀ (i:Nat) (p:Tx × Nat),G[i]?=some p->l[i]?=X[p.2]?
 | [],[],_,_=>⟨[],rfl,rfl,fun i p h=>by simp at h⟩
 | [],_ :: _,h,_=>by cases h
 | _ :: _,[],h,_=>by cases h
 | e :: es,p :: G,h,hS=>by
  simp only[List.map_cons,List.cons.injEq,kv,Prod.mk.injEq] at h;obtain⟨l,h1,h2,h3⟩:=ZtG h.2 (fun p hp=>hS p (List.mem_cons_of_mem _ hp));obtain⟨S,hm⟩:=hS p (by simp);obtain⟨x,hx,hmx⟩:∃ x,X[p.2]?=some x/\ZjS x=true:=by
   obtain⟨es',_,h4|h4⟩:=hm.ex
   .obtain⟨clk,h4,_⟩:=h4;exact⟨_,h4,rfl⟩
   .exact⟨_,h4,rfl⟩
  refine⟨x :: l,?_,by simp[h2],fun i q hi=>?_⟩
  .unfold Zgh;simp only[h.1.2,h1,ZvM,hx,hmx,if_true]
  .cases i with
   | zero=>
    have:p=q:=by simpa using hi
    subst this;simp[hx]
   | succ i=>simpa using h3 i q (by simpa using hi)
theorem JL.move {α:Type} {enc:α->Value} {id id':Nat} {mm:List (Tx × α)} (h:JL enc X id mm) (he:X'[id']?=X[id]?):JL enc X' id' mm:=by
 obtain⟨es,h1,h2⟩:=h.ex;exact⟨⟨es,h1,by rw[he];exact h2⟩,h.nod⟩
theorem ZGG (h:Grp X g o G mem c):∃ X' g' o' G',R (n+1) ZaO [pt g] X=some (pt g',X')/\Grp X' g' o' G' mem c/\ZK G'=ZK G/\HLe X X'/\X.length<=g'/\∀ j∈Ji o' G',X.length<=j:=by
 obtain⟨es,h1,h2⟩:=h.mo.ex;obtain⟨l,h3,h4,h5⟩:=ZtG h1 (fun p hp=>by obtain⟨S,hS,_⟩:=h.ms p hp;exact⟨S,hS⟩);have hents:ZpF X o=some es:=by
  unfold ZpF;rcases h2 with⟨clk,h2,hst⟩|h2
  .simp only[h2];rw[if_pos hst]
  .simp only[h2]
 have hk:ZhW es (ZK G):=⟨by
  have:=congrArg (List.map (·.1)) h1;rw[Zf1] at this;rw[this];simp[Function.comp_def],h.mo.nod,by have:=h.few;simp;omega,fun k hk=>by
  obtain⟨p,hp,rfl⟩:=List.mem_map.1 hk;exact Nat.le_trans (Ky (h.ok p hp)) (by decide)⟩
 have hrun:R (n+1) ZaO [pt g] X=some (pt (X.length+l.length+1),X++l++[.mapU (Zc1 X.length es)]++[.cells [.map (some (X.length+l.length))] 1 false false]):=by
  rw[R,Zbp (show np ZaO=some Zlt from rfl)];unfold Zlt;simp only[h.cell,hents,h3];rw[if_pos ⟨_,hk⟩]
 have hlen1:(X++l).length=X.length+l.length:=List.length_append;have hlen2:(X++l++[Zf.mapU (Zc1 X.length es)]).length=X.length+l.length+1:=by rw[List.length_append,hlen1,List.length_singleton]
 have hle:HLe X (X++l++[.mapU (Zc1 X.length es)]++[.cells [.map (some (X.length+l.length))] 1 false false]):=fun i v hi=>by
  rw[List.append_assoc,List.append_assoc,List.getElem?_append_left (ZX hi)];exact hi
 refine⟨_,_,X.length+l.length,Zd7 X.length G,hrun,⟨?_,⟨⟨Zc1 X.length es,Zuk h1,.inr ?_⟩,?_⟩,fun p hp=>?_,fun k' n' hk'=>by rw[Zs2];exact h.out k' n' hk',?_,fun p hp=>?_,?_⟩,Zmq,hle,by omega,fun j hj=>?_⟩
 .rw[<- hlen2];exact Zn
 .rw[List.getElem?_append_left (by rw[hlen2];omega),<- hlen1];exact Zn
 .have:(ZK (Zd7 X.length G)).Nodup:=by rw[Zmq];exact h.mo.nod
  exact this
 .obtain⟨i,q,hq,rfl⟩:=ZsA hp;obtain⟨S,a1,a2,a3,a4⟩:=h.ms q (List.mem_of_getElem? hq);refine⟨S,a1.move ?_,a2,a3,a4⟩;have hil:i < l.length:=by rw[h4];exact(List.getElem?_eq_some_iff.1 hq).1
  show(_:Zd)[X.length+i]?=_
  rw[List.getElem?_append_left (by rw[hlen2];omega),List.getElem?_append_left (by rw[hlen1];omega),List.getElem?_append_right (by omega),Nat.add_sub_cancel_left];exact h5 i q hq
 .rw[Ji,ZkJ,List.nodup_cons];refine⟨fun hm=>?_,List.nodup_range'⟩;have:=List.mem_range'_1.1 hm;omega
 .obtain⟨i,q,hq,rfl⟩:=ZsA hp;exact h.ok q (List.mem_of_getElem? hq)
 .have:(Zd7 X.length G).length=G.length:=by
   have:=congrArg List.length (ZkJ (G:=G) (b:=X.length));simpa using this
  rw[this];exact h.few
 .rw[Ji,ZkJ] at hj;rcases List.mem_cons.1 hj with rfl|hj
  .omega
  .exact(List.mem_range'_1.1 hj).1
end
def ZfP (b:UInt8):UInt8:=if decide (65<=b.toNat) && decide (b.toNat<=90) then UInt8.ofNat (b.toNat+32) else b
def QO (s:List UInt8):List UInt8:=s.map ZfP
theorem ZE1:∀ b:UInt8,(decide (65<=b.toNat) && decide (b.toNat<=90))=true->IntKind.u8.wrap (IntKind.u8.wrap ((b.toNat:Int)+97) - 65)=(ZfP b).toNat:=ZEs (by decide+kernel)
section
variable {H X:Zd} {n:Nat} {s:List UInt8}
theorem ZIz {cs:List UInt8} {k:Nat} {b:UInt8} (h:cs[k]?=some b):(u8s cs)[k]?=some (u8v b):=by unfold u8s;rw[List.getElem?_map,h];rfl
theorem ZGT {cs:List UInt8} {k:Nat} {b:UInt8}:(u8s cs).set k (u8v b)=u8s (cs.set k b):=by unfold u8s;rw[List.map_set]
theorem ZJI:s2b (strv s) H=some (.slice (some ⟨H.length,0,none⟩) s.length s.length,H++[.cells (u8s s) 1 true false]):=by
 unfold s2b strv Zk6;simp[ByteArray.size]
theorem ZvH {v:Value} {q:List Nat} (hs:s.length<=1000000):∀ (t k:Nat) (cs:List UInt8) (X:Zd),s.length - k=t->k<=s.length->cs.length=s.length->cs.take k=(s.take k).map ZfP->cs.drop k=s.drop k->Zt X v (u8s cs) q->
  ∃ X',Zj (c4 (Zag.l1 (R n))) [v,v,iv s.length,iv k] X=some (.ext 0 [v],X')/\Zt X' v (u8s (QO s)) q/\Zo q X q X'
 | 0,k,cs,X,ht,hk,hl,h1,h2,hr=>by
  have:k=s.length:=by omega
  subst this;have:cs=QO s:=by
   rw[List.take_of_length_le (by omega),List.take_of_length_le (by omega)] at h1;exact h1
  subst this;refine⟨X,ZZ ?_,hr,.refl _ _⟩;rw[ZL];unfold Zag.l1;rw[Za Zs,Zb,if_neg (by simp)];rfl
 | t+1,k,cs,X,ht,hk,hl,h1,h2,hr=>by
  have hkl:k < s.length:=by omega
  have hlt:(k:Int) < s.length:=by omega
  have hg:=List.getElem?_eq_getElem hkl;have htk:=List.take_succ_eq_append_getElem hkl;have hdk:=List.drop_eq_getElem_cons hkl;generalize s[k]=b at hg htk hdk;have hgc:cs[k]?=some b:=by
   have h3:(cs.drop k)[0]?=(s.drop k)[0]?:=by rw[h2]
   simpa[hg] using h3
  have hul:(u8s cs).length=s.length:=by rw[Jm,hl]
  have x1:=hr.ix (i:=k) (by omega) .i64 X;have x2:=hr.ldx (ZIz hgc);have hd1:cs.drop (k+1)=s.drop (k+1):=by rw[<- List.drop_drop,h2,List.drop_drop]
  have htc:cs.take (k+1)=cs.take k++[b]:=by
   have:=List.take_succ_eq_append_getElem (show k < cs.length by omega);rw[this,(List.getElem?_eq_some_iff.1 hgc).2]
  have hpk:∀ (K:Value->M Out),bind (bop .int .geq (u8v b) (Value.int .u8 65)) (fun v16x6=>bind (gate v16x6 true 2 (bind (bop .int .leq (u8v b) (Value.int .u8 90)) fun v19x7=>ret [u8v b,v19x7])) (c2 fun _ q8_1=>bind (pick v16x6 q8_1 (Value.bool false)) K)) X=K (.bool (decide (65<=b.toNat) && decide (b.toNat<=90))) X:=fun K=>by
   have e1:decide ((b.toNat:Int)≥65)=decide (65<=b.toNat):=by rw[decide_eq_decide];omega
   have e2:decide ((b.toNat:Int)<=90)=decide (b.toNat<=90):=by rw[decide_eq_decide];omega
   rw[Za Qu,e1];cases decide (65<=b.toNat)
   .rw[Za (g_r.trans (if_neg (by simp)))];simp only[List.replicate];rw[ZT,Za Zk];rfl
   .rw[Z4,Zm,Za JB,Z5,ZT,Za Zk,e2];rfl
  cases hup:(decide (65<=b.toNat) && decide (b.toNat<=90))
  .have hfb:ZfP b=b:=by unfold ZfP;rw[hup];rfl
   rw[hup] at hpk;obtain⟨X',e,r',s'⟩:=ZvH hs t (k+1) cs X (by omega) (by omega) hl (by rw[htc,h1,htk,List.map_append,List.map_singleton,hfb]) hd1 hr;refine⟨X',(ZJ ?_).trans e,r',s'⟩;rw[ZL];unfold Zag.l1;rw[Za Zs,Zb,if_pos (by simpa using hlt),Za x1,Za x2];refine(hpk _).trans ?_;refine(ZC (vs:=[v,v,iv s.length,iv k]) (H':=X) ?_).trans ?_
   .rw[Zb,if_neg (by simp)];rfl
   .rw[ZL,Za ZG,Je (by omega)];rfl
  .have hfu:=ZE1 b hup;rw[hup] at hpk;obtain⟨X1,x3,r1,s1,_⟩:=hr.stx (i:=k) (u:=u8v (ZfP b)) (by omega) rfl;rw[ZGT] at r1;obtain⟨X',e,r',s'⟩:=ZvH hs t (k+1) (cs.set k (ZfP b)) X1 (by omega) (by omega) (by simpa using hl) (by
    have h5:k < (cs.set k (ZfP b)).length:=by simp;omega
    rw[List.take_succ_eq_append_getElem h5,List.take_set_of_le (Nat.le_refl _),h1,htk,List.map_append];simp) (by rw[List.drop_set_of_lt (by omega)];exact hd1) r1
   refine⟨X',(ZJ ?_).trans e,r',s1.trans s'⟩;rw[ZL];unfold Zag.l1;rw[Za Zs,Zb,if_pos (by simpa using hlt),Za x1,Za x2];refine(hpk _).trans ?_;refine(ZC (vs:=[v,v,iv s.length,iv k]) (H':=X1) ?_).trans ?_
   .rw[Zb,if_pos rfl,Za ZG,Za QZ,hfu,Za x1,Za x3];rfl
   .rw[ZL,Za ZG,Je (by omega)];rfl
theorem ZJa (hs:s.length<=1000000):∃ H',R (n+1) Zgp [strv s] H=some (strv (QO s),H')/\HLe H H':=by
 have e1:=ZJI (s:=s) (H:=H);have k1:HLe H (H++[.cells (u8s s) 1 true false]):=.app _ _;have r1:Zt (H++[.cells (u8s s) 1 true false]) (.slice (some ⟨H.length,0,none⟩) s.length s.length) (u8s s) [H.length]:=.inr ⟨H.length,[],true,by rw[Jm];rfl,rfl,by rw[Zn,List.append_nil]⟩;have hnl:∀ j∈[H.length],H.length<=j:=by simp
 generalize H++[Zf.cells (u8s s) 1 true false]=H1 at e1 k1 r1;obtain⟨H2,e2,r2,s2⟩:=ZvH (n:=n) hs s.length 0 s H1 (by omega) (by omega) rfl rfl rfl r1;have e2:Zj (c4 (Zag.l1 (R n))) [.slice (some ⟨H.length,0,none⟩) s.length s.length,.slice (some ⟨H.length,0,none⟩) s.length s.length,iv s.length,.int .i64 0] H1=_:=e2;refine⟨H2,?_,(k1.more s2 hnl).1⟩;rw[R,ZyB rfl];unfold Zag;have hl:ZB (.slice (some ⟨H.length,0,none⟩) s.length s.length) H1=some (iv s.length,H1):=rfl;rw[Za e1,Za hl,Qk e2,ZI,Yi,Za (Zku r2.rd)];rfl
theorem ZGu {i:Nat} (hi:i<=s.length):sls (strv s) (some (iv i)) none H=some (strv (s.drop i),H):=by
 have h1:(⟨s.toArray⟩:ByteArray).size=s.length:=by simp[ByteArray.size]
 have h2:(⟨s.toArray⟩:ByteArray).extract i s.length=⟨(s.drop i).toArray⟩:=by
  apply ByteArray.ext
  rw[ByteArray.data_extract];simp[List.take_of_length_le]
 have hb:∀ k:Nat,∀ d,bnd (some (iv k)) d=some k:=fun k d=>by simp[bnd]
 have hb0:∀ d,bnd none d=some d:=fun _=>rfl;unfold strv sls;simp only[h1,hb,hb0];rw[if_pos ⟨hi,Nat.le_refl _⟩,h2]
end
def Jo (c:UInt8):List UInt8->List (List UInt8)
 | []=>[[]]
 | b :: l=>if b=c then[] :: Jo c l else match Jo c l with
  | h :: t=>(b :: h) :: t
  | []=>[[b]]
theorem Zv5 {c:UInt8}:∀ {s:List UInt8},Jo c s≠[]
 | []=>by simp[Jo]
 | b :: s=>by
  unfold Jo;split
  .simp
  .split<;>simp
theorem ZuL {c:UInt8}:∀ {s:List UInt8},c∉s->Jo c s=[s]
 | [],_=>rfl
 | b :: s,h=>by
  simp only[List.mem_cons,not_or] at h;unfold Jo;rw[if_neg (Ne.symm h.1),ZuL h.2]
theorem Zoj {c:UInt8}:∀ {s:List UInt8},c∈s->Jo c s=s.takeWhile (· !=c) :: Jo c (s.drop ((s.takeWhile (· !=c)).length+1))
 | [],h=>by cases h
 | b :: s,h=>by
  rw[show Jo c (b :: s)=(if b=c then[] :: Jo c s else match Jo c s with|h :: t=>(b :: h) :: t|[]=>[[b]]) from rfl];by_cases hb:b=c
  .subst hb;rw[if_pos rfl];simp
  .rw[if_neg hb];have hm:c∈s:=by
    rcases List.mem_cons.1 h with h|h
    .exact absurd h.symm hb
    .exact h
   rw[Zoj hm];have h2:(b !=c)=true:=by simp[hb]
   simp[List.takeWhile_cons,h2]
theorem Zga {c:UInt8}:∀ {s:List UInt8},(Jo c s).length=s.count c+1
 | []=>rfl
 | b :: s=>by
  have ih:=Zga (c:=c) (s:=s);unfold Jo;by_cases hb:b=c
  .subst hb;rw[if_pos rfl,List.length_cons,ih,List.count_cons_self]
  .rw[if_neg hb,List.count_cons_of_ne (by simpa using hb)];cases h:Jo c s with
   | nil=>exact absurd h Zv5
   | cons a t=>rw[h] at ih;simpa using ih
theorem ZFD {c:UInt8}:∀ {s:List UInt8},c∈s->s.count c=(s.drop ((s.takeWhile (· !=c)).length+1)).count c+1:=by
 intro s h;have h1:=Zga (c:=c) (s:=s);rw[Zoj h,List.length_cons,Zga] at h1;omega
def ZuX (l:List UInt8):Bool:=!(l==[]) && l.all Zhz
def Zcj (f:List UInt8):List UInt8:=if 64∈f then f.drop ((f.takeWhile (· !=64)).length+1) else[]
def okM (f:List UInt8):Bool:=decide (64∈f) && (Zw (f.takeWhile (· !=64)) && (decide (2<=(Jo 46 (Zcj f)).length) && (Jo 46 (Zcj f)).all ZuX))
def Yp (s:List UInt8):Bool:=decide (s.length<=20) && okM (QO s)
section
variable {H X:Zd} {n:Nat} {s:List UInt8} {c:UInt8}
theorem ZHa {args:List Value}:run Tryz.prog np lvs (n+1) YG args=ZmQ args:=Zbp (show np YG=some ZmQ from rfl)
theorem ZGB {args:List Value}:run Tryz.prog np lvs (n+1) KE args=Zmo args:=Zbp (show np KE=some Zmo from rfl)
theorem ZzI:R (n+3) Js [strv s,strv [c]] H=some (iv (Go.Lib.indexByte s c),H):=by
 have e1:run Tryz.prog np lvs (n+2) Yf [strv s,u8v c] H=some (iv (Go.Lib.indexByte s c),H):=by
  have e0:run Tryz.prog np lvs (n+1) YG [strv s,u8v c] H=some (iv (Go.Lib.indexByte s c),H):=by rw[ZHa];exact ZIx
  rw[Ze5 rfl];unfold WC;rw[Za e0];rfl
 have q0:bop .int .eql (iv [c].length) (.int .i64 0) H=some (.bool false,H):=by rw[ZA];rfl
 have q1:bop .int .eql (iv [c].length) (.int .i64 1) H=some (.bool true,H):=by rw[ZA];rfl
 have x1:ixs (strv [c]) (.int .i64 0) H=some (u8v c,H):=Zum (s:=[c]) (i:=0) rfl .i64 H;rw[R,Zhf rfl];unfold YP;rw[Za Qg,Za q0,Z4,Zm,Za Zkm,Z5,ZY,Za Zk];simp only[cond_false];by_cases h:s=[c]
 .subst h;rw[Zb,if_pos (by simp)];unfold Go.Lib.indexByte;simp[ret]
 .rw[Zb,if_neg (by simp;exact fun e=>h e.symm),Za q1,Zb,if_pos rfl,Za x1,Za e1];rfl
theorem ZEU:R (n+4) Zbc [strv s,strv [c]] H=some (iv (Go.Lib.indexByte s c),H):=by
 have e1:run Tryz.prog np lvs (n+3) Js [strv s,strv [c]] H=_:=ZzI;rw[R,Zst rfl];unfold Zg3;rw[Za e1];rfl
theorem ZG0:R (n+2) ZcG [strv s,strv [c]] H=some (iv (s.count c),H):=by
 have e0:run Tryz.prog np lvs (n+1) KE [strv s,u8v c] H=some (iv (s.count c),H):=by rw[ZGB];exact ZI1
 have q0:bop .int .eql (iv [c].length) (.int .i64 0) H=some (.bool false,H):=by rw[ZA];rfl
 have q1:bop .int .eql (iv [c].length) (.int .i64 1) H=some (.bool true,H):=by rw[ZA];rfl
 have x1:ixs (strv [c]) (.int .i64 0) H=some (u8v c,H):=Zum (s:=[c]) (i:=0) rfl .i64 H;rw[R,ZsQ rfl];unfold ZcI;rw[Za Qg,Za q0,Zb,if_neg (by simp),Za Qg,Za q1,Zb,if_pos rfl,Za x1,Za e0];rfl
theorem ZDI {s:List UInt8} {c:UInt8} (h:c∈s):(s.takeWhile (· !=c)).length < s.length:=by
 rcases Nat.lt_or_ge (s.takeWhile (· !=c)).length s.length with h1|h1
 .exact h1
 .have h2:s.takeWhile (· !=c)=s:=by
   have:=List.takeWhile_prefix (p:=(· !=c)) (l:=s);exact this.eq_of_length (by have:=this.length_le;omega)
  have h3:=List.all_eq_true.1 (List.all_takeWhile (p:=(· !=c)) (l:=s)) c (by rw[h2];exact h);simp at h3
theorem ZA6 {s:List UInt8} {p:UInt8->Bool}:s.take (s.takeWhile p).length=s.takeWhile p:=
 (List.prefix_iff_eq_take.1 (List.takeWhile_prefix p)).symm
theorem ZJJ (hs:s.length<=1000000):R (n+5) Zbo [strv s,strv [c]] H=some (if c∈s then .tuple #[strv (s.takeWhile (· !=c)),strv (s.drop ((s.takeWhile (· !=c)).length+1)),.bool true] else .tuple #[strv s,strv [],.bool false],H):=by
 have e1:run Tryz.prog np lvs (n+3) Js [strv s,strv [c]] H=_:=ZzI;have e2:run Tryz.prog np lvs (n+4) Wn [strv s,strv [c]] H=some (if c∈s then .tuple #[strv (s.takeWhile (· !=c)),strv (s.drop ((s.takeWhile (· !=c)).length+1)),.bool true] else .tuple #[strv s,strv [],.bool false],H):=by
  rw[Zim rfl];unfold Zbt;rw[Za e1,Zg6,Za Qu,Zb];by_cases h:c∈s
  .have hl:=ZDI h;have w:IntKind.i64.wrap (((s.takeWhile (· !=c)).length:Int)+(([c]:List UInt8).length:Nat))=(((s.takeWhile (· !=c)).length+1:Nat):Int):=Je (by omega);rw[if_pos h,if_pos (by simp),Za (ZxA (by omega)),ZA6,Za Qg,Za ZG,w,Za (ZGu (by omega)),if_pos h];rfl
  .rw[if_neg h,if_neg (by decide),if_neg h];rfl
 rw[R,ZvP rfl];unfold Zjr;rw[Za e2];by_cases h:c∈s
 .rw[if_pos h];rfl
 .rw[if_neg h];rfl
theorem Zyt {v:Value} {q:List Nat} {N:Nat} (hN:N<=1000001):∀ (t i:Nat) (s:List UInt8) (cs:List (List UInt8)) (X:Zd),N - 1 - i=t->i < N->s.length<=1000000->s.count c+1+i=N->cs.length=N->Zt X v (cs.map strv) q->
  ∃ (X':Zd) (s':List UInt8) (cs':List (List UInt8)),Zj (c6 (Yq.l1 (R (n+4)))) [strv s,strv [c],iv 0,iv ((N - 1:Nat):Int),v,iv i] X=some (.ext 0 [strv s',v,iv ((N - 1:Nat):Int)],X')/\Zt X' v (cs'.map strv) q/\cs'.length=N/\cs'.take (N - 1)++[s']=cs.take i++Jo c s/\Zo q X q X'
 | 0,i,s,cs,X,ht,hi,hs,hc,hl,hr=>by
  have hi2:i=N - 1:=by omega
  subst hi2;have hcs:c∉s:=by
   intro h;have:=List.count_pos_iff.2 h;omega
  refine⟨X,s,cs,ZZ ?_,hr,hl,by rw[ZuL hcs],.refl _ _⟩;rw[YL];unfold Yq.l1;rw[Za Zs,Zb,if_neg (by simp)];rfl
 | t+1,i,s,cs,X,ht,hi,hs,hc,hl,hr=>by
  have hlt:(i:Int) < ((N - 1:Nat):Int):=by omega
  have hcs:c∈s:=List.count_pos_iff.1 (by omega);have htl:=ZDI hcs;have hct:=ZFD hcs;have e1:R (n+4) Zbc [strv s,strv [c]] X=_:=ZEU;rw[Zg6,if_pos hcs] at e1;have w0:IntKind.i64.wrap (((s.takeWhile (· !=c)).length:Int)+0)=((s.takeWhile (· !=c)).length:Int):=by rw[Int.add_zero];exact w64 (by omega) (by omega)
  have w:IntKind.i64.wrap (((s.takeWhile (· !=c)).length:Int)+(([c]:List UInt8).length:Nat))=(((s.takeWhile (· !=c)).length+1:Nat):Int):=Je (by omega);have x1:=hr.ix (i:=i) (by simp;omega) .i64 X;obtain⟨X1,x2,r1,s1,_⟩:=hr.stx (i:=i) (u:=strv (s.takeWhile (· !=c))) (by simp;omega) rfl;rw[show(cs.map strv).set i (strv (s.takeWhile (· !=c)))=(cs.set i (s.takeWhile (· !=c))).map strv from by rw[List.map_set]] at r1;obtain⟨X',s',cs',e2,r2,l2,h2,s2⟩:=Zyt hN t (i+1) (s.drop ((s.takeWhile (· !=c)).length+1)) (cs.set i (s.takeWhile (· !=c))) X1 (by omega) (by omega) (by simp;omega) (by omega) (by simpa using hl) r1;refine⟨X',s',cs',(ZJ ?_).trans e2,r2,l2,?_,s1.trans s2⟩
  .have q1:bop .int .lss (iv ((s.takeWhile (· !=c)).length:Nat)) (.int .i64 0) X=some (.bool false,X):=by rw[Zs,decide_eq_false (by omega)]
   rw[YL];unfold Yq.l1;rw[Za Zs,Zb,if_pos (by simpa using hlt),Za e1,Za q1,Zb,if_neg (by simp),Za ZG,w0,Za (ZxA (by omega)),ZA6,Za x1,Za x2,Za Qg,Za ZG,w,Za (ZGu (by omega)),Za ZG,Je (by omega)];rfl
  .have h5:i < (cs.set i (s.takeWhile (· !=c))).length:=by simp;omega
   rw[h2,Zoj hcs,List.take_succ_eq_append_getElem h5,List.take_set_of_le (Nat.le_refl _)];simp
theorem ZHw (hs:s.length<=1000000):∃ X' v q,R (n+6) ZcH [strv s,strv [c]] X=some (v,X')/\Zt X' v ((Jo c s).map strv) q/\HLe X X':=by
 have hcl:s.count c<=s.length:=List.count_le_length;have e0:run Tryz.prog np lvs (n+4) ZcG [strv s,strv [c]] X=_:=ZG0 (n:=n+2);have w1:IntKind.i64.wrap ((s.count c:Int)+1)=((s.count c+1:Nat):Int):=Je (by omega);have w2:IntKind.i64.wrap ((s.length:Int)+1)=((s.length+1:Nat):Int):=Je (by omega);have q0:bop .int .eql (.int .i64 (-1)) (.int .i64 0) X=some (.bool false,X):=by rw[ZA];rfl
 have q1:bop .str .eql (strv [c]) (.string ⟨#[]⟩) X=some (.bool false,X):=Zkm (b:=[]);have q2:bop .int .lss (.int .i64 (-1)) (.int .i64 0) X=some (.bool true,X):=by rw[Zs];rfl
 have hm:mxi false (iv ((s.count c+1:Nat):Int)) (iv ((s.length+1:Nat):Int)) X=some (iv ((s.count c+1:Nat):Int),X):=by rw[YO,if_neg (by omega)]
 have e1:=ZJN (k:=s.count c+1) (b:=16) (z:=.string ⟨#[]⟩) (H:=X) rfl (by omega) (by omega);have k1:HLe X (X++[.cells (List.replicate (s.count c+1) (Value.string ⟨#[]⟩)) 1 false false]):=.app _ _;have r1:Zt (X++[.cells (List.replicate (s.count c+1) (Value.string ⟨#[]⟩)) 1 false false]) (.slice (some ⟨X.length,0,none⟩) (s.count c+1) (s.count c+1)) ((List.replicate (s.count c+1) ([]:List UInt8)).map strv) [X.length]:=by
  rw[List.map_replicate];exact Zt.new Zn
 have ho:∀ j∈[X.length],X.length<=j:=by simp
 generalize X++[Zf.cells (List.replicate (s.count c+1) (Value.string ⟨#[]⟩)) 1 false false]=X1 at e1 k1 r1;generalize hv:Value.slice (some ⟨X.length,0,none⟩) (s.count c+1) (s.count c+1)=v at e1 r1;have w3:IntKind.i64.wrap (((s.count c+1:Nat):Int) - 1)=((s.count c+1 - 1:Nat):Int):=ZCW (by omega) (by omega);obtain⟨X2,s',cs',e2,r2,l2,h2,s2⟩:=Zyt (n:=n) (c:=c) (N:=s.count c+1) (by omega) (s.count c+1 - 1 - 0) 0 s _ X1 rfl (by omega) hs (by omega) (by simp) r1;have e2:Zj (c6 (Yq.l1 (R (n+4)))) [strv s,strv [c],.int .i64 0,iv ((s.count c+1 - 1:Nat):Int),v,.int .i64 0] X1=_:=e2;have x1:=r2.ix (i:=s.count c+1 - 1) (by simp;omega) .i64 X2;obtain⟨X3,x2,r3,s3,_⟩:=r2.stx (i:=s.count c+1 - 1) (u:=strv s') (by simp;omega) rfl;have hfin:(cs'.set (s.count c+1 - 1) s')=Jo c s:=by
  have h6:s.count c+1 - 1 < cs'.length:=by omega
  rw[<- List.take_append_drop (s.count c+1 - 1) (cs'.set (s.count c+1 - 1) s'),List.take_set_of_le (Nat.le_refl _),List.drop_set];rw[if_neg (by omega),Nat.sub_self];have hd:(cs'.drop (s.count c+1 - 1)).length=1:=by simp;omega
  obtain⟨a,ha⟩:=List.length_eq_one_iff.1 hd;rw[ha,List.set_cons_zero,h2];rfl
 rw[show(cs'.map strv).set (s.count c+1 - 1) (strv s')=(cs'.set (s.count c+1 - 1) s').map strv from by rw[List.map_set],hfin] at r3;have hlen:((Jo c s).map strv).length=s.count c+1:=by rw[List.length_map,Zga]
 have x3:∃ v',slv 1 v none (some (iv ((s.count c+1:Nat):Int))) none X3=some (v',X3)/\Zt X3 v' ((Jo c s).map strv) [X.length]:=by
  rcases r3 with⟨h,_,_⟩|⟨sid,rest,g,h1,h3,h4⟩
  .rw[h] at hlen;simp at hlen
  .rw[hlen] at h1;refine⟨.slice (some ⟨sid,0,none⟩) (s.count c+1) (s.count c+1+rest.length),?_,.inr ⟨sid,rest,g,by rw[hlen],h3,h4⟩⟩;have b1:bnd (some (iv ((s.count c+1:Nat):Int))) (s.count c+1)=some (s.count c+1):=by simp[bnd];omega
   have b2:∀ d,bnd none d=some d:=fun _=>rfl;rw[h1];simp only[slv,h4,b1,b2];rw[if_pos ⟨trivial,by omega,by omega,Nat.le_refl _⟩,if_neg (by omega)];simp
 obtain⟨v',x3,r4⟩:=x3;have w4:IntKind.i64.wrap (((s.count c+1 - 1:Nat):Int)+1)=((s.count c+1:Nat):Int):=by rw[Je (by omega)];congr 1
 have e3:run Tryz.prog np lvs (n+5) Zcw [strv s,strv [c],.int .i64 0,.int .i64 (-1)] X=some (v',X3):=by
  rw[Znl rfl];unfold Yq;rw[Za q0,Zb,if_neg (by simp),Za q1,Zb,if_neg (by simp),Za q2];refine(ZC (vs:=[strv s,strv [c],.int .i64 0,iv ((s.count c+1:Nat):Int)]) (H':=X) ?_).trans ?_
  .rw[Zb,if_pos rfl,Za e0,Za ZG,w1];rfl
  .rw[ZL,Za Qg,Za ZG,w2,Za hm,Za e1,Za QZ,w3];refine(ZC (vs:=[strv s',v,iv ((s.count c+1 - 1:Nat):Int)]) (H':=X2) ?_).trans ?_
   .rw[Qk e2,ZI,ZY];rfl
   .rw[ZY,Za x1,Za x2,Za ZG,w4,Za x3];rfl
 refine⟨X3,v',[X.length],?_,r4,(k1.more (s2.trans s3) ho).1⟩;rw[R,ZsP rfl];unfold Zg1;rw[Za e3];rfl
end
section
variable {H X:Zd} {n:Nat} {s f:List UInt8} {c:UInt8}
theorem ZGI {b:UInt8}:R (n+2) ZeS [u8v b] H=some (.bool (Zhz b),H):=by
 have e1:run Tryz.prog np lvs (n+1) Ko [u8v b] H=some (.bool (Za9 b),H):=Zmt;have e2:run Tryz.prog np lvs (n+1) KW [u8v b] H=some (.bool (ZdZ b),H):=Zp7;rw[R,Zxa rfl];unfold Zhz Zle;rw[Za e1];cases Za9 b
 .rw[Z4,Zm,Za e2,Z5,ZT,Za Zk];rfl
 .rw[Za (g_r.trans (if_neg (by simp)))];simp only[List.replicate];rw[ZT,Za Zk];rfl
theorem ZC4 (hs:s.length<=1000000000):R (n+3) KN [strv s,.func (.func ZeS) #[] #[]] H=some (.bool (s.all Zhz),H):=
 ZB4 (fun b H=>by rw[ZyG];exact ZGI) hs
theorem ZEH {v:Value} {q:List Nat} {ls:List (List UInt8)} (hl:ls.length<=1000) (hb:∀ l∈ls,l.length<=1000000) (hr:Zt X v (ls.map strv) q):∀ (t k:Nat),ls.length - k=t->k<=ls.length->
  Zj (c4 (K0.l1 (R (n+3)))) [strv f,v,iv ls.length,iv k] X=some (if(ls.drop k).all ZuX then .ext 0 [strv f] else .ret (.tuple #[strv [],iv 11]),X)
 | 0,k,ht,hk=>by
  have:k=ls.length:=by omega
  subst this;rw[List.drop_length];refine ZZ ?_;rw[ZL];unfold K0.l1;rw[Za Zs,Zb,if_neg (by simp)];rfl
 | t+1,k,ht,hk=>by
  have hkl:k < ls.length:=by omega
  have hlt:(k:Int) < ls.length:=by omega
  have hg:=List.getElem?_eq_getElem hkl;have hm:=List.getElem_mem hkl;have hd:=List.drop_eq_getElem_cons hkl;generalize ls[k]=l at hg hd hm;have x1:=hr.ix (i:=k) (by simpa using hkl) .i64 X;have x2:=hr.ldx (Wr hg);have e1:R (n+3) KN [strv l,.func (.func ZeS) #[] #[]] X=some (.bool (l.all Zhz),X):=ZC4 (Nat.le_trans (hb l hm) (by decide));have ih:=ZEH hl hb hr t (k+1) (by omega) (by omega);have q1:bop .str .eql (strv l) (.string ⟨#[]⟩) X=some (.bool (l==[]),X):=Zkm (b:=[]);have hb1:c4 (K0.l1 (R (n+3))) [strv f,v,iv ls.length,iv k] X=some (if ZuX l then .nrm [strv f,v,iv ls.length,iv ((k+1:Nat):Int)] else .ret (.tuple #[strv [],iv 11]),X):=by
   rw[ZL];unfold K0.l1 ZuX;rw[Za Zs,Zb,if_pos (by simpa using hlt),Za x1,Za x2,Za q1];cases l==[]
   .rw[Z4,Zm,Za e1,Zm,Za ZP,Z5,ZY,Za Zk];simp only[cond_false];cases l.all Zhz
    .rw[Zb,if_pos (by rfl)];rfl
    .rw[Zb,if_neg (by simp),Za ZG,Je (by omega)];rfl
   .rw[Za (g_r.trans (if_neg (by simp)))];simp only[List.replicate];rw[ZY,Za Zk];simp only[cond_true];rw[Zb,if_pos rfl];rfl
  rw[hd,List.all_cons];cases hlb:ZuX l
  .rw[hlb] at hb1;exact Yu hb1
  .rw[hlb] at hb1;rw[Bool.true_and];exact(ZJ hb1).trans ih
theorem Zhv {c:UInt8}:∀ {s:List UInt8},∀ l∈Jo c s,l.length<=s.length
 | [],l,h=>by simp[Jo] at h;simp[h]
 | b :: s,l,h=>by
  rw[show Jo c (b :: s)=(if b=c then[] :: Jo c s else match Jo c s with|h :: t=>(b :: h) :: t|[]=>[[b]]) from rfl] at h;split at h
  .rcases List.mem_cons.1 h with rfl|h
   .simp
   .have:=Zhv l h;simp;omega
  .cases hsp:Jo c s with
   | nil=>exact absurd hsp Zv5
   | cons a t=>
    rw[hsp] at h;rcases List.mem_cons.1 h with rfl|h
    .have:=Zhv (c:=c) (s:=s) a (by rw[hsp];simp);simpa using this
    .have:=Zhv (c:=c) (s:=s) l (by rw[hsp];simp[h]);simp;omega
theorem ZwA:(QO s).length=s.length:=by simp[QO]
theorem Zus:∃ X',R (n+8) ZaS [strv s] X=some (.tuple #[strv (if Yp s then QO s else[]),iv (if Yp s then 0 else 11)],X')/\HLe X X':=by
 have f1:∀ r X',K0 (R (n+7)) (strv s) X=some (r,X')->R (n+8) ZaS [strv s] X=some (r,X'):=fun r X' hr=>by rw[R,Zzg rfl];exact hr
 unfold Yp;by_cases h20:s.length<=20
 .have q1:bop .int .gtr (iv s.length) (.int .i64 20) X=some (.bool false,X):=by rw[Z0,decide_eq_false (by omega)]
  obtain⟨X1,e1,k1⟩:=ZJa (n:=n+6) (s:=s) (H:=X) (by omega);have e1:R (n+7) Zgp [strv s] X=_:=e1;have hfl:(QO s).length<=20:=by rw[ZwA];exact h20
  generalize QO s=f at e1 hfl;have e2:R (n+7) Zbo [strv f,strv [64]] X1=_:=ZJJ (n:=n+2) (c:=64) (by omega);obtain⟨loc,e2'⟩:∃ loc:List UInt8,R (n+7) Zbo [strv f,strv [64]] X1=some (.tuple #[strv loc,strv (Zcj f),.bool (decide (64∈f))],X1)/\(64∈f->loc=f.takeWhile (· !=64)):=by
   unfold Zcj;by_cases h:64∈f
   .rw[if_pos h] at e2;exact⟨_,by rw[e2,if_pos h,decide_eq_true h],fun _=>rfl⟩
   .rw[if_neg h] at e2;exact⟨_,by rw[e2,if_neg h,decide_eq_false h],fun h2=>absurd h2 h⟩
  obtain⟨e2',hloc⟩:=e2';have hdl:(Zcj f).length<=20:=by unfold Zcj;split<;>simp;omega
  obtain⟨X2,v,q,e3,r3,k3⟩:=ZHw (n:=n+1) (c:=46) (s:=Zcj f) (X:=X1) (by omega);have e3:R (n+7) ZcH [strv (Zcj f),.string ⟨#[46]⟩] X1=_:=e3;have e2'':R (n+7) Zbo [strv f,.string ⟨#[64]⟩] X1=_:=e2';have hcl:(Zcj f).count 46<=(Zcj f).length:=List.count_le_length;have hsl:=Zga (c:=46) (s:=Zcj f);have hl:ZB v X2=some (iv (Jo 46 (Zcj f)).length,X2):=by have:=r3.rd.len (H':=X2);rwa [List.length_map] at this
  have e4:R (n+7) Zbr [strv loc] X2=some (.bool (Zw loc),X2):=Zwq (n:=n+3);have e5:=ZEH (n:=n+4) (f:=f) (ls:=Jo 46 (Zcj f)) (by omega) (fun l h=>Nat.le_trans (Zhv l h) (by omega)) r3 (Jo 46 (Zcj f)).length 0 (by omega) (by omega);rw[List.drop_zero] at e5;have e5:Zj (c4 (K0.l1 (R (n+7)))) [strv f,v,iv (Jo 46 (Zcj f)).length,.int .i64 0] X2=_:=e5;refine⟨X2,f1 _ _ ?_,k1.trans k3⟩;unfold K0;rw[Za Qg,Za q1,Zb,if_neg (by simp),Za e1,Za e2''];have t0:Zu (.tuple #[strv loc,strv (Zcj f),.bool (decide (64∈f))]) 0 X1=some (strv loc,X1):=rfl;have t1:Zu (.tuple #[strv loc,strv (Zcj f),.bool (decide (64∈f))]) 1 X1=some (strv (Zcj f),X1):=rfl;have t2:Zu (.tuple #[strv loc,strv (Zcj f),.bool (decide (64∈f))]) 2 X1=some (.bool (decide (64∈f)),X1):=rfl;rw[Za t0,Za t1,Za t2,Za e3,Za ZP];unfold okM;rw[decide_eq_true h20];by_cases h:64∈f
  .rw[decide_eq_true h,<- hloc h];simp only[Bool.not_true,Bool.true_and];rw[Z4,Zm,Za e4,Zm,Za ZP,Z5,ZY,Za Zk];simp only[cond_false];cases Zw loc
   .simp only[Bool.not_false,Bool.false_and];rw[Za (g_r.trans (if_neg (by simp)))];simp only[List.replicate];rw[ZY,Za Zk];simp only[cond_true];rw[Zb,if_pos rfl];rfl
   .simp only[Bool.not_true,Bool.true_and];rw[Z4,Zm,Za hl,Zm,Za Zs,Z5,ZY,Za Zk];simp only[cond_false];by_cases h2:2<=(Jo 46 (Zcj f)).length
    .rw[decide_eq_false (by omega),Zb,if_neg (by simp),Za hl,decide_eq_true h2,Bool.true_and];cases ha:(Jo 46 (Zcj f)).all ZuX
     .rw[ha] at e5;rw[KG e5];rfl
     .rw[ha] at e5;rw[Qk e5,ZI];rfl
    .rw[decide_eq_true (by omega),Zb,if_pos rfl,decide_eq_false h2];rfl
  .rw[decide_eq_false h];simp only[Bool.not_false,Bool.false_and,Bool.and_false];rw[Za (g_r.trans (if_neg (by simp)))];simp only[List.replicate];rw[ZY,Za Zk];simp only[cond_true];rw[Za (g_r.trans (if_neg (by simp)))];simp only[List.replicate];rw[ZY,Za Zk];simp only[cond_true];rw[Zb,if_pos rfl];rfl
 .have q1:bop .int .gtr (iv s.length) (.int .i64 20) X=some (.bool true,X):=by rw[Z0,decide_eq_true (by omega)]
  refine⟨X,f1 _ _ ?_,.refl _⟩;unfold K0;rw[Za Qg,Za q1,Zb,if_pos rfl,decide_eq_false h20];rfl
end
structure Zay {α:Type} (enc:α->Value) (H:Zd) (id:Nat) (m:List (List UInt8 × α)):Prop where
 ex:∃ es clk,es.map kv=m.map (fun p=>(strv p.1,enc p.2))/\H[id]?=some (.map es clk)/\Zdd es clk
 nod:(m.map (·.1)).Nodup
section
variable {α:Type} {enc:α->Value} {H H':Zd} {id:Nat} {m:List (List UInt8 × α)} {k:List UInt8} {v:α} {z:Value}
theorem Zay.g (h:Zay enc H id m):JL enc H id m:=by
 obtain⟨es,clk,h1,h2,h3⟩:=h.ex;exact⟨⟨es,h1,.inl ⟨clk,h2,h3⟩⟩,h.nod⟩
theorem Zay.lt (h:Zay enc H id m):id < H.length:=h.g.lt
theorem Zay.keep (h:Zay enc H id m) (hk:H'[id]?=H[id]?):Zay enc H' id m:=by
 obtain⟨es,clk,h1,h2,h3⟩:=h.ex;exact⟨⟨es,clk,h1,by rw[hk];exact h2,h3⟩,h.nod⟩
theorem Zay.hle (h:Zay enc H id m) (hl:HLe H H'):Zay enc H' id m:=h.keep (hl.step.keep id h.lt (by simp))
theorem Zay.step {o1 o2:List Nat} (h:Zay enc H id m) (hs:Zo o1 H o2 H') (hn:id∉o1):Zay enc H' id m:=h.keep (hs.keep id h.lt hn)
theorem ZGp (H:Zd):∃ H',mkm H=some (.map (some H.length),H')/\Zay enc H' H.length ([]:List (List UInt8 × α))/\HLe H H'/\H'.length=H.length+1:=
 ⟨_,rfl,⟨⟨[],0,rfl,Zn,⟨by simp,by simp⟩⟩,by simp⟩,.app _ _,by simp⟩
theorem Zay.clone (h:Zay enc H id m):∃ H',ZbU [.map (some id)] H=some (.map (some H.length),H')/\Zay enc H' H.length m/\HLe H H'/\H'.length=H.length+1:=by
 obtain⟨es,clk,h1,h2,h3⟩:=h.ex;exact⟨_,by unfold ZbU;simp only[h2],⟨⟨es,clk,h1,Zn,h3⟩,h.nod⟩,.app _ _,by simp⟩
theorem Zay.mde (h:Zay enc H id m):∃ H',A.mde .str (.map (some id)) (strv k) H=some (.tuple #[],H')/\Zay enc H' id (Yx k m)/\Zo [id] H [id] H'/\H'.length=H.length:=by
 obtain⟨es,clk,h1,h2,hs⟩:=h.ex;have hst:∀ o,Zo [id] H [id] (H.set id o):=fun o=>⟨by simp,fun j hj hn=>List.getElem?_set_ne (fun e=>hn (by simp[e])),fun j hj=>.inl hj⟩;have hnod:=Ztn (k:=k) h.nod;rcases Zje (k:=k) 0 h1 with⟨h3,h4⟩|⟨j,v0,h3,h4,h5⟩
 .refine⟨H,?_,by rw[Zv7 h3];exact h,.refl _ _,rfl⟩;unfold A.mde;simp only[h2,Zbe,cond_true,h4]
 .have ha:Yx k m=m.eraseIdx j:=(Zgf h.nod h3).symm;rw[ha] at hnod ⊢;rw[Nat.zero_add] at h5;have hm:(es.eraseIdx j).map kv=(m.eraseIdx j).map fun p=>(strv p.1,enc p.2):=by
   have hg:∀ {β γ:Type} (f:β->γ) (l:List β) (j:Nat),(l.eraseIdx j).map f=(l.map f).eraseIdx j:=fun f l j=>by
    rw[List.eraseIdx_eq_take_drop_succ,List.eraseIdx_eq_take_drop_succ,List.map_append,List.map_take,List.map_drop]
   rw[hg,hg,h1]
  refine⟨H.set id (.map (es.eraseIdx j) clk),?_,⟨⟨_,clk,hm,ZW h2,⟨fun e he=>hs.lt e ((List.eraseIdx_sublist es j).subset he),((List.eraseIdx_sublist es j).map _).nodup hs.nod⟩⟩,hnod⟩,hst _,by simp⟩;unfold A.mde;simp only[h2,Zbe,cond_true,h5]
theorem Zm8 {es:List (Value × Value × Nat)} {j:Nat} {e:Value × Value × Nat} (hn:(es.map (·.2.2)).Nodup) (hj:es[j]?=some e):es.findIdx? (fun x=>(x.2.2:Int)==(e.2.2:Nat))=some j:=by
 rw[List.findIdx?_eq_some_iff_getElem];have hlt:=(List.getElem?_eq_some_iff.1 hj).1;have he:=(List.getElem?_eq_some_iff.1 hj).2;refine⟨hlt,by rw[he];simp,fun i hi=>?_⟩;have hil:i < es.length:=by omega
 simp only[Bool.not_eq_true,beq_eq_false_iff_ne,ne_eq];intro h;have h2:es[i].2.2=e.2.2:=by omega
 have hp:=List.pairwise_iff_getElem.1 (List.nodup_iff_pairwise_ne.1 hn) i j (by simpa using hil) (by simpa using hlt) hi;rw[List.getElem_map,List.getElem_map,he] at hp;exact hp h2
theorem Zay.put (h:Zay enc H id m):∃ t st H1 H2,men .str z (.map (some id)) (strv k) H=some (t,H1)/\Zu t 1 H1=some (st,H1)/\ens (.map (some id)) st (enc v) H1=some (undef,H2)/\Zay enc H2 id (Qw k v m)/\Zo [id] H [id] H1/\Zo [id] H [id] H2/\H2.length=H.length:=by
 obtain⟨es,clk,h1,h2,hs⟩:=h.ex;have hst:∀ o,Zo [id] H [id] (H.set id o):=fun o=>⟨by simp,fun j hj hn=>List.getElem?_set_ne (fun e=>hn (by simp[e])),fun j hj=>.inl hj⟩;have hst2:∀ o o',Zo [id] H [id] ((H.set id o).set id o'):=fun o o'=>⟨by simp,fun j hj hn=>by rw[List.getElem?_set_ne (fun e=>hn (by simp[e])),List.getElem?_set_ne (fun e=>hn (by simp[e]))],fun j hj=>.inl hj⟩;have hnod:=ZsX (k:=k) (v:=v) h.nod;rcases Zje (k:=k) 0 h1 with⟨h3,h4⟩|⟨j,v0,h3,h4,h5⟩
 .have ha:Qw k v m=m++[(k,v)]:=by unfold Qw;rw[h3];rfl
  rw[ha] at hnod ⊢;have hS:Zdd (es++[(strv k,z,clk)]) (clk+1):=⟨fun e he=>by
   rcases List.mem_append.1 he with he|he
   .have:=hs.lt e he;omega
   .have:e=(strv k,z,clk):=by simpa using he
    rw[this];exact Nat.lt_succ_self _,by
   rw[List.map_append,List.nodup_append];refine⟨hs.nod,by simp,fun a ha b hb=>?_⟩;have hb:b=clk:=by simpa using hb
   obtain⟨e,he,rfl⟩:=List.mem_map.1 ha;have:=hs.lt e he;omega⟩
  have hlen:es.length=m.length:=by have:=congrArg List.length h1;simpa using this
  have hget:(es++[(strv k,z,clk)])[es.length]?=some (strv k,z,clk):=by simp
  have hfi:=Zm8 hS.nod hget;have hgk:((es++[(strv k,z,clk)]).map kv)[es.length]?=some (strv k,z):=by rw[List.getElem?_map,hget];rfl
  refine⟨.tuple #[z,.int .i64 (clk:Nat)],.int .i64 (clk:Nat),H.set id (.map (es++[(strv k,z,clk)]) (clk+1)),(H.set id (.map (es++[(strv k,z,clk)]) (clk+1))).set id (.map (Kd (es++[(strv k,z,clk)]) es.length (enc v)) (clk+1)),?_,rfl,?_,⟨⟨_,clk+1,?_,ZW (ZW h2),Zp5 hS⟩,hnod⟩,hst _,hst2 _ _,by simp⟩
  .unfold men;simp only[h2,Zbe,cond_true,h4]
  .unfold ens;simp only[ZW h2,hfi]
  .rw[Zl8 hgk,List.map_append,h1,List.map_append];have:es.length=(m.map fun p=>(strv p.1,enc p.2)).length:=by rw[List.length_map,hlen]
   rw[this];simp[kv]
 .have ha:Qw k v m=m.set j (k,v):=by unfold Qw;rw[h4];exact(ZmE h.nod h3).symm
  rw[ha] at hnod ⊢;rw[Nat.zero_add] at h5;have hget:(es.map kv)[j]?=some (strv k,enc v0):=by rw[h1,List.getElem?_map,h3];rfl
  obtain⟨e,he,hek⟩:∃ e,es[j]?=some e/\kv e=(strv k,enc v0):=by
   rw[List.getElem?_map] at hget;cases hh:es[j]? with
   | none=>rw[hh] at hget;cases hget
   | some e=>rw[hh] at hget;exact⟨e,rfl,by simpa using hget⟩
  have hfi:=Zm8 hs.nod he;have hgd:(es.getD j (undef,undef,0)).2.2=e.2.2:=by rw[List.getD_eq_getElem?_getD,he];rfl
  refine⟨.tuple #[enc v0,.int .i64 (e.2.2:Nat)],.int .i64 (e.2.2:Nat),H,H.set id (.map (Kd es j (enc v)) clk),?_,rfl,?_,⟨⟨_,clk,?_,ZW h2,Zp5 hs⟩,hnod⟩,.refl _ _,hst _,by simp⟩
  .unfold men;simp only[h2,Zbe,cond_true,h5,hgd]
  .unfold ens;simp only[h2,hfi]
  .rw[Zl8 hget,h1,List.map_set]
end
structure Inv (OW OF:QH):Prop where
 inv:∀ k v,Ze k OF=some v↔Ze v OW=some k
 same:OW.length=OF.length
 lens:∀ p∈OF,p.1≠[]/\p.1.length<=12/\p.2≠[]/\p.2.length<=20
def ZbG (k:List UInt8) (OW OF:QH):QH:=match Ze k OF with
 | some m=>Yx m OW
 | none=>OW
def Ws (k:List UInt8) (OF:QH):QH:=match Ze k OF with
 | some _=>Yx k OF
 | none=>OF
section
variable {OW OF:QH} {k f:List UInt8}
theorem Inv.drop (h:Inv OW OF) (n1:(OW.map (·.1)).Nodup) (n2:(OF.map (·.1)).Nodup):Inv (ZbG k OW OF) (Ws k OF):=by
 unfold ZbG Ws;cases hk:Ze k OF with
 | none=>exact h
 | some m=>
  have hm:=(h.inv k m).1 hk;refine⟨fun j v=>?_,?_,fun p hp=>h.lens p (List.mem_filter.1 hp).1⟩
  .by_cases hj:j=k
   .subst hj;rw[Za6];constructor
    .intro e;cases e
    .intro e;by_cases hv:v=m
     .subst hv;rw[Za6] at e;cases e
     .rw[JM hv,<- h.inv] at e;rw[hk] at e;exact absurd (Option.some.inj e).symm hv
   .rw[JM hj];by_cases hv:v=m
    .subst hv;rw[Za6,h.inv,hm];constructor
     .intro e;exact absurd (Option.some.inj e).symm hj
     .intro e;cases e
    .rw[JM hv,h.inv]
  .rw[ZsR n1 (by rw[hm];rfl),ZsR n2 (by rw[hk];rfl),h.same]
theorem Inv.put (h:Inv OW OF) (h1:Ze f OW=none) (h2:Ze k OF=none) (hk:k≠[]/\k.length<=12) (hf:f≠[]/\f.length<=20):Inv (Qw f k OW) (Qw k f OF):=by
 refine⟨fun j v=>?_,?_,fun p hp=>?_⟩
 .by_cases hj:j=k
  .subst hj;rw[WL];by_cases hv:v=f
   .subst hv;rw[WL];simp
   .rw[Kt hv,<- h.inv,h2];constructor
    .intro e;exact absurd (Option.some.inj e).symm hv
    .intro e;cases e
  .rw[Kt hj];by_cases hv:v=f
   .subst hv;rw[WL,h.inv,h1];constructor
    .intro e;cases e
    .intro e;exact absurd (Option.some.inj e).symm hj
   .rw[Kt hv,h.inv]
 .rw[ZdF,ZdF,h1,h2,h.same]
 .unfold Qw at hp;rw[h2] at hp;simp only[Option.isSome_none,Bool.false_eq_true,if_false,List.mem_append,List.mem_singleton] at hp;rcases hp with hp|rfl
  .exact h.lens p hp
  .exact⟨hk.1,hk.2,hf.1,hf.2⟩
theorem Zel:Ze k (Ws k OF)=none:=by
 unfold Ws;cases hk:Ze k OF with
 | none=>exact hk
 | some m=>exact Za6
theorem Ztu (h:Inv OW OF) (hf:∀ w,Ze f OW=some w->w=k):Ze f (ZbG k OW OF)=none:=by
 unfold ZbG;cases hk:Ze k OF with
 | none=>
  cases ho:Ze f OW with
  | none=>rfl
  | some w=>
   have:=hf w ho;subst this;rw[<- h.inv,hk] at ho;cases ho
 | some m=>
  by_cases hm:f=m
  .subst hm;exact Za6
  .simp only;rw[JM hm];cases ho:Ze f OW with
   | none=>rfl
   | some w=>
    have:=hf w ho;subst this;rw[<- h.inv,hk] at ho;exact absurd (Option.some.inj ho).symm hm
theorem ZgW {j:List UInt8} (hj:j≠k):Ze j (Ws k OF)=Ze j OF:=by
 unfold Ws;cases hk:Ze k OF with
 | none=>rfl
 | some m=>exact JM hj
def Kj (k m:List UInt8) (OW:QH):Int:=
 if Zw k then(if m=[] then 0 else if Yp m then(match Ze (QO m) OW with
  | some w=>if w=k then 0 else 9
  | none=>0) else 11) else 10
def ZmH (k m:List UInt8) (OW OF:QH):QH:=if Kj k m OW=0 then(if m=[] then ZbG k OW OF else Qw (QO m) k (ZbG k OW OF)) else OW
def ZdJ (k m:List UInt8) (OW OF:QH):QH:=if Kj k m OW=0 then(if m=[] then Ws k OF else Qw k (QO m) (Ws k OF)) else OF
def Zej (old next:List UInt8) (OF:QH):Int:=
 if Zw next then(match Ze old OF with
  | some _=>if(Ze next OF).isSome && !(next==old) then 9 else 0
  | none=>8) else 10
def ZrM (old next:List UInt8) (OW OF:QH):QH:=if Zej old next OF=0 then Qw ((Ze old OF).getD []) next (ZbG old OW OF) else OW
def ZjL (old next:List UInt8) (OF:QH):QH:=if Zej old next OF=0 then Qw next ((Ze old OF).getD []) (Ws old OF) else OF
theorem ZA5 (h:Zw k=true):k≠[]/\k.length<=12:=by
 refine⟨?_,Ky h⟩
 rintro rfl
 revert h;decide
theorem ZlQ {m:List UInt8} (h:Yp m=true):QO m≠[]/\(QO m).length<=20:=by
 unfold Yp at h;simp only[Bool.and_eq_true,decide_eq_true_eq] at h;refine⟨fun e=>?_,by rw[ZwA];exact h.1⟩;have h2:=h.2;rw[e] at h2;revert h2;decide
end
structure Idx (X:Zd) (x o a:Nat) (OW OF:QH):Prop where
 c:X[x]?=some (.cells [.map (some o),.map (some a)] 1 false false)
 ow:Zay strv X o OW
 of:Zay strv X a OF
 ne:o≠a
 inv:Inv OW OF
section
variable {X X':Zd} {n x o a:Nat} {OW OF:QH} {k m:List UInt8}
theorem Idx.not (h:Idx X x o a OW OF):x≠o/\x≠a:=by
 constructor
 .rintro rfl
  obtain⟨es,clk,_,h2,_⟩:=h.ow.ex;rw[h.c] at h2;cases h2
 .rintro rfl
  obtain⟨es,clk,_,h2,_⟩:=h.of.ex;rw[h.c] at h2;cases h2
theorem Idx.hle (h:Idx X x o a OW OF) (hl:HLe X X'):Idx X' x o a OW OF:=⟨hl _ _ h.c,h.ow.hle hl,h.of.hle hl,h.ne,h.inv⟩
theorem Idx.lt (h:Idx X x o a OW OF):x < X.length/\o < X.length/\a < X.length:=⟨ZX h.c,h.ow.lt,h.of.lt⟩
theorem Idx.step {o1 o2:List Nat} (h:Idx X x o a OW OF) (hs:Zo o1 X o2 X') (h1:x∉o1) (h2:o∉o1) (h3:a∉o1):Idx X' x o a OW OF:=
 ⟨hs.get h.c h1,h.ow.step hs h2,h.of.step hs h3,h.ne,h.inv⟩
theorem Idx.l0 (h:Idx X x o a OW OF):ld1 (pa x 0) X=some (.map (some o),X):=Zy h.c rfl
theorem Idx.l1 (h:Idx X x o a OW OF):ld1 (pa x 1) X=some (.map (some a),X):=Zy h.c rfl
theorem Zu4 {id:Nat} {mm:QH} (h:JL strv X id mm):lkp .str (.string ⟨#[]⟩) true (.map (some id)) (strv k) X=some (.tuple #[strv ((Ze k mm).getD []),.bool (Ze k mm).isSome],X):=by
 rw[h.lkp];cases Ze k mm<;>rfl
theorem Zo.mono2 {o1 o2:List Nat} (h:Zo o1 X o1 X') (hs:∀ j∈o1,j∈o2):Zo o2 X o2 X':=h.more hs (fun j hj=>.inl hj)
theorem ZIv:∃ X' x o a,R (n+1) Zkr [] X=some (pt x,X')/\Idx X' x o a [] []/\HLe X X'/\X.length<=x/\X.length<=o/\X.length<=a:=by
 obtain⟨X1,e1,g1,l1,n1⟩:=ZGp (α:=List UInt8) (enc:=strv) X;obtain⟨X2,e2,g2,l2,n2⟩:=ZGp (α:=List UInt8) (enc:=strv) X1;have e3:bld (.agg #[.map none,.map none]) [(0,1,.map (some X.length)),(1,1,.map (some X1.length))] X2=some (.agg #[.map (some X.length),.map (some X1.length)],X2):=by simp[↓Qe,Qd,↓QF,Qn,Qq,Qr,↓Zb,Yc,Zg,YA,Qs,JK,QB,JJ,Jx,QV,JR,QW,QU,Q8,Q9,Qx,Zk,ZP,Kf,YO,Ju,QS,JU,ZG,QZ,JZ,Yg,J8,ZA,Zl,Zs,JB,Z0,Qu,JS,JX,Jc,J0,↓Kq,Ye,↓g_r,Kz,YR,Zaj,splice,Value.cells]
 have e4:alc 1 (.agg #[.map (some X.length),.map (some X1.length)]) X2=some (pt X2.length,X2++[.cells [.map (some X.length),.map (some X1.length)] 1 false false]):=by
  rw[QU];simp[Value.cells,oneCell]
 refine⟨X2++[.cells [.map (some X.length),.map (some X1.length)] 1 false false],X2.length,X.length,X1.length,?_,⟨Zn,(g1.hle l2).hle (.app _ _),g2.hle (.app _ _),by omega,⟨fun k v=>by simp[Ze],rfl,by simp⟩⟩,(l1.trans l2).trans (.app _ _),by omega,Nat.le_refl _,by omega⟩;rw[R,ZAd rfl];unfold Zok;rw[Za e1,Za e2,Za e3,Za e4];rfl
theorem ZpX (h:Idx X x o a OW OF):∃ X',R (n+1) JI [pt x,strv k] X=some (.bool (Ze k OF).isSome,X')/\Idx X' x o a (ZbG k OW OF) (Ws k OF)/\Zo [o,a] X [o,a] X':=by
 have e1:=Zu4 (k:=k) h.of.g;have f1:∀ r X',Zca (R n) (pt x) (strv k) X=some (r,X')->R (n+1) JI [pt x,strv k] X=some (r,X'):=fun r X' hr=>by rw[R,ZqM rfl];exact hr
 cases hk:Ze k OF with
 | none=>
  rw[hk] at e1;simp only[Option.isSome_none,Option.getD_none] at e1 ⊢;have hi:Idx X x o a (ZbG k OW OF) (Ws k OF):=by unfold ZbG Ws;rw[hk];exact h
  refine⟨X,f1 _ _ ?_,hi,.refl _ _⟩;unfold Zca;rw[Za Zg,Za Zi,Za h.l1,Za e1,Za Zp,Za Zq];refine(ZC (vs:=[.bool false]) (H':=X) ?_).trans rfl;rw[Zb,if_neg (by simp)];rfl
 | some mm=>
  rw[hk] at e1;simp only[Option.isSome_some,Option.getD_some] at e1 ⊢;obtain⟨X1,e2,m2,s2,_⟩:=h.ow.mde (k:=mm);have of1:=h.of.step s2 (by simp[Ne.symm h.ne]);have c1:=s2.get h.c (by simp[h.not.1]);obtain⟨X2,e3,m3,s3,_⟩:=of1.mde (k:=k);have s12:=(s2.mono2 (o2:=[o,a]) (by simp)).trans (s3.mono2 (o2:=[o,a]) (by simp));have hinv:=h.inv.drop (k:=k) h.ow.nod h.of.nod;have hi:Idx X2 x o a (ZbG k OW OF) (Ws k OF):=by
   unfold ZbG Ws at hinv ⊢;rw[hk] at hinv ⊢;exact⟨s3.get c1 (by simp[h.not.2]),m2.step s3 (by simp[h.ne]),m3,h.ne,hinv⟩
  refine⟨X2,f1 _ _ ?_,hi,s12⟩;have l0':ld1 (pa x 0) X=some (.map (some o),X):=h.l0;have l1':ld1 (pa x 1) X1=some (.map (some a),X1):=Zy c1 rfl;unfold Zca;rw[Za Zg,Za Zi,Za h.l1,Za e1,Za Zp,Za Zq];refine(ZC (vs:=[.bool true]) (H':=X2) ?_).trans rfl;rw[Zb,if_pos rfl,Za Zg,Za Zi,Za l0'];refine(Za e2).trans ?_;rw[Za Zg,Za Zi,Za l1',Za e3];rfl
theorem ZzC {f:List UInt8} (h:Idx X x o a OW OF) (h1:Ze f OW=none) (h2:Ze k OF=none) (hk:k≠[]/\k.length<=12) (hf:f≠[]/\f.length<=20) :
  ∃ X',(∀ K:M Value,bind (men .str (.string ⟨#[]⟩) (.map (some o)) (strv f)) (fun v60=>bind (Zu v60 1) fun v61=>bind (ens (.map (some o)) v61 (strv k)) fun _=>bind (men .str (.string ⟨#[]⟩) (.map (some a)) (strv k)) fun v62=>bind (Zu v62 1) fun v63=>bind (ens (.map (some a)) v63 (strv f)) fun _=>K) X=K X')/\Idx X' x o a (Qw f k OW) (Qw k f OF)/\Zo [o,a] X [o,a] X':=by
 obtain⟨t1,st1,Y1,Y2,e1,e2,e3,m1,_,s1,_⟩:=h.ow.put (k:=f) (v:=k) (z:=.string ⟨#[]⟩);have of1:=h.of.step s1 (by simp[Ne.symm h.ne]);have c1:=s1.get h.c (by simp[h.not.1]);obtain⟨t2,st2,Z1,Z2,e4,e5,e6,m2,_,s2,_⟩:=of1.put (k:=k) (v:=f) (z:=.string ⟨#[]⟩);refine⟨Z2,fun K=>?_,⟨s2.get c1 (by simp[h.not.2]),m1.step s2 (by simp[h.ne]),m2,h.ne,h.inv.put h1 h2 hk hf⟩,(s1.mono2 (o2:=[o,a]) (by simp)).trans (s2.mono2 (o2:=[o,a]) (by simp))⟩;rw[Za e1,Za e2,Za e3,Za e4,Za e5,Za e6]
theorem ZDC (h:Idx X x o a OW OF):∃ X',R (n+9) KD [pt x,strv k,strv m] X=some (iv (Kj k m OW),X')/\Idx X' x o a (ZmH k m OW OF) (ZdJ k m OW OF)/\Zo [o,a] X [o,a] X':=by
 have f1:∀ r X',Wh (R (n+8)) (pt x) (strv k) (strv m) X=some (r,X')->R (n+9) KD [pt x,strv k,strv m] X=some (r,X'):=fun r X' hr=>by rw[R,ZsG rfl];exact hr
 have e1:R (n+8) QR [strv k] X=some (iv (ZE k),X):=Zdi (n:=n+3);have q1:bop .str .eql (strv m) (.string ⟨#[]⟩) X=some (.bool (m==[]),X):=Zkm (b:=[]);unfold Kj ZmH ZdJ Kj;cases hn:Zw k
 .have he:ZE k=10:=by unfold ZE;rw[hn];rfl
  refine⟨X,f1 _ _ ?_,by simpa using h,.refl _ _⟩;unfold Wh;rw[Za e1,he,Za Zl,Zb,if_pos (by rfl)];rfl
 .have he:ZE k=0:=ZcQ.2 hn;by_cases hm0:m=[]
  .obtain⟨X1,e2,i2,s2⟩:=ZpX (n:=n+7) (k:=k) h;have e2:R (n+8) JI [pt x,strv k] X=_:=e2;refine⟨X1,f1 _ _ ?_,by simpa[hm0] using i2,s2⟩;unfold Wh;rw[Za e1,he,Za Zl,Zb,if_neg (by decide),Za q1,Zb,if_pos (by simp[hm0]),Za e2];simp[hm0,ret]
  .obtain⟨X1,e2,k2⟩:=Zus (n:=n) (s:=m) (X:=X);have h1:=h.hle k2;have ks:=k2.step.more (o2:=[o,a]) (o2':=[o,a]) (by simp) (fun j hj=>.inl hj);cases hmb:Yp m
   .rw[hmb] at e2;refine⟨X1,f1 _ _ ?_,by simpa[hm0] using h1,ks⟩;unfold Wh;rw[Za e1,he,Za Zl,Zb,if_neg (by decide),Za q1,Zb,if_neg (by simpa using hm0),Za e2,Za Zp,Za Zq];have q3:bop .int .neq (iv (if false=true then 0 else 11)) (.int .i64 0) X1=some (.bool true,X1):=by rw[Zl];rfl
    rw[Za q3,Zb,if_pos rfl];simp[hm0,ret]
   .rw[hmb] at e2;simp only[if_true] at e2;have e3:=Zu4 (k:=QO m) h1.ow.g;have hfm:=ZlQ hmb;have hkn:=ZA5 hn;have q3:bop .int .neq (iv 0) (.int .i64 0) X1=some (.bool false,X1):=by rw[Zl];rfl
    simp only[if_true,if_neg hm0];have hgo:(∀ w,Ze (QO m) OW=some w->w=k)->∃ X',R (n+9) KD [pt x,strv k,strv m] X=some (iv 0,X')/\Idx X' x o a (Qw (QO m) k (ZbG k OW OF)) (Qw k (QO m) (Ws k OF))/\Zo [o,a] X [o,a] X':=fun hw=>by
     obtain⟨X2,e4,i4,s4⟩:=ZpX (n:=n+7) (k:=k) h1;have e4:R (n+8) JI [pt x,strv k] X1=_:=e4;obtain⟨X3,e5,i5,s5⟩:=ZzC (k:=k) (f:=QO m) i4 (Ztu h.inv hw) Zel hkn hfm;refine⟨X3,f1 _ _ ?_,i5,(ks.trans s4).trans s5⟩;unfold Wh;rw[Za e1,he,Za Zl,Zb,if_neg (by decide),Za q1,Zb,if_neg (by simpa using hm0),Za e2,Za Zp,Za Zq,Za q3,Zb,if_neg (by simp),Za Zg,Za Zi,Za h1.l0,Za e3,Za Zp,Za Zq];cases ho:Ze (QO m) OW with
     | none=>
      simp only[Option.isSome_none];rw[Za (g_r.trans (if_neg (by simp)))];simp only[List.replicate];rw[ZY,Za Zk];simp only[cond_false];rw[Zb,if_neg (by simp),Za e4,Za Zg,Za Zi,Za i4.l0,Za Zg,Za Zi,Za i4.l1];exact e5 _
     | some w=>
      have:=hw w ho;subst this;have q4:bop .str .neq (strv w) (strv w) X1=some (.bool false,X1):=by rw[Zhl];simp
      simp only[Option.isSome_some,Option.getD_some];rw[Z4,Zm,Za q4,Z5,ZY,Za Zk];simp only[cond_true];rw[Zb,if_neg (by simp),Za e4,Za Zg,Za Zi,Za i4.l0,Za Zg,Za Zi,Za i4.l1];exact e5 _
    cases ho:Ze (QO m) OW with
    | none=>simpa using hgo (fun w hw=>by rw[ho] at hw;cases hw)
    | some w=>
     by_cases hw:w=k
     .simpa[hw] using hgo (fun w' hw'=>by rw[ho] at hw';cases hw';exact hw)
     .simp only[if_neg hw];refine⟨X1,f1 _ _ ?_,by simpa using h1,ks⟩;have q4:bop .str .neq (strv w) (strv k) X1=some (.bool true,X1):=by rw[Zhl,beq_eq_false_iff_ne.2 hw];rfl
      rw[ho] at e3;simp only[Option.isSome_some,Option.getD_some] at e3;unfold Wh;rw[Za e1,he,Za Zl,Zb,if_neg (by decide),Za q1,Zb,if_neg (by simpa using hm0),Za e2,Za Zp,Za Zq,Za q3,Zb,if_neg (by simp),Za Zg,Za Zi,Za h1.l0,Za e3,Za Zp,Za Zq,Z4,Zm,Za q4,Z5,ZY,Za Zk];simp only[cond_true];rw[Zb,if_pos rfl];rfl
theorem ZIV {old next:List UInt8} (h:Idx X x o a OW OF):∃ X',R (n+6) WF [pt x,strv old,strv next] X=some (iv (Zej old next OF),X')/\Idx X' x o a (ZrM old next OW OF) (ZjL old next OF)/\Zo [o,a] X [o,a] X':=by
 have f1:∀ r X',KH (R (n+5)) (pt x) (strv old) (strv next) X=some (r,X')->R (n+6) WF [pt x,strv old,strv next] X=some (r,X'):=fun r X' hr=>by rw[R,Zno rfl];exact hr
 have e1:R (n+5) QR [strv next] X=some (iv (ZE next),X):=Zdi;have e2:=Zu4 (k:=old) h.of.g;have e3:=Zu4 (k:=next) h.of.g;unfold Zej ZrM ZjL Zej;cases hn:Zw next
 .have he:ZE next=10:=by unfold ZE;rw[hn];rfl
  refine⟨X,f1 _ _ ?_,by simpa using h,.refl _ _⟩;unfold KH;rw[Za e1,he,Za Zl,Zb,if_pos (by rfl)];rfl
 .have he:ZE next=0:=ZcQ.2 hn;simp only[if_true];cases ho:Ze old OF with
  | none=>
   rw[ho] at e2;simp only[Option.isSome_none,Option.getD_none] at e2;refine⟨X,f1 _ _ ?_,by simpa using h,.refl _ _⟩;unfold KH;rw[Za e1,he,Za Zl,Zb,if_neg (by decide),Za Zg,Za Zi,Za h.l1,Za e2,Za Zp,Za Zq,Za Zg,Za Zi,Za h.l1,Za e3,Za Zp,Za Zq,Za ZP,Zb,if_pos (by rfl)];rfl
  | some mm=>
   rw[ho] at e2;simp only[Option.isSome_some,Option.getD_some] at e2 ⊢;have hml:=h.inv.lens (old,mm) (Ku ho);have hmo:=(h.inv.inv old mm).1 ho;have q4:bop .str .neq (strv next) (strv old) X=some (.bool (!(next==old)),X):=Zhl;have hpk:∀ K:Value->M Value,bind (gate (.bool (Ze next OF).isSome) true 3 (bind (bop .str .neq (strv next) (strv old)) fun v43x16=>ret [strv next,strv old,v43x16])) (c3 fun _ _ q17_2=>bind (pick (.bool (Ze next OF).isSome) q17_2 (Value.bool false)) K) X=K (.bool ((Ze next OF).isSome && !(next==old))) X:=fun K=>by
    cases (Ze next OF).isSome
    .rw[Za (g_r.trans (if_neg (by simp)))];simp only[List.replicate];rw[ZY,Za Zk];rfl
    .rw[Z4,Zm,Za q4,Z5,ZY,Za Zk];rfl
   cases ht:(Ze next OF).isSome && !(next==old)
   .rw[ht] at hpk;simp only[Bool.false_eq_true,if_false,if_true];obtain⟨X2,e4,i4,s4⟩:=ZpX (n:=n+4) (k:=old) h;have e4:R (n+5) JI [pt x,strv old] X=_:=e4;have hnn:Ze next (Ws old OF)=none:=by
     by_cases hno:next=old
     .subst hno;exact Zel
     .rw[ZgW hno];have h5:(next==old)=false:=beq_eq_false_iff_ne.2 hno;rw[h5] at ht;cases hx:Ze next OF with
      | none=>rfl
      | some y=>rw[hx] at ht;simp at ht
    obtain⟨X3,e5,i5,s5⟩:=ZzC (k:=next) (f:=mm) i4 (Ztu h.inv (fun w hw=>by rw[hmo] at hw;exact(Option.some.inj hw).symm)) hnn (ZA5 hn) ⟨hml.2.2.1,hml.2.2.2⟩;refine⟨X3,f1 _ _ ?_,i5,s4.trans s5⟩;unfold KH;rw[Za e1,he,Za Zl,Zb,if_neg (by decide),Za Zg,Za Zi,Za h.l1,Za e2,Za Zp,Za Zq,Za Zg,Za Zi,Za h.l1,Za e3,Za Zp,Za Zq,Za ZP,Zb,if_neg (by simp)];refine(hpk _).trans ?_;rw[Zb,if_neg (by simp),Za e4,Za Zg,Za Zi,Za i4.l0,Za Zg,Za Zi,Za i4.l1];exact e5 _
   .rw[ht] at hpk;simp only[if_true];refine⟨X,f1 _ _ ?_,by simpa using h,.refl _ _⟩;unfold KH;rw[Za e1,he,Za Zl,Zb,if_neg (by decide),Za Zg,Za Zi,Za h.l1,Za e2,Za Zp,Za Zq,Za Zg,Za Zi,Za h.l1,Za e3,Za Zp,Za Zq,Za ZP,Zb,if_neg (by simp)];refine(hpk _).trans ?_;rw[Zb,if_pos rfl];rfl
theorem ZJF (h:Idx X x o a OW OF):R (n+1) Zda [pt x,strv k] X=some (.tuple #[strv ((Ze k OF).getD []),.bool (Ze k OF).isSome],X):=by
 have e1:=Zu4 (k:=k) h.of.g;rw[R,ZuB rfl];unfold Zil;rw[Za Zg,Za Zi,Za h.l1,Za e1,Za Zp,Za Zq];rfl
def ZaC (m:List UInt8) (OW:QH):Int:=if Yp m then(if(Ze (QO m) OW).isSome then 0 else 8) else 11
def ZeU (m:List UInt8) (OW:QH):List UInt8:=if Yp m then(Ze (QO m) OW).getD [] else[]
theorem ZH4 (h:Idx X x o a OW OF):∃ X',R (n+9) ZbY [pt x,strv m] X=some (.tuple #[strv (ZeU m OW),iv (ZaC m OW)],X')/\HLe X X':=by
 obtain⟨X1,e2,k2⟩:=Zus (n:=n) (s:=m) (X:=X);have f1:∀ r X',Zdy (R (n+8)) (pt x) (strv m) X=some (r,X')->R (n+9) ZbY [pt x,strv m] X=some (r,X'):=fun r X' hr=>by rw[R,ZqT rfl];exact hr
 have h1:=h.hle k2;refine⟨X1,f1 _ _ ?_,k2⟩;unfold Zdy ZaC ZeU;cases hmb:Yp m
 .rw[hmb] at e2;have q3:bop .int .neq (iv (if false=true then 0 else 11)) (.int .i64 0) X1=some (.bool true,X1):=by rw[Zl];rfl
  rw[Za e2,Za Zp,Za Zq,Za q3,Zb,if_pos rfl];rfl
 .rw[hmb] at e2;simp only[if_true] at e2;have e3:=Zu4 (k:=QO m) h1.ow.g;have q3:bop .int .neq (iv 0) (.int .i64 0) X1=some (.bool false,X1):=by rw[Zl];rfl
  rw[Za e2,Za Zp,Za Zq,Za q3,Zb,if_neg (by simp),Za Zg,Za Zi,Za h1.l0,Za e3,Za Zp,Za Zq,Za ZP];cases Ze (QO m) OW with
  | none=>simp[Zb,ret];rfl
  | some w=>simp[Zb,ret]
end
section
variable {H X X':Zd} {n x o a:Nat} {OW OF:QH} {k m:List UInt8}
theorem ZHl (h:Idx X x o a OW OF):∃ X' x' o' a',R (n+2) Zcb [pt x] X=some (pt x',X')/\Idx X' x' o' a' OW OF/\HLe X X'/\X.length<=x'/\X.length<=o'/\X.length<=a':=by
 obtain⟨X1,e1,g1,l1,n1⟩:=h.ow.clone;obtain⟨X2,e2,g2,l2,n2⟩:=(h.of.hle l1).clone;have e1':run Tryz.prog np lvs (n+1) ZU [.map (some o)] X=some (.map (some X.length),X1):=by
  rw[Zbp (show np ZU=some ZbU from rfl)];exact e1
 have e2':run Tryz.prog np lvs (n+1) ZU [.map (some a)] X1=some (.map (some X1.length),X2):=by
  rw[Zbp (show np ZU=some ZbU from rfl)];exact e2
 have e3:bld (.agg #[.map none,.map none]) [(0,1,.map (some X.length)),(1,1,.map (some X1.length))] X2=some (.agg #[.map (some X.length),.map (some X1.length)],X2):=by simp[↓Qe,Qd,↓QF,Qn,Qq,Qr,↓Zb,Yc,Zg,YA,Qs,JK,QB,JJ,Jx,QV,JR,QW,QU,Q8,Q9,Qx,Zk,ZP,Kf,YO,Ju,QS,JU,ZG,QZ,JZ,Yg,J8,ZA,Zl,Zs,JB,Z0,Qu,JS,JX,Jc,J0,↓Kq,Ye,↓g_r,Kz,YR,Zaj,splice,Value.cells]
 have e4:alc 1 (.agg #[.map (some X.length),.map (some X1.length)]) X2=some (pt X2.length,X2++[.cells [.map (some X.length),.map (some X1.length)] 1 false false]):=by
  rw[QU];simp[Value.cells,oneCell]
 refine⟨X2++[.cells [.map (some X.length),.map (some X1.length)] 1 false false],X2.length,X.length,X1.length,?_,⟨Zn,(g1.hle l2).hle (.app _ _),g2.hle (.app _ _),by omega,h.inv⟩,(l1.trans l2).trans (.app _ _),by omega,Nat.le_refl _,by omega⟩;rw[R,Zq0 rfl];unfold Zf2;rw[Za Zg,Za Zi,Za h.l0,Za Zg,Za Zi,Za h.l1,Za e1',Za (h.hle l1).l1,Ql,Za e2',Za e3,Za e4];rfl
end
section
variable {n:Nat}
variable {X:Zd} {x o a:Nat} {OW OF:QH}
end
abbrev Acc:=Tx × Bool
def Zbg (p:Acc):Value:=.agg #[strv p.1,.bool p.2]
abbrev AMp:=List (Tx × Acc)
structure NSt where
 A:AMp
 OW:QH
 OF:QH
 K:List Tx
 mem:Mem
structure Yd (s:NSt):Prop where
 nm:∀ p∈s.A,Zw p.1=true/\K9 p.2.1=true
 few:s.A.length<=12
 ofA:∀ n,(Ze n s.OF).isSome=true->(Ze n s.A).isSome=true
 memA:∀ k n,s.mem k n=true->(Ze n s.A).isSome=true
 good:∀ n m,Ze n s.OF=some m->Yp m=true/\QO m=m
structure NR where
 b:Nat
 x:Nat
 o:Nat
 a:Nat
 g:Nat
 o2:Nat
 G:ZdS
def NR.own (r:NR):List Nat:=r.b :: r.o :: r.a :: Ji r.o2 r.G
structure ND0 (X:Zd) (d:Nat) (r:NR) (s:NSt) (c:Nat):Prop where
 cell:X[d]?=some (.cells [.map (some r.b),pt r.x,pt r.g] 1 false false)
 m:JL Zbg X r.b s.A
 ix:Idx X r.x r.o r.a s.OW s.OF
 gr:Grp X r.g r.o2 r.G s.mem c
 ks:ZK r.G=s.K
 dis:r.b≠r.o/\r.b≠r.a/\r.b∉Ji r.o2 r.G/\r.o∉Ji r.o2 r.G/\r.a∉Ji r.o2 r.G
structure ND (X:Zd) (d:Nat) (r:NR) (s:NSt) (c:Nat):Prop extends ND0 X d r s c where
 inv:Yd s
def WQ (s:NSt) (n:Tx) (p:Acc):KA:=(n,p.1,(Ze n s.OF).getD [],p.2,ofL n s.K s.mem)
def Jn (s:NSt) (n:Tx):Option KA:=(Ze n s.A).map (WQ s n)
def ZH (n:Tx) (A:AMp):Int:=if Zw n then(if(Ze n A).isSome then 0 else 8) else 10
theorem Ztd {n:Tx} {A:AMp} (h:ZH n A=0):Zw n=true/\∃ p,Ze n A=some p:=by
 unfold ZH at h;cases hn:Zw n
 .rw[hn] at h;simp at h
 .rw[hn] at h;cases ha:Ze n A with
  | none=>rw[ha] at h;simp at h
  | some p=>exact⟨rfl,p,rfl⟩
section
variable {X X':Zd} {n d c:Nat} {r:NR} {s:NSt} {k:Tx}
theorem JL.isMap {α:Type} {enc:α->Value} {id:Nat} {mm:List (Tx × α)} (hm:JL enc X id mm):id < X.length/\∀ cs es gr ro,X[id]?≠some (.cells cs es gr ro):=⟨hm.lt,fun cs es gr ro e=>by
 obtain⟨es',_,h1|h1⟩:=hm.ex
 .obtain⟨clk,h1,_⟩:=h1;rw[e] at h1;cases h1
 .rw[e] at h1;cases h1⟩
theorem ND0.isMap (h:ND0 X d r s c) {j:Nat} (hj:j∈r.own):j < X.length/\∀ cs es gr ro,X[j]?≠some (.cells cs es gr ro):=by
 unfold NR.own at hj;rcases List.mem_cons.1 hj with rfl|hj
 .exact h.m.isMap
 .rcases List.mem_cons.1 hj with rfl|hj
  .exact h.ix.ow.g.isMap
  .rcases List.mem_cons.1 hj with rfl|hj
   .exact h.ix.of.g.isMap
   .exact h.gr.isMap hj
theorem ND0.dnot (h:ND0 X d r s c):d∉r.own:=fun hj=>(h.isMap hj).2 _ _ _ _ h.cell
theorem ND0.xnot (h:ND0 X d r s c):r.x∉r.own:=fun hj=>(h.isMap hj).2 _ _ _ _ h.ix.c
theorem ND0.gnot (h:ND0 X d r s c):r.g∉r.own:=fun hj=>(h.isMap hj).2 _ _ _ _ h.gr.cell
theorem ND0.step {o1 o2:List Nat} (h:ND0 X d r s c) (hs:Zo o1 X o2 X') (hd:d∉o1) (hx:r.x∉o1) (hg:r.g∉o1) (ho:∀ j∈r.own,j∉o1):ND0 X' d r s c:=
 ⟨hs.get h.cell hd,h.m.step hs (ho _ (by simp[NR.own])),h.ix.step hs hx (ho _ (by simp[NR.own])) (ho _ (by simp[NR.own])),h.gr.step hs hg (fun j hj=>ho j (by
  unfold NR.own;exact List.mem_cons_of_mem _ (List.mem_cons_of_mem _ (List.mem_cons_of_mem _ hj)))),h.ks,h.dis⟩
theorem ND0.hle (h:ND0 X d r s c) (hl:HLe X X'):ND0 X' d r s c:=h.step hl.step (by simp) (by simp) (by simp) (by simp)
theorem ND0.l0 (h:ND0 X d r s c):ld1 (pa d 0) X=some (.map (some r.b),X):=Zy h.cell rfl
theorem ND0.l1 (h:ND0 X d r s c):ld1 (pa d 1) X=some (pt r.x,X):=Zy h.cell rfl
theorem ND0.l2 (h:ND0 X d r s c):ld1 (pa d 2) X=some (pt r.g,X):=Zy h.cell rfl
theorem ND.step {o1 o2:List Nat} (h:ND X d r s c) (hs:Zo o1 X o2 X') (hd:d∉o1) (hx:r.x∉o1) (hg:r.g∉o1) (ho:∀ j∈r.own,j∉o1):ND X' d r s c:=⟨h.toND0.step hs hd hx hg ho,h.inv⟩
theorem ND.hle (h:ND X d r s c) (hl:HLe X X'):ND X' d r s c:=⟨h.toND0.hle hl,h.inv⟩
def CLe (X X':Zd):Prop:=∀ (i:Nat) (cs:List Value) (es:Nat) (g ro:Bool),X[i]?=some (Zf.cells cs es g ro)->X'[i]?=some (Zf.cells cs es g ro)
theorem CLe.trans {Y:Zd} (h:CLe X X') (h':CLe X' Y):CLe X Y:=fun i cs es g ro hi=>h' i _ _ _ _ (h i _ _ _ _ hi)
theorem Zo.cle {o1 o2:List Nat} (hs:Zo o1 X o2 X') (hm:∀ j∈o1,∀ cs es g ro,X[j]?≠some (Zf.cells cs es g ro)):CLe X X':=fun i cs es g ro hi=>hs.get hi fun hj=>hm i hj _ _ _ _ hi
theorem ND0.cle {o2:List Nat} (h:ND0 X d r s c) (hs:Zo r.own X o2 X'):CLe X X':=hs.cle fun j hj=>(h.isMap hj).2
theorem Sl.cle {sl:Value} {vs:List Value} (h:Sl X sl vs) (hc:CLe X X'):Sl X' sl vs:=by
 obtain⟨a,c,rfl,h0,h⟩:=h;refine⟨a,c,rfl,h0,?_⟩;unfold QL at h ⊢;split at h
 .exact h
 .rename_i id o n x _;split at h
  .rename_i cs es g ro hid;simp only[hc _ _ _ _ _ hid];exact h
  .cases h
 .exact h
 .rename_i e;cases e
 .cases h
theorem ZJS {k:Tx} {t:Bool} {H:Zd}:bld (.agg #[.string ⟨#[]⟩,.bool false]) [(0,1,strv k),(1,1,.bool t)] H=some (Zbg (k,t),H):=by
 simp[bld,Zaj,Value.cells,YR,strv,splice,Zbg]
theorem ZGX (X:Zd):Yd ⟨[],[],[],[],fun _ _=>false⟩:=⟨by simp,by simp,by simp[Ze],by simp,by simp[Ze]⟩
theorem ZId:∃ X' d r,R (n+2) Zgw [] X=some (pt d,X')/\ND X' d r ⟨[],[],[],[],fun _ _=>false⟩ 0/\HLe X X'/\X.length<=d/\∀ j∈r.own,X.length<=j:=by
 obtain⟨X1,e1,m1,k1⟩:=Zxy (α:=Acc) (enc:=Zbg) X;have hl1:X.length < X1.length:=m1.lt;obtain⟨X2,x,o,a,e2,i2,k2,o21,o22,o23⟩:=ZIv (n:=n) (X:=X1);obtain⟨X3,g,o2,e3,g3,k3,o31,o32⟩:=ZJm (n:=n) (X:=X2);have hi:=i2.lt;have e4:bld (.agg #[.map none,.pointer none,.pointer none]) [(0,1,.map (some X.length)),(1,1,pt x),(2,1,pt g)] X3=some (.agg #[.map (some X.length),pt x,pt g],X3):=by
  simp[bld,Zaj,Value.cells,YR,splice]
 have e5:alc 1 (.agg #[.map (some X.length),pt x,pt g]) X3=some (pt X3.length,X3++[.cells [.map (some X.length),pt x,pt g] 1 false false]):=Zeh (vs:=[.map (some X.length),pt x,pt g]) rfl;have k4:HLe X3 (X3++[Zf.cells [.map (some X.length),pt x,pt g] 1 false false]):=.app _ _;refine⟨_,X3.length,⟨X.length,x,o,a,g,o2,[]⟩,?_,⟨⟨Zn,((m1.hle k2).hle k3).hle k4,(i2.hle k3).hle k4,g3.hle k4,rfl,⟨by simp only;omega,by simp only;omega,?_,?_,?_⟩⟩,ZGX X⟩,((k1.trans k2).trans k3).trans k4,?_,?_⟩
 .rw[R,ZyL rfl];unfold Zl1;rw[Za e1,Za e2,Za e3,Za e4,Za e5];rfl
 .simp only[Ji,List.map_nil,List.mem_singleton];have:=k2.len;omega
 .simp only[Ji,List.map_nil,List.mem_singleton];omega
 .simp only[Ji,List.map_nil,List.mem_singleton];omega
 .have:=k1.len;have:=k2.len;have:=k3.len;omega
 .intro j hj;have:=k1.len;have:=k2.len;simp only[NR.own,Ji,List.map_nil,List.mem_cons,List.not_mem_nil,or_false] at hj;omega
theorem ZA2 (h:ND X d r s c):∃ X',R (n+6) QD [pt d,strv k] X=some (.tuple #[Zbg (if Zw k then(Ze k s.A).getD ([],false) else([],false)),iv (ZH k s.A)],X')/\HLe X X':=by
 have one:∀ p:Acc,([strv p.1,.bool p.2]:List Value).all oneCell=true:=fun _=>rfl;have z1:alc 1 (.agg #[.string ⟨#[]⟩,.bool false]) X=some (pt X.length,X++[.cells [strv [],.bool false] 1 false false]):=Zeh (vs:=[strv [],.bool false]) rfl;have k1:HLe X (X++[Zf.cells [strv [],.bool false] 1 false false]):=.app _ _;have c1:(X++[Zf.cells [strv [],.bool false] 1 false false])[X.length]?=some (.cells [strv [],.bool false] 1 false false):=Zn;have ll1:X.length < (X++[Zf.cells [strv [],.bool false] 1 false false]).length:=by simp
 generalize X++[Zf.cells [strv [],.bool false] 1 false false]=X1 at z1 k1 c1 ll1;have h1:=h.hle k1;have e1:R (n+5) QR [strv k] X1=_:=Zdi;have f1:∀ v X',W1 (R (n+5)) (pt d) (strv k) X=some (v,X')->R (n+6) QD [pt d,strv k] X=some (v,X'):=fun v X' hr=>by rw[R,Zn9 rfl];exact hr
 have fin:∀ (p:Acc) (Y:Zd) (K:Value->M Value),Y[X.length]?=some (.cells [strv [],.bool false] 1 false false)->bind (stA 2 (pt X.length) (Zbg p)) (fun _=>bind (ldA 2 (pt X.length)) K) Y=K (Zbg p) (Y.set X.length (.cells [strv p.1,.bool p.2] 1 false false)):=fun p Y K hY=>by
  have w:=ZbD (vs:=[strv p.1,.bool p.2]) (n:=2) hY rfl rfl rfl;have w:stA 2 (pt X.length) (Zbg p) Y=_:=w;have l:ldA 2 (pt X.length) (Y.set X.length (.cells [strv p.1,.bool p.2] 1 false false))=some (Zbg p,_):=Z8 (n:=2) (ZW hY) rfl;rw[Za w,Za l]
 have put:∀ {Y:Zd} {o:Zf},HLe X Y->HLe X (Y.set X.length o):=fun hl i v hi=>by
  have:=ZX hi;rw[List.getElem?_set_ne (by omega)];exact hl i v hi
 cases hnm:Zw k
 .have he:ZH k s.A=10:=by unfold ZH;rw[hnm];rfl
  have q1:bop .int .neq (iv (ZE k)) (.int .i64 0) X1=some (.bool true,X1):=by rw[Zl];unfold ZE;rw[hnm];rfl
  have zb:bld (.agg #[.string ⟨#[]⟩,.bool false]) [] X1=some (Zbg ([],false),X1):=rfl;rw[he];refine⟨X1.set X.length (.cells [strv [],.bool false] 1 false false),f1 _ _ ?_,put k1⟩;unfold W1;rw[Za z1,Za e1,Za q1,Zb,if_pos rfl,Za zb];refine(fin _ _ _ c1).trans ?_;rw[show ZE k=10 by unfold ZE;rw[hnm];rfl];rfl
 .have q1:bop .int .neq (iv (ZE k)) (.int .i64 0) X1=some (.bool false,X1):=by rw[Zl];unfold ZE;rw[hnm];rfl
  have e2:lkp .str (.agg #[.string ⟨#[]⟩,.bool false]) true (.map (some r.b)) (strv k) X1=some (.tuple #[Zbg ((Ze k s.A).getD ([],false)),.bool (Ze k s.A).isSome],X1):=by
   rw[h1.m.lkp];cases Ze k s.A<;>rfl
  generalize hv:(Ze k s.A).getD ([],false)=p at e2;have z2:∀ K:Value->M Value,bind (alc 1 (.agg #[.string ⟨#[]⟩,.bool false])) (fun q=>bind (stA 2 q (Zbg p)) fun _=>K q) X1=K (pt X1.length) (X1++[.cells [strv p.1,.bool p.2] 1 false false]):=fun K=>ZaX (n:=2) (zs:=[strv [],.bool false]) (r:=[strv p.1,.bool p.2]) rfl rfl rfl rfl;have k2:HLe X1 (X1++[Zf.cells [strv p.1,.bool p.2] 1 false false]):=.app _ _;have c2:(X1++[Zf.cells [strv p.1,.bool p.2] 1 false false])[X1.length]?=some (.cells [strv p.1,.bool p.2] 1 false false):=Zn;have c12:=k2 _ _ c1;generalize X1++[Zf.cells [strv p.1,.bool p.2] 1 false false]=X2 at z2 k2 c2 c12;have d2:ldA 2 (pt X1.length) X2=some (Zbg p,X2):=Z8 (n:=2) c2 rfl;have zb:bld (.agg #[.string ⟨#[]⟩,.bool false]) [] X2=some (Zbg ([],false),X2):=rfl;cases hs:(Ze k s.A).isSome
  .have he:ZH k s.A=8:=by unfold ZH;rw[hnm,hs];rfl
   have hp:p=([],false):=by
    rw[<- hv];cases ha:Ze k s.A with
    | none=>rfl
    | some v=>rw[ha] at hs;cases hs
   rw[hs] at e2;rw[he];refine⟨X2.set X.length (.cells [strv [],.bool false] 1 false false),f1 _ _ ?_,put (k1.trans k2)⟩;unfold W1;rw[Za z1,Za e1,Za q1,Zb,if_neg (by simp),Za Zg,Za Zi,Za h1.l0,Za e2,Za Zp,Za Zq,z2,Za ZP,Zb,if_pos (by rfl),Za zb];refine(fin _ _ _ c12).trans ?_;rw[hp];rfl
  .have he:ZH k s.A=0:=by unfold ZH;rw[hnm,hs];rfl
   rw[hs] at e2;rw[he];refine⟨X2.set X.length (.cells [strv p.1,.bool p.2] 1 false false),f1 _ _ ?_,put (k1.trans k2)⟩;unfold W1;rw[Za z1,Za e1,Za q1,Zb,if_neg (by simp),Za Zg,Za Zi,Za h1.l0,Za e2,Za Zp,Za Zq,z2,Za ZP,Zb,if_neg (by simp),Za d2];exact fin _ _ _ c12
theorem Zwm (h:ND X d r s c):∃ u q X',R (n+7) Wb [pt d,strv k] X=some (.tuple #[.agg u.cells.toArray,iv (ZH k s.A)],X')/\Zt X' u.gv (u.gs.map strv) q/\(∀ j∈q,X.length<=j)/\HLe X X'/\u.gs.length<=6/\
  QT u=if ZH k s.A=0 then WQ s k ((Ze k s.A).getD ([],false)) else([],[],[],false,[]):=by
 have z1:alc 1 (.agg #[.string ⟨#[]⟩,.string ⟨#[]⟩,.string ⟨#[]⟩,.bool false,.slice none 0 0]) X=some (pt X.length,X++[.cells (usr ([],[])) 1 false false]):=Zeh (vs:=usr ([],[])) rfl;have k1:HLe X (X++[Zf.cells (usr ([],[])) 1 false false]):=.app _ _;have c1:(X++[Zf.cells (usr ([],[])) 1 false false])[X.length]?=some (.cells (usr ([],[])) 1 false false):=Zn;generalize X++[Zf.cells (usr ([],[])) 1 false false]=X1 at z1 k1 c1;obtain⟨X2,e2,k2⟩:=ZA2 (n:=n) (k:=k) (h.hle k1);have f1:∀ v X',Zbv (R (n+6)) (pt d) (strv k) X=some (v,X')->R (n+7) Wb [pt d,strv k] X=some (v,X'):=fun v X' hr=>by rw[R,Zpl rfl];exact hr
 generalize hp:(if Zw k then(Ze k s.A).getD ([],false) else([],false))=p at e2;have z2:∀ K:Value->M Value,bind (alc 1 (.agg #[.string ⟨#[]⟩,.bool false])) (fun q=>bind (stA 2 q (Zbg p)) fun _=>K q) X2=K (pt X2.length) (X2++[.cells [strv p.1,.bool p.2] 1 false false]):=fun K=>ZaX (n:=2) (zs:=[strv [],.bool false]) (r:=[strv p.1,.bool p.2]) rfl rfl rfl rfl;have k3:HLe X2 (X2++[Zf.cells [strv p.1,.bool p.2] 1 false false]):=.app _ _;have c3:(X2++[Zf.cells [strv p.1,.bool p.2] 1 false false])[X2.length]?=some (.cells [strv p.1,.bool p.2] 1 false false):=Zn;have hlx:X.length < X2.length:=by have:=ZX c1;have:=k2.len;omega
 generalize X2++[Zf.cells [strv p.1,.bool p.2] 1 false false]=X3 at z2 k3 c3;have c13:=k3 _ _ (k2 _ _ c1);have k13:=(k1.trans k2).trans k3;have put:∀ {Y:Zd} {o:Zf},HLe X Y->HLe X (Y.set X.length o):=fun hl i v hi=>by
  have:=ZX hi;rw[List.getElem?_set_ne (by omega)];exact hl i v hi
 by_cases he:ZH k s.A=0
 .obtain⟨hnm,q0,hq0⟩:=Ztd he;have hpq:p=q0:=by rw[<- hp,hnm,hq0];rfl
  subst hpq;have q1:bop .int .neq (iv (ZH k s.A)) (.int .i64 0) X3=some (.bool false,X3):=by rw[Zl,he];rfl
  have h3:=h.hle k13;have e4:R (n+6) Zda [pt r.x,strv k] X3=_:=ZJF (n:=n+5) h3.ix;have a0:∀ Y,HLe X3 Y->ld1 (pa X2.length 0) Y=some (strv p.1,Y):=fun Y hl=>Zy (hl _ _ c3) rfl;have a1:∀ Y,HLe X3 Y->ld1 (pa X2.length 1) Y=some (.bool p.2,Y):=fun Y hl=>Zy (hl _ _ c3) rfl;obtain⟨gv,q,X4,e5,r5,k5,o5⟩:=ZxH (n:=n+2) (m:=k) h3.gr;have e5:R (n+6) J9 [pt r.g,strv k] X3=_:=e5;rw[h.ks] at r5;have hfew:(ofL k s.K s.mem).length<=6:=by
   have h1:=Zli (m:=k) (K:=s.K) (mem:=s.mem);have h2:=h.gr.few;have h3:s.K.length=r.G.length:=by rw[<- h.ks];simp
   omega
  have hone:=r5.one;have zb:bld (.agg #[.string ⟨#[]⟩,.string ⟨#[]⟩,.string ⟨#[]⟩,.bool false,.slice none 0 0]) [(0,1,strv k),(1,1,strv p.1),(2,1,strv ((Ze k s.OF).getD [])),(3,1,.bool p.2),(4,1,gv)] X4=some (.agg (Zv.cells ⟨k,p.1,(Ze k s.OF).getD [],p.2,gv,ofL k s.K s.mem⟩).toArray,X4):=by
   obtain⟨ga,gn,gc,hgv⟩:∃ a n c,gv=.slice a n c:=by
    rcases r5 with⟨_,_,h⟩|⟨_,_,_,h,_,_⟩
    .exact⟨_,_,_,h⟩
    .exact⟨_,_,_,h⟩
   rw[hgv];simp[bld,Zaj,Value.cells,YR,strv,splice,Zv.cells]
  have c14:=k5 _ _ c13;have w4:=ZbD (vs:=Zv.cells ⟨k,p.1,(Ze k s.OF).getD [],p.2,gv,ofL k s.K s.mem⟩) (n:=5) c14 rfl rfl (by simp only[Zv.cells,List.all_cons,hone.1];rfl);have d4:ldA 5 (pt X.length) (X4.set X.length (.cells (Zv.cells ⟨k,p.1,(Ze k s.OF).getD [],p.2,gv,ofL k s.K s.mem⟩) 1 false false))=some (.agg (Zv.cells ⟨k,p.1,(Ze k s.OF).getD [],p.2,gv,ofL k s.K s.mem⟩).toArray,_):=Z8 (n:=5) (ZW c14) rfl;refine⟨⟨k,p.1,(Ze k s.OF).getD [],p.2,gv,ofL k s.K s.mem⟩,q,X4.set X.length (.cells (Zv.cells ⟨k,p.1,(Ze k s.OF).getD [],p.2,gv,ofL k s.K s.mem⟩) 1 false false),f1 _ _ ?_,r5.keep fun j hj=>List.getElem?_set_ne (fun e=>?_),fun j hj=>Nat.le_trans k13.len (o5 j hj),put (k13.trans k5),hfew,?_⟩
  .unfold Zbv;rw[Za z1,Za e2,Za Zp,Za Zq,z2,Za q1,Zb,if_neg (by simp),Za Zg,Za Zi,Za h3.l1,Za e4,Za Zp,Za Zq,Za Zi,Za (a0 _ (.refl _)),Za Zi,Za (a1 _ (.refl _)),Za Zg,Za Zi,Za h3.l2,Za e5,Za (a1 _ k5),Ql,Za (a0 _ k5),Ql,Za zb,Za w4,Za d4,he];rfl
  .have:=o5 j hj;have:=ZX c13;omega
  .rw[if_pos he,hq0];rfl
 .have q1:bop .int .neq (iv (ZH k s.A)) (.int .i64 0) X3=some (.bool true,X3):=by rw[Zl];simp[he]
  have zb:bld (.agg #[.string ⟨#[]⟩,.string ⟨#[]⟩,.string ⟨#[]⟩,.bool false,.slice none 0 0]) [] X3=some (.agg (usr ([],[])).toArray,X3):=rfl;have w3:=ZbD (vs:=usr ([],[])) (n:=5) c13 rfl rfl rfl;have d3:ldA 5 (pt X.length) (X3.set X.length (.cells (usr ([],[])) 1 false false))=some (.agg (usr ([],[])).toArray,_):=Z8 (n:=5) (ZW c13) rfl;refine⟨⟨[],[],[],false,.slice none 0 0,[]⟩,[],X3.set X.length (.cells (usr ([],[])) 1 false false),f1 _ _ ?_,Zt.nil,by simp,put k13,Nat.zero_le _,by rw[if_neg he];rfl⟩;unfold Zbv;rw[Za z1,Za e2,Za Zp,Za Zq,z2,Za q1,Zb,if_pos rfl,Za zb,Za w3,Za d3];rfl
theorem ZJe (h:ND X d r s c):R (n+1) Zc8 [pt d] X=some (iv s.A.length,X):=by
 rw[R,Zs9 rfl];unfold Zik;rw[Za Zg,Za Zi,Za h.l0,Za h.m.len];rfl
theorem ZEF (h:ND X d r s c):∃ v q X',R (n+4) Zbk [pt d] X=some (v,X')/\Zt X' v ((ZN s.K).map strv) q/\HLe X X'/\∀ j∈q,X.length<=j:=by
 obtain⟨v,q,X',e,r1,l,o⟩:=ZEd (n:=n) h.gr;have e:R (n+3) We [pt r.g] X=_:=e;rw[h.ks] at r1;refine⟨v,q,X',?_,r1,l,o⟩;rw[R,ZoW rfl];unfold Ze1;rw[Za Zg,Za Zi,Za h.l2,Za e];rfl
abbrev KZ (s:NSt):List Tx:=s.A.map (·.1)
theorem ZzU (h:ND X d r s c):∃ v q X',R (n+2) Zau [pt d] X=some (v,X')/\Zt X' v ((ZN (KZ s)).map strv) q/\HLe X X'/\∀ j∈q,X.length<=j:=by
 have e1:run Tryz.prog np lvs (n+1) QM [.map (some r.b)] X=some (.func (.func JA) #[] #[pt X.length],X++[.cells [.map (some r.b)] 1 false false]):=by
  rw[ZaG rfl];unfold JH;rw[Za (Zeg rfl rfl _)];rfl
 have l1:HLe X (X++[.cells [.map (some r.b)] 1 false false]):=.app _ _;obtain⟨v,q,H2,e2,r2,l2,o2⟩:=(h.m.hle l1).keys (gks:=ZcF) (gc:=Z6) (gk:=JA) (c:=X.length) (by decide) Zn (Nat.le_trans h.inv.few (by decide)) (fun p hp=>Nat.le_trans (Ky (h.inv.nm p hp).1) (by decide));have e2':run Tryz.prog np lvs (n+1) ZR [.func (.func JA) #[] #[pt X.length],.func (.func Z6) #[] #[]] (X++[.cells [.map (some r.b)] 1 false false])=some (v,H2):=by
  rw[Zbp (show np ZR=some (Zb2 ZcF Z6) from rfl)];exact e2
 refine⟨v,q,H2,?_,r2,l1.trans l2,fun j hj=>Nat.le_trans l1.len (o2 j hj)⟩;rw[R,Zqu rfl];unfold ZfN;rw[Za Zg,Za Zi,Za h.l0,Za e1,Za e2'];rfl
theorem Zt.own_of {v:Value} {vs:List Value} {q:List Nat} (h:Zt X v vs q) {i:Nat} (hi:A.own1 v=some i):i∈q:=by
 rcases h with⟨_,rfl,rfl⟩|⟨sid,rest,g,rfl,rfl,_⟩
 .cases hi
 .cases hi;simp
structure ZcY (X0 X:Zd) (sl:Value) (us:List Zv) (q:List Nat):Prop where
 r:JQ 5 X sl (us.map Zv.cells) q
 o:∀ j∈q,X0.length<=j
 u:∀ w∈us,∃ qu,Zt X w.gv (w.gs.map strv) qu/\(∀ j∈qu,X0.length<=j/\j∉q)/\w.gs.length<=100000
 un:∀ a∈us,∀ b∈us,∀ i,own1 a.gv=some i->own1 b.gv=some i->a=b
theorem ZcY.us {X0 X:Zd} {sl:Value} {us:List Zv} {q:List Nat} (h:ZcY X0 X sl us q):KF X sl us:=⟨h.r.rd,fun w hw=>by
 obtain⟨qu,h1,_,h2⟩:=h.u w hw;exact⟨h1.rd,h1.one.1,by omega⟩⟩
theorem ZcY.hle {X0 X Y:Zd} {sl:Value} {us:List Zv} {q:List Nat} (h:ZcY X0 X sl us q) (hl:HLe X Y):ZcY X0 Y sl us q:=
 ⟨h.r.step hl.step (by simp),h.o,fun w hw=>by
  obtain⟨qu,h1,h2,h3⟩:=h.u w hw;exact⟨qu,h1.step hl.step (by simp),h2,h3⟩,h.un⟩
theorem ZcY.push0 {X0:Zd} {sl:Value} {us:List Zv} {q qu:List Nat} {w:Zv} (h:ZcY X0 X sl us q) (hl:us.length<=1000) (hr:Zt X w.gv (w.gs.map strv) qu) (hq:∀ j∈qu,X0.length<=j/\j∉q) (h6:w.gs.length<=100000) (hfr:∀ a∈us,∀ i,own1 a.gv=some i->i∉qu) (hX:X0.length<=X.length) :
  ∃ x X1 sl' X2 q',bsl 5 1 (.agg #[.string ⟨#[]⟩,.string ⟨#[]⟩,.string ⟨#[]⟩,.bool false,.slice none 0 0]) [(0,5,.agg w.cells.toArray)] X=some (x,X1)/\app 5 80 sl x X1=some (sl',X2)/\ZcY X0 X2 sl' (us++[w]) q'/\Zo q X q' X2:=by
 have hone:w.cells.all oneCell=true:=by simp only[Zv.cells,List.all_cons,hr.one.1];rfl
 have x4:=ZxB (es:=5) (z:=.agg #[.string ⟨#[]⟩,.string ⟨#[]⟩,.string ⟨#[]⟩,.bool false,.slice none 0 0]) (H:=X) rfl (show w.cells.length=5 from rfl) hone;have l1:HLe X (X++[Zf.cells w.cells 5 false false]):=.app _ _;have s1:SlN 5 (X++[Zf.cells w.cells 5 false false]) (.slice (some ⟨X.length,0,none⟩) 1 1) [w.cells]:=SlN.whole (rows:=[w.cells]) (c:=1) (e:=5) (g:=false) (ro:=false) (by rw[Zn];simp) (by simp);generalize X++[Zf.cells w.cells 5 false false]=X1 at x4 l1 s1;have h1:=h.hle l1;obtain⟨sl',X2,q',x5,hn2,s2⟩:=h1.r.push (b:=80) s1 rfl (by simp;omega) (by simp;omega);have hX1:=l1.len;have hm2:∀ j∈q',X0.length<=j:=fun j hj=>by
  rcases s2.own j hj with h2|h2
  .exact h.o j h2
  .omega
 rw[<- List.map_singleton (f:=Zv.cells),<- List.map_append] at hn2;have hnew:∀ (v:Zv) (qv:List Nat),Zt X1 v.gv (v.gs.map strv) qv->(∀ j∈qv,X0.length<=j/\j∉q)->Zt X2 v.gv (v.gs.map strv) qv/\∀ j∈qv,X0.length<=j/\j∉q':=fun v qv hv hj=>⟨hv.step s2 (fun j hm=>(hj j hm).2),fun j hm=>⟨(hj j hm).1,fun hq=>by
  rcases s2.own j hq with h2|h2
  .exact(hj j hm).2 h2
  .have:=hv.lt j hm;omega⟩⟩
 refine⟨_,X1,sl',X2,q',x4,x5,⟨hn2,hm2,fun v hv=>?_,fun a ha b hb i hai hbi=>?_⟩,l1.stepq.trans s2⟩
 .rcases List.mem_append.1 hv with hv|hv
  .obtain⟨qv,a1,a2,a3⟩:=h1.u v hv;obtain⟨b1,b2⟩:=hnew v qv a1 a2;exact⟨qv,b1,b2,a3⟩
  .have hv:v=w:=by simpa using hv
   subst hv;obtain⟨b1,b2⟩:=hnew v qu (hr.step l1.step (by simp)) hq;exact⟨qu,b1,b2,h6⟩
 .rcases List.mem_append.1 ha with ha|ha<;>rcases List.mem_append.1 hb with hb|hb
  .exact h.un a ha b hb i hai hbi
  .have hb:b=w:=by simpa using hb
   rw[hb] at hbi;exact absurd (hr.own_of hbi) (hfr a ha i hai)
  .have ha:a=w:=by simpa using ha
   rw[ha] at hai;exact absurd (hr.own_of hai) (hfr b hb i hbi)
  .have ha:a=w:=by simpa using ha
   have hb:b=w:=by simpa using hb
   rw[ha,hb]
theorem ZcY.push {X0:Zd} {sl:Value} {us:List Zv} {q qu:List Nat} {w:Zv} (h:ZcY X0 X sl us q) (hl:us.length<=1000) (hr:Zt X w.gv (w.gs.map strv) qu) (hq:∀ j∈qu,X0.length<=j/\j∉q) (h6:w.gs.length<=100000) (hfr:∀ a∈us,∀ i,own1 a.gv=some i->i∉qu) (hle:HLe X0 X) :
  ∃ x X1 sl' X2 q',bsl 5 1 (.agg #[.string ⟨#[]⟩,.string ⟨#[]⟩,.string ⟨#[]⟩,.bool false,.slice none 0 0]) [(0,5,.agg w.cells.toArray)] X=some (x,X1)/\app 5 80 sl x X1=some (sl',X2)/\ZcY X0 X2 sl' (us++[w]) q'/\HLe X0 X2:=by
 obtain⟨x,X1,sl',X2,q',a,b,c,e⟩:=h.push0 hl hr hq h6 hfr hle.len;exact⟨x,X1,sl',X2,q',a,b,c,(hle.more e h.o).1⟩
theorem ZBG {v:Value} {q0:List Nat} {ks:List Tx} {X0:Zd} (h:ND X0 d r s c) (hr:Zt X0 v (ks.map strv) q0) (hk:ks.length<=100) (hK:∀ k∈ks,ZH k s.A=0):∀ (t j:Nat) (sl:Value) (q:List Nat) (us:List Zv) (X:Zd),ks.length - j=t->j<=ks.length->us.length<=j->HLe X0 X->ZcY X0 X sl us q->
  ∃ X' sl' q' us',Zj (c5 (KY.l1 (R (n+7)))) [pt d,sl,v,iv ks.length,iv j] X=some (.ext 0 [sl'],X')/\ZcY X0 X' sl' (us++us') q'/\us'.map QT=(ks.drop j).map (fun k=>WQ s k ((Ze k s.A).getD ([],false)))/\HLe X0 X'
 | 0,j,sl,q,us,X,ht,hj,hu,hl,ho=>by
  have:j=ks.length:=by omega
  subst this;rw[List.drop_length];refine⟨X,sl,q,[],ZZ ?_,by rw[List.append_nil];exact ho,rfl,hl⟩;rw[QJ];unfold KY.l1;rw[Za Zs,Zb,if_neg (by simp)];rfl
 | t+1,j,sl,q,us,X,ht,hj,hu,hl,ho=>by
  have hjl:j < ks.length:=by omega
  have hlt:(j:Int) < ks.length:=by omega
  have hg:=List.getElem?_eq_getElem hjl;have hd:=List.drop_eq_getElem_cons hjl;generalize ks[j]=k at hg hd;have hrx:=hr.step hl.step (by simp);have x1:=hrx.ix (i:=j) (by simpa using hjl) .i64 X;have x2:=hrx.ldx (Wr hg);have he:=hK k (List.mem_of_getElem? hg);obtain⟨w,qw,X1,e1,r1,o1,l1,h6,hkey⟩:=Zwm (n:=n) (k:=k) (h.hle hl);rw[if_pos he] at hkey;rw[he] at e1;have ho1:=ho.hle l1;have hone:w.cells.all oneCell=true:=by simp only[Zv.cells,List.all_cons,r1.one.1];rfl
  have z2:∀ K:Value->M Out,bind (alc 1 (.agg #[.string ⟨#[]⟩,.string ⟨#[]⟩,.string ⟨#[]⟩,.bool false,.slice none 0 0])) (fun p=>bind (stA 5 p (.agg w.cells.toArray)) fun _=>K p) X1=K (pt X1.length) (X1++[.cells w.cells 1 false false]):=fun K=>ZaX (n:=5) (zs:=[.string ⟨#[]⟩,.string ⟨#[]⟩,.string ⟨#[]⟩,.bool false,.slice none 0 0]) (r:=w.cells) rfl rfl rfl hone;have k2:HLe X1 (X1++[Zf.cells w.cells 1 false false]):=.app _ _;have c2:(X1++[Zf.cells w.cells 1 false false])[X1.length]?=some (.cells w.cells 1 false false):=Zn;generalize X1++[Zf.cells w.cells 1 false false]=X2 at z2 k2 c2;have d2:ldA 5 (pt X1.length) X2=some (.agg w.cells.toArray,X2):=Z8 (n:=5) c2 rfl;have hq:∀ i∈qw,X0.length<=i/\i∉q:=fun i hi=>by
   have h1:=o1 i hi;have h2:=hl.len;exact⟨by omega,fun hm=>by have:=ho.r.lt i hm;omega⟩
  obtain⟨y,X3,sl',X4,q',a1,a2,ho4,l4⟩:=(ho1.hle k2).push (by omega) (r1.step k2.step (by simp)) hq (by omega) (fun a ha i hi hm=>by obtain⟨qa,b1,_,_⟩:=ho.u a ha;have h1:=b1.lt i (b1.own_of hi);have h2:=o1 i hm;omega) ((hl.trans l1).trans k2);obtain⟨X5,sl5,q5,us5,e5,o5,u5,l5⟩:=ZBG h hr hk hK t (j+1) sl' q' (us++[w]) X4 (by omega) (by omega) (by rw[List.length_append,List.length_singleton];omega) l4 ho4;refine⟨X5,sl5,q5,w :: us5,(ZJ ?_).trans e5,by rw[List.append_assoc] at o5;exact o5,?_,l5⟩
  .rw[QJ];unfold KY.l1;rw[Za Zs,Zb,if_pos (by simpa using hlt),Za x1,Za x2,Za e1,Za Zp,Za Zq,z2,Za d2,Za a1,Za a2,Za ZG,Je (by omega)];rfl
  .rw[hd,List.map_cons,List.map_cons,u5,hkey]
def allK (s:NSt):List KA:=(ZN (KZ s)).map fun k=>WQ s k ((Ze k s.A).getD ([],false))
theorem ZET (h:∀ p∈s.A,Zw p.1=true) {k:Tx} (hk:k∈KZ s):ZH k s.A=0:=by
 obtain⟨p,hp,rfl⟩:=List.mem_map.1 hk;unfold ZH;rw[h p hp,Zj3,decide_eq_true (List.mem_map.2 ⟨p,hp,rfl⟩)];rfl
theorem ZJc (h:ND X d r s c):∃ v q us X',R (n+8) Zdb [pt d] X=some (v,X')/\ZcY X X' v us q/\us.map QT=allK s/\HLe X X':=by
 obtain⟨v,q,X1,e1,r1,l1,o1⟩:=ZzU (n:=n+5) h;have e1:R (n+7) Zau [pt d] X=_:=e1;have hfew:(ZN (KZ s)).length<=12:=by
  rw[YC];have:=h.inv.few;simpa using this
 obtain⟨X2,sl,q2,us,e2,o2,u2,l2⟩:=ZBG (n:=n) (h.hle l1) r1 (by omega) (fun k hk=>ZET (fun p hp=>(h.inv.nm p hp).1) (Kp.1 hk)) (ZN (KZ s)).length 0 (.slice none 0 0) [] [] X1 (by omega) (by omega) (Nat.le_refl _) (.refl _) ⟨JQ.nil,by simp,by simp,by simp⟩;have e2:Zj (c5 (KY.l1 (R (n+7)))) [pt d,.slice none 0 0,v,iv (ZN (KZ s)).length,.int .i64 0] X1=_:=e2;rw[List.nil_append] at o2;rw[List.drop_zero] at u2;have hlen:ZB v X1=some (iv (ZN (KZ s)).length,X1):=by have:=r1.rd.len (H':=X1);simpa using this
 have hx:=l1.len;refine⟨sl,q2,us,X2,?_,⟨o2.r,fun j hj=>Nat.le_trans hx (o2.o j hj),fun w hw=>?_,o2.un⟩,u2,l1.trans l2⟩
 .rw[R,Zua rfl];unfold KY;rw[Za e1,Za hlen,Qk e2,ZI];rfl
 .obtain⟨qu,a1,a2,a3⟩:=o2.u w hw;exact⟨qu,a1,fun j hj=>⟨Nat.le_trans hx (a2 j hj).1,(a2 j hj).2⟩,a3⟩
end
def Jg (k:Tx) (A:AMp):Acc:=(Ze k A).getD ([],false)
def J6 (k h:Tx) (A:AMp):Int:=if Zw k then(if K9 h then(if(Ze k A).isSome then 9 else if 12<=A.length then 7 else 0) else 4) else 10
def ZbR (k h:Tx) (s:NSt):NSt:=if J6 k h s.A=0 then { s with A:=Qw k (h,false) s.A } else s
def ZbP (k:Tx) (s:NSt):NSt:=if ZH k s.A=0 then { s with A:=Yx k s.A,OW:=ZbG k s.OW s.OF,OF:=Ws k s.OF,mem:=Zkf k s.mem } else s
def Jq (k h:Tx) (A:AMp):Int:=if Zw k then(if K9 h then(if(Ze k A).isSome then(if(Jg k A).2 then 12 else 0) else 8) else 4) else 10
def Zax (k h:Tx) (s:NSt):NSt:=if Jq k h s.A=0 then { s with A:=Qw k (h,(Jg k s.A).2) s.A } else s
def Jh (k m:Tx) (s:NSt):Int:=if Zw k then(if m≠[]/\Yp m=false then 11 else if(Ze k s.A).isSome then Kj k m s.OW else 8) else 10
def Kr (k m:Tx) (s:NSt):NSt:=if Jh k m s=0 then { s with OW:=ZmH k m s.OW s.OF,OF:=ZdJ k m s.OW s.OF } else s
def Jf (k:Tx) (b:Bool) (A:AMp):Int:=if ZH k A=0 then(if(Jg k A).2=b then 12 else 0) else ZH k A
def Y4 (k:Tx) (b:Bool) (s:NSt):NSt:=if Jf k b s.A=0 then { s with A:=Qw k ((Jg k s.A).1,b) s.A } else s
def J5 (o t:Tx) (A:AMp):Int:=if Zw o && Zw t then(if(Ze o A).isSome then(if(Ze t A).isSome then 9 else 0) else 8) else 10
def Zbf (o t:Tx) (s:NSt):NSt:=if J5 o t s.A=0 then { s with A:=Qw t (Jg o s.A) (Yx o s.A),OW:=ZrM o t s.OW s.OF,OF:=ZjL o t s.OF,mem:=Zd2 o t s.mem } else s
def Zi7 (g:Tx) (s:NSt):NSt:={ s with K:=Zjb g s.K }
def ZiW (g:Tx) (s:NSt):NSt:={ s with K:=ZpQ g s.K,mem:=if Q6 g s.K=0 then Zhb g s.mem else s.mem }
def JG (g k:Tx) (A:AMp):Int:=if Zw g then ZH k A else 10
def Wj (g k:Tx) (s:NSt):Int:=if JG g k s.A=0 then Zav g k s.K s.mem else JG g k s.A
def Zd5 (g k:Tx) (s:NSt):NSt:=if Wj g k s=0 then { s with mem:=Zgx g k s.mem } else s
def KB (g k:Tx) (s:NSt):Int:=if JG g k s.A=0 then Zcp g k s.K s.mem else JG g k s.A
def ZcK (g k:Tx) (s:NSt):NSt:=if KB g k s=0 then { s with mem:=Zjo g k s.mem } else s
theorem Zb6 {α:Type} {k j:Tx} {v:α} {m:List (Tx × α)} (h:(Ze j m).isSome=true\/j=k):(Ze j (Qw k v m)).isSome=true:=by
 by_cases e:j=k
 .rw[e,WL];rfl
 .rw[Kt e];exact h.resolve_right e
theorem Yd.putA {s:NSt} (h:Yd s) {k:Tx} {v:Acc} (hk:Zw k=true) (hv:K9 v.1=true) (hl:(Ze k s.A).isSome=true\/s.A.length < 12):Yd { s with A:=Qw k v s.A } where
 nm p hp:=by
  rcases Zmr hp with rfl|hp
  .exact⟨hk,hv⟩
  .exact h.nm p hp
 few:=by
  show(Qw k v s.A).length<=12
  rw[ZdF];have:=h.few;split
  .exact this
  .rename_i hn;rcases hl with h1|h1
   .exact absurd h1 hn
   .omega
 ofA n hn:=Zb6 (.inl (h.ofA n hn))
 memA g n hn:=Zb6 (.inl (h.memA g n hn))
 good:=h.good
theorem Zwr {k h:Tx} {A:AMp} (he:J6 k h A=0):Zw k=true/\K9 h=true/\Ze k A=none/\A.length < 12:=by
 unfold J6 at he;cases h1:Zw k<;>cases h2:K9 h<;>rw[h1,h2] at he<;>try simp at he
 by_cases h3:(Ze k A).isSome=true
 .rw[if_pos h3] at he;simp at he
 .rw[if_neg h3] at he;by_cases h4:12<=A.length
  .rw[if_pos h4] at he;simp at he
  .exact⟨rfl,rfl,by simpa using h3,by omega⟩
theorem Yd.create {s:NSt} (h:Yd s) (k x:Tx):Yd (ZbR k x s):=by
 unfold ZbR;split
 .rename_i he;obtain⟨h1,h2,h3,h4⟩:=Zwr he;exact h.putA h1 h2 (.inr h4)
 .exact h
theorem Yd.delete {s:NSt} (h:Yd s) (k:Tx):Yd (ZbP k s):=by
 unfold ZbP;split
 .exact {
   nm:=fun p hp=>h.nm p (List.mem_filter.1 hp).1
   few:=Nat.le_trans (List.length_filter_le _ _) h.few
   ofA:=fun n hn=>by
    have hne:n≠k:=fun e=>by rw[e,Zel] at hn;cases hn
    show(Ze n (Yx k s.A)).isSome=true
    rw[JM hne];rw[ZgW hne] at hn;exact h.ofA n hn
   memA:=fun g n hn=>by
    have hn:(s.mem g n && !(n==k))=true:=hn;simp only[Bool.and_eq_true,Bool.not_eq_true',beq_eq_false_iff_ne] at hn;show(Ze n (Yx k s.A)).isSome=true
    rw[JM hn.2];exact h.memA g n hn.1
   good:=fun n m hn=>by
    have hne:n≠k:=fun e=>by
     have hn:Ze n (Ws k s.OF)=some m:=hn;rw[e,Zel] at hn;cases hn
    have hn:Ze n (Ws k s.OF)=some m:=hn;rw[ZgW hne] at hn;exact h.good n m hn }
 .exact h
theorem Zog {k:Tx} {A:AMp} (h:(Ze k A).isSome=true):Ze k A=some (Jg k A):=by
 unfold Jg;cases ha:Ze k A with
 | none=>rw[ha] at h;cases h
 | some p=>rfl
theorem ZuI {k h:Tx} {A:AMp} (he:Jq k h A=0):Zw k=true/\K9 h=true/\(Ze k A).isSome=true/\(Jg k A).2=false:=by
 unfold Jq at he;cases h1:Zw k<;>cases h2:K9 h<;>rw[h1,h2] at he<;>try simp at he
 cases h3:(Ze k A).isSome<;>cases h4:(Jg k A).2<;>rw[h3,h4] at he<;>simp at he;exact⟨rfl,rfl,rfl,rfl⟩
theorem Yd.setHash {s:NSt} (h:Yd s) (k x:Tx):Yd (Zax k x s):=by
 unfold Zax;split
 .rename_i he;obtain⟨h1,h2,h3,h4⟩:=ZuI he;exact h.putA h1 h2 (.inl h3)
 .exact h
theorem ZBX {k:Tx} {b:Bool} {A:AMp} (he:Jf k b A=0):ZH k A=0/\(Jg k A).2≠b:=by
 unfold Jf at he;by_cases h1:ZH k A=0
 .rw[if_pos h1] at he;refine⟨h1,fun e=>?_⟩;rw[if_pos e] at he;simp at he
 .rw[if_neg h1] at he;exact absurd he h1
theorem Yd.disable {s:NSt} (h:Yd s) (k:Tx) (b:Bool):Yd (Y4 k b s):=by
 unfold Y4;split
 .rename_i he;obtain⟨h1,_⟩:=ZBX he;obtain⟨h2,p,h3⟩:=Ztd h1;have h4:(Ze k s.A).isSome=true:=by rw[h3];rfl
  refine h.putA h2 ?_ (.inl h4);have:=h.nm _ (Ku (Zog h4));exact this.2
 .exact h
theorem ZCd {k m:Tx} {s:NSt} (he:Jh k m s=0):Zw k=true/\(m=[]\/Yp m=true)/\(Ze k s.A).isSome=true/\Kj k m s.OW=0:=by
 unfold Jh at he;cases h1:Zw k
 .rw[h1] at he;simp at he
 .rw[h1] at he;simp only[if_true] at he;by_cases h2:m≠[]/\Yp m=false
  .rw[if_pos h2] at he;simp at he
  .rw[if_neg h2] at he;cases h3:(Ze k s.A).isSome
   .rw[h3] at he;simp at he
   .rw[h3] at he;simp only[if_true] at he;refine⟨rfl,?_,rfl,he⟩;by_cases h4:m=[]
    .exact .inl h4
    .refine .inr ?_;cases h5:Yp m
     .exact absurd ⟨h4,h5⟩ h2
     .rfl
theorem Zjk {k m:Tx} {OW OF:QH} (he:Kj k m OW=0) (n:Tx):Ze n (ZdJ k m OW OF)=if n=k then(if m=[] then none else some (QO m)) else Ze n OF:=by
 unfold ZdJ;rw[if_pos he];by_cases hm:m=[]
 .rw[if_pos hm,if_pos hm];by_cases hn:n=k
  .rw[if_pos hn,hn,Zel]
  .rw[if_neg hn,ZgW hn]
 .rw[if_neg hm,if_neg hm];by_cases hn:n=k
  .rw[if_pos hn,hn,WL]
  .rw[if_neg hn,Kt hn,ZgW hn]
theorem Zrk {m:Tx}:QO (QO m)=QO m:=by
 unfold QO;rw[List.map_map];refine List.map_congr_left fun b _=>?_;exact(ZEs (p:=fun b=>ZfP (ZfP b)=ZfP b) (by decide+kernel)) b
theorem Zz3 {m:Tx} (h:Yp m=true):Yp (QO m)=true:=by
 unfold Yp at h ⊢;rw[Zrk,show(QO m).length=m.length from by simp[QO]];exact h
theorem Yd.setMail {s:NSt} (h:Yd s) (k m:Tx):Yd (Kr k m s):=by
 unfold Kr;split
 .rename_i he;obtain⟨h1,h2,h3,h4⟩:=ZCd he;exact {
   nm:=h.nm
   few:=h.few
   ofA:=fun n hn=>by
    have hn:(Ze n (ZdJ k m s.OW s.OF)).isSome=true:=hn;rw[Zjk h4] at hn;by_cases e:n=k
    .rw[e];exact h3
    .rw[if_neg e] at hn;exact h.ofA n hn
   memA:=h.memA
   good:=fun n v hn=>by
    have hn:Ze n (ZdJ k m s.OW s.OF)=some v:=hn;rw[Zjk h4] at hn;by_cases e:n=k
    .rw[if_pos e] at hn;by_cases hm:m=[]
     .rw[if_pos hm] at hn;cases hn
     .rw[if_neg hm] at hn;have hv:QO m=v:=Option.some.inj hn;rw[<- hv];exact⟨Zz3 (h2.resolve_left hm),Zrk⟩
    .rw[if_neg e] at hn;exact h.good n v hn }
 .exact h
theorem Zwu {o t:Tx} {A:AMp} (he:J5 o t A=0):Zw o=true/\Zw t=true/\(Ze o A).isSome=true/\Ze t A=none/\o≠t:=by
 unfold J5 at he;cases h1:Zw o<;>cases h2:Zw t<;>rw[h1,h2] at he<;>try simp at he
 cases h3:(Ze o A).isSome<;>cases h4:(Ze t A).isSome<;>rw[h3,h4] at he<;>simp at he;have h4:Ze t A=none:=by simpa using h4
 refine⟨rfl,rfl,rfl,h4,fun e=>?_⟩;rw[e,h4] at h3;cases h3
theorem Yd.ofN {s:NSt} (h:Yd s) {t:Tx} (ht:Ze t s.A=none):Ze t s.OF=none:=by
 cases ho:Ze t s.OF with
 | none=>rfl
 | some v=>
  have:=h.ofA t (by rw[ho];rfl);rw[ht] at this;cases this
theorem Yd.memN {s:NSt} (h:Yd s) {t:Tx} (ht:Ze t s.A=none) (g:Tx):s.mem g t=false:=by
 cases ho:s.mem g t with
 | false=>rfl
 | true=>
  have:=h.memA g t ho;rw[ht] at this;cases this
theorem ZBx {o t:Tx} {OF:QH} (ht:Zw t=true) (hn:Ze t OF=none) (hot:o≠t) (n:Tx):Ze n (ZjL o t OF)=if n=t then Ze o OF else if n=o then none else Ze n OF:=by
 unfold ZjL Zej;rw[ht,hn];cases ho:Ze o OF with
 | none=>
  simp only[if_true];rw[if_neg (by decide)];by_cases h1:n=t
  .rw[if_pos h1,h1,hn]
  .rw[if_neg h1];by_cases h2:n=o
   .rw[if_pos h2,h2,ho]
   .rw[if_neg h2]
 | some m=>
  simp only[Option.isSome_none,Bool.false_and,if_true,Option.getD_some];rw[if_pos (by simp)];by_cases h1:n=t
  .rw[if_pos h1,h1,WL]
  .rw[if_neg h1,Kt h1];by_cases h2:n=o
   .rw[if_pos h2,h2,Zel]
   .rw[if_neg h2,ZgW h2]
theorem Yd.rename {s:NSt} (h:Yd s) (o t:Tx):Yd (Zbf o t s):=by
 unfold Zbf;split
 .rename_i he;obtain⟨h1,h2,h3,h4,h5⟩:=Zwu he;have hof:=h.ofN h4;exact {
   nm:=fun p hp=>by
    rcases Zmr hp with rfl|hp
    .exact⟨h2,(h.nm _ (Ku (Zog h3))).2⟩
    .exact h.nm p (List.mem_filter.1 hp).1
   few:=by
    show(Qw t (Jg o s.A) (Yx o s.A)).length<=12
    rw[ZdF];have hf:=h.few;have hlt:(Yx o s.A).length < s.A.length:=by
     unfold Yx;rw[List.length_filter_lt_length_iff_exists];exact⟨_,Ku (Zog h3),by simp⟩
    split<;>omega
   ofA:=fun n hn=>by
    have hn:(Ze n (ZjL o t s.OF)).isSome=true:=hn;rw[ZBx h2 hof h5] at hn;show(Ze n (Qw t (Jg o s.A) (Yx o s.A))).isSome=true
    by_cases e1:n=t
    .exact Zb6 (.inr e1)
    .rw[if_neg e1] at hn;by_cases e2:n=o
     .rw[if_pos e2] at hn;cases hn
     .rw[if_neg e2] at hn;exact Zb6 (.inl (by rw[JM e2];exact h.ofA n hn))
   memA:=fun g n hn=>by
    have hn:Zd2 o t s.mem g n=true:=hn;show(Ze n (Qw t (Jg o s.A) (Yx o s.A))).isSome=true
    by_cases e1:n=t
    .exact Zb6 (.inr e1)
    .have hm:s.mem g n=true/\n≠o:=by
      unfold Zd2 at hn;cases hg:s.mem g o
      .rw[hg] at hn;simp only[Bool.false_eq_true,if_false] at hn;exact⟨hn,fun e=>by rw[e,hg] at hn;cases hn⟩
      .rw[hg] at hn;simp only[if_true,Bool.or_eq_true,beq_iff_eq,Bool.and_eq_true,Bool.not_eq_true',beq_eq_false_iff_ne] at hn;rcases hn with hn|hn
       .exact absurd hn e1
       .exact hn
     exact Zb6 (.inl (by rw[JM hm.2];exact h.memA g n hm.1))
   good:=fun n v hn=>by
    have hn:Ze n (ZjL o t s.OF)=some v:=hn;rw[ZBx h2 hof h5] at hn;by_cases e1:n=t
    .rw[if_pos e1] at hn;exact h.good o v hn
    .rw[if_neg e1] at hn;by_cases e2:n=o
     .rw[if_pos e2] at hn;cases hn
     .rw[if_neg e2] at hn;exact h.good n v hn }
 .exact h
theorem Yd.make {s:NSt} (h:Yd s) (g:Tx):Yd (Zi7 g s):=⟨h.nm,h.few,h.ofA,h.memA,h.good⟩
theorem Yd.drop {s:NSt} (h:Yd s) (g:Tx):Yd (ZiW g s):=by
 refine⟨h.nm,h.few,h.ofA,fun k n hn=>?_,h.good⟩;have hn:(if Q6 g s.K=0 then Zhb g s.mem else s.mem) k n=true:=hn;split at hn
 .unfold Zhb at hn;simp only[Bool.and_eq_true] at hn;exact h.memA k n hn.1
 .exact h.memA k n hn
theorem ZEN {g k:Tx} {A:AMp} (h:JG g k A=0):Zw g=true/\ZH k A=0:=by
 unfold JG at h;cases hg:Zw g
 .rw[hg] at h;simp at h
 .rw[hg] at h;exact⟨rfl,h⟩
theorem Yd.join {s:NSt} (h:Yd s) (g k:Tx):Yd (Zd5 g k s):=by
 unfold Zd5;split
 .rename_i he;unfold Wj at he;by_cases hm:JG g k s.A=0
  .obtain⟨_,h2⟩:=ZEN hm;obtain⟨_,p,h3⟩:=Ztd h2;refine⟨h.nm,h.few,h.ofA,fun j n hn=>?_,h.good⟩;have hn:(s.mem j n || (j==g && n==k))=true:=hn;simp only[Bool.or_eq_true,Bool.and_eq_true,beq_iff_eq] at hn;rcases hn with hn|⟨_,hn⟩
   .exact h.memA j n hn
   .show(Ze n s.A).isSome=true
    rw[hn,h3];rfl
  .rw[if_neg hm] at he;exact absurd he hm
 .exact h
theorem Yd.leave {s:NSt} (h:Yd s) (g k:Tx):Yd (ZcK g k s):=by
 unfold ZcK;split
 .refine⟨h.nm,h.few,h.ofA,fun j n hn=>?_,h.good⟩;have hn:(s.mem j n && !(j==g && n==k))=true:=hn;simp only[Bool.and_eq_true] at hn;exact h.memA j n hn.1
 .exact h
section
variable {X X':Zd} {n d c c':Nat} {r:NR} {s:NSt} {k h m t o g:Tx}
theorem NR.mem_b (r:NR):r.b∈r.own:=by simp[NR.own]
theorem NR.mem_o (r:NR):r.o∈r.own:=by simp[NR.own]
theorem NR.mem_a (r:NR):r.a∈r.own:=by simp[NR.own]
theorem NR.mem_g (r:NR):∀ j∈Ji r.o2 r.G,j∈r.own:=fun j hj=>by
 unfold NR.own;exact List.mem_cons_of_mem _ (List.mem_cons_of_mem _ (List.mem_cons_of_mem _ hj))
theorem ND0.more (hd:ND0 X d r s c) (hc:c<=c'):ND0 X d r s c':=⟨hd.cell,hd.m,hd.ix,hd.gr.more hc (fun _ _=>rfl),hd.ks,hd.dis⟩
theorem ND0.setA (hd:ND0 X d r s c) {A':AMp} (m':JL Zbg X' r.b A') (hs:Zo [r.b] X [r.b] X'):ND0 X' d r { s with A:=A' } c/\Zo r.own X r.own X':=by
 obtain⟨h1,h2,h3,_,_⟩:=hd.dis;have nb:∀ {j},j∉r.own->j∉[r.b]:=fun hj e=>hj (by rw[List.mem_singleton.1 e];exact r.mem_b);refine⟨⟨hs.get hd.cell (nb hd.dnot),m',hd.ix.step hs (nb hd.xnot) (by simpa using Ne.symm h1) (by simpa using Ne.symm h2),hd.gr.step hs (nb hd.gnot) (fun j hj e=>h3 ?_),hd.ks,hd.dis⟩,hs.mono2 (by simpa using r.mem_b)⟩;rw[<- List.mem_singleton.1 e];exact hj
theorem ND0.setI (hd:ND0 X d r s c) {OW' OF':QH} (i':Idx X' r.x r.o r.a OW' OF') (hs:Zo [r.o,r.a] X [r.o,r.a] X'):ND0 X' d r { s with OW:=OW',OF:=OF' } c/\Zo r.own X r.own X':=by
 obtain⟨h1,h2,h3,h4,h5⟩:=hd.dis;have no:∀ j∈[r.o,r.a],j∈r.own:=fun j hj=>by
  simp only[List.mem_cons,List.not_mem_nil,or_false] at hj;rcases hj with rfl|rfl
  .exact r.mem_o
  .exact r.mem_a
 refine⟨⟨hs.get hd.cell (fun e=>hd.dnot (no _ e)),hd.m.step hs (by simp[h1,h2]),i',hd.gr.step hs (fun e=>hd.gnot (no _ e)) (fun j hj e=>?_),hd.ks,hd.dis⟩,hs.mono2 no⟩;simp only[List.mem_cons,List.not_mem_nil,or_false] at e;rcases e with rfl|rfl
 .exact h4 hj
 .exact h5 hj
theorem ND0.setG (hd:ND0 X d r s c) {G':ZdS} {mem':Mem} {K':List Tx} (g':Grp X' r.g r.o2 G' mem' c') (hs:Zo (Ji r.o2 r.G) X (Ji r.o2 G') X') (hk:ZK G'=K'):ND0 X' d { r with G:=G' } { s with K:=K',mem:=mem' } c'/\Zo r.own X (NR.own { r with G:=G' }) X':=by
 obtain⟨h1,h2,h3,h4,h5⟩:=hd.dis;have hb:=hd.isMap r.mem_b;have ho:=hd.isMap r.mem_o;have ha:=hd.isMap r.mem_a;have new:∀ j,j < X.length->j∉Ji r.o2 r.G->j∉Ji r.o2 G':=fun j hj hn hm=>by
  rcases hs.own j hm with e|e
  .exact hn e
  .omega
 refine⟨⟨hs.get hd.cell (fun e=>hd.dnot (r.mem_g _ e)),hd.m.step hs h3,hd.ix.step hs (fun e=>hd.xnot (r.mem_g _ e)) h4 h5,g',hk,⟨h1,h2,new _ hb.1 h3,new _ ho.1 h4,new _ ha.1 h5⟩⟩,hs.more r.mem_g (fun j hj=>?_)⟩;unfold NR.own at hj ⊢;rcases List.mem_cons.1 hj with rfl|hj
 .exact .inl (by simp)
 .rcases List.mem_cons.1 hj with rfl|hj
  .exact .inl (by simp)
  .rcases List.mem_cons.1 hj with rfl|hj
   .exact .inl (by simp)
   .exact .inr (.inl hj)
theorem Zd3 (hd:ND X d r s c):∃ (p:Nat) (X2:Zd),(∀ {β:Type} (K:Value->Value->M β),bind (R (n+9) QD [pt d,strv k]) (fun v12=>bind (Zu v12 0) fun v13=>bind (Zu v12 1) fun v14=>bind (alc 1 (.agg #[.string ⟨#[]⟩,.bool false])) fun v7=>bind (stA 2 v7 v13) fun _=>K v7 v14) X=K (pt p) (iv (ZH k s.A)) X2)/\
  X2[p]?=some (.cells [strv (if Zw k then Jg k s.A else([],false)).1,.bool (if Zw k then Jg k s.A else([],false)).2] 1 false false)/\HLe X X2/\X.length<=p:=by
 obtain⟨X1,e1,k1⟩:=ZA2 (n:=n+3) (k:=k) hd;have e1:R (n+9) QD [pt d,strv k] X=some (.tuple #[Zbg (if Zw k then Jg k s.A else([],false)),iv (ZH k s.A)],X1):=e1;generalize(if Zw k then Jg k s.A else([],false))=a at e1;refine⟨X1.length,X1++[.cells [strv a.1,.bool a.2] 1 false false],fun {β} K=>?_,Zn,k1.trans (.app _ _),k1.len⟩;rw[Za e1,Za Zp,Za Zq];exact ZaX (n:=2) (zs:=[strv [],.bool false]) (r:=[strv a.1,.bool a.2]) (k:=fun v7=>K v7 (iv (ZH k s.A))) rfl rfl rfl rfl
theorem Zzk {p:Nat} {X2 X3:Zd} {own:List Nat} {ob:Zf} (hle:HLe X X2) (hp:X.length<=p) (hs:Zo own (X2.set p ob) own X3):Zo own X own X3:=
 ⟨by have:=hle.len;have:=hs.len;rw[List.length_set] at this;omega,fun j hj hn=>by
  rw[hs.keep j (by rw[List.length_set];have:=hle.len;omega) hn,List.getElem?_set_ne (by omega)];exact hle.step.keep j hj (by simp),fun j hj=>.inl hj⟩
theorem ND0.box (hd:ND0 X d r s c) {p:Nat} {X2:Zd} {ob:Zf} (hle:HLe X X2) (hp:X.length<=p):ND0 (X2.set p ob) d r s c:=by
 have hs:Zo [] X [] (X2.set p ob):=⟨by rw[List.length_set];exact hle.len,fun j hj hn=>by
  rw[List.getElem?_set_ne (by omega)];exact hle.step.keep j hj (by simp),fun j hj=>by cases hj⟩
 exact hd.step hs (by simp) (by simp) (by simp) (by simp)
theorem ZtA {Y:Zd}:R (n+9) K1 [strv h] Y=some (iv (Qj h),Y):=Zp9 (n:=n+5)
theorem ZEq (hd:ND X d r s c):∃ X',R (n+10) Zby [pt d,strv k,strv h] X=some (iv (J6 k h s.A),X')/\ND X' d r (ZbR k h s) c/\Zo r.own X r.own X':=by
 obtain⟨p,X2,e1,c1,k1,hp⟩:=Zd3 (n:=n) (k:=k) hd;have h2:=hd.hle k1;have f1:∀ v X',ZbB (R (n+9)) (pt d) (strv k) (strv h) X=some (v,X')->R (n+10) Zby [pt d,strv k,strv h] X=some (v,X'):=fun v X' hr=>by rw[R,Zon rfl];exact hr
 have hstep:Zo r.own X r.own X2:=k1.stepq;by_cases he:J6 k h s.A=0
 .obtain⟨a1,a2,a3,a4⟩:=Zwr he;have hN:ZH k s.A=8:=by unfold ZH;rw[a1,a3];rfl
  rw[hN] at e1;obtain⟨X3,e3,m3,s3,_⟩:=h2.m.mup (k:=k) (v:=((h,false):Acc));have e3:mup .str (.map (some r.b)) (strv k) (Zbg (h,false)) X2=_:=e3;obtain⟨d3,s4⟩:=h2.toND0.setA m3 s3;have hn:ZbR k h s={ s with A:=Qw k (h,false) s.A }:=by unfold ZbR;rw[if_pos he]
  rw[he,hn];refine⟨X3,f1 _ _ ?_,⟨d3,by rw[<- hn];exact hd.inv.create k h⟩,hstep.trans s4⟩;have q1:bop .int .eql (iv 8) (.int .i64 10) X2=some (.bool false,X2):=by rw[ZA];rfl
  have q2:bop .int .neq (iv (Qj h)) (.int .i64 0) X2=some (.bool false,X2):=by rw[Zl];unfold Qj;rw[a2];rfl
  have q3:bop .int .eql (iv 8) (.int .i64 0) X2=some (.bool false,X2):=by rw[ZA];rfl
  have q4:bop .int .geq (iv s.A.length) (.int .i64 12) X2=some (.bool false,X2):=by rw[Qu,decide_eq_false (by omega)]
  have zb:bld (.agg #[.string ⟨#[]⟩,.bool false]) [(0,1,strv h)] X2=some (Zbg (h,false),X2):=by
   simp[bld,Zaj,Value.cells,YR,strv,splice,Zbg]
  unfold ZbB;refine(e1 _).trans ?_;rw[Za q1,Zb,if_neg (by simp),Za ZtA,Za q2,Zb,if_neg (by simp),Za q3,Zb,if_neg (by simp),Za Zg,Za Zi,Za h2.l0,Za h2.m.len,Za q4,Zb,if_neg (by simp),Za Zg,Za Zi,Za h2.l0,Za zb,Za e3];rfl
 .have hn:ZbR k h s=s:=by unfold ZbR;rw[if_neg he]
  rw[hn];refine⟨X2,f1 _ _ ?_,h2,hstep⟩;unfold ZbB;refine(e1 _).trans ?_;cases a1:Zw k
  .have hN:ZH k s.A=10:=by unfold ZH;rw[a1];rfl
   have hE:J6 k h s.A=10:=by unfold J6;rw[a1];rfl
   have q1:bop .int .eql (iv 10) (.int .i64 10) X2=some (.bool true,X2):=by rw[ZA];rfl
   rw[hN,hE,Za q1,Zb,if_pos rfl];rfl
  .have hN:ZH k s.A=0\/ZH k s.A=8:=by unfold ZH;rw[a1];cases (Ze k s.A).isSome<;>simp
   have q1:bop .int .eql (iv (ZH k s.A)) (.int .i64 10) X2=some (.bool false,X2):=by rw[ZA];rcases hN with h1|h1<;>rw[h1]<;>rfl
   rw[Za q1,Zb,if_neg (by simp),Za ZtA];cases a2:K9 h
   .have hE:J6 k h s.A=4:=by unfold J6;rw[a1,a2];rfl
    have q2:bop .int .neq (iv (Qj h)) (.int .i64 0) X2=some (.bool true,X2):=by rw[Zl];unfold Qj;rw[a2];rfl
    rw[Za q2,Zb,if_pos rfl,hE];rfl
   .have q2:bop .int .neq (iv (Qj h)) (.int .i64 0) X2=some (.bool false,X2):=by rw[Zl];unfold Qj;rw[a2];rfl
    rw[Za q2,Zb,if_neg (by simp)];cases a3:(Ze k s.A).isSome
    .have hN:ZH k s.A=8:=by unfold ZH;rw[a1,a3];rfl
     have q3:bop .int .eql (iv (ZH k s.A)) (.int .i64 0) X2=some (.bool false,X2):=by rw[ZA,hN];rfl
     have a4:12<=s.A.length:=by
      unfold J6 at he;rw[a1,a2,a3] at he;simpa using he
     have hE:J6 k h s.A=7:=by unfold J6;rw[a1,a2,a3];simp[a4]
     have q4:bop .int .geq (iv s.A.length) (.int .i64 12) X2=some (.bool true,X2):=by rw[Qu,decide_eq_true (by omega)]
     rw[Za q3,Zb,if_neg (by simp),Za Zg,Za Zi,Za h2.l0,Za h2.m.len,Za q4,Zb,if_pos rfl,hE];rfl
    .have hN:ZH k s.A=0:=by unfold ZH;rw[a1,a3];rfl
     have hE:J6 k h s.A=9:=by unfold J6;rw[a1,a2,a3];rfl
     have q3:bop .int .eql (iv (ZH k s.A)) (.int .i64 0) X2=some (.bool true,X2):=by rw[ZA,hN];rfl
     rw[Za q3,Zb,if_pos rfl,hE];rfl
theorem ZD5 (hd:ND X d r s c):∃ X',R (n+10) Zbi [pt d,strv k] X=some (iv (ZH k s.A),X')/\ND X' d r (ZbP k s) c/\Zo r.own X r.own X':=by
 obtain⟨p,X2,e1,c1,k1,hp⟩:=Zd3 (n:=n) (k:=k) hd;have h2:=hd.hle k1;have f1:∀ v X',Zbu (R (n+9)) (pt d) (strv k) X=some (v,X')->R (n+10) Zbi [pt d,strv k] X=some (v,X'):=fun v X' hr=>by rw[R,Zph rfl];exact hr
 have hstep:Zo r.own X r.own X2:=k1.stepq;by_cases he:ZH k s.A=0
 .obtain⟨X3,e3,m3,s3,_⟩:=h2.m.mde (k:=k);obtain⟨d3,t3⟩:=h2.toND0.setA m3 s3;obtain⟨X4,e4,i4,s4⟩:=ZpX (n:=n+8) (k:=k) d3.ix;have e4:R (n+9) JI [pt r.x,strv k] X3=_:=e4;obtain⟨d4,t4⟩:=d3.setI i4 s4;obtain⟨X5,e5,g5,s5⟩:=ZD8 (n:=n+1) (m:=k) d4.gr;have e5:R (n+9) WU [pt r.g,strv k] X4=_:=e5;obtain⟨d5,t5⟩:=d4.setG g5 s5 hd.ks;have q1:bop .int .neq (iv (ZH k s.A)) (.int .i64 0) X2=some (.bool false,X2):=by rw[Zl,he];rfl
  have hn:ZbP k s={ s with A:=Yx k s.A,OW:=ZbG k s.OW s.OF,OF:=Ws k s.OF,mem:=Zkf k s.mem }:=by unfold ZbP;rw[if_pos he]
  have hinv:=hd.inv.delete k;rw[hn] at hinv ⊢;refine⟨X5,f1 _ _ ?_,⟨d5,hinv⟩,((hstep.trans t3).trans t4).trans t5⟩;unfold Zbu;refine(e1 _).trans ?_;rw[Za q1,Zb,if_neg (by simp),Za Zg,Za Zi,Za h2.l0,Za e3,Za Zg,Za Zi,Za d3.l1,Za e4,Za Zg,Za Zi,Za d4.l2,Za e5,he];rfl
 .have hn:ZbP k s=s:=by unfold ZbP;rw[if_neg he]
  have q1:bop .int .neq (iv (ZH k s.A)) (.int .i64 0) X2=some (.bool true,X2):=by rw[Zl];simp[he]
  rw[hn];refine⟨X2,f1 _ _ ?_,h2,hstep⟩;unfold Zbu;refine(e1 _).trans ?_;rw[Za q1,Zb,if_pos rfl];rfl
theorem ZCl (hd:ND X d r s c):∃ X',R (n+10) ZaM [pt d,strv k,strv h] X=some (iv (Jq k h s.A),X')/\ND X' d r (Zax k h s) c/\Zo r.own X r.own X':=by
 obtain⟨p,X2,e1,c1,k1,hp⟩:=Zd3 (n:=n) (k:=k) hd;have h2:=hd.hle k1;have f1:∀ v X',ZaH (R (n+9)) (pt d) (strv k) (strv h) X=some (v,X')->R (n+10) ZaM [pt d,strv k,strv h] X=some (v,X'):=fun v X' hr=>by rw[R,Znn rfl];exact hr
 have hstep:Zo r.own X r.own X2:=k1.stepq;by_cases he:Jq k h s.A=0
 .obtain⟨a1,a2,a3,a4⟩:=ZuI he;have hN:ZH k s.A=0:=by unfold ZH;rw[a1,a3];rfl
  rw[hN] at e1;rw[a1] at c1;have c1:X2[p]?=some (.cells [strv (Jg k s.A).1,.bool (Jg k s.A).2] 1 false false):=c1;have l1:ld1 (pa p 1) X2=some (.bool false,X2):=by rw[Zy c1 rfl,a4]
  have w1:st1 (pa p 0) (strv h) X2=some (undef,X2.set p (.cells [strv h,.bool (Jg k s.A).2] 1 false false)):=Wq (o:=0) c1 (by simp) rfl;have d2:ldA 2 (pt p) (X2.set p (.cells [strv h,.bool (Jg k s.A).2] 1 false false))=some (Zbg (h,(Jg k s.A).2),_):=Z8 (n:=2) (ZW c1) rfl;have h3:=hd.toND0.box (ob:=.cells [strv h,.bool (Jg k s.A).2] 1 false false) k1 hp;obtain⟨X3,e3,m3,s3,_⟩:=h3.m.mup (k:=k) (v:=((h,(Jg k s.A).2):Acc));obtain⟨d3,s4⟩:=h3.setA m3 s3;have hn:Zax k h s={ s with A:=Qw k (h,(Jg k s.A).2) s.A }:=by unfold Zax;rw[if_pos he]
  have hinv:=hd.inv.setHash k h;rw[hn] at hinv ⊢;rw[he];refine⟨X3,f1 _ _ ?_,⟨d3,hinv⟩,Zzk k1 hp s4⟩;have q1:bop .int .eql (iv 0) (.int .i64 10) X2=some (.bool false,X2):=by rw[ZA];rfl
  have q2:bop .int .neq (iv (Qj h)) (.int .i64 0) X2=some (.bool false,X2):=by rw[Zl];unfold Qj;rw[a2];rfl
  have q3:bop .int .neq (iv 0) (.int .i64 0) X2=some (.bool false,X2):=by rw[Zl];rfl
  unfold ZaH;refine(e1 _).trans ?_;rw[Za q1,Zb,if_neg (by simp),Za ZtA,Za q2,Zb,if_neg (by simp),Za q3,Zb,if_neg (by simp),Za Zi,Za l1,Zb,if_neg (by simp),Za Zi,Za w1,Za Zg,Za Zi,Za h3.l0,Za d2,Za e3];rfl
 .have hn:Zax k h s=s:=by unfold Zax;rw[if_neg he]
  rw[hn];refine⟨X2,f1 _ _ ?_,h2,hstep⟩;unfold ZaH;refine(e1 _).trans ?_;cases a1:Zw k
  .have hN:ZH k s.A=10:=by unfold ZH;rw[a1];rfl
   have hE:Jq k h s.A=10:=by unfold Jq;rw[a1];rfl
   have q1:bop .int .eql (iv 10) (.int .i64 10) X2=some (.bool true,X2):=by rw[ZA];rfl
   rw[hN,hE,Za q1,Zb,if_pos rfl];rfl
  .rw[a1] at c1;have c1:X2[p]?=some (.cells [strv (Jg k s.A).1,.bool (Jg k s.A).2] 1 false false):=c1;have hN:ZH k s.A=0\/ZH k s.A=8:=by unfold ZH;rw[a1];cases (Ze k s.A).isSome<;>simp
   have q1:bop .int .eql (iv (ZH k s.A)) (.int .i64 10) X2=some (.bool false,X2):=by rw[ZA];rcases hN with h1|h1<;>rw[h1]<;>rfl
   rw[Za q1,Zb,if_neg (by simp),Za ZtA];cases a2:K9 h
   .have hE:Jq k h s.A=4:=by unfold Jq;rw[a1,a2];rfl
    have q2:bop .int .neq (iv (Qj h)) (.int .i64 0) X2=some (.bool true,X2):=by rw[Zl];unfold Qj;rw[a2];rfl
    rw[Za q2,Zb,if_pos rfl,hE];rfl
   .have q2:bop .int .neq (iv (Qj h)) (.int .i64 0) X2=some (.bool false,X2):=by rw[Zl];unfold Qj;rw[a2];rfl
    rw[Za q2,Zb,if_neg (by simp)];cases a3:(Ze k s.A).isSome
    .have hN:ZH k s.A=8:=by unfold ZH;rw[a1,a3];rfl
     have hE:Jq k h s.A=8:=by unfold Jq;rw[a1,a2,a3];rfl
     have q3:bop .int .neq (iv (ZH k s.A)) (.int .i64 0) X2=some (.bool true,X2):=by rw[Zl,hN];rfl
     rw[Za q3,Zb,if_pos rfl,hE,hN];rfl
    .have hN:ZH k s.A=0:=by unfold ZH;rw[a1,a3];rfl
     have q3:bop .int .neq (iv (ZH k s.A)) (.int .i64 0) X2=some (.bool false,X2):=by rw[Zl,hN];rfl
     have a4:(Jg k s.A).2=true:=by
      unfold Jq at he;rw[a1,a2,a3] at he;simpa using he
     have hE:Jq k h s.A=12:=by unfold Jq;rw[a1,a2,a3,a4];rfl
     have l1:ld1 (pa p 1) X2=some (.bool true,X2):=by rw[Zy c1 rfl,a4]
     rw[Za q3,Zb,if_neg (by simp),Za Zi,Za l1,Zb,if_pos rfl,hE];rfl
theorem ZCA (hd:ND X d r s c):∃ X',R (n+10) WE [pt d,strv k,strv m] X=some (iv (Jh k m s),X')/\ND X' d r (Kr k m s) c/\Zo r.own X r.own X':=by
 obtain⟨p,X2,e1,c1,k1,hp⟩:=Zd3 (n:=n) (k:=k) hd;have f1:∀ v X',KL (R (n+9)) (pt d) (strv k) (strv m) X=some (v,X')->R (n+10) WE [pt d,strv k,strv m] X=some (v,X'):=fun v X' hr=>by rw[R,Znt rfl];exact hr
 obtain⟨X3,e3,k3⟩:=Zus (n:=n+1) (s:=m) (X:=X2);have e3:R (n+9) ZaS [strv m] X2=_:=e3;have k13:=k1.trans k3;have h3:=hd.hle k13;have hstep:Zo r.own X r.own X3:=k13.stepq;have hgate:∀ K:Value->M Value,bind (bop .str .neq (strv m) (Value.string ⟨#[]⟩)) (fun v28=>bind (gate v28 true 2 (bind (bop .int .neq (iv (if Yp m then 0 else 11)) (Value.int .i64 0)) fun v31=>ret [iv (if Yp m then 0 else 11),v31])) (c2 fun _ q=>bind (pick v28 q (Value.bool false)) K)) X3=K (.bool (decide (m≠[]/\Yp m=false))) X3:=fun K=>by
  have q0:bop .str .neq (strv m) (.string ⟨#[]⟩) X3=some (.bool (decide (m≠[])),X3):=by
   have:=Zhl (a:=m) (b:=[]) (H:=X3);rw[show(strv []:Value)=.string ⟨#[]⟩ from rfl] at this;rw[this];by_cases h:m=[]<;>simp[h]
  have q1:bop .int .neq (iv (if Yp m then 0 else 11)) (.int .i64 0) X3=some (.bool (!Yp m),X3):=by
   rw[Zl];cases Yp m<;>rfl
  rw[Za q0];by_cases h:m=[]
  .rw[decide_eq_false (fun e=>e h),Za (g_r.trans (if_neg (by simp)))];simp only[List.replicate];rw[ZT,Za Zk,decide_eq_false (fun e=>e.1 h)];rfl
  .rw[decide_eq_true h,Z4,Zm,Za q1,Z5,ZT,Za Zk];cases hm:Yp m<;>simp[h]
 cases a1:Zw k
 .have hN:ZH k s.A=10:=by unfold ZH;rw[a1];rfl
  have hE:Jh k m s=10:=by unfold Jh;rw[a1];rfl
  have hn:Kr k m s=s:=by unfold Kr;rw[if_neg (by rw[hE];decide)]
  have q1:bop .int .eql (iv 10) (.int .i64 10) X3=some (.bool true,X3):=by rw[ZA];rfl
  rw[hn,hE];refine⟨X3,f1 _ _ ?_,h3,hstep⟩;unfold KL;refine(e1 _).trans ?_;rw[Za e3,Za Zp,Za Zq,hN,Za q1,Zb,if_pos rfl];rfl
 .have hN:ZH k s.A=0\/ZH k s.A=8:=by unfold ZH;rw[a1];cases (Ze k s.A).isSome<;>simp
  have q1:bop .int .eql (iv (ZH k s.A)) (.int .i64 10) X3=some (.bool false,X3):=by rw[ZA];rcases hN with h1|h1<;>rw[h1]<;>rfl
  by_cases hb:m≠[]/\Yp m=false
  .have hE:Jh k m s=11:=by unfold Jh;rw[a1];simp[hb]
   have hn:Kr k m s=s:=by unfold Kr;rw[if_neg (by rw[hE];decide)]
   rw[hn,hE];refine⟨X3,f1 _ _ ?_,h3,hstep⟩;unfold KL;refine(e1 _).trans ?_;rw[Za e3,Za Zp,Za Zq,Za q1,Zb,if_neg (by simp)];refine(hgate _).trans ?_;rw[decide_eq_true hb,Zb,if_pos rfl,hb.2];rfl
  .cases a3:(Ze k s.A).isSome
   .have hN:ZH k s.A=8:=by unfold ZH;rw[a1,a3];rfl
    have hE:Jh k m s=8:=by unfold Jh;rw[a1,if_pos rfl,if_neg hb,a3];rfl
    have hn:Kr k m s=s:=by unfold Kr;rw[if_neg (by rw[hE];decide)]
    have q3:bop .int .neq (iv (ZH k s.A)) (.int .i64 0) X3=some (.bool true,X3):=by rw[Zl,hN];rfl
    rw[hn,hE];refine⟨X3,f1 _ _ ?_,h3,hstep⟩;unfold KL;refine(e1 _).trans ?_;rw[Za e3,Za Zp,Za Zq,Za q1,Zb,if_neg (by simp)];refine(hgate _).trans ?_;rw[decide_eq_false hb,Zb,if_neg (by simp),Za q3,Zb,if_pos rfl,hN];rfl
   .have hN:ZH k s.A=0:=by unfold ZH;rw[a1,a3];rfl
    have hE:Jh k m s=Kj k m s.OW:=by unfold Jh;rw[a1,if_pos rfl,if_neg hb,a3];rfl
    have q3:bop .int .neq (iv (ZH k s.A)) (.int .i64 0) X3=some (.bool false,X3):=by rw[Zl,hN];rfl
    obtain⟨X4,e4,i4,s4⟩:=ZDC (n:=n) (k:=k) (m:=m) h3.ix;obtain⟨d4,t4⟩:=h3.toND0.setI i4 s4;have hn:Kr k m s={ s with OW:=ZmH k m s.OW s.OF,OF:=ZdJ k m s.OW s.OF }:=by
     unfold Kr;by_cases h0:Jh k m s=0
     .rw[if_pos h0]
     .rw[if_neg h0];rw[hE] at h0;unfold ZmH ZdJ;rw[if_neg h0,if_neg h0]
    have hinv:=hd.inv.setMail k m;rw[hn] at hinv ⊢;rw[hE];refine⟨X4,f1 _ _ ?_,⟨d4,hinv⟩,hstep.trans t4⟩;unfold KL;refine(e1 _).trans ?_;rw[Za e3,Za Zp,Za Zq,Za q1,Zb,if_neg (by simp)];refine(hgate _).trans ?_;rw[decide_eq_false hb,Zb,if_neg (by simp),Za q3,Zb,if_neg (by simp),Za Zg,Za Zi,Za h3.l1,Za e4];rfl
theorem Ztv {b:Bool} (hd:ND X d r s c):∃ X',R (n+10) YW [pt d,strv k,.bool b] X=some (iv (Jf k b s.A),X')/\ND X' d r (Y4 k b s) c/\Zo r.own X r.own X':=by
 obtain⟨p,X2,e1,c1,k1,hp⟩:=Zd3 (n:=n) (k:=k) hd;have h2:=hd.hle k1;have f1:∀ v X',WH (R (n+9)) (pt d) (strv k) (.bool b) X=some (v,X')->R (n+10) YW [pt d,strv k,.bool b] X=some (v,X'):=fun v X' hr=>by rw[R,ZnI rfl];exact hr
 have hstep:Zo r.own X r.own X2:=k1.stepq;by_cases hN:ZH k s.A=0
 .obtain⟨a1,_⟩:=Ztd hN;rw[a1] at c1;have c1:X2[p]?=some (.cells [strv (Jg k s.A).1,.bool (Jg k s.A).2] 1 false false):=c1;have l1:ld1 (pa p 1) X2=some (.bool (Jg k s.A).2,X2):=Zy c1 rfl;have q1:bop .int .neq (iv (ZH k s.A)) (.int .i64 0) X2=some (.bool false,X2):=by rw[Zl,hN];rfl
  by_cases hb:(Jg k s.A).2=b
  .have hE:Jf k b s.A=12:=by unfold Jf;rw[if_pos hN,if_pos hb]
   have hn:Y4 k b s=s:=by unfold Y4;rw[if_neg (by rw[hE];decide)]
   have q2:bop .bool .eql (.bool (Jg k s.A).2) (.bool b) X2=some (.bool true,X2):=by rw[JS,hb];simp
   rw[hn,hE];refine⟨X2,f1 _ _ ?_,h2,hstep⟩;unfold WH;refine(e1 _).trans ?_;rw[Za q1,Zb,if_neg (by simp),Za Zi,Za l1,Za q2,Zb,if_pos rfl];rfl
  .have hE:Jf k b s.A=0:=by unfold Jf;rw[if_pos hN,if_neg hb]
   have q2:bop .bool .eql (.bool (Jg k s.A).2) (.bool b) X2=some (.bool false,X2):=by rw[JS];simp[hb]
   have w1:st1 (pa p 1) (.bool b) X2=some (undef,X2.set p (.cells [strv (Jg k s.A).1,.bool b] 1 false false)):=Wq (o:=1) c1 (by simp) rfl;have d2:ldA 2 (pt p) (X2.set p (.cells [strv (Jg k s.A).1,.bool b] 1 false false))=some (Zbg ((Jg k s.A).1,b),_):=Z8 (n:=2) (ZW c1) rfl;have h3:=hd.toND0.box (ob:=.cells [strv (Jg k s.A).1,.bool b] 1 false false) k1 hp;obtain⟨X3,e3,m3,s3,_⟩:=h3.m.mup (k:=k) (v:=(((Jg k s.A).1,b):Acc));obtain⟨d3,s4⟩:=h3.setA m3 s3;have hn:Y4 k b s={ s with A:=Qw k ((Jg k s.A).1,b) s.A }:=by unfold Y4;rw[if_pos hE]
   have hinv:=hd.inv.disable k b;rw[hn] at hinv ⊢;rw[hE];refine⟨X3,f1 _ _ ?_,⟨d3,hinv⟩,Zzk k1 hp s4⟩;unfold WH;refine(e1 _).trans ?_;rw[Za q1,Zb,if_neg (by simp),Za Zi,Za l1,Za q2,Zb,if_neg (by simp),Za Zi,Za w1,Za Zg,Za Zi,Za h3.l0,Za d2,Za e3];rfl
 .have hE:Jf k b s.A=ZH k s.A:=by unfold Jf;rw[if_neg hN]
  have hn:Y4 k b s=s:=by unfold Y4;rw[if_neg (by rw[hE];exact hN)]
  have q1:bop .int .neq (iv (ZH k s.A)) (.int .i64 0) X2=some (.bool true,X2):=by rw[Zl];simp[hN]
  rw[hn,hE];refine⟨X2,f1 _ _ ?_,h2,hstep⟩;unfold WH;refine(e1 _).trans ?_;rw[Za q1,Zb,if_pos rfl];rfl
theorem ZDm (hd:ND X d r s c):∃ X',R (n+10) W6 [pt d,strv o,strv t] X=some (iv (J5 o t s.A),X')/\ND X' d r (Zbf o t s) c/\Zo r.own X r.own X':=by
 obtain⟨p,X2,e1,c1,k1,hp⟩:=Zd3 (n:=n) (k:=o) hd;obtain⟨p2,X3,e2,b2,k2,hp2⟩:=Zd3 (n:=n) (k:=t) (hd.hle k1);have k12:=k1.trans k2;have h3:=hd.hle k12;have c13:=k2 _ _ c1;have hstep:Zo r.own X r.own X3:=k12.stepq;have f1:∀ v X',Zbm (R (n+9)) (pt d) (strv o) (strv t) X=some (v,X')->R (n+10) W6 [pt d,strv o,strv t] X=some (v,X'):=fun v X' hr=>by rw[R,ZpG rfl];exact hr
 have e10:∀ (k:Tx),(ZH k s.A==10)=!Zw k:=fun k=>by
  unfold ZH;cases Zw k
  .rfl
  .cases (Ze k s.A).isSome<;>rfl
 have q1:bop .int .eql (iv (ZH o s.A)) (.int .i64 10) X3=some (.bool (!Zw o),X3):=by rw[ZA,e10]
 have q2:bop .int .eql (iv (ZH t s.A)) (.int .i64 10) X3=some (.bool (!Zw t),X3):=by rw[ZA,e10]
 have hgate:∀ K:Value->M Value,bind (bop .int .eql (iv (ZH o s.A)) (.int .i64 10)) (fun v25=>bind (gate v25 false 2 (bind (bop .int .eql (iv (ZH t s.A)) (Value.int .i64 10)) fun v28=>ret [iv (ZH t s.A),v28])) (c2 fun _ q=>bind (pick v25 (Value.bool true) q) K)) X3=K (.bool (!(Zw o && Zw t))) X3:=fun K=>by
  rw[Za q1];cases Zw o
  .simp only[Bool.not_false];rw[Za (g_r.trans (if_neg (by simp)))];simp only[List.replicate];rw[ZT,Za Zk];rfl
  .simp only[Bool.not_true];rw[Z4,Zm,Za q2,Z5,ZT,Za Zk];cases Zw t<;>rfl
 by_cases he:J5 o t s.A=0
 .obtain⟨a1,a2,a3,a4,a5⟩:=Zwu he;have hN1:ZH o s.A=0:=by unfold ZH;rw[a1,a3];rfl
  have hN2:ZH t s.A=8:=by unfold ZH;rw[a2,a4];rfl
  rw[a1] at c13;have c13:X3[p]?=some (.cells [strv (Jg o s.A).1,.bool (Jg o s.A).2] 1 false false):=c13;have q3:bop .int .neq (iv (ZH o s.A)) (.int .i64 0) X3=some (.bool false,X3):=by rw[Zl,hN1];rfl
  have q4:bop .int .eql (iv (ZH t s.A)) (.int .i64 0) X3=some (.bool false,X3):=by rw[ZA,hN2];rfl
  obtain⟨X4,e4,m4,s4,_⟩:=h3.m.mde (k:=o);obtain⟨d4,t4⟩:=h3.toND0.setA m4 s4;have d4':ldA 2 (pt p) X4=some (Zbg (Jg o s.A),X4):=by
   have c14:X4[p]?=some (.cells [strv (Jg o s.A).1,.bool (Jg o s.A).2] 1 false false):=(h3.toND0.cle t4) _ _ _ _ _ c13;exact Z8 (n:=2) c14 rfl
  obtain⟨X5,e5,m5,s5,_⟩:=d4.m.mup (k:=t) (v:=Jg o s.A);obtain⟨d5,t5⟩:=d4.setA m5 s5;obtain⟨X6,e6,i6,s6⟩:=ZIV (n:=n+3) (old:=o) (next:=t) d5.ix;have e6:R (n+9) WF [pt r.x,strv o,strv t] X5=_:=e6;obtain⟨d6,t6⟩:=d5.setI i6 s6;obtain⟨X7,e7,g7,s7⟩:=ZIM (n:=n+1) (s:=o) (t:=t) d6.gr;have e7:R (n+9) KP [pt r.g,strv o,strv t] X6=_:=e7;have hks:ZK r.G=s.K:=hd.ks;have hren:Zlr o t (ZK r.G) s.mem=0:=by
   unfold Zlr;rw[a2,if_pos rfl,if_neg a5];have:ofL t (ZK r.G) s.mem=[]:=by
    unfold ofL;rw[List.filter_eq_nil_iff];intro x hx;rw[hd.inv.memN a4 x];simp
   rw[if_pos this]
  have g7:Grp X7 r.g r.o2 r.G (if Zlr o t (ZK r.G) s.mem=0 then Zd2 o t s.mem else s.mem) c:=g7;rw[if_pos hren] at g7;obtain⟨d7,t7⟩:=d6.setG g7 s7 hks;have hn:Zbf o t s={ s with A:=Qw t (Jg o s.A) (Yx o s.A),OW:=ZrM o t s.OW s.OF,OF:=ZjL o t s.OF,mem:=Zd2 o t s.mem }:=by unfold Zbf;rw[if_pos he]
  have hinv:=hd.inv.rename o t;rw[hn] at hinv ⊢;rw[he];refine⟨X7,f1 _ _ ?_,⟨d7,hinv⟩,(((hstep.trans t4).trans t5).trans t6).trans t7⟩;unfold Zbm;refine(e1 _).trans ((e2 _).trans ((hgate _).trans ?_));rw[a1,a2];simp only[Bool.and_self,Bool.not_true];rw[Zb,if_neg (by simp),Za q3,Zb,if_neg (by simp),Za q4,Zb,if_neg (by simp),Za Zg,Za Zi,Za h3.l0,Za e4,Za Zg,Za Zi,Za d4.l0,Za d4',Za e5,Za Zg,Za Zi,Za d5.l1,Za e6,Za Zg,Za Zi,Za d6.l2,Za e7];rfl
 .have hn:Zbf o t s=s:=by unfold Zbf;rw[if_neg he]
  rw[hn];refine⟨X3,f1 _ _ ?_,h3,hstep⟩;unfold Zbm;refine(e1 _).trans ((e2 _).trans ((hgate _).trans ?_));cases ab:Zw o && Zw t
  .have hE:J5 o t s.A=10:=by unfold J5;rw[ab];rfl
   rw[Zb,if_pos (by rfl),hE];rfl
  .have ab':=ab;simp only[Bool.and_eq_true] at ab';rw[Zb,if_neg (by simp)];cases a3:(Ze o s.A).isSome
   .have hN1:ZH o s.A=8:=by unfold ZH;rw[ab'.1,a3];rfl
    have hE:J5 o t s.A=8:=by unfold J5;rw[ab,a3];rfl
    have q3:bop .int .neq (iv (ZH o s.A)) (.int .i64 0) X3=some (.bool true,X3):=by rw[Zl,hN1];rfl
    rw[Za q3,Zb,if_pos rfl,hE,hN1];rfl
   .have hN1:ZH o s.A=0:=by unfold ZH;rw[ab'.1,a3];rfl
    have q3:bop .int .neq (iv (ZH o s.A)) (.int .i64 0) X3=some (.bool false,X3):=by rw[Zl,hN1];rfl
    have a4:(Ze t s.A).isSome=true:=by
     unfold J5 at he;rw[ab,a3] at he;cases h4:(Ze t s.A).isSome
     .rw[h4] at he;simp at he
     .rfl
    have hN2:ZH t s.A=0:=by unfold ZH;rw[ab'.2,a4];rfl
    have hE:J5 o t s.A=9:=by unfold J5;rw[ab,a3,a4];rfl
    have q4:bop .int .eql (iv (ZH t s.A)) (.int .i64 0) X3=some (.bool true,X3):=by rw[ZA,hN2];rfl
    rw[Za q3,Zb,if_neg (by simp),Za q4,Zb,if_pos rfl,hE];rfl
theorem ZG5 (hd:ND X d r s c):∃ X' r',R (n+10) WT [pt d,strv g] X=some (iv (Jp g s.K),X')/\ND X' d r' (Zi7 g s) c/\Zo r.own X r'.own X':=by
 obtain⟨X1,G',e1,g1,k1,s1⟩:=ZA3 (n:=n+1) (k:=g) hd.gr;have e1:R (n+9) Yt [pt r.g,strv g] X=_:=e1;rw[hd.ks] at e1 k1;obtain⟨d1,t1⟩:=hd.toND0.setG g1 s1 k1;refine⟨X1,_,?_,⟨d1,hd.inv.make g⟩,t1⟩;rw[R,ZlP rfl];unfold Zdn;rw[Za Zg,Za Zi,Za hd.l2,Za e1];rfl
theorem ZHS (hd:ND X d r s c):∃ X' r',R (n+10) WY [pt d,strv g] X=some (iv (Q6 g s.K),X')/\ND X' d r' (ZiW g s) c/\Zo r.own X r'.own X':=by
 obtain⟨X1,G',e1,g1,k1,s1⟩:=ZHj (n:=n+1) (k:=g) hd.gr;have e1:R (n+9) WK [pt r.g,strv g] X=_:=e1;rw[hd.ks] at e1 g1 k1;obtain⟨d1,t1⟩:=hd.toND0.setG g1 s1 k1;refine⟨X1,_,?_,⟨d1,hd.inv.drop g⟩,t1⟩;rw[R,ZlK rfl];unfold Zdm;rw[Za Zg,Za Zi,Za hd.l2,Za e1];rfl
theorem Zwy (hd:ND X d r s c):∃ X',R (n+10) W8 [pt d,strv g,strv k] X=some (iv (JG g k s.A),X')/\HLe X X':=by
 have e0:R (n+9) QR [strv g] X=some (iv (ZE g),X):=Zdi (n:=n+4);obtain⟨p,X2,e1,c1,k1,hp⟩:=Zd3 (n:=n) (k:=k) hd;have f1:∀ v X',Zbx (R (n+9)) (pt d) (strv g) (strv k) X=some (v,X')->R (n+10) W8 [pt d,strv g,strv k] X=some (v,X'):=fun v X' hr=>by rw[R,ZoT rfl];exact hr
 cases hg:Zw g
 .have q1:bop .int .neq (iv (ZE g)) (.int .i64 0) X=some (.bool true,X):=by rw[Zl];unfold ZE;rw[hg];rfl
  have hE:JG g k s.A=10:=by unfold JG;rw[hg];rfl
  refine⟨X,f1 _ _ ?_,.refl _⟩;unfold Zbx;rw[Za e0,Za q1,Zb,if_pos rfl,hE,show ZE g=10 by unfold ZE;rw[hg];rfl];rfl
 .have q1:bop .int .neq (iv (ZE g)) (.int .i64 0) X=some (.bool false,X):=by rw[Zl];unfold ZE;rw[hg];rfl
  have hE:JG g k s.A=ZH k s.A:=by unfold JG;rw[hg];rfl
  refine⟨X2,f1 _ _ ?_,k1⟩;unfold Zbx;rw[Za e0,Za q1,Zb,if_neg (by simp),hE];exact e1 _
theorem ZHY (hd:ND X d r s c):∃ X',R (n+11) Zbb [pt d,strv g,strv k] X=some (iv (Wj g k s),X')/\ND X' d r (Zd5 g k s) (c+1)/\Zo r.own X r.own X':=by
 obtain⟨X1,e1,k1⟩:=Zwy (n:=n) (g:=g) (k:=k) hd;have h1:=hd.hle k1;have f1:∀ v X',ZcE (R (n+10)) (pt d) (strv g) (strv k) X=some (v,X')->R (n+11) Zbb [pt d,strv g,strv k] X=some (v,X'):=fun v X' hr=>by rw[R,Zso rfl];exact hr
 have hinv:=hd.inv.join g k;by_cases hm:JG g k s.A=0
 .have q1:bop .int .neq (iv (JG g k s.A)) (.int .i64 0) X1=some (.bool false,X1):=by rw[Zl,hm];rfl
  have hE:Wj g k s=Zav g k s.K s.mem:=by unfold Wj;rw[if_pos hm]
  obtain⟨X2,e2,g2,s2⟩:=ZAU (n:=n+2) (k:=g) (m:=k) h1.gr;have e2:R (n+10) YT [pt r.g,strv g,strv k] X1=_:=e2;rw[h1.ks] at e2 g2;obtain⟨d2,t2⟩:=h1.toND0.setG g2 s2 h1.ks;have hn:Zd5 g k s={ s with K:=s.K,mem:=if Zav g k s.K s.mem=0 then Zgx g k s.mem else s.mem }:=by
   unfold Zd5;rw[hE];by_cases h0:Zav g k s.K s.mem=0
   .rw[if_pos h0,if_pos h0]
   .rw[if_neg h0,if_neg h0]
  rw[hn] at hinv ⊢;rw[hE];refine⟨X2,f1 _ _ ?_,⟨d2,hinv⟩,k1.stepq.trans t2⟩;unfold ZcE;rw[Za e1,Za q1,Zb,if_neg (by simp),Za Zg,Za Zi,Za h1.l2,Za e2];rfl
 .have q1:bop .int .neq (iv (JG g k s.A)) (.int .i64 0) X1=some (.bool true,X1):=by rw[Zl];simp[hm]
  have hE:Wj g k s=JG g k s.A:=by unfold Wj;rw[if_neg hm]
  have hn:Zd5 g k s=s:=by unfold Zd5;rw[if_neg (by rw[hE];exact hm)]
  rw[hn,hE];refine⟨X1,f1 _ _ ?_,⟨h1.toND0.more (Nat.le_succ c),hd.inv⟩,k1.stepq⟩;unfold ZcE;rw[Za e1,Za q1,Zb,if_pos rfl];rfl
theorem ZFU (hd:ND X d r s c):∃ X',R (n+11) Zas [pt d,strv g,strv k] X=some (iv (KB g k s),X')/\ND X' d r (ZcK g k s) (c+1)/\Zo r.own X r.own X':=by
 obtain⟨X1,e1,k1⟩:=Zwy (n:=n) (g:=g) (k:=k) hd;have h1:=hd.hle k1;have f1:∀ v X',Zb9 (R (n+10)) (pt d) (strv g) (strv k) X=some (v,X')->R (n+11) Zas [pt d,strv g,strv k] X=some (v,X'):=fun v X' hr=>by rw[R,Zqj rfl];exact hr
 have hinv:=hd.inv.leave g k;by_cases hm:JG g k s.A=0
 .have q1:bop .int .neq (iv (JG g k s.A)) (.int .i64 0) X1=some (.bool false,X1):=by rw[Zl,hm];rfl
  have hE:KB g k s=Zcp g k s.K s.mem:=by unfold KB;rw[if_pos hm]
  obtain⟨X2,e2,g2,s2⟩:=ZFn (n:=n+2) (k:=g) (m:=k) h1.gr;have e2:R (n+10) Wi [pt r.g,strv g,strv k] X1=_:=e2;rw[h1.ks] at e2 g2;obtain⟨d2,t2⟩:=h1.toND0.setG g2 s2 h1.ks;have hn:ZcK g k s={ s with K:=s.K,mem:=if Zcp g k s.K s.mem=0 then Zjo g k s.mem else s.mem }:=by
   unfold ZcK;rw[hE];by_cases h0:Zcp g k s.K s.mem=0
   .rw[if_pos h0,if_pos h0]
   .rw[if_neg h0,if_neg h0]
  rw[hn] at hinv ⊢;rw[hE];refine⟨X2,f1 _ _ ?_,⟨d2,hinv⟩,k1.stepq.trans t2⟩;unfold Zb9;rw[Za e1,Za q1,Zb,if_neg (by simp),Za Zg,Za Zi,Za h1.l2,Za e2];rfl
 .have q1:bop .int .neq (iv (JG g k s.A)) (.int .i64 0) X1=some (.bool true,X1):=by rw[Zl];simp[hm]
  have hE:KB g k s=JG g k s.A:=by unfold KB;rw[if_neg hm]
  have hn:ZcK g k s=s:=by unfold ZcK;rw[if_neg (by rw[hE];exact hm)]
  rw[hn,hE];refine⟨X1,f1 _ _ ?_,⟨h1.toND0.more (Nat.le_succ c),hd.inv⟩,k1.stepq⟩;unfold Zb9;rw[Za e1,Za q1,Zb,if_pos rfl];rfl
theorem ZHz (hd:ND X d r s c):∃ X' d' r',R (n+4) Zbd [pt d] X=some (pt d',X')/\ND X' d' r' s c/\HLe X X'/\X.length<=d'/\∀ j∈r'.own,X.length<=j:=by
 obtain⟨X1,e1,m1,k1⟩:=hd.m.clone;have e1':R (n+3) Jz [.map (some r.b)] X=some (.map (some X.length),X1):=by
  show run Tryz.prog np lvs (n+3) _ _ X=_
  rw[Zbp (show np Jz=some ZbU from rfl)];exact e1
 have h1:=hd.hle k1;obtain⟨X2,x',o',a',e2,i2,k2,p1,p2,p3⟩:=ZHl (n:=n+1) h1.ix;have e2:R (n+3) Zcb [pt r.x] X1=_:=e2;have h2:=h1.hle k2;obtain⟨X3,g',o2',G',e3,g3,hk3,k3,q1,q2⟩:=ZGG (n:=n+2) h2.gr;have e3:R (n+3) ZaO [pt r.g] X2=_:=e3;have e4:bld (.agg #[.map none,.pointer none,.pointer none]) [(0,1,.map (some X.length)),(1,1,pt x'),(2,1,pt g')] X3=some (.agg #[.map (some X.length),pt x',pt g'],X3):=by
  simp[bld,Zaj,Value.cells,YR,splice]
 have e5:alc 1 (.agg #[.map (some X.length),pt x',pt g']) X3=some (pt X3.length,X3++[.cells [.map (some X.length),pt x',pt g'] 1 false false]):=Zeh (vs:=[.map (some X.length),pt x',pt g']) rfl;have k4:HLe X3 (X3++[Zf.cells [.map (some X.length),pt x',pt g'] 1 false false]):=.app _ _;have hi:=i2.lt;have hx1:X.length < X1.length:=m1.lt;have l1:=k1.len;have l2:=k2.len;have l3:=k3.len;refine⟨X3++[.cells [.map (some X.length),pt x',pt g'] 1 false false],X3.length,⟨X.length,x',o',a',g',o2',G'⟩,?_,⟨⟨Zn,((m1.hle k2).hle k3).hle k4,(i2.hle k3).hle k4,g3.hle k4,hk3.trans hd.ks,⟨by simp only;omega,by simp only;omega,fun hm=>?_,fun hm=>?_,fun hm=>?_⟩⟩,hd.inv⟩,((k1.trans k2).trans k3).trans k4,by omega,fun j hj=>?_⟩
 .rw[R,ZrT rfl];unfold Zhd;rw[Za Zg,Za Zi,Za hd.l0,Za Zg,Za Zi,Za hd.l1,Za Zg,Za Zi,Za hd.l2,Za e1',Za h1.l2,Ql,Za h1.l1,Ql,Za e2,Za h2.l2,Ql,Za e3,Za e4,Za e5];rfl
 .have:=q2 _ hm;simp only at this;omega
 .have:=q2 _ hm;simp only at this;omega
 .have:=q2 _ hm;simp only at this;omega
 .unfold NR.own at hj;simp only[List.mem_cons] at hj;rcases hj with h|h|h|h
  .omega
  .omega
  .omega
  .have:=q2 _ (List.mem_cons.2 h);omega
end
section
variable {X X' H0:Zd} {n:Nat} {v:Value} {l:List Tx} {x s:Tx}
end
abbrev Pr:=Tx × Tx
def prG (u:Pr):List Value:=[strv u.1,strv u.2]
structure RG (X:Zd) (nv mv:Value) (N:List Tx) (M:List Pr):Prop where
 n:∃ q,Zt X nv (N.map strv) q
 m:∃ q,JQ 2 X mv (M.map prG) q
section
variable {X X' H0:Zd} {n:Nat} {v nv mv z1 z2 z3 z4:Value} {N l:List Tx} {M:List Pr} {x s t k m:Tx}
theorem RG.hle (h:RG X nv mv N M) (hl:HLe X X'):RG X' nv mv N M:=⟨h.n.elim fun q h=>⟨q,h.step hl.step (by simp)⟩,h.m.elim fun q h=>⟨q,h.step hl.step (by simp)⟩⟩
theorem RG.sn (h:RG X nv mv N M):Sl X nv (N.map strv):=h.n.elim fun q h=>h.rd
theorem RG.sm (h:RG X nv mv N M):SlN 2 X mv (M.map prG):=h.m.elim fun q h=>h.rd
theorem RG.one (h:RG X nv mv N M):([nv,mv].all oneCell)=true/\nv.cells=#[nv]/\mv.cells=#[mv]:=by
 obtain⟨q,hn⟩:=h.n;obtain⟨q',hm⟩:=h.m;exact⟨by simp[hn.one.1,hm.one.1],hn.one.2,hm.one.2⟩
theorem RG.lenM (h:RG X nv mv N M) (Y:Zd):ZB mv Y=some (iv M.length,Y):=by have:=h.sm.len (H':=Y);simpa using this
theorem RG.box (h:RG X nv mv N M) (Y:Zd):alc 1 (.agg #[nv,mv]) Y=some (pt Y.length,Y++[.cells [nv,mv] 1 false false]):=Zeh (vs:=[nv,mv]) h.one.1
theorem ZJX (Y:Zd):alc 1 (.agg #[.slice none 0 0,.slice none 0 0]) Y=some (pt Y.length,Y++[.cells [.slice none 0 0,.slice none 0 0] 1 false false]):=Zeh (vs:=[.slice none 0 0,.slice none 0 0]) rfl
theorem Zt.isS {vs:List Value} {q:List Nat} (h:Zt X v vs q):∃ a n c,v=.slice a n c:=by
 rcases h with⟨_,_,rfl⟩|⟨sid,rest,gr,rfl,_,_⟩
 .exact⟨_,_,_,rfl⟩
 .exact⟨_,_,_,rfl⟩
theorem ZGr (h:RG X nv mv N M):∃ X2,(∀ {β:Type} (K:Value->Value->A.M β),bind (alc 1 (.agg #[nv,mv])) (fun a=>bind (alc 1 (.agg #[.slice none 0 0,.slice none 0 0])) fun b=>K a b) X=K (pt X.length) (pt (X.length+1)) X2)/\X2[X.length]?=some (.cells [nv,mv] 1 false false)/\X2[X.length+1]?=some (.cells [.slice none 0 0,.slice none 0 0] 1 false false)/\HLe X X2/\X2.length=X.length+2:=by
 refine⟨X++[.cells [nv,mv] 1 false false]++[.cells [.slice none 0 0,.slice none 0 0] 1 false false],fun K=>?_,Zt0,Ztb,(HLe.app _ _).trans (.app _ _),by simp⟩;rw[Za (h.box X),Za (ZJX _)];simp
theorem fin {b1 b2:Nat} {a1 a2 c1 c2:Value} (h1:X[b1]?=some (.cells [a1,a2] 1 false false)) (h2:X[b2]?=some (.cells [c1,c2] 1 false false)) (hn:b1≠b2) (ho:([a1,a2].all oneCell)=true) {β:Type} (K:Value->A.M β) :
  bind (ldA 2 (pt b1)) (fun v=>bind (stA 2 (pt b2) v) fun _=>bind (ldA 2 (pt b2)) K) X=K (.agg #[a1,a2]) (X.set b2 (.cells [a1,a2] 1 false false)):=by
 have e1:ldA 2 (pt b1) X=some (.agg #[a1,a2],X):=Z8 h1 rfl;have e2:stA 2 (pt b2) (.agg #[a1,a2]) X=some (undef,X.set b2 (.cells [a1,a2] 1 false false)):=ZbD (vs:=[a1,a2]) h2 rfl rfl ho;have e3:ldA 2 (pt b2) (X.set b2 (.cells [a1,a2] 1 false false))=some (.agg #[a1,a2],X.set b2 (.cells [a1,a2] 1 false false)):=Z8 (ZW h2) rfl;rw[Za e1,Za e2,Za e3]
theorem Zt.setB {vs:List Value} {q:List Nat} {b:Nat} {o:Zf} (h:Zt X v vs q) (hb:b∉q):Zt (X.set b o) v vs q:=h.keep fun j hj=>List.getElem?_set_ne fun e=>hb (by rw[e];exact hj)
theorem JQ.setB {es:Nat} {vs:List (List Value)} {q:List Nat} {b:Nat} {o:Zf} (h:JQ es X v vs q) (hb:b∉q):JQ es (X.set b o) v vs q:=h.keep fun j hj=>List.getElem?_set_ne fun e=>hb (by rw[e];exact hj)
end
section
variable {X X' H0:Zd} {n:Nat} {v nv mv z1 z2 z3 z4:Value} {N l K:List Tx} {M:List Pr} {mem:Mem} {x s t k m:Tx}
end
section
variable {X X' H0:Zd} {n:Nat} {v nv mv z1 z2 z3 z4:Value} {N l K:List Tx} {M:List Pr} {mem:Mem} {x s t k m:Tx}
end
def ZgF (l:List Zv):Prop:=l.Pairwise fun a b=>a.nm < b.nm
section
variable {x:Zv} {k s:List UInt8}
def Zef (u:Zv):List Zv->Bool->List Zv
 | [],_=>[]
 | v :: l,done=>(if !done && decide (u.nm<=v.nm) then[u] else[])++((if v.nm≠u.nm then[v] else[])++Zef u l (done || decide (u.nm<=v.nm)))
def Zc5 (u:Zv):List Zv->Bool->Bool
 | [],done=>done
 | v :: l,done=>Zc5 u l (done || decide (u.nm<=v.nm))
def putU (u:Zv) (l:List Zv):List Zv:=Zef u l false++if Zc5 u l false then[] else[u]
theorem ZpN {u:Zv}:∀ {l:List Zv},Zef u l true=l.filter fun v=>decide (v.nm≠u.nm)
 | []=>rfl
 | v :: l=>by
  unfold Zef;rw[Bool.true_or,ZpN,List.filter_cons];by_cases h:v.nm=u.nm<;>simp[h]
theorem Zne {u:Zv}:∀ {l:List Zv},Zc5 u l true=true
 | []=>rfl
 | v :: l=>by unfold Zc5;rw[Bool.true_or,Zne]
theorem Zou {u v:Zv} {l:List Zv}:putU u (v :: l)=if u.nm<=v.nm then u :: (v :: l).filter (fun v=>decide (v.nm≠u.nm)) else v :: putU u l:=by
 have e1:Zef u (v :: l) false=(if !false && decide (u.nm<=v.nm) then[u] else[])++((if v.nm≠u.nm then[v] else[])++Zef u l (false || decide (u.nm<=v.nm))):=rfl;have e2:Zc5 u (v :: l) false=Zc5 u l (false || decide (u.nm<=v.nm)):=rfl;unfold putU;rw[e1,e2];by_cases h:u.nm<=v.nm
 .rw[if_pos h];simp only[h,decide_true,Bool.or_true,ZpN,Zne,Bool.not_false,Bool.and_self,if_true,List.filter_cons];by_cases h2:v.nm=u.nm<;>simp[h2]
 .rw[if_neg h];have h2:v.nm≠u.nm:=fun e=>h (by rw[e];exact List.le_refl _);simp[h,h2]
theorem ZgU {u:Zv}:∀ {l:List Zv},x∈putU u l↔x=u\/(x∈l/\x.nm≠u.nm)
 | []=>by simp[putU,Zef,Zc5]
 | v :: l=>by
  rw[Zou];by_cases h:u.nm<=v.nm
  .rw[if_pos h,List.mem_cons,List.mem_filter];simp
  .have h2:v.nm≠u.nm:=fun e=>h (by rw[e];exact List.le_refl _);rw[if_neg h,List.mem_cons,ZgU,List.mem_cons];constructor
   .rintro(rfl|h|h)
    .exact .inr ⟨.inl rfl,h2⟩
    .exact .inl h
    .exact .inr ⟨.inr h.1,h.2⟩
   .rintro(h|⟨h|h,h3⟩)
    .exact .inr (.inl h)
    .exact .inl h
    .exact .inr (.inr ⟨h,h3⟩)
theorem ZwK {u:Zv}:∀ {l:List Zv},ZgF l->ZgF (putU u l)
 | [],_=>by simp[putU,Zef,Zc5,ZgF]
 | v :: l,hr=>by
  have hr2:(∀ a∈l,v.nm < a.nm)/\ZgF l:=by simpa[ZgF] using hr
  rw[Zou];by_cases h:u.nm<=v.nm
  .rw[if_pos h];refine List.pairwise_cons.2 ⟨fun a ha=>?_,List.Pairwise.filter _ hr⟩;obtain⟨h1,h2⟩:=List.mem_filter.1 ha;have h2:a.nm≠u.nm:=by simpa using h2
   have h3:u.nm<=a.nm:=by
    rcases List.mem_cons.1 h1 with rfl|h1
    .exact h
    .exact List.le_trans h (List.le_of_lt (hr2.1 a h1))
   rcases Zpj u.nm a.nm with h4|h4|h4
   .exact h4
   .exact absurd h4.symm h2
   .exact absurd h4 h3
  .rw[if_neg h];refine List.pairwise_cons.2 ⟨fun a ha=>?_,ZwK hr2.2⟩;rcases ZgU.1 ha with rfl|⟨h1,_⟩
   .rcases Zpj v.nm a.nm with h4|h4|h4
    .exact h4
    .exact absurd (by rw[h4];exact List.le_refl _) h
    .exact absurd (List.le_of_lt h4) h
   .exact hr2.1 a h1
end
section
variable {H0 H X:Zd} {n d b:Nat} {ws:List Zv} {k s:List UInt8} {wv:Value}
theorem ZwG {u:Zv} (h:oneCell u.gv=true):u.cells.all oneCell=true:=by simp only[Zv.cells,List.all_cons,h];rfl
theorem Zvl {β:Type} {k:Value->M β} {sl:Value} {us:List Zv} (h:SlN 5 H sl (us.map Zv.cells)) {j:Nat} {u:Zv} (ho:oneCell u.gv=true) (hj:us[j]?=some u) :
  bind (ixa 5 sl (iv j)) (fun p=>bind (ldA 5 p) fun v=>bind (alc 1 (.agg #[.string ⟨#[]⟩,.string ⟨#[]⟩,.string ⟨#[]⟩,.bool false,.slice none 0 0])) fun q=>bind (stA 5 q v) fun _=>k q) H=k (pt H.length) (H++[.cells u.cells 1 false false]):=by
 have hr:(us.map Zv.cells)[j]?=some u.cells:=by rw[List.getElem?_map,hj];rfl
 rw[h.fetch hr (by omega) .i64];exact ZaX (n:=5) (zs:=[.string ⟨#[]⟩,.string ⟨#[]⟩,.string ⟨#[]⟩,.bool false,.slice none 0 0]) (r:=u.cells) rfl rfl rfl (ZwG ho)
end
structure ZIo (s:NSt):Prop where
 nod:s.K.Nodup
 out:∀ k n,s.mem k n=true->k∈s.K
 few:s.K.length<=6
structure ROK (s:NSt) (us:List Zv):Prop where
 rise:ZgF us
 look:∀ key:KA,key∈us.map QT↔Jn s key.1=some key
section
variable {X:Zd} {d c:Nat} {r:NR} {s s':NSt} {us ws:List Zv} {u:Zv} {k h m n o t g:Tx} {key:KA}
theorem ND0.kn (hd:ND0 X d r s c):ZIo s:=⟨by rw[<- hd.ks];exact hd.gr.mo.nod,fun k n hk=>by
 have:=hd.gr.out k n hk;rw[Zj3,decide_eq_true_eq] at this;rw[<- hd.ks];exact this,by rw[<- hd.ks,List.length_map];exact hd.gr.few⟩
theorem Zch:key∈us.map QT↔∃ u∈us,QT u=key:=List.mem_map
theorem ROK.put (h:ROK s us) (h1:Jn s' u.nm=some (QT u)) (h2:∀ n,n≠u.nm->Jn s' n=Jn s n):ROK s' (putU u us):=by
 refine⟨ZwK h.rise,fun key=>?_⟩;rw[Zch];constructor
 .rintro⟨v,hv,rfl⟩
  rcases ZgU.1 hv with rfl|⟨hv,hne⟩
  .exact h1
  .have:=(h.look (QT v)).1 (Zch.2 ⟨v,hv,rfl⟩);rw[show(QT v).1=v.nm from rfl] at this ⊢;rw[h2 _ hne];exact this
 .intro hk;by_cases e:key.1=u.nm
  .rw[e,h1] at hk;exact⟨u,ZgU.2 (.inl rfl),Option.some.inj hk⟩
  .rw[h2 _ e] at hk;obtain⟨v,hv,rfl⟩:=Zch.1 ((h.look key).2 hk);exact⟨v,ZgU.2 (.inr ⟨hv,e⟩),rfl⟩
theorem ROK.drop (h:ROK s us) (h1:Jn s' k=none) (h2:∀ n,n≠k->Jn s' n=Jn s n):ROK s' (us.filter fun v=>decide (v.nm≠k)):=by
 refine⟨List.Pairwise.filter _ h.rise,fun key=>?_⟩;rw[Zch];constructor
 .rintro⟨v,hv,rfl⟩
  obtain⟨hv,hne⟩:=List.mem_filter.1 hv;have hne:v.nm≠k:=by simpa using hne
  have:=(h.look (QT v)).1 (Zch.2 ⟨v,hv,rfl⟩);rw[show(QT v).1=v.nm from rfl] at this ⊢;rw[h2 _ hne];exact this
 .intro hk;have e:key.1≠k:=fun e=>by rw[e,h1] at hk;cases hk
  rw[h2 _ e] at hk;obtain⟨v,hv,rfl⟩:=Zch.1 ((h.look key).2 hk);exact⟨v,List.mem_filter.2 ⟨hv,decide_eq_true e⟩,rfl⟩
theorem ROK.same (h:ROK s us) (h2:∀ n,Jn s' n=Jn s n):ROK s' us:=⟨h.rise,fun key=>by rw[h2];exact h.look key⟩
theorem ZDS (h:Jn s n=some key):key.1=n:=by
 unfold Jn at h;cases ha:Ze n s.A with
 | none=>rw[ha] at h;cases h
 | some p=>rw[ha] at h;cases h;rfl
theorem ROK.at (h:ROK s us) (hu:u∈us):Jn s u.nm=some (QT u):=(h.look (QT u)).1 (Zch.2 ⟨u,hu,rfl⟩)
theorem ZgF.nodup (h:ZgF us):(us.map (·.nm)).Nodup:=by
 unfold ZgF at h;rw[List.nodup_iff_pairwise_ne,List.pairwise_map];refine h.imp ?_;intro a b hab e;rw[e] at hab;exact ZoX hab
theorem ROK.len (h:ROK s us) (hn:(KZ s).Nodup):us.length=s.A.length:=by
 have hp:(us.map (·.nm)).Perm (KZ s):=(List.perm_ext_iff_of_nodup h.rise.nodup hn).2 fun x=>by
  rw[List.mem_map,List.mem_map];constructor
  .rintro⟨v,hv,rfl⟩
   have:=h.at hv;unfold Jn at this;cases ha:Ze v.nm s.A with
   | none=>rw[ha] at this;cases this
   | some p=>exact⟨_,Ku ha,rfl⟩
  .rintro⟨p,hp,rfl⟩
   have ha:Ze p.1 s.A=some p.2:=Zck hn hp;obtain⟨v,hv,he⟩:=Zch.1 ((h.look (WQ s p.1 p.2)).2 (by
    show Jn s p.1=_
    unfold Jn;rw[ha];rfl))
   exact⟨v,hv,congrArg (·.1) he⟩
 have:=hp.length_eq;simpa using this
theorem ZGb:∀ {l l':List KA},l.Pairwise (fun a b=>a.1 < b.1)->l'.Pairwise (fun a b=>a.1 < b.1)->(∀ x,x∈l↔x∈l')->l=l':=by
 intro l l' h h' hm;have nd:∀ {l:List KA},l.Pairwise (fun a b=>a.1 < b.1)->l.Nodup:=fun h=>by
  rw[List.nodup_iff_pairwise_ne];refine List.Pairwise.imp ?_ h
  rintro a b hab rfl
  exact List.lt_irrefl _ hab
 have hp:l.Perm l':=(List.perm_ext_iff_of_nodup (nd h) (nd h')).2 hm;exact List.Perm.eq_of_pairwise (le:=fun a b=>a.1 < b.1) (fun a b _ _ h1 h2=>absurd h2 (List.lt_asymm h1)) h h' hp
theorem ZwD (hn:(KZ s).Nodup):(allK s).Pairwise fun a b=>a.1 < b.1:=by
 unfold allK;rw[List.pairwise_map];exact ZcV hn
theorem ZmX (hn:(KZ s).Nodup):key∈allK s↔Jn s key.1=some key:=by
 unfold allK;rw[List.mem_map];constructor
 .rintro⟨k,hk,rfl⟩
  obtain⟨p,hp,rfl⟩:=List.mem_map.1 (Kp.1 hk);have ha:Ze p.1 s.A=some p.2:=Zck hn hp;show Jn s p.1=_
  unfold Jn;rw[ha];rfl
 .intro hk;unfold Jn at hk;cases ha:Ze key.1 s.A with
  | none=>rw[ha] at hk;cases hk
  | some p=>
   rw[ha] at hk;refine⟨key.1,Kp.2 (List.mem_map.2 ⟨_,Ku ha,rfl⟩),?_⟩;rw[ha];exact Option.some.inj hk
theorem ROK.all (h:ROK s us) (hn:(KZ s).Nodup):us.map QT=allK s:=by
 refine ZGb ?_ (ZwD hn) fun key=>(h.look key).trans (ZmX hn).symm;rw[List.pairwise_map];exact h.rise
end
def UOK (X:Zd) (u:Zv):Prop:=Sl X u.gv (u.gs.map strv)/\oneCell u.gv=true/\u.gs.length<=1000000
structure RD (X:Zd) (uv gv:Value) (s:NSt):Prop where
 ex:∃ us,KF X uv us/\ROK s us
 n:∃ q N,Zt X gv (N.map strv) q/\Is N (·∈s.K)
structure Y0 (s:NSt):Prop where
 i:Yd s
 k:ZIo s
 n:(KZ s).Nodup
 x:Inv s.OW s.OF
theorem ND.pinv {X:Zd} {d c:Nat} {r:NR} {s:NSt} (h:ND X d r s c):Y0 s:=⟨h.inv,h.toND0.kn,h.m.nod,h.ix.inv⟩
def ZJR (k h:List UInt8):Zv:=⟨k,h,[],false,.slice none 0 0,[]⟩
abbrev ZGi:Zv:=ZJR [] []
section
variable {X X' Y H0:Zd} {n:Nat} {uv gv v:Value} {us:List Zv} {s:NSt} {k h m o t g:Tx} {u w:Zv} {β:Type}
theorem UOK.hle (h:UOK X u) (hl:HLe X X'):UOK X' u:=⟨h.1.mono hl,h.2⟩
theorem KF.ok (h:KF X uv us) (hu:u∈us):UOK X u:=h.2 u hu
theorem KF.one (h:KF X uv us):oneCell uv=true:=h.1.one.1
theorem Zt.hle {vs:List Value} {q:List Nat} (h:Zt X v vs q) (hl:HLe X X'):Zt X' v vs q:=h.step hl.step (by simp)
theorem RD.hle (h:RD X uv gv s) (hl:HLe X X'):RD X' uv gv s:=⟨h.ex.imp fun us ⟨a,b⟩=>⟨a.mono hl,b⟩,h.n.imp fun q ⟨N,a,b⟩=>⟨N,a.hle hl,b⟩⟩
abbrev zU:Value:=.agg #[.string ⟨#[]⟩,.string ⟨#[]⟩,.string ⟨#[]⟩,.bool false,.slice none 0 0]
theorem KF.put (h:KF X uv us) (hv:SlN 5 X' v ((putU u us).map Zv.cells)) (hu:UOK X u) (hl:HLe X X'):KF X' v (putU u us):=⟨hv,fun w hw=>by
 rcases ZgU.1 hw with rfl|⟨hw,_⟩
 .exact hu.hle hl
 .exact(h.mono hl).2 w hw⟩
end
section
variable {X X' Y H0:Zd} {n:Nat} {uv gv v:Value} {us:List Zv} {s:NSt} {k h m o t g:Tx} {u w:Zv} {β:Type}
def ZjC (v:Value):Prop:=∃ a n c,v=.slice a n c
theorem ZjC.one (h:ZjC v):oneCell v=true:=by
 obtain⟨a,n,c,rfl⟩:=h;rfl
theorem ZvF {x:Tx} (h:ZjC (strv x)):False:=by
 obtain⟨a,n,c,h⟩:=h;cases h
theorem Sl.setD {l:List Tx} {b:Nat} {c1 c2 d1 d2:Value} (h:Sl Y v (l.map strv)) (hb:Y[b]?=some (.cells [c1,c2] 1 false false)) (i1:ZjC c1) (i2:ZjC c2):Sl (Y.set b (.cells [d1,d2] 1 false false)) v (l.map strv):=by
 by_cases ho:own1 v=some b
 .obtain⟨a,c,rfl,h0,hf⟩:=h;unfold own1 at ho;split at ho
  .rename_i id o n x e;cases e;cases ho;have hl:l=[]:=by
    unfold QL at hf;simp only[hb] at hf;split at hf
    .have hf:=Option.some.inj hf;cases l with
     | nil=>rfl
     | cons y l=>
      have hm:strv y∈([c1,c2].drop o).take ((List.map strv (y :: l)).length * 1):=by rw[hf];simp
      have hm:=List.mem_of_mem_drop (List.mem_of_mem_take hm);simp only[List.mem_cons,List.not_mem_nil,or_false] at hm;rcases hm with hm|hm
      .rw[<- hm] at i1;exact(ZvF i1).elim
      .rw[<- hm] at i2;exact(ZvF i2).elim
    .cases hf
   subst hl;refine⟨_,c,rfl,(fun e=>by cases e),?_⟩;unfold QL at hf ⊢;simp only[hb,ZW hb] at hf ⊢;split at hf
   .rename_i hle;rw[if_pos (by simpa using hle)];simp
   .cases hf
  .cases ho
 .exact h.keep fun id hid=>List.getElem?_set_ne (fun e=>ho (by rw[hid,e]))
theorem SlN.setD {rows:List (List Value)} {b:Nat} {c1 c2 d1 d2:Value} (h:SlN 5 Y v rows) (hb:Y[b]?=some (.cells [c1,c2] 1 false false)):SlN 5 (Y.set b (.cells [d1,d2] 1 false false)) v rows:=by
 by_cases ho:own1 v=some b
 .obtain⟨a,c,rfl,h0,hf,hr⟩:=h;unfold own1 at ho;split at ho
  .rename_i id o n x e;cases e;cases ho;unfold QL at hf;simp only[hb] at hf;split at hf
   .rename_i hle;have hl:rows.length=0:=by
     simp only[List.length_cons,List.length_nil] at hle;omega
    have hl:rows=[]:=List.eq_nil_of_length_eq_zero hl;subst hl;refine⟨_,c,rfl,(fun e=>by cases e),?_,hr⟩;unfold QL;simp only[ZW hb];rw[if_pos (by simpa using hle)];simp
   .cases hf
  .cases ho
 .exact h.keep fun id hid=>List.getElem?_set_ne (fun e=>ho (by rw[hid,e]))
theorem KF.setD {b:Nat} {c1 c2 d1 d2:Value} (h:KF Y v us) (hb:Y[b]?=some (.cells [c1,c2] 1 false false)) (i1:ZjC c1) (i2:ZjC c2):KF (Y.set b (.cells [d1,d2] 1 false false)) v us:=
 ⟨h.1.setD hb,fun u hu=>⟨(h.2 u hu).1.setD hb i1 i2,(h.2 u hu).2⟩⟩
theorem Zt.setD {l:List Tx} {q:List Nat} {b:Nat} {c1 c2 d1 d2:Value} (h:Zt Y v (l.map strv) q) (hb:Y[b]?=some (.cells [c1,c2] 1 false false)) (i1:ZjC c1) (i2:ZjC c2):Zt (Y.set b (.cells [d1,d2] 1 false false)) v (l.map strv) q:=by
 rcases h with⟨h1,rfl,rfl⟩|⟨sid,rest,gr,rfl,rfl,hid⟩
 .exact .inl ⟨h1,rfl,rfl⟩
 .by_cases e:b=sid
  .subst e;rw[hb] at hid;injection hid with hid
   injection hid with hc h2 h3 h4
   cases l with
   | nil=>
    have hc:[c1,c2]=rest:=by simpa using hc
    subst hc;exact .inr ⟨b,[d1,d2],gr,rfl,rfl,by rw[ZW hb,h3];rfl⟩
   | cons y l=>
    rw[List.map_cons,List.cons_append] at hc;injection hc with hc _
    rw[hc] at i1;exact(ZvF i1).elim
  .exact .inr ⟨sid,rest,gr,rfl,rfl,(List.getElem?_set_ne e).trans hid⟩
theorem RD.back (hR:RD X uv gv s) {s':NSt} (hl:HLe X X') (he:s'=s):RD X' uv gv s':=by rw[he];exact hR.hle hl
end
section
variable {X X' Y H0:Zd} {n:Nat} {uv gv v:Value} {us:List Zv} {s:NSt} {k h m o t g x:Tx} {u w:Zv} {β:Type} {l:List Tx}
end
section
variable {X X' Y H0:Zd} {n:Nat} {uv gv v:Value} {us:List Zv} {s s':NSt} {k h m o t g x:Tx} {u w:Zv} {β:Type} {l:List Tx}
theorem ROK.gs (hO:ROK s us) (hP:Y0 s) (hu:u∈us):u.gs=ofL u.nm s.K s.mem/\u.gs.length<=6:=by
 have hat:=hO.at hu;unfold Jn at hat;cases ha:Ze u.nm s.A with
 | none=>rw[ha] at hat;cases hat
 | some p=>
  rw[ha] at hat;have h1:u.gs=ofL u.nm s.K s.mem:=congrArg (·.2.2.2.2) (Option.some.inj hat).symm;refine⟨h1,?_⟩;rw[h1];exact Nat.le_trans Zli hP.k.few
end
section
variable {X X' Y H0:Zd} {n:Nat} {uv gv v:Value} {us:List Zv} {s s':NSt} {k h m o t g x:Tx} {u w:Zv} {β:Type} {l:List Tx}
end
structure ZeB where
 kd:Nat
 a:Tx
 b:Tx
 is:Bool
abbrev ZeB.cells (a:ZeB):List Value:=[.int .u8 a.kd,strv a.a,strv a.b,.bool a.is]
abbrev zNA:Value:=.agg #[.int .u8 0,.string ⟨#[]⟩,.string ⟨#[]⟩,.bool false]
def Zmv (H:Zd) (sl:Value) (ac:List ZeB):Prop:=SlN 4 H sl (ac.map ZeB.cells)/\∀ a∈ac,a.kd<=255
section
variable {H H' X X':Zd} {sl:Value} {ac:List ZeB} {n d c:Nat} {s:NSt} {r:NR} {m:Tx}
theorem Zmv.len (h:Zmv H sl ac):ZB sl H'=some (iv ac.length,H'):=by
 have:=h.1.len (H':=H')
 rwa [List.length_map] at this
theorem Zmv.mono (h:Zmv H sl ac) (hl:HLe H H'):Zmv H' sl ac:=⟨h.1.mono hl,h.2⟩
theorem Zmv.fetch {β:Type} {k:Value->M β} (h:Zmv H sl ac) {j:Nat} {a:ZeB} (hj:ac[j]?=some a) :
  bind (ixa 4 sl (iv j)) (fun p=>bind (ldA 4 p) fun v=>bind (alc 1 zNA) fun q=>bind (stA 4 q v) fun _=>k q) H=k (pt H.length) (H++[.cells a.cells 1 false false]):=by
 have hr:(ac.map ZeB.cells)[j]?=some a.cells:=by rw[List.getElem?_map,hj];rfl
 rw[h.1.fetch hr (by omega) .i64];exact ZaX (n:=4) (zs:=[.int .u8 0,.string ⟨#[]⟩,.string ⟨#[]⟩,.bool false]) (r:=a.cells) rfl rfl rfl rfl
theorem ZAR (h:ND X d r s c):∃ X',R (n+10) ZcJ [pt d,strv m] X=some (.tuple #[strv (ZeU m s.OW),iv (ZaC m s.OW)],X')/\HLe X X':=by
 obtain⟨X1,e1,k1⟩:=ZH4 (n:=n) (m:=m) h.ix;refine⟨X1,?_,k1⟩;rw[R,Zsi rfl];unfold Zha;rw[Za Zg,Za Zi,Za h.l1,Za e1,Za Zp,Za Zq];rfl
end
def ZFH (u:ZeB) (s:NSt):NSt:=
 match u.kd % 11 with
 | 0=>ZbR u.a u.b s
 | 1=>ZbP u.a s
 | 2=>Zax u.a u.b s
 | 3=>Kr u.a u.b s
 | 4=>Y4 u.a u.is s
 | 5=>Zbf u.a u.b s
 | 6=>Zi7 u.a s
 | 7=>ZiW u.a s
 | 8=>Zd5 u.a u.b s
 | 9=>ZcK u.a u.b s
 | _=>s
section
variable {X X' Y Y1 Y2 Y3 H0:Zd} {n d c c' b1 b2 b3:Nat} {r r':NR} {uv gv uv' gv' v:Value} {s s':NSt} {u:ZeB} {e:Int}
theorem RD.setB {b:Nat} {c1 c2 d1 d2:Value} (h:RD Y uv gv s) (hb:Y[b]?=some (.cells [c1,c2] 1 false false)) (i1:ZjC c1) (i2:ZjC c2):RD (Y.set b (.cells [d1,d2] 1 false false)) uv gv s:=
 ⟨h.ex.imp fun us ⟨a,b⟩=>⟨a.setD hb i1 i2,b⟩,h.n.imp fun q ⟨N,a,b⟩=>⟨N,a.setD hb i1 i2,b⟩⟩
end
section
variable {X X' Y Y1 Y2 Y3 H H0:Zd} {n d c c' b1 b2 b3 w:Nat} {r r':NR} {uv gv uv' gv' v sl:Value} {s s':NSt} {u:ZeB} {e:Int} {ac:List ZeB}
structure NL (H X:Zd) (d:Nat) (r:NR) (s:NSt) (uv gv:Value) (w c:Nat):Prop where
 le:HLe H X
 nd:ND X d r s c
 rd:RD X uv gv s
 own:∀ i∈r.own,H.length<=i
 w:X[w]?=some (.cells [uv,gv] 1 false false)
theorem NL.hle (h:NL H X d r s uv gv w c) (hl:HLe X X'):NL H X' d r s uv gv w c:=⟨h.le.trans hl,h.nd.hle hl,h.rd.hle hl,h.own,hl _ _ h.w⟩
end
section
variable {H:Zd} {n:Nat} {s:List UInt8}
end
section
variable {X X' Y H H0:Zd} {n d c w:Nat} {r:NR} {uv gv sl wv:Value} {s:NSt} {us ws:List Zv} {k m g pre:Tx} {q0:List Nat}
theorem ZFP {x:Tx} {b:Nat} (hs:x.length<=1000000000) (hp:pre.length<=1000000000) (hc:H[b]?=some (.cells [strv pre] 1 false false)):R (n+3) Zcf [strv x,pt b] H=some (.bool (!Zgl pre x),H):=by
 have e1:run Tryz.prog np lvs (n+2) Kx [strv x,strv pre] H=_:=Zre hs hp;rw[R,ZqC rfl];unfold ZgE;rw[Za (KQ hc),Za e1,Za ZP];rfl
theorem ZEj (hd:ND X d r s c) {x:Tx} (hx:x∈ZN (KZ s)):x.length<=12:=by
 obtain⟨p,hp,rfl⟩:=List.mem_map.1 (Kp.1 hx);exact Ky (hd.inv.nm p hp).1
theorem ZFQ (hd:ND X d r s c) (hp:pre.length<=1000000000):∃ v q X',R (n+6) Zen [pt d,strv pre] X=some (.tuple #[v,iv (YS pre)],X')/\Zt X' v ((if Zja pre then(ZN (KZ s)).filter (Zgl pre) else[]).map strv) q/\HLe X X'/\∀ j∈q,X.length<=j:=by
 have e0:=Zeg (v:=strv pre) rfl rfl X;have l0:HLe X (X++[Zf.cells [strv pre] 1 false false]):=.app _ _;have c0:(X++[Zf.cells [strv pre] 1 false false])[X.length]?=some (.cells [strv pre] 1 false false):=Zn;have g0:(X++[Zf.cells [strv pre] 1 false false]).length=X.length+1:=by simp
 generalize X++[Zf.cells [strv pre] 1 false false]=H1 at e0 l0 c0 g0;generalize hc:X.length=b at e0 c0 g0;have e1:run Tryz.prog np lvs (n+5) Zbs [strv pre] H1=some (iv (YS pre),H1):=Zyl hp;by_cases hb:Zja pre=true
 .have he:YS pre=0:=by unfold YS;rw[if_pos hb]
  obtain⟨v,q,H2,e2,r2,l2,o2⟩:=ZzU (n:=n+3) (hd.hle l0);have hQ:∀ X X',X[b]?=some (.cells [strv pre] 1 false false)->Zo q X q X'->X'[b]?=some (.cells [strv pre] 1 false false):=fun X X' hx hs=>hs.get hx fun hj=>by have:=o2 b hj;omega
  have hcall:∀ n X,X[b]?=some (.cells [strv pre] 1 false false)->∀ x∈ZN (KZ s),Qt (R (n+3)) (.func (.func Zcf) #[] #[pt b]) [strv x] X=some (.bool (!Zgl pre x),X):=fun n X hx x hs=>by
   rw[show(#[pt b]:Array Value)=[pt b].toArray from rfl,ZjU];exact ZFP (Nat.le_trans (ZEj hd hs) (by decide)) hp hx
  have hfew:(ZN (KZ s)).length<=12:=by
   rw[YC];have:=hd.inv.few;simpa using this
  obtain⟨H3,v',e3,r3,s3⟩:=Zn7 (n:=n+3) (f:=.func (.func Zcf) #[] #[pt b]) (p:=fun x=>!Zgl pre x) (Q:=fun X=>X[b]?=some (.cells [strv pre] 1 false false)) r2 (by omega) hQ (hcall n) (hcall (n+1)) (l2 _ _ c0);have hm:=(l0.trans l2).more s3 (fun j hj=>by have:=o2 j hj;omega);refine⟨v',q,H3,?_,by simpa[hb] using r3,hm.1,fun j hj=>by have:=hm.2 j hj;omega⟩;rw[R,Zjv rfl];unfold Zem;rw[Za e0,Za (KQ c0),Za e1,Za Zl,he,Zb,if_neg (by simp)];refine(Za e2).trans ((Za e3).trans rfl)
 .have he:YS pre=10:=by unfold YS;rw[if_neg hb]
  refine⟨.slice none 0 0,[],H1,?_,by rw[if_neg hb];exact Zt.nil,l0,by simp⟩;rw[R,Zjv rfl];unfold Zem;rw[Za e0,Za (KQ c0),Za e1,Za Zl,he,Zb,if_pos (by simp)];rfl
theorem Zz8 (hd:ND X d r s c) (hc:c<=1000000):∃ v q l X',R (n+9) ZaE [pt d,strv g] X=some (.tuple #[v,iv (Q6 g s.K)],X')/\Zt X' v (l.map strv) q/\Is l (fun m=>Q6 g s.K=0/\s.mem g m=true)/\l.length<=c/\HLe X X'/\∀ j∈q,X.length<=j:=by
 obtain⟨v,q,l,X',e,r1,i1,n1,k1,o1⟩:=ZCN (n:=n) (k:=g) hd.gr hc;rw[hd.ks] at e i1;refine⟨v,q,l,X',?_,r1,i1,n1,k1,o1⟩;rw[R,Zny rfl];unfold Zew;rw[Za Zg,Za Zi,Za hd.l2,Za e,Za Zp,Za Zq];rfl
theorem ZDJ (hO:ROK s us) (hP:Y0 s) (hm:Yp m=true):(us.find? fun u=>u.ml==QO m).map (·.nm)=Ze (QO m) s.OW:=by
 have hat:∀ u∈us,u.ml=QO m↔Ze (QO m) s.OW=some u.nm:=fun u hu=>by
  have h1:=hO.at hu;unfold Jn at h1;cases ha:Ze u.nm s.A with
  | none=>rw[ha] at h1;cases h1
  | some p=>
   rw[ha] at h1;have h2:WQ s u.nm p=QT u:=Option.some.inj h1;have h3:(Ze u.nm s.OF).getD []=u.ml:=congrArg (·.2.2.1) h2;rw[<- hP.x.inv,<- h3];cases ho:Ze u.nm s.OF with
   | none=>exact⟨fun h=>absurd h.symm (ZlQ hm).1,fun h=>by cases h⟩
   | some v=>exact⟨fun h=>by rw[<- h];rfl,fun h=>by cases h;rfl⟩
 cases hf:us.find? fun u=>u.ml==QO m with
 | some u=>
  have h1:=List.find?_some hf;have h2:=List.mem_of_find?_eq_some hf;exact((hat u h2).1 (by simpa using h1)).symm
 | none=>
  rw[List.find?_eq_none] at hf;cases hw:Ze (QO m) s.OW with
  | none=>rfl
  | some x=>
   have h1:=(hP.x.inv _ _).2 hw;have h2:=hP.i.ofA x (by rw[h1];rfl);obtain⟨p,hp⟩:=Option.isSome_iff_exists.1 h2;have h3:Jn s x=some (WQ s x p):=by unfold Jn;rw[hp];rfl
   obtain⟨u,hu,hk⟩:=Zch.1 ((hO.look (WQ s x p)).2 h3);have hn:u.nm=x:=congrArg (·.1) hk;have:=(hat u hu).2 (by rw[hn];exact hw);exact absurd (by simpa using this) (hf u hu)
end
def le (x:Nat):Nat->List UInt8
 | 0=>[]
 | k+1=>UInt8.ofNat (x % 256) :: le (x / 256) k
theorem KS:∀ {k x:Nat},(le x k).length=k
 | 0,_=>rfl
 | k+1,x=>by unfold le;rw[List.length_cons,KS]
def txt (s:List UInt8):List UInt8:=le s.length 2++s
theorem ZHR (a b:List UInt8):u8s (a++b)=u8s a++u8s b:=by simp[u8s]
section
variable {H X:Zd} {n p:Nat} {sl x v:Value} {vs ws:List Value} {own:List Nat} {bs s:List UInt8}
theorem Zt.addN {b:Nat} (h:Zt H sl vs own) (hf:QL 1 H x=some ws) (hn:A.flen x=ws.length) (hb:(vs.length+ws.length) * b<=140737488355328) (hb0:vs.length+ws.length<=140737488355328) :
  ∃ sl' H' own',app 1 b sl x H=some (sl',H')/\Zt H' sl' (vs++ws) own'/\Zo own H own' H':=by
 by_cases h0:ws.length=0
 .have hw:ws=[]:=List.eq_nil_of_length_eq_zero h0;subst hw;refine⟨sl,H,own,?_,by simpa using h,.refl _ _⟩;rcases h with⟨rfl,rfl,rfl⟩|⟨sid,rest,gr,rfl,rfl,hid⟩
  .unfold app;rw[hf];simp[hn]
  .unfold app;rw[hf];simp[hn,hid]
 rcases h with⟨rfl,rfl,rfl⟩|⟨sid,rest,gr,rfl,rfl,hid⟩
 .refine⟨_,H++[.cells ws 1 true false],[H.length],?_,.inr ⟨H.length,[],true,rfl,rfl,by simp⟩,⟨by simp,fun j hj _=>List.getElem?_append_left hj,by simp⟩⟩;unfold app;rw[hf];simp only[hn];simp only[List.length_nil,Nat.zero_add] at hb hb0;rw[if_neg h0,if_pos ⟨hb0,hb⟩];simp
 .have hlt:=ZX hid;by_cases hc:ws.length<=rest.length
  .have hsp:splice (vs++rest) ws vs.length=vs++(ws++rest.drop ws.length):=by
    unfold splice;rw[List.take_left,List.drop_append,List.drop_eq_nil_of_le (by omega),List.nil_append,Nat.add_sub_cancel_left,List.append_assoc]
   have hset:(H.set sid (.cells (vs++(ws++rest.drop ws.length)) 1 gr false))[sid]?=some (.cells (vs++(ws++rest.drop ws.length)) 1 gr false):=ZW hid;refine⟨.slice (some ⟨sid,0,none⟩) (vs.length+ws.length) (vs.length+rest.length),H.set sid (.cells (vs++(ws++rest.drop ws.length)) 1 gr false),[sid],?_,.inr ⟨sid,rest.drop ws.length,gr,?_,rfl,by rw[hset,List.append_assoc]⟩,⟨by simp,fun j hj hn=>List.getElem?_set_ne (fun e=>hn (by simp[e])),by simp⟩⟩
   .unfold app;rw[hf];simp only[hn,hid,if_true,Nat.mul_one,Nat.zero_add];rw[if_pos (by omega),if_neg h0,if_pos ⟨trivial,by rw[List.length_append];omega⟩,hsp]
   .rw[List.length_append,List.length_drop]
    congr 1;omega
  .have hold:((vs++rest).drop 0).take vs.length=vs:=by rw[List.drop_zero,List.take_left]
   have happ:app 1 b (.slice (some ⟨sid,0,none⟩) vs.length (vs.length+rest.length)) x H=some (.slice (some ⟨H.length,0,none⟩) (vs.length+ws.length) (vs.length+ws.length),(bif gr then H.set sid (.view vs 1 H.length) else H)++[.cells (vs++ws) 1 true false]):=by
    unfold app;rw[hf];simp only[hn,hid,if_true,Nat.mul_one,Nat.zero_add];rw[if_neg (by omega),if_pos ⟨by simp,by rw[List.length_append];omega,hb0,hb⟩,hold];rfl
   have hnew:((bif gr then H.set sid (.view vs 1 H.length) else H)++[.cells (vs++ws) 1 true false])[H.length]?=some (.cells (vs++ws) 1 true false):=by
    rw[List.getElem?_append_right (by cases gr<;>simp)];cases gr<;>simp
   refine⟨_,_,[H.length],happ,.inr ⟨H.length,[],true,by simp,rfl,by rw[hnew,List.append_nil]⟩,⟨?_,fun j hj hn=>?_,by simp⟩⟩
   .cases gr<;>simp
   .rw[List.getElem?_append_left (by cases gr<;>simpa using hj)];cases gr
    .rfl
    .exact List.getElem?_set_ne (fun e=>hn (by simp[e]))
structure Wtr (H:Zd) (p:Nat) (bs:List UInt8) (own:List Nat):Prop where
 o:∃ sl,H[p]?=some (.cells [sl] 1 false false)/\Zt H sl (u8s bs) own
 ne:p∉own
theorem Wtr.lt (h:Wtr H p bs own):∀ j∈p :: own,j < H.length:=by
 obtain⟨sl,hc,hr⟩:=h.o;intro j hj;rcases List.mem_cons.1 hj with rfl|hj
 .exact ZX hc
 .exact hr.lt j hj
theorem Wtr.keep (h:Wtr H p bs own) (hk:∀ j∈p :: own,X[j]?=H[j]?):Wtr X p bs own:=by
 obtain⟨sl,hc,hr⟩:=h.o;exact⟨⟨sl,by rw[hk p (by simp)];exact hc,hr.keep fun j hj=>hk j (by simp[hj])⟩,h.ne⟩
theorem Wtr.step {o1 o2:List Nat} (h:Wtr H p bs own) (hs:Zo o1 H o2 X) (hn:∀ j∈p :: own,j∉o1):Wtr X p bs own:=
 h.keep fun j hj=>hs.keep j (h.lt j hj) (hn j hj)
theorem Wtr.hle (h:Wtr H p bs own) (hl:HLe H X):Wtr X p bs own:=h.step hl.step (by simp)
theorem Wtr.put {own':List Nat} {bs':List UInt8} (h:Wtr H p bs own) (hr:Zt X sl (u8s bs') own') (hs:Zo own H own' X):∃ X',st1 (pt p) sl X=some (undef,X')/\Wtr X' p bs' own'/\Zo (p :: own) H (p :: own') X':=by
 obtain⟨sl0,hc,hr0⟩:=h.o;have hc1:X[p]?=some (.cells [sl0] 1 false false):=hs.get hc h.ne;have hne:p∉own':=fun hm=>by
  rcases hs.own p hm with h1|h1
  .exact h.ne h1
  .have:=ZX hc;omega
 have e1:st1 (pt p) sl X=some (undef,X.set p (.cells [sl] 1 false false)):=Wq (o:=0) hc1 (by simp) hr.one.1;refine⟨_,e1,⟨⟨sl,ZW hc1,hr.keep fun j hj=>List.getElem?_set_ne (fun e=>hne (by rw[e];exact hj))⟩,hne⟩,?_⟩;have s1:Zo [p] X [p] (X.set p (.cells [sl] 1 false false)):=⟨by simp,fun j hj hn=>List.getElem?_set_ne (fun e=>hn (by simp[e])),fun j hj=>.inl hj⟩;refine(hs.more (o2:=p :: own) (o2':=p :: own') (by simp+contextual) ?_).trans (s1.more (by simp) (fun j hj=>.inl hj));intro j hj;rcases List.mem_cons.1 hj with rfl|hj
 .exact .inl (by simp)
 .exact .inr (.inl hj)
theorem ZBV (x:Nat):((UInt8.ofNat (x % 256)).toNat:Int)=(x:Int) % 256:=by
 rw[UInt8.toNat_ofNat'];omega
theorem ZDy {N:Nat} (hN:N<=1000):∀ (t k x:Nat) (bs:List UInt8) (own:List Nat) (H:Zd),N - k=t->k<=N->x < 18446744073709551616->bs.length+t<=1000000000000->Wtr H p bs own->
  ∃ H' own',Zj (c4 (YK.l1 (R n))) [pt p,.int .u64 x,iv N,iv k] H=some (.ext 0 [pt p],H')/\Wtr H' p (bs++le x t) own'/\Zo (p :: own) H (p :: own') H'
 | 0,k,x,bs,own,H,ht,hk,hx,hb,h=>by
  have:k=N:=by omega
  subst this;refine⟨H,own,ZZ ?_,by simpa[le] using h,.refl _ _⟩;rw[ZL];unfold YK.l1;rw[Za Zs,Zb,if_neg (by simp)];rfl
 | t+1,k,x,bs,own,H,ht,hk,hx,hb,h=>by
  have hlt:(k:Int) < N:=by omega
  obtain⟨sl,hc,hr⟩:=h.o;have e1:bsl 1 1 (.int .u8 0) [(0,1,.int .u8 ((UInt8.ofNat (x % 256)).toNat))] H=some (.slice (some ⟨H.length,0,none⟩) 1 1,H++[.cells [.int .u8 ((UInt8.ofNat (x % 256)).toNat)] 1 false false]):=Zpt rfl rfl rfl;have k1:HLe H (H++[Zf.cells [.int .u8 ((UInt8.ofNat (x % 256)).toNat)] 1 false false]):=.app _ _;have s1:Sl (H++[Zf.cells [.int .u8 ((UInt8.ofNat (x % 256)).toNat)] 1 false false]) (.slice (some ⟨H.length,0,none⟩) 1 1) [.int .u8 ((UInt8.ofNat (x % 256)).toNat)]:=Sl.one (vs:=[.int .u8 ((UInt8.ofNat (x % 256)).toNat)]) Zn;generalize H++[Zf.cells [.int .u8 ((UInt8.ofNat (x % 256)).toNat)] 1 false false]=X1 at e1 k1 s1;have h1:=h.hle k1;have hr1:Zt X1 sl (u8s bs) own:=hr.step k1.step (by simp);have hl:(u8s bs).length=bs.length:=Jm bs;obtain⟨sl',X2,own',e2,r2,st2,_⟩:=hr1.push (b:=1) s1 (by omega) (by omega);rw[show u8s bs++[.int .u8 ((UInt8.ofNat (x % 256)).toNat)]=u8s (bs++[UInt8.ofNat (x % 256)]) from by simp[u8s]] at r2;obtain⟨X3,e3,w3,st3⟩:=h1.put r2 st2;have hx2:x / 256 < 18446744073709551616:=by omega
  obtain⟨H',own2,e4,w4,st4⟩:=ZDy hN t (k+1) (x / 256) (bs++[UInt8.ofNat (x % 256)]) own' X3 (by omega) (by omega) hx2 (by rw[List.length_append,List.length_singleton];omega) w3;have c1:cvi .u8 (.int .u64 x) H=some (.int .u8 ((UInt8.ofNat (x % 256)).toNat),H):=by rw[Qx,wu8,ZBV]
  have c2:∀ Y,bop .int .shr (.int .u64 x) (.int .u64 8) Y=some (.int .u64 ((x / 256:Nat):Int),Y):=fun Y=>by
   rw[ZJo,if_neg (by decide)]
   congr 3
   rw[show(2:Int) ^ min (8:Int).toNat IntKind.u64.bits=256 from rfl];rw[Int.fdiv_eq_ediv_of_nonneg _ (by decide)];omega
  have c3:ld1 (pt p) H=some (sl,H):=KQ hc;refine⟨H',own2,(ZJ ?_).trans e4,?_,(k1.step.more (by simp) (fun j hj=>.inl hj)).trans (st3.trans st4)⟩
  .rw[ZL];unfold YK.l1;rw[Za Zs,Zb,if_pos (by simpa using hlt),Za Zg,Za Zi,Za c3,Za c1,Za e1,Za e2,Za Zg,Za Zi,Za e3,Za (c2 _),Za ZG,Je (by omega)];rfl
  .rw[List.append_assoc] at w4;exact w4
theorem ZDg {N x:Nat} (hN:N<=1000) (hx:x < 18446744073709551616) (hb:bs.length+N<=1000000000000) (h:Wtr H p bs own):∃ H' own',R (n+1) K5 [pt p,.int .u64 x,iv N] H=some (pt p,H')/\Wtr H' p (bs++le x N) own'/\Zo (p :: own) H (p :: own') H':=by
 obtain⟨H',own',e,w,s⟩:=ZDy (n:=n) hN N 0 x bs own H (by omega) (by omega) hx hb h;have e:Zj (c4 (YK.l1 (R n))) [pt p,.int .u64 x,iv N,.int .i64 0] H=_:=e;refine⟨H',own',?_,w,s⟩;rw[R,Zo3 rfl];unfold YK;rw[Qk e,ZI];rfl
theorem Zjc {x:Nat} (hx:x < 256) (hb:bs.length<=100000000000) (h:Wtr H p bs own):∃ H' own',R (n+2) Qi [pt p,.int .u8 x] H=some (pt p,H')/\Wtr H' p (bs++le x 1) own'/\Zo (p :: own) H (p :: own') H':=by
 obtain⟨H',own',e,w,s⟩:=ZDg (n:=n) (N:=1) (x:=x) (by omega) (by omega) (by omega) h;have e:R (n+1) K5 [pt p,.int .u64 x,.int .i64 1] H=_:=e;have c1:cvi .u64 (.int .u8 x) H=some (.int .u64 x,H):=by rw[Qx,ZuZ,Int.emod_eq_of_lt (by omega) (by omega)]
 refine⟨H',own',?_,w,s⟩;rw[R,ZnG rfl];unfold Zeq;rw[Za c1,Za e];rfl
theorem Zul {x:Nat} (hx:x < 65536) (hb:bs.length<=100000000000) (h:Wtr H p bs own):∃ H' own',R (n+2) Yj [pt p,.int .u16 x] H=some (pt p,H')/\Wtr H' p (bs++le x 2) own'/\Zo (p :: own) H (p :: own') H':=by
 obtain⟨H',own',e,w,s⟩:=ZDg (n:=n) (N:=2) (x:=x) (by omega) (by omega) (by omega) h;have e:R (n+1) K5 [pt p,.int .u64 x,.int .i64 2] H=_:=e;have c1:cvi .u64 (.int .u16 x) H=some (.int .u64 x,H):=by rw[Qx,ZuZ,Int.emod_eq_of_lt (by omega) (by omega)]
 refine⟨H',own',?_,w,s⟩;rw[R,Zoe rfl];unfold Zfi;rw[Za c1,Za e];rfl
theorem Zys (n:Int):IntKind.u16.wrap n=n % 65536:=by simp[IntKind.wrap,IntKind.bits,IntKind.signed]
theorem ZIQ:QL 1 H (strv s)=some (u8s s):=by
 unfold strv QL;rfl
theorem ZF3:A.flen (strv s)=(u8s s).length:=by
 rw[Jm];unfold strv A.flen;exact Zu7
theorem Zfq (hs:s.length<=65535) (hb:bs.length<=1000000000) (h:Wtr H p bs own):∃ H' own',R (n+3) Qz [pt p,strv s] H=some (pt p,H')/\Wtr H' p (bs++txt s) own'/\Zo (p :: own) H (p :: own') H':=by
 obtain⟨H1,q1,e1,w1,s1⟩:=Zul (n:=n) (x:=s.length) (by omega) (by omega) h;obtain⟨sl,hc,hr⟩:=w1.o;have hl2:(u8s (bs++le s.length 2)).length=bs.length+2:=by rw[Jm,List.length_append,KS]
 have hl3:(u8s s).length=s.length:=Jm s;obtain⟨sl',H2,q2,e2,r2,s2⟩:=hr.addN (b:=1) (x:=strv s) ZIQ ZF3 (by omega) (by omega);rw[<- ZHR,List.append_assoc] at r2;obtain⟨H3,e3,w3,s3⟩:=w1.put r2 s2;have c0:mxi false (iv s.length) (.int .i64 65535) H=some (iv s.length,H):=by rw[YO,if_neg (by omega)]
 have c1:sls (strv s) none (some (iv s.length)) H=some (strv s,H):=by
  have:=ZxA (s:=s) (k:=s.length) (H:=H) (Nat.le_refl _)
  rwa [List.take_length] at this
 have c2:cvi .u16 (iv s.length) H=some (.int .u16 s.length,H):=by rw[Qx,Zys,Int.emod_eq_of_lt (by omega) (by omega)]
 have c3:ld1 (pt p) H1=some (sl,H1):=KQ hc;refine⟨H3,q2,?_,w3,s1.trans s3⟩;rw[R,ZnB rfl];unfold ZeC;rw[Za Qg,Za c0,Za c1,Za Qg,Za c2,Za e1,Za Zg,Za Zi,Za c3,Za e2,Za Zg,Za Zi,Za e3];rfl
theorem ZAV {b:Value} {bs:List UInt8} (hb:Sl H b (u8s bs)) (hp:bs.length<=140737488355328) :
  ∃ v q H',R (n+1) ZdY [b] H=some (v,H')/\Zt H' v (u8s bs) q/\HLe H H'/\∀ j∈q,H.length<=j:=by
 rw[R,Zvb rfl];rcases hb.isnil (H':=H) with⟨rfl,hp0,e⟩|e
 .refine⟨.slice none 0 0,[],H,?_,by rw[hp0];exact Zt.nil,.refl _,by simp⟩;unfold Zgv;rw[Za e];rfl
 .have hb2:Sl (H++[.cells [] 1 false false]) b (u8s bs):=hb.mono (.app _ _);obtain⟨sl',H',own',e2,hr,hle,ho⟩:=ZzO (b:=1) hb2 (by rw[Jm];omega) (by rw[Jm];omega) (s:=.slice (some ⟨H.length,0,none⟩) 0 0) (.inr ⟨H.length,false,rfl,Zn,rfl⟩);refine⟨sl',own',H',?_,hr,(HLe.app _ _).trans hle,fun j hj=>?_⟩
  .unfold Zgv;rw[Za e,Zb,if_neg (by simp),Za ZFa,Za e2];rfl
  .rcases ho j hj with h|⟨_,h⟩
   .simp at h;omega
   .cases h;exact Nat.le_refl _
theorem ZrR (hb:bs.length<=1000000000) (h:Wtr H p bs own):∃ v q H',R (n+2) J7 [pt p] H=some (v,H')/\Zt H' v (u8s bs) q/\HLe H H'/\∀ j∈q,H.length<=j:=by
 obtain⟨sl,hc,hr⟩:=h.o;obtain⟨v,q,H',e,r,l,o⟩:=ZAV (n:=n) hr.rd (by omega);refine⟨v,q,H',?_,r,l,o⟩;rw[R,Zl2 rfl];unfold ZdU;rw[Za Zg,Za Zi,Za (KQ hc),Za e];rfl
theorem ZvJ:bld (.agg #[.slice none 0 0]) [] H=some (.agg #[.slice none 0 0],H)/\alc 1 (.agg #[.slice none 0 0]) H=some (pt H.length,H++[.cells [.slice none 0 0] 1 false false])/\Wtr (H++[.cells [.slice none 0 0] 1 false false]) H.length [] []:=
 ⟨rfl,rfl,⟨⟨.slice none 0 0,Zn,Zt.nil⟩,by simp⟩⟩
end
abbrev RSt:=Nat × List UInt8
def leN:List UInt8->Nat
 | []=>0
 | b :: l=>b.toNat+256 * leN l
def WB (e:Nat) (s:RSt):RSt:=if s.1=0/\e≠0 then(e,[]) else s
def tkS (n:Nat) (s:RSt):List UInt8 × RSt:=if n<=s.2.length then(s.2.take n,(s.1,s.2.drop n)) else([],WB 2 s)
def Jl (k:Nat) (s:RSt):Nat × RSt:=(leN (tkS k s).1,(tkS k s).2)
def JD (most:Nat) (s:RSt):Nat × RSt:=if(Jl 2 s).1 > most then(0,WB 3 (Jl 2 s).2) else Jl 2 s
def Yo (most:Nat) (s:RSt):List UInt8 × RSt:=tkS (JD most s).1 (JD most s).2
def RB (H:Zd) (sl:Value) (bs:List UInt8):Prop:=
 (bs=[]/\(sl=.slice none 0 0\/∃ id o j,sl=.slice (some ⟨id,o,some j⟩) 0 0))\/
 ∃ id o c cs g ro,sl=.slice (some ⟨id,o,none⟩) bs.length c/\bs.length<=c/\H[id]?=some (.cells cs 1 g ro)/\o+bs.length<=cs.length/\(cs.drop o).take bs.length=u8s bs
def Rdr (H:Zd) (p:Nat) (s:RSt):Prop:=
 ∃ sl,H[p]?=some (.cells [sl,iv s.1] 1 false false)/\RB H sl s.2/\(∀ j,own1 sl=some j->j < p)/\(s.1≠0->s.2=[])
theorem ZzL:∀ (l:List UInt8),leN l < 256 ^ l.length
 | []=>by decide
 | b :: l=>by
  have h1:=ZzL l;have h2:b.toNat < 256:=b.toNat_lt;rw[List.length_cons,Nat.pow_succ];unfold leN;omega
theorem Zsz:∀ (l:List UInt8) (b:UInt8),leN (l++[b])=leN l+b.toNat * 2 ^ (8 * l.length)
 | [],b=>by simp[leN]
 | a :: l,b=>by
  rw[List.cons_append];unfold leN;rw[Zsz l b,List.length_cons,Nat.mul_add,show 8 * (l.length+1)=8 * l.length+8 by omega,Nat.pow_add];have:256 * (b.toNat * 2 ^ (8 * l.length))=b.toNat * (2 ^ (8 * l.length) * 2 ^ 8):=by
   rw[<- Nat.mul_assoc,Nat.mul_comm 256,Nat.mul_assoc,Nat.mul_comm 256]
  omega
section
variable {H X:Zd} {n p:Nat} {sl x v:Value} {vs ws:List Value} {own:List Nat} {bs:List UInt8} {s:RSt}
theorem RB.rd (h:RB H sl bs):Sl H sl (u8s bs):=by
 rcases h with⟨rfl,rfl|⟨id,o,j,rfl⟩⟩|⟨id,o,c,cs,g,ro,rfl,h1,h2,h3,h4⟩
 .exact Sl.nil
 .exact⟨_,_,rfl,(fun e=>by cases e),rfl⟩
 .refine⟨_,c,by rw[Jm],(fun e=>by cases e),?_⟩;unfold QL;simp only[h2,Nat.mul_one];rw[if_pos h3,h4]
theorem RB.one (h:RB H sl bs):oneCell sl=true:=by
 rcases h with⟨rfl,rfl|⟨id,o,j,rfl⟩⟩|⟨id,o,c,cs,g,ro,rfl,_⟩<;>rfl
theorem RB.keep (h:RB H sl bs) (hk:∀ j,own1 sl=some j->X[j]?=H[j]?):RB X sl bs:=by
 rcases h with h|⟨id,o,c,cs,g,ro,rfl,h1,h2,h3,h4⟩
 .exact .inl h
 .exact .inr ⟨id,o,c,cs,g,ro,rfl,h1,by rw[hk id rfl];exact h2,h3,h4⟩
theorem Zt.rb {q:List Nat} (h:Zt H sl (u8s bs) q):RB H sl bs:=by
 rcases h with⟨h1,rfl,rfl⟩|⟨sid,rest,g,rfl,rfl,hid⟩
 .refine .inl ⟨?_,.inl rfl⟩;cases bs with
  | nil=>rfl
  | cons b l=>simp[u8s] at h1
 .refine .inr ⟨sid,0,_,_,g,false,by rw[Jm],by first|omega|(rw[Jm];omega),hid,?_,?_⟩
  .rw[List.length_append,Jm];omega
  .rw[List.drop_zero,<- Jm bs,List.take_left]
theorem RB.cut (h:RB H sl bs) {k:Nat} (hk:k<=bs.length):∃ a b,slv 1 sl none (some (iv k)) none H=some (a,H)/\slv 1 sl (some (iv k)) none none H=some (b,H)/\RB H a (bs.take k)/\RB H b (bs.drop k)/\(∀ j,own1 a=some j->own1 sl=some j)/\(∀ j,own1 b=some j->own1 sl=some j):=by
 have b1:∀ d,bnd (some (iv k)) d=some k:=fun d=>by simp[bnd]
 have b2:∀ d,bnd none d=some d:=fun _=>rfl;rcases h with⟨rfl,h⟩|⟨id,o,c,cs,g,ro,rfl,h1,h2,h3,h4⟩
 .have hk0:k=0:=by simpa using hk
  subst hk0;rcases h with rfl|⟨id,o,j,rfl⟩
  .exact⟨_,_,rfl,rfl,.inl ⟨rfl,.inl rfl⟩,.inl ⟨rfl,.inl rfl⟩,fun _ h=>h,fun _ h=>h⟩
  .exact⟨_,_,rfl,rfl,.inl ⟨rfl,.inr ⟨_,_,_,rfl⟩⟩,.inl ⟨rfl,.inr ⟨_,_,_,rfl⟩⟩,fun _ h=>h,fun _ h=>h⟩
 .have hA:∃ a,slv 1 (.slice (some ⟨id,o,none⟩) bs.length c) none (some (iv k)) none H=some (a,H)/\RB H a (bs.take k)/\(∀ j,own1 a=some j->some id=some j):=by
   by_cases h0:c=0
   .have hb:bs=[]:=List.eq_nil_of_length_eq_zero (by omega);subst hb;refine⟨.slice (some ⟨id,o,some (bif g then 1 else 0)⟩) 0 0,?_,.inl ⟨List.take_nil,.inr ⟨_,_,_,rfl⟩⟩,fun j h=>by cases h⟩;have hk0:k=0:=by simpa using hk
    subst hk0;simp only[slv,h2,b1,b2];rw[if_pos ⟨trivial,by omega,by omega,Nat.le_refl _⟩,if_pos (by omega)]
   .have hl:(bs.take k).length=k:=by simp;omega
    refine⟨.slice (some ⟨id,o,none⟩) k c,?_,.inr ⟨id,o,c,cs,g,ro,by rw[hl],by omega,h2,by omega,?_⟩,fun j h=>h⟩
    .simp only[slv,h2,b1,b2];rw[if_pos ⟨trivial,by omega,by omega,Nat.le_refl _⟩,if_neg (by omega)];simp
    .have:=congrArg (List.take k) h4;rw[List.take_take,Nat.min_eq_left hk] at this;rw[hl,this];simp[u8s,List.map_take]
  have hB:∃ b,slv 1 (.slice (some ⟨id,o,none⟩) bs.length c) (some (iv k)) none none H=some (b,H)/\RB H b (bs.drop k)/\(∀ j,own1 b=some j->some id=some j):=by
   by_cases h0:c=k
   .have hb:bs.drop k=[]:=List.drop_eq_nil_of_le (by omega);refine⟨.slice (some ⟨id,o,some (bif g then 1 else 0)⟩) 0 0,?_,.inl ⟨hb,.inr ⟨_,_,_,rfl⟩⟩,fun j h=>by cases h⟩;simp only[slv,h2,b1,b2];rw[if_pos ⟨trivial,by omega,by omega,Nat.le_refl _⟩,if_pos (by omega)]
   .have hl:(bs.drop k).length=bs.length - k:=by simp
    refine⟨.slice (some ⟨id,o+k,none⟩) (bs.length - k) (c - k),?_,.inr ⟨id,o+k,c - k,cs,g,ro,by rw[hl],by omega,h2,by omega,?_⟩,fun j h=>h⟩
    .simp only[slv,h2,b1,b2];rw[if_pos ⟨trivial,by omega,by omega,Nat.le_refl _⟩,if_neg (by omega)];simp
    .have:=congrArg (List.drop k) h4;rw[List.drop_take,List.drop_drop] at this;rw[hl,this];simp[u8s,List.map_drop]
  obtain⟨a,a1,a2,a3⟩:=hA;obtain⟨b,c1,c2,c3⟩:=hB;exact⟨a,b,a1,c1,a2,c2,a3,c3⟩
theorem Rdr.lt (h:Rdr H p s):p < H.length:=by
 obtain⟨sl,hc,_⟩:=h;exact ZX hc
theorem Rdr.other {a:Nat} {o:Zf} (h:Rdr H p s) (ha:p < a):Rdr (H.set a o) p s:=by
 obtain⟨sl,h1,h2,h3,h4⟩:=h;exact⟨sl,(List.getElem?_set_ne (by omega)).trans h1,h2.keep fun j hj=>List.getElem?_set_ne (by have:=h3 j hj;omega),h3,h4⟩
theorem Rdr.hle (h:Rdr H p s) (hl:HLe H X):Rdr X p s:=by
 obtain⟨sl,hc,hr,hn,h0⟩:=h;refine⟨sl,hl _ _ hc,hr.keep fun j hj=>?_,hn,h0⟩;rcases hr with⟨_,rfl|⟨id,o,k,rfl⟩⟩|⟨id,o,c,cs,g,ro,rfl,h1,h2,h3,h4⟩
 .cases hj
 .cases hj
 .cases hj;rw[h2,hl _ _ h2]
theorem Rdr.put {s':RSt} {sl':Value} (hc:H[p]?=some (.cells [x,v] 1 false false)) (hr:RB H sl' s'.2) (hn:∀ j,own1 sl'=some j->j < p) (h0:s'.1≠0->s'.2=[]):Rdr (H.set p (.cells [sl',iv s'.1] 1 false false)) p s'/\Zo [p] H [p] (H.set p (.cells [sl',iv s'.1] 1 false false)):=
 ⟨⟨sl',ZW hc,hr.keep fun j hj=>List.getElem?_set_ne (fun e=>by have:=hn j hj;omega),hn,h0⟩,⟨by simp,fun j hj hm=>List.getElem?_set_ne (fun e=>hm (by simp[e])),fun j hj=>.inl hj⟩⟩
theorem Zjp {e:Nat} (he:e<=1000) (h:Rdr H p s):∃ H',R (n+1) ZO [pt p,iv e] H=some (.tuple #[],H')/\Rdr H' p (WB e s)/\Zo [p] H [p] H':=by
 obtain⟨sl,hc,hr,hn,h0⟩:=h;have a1:ld1 (pa p 1) H=some (iv s.1,H):=Zy hc rfl;have f1:∀ H',WG (R n) (pt p) (iv e) H=some (.tuple #[],H')->R (n+1) ZO [pt p,iv e] H=some (.tuple #[],H'):=fun H' hr=>by rw[R,ZnE rfl];exact hr
 unfold WB;by_cases hs:s.1=0
 .have q1:bop .int .eql (iv s.1) (.int .i64 0) H=some (.bool true,H):=by rw[ZA,hs];rfl
  by_cases he0:e=0
  .have q2:bop .int .neq (iv e) (.int .i64 0) H=some (.bool false,H):=by rw[Zl,he0];rfl
   rw[if_neg (by simp[he0])];refine⟨H,f1 _ ?_,⟨sl,hc,hr,hn,h0⟩,.refl _ _⟩;unfold WG;rw[Za Zg,Za Zi,Za a1,Za q1,Z4,Zm,Za q2,Z5,ZT,Za Zk];simp only[cond_true];refine(ZC (vs:=[]) (H':=H) ?_).trans ?_
   .rw[Zb,if_neg (by simp)];rfl
   .rfl
  .have q2:bop .int .neq (iv e) (.int .i64 0) H=some (.bool true,H):=by rw[Zl];simp[he0]
   rw[if_pos ⟨hs,he0⟩];have w1:st1 (pa p 0) (.slice none 0 0) H=some (undef,H.set p (.cells [.slice none 0 0,iv s.1] 1 false false)):=Wq (o:=0) hc (by simp) rfl;have c1:(H.set p (.cells [.slice none 0 0,iv s.1] 1 false false))[p]?=some (.cells [.slice none 0 0,iv s.1] 1 false false):=ZW hc;have w2:st1 (pa p 1) (iv e) (H.set p (.cells [.slice none 0 0,iv s.1] 1 false false))=some (undef,(H.set p (.cells [.slice none 0 0,iv s.1] 1 false false)).set p (.cells [.slice none 0 0,iv e] 1 false false)):=Wq (o:=1) c1 (by simp) rfl;rw[List.set_set] at w2;have hp:=Rdr.put (s':=(e,[])) (sl':=.slice none 0 0) hc (.inl ⟨rfl,.inl rfl⟩) (by simp[own1]) (fun _=>rfl);refine⟨_,f1 _ ?_,hp.1,hp.2⟩;unfold WG;rw[Za Zg,Za Zi,Za a1,Za q1,Z4,Zm,Za q2,Z5,ZT,Za Zk];simp only[cond_true];refine(ZC (vs:=[]) (H':=H.set p (.cells [.slice none 0 0,iv e] 1 false false)) ?_).trans ?_
   .rw[Zb,if_pos (by simp),Za Zg,Za Zi,Za w1,Za Zg,Za Zi,Za w2];rfl
   .rfl
 .have q1:bop .int .eql (iv s.1) (.int .i64 0) H=some (.bool false,H):=by rw[ZA];simp[hs]
  rw[if_neg (by simp[hs])];refine⟨H,f1 _ ?_,⟨sl,hc,hr,hn,h0⟩,.refl _ _⟩;unfold WG;rw[Za Zg,Za Zi,Za a1,Za q1,Za (g_r.trans (if_neg (by simp)))];simp only[List.replicate];rw[ZT,Za Zk];simp only[cond_false];refine(ZC (vs:=[]) (H':=H) ?_).trans ?_
  .rw[Zb,if_neg (by simp)];rfl
  .rfl
theorem ZEf {k:Nat} (hk:k<=1000000000) (h:Rdr H p s):∃ v H',R (n+2) KI [pt p,iv k] H=some (v,H')/\RB H' v (tkS k s).1/\Rdr H' p (tkS k s).2/\Zo [p] H [p] H':=by
 have h':=h;obtain⟨sl,hc,hr,hn,h0⟩:=h;have a1:ld1 (pa p 0) H=some (sl,H):=Zy hc rfl;have hl:ZB sl H=some (iv s.2.length,H):=by have:=hr.rd.len (H':=H);rwa [Jm] at this
 have f1:∀ r H',ZaK (R (n+1)) (pt p) (iv k) H=some (r,H')->R (n+2) KI [pt p,iv k] H=some (r,H'):=fun r H' hr=>by rw[R,Znr rfl];exact hr
 unfold tkS;by_cases hle:k<=s.2.length
 .rw[if_pos hle];obtain⟨a,b,e1,e2,ra,rb,oa,ob⟩:=hr.cut hle;have q1:bop .int .gtr (iv k) (iv s.2.length) H=some (.bool false,H):=by rw[Z0,decide_eq_false (by omega)]
  have w1:st1 (pa p 0) b H=some (undef,H.set p (.cells [b,iv s.1] 1 false false)):=Wq (o:=0) hc (by simp) rb.one;have hp:=Rdr.put (s':=(s.1,s.2.drop k)) (sl':=b) hc rb (fun j e=>hn j (ob _ e)) (fun h=>by simp[h0 h]);refine⟨a,_,f1 _ _ ?_,ra.keep fun j hj=>List.getElem?_set_ne (fun e=>by have:=hn j (oa _ hj);omega),hp.1,hp.2⟩;unfold ZaK;rw[Za Zg,Za Zi,Za a1,Za hl,Za q1,Zb,if_neg (by simp),Za Zg,Za Zi,Za a1,Za e1,Za Zg,Za Zi,Za a1,Za e2,Za Zg,Za Zi,Za w1];rfl
 .rw[if_neg hle];have q1:bop .int .gtr (iv k) (iv s.2.length) H=some (.bool true,H):=by rw[Z0,decide_eq_true (by omega)]
  obtain⟨H',e2,r2,s2⟩:=Zjp (n:=n) (e:=2) (by omega) h';have e2:R (n+1) ZO [pt p,.int .i64 2] H=_:=e2;refine⟨.slice none 0 0,H',f1 _ _ ?_,.inl ⟨rfl,.inl rfl⟩,r2,s2⟩;unfold ZaK;rw[Za Zg,Za Zi,Za a1,Za hl,Za q1,Zb,if_pos rfl,Za e2];rfl
theorem ZBr {bs:List UInt8} (hb:bs.length<=8) (hs:Sl X v (u8s bs)):∀ (t k:Nat),bs.length - k=t->k<=bs.length->
  Zj (c4 (YH.l1 (R n))) [.int .u64 (leN (bs.take k)),v,iv bs.length,iv k] X=some (.ext 0 [.int .u64 (leN bs)],X)
 | 0,k,ht,hk=>by
  have:k=bs.length:=by omega
  subst this;refine ZZ ?_;rw[ZL,List.take_length];unfold YH.l1;rw[Za Zs,Zb,if_neg (by simp)];rfl
 | t+1,k,ht,hk=>by
  have hkl:k < bs.length:=by omega
  have hlt:(k:Int) < bs.length:=by omega
  have hg:=List.getElem?_eq_getElem hkl;have htk:bs.take (k+1)=bs.take k++[bs[k]]:=(List.take_append_getElem hkl).symm;generalize bs[k]=b at hg htk;have hkk:(u8s bs)[k]?=some (.int .u8 b.toNat):=by simp[u8s,hg]
  have x1:=hs.ix (i:=k) (by rw[Jm];exact hkl) .i64 X;have x2:=hs.ldx hkk;have hb2:b.toNat < 256:=b.toNat_lt;have hlen:(bs.take k).length=k:=by simp;omega
  have hpow:2 ^ (8 * k)<=2 ^ 56:=Nat.pow_le_pow_right (by decide) (by omega);have hlt2:leN (bs.take k) < 2 ^ (8 * k):=by
   have:=ZzL (bs.take k);rw[hlen] at this
   rwa [Nat.pow_mul]
  have hprod:b.toNat * 2 ^ (8 * k)<=255 * 2 ^ 56:=Nat.mul_le_mul (by omega) hpow;have c1:cvi .u64 (.int .u8 b.toNat) X=some (.int .u64 b.toNat,X):=by rw[Qx,ZuZ,Int.emod_eq_of_lt (by omega) (by omega)]
  have c2:bop .int .mul (.int .i64 8) (iv k) X=some (iv ((8 * k:Nat):Int),X):=by rw[JZ,w64 (by omega) (by omega)];simp
  have c3:bop .int .shl (.int .u64 b.toNat) (iv ((8 * k:Nat):Int)) X=some (.int .u64 ((b.toNat * 2 ^ (8 * k):Nat):Int),X):=by
   rw[ZJH,if_neg (by omega)];have hm:min ((8 * k:Nat):Int).toNat IntKind.u64.bits=8 * k:=by
    rw[Int.toNat_natCast];show min (8 * k) 64=8 * k
    omega
   have hc:(b.toNat:Int) * 2 ^ (8 * k)=((b.toNat * 2 ^ (8 * k):Nat):Int):=by push_cast;rfl
   rw[hm,hc,ZuZ,Int.emod_eq_of_lt (by omega) (by omega)]
  have c4':bop .int .or (.int .u64 (leN (bs.take k))) (.int .u64 ((b.toNat * 2 ^ (8 * k):Nat):Int)) X=some (.int .u64 (leN (bs.take (k+1))),X):=by
   rw[ZJ3];have ho:((BitVec.ofInt IntKind.u64.bits (leN (bs.take k):Int) ||| BitVec.ofInt IntKind.u64.bits ((b.toNat * 2 ^ (8 * k):Nat):Int)).toNat)=leN (bs.take (k+1)):=by
    rw[BitVec.toNat_or,BitVec.ofInt_natCast,BitVec.ofInt_natCast,BitVec.toNat_ofNat,BitVec.toNat_ofNat];show leN (bs.take k) % 2 ^ 64 ||| (b.toNat * 2 ^ (8 * k)) % 2 ^ 64=_
    rw[Nat.mod_eq_of_lt (by omega),Nat.mod_eq_of_lt (by omega),htk,Zsz,hlen,Nat.or_comm,<- Nat.shiftLeft_eq,<- Nat.shiftLeft_add_eq_or_of_lt hlt2,Nat.add_comm]
   rw[ho];have:leN (bs.take (k+1)) < 2 ^ 64:=by
    rw[htk,Zsz,hlen];omega
   rw[ZuZ,Int.emod_eq_of_lt (by omega) (by omega)]
  refine(ZJ ?_).trans (ZBr hb hs t (k+1) (by omega) (by omega));rw[ZL];unfold YH.l1;rw[Za Zs,Zb,if_pos (by simpa using hlt),Za x1,Za x2,Za c1,Za c2,Za c3,Za c4',Za ZG,Je (by omega)];rfl
theorem ZBt {k:Nat}:(tkS k s).1.length<=k:=by
 unfold tkS;split
 .simp;omega
 .exact Nat.zero_le _
theorem ZDX {k:Nat} (hk:k<=8) (h:Rdr H p s):∃ H',R (n+3) K6 [pt p,iv k] H=some (.int .u64 (Jl k s).1,H')/\Rdr H' p (Jl k s).2/\Zo [p] H [p] H':=by
 obtain⟨v,H',e1,rb,r1,s1⟩:=ZEf (n:=n) (k:=k) (by omega) h;have hl:=ZBt (k:=k) (s:=s);have e2:ZB v H'=some (iv (tkS k s).1.length,H'):=by have:=rb.rd.len (H':=H');rwa [Jm] at this
 have e3:=ZBr (n:=n+2) (bs:=(tkS k s).1) (by omega) rb.rd (tkS k s).1.length 0 (by omega) (by omega);have e3:Zj (c4 (YH.l1 (R (n+2)))) [.int .u64 0,v,iv (tkS k s).1.length,.int .i64 0] H'=_:=e3;refine⟨H',?_,r1,s1⟩;rw[R,ZoO rfl];unfold YH;rw[Za e1,Za e2,Qk e3,ZI];rfl
theorem Zjf {k:Nat}:(Jl k s).1 < 256 ^ k:=
 Nat.lt_of_lt_of_le (ZzL _) (Nat.pow_le_pow_right (by decide) ZBt)
theorem ZxU (h:Rdr H p s):∃ H',R (n+4) Yr [pt p] H=some (.int .u8 (Jl 1 s).1,H')/\Rdr H' p (Jl 1 s).2/\Zo [p] H [p] H':=by
 obtain⟨H',e,r,st⟩:=ZDX (n:=n) (k:=1) (by omega) h;have e:R (n+3) K6 [pt p,.int .i64 1] H=_:=e;have hl:=Zjf (s:=s) (k:=1);have c1:cvi .u8 (.int .u64 (Jl 1 s).1) H'=some (.int .u8 (Jl 1 s).1,H'):=by rw[Qx,wu8,Int.emod_eq_of_lt (by omega) (by omega)]
 refine⟨H',?_,r,st⟩;rw[R,ZnH rfl];unfold ZeE;rw[Za e,Za c1];rfl
theorem ZCH (h:Rdr H p s):∃ H',R (n+4) YM [pt p] H=some (.int .u16 (Jl 2 s).1,H')/\Rdr H' p (Jl 2 s).2/\Zo [p] H [p] H':=by
 obtain⟨H',e,r,st⟩:=ZDX (n:=n) (k:=2) (by omega) h;have e:R (n+3) K6 [pt p,.int .i64 2] H=_:=e;have hl:=Zjf (s:=s) (k:=2);have c1:cvi .u16 (.int .u64 (Jl 2 s).1) H'=some (.int .u16 (Jl 2 s).1,H'):=by rw[Qx,Zys,Int.emod_eq_of_lt (by omega) (by omega)]
 refine⟨H',?_,r,st⟩;rw[R,Zpv rfl];unfold Zfo;rw[Za e,Za c1];rfl
theorem Zx7 {most:Nat} (hm:most<=1000000) (h:Rdr H p s):∃ H',R (n+5) Kw [pt p,iv most] H=some (iv (JD most s).1,H')/\Rdr H' p (JD most s).2/\Zo [p] H [p] H':=by
 obtain⟨H1,e1,r1,s1⟩:=ZCH (n:=n) h;have hl:=Zjf (s:=s) (k:=2);have c1:cvi .i64 (.int .u16 (Jl 2 s).1) H1=some (iv (Jl 2 s).1,H1):=by rw[Qx,w64 (by omega) (by omega)]
 have c2:mxi true (.int .i64 0) (iv most) H1=some (iv most,H1):=by
  rw[Kf];by_cases h0:(most:Int) > 0
  .rw[if_pos h0]
  .rw[if_neg h0,show(most:Int)=0 by omega]
 have f1:∀ r H',Zaq (R (n+4)) (pt p) (iv most) H=some (r,H')->R (n+5) Kw [pt p,iv most] H=some (r,H'):=fun r H' hr=>by rw[R,ZmU rfl];exact hr
 unfold JD;by_cases hg:(Jl 2 s).1 > most
 .rw[if_pos hg];have q1:bop .int .gtr (iv (Jl 2 s).1) (iv most) H1=some (.bool true,H1):=by rw[Z0,decide_eq_true (by omega)]
  obtain⟨H2,e2,r2,s2⟩:=Zjp (n:=n+3) (e:=3) (by omega) r1;have e2:R (n+4) ZO [pt p,.int .i64 3] H1=_:=e2;refine⟨H2,f1 _ _ ?_,r2,s1.trans s2⟩;unfold Zaq;rw[Za e1,Za c1,Za c2,Za q1,Zb,if_pos rfl,Za e2];rfl
 .rw[if_neg hg];have q1:bop .int .gtr (iv (Jl 2 s).1) (iv most) H1=some (.bool false,H1):=by rw[Z0,decide_eq_false (by omega)]
  refine⟨H1,f1 _ _ ?_,r1,s1⟩;unfold Zaq;rw[Za e1,Za c1,Za c2,Za q1,Zb,if_neg (by simp)];rfl
theorem Zn6 {most:Nat}:(JD most s).1 < 65536:=by
 have hl:=Zjf (s:=s) (k:=2);unfold JD;split
 .show 0 < 65536
  decide
 .exact hl
theorem Zlz {most:Nat} (hm:most<=1000000) (h:Rdr H p s):∃ H',R (n+6) Ja [pt p,iv most] H=some (strv (Yo most s).1,H')/\Rdr H' p (Yo most s).2/\Zo [p] H [p] H':=by
 obtain⟨H1,e1,r1,s1⟩:=Zx7 (n:=n) hm h;have hl:=Zn6 (s:=s) (most:=most);obtain⟨v,H2,e2,rb,r2,s2⟩:=ZEf (n:=n+3) (k:=(JD most s).1) (by omega) r1;have e2:R (n+5) KI [pt p,iv (JD most s).1] H1=_:=e2;refine⟨H2,?_,r2,s1.trans s2⟩;rw[R,Znq rfl];unfold ZeF;rw[Za e1,Za e2,Za (Zku rb.rd)];rfl
theorem Zkv (h:Rdr H p s):R (n+1) Z7 [pt p] H=some (iv s.1,H):=by
 obtain⟨sl,hc,hr,hn,h0⟩:=h;have a1:ld1 (pa p 1) H=some (iv s.1,H):=Zy hc rfl;rw[R,ZnW rfl];unfold Zfl;rw[Za Zg,Za Zi,Za a1];rfl
def Zdt (s:RSt):Nat:=if s.1=0 then(if s.2=[] then 0 else 3) else s.1
theorem ZGs (h:Rdr H p s):R (n+1) YJ [pt p] H=some (iv (Zdt s),H):=by
 obtain⟨sl,hc,hr,hn,h0⟩:=h;have a0:ld1 (pa p 0) H=some (sl,H):=Zy hc rfl;have a1:ld1 (pa p 1) H=some (iv s.1,H):=Zy hc rfl;have hl:ZB sl H=some (iv s.2.length,H):=by have:=hr.rd.len (H':=H);rwa [Jm] at this
 unfold Zdt;rw[R,Zpx rfl];unfold Zfn;by_cases hs:s.1=0
 .have q1:bop .int .eql (iv s.1) (.int .i64 0) H=some (.bool true,H):=by rw[ZA,hs];rfl
  rw[if_pos hs,Za Zg,Za Zi,Za a1,Za q1,Z4,Zm,Za Zg,Zm,Za Zi,Zm,Za a0,Zm,Za hl,Zm,Za Z0,Z5,YL,Za Zk];simp only[cond_true];rw[Zb];by_cases he:s.2=[]
  .rw[if_neg (by simp[he]),if_pos he,Za Zg,Za Zi,Za a1,hs];rfl
  .have:0 < s.2.length:=List.length_pos_iff.2 he;rw[if_pos (by simp;omega),if_neg he];rfl
 .have q1:bop .int .eql (iv s.1) (.int .i64 0) H=some (.bool false,H):=by rw[ZA];simp[hs]
  rw[if_neg hs,Za Zg,Za Zi,Za a1,Za q1,Za (g_r.trans (if_neg (by simp)))];simp only[List.replicate];rw[YL,Za Zk];simp only[cond_false];rw[Zb,if_neg (by simp),Za Zg,Za Zi,Za a1];rfl
theorem Zs4 {b:Value} {bs:List UInt8} (hb:Sl H b (u8s bs)) (hp:bs.length<=140737488355328):∃ p H',R (n+2) ZdR [b] H=some (pt p,H')/\Rdr H' p (0,bs)/\HLe H H'/\H.length<=p:=by
 obtain⟨v,q,H1,e1,r1,l1,o1⟩:=ZAV (n:=n) hb hp;have e2:bld (.agg #[.slice none 0 0,.int .i64 0]) [(0,1,v)] H1=some (.agg #[v,iv 0],H1):=by
  rcases r1 with⟨_,_,rfl⟩|⟨_,_,_,rfl,_,_⟩<;>rfl
 have e3:alc 1 (.agg #[v,iv 0]) H1=some (pt H1.length,H1++[.cells [v,iv 0] 1 false false]):=Zeh (vs:=[v,iv 0]) (by rw[List.all_cons,r1.one.1];rfl);have hl:=l1.len;refine⟨H1.length,_,?_,⟨v,Zn,r1.rb.keep fun j hj=>?_,fun j e=>?_,fun h=>absurd rfl h⟩,l1.trans (.app _ _),hl⟩
 .rw[R,ZAz rfl];unfold Zo8;rw[Za e1,Za e2,Za e3];rfl
 .have:=r1.lt j (by rw[r1.own1 hj];simp);exact List.getElem?_append_left this
 .exact r1.lt j (by rw[r1.own1 e];simp)
end
structure OpT where
 kd:Nat
 a:Tx
 b:Tx
 nd:Nat
 rl:Nat
 deriving DecidableEq
def OpT.cells (o:OpT):List Value:=[.int .u8 o.kd,strv o.a,strv o.b,.int .u8 o.nd,.int .u8 o.rl]
structure Zn3 (o:OpT):Prop where
 kd:o.kd<=255
 nd:o.nd<=255
 rl:o.rl<=255
def ZbO:List Tx:=[[97,98],[97],[97,98],[97],[97],[97,98],[97],[97],[97,98],[97],[97],[97,98],[97,98],[97],[97],[],[110,114]]
def sgn (o:OpT):Tx:=ZbO.getD o.kd []
def ZfM (o:OpT):OpT:=
 ⟨o.kd,if 97∈sgn o then o.a else[],if 98∈sgn o then o.b else[],if 110∈sgn o then o.nd else 0,if 114∈sgn o then o.rl else 0⟩
def ZlS (o:OpT) (c:UInt8):Bool:=if c=110 then decide (o.nd < 7) else if c=114 then decide (1<=o.rl) && decide (o.rl<=3) else true
def ZrZ (o:OpT) (c:UInt8):List UInt8:=if c=97 then txt o.a else if c=98 then txt o.b else if c=110 then le o.nd 1 else if c=114 then le o.rl 1 else[]
def ZfT (o:OpT):List UInt8:=le o.kd 1++((sgn o).map (ZrZ o)).flatten
def checkO (o:OpT):Nat:=
 if 17<=o.kd\/o≠ZfM o then 4
 else if(sgn o).all (ZlS o) then(if 64 < o.a.length+o.b.length\/64 < (ZfT o).length then 3 else 0) else 4
inductive Qf where
 | old (m:QH)
 | now (s:NSt)
structure Qy where
 num:Nat
 e:Nat
 l:List Tx
structure W7 where
 cl:Nat
 num:Nat
 o:OpT
def W7.cells (r:W7):List Value:=[.int .u8 r.cl,.int .u64 r.num]++r.o.cells
structure ZmN (r:W7):Prop where
 cl:r.cl<=255
 num:r.num < 18446744073709551616
 o:Zn3 r.o
def judgeS (t:List Qy) (c n:Nat):Nat:=
 if 8<=c\/n=0\/1099511627776 < n then 0
 else match t[c]? with
  | some r=>if n < r.num then 1 else if n=r.num then 2 else 3
  | none=>0
def ZeA (m:Tx):Bool:=m==[] || (Yp m && QO m==m)
def Kh:List Tx->Bool
 | a :: b :: l=>decide (a < b) && Kh (b :: l)
 | _=>true
def Zih (gs:List Tx):Int:=if 6 < gs.length then 7 else if gs.all Zw then(if Kh gs then 0 else 9) else 10
def J2 (u:Zv):Int:=if Zw u.nm then(if K9 u.hs then(if ZeA u.ml then Zih u.gs else 11) else 4) else 10
section
variable {X X' H H0:Zd} {n p:Nat} {v sl:Value} {l gs:List Tx} {m:Tx} {u:Zv}
theorem ZhU {a b:Tx}:Kh (a :: b :: l)=(decide (a < b) && Kh (b :: l)):=rfl
theorem Zt5 (hl:l.length<=1000000) (hs:Sl X v (l.map strv)):∀ (t j:Nat),l.length - j=t->j<=l.length->
  Zj (c4 (JO.l1 (R (n+5)))) [v,v,iv l.length,iv j] X=some (if(l.drop j).all Zw then .ext 0 [v] else .ret (iv 10),X)
 | 0,j,ht,hj=>by
  rw[List.drop_eq_nil_of_le (by omega)];refine ZZ ?_;rw[ZL,show j=l.length by omega];unfold JO.l1;rw[Za Zs,Zb,if_neg (by simp)];rfl
 | t+1,j,ht,hj=>by
  have hkl:j < l.length:=by omega
  have hlt:(j:Int) < l.length:=by omega
  have hg:=List.getElem?_eq_getElem hkl;have hd:=List.drop_eq_getElem_cons hkl;generalize l[j]=y at hg hd;have x1:=hs.ix (i:=j) (by simpa using hkl) .i64 X;have x2:=hs.ldx (Wr hg);have e1:R (n+5) QR [strv y] X=some (iv (ZE y),X):=Zdi;rw[hd,List.all_cons];cases hn:Zw y
  .have he:ZE y=10:=by unfold ZE;rw[hn];rfl
   rw[he] at e1;refine Yu ?_;rw[ZL];unfold JO.l1;rw[Za Zs,Zb,if_pos (by simpa using hlt),Za x1,Za x2,Za e1,Za Zl,Zb,if_pos (by simp)];rfl
  .have he:ZE y=0:=ZcQ.2 hn;rw[he] at e1;rw[Bool.true_and];refine(ZJ ?_).trans (Zt5 hl hs t (j+1) (by omega) (by omega));rw[ZL];unfold JO.l1;rw[Za Zs,Zb,if_pos (by simpa using hlt),Za x1,Za x2,Za e1,Za Zl,Zb,if_neg (by simp),Za ZG,Je (by omega)];rfl
theorem Zv3 (hl:l.length<=1000000) (hs:Sl X v (l.map strv)):∀ (t j:Nat),l.length - j=t->1<=j->(j<=l.length\/j=1)->
  Zj (c2 (JO.l2 (R n))) [v,iv j] X=some (if Kh (l.drop (j - 1)) then .ext 2 [] else .ret (iv 9),X)
 | 0,j,ht,hj,hj2=>by
  have hr:Kh (l.drop (j - 1))=true:=by
   have h1:(l.drop (j - 1)).length<=1:=by rw[List.length_drop];omega
   match l.drop (j - 1),h1 with
   | [],_=>rfl
   | [a],_=>rfl
  have hlen:ZB v X=some (iv l.length,X):=by have:=hs.len (H':=X);simpa using this
  rw[hr];refine ZZ ?_;rw[ZT];unfold JO.l2;rw[Za hlen,Za Zs,Zb,if_neg (by simp;omega)];rfl
 | t+1,j,ht,hj,hj2=>by
  have hkl:j < l.length:=by omega
  have hlt:(j:Int) < l.length:=by omega
  have hlen:ZB v X=some (iv l.length,X):=by have:=hs.len (H':=X);simpa using this
  have hk0:j - 1 < l.length:=by omega
  have hg:=List.getElem?_eq_getElem hkl;have hg0:=List.getElem?_eq_getElem hk0;have hd:=List.drop_eq_getElem_cons hkl;have hd0:=List.drop_eq_getElem_cons hk0;rw[show j - 1+1=j by omega,hd] at hd0;generalize l[j]=y at hg hd hd0;generalize l[j - 1]=y0 at hg0 hd0;have x1:=hs.ix (i:=j) (by simpa using hkl) .i64 X;have x2:=hs.ldx (Wr hg);have x3:=hs.ix (i:=j - 1) (by simpa using hk0) .i64 X;have x4:=hs.ldx (Wr hg0);have w0:IntKind.i64.wrap ((j:Int) - 1)=((j - 1:Nat):Int):=by rw[w64 (by omega) (by omega)];omega
  have q1:bop .str .geq (strv y0) (strv y) X=some (.bool (!decide (y0 < y)),X):=ZJE;rw[hd0,ZhU];by_cases hy:y0 < y
  .rw[decide_eq_true hy] at q1 ⊢;rw[Bool.true_and,<- hd];have ih:=Zv3 hl hs t (j+1) (by omega) (by omega) (by omega);rw[Nat.add_sub_cancel] at ih;refine(ZJ ?_).trans ih;rw[ZT];unfold JO.l2;rw[Za hlen,Za Zs,Zb,if_pos (by simpa using hlt),Za QZ,w0,Za x3,Za x4,Za x1,Za x2,Za q1,Zb,if_neg (by simp),Za ZG,Je (by omega)];rfl
  .rw[decide_eq_false hy] at q1 ⊢;refine Yu ?_;rw[ZT];unfold JO.l2;rw[Za hlen,Za Zs,Zb,if_pos (by simpa using hlt),Za QZ,w0,Za x3,Za x4,Za x1,Za x2,Za q1,Zb,if_pos (by simp)];rfl
theorem Zym (hl:l.length<=1000000) (hs:Sl X v (l.map strv)):R (n+6) ZdD [v] X=some (iv (Zih l),X):=by
 have hlen:ZB v X=some (iv l.length,X):=by have:=hs.len (H':=X);simpa using this
 have e1:=Zt5 (n:=n) hl hs l.length 0 (by omega) (by omega);have e2:=Zv3 (n:=n+5) hl hs (l.length - 1) 1 rfl (Nat.le_refl _) (.inr rfl);rw[show iv ((0:Nat):Int)=.int .i64 0 from rfl,List.drop_zero] at e1;rw[show iv ((1:Nat):Int)=.int .i64 1 from rfl,Nat.sub_self,List.drop_zero] at e2;rw[R,ZvQ rfl];unfold JO Zih;rw[Za hlen];by_cases h6:6 < l.length
 .rw[Za Z0,Zb,if_pos (by simp;omega),if_pos h6];rfl
 .rw[Za Z0,Zb,if_neg (by simp;omega),if_neg h6,Za hlen];cases ha:l.all Zw
  .rw[ha] at e1;rw[KG e1];rfl
  .rw[ha] at e1;rw[Qk e1,ZI,Yi];cases hr:Kh l
   .rw[hr] at e2;rw[KG e2];rfl
   .rw[hr] at e2;rw[Qk e2,ZI];rfl
theorem ZC0:∃ X',R (n+9) Zge [strv m] X=some (iv (if ZeA m then 0 else 11),X')/\HLe X X':=by
 have f1:∀ r X',ZgD (R (n+8)) (strv m) X=some (r,X')->R (n+9) Zge [strv m] X=some (r,X'):=fun r X' hr=>by rw[R,Zzq rfl];exact hr
 have q1:bop .str .eql (strv m) (.string ⟨#[]⟩) X=some (.bool (m==[]),X):=Zkm (b:=[]);unfold ZeA;by_cases hm:m=[]
 .refine⟨X,f1 _ _ ?_,.refl _⟩;unfold ZgD;rw[Za q1,Zb,if_pos (by simpa using hm)];simp[hm,ret]
 .have hmb:(m==[])=false:=by simpa using hm
  obtain⟨X1,e1,k1⟩:=Zus (n:=n) (s:=m) (X:=X);refine⟨X1,f1 _ _ ?_,k1⟩;unfold ZgD;rw[hmb] at q1 ⊢;rw[Za q1,Zb,if_neg (by simp),Za e1,Za Zp,Za Zq];cases hb:Yp m
  .have q2:bop .int .neq (iv 11) (.int .i64 0) X1=some (.bool true,X1):=by rw[Zl];rfl
   simp only[Bool.false_eq_true,if_false,Bool.false_and,Bool.or_false];rw[Za q2,Za (g_r.trans (if_neg (by simp)))];simp only[List.replicate];rw[ZY,Za Zk];simp only[cond_true];rw[Zb,if_pos rfl];rfl
  .have q2:bop .int .neq (iv 0) (.int .i64 0) X1=some (.bool false,X1):=by rw[Zl];rfl
   have q3:bop .str .neq (strv (QO m)) (strv m) X1=some (.bool (!(QO m==m)),X1):=Zhl;simp only[if_true,Bool.true_and,Bool.false_or];rw[Za q2,Z4,Zm,Za q3,Z5,ZY,Za Zk];simp only[cond_false];cases hf:QO m==m
   .rw[Zb,if_pos (by rfl)];rfl
   .rw[Zb,if_neg (by simp)];rfl
theorem UOK.cells1 (h:UOK X u):alc 1 (.agg u.cells.toArray) X=some (pt X.length,X++[.cells u.cells 1 false false]):=ZJh h.2.1
theorem Zjx (h:UOK X u):∃ X',R (n+10) Yz [iv 2,.agg u.cells.toArray] X=some (iv (J2 u),X')/\HLe X X':=by
 have e1:=h.cells1;have k1:HLe X (X++[.cells u.cells 1 false false]):=.app _ _;have c1:(X++[Zf.cells u.cells 1 false false])[X.length]?=some (.cells u.cells 1 false false):=Zn;generalize X++[Zf.cells u.cells 1 false false]=X1 at e1 k1 c1;generalize X.length=p at e1 c1;have a0:∀ Y,HLe X1 Y->∀ f x,u.cells[f]?=some x->ld1 (pa p f) Y=some (x,Y):=fun Y hl f x h=>Zy (hl _ _ c1) h;have e2:R (n+9) QR [strv u.nm] X1=some (iv (ZE u.nm),X1):=Zdi (n:=n+4);have e3:R (n+9) K1 [strv u.hs] X1=some (iv (Qj u.hs),X1):=Zp9 (n:=n+5);have b2:=ZCb (a:=ZE u.nm) (c:=Qj u.hs) X1;have k2:HLe X1 (X1++[Zf.cells [iv (ZE u.nm),iv (Qj u.hs)] 1 false false]):=.app _ _;have s2:Sl (X1++[Zf.cells [iv (ZE u.nm),iv (Qj u.hs)] 1 false false]) (.slice (some ⟨X1.length,0,none⟩) 2 2) [iv (ZE u.nm),iv (Qj u.hs)]:=Sl.one (vs:=[iv (ZE u.nm),iv (Qj u.hs)]) (es:=1) (g:=false) (ro:=false) Zn;generalize X1++[Zf.cells [iv (ZE u.nm),iv (Qj u.hs)] 1 false false]=X2 at b2 k2 s2;generalize X1.length=p2 at b2 s2;have e4:R (n+9) Za4 [.slice (some ⟨p2,0,none⟩) 2 2] X2=_:=Zvz (n:=n+8) s2;have q1:bop .int .neq (iv 2) (.int .i64 1) X1=some (.bool true,X1):=by rw[Zl];rfl
 have q2:bop .int .neq (iv 2) (.int .i64 2) X1=some (.bool false,X1):=by rw[Zl];rfl
 have q3:bop .int .eql (iv 2) (.int .i64 2) X2=some (.bool true,X2):=by rw[ZA];rfl
 have f1:∀ r X',Zco (R (n+9)) (iv 2) (.agg u.cells.toArray) X=some (r,X')->R (n+10) Yz [iv 2,.agg u.cells.toArray] X=some (r,X'):=fun r X' hr=>by rw[R,Znb rfl];exact hr
 have hpre:∀ K:Value->M Value,bind (alc 1 (.agg u.cells.toArray)) (fun v3=>bind (bop .int .neq (iv 2) (.int .i64 1)) fun v7=>bind (gate v7 true 2 (bind (bop .int .neq (iv 2) (.int .i64 2)) fun v10=>ret [iv 2,v10])) (c2 fun _ q=>bind (pick v7 q (.bool false)) fun v11=>cnd v11 (ret (.int .i64 6)) (K v3))) X=K (pt p) X1:=fun K=>by
  rw[Za e1,Za q1,Z4,Zm,Za q2,Z5,ZT,Za Zk];simp only[cond_true];rw[Zb,if_neg (by simp)]
 unfold J2;cases hn:Zw u.nm
 .have h0:ZE u.nm=10:=by unfold ZE;rw[hn];rfl
  refine⟨X2,f1 _ _ ?_,k1.trans k2⟩;unfold Zco;refine(hpre _).trans ?_;rw[Za Zi,Za (a0 _ (.refl _) 0 _ rfl),Za Zi,Za (a0 _ (.refl _) 1 _ rfl),Za e2,Za (a0 _ (.refl _) 1 _ rfl),Ql,Za e3,Za b2,Za e4,h0,Za Zl,Zb,if_pos (by simp)];rfl
 .have h0:ZE u.nm=0:=ZcQ.2 hn;cases hs:K9 u.hs
  .have h1:Qj u.hs=4:=by unfold Qj;rw[hs];rfl
   refine⟨X2,f1 _ _ ?_,k1.trans k2⟩;unfold Zco;refine(hpre _).trans ?_;rw[Za Zi,Za (a0 _ (.refl _) 0 _ rfl),Za Zi,Za (a0 _ (.refl _) 1 _ rfl),Za e2,Za (a0 _ (.refl _) 1 _ rfl),Ql,Za e3,Za b2,Za e4,h0,h1,Za Zl,Zb,if_pos (by simp)];rfl
  .have h1:Qj u.hs=0:=ZyI.2 hs;have k12:=k1.trans k2;have s4:=(h.hle k12).1;have hl6:=h.2.2;obtain⟨X3,e5,k3⟩:=ZC0 (n:=n) (m:=u.ml) (X:=X2);have e6:R (n+9) ZdD [u.gv] X3=_:=Zym (n:=n+3) hl6 (s4.mono k3);have b7:=ZCb (a:=if ZeA u.ml then 0 else 11) (c:=Zih u.gs) X3;have k7:HLe X3 (X3++[Zf.cells [iv (if ZeA u.ml then 0 else 11),iv (Zih u.gs)] 1 false false]):=.app _ _;have s7:Sl (X3++[Zf.cells [iv (if ZeA u.ml then 0 else 11),iv (Zih u.gs)] 1 false false]) (.slice (some ⟨X3.length,0,none⟩) 2 2) [iv (if ZeA u.ml then 0 else 11),iv (Zih u.gs)]:=Sl.one (vs:=[iv (if ZeA u.ml then 0 else 11),iv (Zih u.gs)]) (es:=1) (g:=false) (ro:=false) Zn;generalize X3++[Zf.cells [iv (if ZeA u.ml then 0 else 11),iv (Zih u.gs)] 1 false false]=X7 at b7 k7 s7;generalize X3.length=p7 at b7 s7;have e8:R (n+9) Za4 [.slice (some ⟨p7,0,none⟩) 2 2] X7=_:=Zvz (n:=n+8) s7;refine⟨X7,f1 _ _ ?_,(k12.trans k3).trans k7⟩;unfold Zco;refine(hpre _).trans ?_;rw[Za Zi,Za (a0 _ (.refl _) 0 _ rfl),Za Zi,Za (a0 _ (.refl _) 1 _ rfl),Za e2,Za (a0 _ (.refl _) 1 _ rfl),Ql,Za e3,Za b2,Za e4,h0,h1,Za Zl,Zb,if_neg (by simp),Za q3,Zb,if_pos rfl,Za Zi,Za (a0 _ k2 2 _ rfl),Za Zi,Za (a0 _ k2 4 _ rfl),Za e5,Za (a0 _ (k2.trans k3) 4 _ rfl),Ql,Za e6,Za b7,Za e8];cases hm:ZeA u.ml<;>simp[ret]
end
def YD:List Zv->Int
 | []=>0
 | u :: l=>if J2 u=0 then YD l else J2 u
def Zmy (us:List Zv):Int:=if YD us=0 then(if Kh (us.map (·.nm)) then(if 12 < us.length then 7 else 0) else 9) else YD us
def ZdO (us:List Zv) (gs:List Tx):Int:=if Zmy us=0 then(if gs.all Zw then(if Kh gs then(if 6 < gs.length then 7 else 0) else 9) else 10) else Zmy us
def Zgn (gs:List Tx) (prev:List Zv) (u:Zv):Int:=if u.gs.all (fun g=>decide (g∈gs)) then(if u.ml≠[]/\prev.any (fun v=>u.ml==v.ml)=true then 9 else 0) else 8
def ZbI (gs:List Tx):List Zv->List Zv->Int
 | _,[]=>0
 | prev,u :: l=>if Zgn gs prev u=0 then ZbI gs (prev++[u]) l else Zgn gs prev u
def Zcx (us:List Zv) (gs:List Tx):Int:=if ZdO us gs=0 then ZbI gs [] us else ZdO us gs
section
variable {X X' H H0:Zd} {n p d b:Nat} {v sl gv:Value} {l gs:List Tx} {m:Tx} {u:Zv} {us:List Zv}
theorem ZoI:∀ {us:List Zv} {a:Tx},ZeN (some a) us=Kh (a :: us.map (·.nm))
 | [],a=>rfl
 | u :: us,a=>by
  rw[Zlb,ZoI (us:=us),List.map_cons,ZhU];rfl
theorem ZAB:ZeN none us=Kh (us.map (·.nm)):=by
 cases us with
 | nil=>rfl
 | cons u us=>rw[Zlb,ZoI,List.map_cons];rfl
theorem ZjO:∀ {l:List Tx},Kh l=true->l.Pairwise (· < ·)
 | [],_=>List.Pairwise.nil
 | [a],_=>by simp
 | a :: b :: l,h=>by
  rw[ZhU,Bool.and_eq_true,decide_eq_true_eq] at h;have ih:=ZjO h.2;refine List.Pairwise.cons (fun x hx=>?_) ih;rcases List.mem_cons.1 hx with rfl|hx
  .exact h.1
  .exact List.lt_trans h.1 ((List.pairwise_cons.1 ih).1 x hx)
theorem Zom:∀ {us:List Zv},YD us=0->∀ u∈us,J2 u=0
 | [],_,_,h=>by simp at h
 | w :: us,h,u,hu=>by
  unfold YD at h;by_cases hw:J2 w=0
  .rw[if_pos hw] at h;rcases List.mem_cons.1 hu with rfl|hu
   .exact hw
   .exact Zom h u hu
  .rw[if_neg hw] at h;exact absurd h hw
theorem Zq5 {k:Nat} (hl:l.length<=1000000) (hs:Sl X v (l.map strv)):R (n+4) Wl [v,iv k] X=some (iv (if Kh l then(if k < l.length then 7 else 0) else 9),X):=by
 have hlen:ZB v X=some (iv l.length,X):=by have:=hs.len (H':=X);simpa using this
 have lp:∀ (t j:Nat),l.length - j=t->1<=j->(j<=l.length\/j=1)->Zj (c3 (Zac.l1 (R (n+3)))) [v,iv k,iv j] X=some (if Kh (l.drop (j - 1)) then .ext 0 [v,iv k] else .ret (iv 9),X):=by
  intro t
  induction t with
  | zero=>
   intro j ht hj hj2;have hr:Kh (l.drop (j - 1))=true:=by
    have h1:(l.drop (j - 1)).length<=1:=by rw[List.length_drop];omega
    match l.drop (j - 1),h1 with
    | [],_=>rfl
    | [a],_=>rfl
   rw[hr];refine ZZ ?_;rw[ZY];unfold Zac.l1;rw[Za hlen,Za Zs,Zb,if_neg (by simp;omega)];rfl
  | succ t ih=>
   intro j ht hj hj2;have hkl:j < l.length:=by omega
   have hlt:(j:Int) < l.length:=by omega
   have hk0:j - 1 < l.length:=by omega
   have hg:=List.getElem?_eq_getElem hkl;have hg0:=List.getElem?_eq_getElem hk0;have hd:=List.drop_eq_getElem_cons hkl;have hd0:=List.drop_eq_getElem_cons hk0;rw[show j - 1+1=j by omega,hd] at hd0;generalize l[j]=y at hg hd hd0;generalize l[j - 1]=y0 at hg0 hd0;have x1:=hs.ix (i:=j) (by simpa using hkl) .i64 X;have x2:=hs.ldx (Wr hg);have x3:=hs.ix (i:=j - 1) (by simpa using hk0) .i64 X;have x4:=hs.ldx (Wr hg0);have w0:IntKind.i64.wrap ((j:Int) - 1)=((j - 1:Nat):Int):=by rw[w64 (by omega) (by omega)];omega
   have e1:R (n+3) Z6 [strv y0,strv y] X=some (iv (Zeo y0 y),X):=ZwI (n:=n);have q1:bop .int .geq (iv (Zeo y0 y)) (.int .i64 0) X=some (.bool (!decide (y0 < y)),X):=by rw[Qu,ZBO]
   rw[hd0,ZhU];by_cases hy:y0 < y
   .rw[decide_eq_true hy] at q1 ⊢;rw[Bool.true_and,<- hd];have ih:=ih (j+1) (by omega) (by omega) (by omega);rw[Nat.add_sub_cancel] at ih;refine(ZJ ?_).trans ih;rw[ZY];unfold Zac.l1;rw[Za hlen,Za Zs,Zb,if_pos (by simpa using hlt),Za QZ,w0,Za x3,Za x4,Za x1,Za x2,Za e1,Za q1,Zb,if_neg (by simp),Za ZG,Je (by omega)];rfl
   .rw[decide_eq_false hy] at q1 ⊢;refine Yu ?_;rw[ZY];unfold Zac.l1;rw[Za hlen,Za Zs,Zb,if_pos (by simpa using hlt),Za QZ,w0,Za x3,Za x4,Za x1,Za x2,Za e1,Za q1,Zb,if_pos (by simp)];rfl
 have e1:=lp (l.length - 1) 1 rfl (Nat.le_refl _) (.inr rfl);rw[show iv ((1:Nat):Int)=.int .i64 1 from rfl,Nat.sub_self,List.drop_zero] at e1;rw[R,Zw0 rfl];unfold Zac;cases hr:Kh l
 .rw[hr] at e1;rw[KG e1];rfl
 .rw[hr] at e1;rw[Qk e1,ZI,ZT,Za hlen,Za Z0,Zb];by_cases h:k < l.length
  .rw[if_pos (by simp;omega),if_pos h];rfl
  .rw[if_neg (by simp;omega),if_neg h];rfl
theorem Zzj (hn:us.length<=1000) (hA:KF H0 sl us):∀ (t j:Nat) (nv:Value) (q:List Nat) (acc:List Tx) (X:Zd),us.length - j=t->j<=us.length->acc.length<=j->HLe H0 X->(∀ i∈q,H0.length<=i)->Zt X nv (acc.map strv) q->
  ∃ X' o,Zj (c5 (Jk.l1 (R (n+10)))) [gv,nv,sl,iv us.length,iv j] X=some (o,X')/\HLe H0 X'/\(if YD (us.drop j)=0 then ∃ nv' q',o=.ext 0 [gv,nv']/\Zt X' nv' ((acc++(us.drop j).map (·.nm)).map strv) q' else o=.ret (iv (YD (us.drop j))))
 | 0,j,nv,q,acc,X,ht,hj,ha,hle,hq,hr=>by
  rw[List.drop_eq_nil_of_le (by omega)];refine⟨X,.ext 0 [gv,nv],ZZ ?_,hle,?_⟩
  .rw[QJ,show j=us.length by omega];unfold Jk.l1;rw[Za Zs,Zb,if_neg (by simp)];rfl
  .rw[if_pos (show YD []=0 from rfl)];exact⟨nv,q,rfl,by simpa using hr⟩
 | t+1,j,nv,q,acc,X,ht,hj,ha,hle,hq,hr=>by
  have hjl:j < us.length:=by omega
  have hlt:(j:Int) < us.length:=by omega
  have hg:=List.getElem?_eq_getElem hjl;have hd:=List.drop_eq_getElem_cons hjl;generalize us[j]=u at hg hd;have hok:=(hA.mono hle).ok (List.mem_of_getElem? hg);have hf:=fun {K:Value->M Out}=>Zvl (k:=K) (hA.mono hle).1 hok.2.1 hg;have g1:(X++[Zf.cells u.cells 1 false false])[X.length]?=some (.cells u.cells 1 false false):=Zn;have k1:HLe X (X++[Zf.cells u.cells 1 false false]):=.app _ _;generalize X++[Zf.cells u.cells 1 false false]=X1 at g1 k1 hf;generalize X.length=p at g1 hf;have d1:ldA 5 (pt p) X1=some (.agg u.cells.toArray,X1):=Z8 (n:=5) g1 rfl;obtain⟨X2,e2,k2⟩:=Zjx (n:=n) (hok.hle k1);have k12:=k1.trans k2;have le2:=hle.trans k12;rw[hd];unfold YD;by_cases he:J2 u=0
  .rw[he] at e2;simp only[if_pos he];have q2:bop .int .neq (iv 0) (.int .i64 0) X2=some (.bool false,X2):=by rw[Zl];rfl
   have l0:ld1 (pa p 0) X2=some (strv u.nm,X2):=Zy (k2 _ _ g1) rfl;have x4:=Zpt (es:=1) (z:=.string ⟨#[]⟩) (v:=strv u.nm) (H:=X2) rfl rfl rfl;have k3:HLe X2 (X2++[Zf.cells [strv u.nm] 1 false false]):=.app _ _;have s3:Sl (X2++[Zf.cells [strv u.nm] 1 false false]) (.slice (some ⟨X2.length,0,none⟩) 1 1) [strv u.nm]:=Sl.one (c:=1) Zn;generalize X2++[Zf.cells [strv u.nm] 1 false false]=X3 at x4 k3 s3;have hr3:Zt X3 nv _ q:=hr.step (k12.trans k3).step (by simp);obtain⟨nv',X4,q',x5,hr4,s4,_⟩:=hr3.push (b:=16) s3 (by simp;omega) (by simp;omega);have hm:=(le2.trans k3).more s4 hq;have hr4':Zt X4 nv' ((acc++[u.nm]).map strv) q':=by rw[List.map_append];exact hr4
   obtain⟨X5,o5,e5,k5,h5⟩:=Zzj hn hA t (j+1) nv' q' (acc++[u.nm]) X4 (by omega) (by omega) (by simp;omega) hm.1 hm.2 hr4';refine⟨X5,o5,(ZJ ?_).trans e5,k5,by simpa using h5⟩;rw[QJ];unfold Jk.l1;rw[Za Zs,Zb,if_pos (by simpa using hlt),hf,Za d1,Za e2,Za q2,Zb,if_neg (by simp),Za Zi,Za l0,Za x4,Za x5,Za ZG,Je (by omega)];rfl
  .simp only[if_neg he];have q2:bop .int .neq (iv (J2 u)) (.int .i64 0) X2=some (.bool true,X2):=by rw[Zl];simp[he]
   refine⟨X2,_,Yu (v:=iv (J2 u)) ?_,le2,rfl⟩;rw[QJ];unfold Jk.l1;rw[Za Zs,Zb,if_pos (by simpa using hlt),hf,Za d1,Za e2,Za q2,Zb,if_pos rfl];rfl
theorem Zze (hl:l.length<=1000000) (hs:Sl X v (l.map strv)):∀ (t j:Nat),l.length - j=t->j<=l.length->
  Zj (c4 (Jk.l2 (R (n+5)))) [v,v,iv l.length,iv j] X=some (if(l.drop j).all Zw then .ext 2 [v] else .ret (iv 10),X)
 | 0,j,ht,hj=>by
  rw[List.drop_eq_nil_of_le (by omega)];refine ZZ ?_;rw[ZL,show j=l.length by omega];unfold Jk.l2;rw[Za Zs,Zb,if_neg (by simp)];rfl
 | t+1,j,ht,hj=>by
  have hkl:j < l.length:=by omega
  have hlt:(j:Int) < l.length:=by omega
  have hg:=List.getElem?_eq_getElem hkl;have hd:=List.drop_eq_getElem_cons hkl;generalize l[j]=y at hg hd;have x1:=hs.ix (i:=j) (by simpa using hkl) .i64 X;have x2:=hs.ldx (Wr hg);have e1:R (n+5) QR [strv y] X=some (iv (ZE y),X):=Zdi;rw[hd,List.all_cons];cases hn:Zw y
  .have he:ZE y=10:=by unfold ZE;rw[hn];rfl
   rw[he] at e1;refine Yu ?_;rw[ZL];unfold Jk.l2;rw[Za Zs,Zb,if_pos (by simpa using hlt),Za x1,Za x2,Za e1,Za Zl,Zb,if_pos (by simp)];rfl
  .have he:ZE y=0:=ZcQ.2 hn;rw[he] at e1;rw[Bool.true_and];refine(ZJ ?_).trans (Zze hl hs t (j+1) (by omega) (by omega));rw[ZL];unfold Jk.l2;rw[Za Zs,Zb,if_pos (by simpa using hlt),Za x1,Za x2,Za e1,Za Zl,Zb,if_neg (by simp),Za ZG,Je (by omega)];rfl
theorem Zx0 (hn:us.length<=1000) (hl:gs.length<=1000000) (hA:KF X sl us) (hs:Sl X gv (gs.map strv)):∃ X',R (n+11) ZdL [sl,gv] X=some (iv (ZdO us gs),X')/\HLe X X':=by
 obtain⟨X1,o,e1,k1,h1⟩:=Zzj (n:=n) (gv:=gv) hn hA us.length 0 (.slice none 0 0) [] [] X (by omega) (by omega) (by simp) (.refl _) (by simp) Zt.nil;rw[List.drop_zero] at h1;have e1:Zj (c5 (Jk.l1 (R (n+10)))) [gv,.slice none 0 0,sl,iv us.length,.int .i64 0] X=_:=e1;have hlen:ZB sl X=some (iv us.length,X):=by have:=hA.1.len (H':=X);rwa [List.length_map] at this
 have f1:∀ r X',Jk (R (n+10)) sl gv X=some (r,X')->R (n+11) ZdL [sl,gv] X=some (r,X'):=fun r X' hr=>by rw[R,Zvp rfl];exact hr
 refine⟨X1,f1 _ _ ?_,k1⟩;unfold Jk ZdO Zmy;rw[Za hlen];by_cases hf:YD us=0
 .rw[if_pos hf] at h1;simp only[if_pos hf];obtain⟨nv,q,rfl,hr⟩:=h1;rw[List.nil_append] at hr;have e2:R (n+10) Wl [nv,iv 12] X1=_:=Zq5 (n:=n+6) (k:=12) (l:=us.map (·.nm)) (by rw[List.length_map];omega) hr.rd;have hs1:=hs.mono k1;have hgl:ZB gv X1=some (iv gs.length,X1):=by have:=hs1.len (H':=X1);simpa using this
  have e3:=Zze (n:=n+5) hl hs1 gs.length 0 (by omega) (by omega);rw[show iv ((0:Nat):Int)=.int .i64 0 from rfl,List.drop_zero] at e3;have e4:R (n+10) Wl [gv,iv 6] X1=_:=Zq5 (n:=n+6) (k:=6) hl hs1;rw[List.length_map] at e2;rw[Qk e1,ZI,ZT];cases hr1:Kh (us.map (·.nm))
  .rw[hr1] at e2;have e2:R (n+10) Wl [nv,iv 12] X1=some (iv 9,X1):=e2;rw[Za e2,Za Zl,Zb,if_pos (by simp)];rfl
  .rw[hr1] at e2;simp only[if_true] at e2 ⊢;by_cases h12:12 < us.length
   .rw[if_pos h12] at e2 ⊢;have e2:R (n+10) Wl [nv,iv 12] X1=some (iv 7,X1):=e2;rw[Za e2,Za Zl,Zb,if_pos (by simp)];rfl
   .rw[if_neg h12] at e2 ⊢;have e2:R (n+10) Wl [nv,iv 12] X1=some (iv 0,X1):=e2;rw[Za e2,Za Zl,Zb,if_neg (by simp),Za hgl,if_pos rfl];cases ha:gs.all Zw
    .rw[ha] at e3;rw[KG e3];rfl
    .rw[ha] at e3;rw[Qk e3,ZI,Yi,Za e4];rfl
 .rw[if_neg hf] at h1;simp only[if_neg hf];subst h1;rw[KG e1];rfl
end
def Zaz (ps:List Tx) (k:Tx) (mem:Mem):Mem:=fun g n=>mem g n || (decide (g∈ps) && n==k)
section
variable {X X' X0 H H0:Zd} {n p d b c i:Nat} {r:NR} {s:NSt} {v sl gv ugv zl:Value} {l gs:List Tx} {m k g:Tx} {u:Zv} {us prev:List Zv}
theorem Zwb {i:Nat} (hg:us[i]?=some u):us.take (i+1)=us.take i++[u]:=by
 rw[List.take_add_one,hg];rfl
end
end Go.Proofs.YtgfbgfafajiehaaGreatDoor.A

