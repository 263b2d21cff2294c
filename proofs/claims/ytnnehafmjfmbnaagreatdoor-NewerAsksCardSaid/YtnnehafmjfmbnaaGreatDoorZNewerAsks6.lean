/- What the law NewerAsks needs (part 6). -/
import Derived.Test.YtnnehafmjfmbnaaGreatDoorZNewerAsks5
namespace Go.Proofs.YtnnehafmjfmbnaaGreatDoor.A
set_option linter.unusedVariables false
set_option linter.unusedSimpArgs false
open Go.Proofs Go.Proofs.YtnnehafmjfmbnaaGreatDoor
section
variable {X X' Y H H0 : Zc} {n d c w : Nat} {r : NR} {uv gv sl wv : Value} {s : NSt} {us ws : List Zp} {k m g pre : Tx} {q0 : List Nat}
theorem ZuA {x : Tx} {b : Nat} (hs : x.length≤1000000000) (hp : pre.length≤1000000000) (hc : H[b]?=some (.cells [strv pre] 1 false false)) : R (n+3) ZaA [strv x,pt b] H=some (.bool (!ZcF pre x),H):=by
 have e1 : run Tryz.prog np lvs (n+2) Wi [strv x,strv pre] H=_:=ZqF hs hp
 rw [R,Zj5 rfl]
 unfold ZdZ
 rw [Za (ZhE hc),Za e1,Za Zv]
 rfl
theorem Zsz (hd : ND X d r s c) {x : Tx} (hx : x∈Yl (ZaK s)) : x.length≤12:=by
 obtain ⟨p,hp,rfl⟩:=List.mem_map.1 (Zcm.1 hx)
 exact Zeb (hd.inv.nm p hp).1
theorem Zvu (hd : ND X d r s c) (hp : pre.length≤1000000000) : ∃ v q X',R (n+6) WU [pt d,strv pre] X=some (.tuple #[v,iv (WY pre)],X')∧Zx X' v ((if Zdw pre then (Yl (ZaK s)).filter (ZcF pre) else []).map strv) q∧HLe X X':=by
 have e0:=ZjY (v:=strv pre) rfl rfl X
 have l0 : HLe X (X++[Ze.cells [strv pre] 1 false false]):=.app _ _
 have c0 : (X++[Ze.cells [strv pre] 1 false false])[X.length]?=some (.cells [strv pre] 1 false false):=ZD
 have g0 : (X++[Ze.cells [strv pre] 1 false false]).length=X.length+1:=by simp
 generalize X++[Ze.cells [strv pre] 1 false false]=H1 at e0 l0 c0 g0
 generalize hc : X.length=b at e0 c0 g0
 have e1 : run Tryz.prog np lvs (n+5) Zb4 [strv pre] H1=some (iv (WY pre),H1):=ZtW hp
 by_cases hb : Zdw pre=true
 ·have he : WY pre=0:=by unfold WY;rw [if_pos hb]
  obtain ⟨v,q,H2,e2,r2,l2,o2⟩:=ZtJ (n:=n+3) (hd.hle l0)
  have hQ : ∀ X X',X[b]?=some (.cells [strv pre] 1 false false)→ZJ q X q X'→X'[b]?=some (.cells [strv pre] 1 false false):=fun X X' hx hs=>hs.get hx fun hj=>by have:=o2 b hj;omega
  have hcall : ∀ n X,X[b]?=some (.cells [strv pre] 1 false false)→∀ x∈Yl (ZaK s),Jf (R (n+3)) (.func (.func ZaA) #[] #[pt b]) [strv x] X=some (.bool (!ZcF pre x),X):=fun n X hx x hs=>by
   rw [show (#[pt b] : Array Value)=[pt b].toArray from rfl,ZsM]
   exact ZuA (Nat.le_trans (Zsz hd hs) (by decide)) hp hx
  have hfew : (Yl (ZaK s)).length≤12:=by
   rw [ZeO]
   have:=hd.inv.few
   simpa using this
  obtain ⟨H3,v',e3,r3,s3⟩:=Zpv (n:=n+3) (f:=.func (.func ZaA) #[] #[pt b]) (p:=fun x=>!ZcF pre x) (Q:=fun X=>X[b]?=some (.cells [strv pre] 1 false false)) r2 (by omega) hQ (hcall n) (hcall (n+1)) (l2 _ _ c0)
  have hm:=(l0.trans l2).more s3 (fun j hj=>by have:=o2 j hj;omega)
  refine ⟨v',q,H3,?_,by simpa [hb] using r3,hm.1⟩
  rw [R,ZfP rfl]
  unfold Zcx
  rw [Za e0,Za (ZhE c0),Za e1,Za Zt,he,Zb,if_neg (by simp)]
  refine (Za e2).trans ((Za e3).trans rfl)
 ·have he : WY pre=10:=by unfold WY;rw [if_neg hb]
  refine ⟨.slice none 0 0,[],H1,?_,by rw [if_neg hb];exact Zx.nil,l0⟩
  rw [R,ZfP rfl]
  unfold Zcx
  rw [Za e0,Za (ZhE c0),Za e1,Za Zt,he,Zb,if_pos (by simp)]
  rfl
theorem Zst (hd : ND X d r s c) (hc : c≤1000000) : ∃ v q l X',R (n+9) KP [pt d,strv g] X=some (.tuple #[v,iv (Qa g s.K)],X')∧Zx X' v (l.map strv) q∧Is l (fun m=>Qa g s.K=0∧s.mem g m=true)∧l.length≤c∧HLe X X':=by
 obtain ⟨v,q,l,X',e,r1,i1,n1,k1,o1⟩:=ZrS (n:=n) (k:=g) hd.gr hc
 rw [hd.ks] at e i1
 refine ⟨v,q,l,X',?_,r1,i1,n1,k1⟩
 rw [R,Zik rfl]
 unfold ZcC
 rw [Za Zu,Za Zg,Za hd.l2,Za e,Za Zk,Za Zj]
 rfl
theorem Zuf {x : Tx} {β : Type} {b : Nat} {K : List Value→M β} {p : Value} (h1 : ld1 p X=some (strv x,X)) (hp : p=pt b) {R0 : Option (β × Zc)}
  (hK : ∀ w0 w1 w2 w3 w4 w5 w6,(∃ q,pick (.bool (decide ((x.length : Int)≥pre.length))) w6 (.bool false) X=some (.bool q,X)∧q=ZcF pre x)→K [w0,w1,w2,w3,w4,w5,w6] X=R0) :
  bind (ZA (.bool (decide ((x.length : Int)≥pre.length))) true 7 (bind (fa 0 p) fun v97x58=>bind (ld1 v97x58) fun v98x59=>bind (QE (strv pre)) fun v100x60=>bind (sls v98x59 none (some v100x60)) fun v101x61=>bind (bop .str .eql v101x61 (strv pre)) fun v103x62=>ret [v97x58,v98x59,strv pre,v100x60,v101x61,strv pre,v103x62])) K X=R0:=by
 subst hp
 by_cases h : pre.length≤x.length
 ·rw [decide_eq_true (show (x.length : Int)≥pre.length by omega)] at hK ⊢
  rw [Z0,Zl,Za Zg,Zl,Za h1,Zl,Za ZH,Zl,Za (Zl9 h),Zl,Za Zb2,Qm]
  exact hK _ _ _ _ _ _ _ ⟨_,Zm,by unfold ZcF;rw [decide_eq_true h];rfl⟩
 ·rw [decide_eq_false (show ¬ (x.length : Int)≥pre.length by omega)] at hK ⊢
  rw [Za (g_r.trans (if_neg (by simp)))]
  exact hK _ _ _ _ _ _ _ ⟨_,Zm,by unfold ZcF;rw [decide_eq_false h];rfl⟩
theorem Zls (hu : ws.length≤1000) (hA : SlN 5 H0 wv (ws.map Zp.cells)) (ho : ∀ u∈ws,oneCell u.gv=true) : ∀ (t j : Nat) (sl : Value) (q : List Nat) (acc : List Tx) (X : Zc),ws.length - j=t→j≤ws.length→acc.length≤j→HLe H0 X→(∀ i∈q,H0.length≤i)→Zx X sl (acc.map strv) q→
  ∃ X' sl' q',Zi (c5 (YS.l1 (R n))) [strv pre,sl,wv,iv ws.length,iv j] X=some (.ext 0 [sl'],X')∧Zx X' sl' ((acc++((ws.drop j).map (·.nm)).filter (ZcF pre)).map strv) q'∧HLe H0 X'∧∀ i∈q',H0.length≤i
 | 0,j,sl,q,acc,X,ht,hj,ha,hle,hq,hr=>by
  have : j=ws.length:=by omega
  subst this
  rw [List.drop_length]
  refine ⟨X,sl,q,Z7 ?_,by simpa using hr,hle,hq⟩
  rw [Qk]
  unfold YS.l1
  rw [Za Zo,Zb,if_neg (by simp)]
  rfl
 | t+1,j,sl,q,acc,X,ht,hj,ha,hle,hq,hr=>by
  have hjl : j < ws.length:=by omega
  have hlt : (j : Int) < ws.length:=by omega
  have hg:=List.getElem?_eq_getElem hjl
  have hd:=List.drop_eq_getElem_cons hjl
  generalize ws[j]=u at hg hd
  have hf:=fun {K : Value→M Out}=>Zde (k:=K) (hA.mono hle) (ho u (List.mem_of_getElem? hg)) hg
  have g1 : (X++[Ze.cells u.cells 1 false false])[X.length]?=some (.cells u.cells 1 false false):=ZD
  have l1 : ld1 (pt X.length) (X++[.cells u.cells 1 false false])=some (strv u.nm,X++[.cells u.cells 1 false false]):=Zw g1 rfl
  have k1 : HLe X (X++[Ze.cells u.cells 1 false false]):=.app _ _
  generalize X++[Ze.cells u.cells 1 false false]=X1 at g1 l1 k1 hf
  have hr1 : Zx X1 sl _ q:=hr.keep fun i hi=>k1.step.keep i (hr.lt i hi) (by simp)
  have le1:=hle.trans k1
  rw [hd,List.map_cons,List.filter_cons]
  have hgo : ∀ (X3 : Zc) (sl3 : Value) (r : Option (Out × Zc)),r=some (.nrm [strv pre,sl3,wv,iv ws.length,iv ((j+1 : Nat) : Int)],X3)→
    jn (cnd (.bool (ZcF pre u.nm)) (bind (fa 0 (pt X.length)) fun v34x20=>bind (ld1 v34x20) fun v35x21=>bind (bsl 1 1 (.string ⟨#[]⟩) [(0,1,v35x21)]) fun v36x22=>bind (app 1 16 sl v36x22) fun v37x23=>ret (.nrm [strv pre,v37x23,wv,iv ws.length,iv j])) (ret (.nrm [strv pre,sl,wv,iv ws.length,iv j]))) (c5 fun q24_0 q24_1 q24_2 q24_3 q24_4=>bind (bop .int .add q24_4 (Value.int .i64 1)) fun v38x25=>ret (.nrm [q24_0,q24_1,q24_2,q24_3,v38x25])) noX ZP X1=r→c5 (YS.l1 (R n)) [strv pre,sl,wv,iv ws.length,iv j] X=r:=fun X3 sl3 r hr0 hr=>by
   rw [Qk]
   unfold YS.l1
   rw [Za Zo,Zb,if_pos (by simpa using hlt),hf,Za Zg,Za l1,Za ZH,Za ZH,Za Z8]
   refine Zuf (x:=u.nm) (b:=X.length) l1 rfl fun w0 w1 w2 w3 w4 w5 w6 ⟨q,hp,hq⟩=>?_
   subst hq
   rw [Q4,Za hp]
   exact hr
  cases h : ZcF pre u.nm
  ·rw [if_neg (by simp)]
   rw [h] at hgo
   obtain ⟨X2,sl2,q2,e2,r2⟩:=Zls hu hA ho t (j+1) sl q acc X1 (by omega) (by omega) (by omega) le1 hq hr1
   refine ⟨X2,sl2,q2,(ZI (hgo _ _ _ rfl ?_)).trans e2,r2⟩
   refine (ZV (vs:=[strv pre,sl,wv,iv ws.length,iv j]) (H':=X1) ?_).trans ?_
   ·rw [Zb,if_neg (by simp)];rfl
   ·rw [Qk,Za Zy,Qu (by omega)];rfl
  ·rw [if_pos rfl]
   rw [h] at hgo
   have x4:=ZtM (es:=1) (z:=.string ⟨#[]⟩) (v:=strv u.nm) (H:=X1) rfl rfl rfl
   have k2 : HLe X1 (X1++[Ze.cells [strv u.nm] 1 false false]):=.app _ _
   have s2 : Sl (X1++[Ze.cells [strv u.nm] 1 false false]) (.slice (some ⟨X1.length,0,none⟩) 1 1) [strv u.nm]:=Sl.one (c:=1) ZD
   generalize X1++[Ze.cells [strv u.nm] 1 false false]=X2 at x4 k2 s2
   have hr2 : Zx X2 sl _ q:=hr1.keep fun i hi=>k2.step.keep i (hr1.lt i hi) (by simp)
   obtain ⟨sl',X3,q',x5,hr3,s3,_⟩:=hr2.push (b:=16) s2 (by simp;omega) (by simp;omega)
   have hm:=(le1.trans k2).more s3 hq
   have hr3' : Zx X3 sl' ((acc++[u.nm]).map strv) q':=by rw [List.map_append];exact hr3
   obtain ⟨X4,sl4,q4,e4,r4,r5⟩:=Zls hu hA ho t (j+1) sl' q' (acc++[u.nm]) X3 (by omega) (by omega) (by simp;omega) hm.1 hm.2 hr3'
   refine ⟨X4,sl4,q4,(ZI (hgo _ _ _ rfl ?_)).trans e4,by simpa using r4,r5⟩
   refine (ZV (vs:=[strv pre,sl',wv,iv ws.length,iv j]) (H':=X3) ?_).trans ?_
   ·rw [Zb,if_pos rfl,Za Zg,Za l1,Za x4,Za x5];rfl
   ·rw [Qk,Za Zy,Qu (by omega)];rfl
theorem ZvP (hu : ws.length≤1000) (hA : SlN 5 X wv (ws.map Zp.cells)) (ho : ∀ u∈ws,oneCell u.gv=true) (hp : pre.length≤1000000000) : ∃ X' v,R (n+4) WN [wv,strv pre] X=some (.tuple #[v,iv (WY pre)],X')∧Sl X' v ((if Zdw pre then (ws.map (·.nm)).filter (ZcF pre) else []).map strv)∧HLe X X':=by
 have e1 : R (n+3) ZbH [strv pre] X=some (.bool (Zdw pre),X):=ZqV hp
 have f1 : ∀ r X',YS (R (n+3)) wv (strv pre) X=some (r,X')→R (n+4) WN [wv,strv pre] X=some (r,X'):=fun r X' hr=>by rw [R,Zon rfl];exact hr
 unfold WY
 cases hpre : Zdw pre
 ·rw [hpre] at e1
  refine ⟨X,.slice none 0 0,f1 _ _ ?_,Sl.nil,.refl _⟩
  unfold YS
  rw [Za e1,Za Zv,Zb,if_pos (by rfl)]
  rfl
 ·rw [hpre] at e1
  obtain ⟨X',sl,q,e,r,l,_⟩:=Zls (n:=n+3) (pre:=pre) hu hA ho ws.length 0 (.slice none 0 0) [] [] X (by omega) (by omega) (by simp) (.refl _) (by simp) Zx.nil
  rw [List.drop_zero] at r
  have e : Zi (c5 (YS.l1 (R (n+3)))) [strv pre,.slice none 0 0,wv,iv ws.length,.int .i64 0] X=_:=e
  have hl:=hA.len (H':=X)
  rw [List.length_map] at hl
  refine ⟨X',sl,f1 _ _ ?_,r.rd,l⟩
  unfold YS
  rw [Za e1,Za Zv,Zb,if_neg (by simp),Za hl,QN e,ZM]
  rfl
theorem ROK.nms (h : ROK s us) (hn : (ZaK s).Nodup) : us.map (·.nm)=Yl (ZaK s):=by
 have h1:=congrArg (List.map (·.1)) (h.all hn)
 unfold ZnL at h1
 rw [List.map_map,List.map_map] at h1
 have h2 : ((fun x : ZfK=>x.1) ∘ Qh)=fun u : Zp=>u.nm:=rfl
 have h3 : ((fun x : ZfK=>x.1) ∘ fun k=>Qi s k ((Zf k s.A).getD ([],false)))=id:=rfl
 rw [h2,h3,List.map_id] at h1
 exact h1
theorem ZvX (hR : RD X uv gv s) (hP : K9 s) (hp : pre.length≤1000000000) : ∃ X' v,R (n+4) WN [uv,strv pre] X=some (.tuple #[v,iv (WY pre)],X')∧Sl X' v ((if Zdw pre then (Yl (ZaK s)).filter (ZcF pre) else []).map strv)∧HLe X X':=by
 obtain ⟨us,hU,hO⟩:=hR.ex
 have hl:=hO.len hP.n
 have hf:=hP.i.few
 obtain ⟨X',v,e,s1,l1⟩:=ZvP (n:=n) (pre:=pre) (by omega) hU.1 (fun u hu=>(hU.2 u hu).2.1) hp
 rw [hO.nms hP.n] at s1
 exact ⟨X',v,e,s1,l1⟩
theorem ZrI (hR : RD X uv gv s) (hP : K9 s) : ∃ u X',R (n+5) Zav [.agg #[uv,gv],strv k] X=some (.tuple #[.agg u.cells.toArray,iv (Zn k s.A)],X')∧HLe X X'∧UOK X' u∧Qh u=if Zn k s.A=0 then Qi s k (ZX k s.A) else ([],[],[],false,[]):=by
 obtain ⟨us,hU,hO⟩:=hR.ex
 have z1 : alc 1 (.agg #[uv,gv]) X=some (pt X.length,X++[.cells [uv,gv] 1 false false]):=KH (vs:=[uv,gv]) (by simp only [List.all_cons,hU.one,hR.oneG];rfl)
 have z2 : alc 1 zU (X++[.cells [uv,gv] 1 false false])=some (pt (X++[Ze.cells [uv,gv] 1 false false]).length,X++[.cells [uv,gv] 1 false false]++[.cells (usr ([],[])) 1 false false]):=KH (vs:=usr ([],[])) rfl
 have k2 : HLe X (X++[Ze.cells [uv,gv] 1 false false]++[Ze.cells (usr ([],[])) 1 false false]):=(HLe.app _ _).trans (.app _ _)
 have b1 : (X++[Ze.cells [uv,gv] 1 false false]++[Ze.cells (usr ([],[])) 1 false false])[X.length]?=some (.cells [uv,gv] 1 false false):=ZgQ
 have b2 : (X++[Ze.cells [uv,gv] 1 false false]++[Ze.cells (usr ([],[])) 1 false false])[(X++[Ze.cells [uv,gv] 1 false false]).length]?=some (.cells (usr ([],[])) 1 false false):=ZD
 have hp : X.length < (X++[Ze.cells [uv,gv] 1 false false]).length:=by simp
 generalize X++[Ze.cells [uv,gv] 1 false false]++[Ze.cells (usr ([],[])) 1 false false]=X2 at z2 k2 b1 b2
 generalize (X++[Ze.cells [uv,gv] 1 false false]).length=p2 at z2 b2 hp
 have d1 : ldA 2 (pt X.length) X2=some (.agg #[uv,gv],X2):=ZZ (n:=2) b1 rfl
 obtain ⟨u,X3,e3,k3,ok,hk,hin,h0⟩:=ZiY (n:=n) (k:=k) (hU.mono k2) hO hP hR.oneG
 have b3:=k3 _ _ b2
 have w1:=Wq (vs:=u.cells) (n:=5) b3 rfl rfl (Kt ok.2.1)
 have d2 : ldA 5 (pt p2) (X3.set p2 (.cells u.cells 1 false false))=some (.agg u.cells.toArray,_):=ZZ (n:=5) (ZT b3) rfl
 have hput : HLe X (X3.set p2 (.cells u.cells 1 false false)):=(k2.trans k3).putB (by omega)
 refine ⟨u,X3.set p2 (.cells u.cells 1 false false),?_,hput,?_,?_⟩
 ·rw [R,Zl4 rfl]
  unfold ZeS
  rw [Za z1,Za z2,Za d1,Za e3,Za Zk,Za Zj,Za w1,Za d2]
  rfl
 ·rcases hin with h | h
  ·subst h
   exact ⟨Sl.nil,rfl,Nat.zero_le _⟩
  ·exact (hU.mono hput).ok h
 ·by_cases he : Zn k s.A=0
  ·rw [if_pos he];exact hk he
  ·rw [if_neg he,h0 he];rfl
theorem ZnU (hu : us.length≤1000) (hA : SlN 5 H0 wv (us.map Zp.cells)) (ho : ∀ u∈us,oneCell u.gv=true) : ∀ (t j : Nat) (X : Zc),us.length - j=t→j≤us.length→HLe H0 X→
  ∃ X',Zi (c4 (YT.l1 (R n))) [strv m,wv,iv us.length,iv j] X=some (match (us.drop j).find? (fun u=>u.ml==m) with | some u=>.ret (.tuple #[strv u.nm,iv 0]) | none=>.ext 0 [],X')∧HLe H0 X'
 | 0,j,X,ht,hj,hle=>by
  rw [List.drop_eq_nil_of_le (by omega)]
  refine ⟨X,Z7 ?_,hle⟩
  rw [ZK,show j=us.length by omega]
  unfold YT.l1
  rw [Za Zo,Zb,if_neg (by simp)]
  rfl
 | t+1,j,X,ht,hj,hle=>by
  have hjl : j < us.length:=by omega
  have hlt : (j : Int) < us.length:=by omega
  have hg:=List.getElem?_eq_getElem hjl
  have hd:=List.drop_eq_getElem_cons hjl
  generalize us[j]=u at hg hd
  have hf:=fun {K : Value→M Out}=>Zde (k:=K) (hA.mono hle) (ho u (List.mem_of_getElem? hg)) hg
  have g1 : (X++[Ze.cells u.cells 1 false false])[X.length]?=some (.cells u.cells 1 false false):=ZD
  have l0 : ld1 (pa X.length 0) (X++[.cells u.cells 1 false false])=some (strv u.nm,X++[.cells u.cells 1 false false]):=Zw g1 rfl
  have l2 : ld1 (pa X.length 2) (X++[.cells u.cells 1 false false])=some (strv u.ml,X++[.cells u.cells 1 false false]):=Zw g1 rfl
  have k1 : HLe X (X++[Ze.cells u.cells 1 false false]):=.app _ _
  generalize X++[Ze.cells u.cells 1 false false]=X1 at g1 l0 l2 k1 hf
  have q1 : bop .str .eql (strv u.ml) (strv m) X1=some (.bool (u.ml==m),X1):=Zb2
  rw [hd,List.find?_cons]
  cases hm : u.ml==m
  ·rw [hm] at q1
   obtain ⟨X2,e2,k2⟩:=ZnU hu hA ho t (j+1) X1 (by omega) (by omega) (hle.trans k1)
   refine ⟨X2,(ZI ?_).trans e2,k2⟩
   rw [ZK]
   unfold YT.l1
   rw [Za Zo,Zb,if_pos (by simpa using hlt),hf,Za Zg,Za l2,Za q1,Zb,if_neg (by simp),Za Zy,Qu (by omega)]
   rfl
  ·rw [hm] at q1
   refine ⟨X1,Yz ?_,hle.trans k1⟩
   rw [ZK]
   unfold YT.l1
   rw [Za Zo,Zb,if_pos (by simpa using hlt),hf,Za Zg,Za l2,Za q1,Zb,if_pos rfl,Za Zg,Za l0]
   rfl
theorem ZsF (hO : ROK s us) (hP : K9 s) (hm : QB m=true) : (us.find? fun u=>u.ml==ZY m).map (·.nm)=Zf (ZY m) s.OW:=by
 have hat : ∀ u∈us,u.ml=ZY m↔Zf (ZY m) s.OW=some u.nm:=fun u hu=>by
  have h1:=hO.at hu
  unfold ZO at h1
  cases ha : Zf u.nm s.A with
  | none=>rw [ha] at h1;cases h1
  | some p=>
   rw [ha] at h1
   have h2 : Qi s u.nm p=Qh u:=Option.some.inj h1
   have h3 : (Zf u.nm s.OF).getD []=u.ml:=congrArg (·.2.2.1) h2
   rw [← hP.x.inv,← h3]
   cases ho : Zf u.nm s.OF with
   | none=>exact ⟨fun h=>absurd h.symm (Znb hm).1,fun h=>by cases h⟩
   | some v=>exact ⟨fun h=>by rw [← h];rfl,fun h=>by cases h;rfl⟩
 cases hf : us.find? fun u=>u.ml==ZY m with
 | some u=>
  have h1:=List.find?_some hf
  have h2:=List.mem_of_find?_eq_some hf
  exact ((hat u h2).1 (by simpa using h1)).symm
 | none=>
  rw [List.find?_eq_none] at hf
  cases hw : Zf (ZY m) s.OW with
  | none=>rfl
  | some x=>
   have h1:=(hP.x.inv _ _).2 hw
   have h2:=hP.i.ofA x (by rw [h1];rfl)
   obtain ⟨p,hp⟩:=Option.isSome_iff_exists.1 h2
   have h3 : ZO s x=some (Qi s x p):=by unfold ZO;rw [hp];rfl
   obtain ⟨u,hu,hk⟩:=Kl.1 ((hO.look (Qi s x p)).2 h3)
   have hn : u.nm=x:=congrArg (·.1) hk
   have:=(hat u hu).2 (by rw [hn];exact hw)
   exact absurd (by simpa using this) (hf u hu)
theorem ZtX (hR : RD X uv gv s) (hP : K9 s) : ∃ X',R (n+5) ZaT [.agg #[uv,gv],strv m] X=some (.tuple #[strv (Zgp m s.OW),iv (Zb6 m s.OW)],X')∧HLe X X':=by
 obtain ⟨us,hU,hO⟩:=hR.ex
 have z1 : alc 1 (.agg #[uv,gv]) X=some (pt X.length,X++[.cells [uv,gv] 1 false false]):=KH (vs:=[uv,gv]) (by simp only [List.all_cons,hU.one,hR.oneG];rfl)
 have k1 : HLe X (X++[Ze.cells [uv,gv] 1 false false]):=.app _ _
 have b1 : (X++[Ze.cells [uv,gv] 1 false false])[X.length]?=some (.cells [uv,gv] 1 false false):=ZD
 generalize X++[Ze.cells [uv,gv] 1 false false]=X1 at z1 k1 b1
 have e2 : R (n+4) Kv [strv m] X1=_:=Zoe (n:=n)
 have f1 : ∀ v X',YT (R (n+4)) (.agg #[uv,gv]) (strv m) X=some (v,X')→R (n+5) ZaT [.agg #[uv,gv],strv m] X=some (v,X'):=fun v X' hr=>by rw [R,Zof rfl];exact hr
 unfold Zgp Zb6
 cases hm : QB m
 ·rw [hm] at e2
  refine ⟨X1,f1 _ _ ?_,k1⟩
  unfold YT
  rw [Za z1,Za e2,Za Zk,Za Zj,Za Zv,Zb,if_pos (by rfl)]
  rfl
 ·rw [hm] at e2
  have e2 : R (n+4) Kv [strv m] X1=some (.tuple #[strv (ZY m),.bool true],X1):=e2
  have hl:=hO.len hP.n
  have hfew:=hP.i.few
  have hlen : ZF uv X1=some (iv us.length,X1):=by have:=hU.1.len (H':=X1);rwa [List.length_map] at this
  have a0 : ld1 (pa X.length 0) X1=some (uv,X1):=Zw b1 rfl
  obtain ⟨X3,e3,k3⟩:=ZnU (n:=n+4) (m:=ZY m) (by omega) (hU.mono k1).1 (fun u hu=>(hU.2 u hu).2.1) us.length 0 X1 (by omega) (by omega) (.refl _)
  rw [List.drop_zero] at e3
  have e3 : Zi (c4 (YT.l1 (R (n+4)))) [strv (ZY m),uv,iv us.length,.int .i64 0] X1=_:=e3
  have hfm:=ZsF hO hP hm
  refine ⟨X3,f1 _ _ ?_,k1.trans k3⟩
  unfold YT
  rw [Za z1,Za e2,Za Zk,Za Zj,Za Zv,Zb,if_neg (by simp),Za Zg,Za a0,Za hlen]
  rw [← hfm]
  cases hf : us.find? fun u=>u.ml==ZY m with
  | none=>
   rw [hf] at e3
   rw [QN e3,ZM]
   rfl
  | some u=>
   rw [hf] at e3
   rw [Ku e3]
   rfl
theorem Zfz (hu : us.length≤1000) (hA : Qs H0 wv us) : ∀ (t j : Nat) (sl : Value) (q : List Nat) (acc : List Tx) (X : Zc),us.length - j=t→j≤us.length→acc.length≤j→HLe H0 X→(∀ i∈q,H0.length≤i)→Zx X sl (acc.map strv) q→
  ∃ X' sl' q',Zi (c5 (Jv.l1 (R (n+1)))) [strv g,sl,wv,iv us.length,iv j] X=some (.ext 0 [sl'],X')∧Zx X' sl' ((acc++((us.drop j).filter (fun u=>decide (g∈u.gs))).map (·.nm)).map strv) q'∧HLe H0 X'∧∀ i∈q',H0.length≤i
 | 0,j,sl,q,acc,X,ht,hj,ha,hle,hq,hr=>by
  rw [List.drop_eq_nil_of_le (by omega)]
  refine ⟨X,sl,q,Z7 ?_,by simpa using hr,hle,hq⟩
  rw [Qk,show j=us.length by omega]
  unfold Jv.l1
  rw [Za Zo,Zb,if_neg (by simp)]
  rfl
 | t+1,j,sl,q,acc,X,ht,hj,ha,hle,hq,hr=>by
  have hjl : j < us.length:=by omega
  have hlt : (j : Int) < us.length:=by omega
  have hg:=List.getElem?_eq_getElem hjl
  have hd:=List.drop_eq_getElem_cons hjl
  generalize us[j]=u at hg hd
  obtain ⟨a1,a2,a3⟩:=hA.2 u (List.mem_of_getElem? hg)
  have hf:=fun {K : Value→M Out}=>Zde (k:=K) (hA.1.mono hle) a2 hg
  have g1 : (X++[Ze.cells u.cells 1 false false])[X.length]?=some (.cells u.cells 1 false false):=ZD
  have l0 : ld1 (pa X.length 0) (X++[.cells u.cells 1 false false])=some (strv u.nm,X++[.cells u.cells 1 false false]):=Zw g1 rfl
  have l4 : ld1 (pa X.length 4) (X++[.cells u.cells 1 false false])=some (u.gv,X++[.cells u.cells 1 false false]):=Zw g1 rfl
  have k1 : HLe X (X++[Ze.cells u.cells 1 false false]):=.app _ _
  generalize X++[Ze.cells u.cells 1 false false]=X1 at g1 l0 l4 k1 hf
  have le1:=hle.trans k1
  have eh : R (n+1) Yi [u.gv,strv g] X1=_:=ZgY (n:=n) (x:=g) a3 (a1.mono le1)
  have hr1 : Zx X1 sl _ q:=hr.keep fun i hi=>k1.step.keep i (hr.lt i hi) (by simp)
  rw [hd,List.filter_cons]
  by_cases h : g∈u.gs
  ·rw [decide_eq_true h] at eh ⊢
   rw [if_pos rfl,List.map_cons]
   have x4:=ZtM (es:=1) (z:=.string ⟨#[]⟩) (v:=strv u.nm) (H:=X1) rfl rfl rfl
   have k2 : HLe X1 (X1++[Ze.cells [strv u.nm] 1 false false]):=.app _ _
   have s2 : Sl (X1++[Ze.cells [strv u.nm] 1 false false]) (.slice (some ⟨X1.length,0,none⟩) 1 1) [strv u.nm]:=Sl.one (c:=1) ZD
   generalize X1++[Ze.cells [strv u.nm] 1 false false]=X2 at x4 k2 s2
   have hr2 : Zx X2 sl _ q:=hr1.keep fun i hi=>k2.step.keep i (hr1.lt i hi) (by simp)
   obtain ⟨sl',X3,q',x5,hr3,s3,_⟩:=hr2.push (b:=16) s2 (by simp;omega) (by simp;omega)
   have hm:=(le1.trans k2).more s3 hq
   have hr3' : Zx X3 sl' ((acc++[u.nm]).map strv) q':=by rw [List.map_append];exact hr3
   obtain ⟨X4,sl4,q4,e4,r4,r5⟩:=Zfz hu hA t (j+1) sl' q' (acc++[u.nm]) X3 (by omega) (by omega) (by simp;omega) hm.1 hm.2 hr3'
   refine ⟨X4,sl4,q4,(ZI ?_).trans e4,by simpa using r4,r5⟩
   rw [Qk]
   unfold Jv.l1
   rw [Za Zo,Zb,if_pos (by simpa using hlt),hf,Za Zg,Za l4,Za eh]
   refine (ZV (vs:=[strv g,sl',wv,iv us.length,iv j]) (H':=X3) ?_).trans ?_
   ·rw [Zb,if_pos rfl,Za Zg,Za l0,Za x4,Za x5];rfl
   ·rw [Qk,Za Zy,Qu (by omega)];rfl
  ·rw [decide_eq_false h] at eh ⊢
   rw [if_neg (by simp)]
   obtain ⟨X2,sl2,q2,e2,r2⟩:=Zfz hu hA t (j+1) sl q acc X1 (by omega) (by omega) (by omega) le1 hq hr1
   refine ⟨X2,sl2,q2,(ZI ?_).trans e2,r2⟩
   rw [Qk]
   unfold Jv.l1
   rw [Za Zo,Zb,if_pos (by simpa using hlt),hf,Za Zg,Za l4,Za eh]
   refine (ZV (vs:=[strv g,sl,wv,iv us.length,iv j]) (H':=X1) ?_).trans ?_
   ·rw [Zb,if_neg (by simp)];rfl
   ·rw [Qk,Za Zy,Qu (by omega)];rfl
theorem Zso (hO : ROK s us) (hP : K9 s) (hgK : g∈s.K) : Is ((us.filter (fun u=>decide (g∈u.gs))).map (·.nm)) (fun m=>s.mem g m=true):=by
 have hat : ∀ u∈us,g∈u.gs↔s.mem g u.nm=true:=fun u hu=>by
  have h1:=hO.at hu
  unfold ZO at h1
  cases ha : Zf u.nm s.A with
  | none=>rw [ha] at h1;cases h1
  | some p=>
   rw [ha] at h1
   have h2 : Qi s u.nm p=Qh u:=Option.some.inj h1
   have h3 : ofL u.nm s.K s.mem=u.gs:=congrArg (·.2.2.2.2) h2
   rw [← h3]
   refine ((ZcR hP.k.nod).mem g).trans ⟨fun h=>h.2,fun h=>⟨hgK,h⟩⟩
 refine ⟨?_,fun x=>?_⟩
 ·unfold Asc
  rw [List.pairwise_map]
  exact List.Pairwise.filter _ hO.rise
 ·rw [List.mem_map]
  constructor
  ·rintro ⟨u,hu,rfl⟩
   rw [List.mem_filter,decide_eq_true_eq] at hu
   exact (hat u hu.1).1 hu.2
  ·intro hx
   obtain ⟨p,hp⟩:=Option.isSome_iff_exists.1 (hP.i.memA g x hx)
   have h3 : ZO s x=some (Qi s x p):=by unfold ZO;rw [hp];rfl
   obtain ⟨u,hu,hk⟩:=Kl.1 ((hO.look (Qi s x p)).2 h3)
   have hn : u.nm=x:=congrArg (·.1) hk
   refine ⟨u,List.mem_filter.2 ⟨hu,decide_eq_true ((hat u hu).2 (by rw [hn];exact hx))⟩,hn⟩
theorem Zq7 (hR : RD X uv gv s) (hP : K9 s) : ∃ v l X',R (n+5) K5 [.agg #[uv,gv],strv g] X=some (.tuple #[v,iv (Qa g s.K)],X')∧Sl X' v (l.map strv)∧Is l (fun m=>Qa g s.K=0∧s.mem g m=true)∧HLe X X':=by
 obtain ⟨us,hU,hO⟩:=hR.ex
 obtain ⟨q,N,hN,hI⟩:=hR.n
 have hfewN:=ZoP hI hP
 have z1 : alc 1 (.agg #[uv,gv]) X=some (pt X.length,X++[.cells [uv,gv] 1 false false]):=KH (vs:=[uv,gv]) (by simp only [List.all_cons,hU.one,hR.oneG];rfl)
 have k1 : HLe X (X++[Ze.cells [uv,gv] 1 false false]):=.app _ _
 have b1 : (X++[Ze.cells [uv,gv] 1 false false])[X.length]?=some (.cells [uv,gv] 1 false false):=ZD
 generalize X++[Ze.cells [uv,gv] 1 false false]=X1 at z1 k1 b1
 have e2 : R (n+4) Qq [strv g] X1=some (.bool (Zs g),X1):=ZaG
 have f1 : ∀ v X',Jv (R (n+4)) (.agg #[uv,gv]) (strv g) X=some (v,X')→R (n+5) K5 [.agg #[uv,gv],strv g] X=some (v,X'):=fun v X' hr=>by rw [R,Zll rfl];exact hr
 have none0 : ∀ e : Int,e≠0→Is ([] : List Tx) (fun m=>e=0∧s.mem g m=true):=fun e he=>⟨List.Pairwise.nil,fun x=>by simp [he]⟩
 unfold Qa
 cases hn : Zs g
 ·rw [hn] at e2
  refine ⟨.slice none 0 0,[],X1,f1 _ _ ?_,Sl.nil,none0 _ (by simp),k1⟩
  unfold Jv
  rw [Za z1,Za e2,Za Zv,Zb,if_pos (by rfl)]
  rfl
 ·rw [hn] at e2
  have a1 : ld1 (pa X.length 1) X1=some (gv,X1):=Zw b1 rfl
  have a0 : ld1 (pa X.length 0) X1=some (uv,X1):=Zw b1 rfl
  have eh : R (n+4) Yi [gv,strv g] X1=_:=ZgY (n:=n+3) (x:=g) (l:=N) (by omega) (hN.hle k1).rd
  have hmem : (decide (g∈N))=decide (g∈s.K):=by simp [hI.mem]
  rw [hmem] at eh
  by_cases hgK : g∈s.K
  ·rw [decide_eq_true hgK] at eh
   have hl:=hO.len hP.n
   have hfew:=hP.i.few
   have hlen : ZF uv X1=some (iv us.length,X1):=by have:=hU.1.len (H':=X1);rwa [List.length_map] at this
   obtain ⟨X3,sl,q3,e3,r3,k3,_⟩:=Zfz (n:=n+3) (g:=g) (by omega) (hU.mono k1) us.length 0 (.slice none 0 0) [] [] X1 (by omega) (by omega) (by simp) (.refl _) (by simp) Zx.nil
   rw [List.drop_zero,List.nil_append] at r3
   have e3 : Zi (c5 (Jv.l1 (R (n+4)))) [strv g,.slice none 0 0,uv,iv us.length,.int .i64 0] X1=_:=e3
   have hi:=Zso hO hP hgK
   refine ⟨sl,_,X3,f1 _ _ ?_,r3.rd,⟨hi.asc,fun x=>by rw [hi.mem];simp [hgK]⟩,k1.trans k3⟩
   unfold Jv
   rw [Za z1,Za e2,Za Zv,Zb,if_neg (by simp),Za Zg,Za a1,Za eh,Za Zv,Zb,if_neg (by simp),Za Zg,Za a0,Za hlen,QN e3,ZM]
   simp [hgK]
   rfl
  ·rw [decide_eq_false hgK] at eh
   refine ⟨.slice none 0 0,[],X1,f1 _ _ ?_,Sl.nil,none0 _ (by simp [hgK]),k1⟩
   unfold Jv
   rw [Za z1,Za e2,Za Zv,Zb,if_neg (by simp),Za Zg,Za a1,Za eh,Za Zv,Zb,if_pos (by rfl)]
   simp [hgK]
   rfl
end
end Go.Proofs.YtnnehafmjfmbnaaGreatDoor.A

namespace Go.Proofs.YtnnehafmjfmbnaaGreatDoor.A
set_option linter.unusedVariables false
set_option linter.unusedSimpArgs false
open Go.Proofs Go.Proofs.YtnnehafmjfmbnaaGreatDoor
section
variable {X X' H H0 : Zc} {n d c w : Nat} {r : NR} {uv gv sl : Value} {s : NSt} {u : Zbx} {ac : List Zbx}
theorem Zwk (K : Value→Value→A.M Value) : ∃ X' d r w,bind (R (n+12) KC []) (fun v=>bind (alc 1 zD) fun b=>K v b) X=K (pt d) (pt w) X'∧NL X X' d r ⟨[],[],[],[],fun _ _=>false⟩ (.slice none 0 0) (.slice none 0 0) w 0∧X.length≤w:=by
 obtain ⟨X1,d,r,e1,D1,l1,o1,o2⟩:=Ztt (n:=n+10) (X:=X)
 have e1 : R (n+12) KC [] X=_:=e1
 have z3 : alc 1 zD X1=some (pt X1.length,X1++[.cells [.slice none 0 0,.slice none 0 0] 1 false false]):=KH (vs:=[.slice none 0 0,.slice none 0 0]) rfl
 have k3 : HLe X1 (X1++[Ze.cells [.slice none 0 0,.slice none 0 0] 1 false false]):=.app _ _
 have c3 : (X1++[Ze.cells [.slice none 0 0,.slice none 0 0] 1 false false])[X1.length]?=some (.cells [.slice none 0 0,.slice none 0 0] 1 false false):=ZD
 refine ⟨_,d,r,X1.length,?_,⟨l1.trans k3,D1.hle k3,⟨⟨[],⟨SlN.nil,by simp⟩,⟨List.Pairwise.nil,fun key=>?_⟩⟩,⟨[],[],Zx.nil,⟨List.Pairwise.nil,by simp⟩⟩⟩,o2,c3⟩,l1.len⟩
 ·rw [Za e1,Za z3]
 ·unfold ZO
  simp [Zf]
end
end Go.Proofs.YtnnehafmjfmbnaaGreatDoor.A

namespace Go.Proofs.YtnnehafmjfmbnaaGreatDoor.A
set_option linter.unusedVariables false
set_option linter.unusedSimpArgs false
open Go.Proofs Go.Proofs.YtnnehafmjfmbnaaGreatDoor
noncomputable def ZuM (Γ : Zd) (x0 x1 x2 x3 x4 v b : Value) : M Value:=
 bind (ZF x0) fun v61x26=>
 jn (Zi (c9 (JF.l1 Γ)) [x1,x2,x3,x4,v,b,x0,v61x26,(Value.int .i64 0)]) noN (xk 0 (c6 fun q38_0 q38_1 q38_2 q38_3 q38_4 q38_5=>
 bind (Γ JH [q38_4,q38_0]) fun v77x39=>
 bind (Zh v77x39 0) fun v78x40=>
 bind (Zh v77x39 1) fun v79x41=>
 bind (alc 1 (.agg #[.string ⟨#[]⟩,.string ⟨#[]⟩,.string ⟨#[]⟩,.bool false,.slice none 0 0])) fun v15x42=>
 bind (stA 5 v15x42 v78x40) fun _=>
 bind (ldA 2 q38_5) fun v81x43=>
 bind (Γ Zav [v81x43,q38_0]) fun v83x44=>
 bind (Zh v83x44 0) fun v84x45=>
 bind (Zh v83x44 1) fun v85x46=>
 bind (alc 1 (.agg #[.string ⟨#[]⟩,.string ⟨#[]⟩,.string ⟨#[]⟩,.bool false,.slice none 0 0])) fun v17x47=>
 bind (stA 5 v17x47 v84x45) fun _=>
 bind (Γ YU [q38_4,q38_1]) fun v89x48=>
 bind (Zh v89x48 0) fun v90x49=>
 bind (Zh v89x48 1) fun v91x50=>
 bind (ldA 2 q38_5) fun v93x51=>
 bind (Γ ZaT [v93x51,q38_1]) fun v95x52=>
 bind (Zh v95x52 0) fun v96x53=>
 bind (Zh v95x52 1) fun v97x54=>
 bind (ldA 5 v15x42) fun v98x55=>
 bind (bsl 5 1 (.agg #[.string ⟨#[]⟩,.string ⟨#[]⟩,.string ⟨#[]⟩,.bool false,.slice none 0 0]) [(0,5,v98x55)]) fun v99x56=>
 bind (ldA 5 v17x47) fun v100x57=>
 bind (bsl 5 1 (.agg #[.string ⟨#[]⟩,.string ⟨#[]⟩,.string ⟨#[]⟩,.bool false,.slice none 0 0]) [(0,5,v100x57)]) fun v101x58=>
 bind (Γ YL [v99x56,v101x58]) fun v102x59=>
 bind (uop .not v102x59) fun v103x60=>
 bind (ZA v103x60 false 3 (bind (bop .int .neq v79x41 v85x46) fun v107x61=>
 ret [v79x41,v85x46,v107x61])) (c3 fun _ _ q62_2=>
 bind (pick v103x60 (Value.bool true) q62_2) fun v108x63=>
 bind (ZA v108x63 false 3 (bind (bop .str .neq v90x49 v96x53) fun v112x64=>
 ret [v90x49,v96x53,v112x64])) (c3 fun _ _ q65_2=>
 bind (pick v108x63 (Value.bool true) q65_2) fun v113x66=>
 bind (ZA v113x66 false 3 (bind (bop .int .neq v91x50 v97x54) fun v117x67=>
 ret [v91x50,v97x54,v117x67])) (c3 fun _ _ q68_2=>
 bind (pick v113x66 (Value.bool true) q68_2) fun v118x69=>
 cnd v118x69
 (ret (Value.bool false))
 (bind (Γ WU [q38_4,q38_2]) fun v122x70=>
 bind (Zh v122x70 0) fun v123x71=>
 bind (Zh v122x70 1) fun v124x72=>
 bind (fa 0 q38_5) fun v126x73=>
 bind (ld1 v126x73) fun v127x74=>
 bind (Γ WN [v127x74,q38_2]) fun v129x75=>
 bind (Zh v129x75 0) fun v130x76=>
 bind (Zh v129x75 1) fun v131x77=>
 bind (Γ KP [q38_4,q38_3]) fun v135x78=>
 bind (Zh v135x78 0) fun v136x79=>
 bind (Zh v135x78 1) fun v137x80=>
 bind (ldA 2 q38_5) fun v139x81=>
 bind (Γ K5 [v139x81,q38_3]) fun v141x82=>
 bind (Zh v141x82 0) fun v142x83=>
 bind (Zh v141x82 1) fun v143x84=>
 bind (Γ Ye [v123x71,v130x76]) fun v146x85=>
 bind (ZA v146x85 true 3 (bind (bop .int .eql v124x72 v131x77) fun v150x86=>
 ret [v124x72,v131x77,v150x86])) (c3 fun _ _ q87_2=>
 bind (pick v146x85 q87_2 (Value.bool false)) fun v151x88=>
 bind (ZA v151x88 true 3 (bind (Γ Ye [v136x79,v142x83]) fun v155x89=>
 ret [v136x79,v142x83,v155x89])) (c3 fun _ _ q90_2=>
 bind (pick v151x88 q90_2 (Value.bool false)) fun v156x91=>
 bind (ZA v156x91 true 3 (bind (bop .int .eql v137x80 v143x84) fun v160x92=>
 ret [v137x80,v143x84,v160x92])) (c3 fun _ _ q93_2=>
 bind (pick v156x91 q93_2 (Value.bool false)) fun v161x94=>
 ret v161x94)))))))) noX) ret
section
variable {X X' H H0 : Zc} {n d c w : Nat} {r : NR} {uv gv sl : Value} {s : NSt} {u : Zbx} {ac : List Zbx} {x1 x2 x3 x4 : Tx}
theorem ZuI {z1 z2 z3 z4 : Value} (hA : Zcv H sl ac) (hn : ac.length≤9223372036854775807) (hw0 : H.length≤w) : ∀ (t j : Nat) (r : NR) (s : NSt) (uv gv : Value) (X : Zc),ac.length - j=t→j≤ac.length→NL H X d r s uv gv w j→
  ∃ X' r' s' uv' gv',Zi (c9 (JF.l1 (R (n+12)))) [z1,z2,z3,z4,pt d,pt w,sl,iv ac.length,iv j] X=some (.ext 0 [z1,z2,z3,z4,pt d,pt w],X')∧NL H X' d r' s' uv' gv' w ac.length
 | 0,j,r,s,uv,gv,X,ht,hj,h=>by
  have hj : j=ac.length:=by omega
  subst hj
  refine ⟨X,r,s,uv,gv,Z7 ?_,h⟩
  rw [Yw]
  unfold JF.l1
  rw [Za Zo,Zb,if_neg (by simp)]
  rfl
 | t+1,j,r,s,uv,gv,X,ht,hj,h=>by
  have hkl : j < ac.length:=by omega
  have hlt : (j : Int) < ac.length:=by omega
  have hja:=List.getElem?_eq_getElem hkl
  generalize ac[j]=u at hja
  obtain ⟨X2,r2,uv2,gv2,z,h2⟩:=Zwg (n:=n) hA hw0 hja h
  obtain ⟨X4,r4,s4,uv4,gv4,e4,h4⟩:=ZuI (z1:=z1) (z2:=z2) (z3:=z3) (z4:=z4) hA hn hw0 t (j+1) r2 (YG u s) uv2 gv2 X2 (by omega) (by omega) h2
  refine ⟨X4,r4,s4,uv4,gv4,(ZI ?_).trans e4,h4⟩
  rw [Yw]
  unfold JF.l1
  rw [Za Zo,Zb,if_pos (by simpa using hlt)]
  refine (z _).trans ?_
  rw [Za Zy,Qu (by omega)]
  rfl
theorem Zqh {u : Zp} (hu : UOK X u) : ∃ v X',bsl 5 1 zU [(0,5,.agg u.cells.toArray)] X=some (v,X')∧Qs X' v [u]∧HLe X X':=by
 have x4:=ZoT (es:=5) (z:=zU) (H:=X) rfl (show u.cells.length=5 from rfl) (Kt hu.2.1)
 have l1 : HLe X (X++[Ze.cells u.cells 5 false false]):=.app _ _
 have s1 : SlN 5 (X++[Ze.cells u.cells 5 false false]) (.slice (some ⟨X.length,0,none⟩) 1 1) [u.cells]:=SlN.whole (rows:=[u.cells]) (c:=1) (e:=5) (g:=false) (ro:=false) (by rw [ZD];simp) (by simp)
 refine ⟨_,_,x4,⟨s1,fun v hv=>?_⟩,l1⟩
 rw [List.mem_singleton] at hv
 subst hv
 exact hu.hle l1
theorem ZlA {β : Type} {p q : Bool} {m : M (List Value)} {u v : Value} {k : Value→M β} (hm : m X=some ([u,v,.bool q],X)) : bind (ZA (.bool p) false 3 m) (c3 fun _ _ t=>bind (pick (.bool p) (.bool true) t) k) X=k (.bool (p || q)) X:=by
 cases p
 ·rw [Z0,Za hm,Z4,Za Zm];rfl
 ·rw [Za (g_r.trans (if_neg (by simp)))]
  simp only [List.replicate]
  rw [Z4,Za Zm];rfl
theorem ZrP {β : Type} {q : Bool} {m : M (List Value)} {u v : Value} {k : Value→M β} (hm : m X=some ([u,v,.bool q],X')) : bind (ZA (.bool true) true 3 m) (c3 fun _ _ t=>bind (pick (.bool true) t (.bool false)) k) X=k (.bool q) X':=by
 rw [Z0,Za hm,Z4,Za Zm];rfl
theorem ZoI {x : Tx} (H : Zc) : (bind (QE (strv x)) fun v=>bind (bop .int .gtr v (Value.int .i64 50)) fun v2=>ret [strv x,v,v2]) H=some ([strv x,iv x.length,.bool (decide ((x.length : Int) > 50))],H):=by
 rw [Za ZH,Za Ql];rfl
theorem Zsp (hA : Zcv H sl ac) (hn : ac.length≤9223372036854775807) : ∃ H',R (n+13) W1 [sl,strv x1,strv x2,strv x3,strv x4] H=some (.bool true,H'):=by
 have f1 : ∀ r X',JF (R (n+12)) sl (strv x1) (strv x2) (strv x3) (strv x4) H=some (r,X')→R (n+13) W1 [sl,strv x1,strv x2,strv x3,strv x4] H=some (r,X'):=fun r X' hr=>by rw [R,ZjK rfl];exact hr
 obtain ⟨H1,e1,l1⟩:=Zqt (n:=n) (H:=H)
 obtain ⟨H2,e2,l2⟩:=Zv8 (n:=n+11) (hA.mono l1) hn
 have e2 : R (n+12) WG [sl] H1=_:=e2
 obtain ⟨H2',e2',l2'⟩:=Zqt (n:=n) (H:=H2)
 generalize hq : (ac.all Zlj && decide (ac.length≤60))=fw at e2
 generalize hz : ((((!fw || decide ((x1.length : Int) > 50)) || decide ((x2.length : Int) > 50)) || decide ((x3.length : Int) > 50)) || decide ((x4.length : Int) > 50))=z
 have step : ∀ {k : Value→A.M Value},bind (uop .not (.bool true)) (fun v32x2=>
   bind (ZA v32x2 false 3 (bind (R (n+12) WG [sl]) fun v35x3=>bind (uop .not v35x3) fun v36x4=>ret [sl,v35x3,v36x4])) (c3 fun _ _ q5_2=>
   bind (pick v32x2 (Value.bool true) q5_2) fun v37x6=>
   bind (ZA v37x6 false 3 (bind (QE (strv x1)) fun v40x7=>bind (bop .int .gtr v40x7 (Value.int .i64 50)) fun v41x8=>ret [strv x1,v40x7,v41x8])) (c3 fun _ _ q9_2=>
   bind (pick v37x6 (Value.bool true) q9_2) fun v42x10=>
   bind (ZA v42x10 false 3 (bind (QE (strv x2)) fun v45x11=>bind (bop .int .gtr v45x11 (Value.int .i64 50)) fun v46x12=>ret [strv x2,v45x11,v46x12])) (c3 fun _ _ q13_2=>
   bind (pick v42x10 (Value.bool true) q13_2) fun v47x14=>
   bind (ZA v47x14 false 3 (bind (QE (strv x3)) fun v50x15=>bind (bop .int .gtr v50x15 (Value.int .i64 50)) fun v51x16=>ret [strv x3,v50x15,v51x16])) (c3 fun _ _ q17_2=>
   bind (pick v47x14 (Value.bool true) q17_2) fun v52x18=>
   bind (ZA v52x18 false 3 (bind (QE (strv x4)) fun v55x19=>bind (bop .int .gtr v55x19 (Value.int .i64 50)) fun v56x20=>ret [strv x4,v55x19,v56x20])) (c3 fun _ _ q21_2=>
   bind (pick v52x18 (Value.bool true) q21_2) k)))))) H1=k (.bool z) H2:=fun {k}=>by
  rw [Za Zv]
  simp only [Bool.not_true]
  rw [Z0,Zl,Za e2,Zl,Za Zv,Qm,Z4,Za Zm]
  simp only [cond_false]
  rw [ZlA (ZoI H2),ZlA (ZoI H2),ZlA (ZoI H2),ZlA (ZoI H2),hz]
 cases z
 ·have hp3 : x3.length≤1000000000:=by
   simp only [Bool.or_eq_false_iff,decide_eq_false_iff_not] at hz
   have:=hz.1.2
   omega
  have hfw : fw=true:=by
   simp only [Bool.or_eq_false_iff,Bool.not_eq_false'] at hz
   exact hz.1.1.1.1
  rw [hfw] at hq
  simp only [Bool.and_eq_true,decide_eq_true_eq] at hq
  have hq60:=hq.2
  obtain ⟨X0,d,r,w,z,hL,hw⟩:=Zwk (n:=n) (X:=H2) (fun v b=>ZuM (R (n+12)) sl (strv x1) (strv x2) (strv x3) (strv x4) v b)
  have hA2:=hA.mono (l1.trans l2)
  obtain ⟨X5,r5,s,uv,gv,e5,h5⟩:=ZuI (n:=n) (z1:=strv x1) (z2:=strv x2) (z3:=strv x3) (z4:=strv x4) hA2 hn hw ac.length 0 r _ _ _ X0 (by omega) (by omega) hL
  rw [show iv ((0 : Nat) : Int)=.int .i64 0 from rfl] at e5
  have hP:=h5.nd.pinv
  obtain ⟨u,qu,X6,e6,r6,o6,k6,u6,hk6⟩:=Zto (n:=n+5) (k:=x1) h5.nd
  have e6 : R (n+12) JH [pt d,strv x1] X5=_:=e6
  have z7 : ∀ K : Value→M Value,bind (alc 1 zU) (fun q=>bind (stA 5 q (.agg u.cells.toArray)) fun _=>K q) X6=K (pt X6.length) (X6++[.cells u.cells 1 false false]):=fun K=>Zak (n:=5) (zs:=[.string ⟨#[]⟩,.string ⟨#[]⟩,.string ⟨#[]⟩,.bool false,.slice none 0 0]) (r:=u.cells) rfl rfl rfl (Kt r6.one.1)
  have k7 : HLe X6 (X6++[Ze.cells u.cells 1 false false]):=.app _ _
  have b7 : (X6++[Ze.cells u.cells 1 false false])[X6.length]?=some (.cells u.cells 1 false false):=ZD
  have ok6 : UOK X6 u:=⟨r6.rd,r6.one.1,by omega⟩
  generalize X6++[Ze.cells u.cells 1 false false]=X7 at z7 k7 b7
  generalize X6.length=p7 at z7 b7
  have ok7:=ok6.hle k7
  have h7:=h5.hle (k6.trans k7)
  have d7 : ldA 2 (pt w) X7=some (.agg #[uv,gv],X7):=ZZ h7.w rfl
  obtain ⟨v,X8,e8,k8,ok8,hk8⟩:=ZrI (n:=n+7) (k:=x1) h7.rd hP
  have e8 : R (n+12) Zav [.agg #[uv,gv],strv x1] X7=_:=e8
  have z9 : ∀ K : Value→M Value,bind (alc 1 zU) (fun q=>bind (stA 5 q (.agg v.cells.toArray)) fun _=>K q) X8=K (pt X8.length) (X8++[.cells v.cells 1 false false]):=fun K=>Zak (n:=5) (zs:=[.string ⟨#[]⟩,.string ⟨#[]⟩,.string ⟨#[]⟩,.bool false,.slice none 0 0]) (r:=v.cells) rfl rfl rfl (Kt ok8.2.1)
  have k9 : HLe X8 (X8++[Ze.cells v.cells 1 false false]):=.app _ _
  have b9 : (X8++[Ze.cells v.cells 1 false false])[X8.length]?=some (.cells v.cells 1 false false):=ZD
  generalize X8++[Ze.cells v.cells 1 false false]=X9 at z9 k9 b9
  generalize X8.length=p9 at z9 b9
  have h9:=h7.hle (k8.trans k9)
  obtain ⟨X10,e10,k10⟩:=Zkr (n:=n+2) (m:=x2) h9.nd
  have e10 : R (n+12) YU [pt d,strv x2] X9=_:=e10
  have h10:=h9.hle k10
  have d10 : ldA 2 (pt w) X10=some (.agg #[uv,gv],X10):=ZZ h10.w rfl
  obtain ⟨X11,e11,k11⟩:=ZtX (n:=n+7) (m:=x2) h10.rd hP
  have e11 : R (n+12) ZaT [.agg #[uv,gv],strv x2] X10=_:=e11
  have k711:=((k8.trans k9).trans k10).trans k11
  have k911:=k10.trans k11
  have d11 : ldA 5 (pt p7) X11=some (.agg u.cells.toArray,X11):=ZZ (n:=5) (k711 _ _ b7) rfl
  obtain ⟨v12,X12,e12,U12,k12⟩:=Zqh (ok7.hle k711)
  have d12 : ldA 5 (pt p9) X12=some (.agg v.cells.toArray,X12):=ZZ (n:=5) ((k911.trans k12) _ _ b9) rfl
  obtain ⟨v13,X13,e13,U13,k13⟩:=Zqh (ok8.hle (((k9.trans k10).trans k11).trans k12))
  obtain ⟨X14,e14,k14⟩:=Zta (n:=n+10) (us:=[u]) (ws:=[v]) (by simp) (by simp) (U12.mono k13) U13
  have hkk : [u].map Qh=[v].map Qh:=by
   rw [List.map_singleton,List.map_singleton,hk6,hk8]
   rfl
  rw [decide_eq_true hkk] at e14
  have e14 : R (n+12) YL [v12,v13] X13=_:=e14
  have q1 : ∀ (e : Int) (Y : Zc),bop .int .neq (iv e) (iv e) Y=some (.bool false,Y):=fun e Y=>by rw [Zt];simp
  have q2 : ∀ (x : Tx) (Y : Zc),bop .str .neq (strv x) (strv x) Y=some (.bool false,Y):=fun x Y=>by rw [WB];simp
  have k514:=(((((k6.trans k7).trans k711).trans k12).trans k13).trans k14)
  have h14:=h5.hle k514
  obtain ⟨v15,q15,X15,e15,r15,k15⟩:=Zvu (n:=n+6) (pre:=x3) h14.nd hp3
  have e15 : R (n+12) WU [pt d,strv x3] X14=_:=e15
  have h15:=h14.hle k15
  have d15 : ld1 (pa w 0) X15=some (uv,X15):=Zw h15.w rfl
  obtain ⟨X16,v16,e16,s16,k16⟩:=ZvX (n:=n+8) (pre:=x3) h15.rd hP hp3
  have e16 : R (n+12) WN [uv,strv x3] X15=_:=e16
  have h16:=h15.hle k16
  obtain ⟨v17,q17,l17,X17,e17,r17,i17,n17,k17⟩:=Zst (n:=n+3) (g:=x4) h16.nd (by omega)
  have e17 : R (n+12) KP [pt d,strv x4] X16=_:=e17
  have h17:=h16.hle k17
  have d17 : ldA 2 (pt w) X17=some (.agg #[uv,gv],X17):=ZZ h17.w rfl
  obtain ⟨v18,l18,X18,e18,s18,i18,k18⟩:=Zq7 (n:=n+7) (g:=x4) h17.rd hP
  have e18 : R (n+12) K5 [.agg #[uv,gv],strv x4] X17=_:=e18
  have hl : l17=l18:=i17.uniq i18 fun _=>Iff.rfl
  subst hl
  have k1618:=(k16.trans k17).trans k18
  have hfil : (if Zdw x3 then (Yl (ZaK s)).filter (ZcF x3) else []).length≤1000:=by
   have h1 : (Yl (ZaK s)).length≤12:=by rw [ZeO];simpa using hP.i.few
   split
   ·exact Nat.le_trans (List.length_filter_le _ _) (by omega)
   ·simp
  have e19 : R (n+12) Ye [v15,v16] X18=_:=ZkH (n:=n+11) hfil (r15.step k1618.step (by simp)).rd (s16.mono (k17.trans k18))
  have e20 : R (n+12) Ye [v17,v18] X18=_:=ZkH (n:=n+11) (by omega) (r17.step k18.step (by simp)).rd s18
  have q3 : ∀ (e : Int) (Y : Zc),bop .int .eql (iv e) (iv e) Y=some (.bool true,Y):=fun e Y=>by rw [ZB];simp
  refine ⟨X18,f1 _ _ ?_⟩
  unfold JF
  rw [Za e1]
  refine step.trans ?_
  rw [Zb,if_neg (by simp)]
  refine z.trans ?_
  unfold ZuM
  rw [Za hA2.len,QN e5,ZM,Ji,Za e6,Za Zk,Za Zj,z7,Za d7,Za e8,Za Zk,Za Zj,z9,Za e10,Za Zk,Za Zj,Za d10,Za e11,Za Zk,Za Zj,Za d11,Za e12,Za d12,Za e13,Za e14,Za Zv]
  simp only [Bool.not_true]
  rw [ZlA (u:=iv (Zn x1 s.A)) (v:=iv (Zn x1 s.A)) (q:=false) (by rw [Za (q1 _ _)];rfl),ZlA (u:=strv (Zgp x2 s.OW)) (v:=strv (Zgp x2 s.OW)) (q:=false) (by rw [Za (q2 _ _)];rfl),ZlA (u:=iv (Zb6 x2 s.OW)) (v:=iv (Zb6 x2 s.OW)) (q:=false) (by rw [Za (q1 _ _)];rfl)]
  simp only [Bool.or_false]
  rw [Zb,if_neg (by simp),Za e15,Za Zk,Za Zj,Za Zg,Za d15,Za e16,Za Zk,Za Zj,Za e17,Za Zk,Za Zj,Za d17,Za e18,Za Zk,Za Zj,Za e19]
  rw [ZrP (u:=iv (WY x3)) (v:=iv (WY x3)) (q:=true) (X':=X18) (by rw [Za (q3 _ _)];rfl),ZrP (u:=v17) (v:=v18) (q:=true) (X':=X18) (by rw [Za e20];rfl),ZrP (u:=iv (Qa x4 s.K)) (v:=iv (Qa x4 s.K)) (q:=true) (X':=X18) (by rw [Za (q3 _ _)];rfl)]
  rfl
 ·refine ⟨H2',f1 _ _ ?_⟩
  unfold JF
  rw [Za e1]
  refine step.trans ?_
  rw [Zb,if_pos (by rfl),Za e2']
  rfl
theorem law_NewerAsks : ∀ (xs : Ins [.slc nActT,.str,.str,.str,.str]) (H : Zc) (vs : List Value),ZoN [.slc nActT,.str,.str,.str,.str] xs→ZoJ [.slc nActT,.str,.str,.str,.str] xs H vs→∃ n H',R n W1 vs H=some (.bool true,H'):=by
 intro xs H vs hwf hrd
 obtain ⟨l,t1,t2,t3,t4,_⟩:=xs
 obtain ⟨hl,_⟩:=hwf
 obtain ⟨c1,_,rfl,hc1,h1,c2,_,rfl,hc2,h2,c3,_,rfl,hc3,h3,c4,_,rfl,hc4,h4,c5,_,rfl,hc5,h5,rfl⟩:=hrd
 obtain ⟨a,rfl⟩ : ∃ a,c1=[a]:=by
  match c1,hc1 with
  | [a],_=>exact ⟨a,rfl⟩
 have h2 : c2=[.string t1]:=h2
 have h3 : c3=[.string t2]:=h3
 have h4 : c4=[.string t3]:=h4
 have h5 : c5=[.string t4]:=h5
 subst h2 h3 h4 h5
 obtain ⟨ac,hA,hn⟩:=Zub hl h1
 obtain ⟨H',e⟩:=Zsp (n:=0) (x1:=(ByteArray.data t1).toList) (x2:=(ByteArray.data t2).toList) (x3:=(ByteArray.data t3).toList) (x4:=(ByteArray.data t4).toList) hA hn
 rw [← Zfx t1,← Zfx t2,← Zfx t3,← Zfx t4] at e
 exact ⟨13,H',e⟩
end
end Go.Proofs.YtnnehafmjfmbnaaGreatDoor.A

