/- What the law HostOf needs (part 6). -/
import Derived.Test.YtgfbgfafajiehaaGreatDoorZHostOf5
set_option linter.unusedVariables false
set_option linter.unusedSimpArgs false
namespace Go.Proofs.YtgfbgfafajiehaaGreatDoor.A
open Go.Proofs Go.Proofs.YtgfbgfafajiehaaGreatDoor
section
variable {X X' X0 H H0:Zd} {n p d b c i:Nat} {r:NR} {s:NSt} {v sl gv ugv zl:Value} {l gs:List Tx} {m k g:Tx} {u:Zv} {us prev:List Zv}
def nGs (gs:List Tx):NSt:=⟨[],[],[],gs,fun _ _=>false⟩
theorem ZG1 (hr:Kh gs=true) (hn:gs.all Zw=true) (h6:gs.length<=6) {j:Nat} (hg:gs[j]?=some g):Jp g (gs.take j)=0/\Zjb g (gs.take j)=gs.take (j+1):=by
 have hj:j < gs.length:=(List.getElem?_eq_some_iff.1 hg).1;have hgm:=List.mem_of_getElem? hg;have h1:Zw g=true:=List.all_eq_true.1 hn g hgm;have hd:=List.drop_eq_getElem_cons hj;have hge:gs[j]=g:=by have:=List.getElem?_eq_getElem hj;rw[hg] at this;exact(Option.some.inj this).symm
 have hp:=ZjO hr;rw[<- List.take_append_drop j gs,List.pairwise_append,hd,hge] at hp;have h2:g∉gs.take j:=fun hm=>List.lt_irrefl g (hp.2.2 g hm g (by simp));have hl:(gs.take j).length=j:=by rw[List.length_take];omega
 have h0:Jp g (gs.take j)=0:=by
  unfold Jp;rw[h1,if_pos rfl,if_neg h2,hl,if_neg (by omega)]
 refine⟨h0,?_⟩;unfold Zjb;rw[if_pos h0,List.take_add_one,hg];rfl
theorem ZD7 (hs:Sl X0 gv (gs.map strv)) (hr:Kh gs=true) (hn:gs.all Zw=true) (h6:gs.length<=6):∀ (t j:Nat) (r:NR) (X:Zd),gs.length - j=t->j<=gs.length->HLe X0 X->ND X d r (nGs (gs.take j)) 0->(∀ i∈r.own,X0.length<=i)->
  ∃ X' r',Zj (c5 (Q0.l1 (R (n+11)))) [sl,pt d,gv,iv gs.length,iv j] X=some (.ext 0 [sl,pt d],X')/\HLe X0 X'/\ND X' d r' (nGs gs) 0/\∀ i∈r'.own,X0.length<=i
 | 0,j,r,X,ht,hj,hle,hd,ho=>by
  have hj:j=gs.length:=by omega
  subst hj;rw[List.take_length] at hd;refine⟨X,r,ZZ ?_,hle,hd,ho⟩;rw[QJ];unfold Q0.l1;rw[Za Zs,Zb,if_neg (by simp)];rfl
 | t+1,j,r,X,ht,hj,hle,hd,ho=>by
  have hkl:j < gs.length:=by omega
  have hlt:(j:Int) < gs.length:=by omega
  have hg:=List.getElem?_eq_getElem hkl;generalize gs[j]=g at hg;have x1:=(hs.mono hle).ix (i:=j) (by simpa using hkl) .i64 X;have x2:=(hs.mono hle).ldx (Wr hg);obtain⟨m1,m2⟩:=ZG1 hr hn h6 hg;obtain⟨X1,G',e1,g1,k1,s1⟩:=ZA3 (n:=n+3) (k:=g) hd.gr;have e1:R (n+11) Yt [pt r.g,strv g] X=_:=e1;rw[hd.ks] at e1 k1;rw[show(nGs (gs.take j)).K=gs.take j from rfl,m2] at k1;obtain⟨d1,t1⟩:=hd.toND0.setG g1 s1 k1;have hm:=hle.more t1 ho;have hd1:ND X1 d { r with G:=G' } (nGs (gs.take (j+1))) 0:=⟨d1,⟨by simp[nGs],by simp[nGs],by simp[nGs,Ze],by simp[nGs],by simp[nGs,Ze]⟩⟩;obtain⟨X2,r2,e2,k2,h2,o2⟩:=ZD7 hs hr hn h6 t (j+1) _ X1 (by omega) (by omega) hm.1 hd1 hm.2;refine⟨X2,r2,(ZJ ?_).trans e2,k2,h2,o2⟩;rw[QJ];unfold Q0.l1;rw[Za Zs,Zb,if_pos (by simpa using hlt),Za x1,Za x2,Za Zg,Za Zi,Za hd.l2,Za e1,Za ZG,Je (by omega)];rfl
theorem ZFh {mem:Mem}:Zaz [] k mem=mem:=by
 funext g n
 unfold Zaz;simp
theorem ZDK {mem:Mem} {ps:List Tx}:Zgx g k (Zaz ps k mem)=Zaz (ps++[g]) k mem:=by
 funext g' n
 unfold Zgx Zaz;by_cases h1:g'∈ps<;>by_cases h2:g'=g<;>cases mem g' n<;>cases hn:n==k<;>simp[h1,h2,hn]
theorem ZDd (hnm:Zw u.nm=true) (hall:u.gs.all Zw=true) (hasc:Kh u.gs=true) (hl:u.gs.length<=6) (hfree:∀ g,s.mem g u.nm=false) (hK:s.K=gs) {z1 z2 z3:Value}:∀ (t j:Nat) (c:Nat) (X:Zd),u.gs.length - j=t->j<=u.gs.length->ND0 X d r { s with mem:=Zaz (u.gs.take j) u.nm s.mem } c->X[b]?=some (.cells u.cells 1 false false)->Sl X ugv (u.gs.map strv)->
  ∃ X',Zj (c8 (Q0.l3 (R (n+11)))) [pt d,pt b,z1,z2,z3,ugv,iv u.gs.length,iv j] X=some (if(u.gs.drop j).all (fun g=>decide (g∈gs)) then .ext 4 [pt d,pt b,z1,z2,z3] else .ret (.tuple #[.pointer none,iv 8]),X')/\Zo r.own X r.own X'/\((u.gs.drop j).all (fun g=>decide (g∈gs))=true->∃ c',ND0 X' d r { s with mem:=Zaz u.gs u.nm s.mem } c')
 | 0,j,c,X,ht,hj,hd,hb,hs=>by
  have hj:j=u.gs.length:=by omega
  subst hj;rw[List.take_length] at hd;rw[List.drop_length];refine⟨X,ZZ ?_,.refl _ _,fun _=>⟨c,hd⟩⟩;rw[K7];unfold Q0.l3;rw[Za Zs,Zb,if_neg (by simp)];rfl
 | t+1,j,c,X,ht,hj,hd,hb,hs=>by
  have hkl:j < u.gs.length:=by omega
  have hlt:(j:Int) < u.gs.length:=by omega
  have hg:=List.getElem?_eq_getElem hkl;have hdr:=List.drop_eq_getElem_cons hkl;have hsn:=take_snocT hg;generalize u.gs[j]=g at hg hdr hsn;have x1:=hs.ix (i:=j) (by simpa using hkl) .i64 X;have x2:=hs.ldx (Wr hg);have l0:ld1 (pa b 0) X=some (strv u.nm,X):=Zy hb rfl;obtain⟨X1,e1,g1,s1⟩:=ZAU (n:=n+3) (k:=g) (m:=u.nm) hd.gr;have e1:R (n+11) YT [pt r.g,strv g,strv u.nm] X=_:=e1;rw[hd.ks] at e1 g1;have hKs:({ s with mem:=Zaz (u.gs.take j) u.nm s.mem }:NSt).K=gs:=hK;rw[hKs] at e1 g1;have hgn:Zw g=true:=List.all_eq_true.1 hall g (List.mem_of_getElem? hg);have hgt:g∉u.gs.take j:=by
   have hp:=ZjO hasc;rw[<- List.take_append_drop j u.gs,List.pairwise_append,hdr] at hp;exact fun hm=>List.lt_irrefl g (hp.2.2 g hm g (by simp))
  have hmf:Zaz (u.gs.take j) u.nm s.mem g u.nm=false:=by
   unfold Zaz;rw[hfree];simp[hgt]
  have hfd:QP g [u.nm] gs=if g∈gs then 0 else 8:=by
   unfold QP;simp[hgn,hnm]
  rw[hdr,List.all_cons];by_cases hgm:g∈gs
  .rw[if_pos hgm] at hfd;have hE:Zav g u.nm gs (Zaz (u.gs.take j) u.nm s.mem)=0:=by
    unfold Zav;rw[hfd,if_pos rfl,hmf];rfl
   rw[hE] at e1;rw[show({ s with mem:=Zaz (u.gs.take j) u.nm s.mem }:NSt).mem=Zaz (u.gs.take j) u.nm s.mem from rfl,hE,if_pos rfl,ZDK,<- hsn] at g1;obtain⟨d1,t1⟩:=hd.setG g1 s1 hd.ks;have hc1:=hd.cle t1;rw[decide_eq_true hgm,Bool.true_and];have d1':ND0 X1 d r { s with mem:=Zaz (u.gs.take (j+1)) u.nm s.mem } (c+1):=d1;obtain⟨X2,e2,t2,h2⟩:=ZDd hnm hall hasc hl hfree hK t (j+1) (c+1) X1 (by omega) (by omega) d1' (hc1 _ _ _ _ _ hb) (hs.cle hc1);refine⟨X2,(ZJ ?_).trans e2,Zo.trans t1 t2,h2⟩;rw[K7];unfold Q0.l3;rw[Za Zs,Zb,if_pos (by simpa using hlt),Za x1,Za x2,Za Zg,Za Zi,Za hd.l2,Za Zi,Za l0,Za e1,Za Zl,Zb,if_neg (by simp),Za ZG,Je (by omega)];rfl
  .rw[if_neg hgm] at hfd;have hE:Zav g u.nm gs (Zaz (u.gs.take j) u.nm s.mem)=8:=by
    unfold Zav;rw[hfd,if_neg (by simp)]
   rw[hE] at e1;obtain⟨d1,t1⟩:=hd.setG g1 s1 hd.ks;rw[decide_eq_false hgm,Bool.false_and];refine⟨X1,Yu ?_,t1,fun h=>by cases h⟩;rw[K7];unfold Q0.l3;rw[Za Zs,Zb,if_pos (by simpa using hlt),Za x1,Za x2,Za Zg,Za Zi,Za hd.l2,Za Zi,Za l0,Za e1,Za Zl,Zb,if_pos (by simp)];rfl
where
 take_snocT {l:List Tx} {j:Nat} {h:j < l.length} (hg:l[j]?=some l[j]):l.take (j+1)=l.take j++[l[j]]:=by
  rw[List.take_add_one,hg];rfl
theorem ZwL:∀ {us:List Zv},(∀ v∈us,v.nm < u.nm)->putU u us=us++[u]
 | [],_=>by simp[putU,Zef,Zc5]
 | v :: us,h=>by
  rw[Zou,if_neg (fun hle=>(List.not_lt.2 hle) (h v (by simp))),ZwL fun w hw=>h w (by simp[hw])];rfl
theorem ZER (hO:ROK s prev) (hP:Y0 s) (hm:Yp m=true) (hf:QO m=m):prev.any (fun w=>m==w.ml)=(Ze m s.OW).isSome:=by
 have h1:=ZDJ hO hP hm;rw[hf] at h1;rw[<- h1,Option.isSome_map,List.isSome_find?]
 congr 1
 funext w
 exact BEq.comm
def addN (u:Zv) (s:NSt):NSt:={ A:=Qw u.nm (u.hs,u.ds) s.A,OW:=ZmH u.nm u.ml s.OW s.OF,OF:=ZdJ u.nm u.ml s.OW s.OF,K:=s.K,mem:=Zaz u.gs u.nm s.mem }
theorem Zp6 (h:ZeA m=true):m=[]\/(Yp m=true/\QO m=m):=by
 unfold ZeA at h;simpa using h
theorem Zjg (h:J2 u=0):Zw u.nm=true/\K9 u.hs=true/\ZeA u.ml=true/\u.gs.length<=6/\u.gs.all Zw=true/\Kh u.gs=true:=by
 unfold J2 at h;split at h
 .rename_i h1;split at h
  .rename_i h2;split at h
   .rename_i h3;unfold Zih at h;split at h
    .exact absurd h (by decide)
    .rename_i h6;split at h
     .rename_i h4;split at h
      .rename_i h5;exact⟨h1,h2,h3,by omega,h4,h5⟩
      .exact absurd h (by decide)
     .exact absurd h (by decide)
   .exact absurd h (by decide)
  .exact absurd h (by decide)
 .exact absurd h (by decide)
theorem ZH8 (hO:ROK s prev) (hP:Y0 s) (hu:J2 u=0) (hA:Ze u.nm s.A=none):Kj u.nm u.ml s.OW=if u.ml≠[]/\prev.any (fun w=>u.ml==w.ml)=true then 9 else 0:=by
 obtain⟨h1,_,h3,_,_,_⟩:=Zjg hu;unfold Kj;rw[h1,if_pos rfl];rcases Zp6 h3 with hm|⟨hm,hf⟩
 .rw[if_pos hm,if_neg (fun h=>h.1 hm)]
 .have hne:u.ml≠[]:=by have:=(ZlQ hm).1;rwa [hf] at this
  rw[if_neg hne,hm,if_pos rfl,hf,ZER hO hP hm hf];cases hw:Ze u.ml s.OW with
  | none=>simp
  | some w=>
   have hww:w≠u.nm:=fun e=>by
    subst e;have:=hP.i.ofA u.nm (by rw[(hP.x.inv u.nm u.ml).2 hw];rfl);rw[hA] at this;cases this
   simp[hww,hne]
theorem ZFs (hi:Yd s) (hu:J2 u=0) (hgs:∀ g∈u.gs,g∈s.K) (hk:s.K.Nodup) (hA:Ze u.nm s.A=none) (hfree:∀ g,s.mem g u.nm=false) (he:Kj u.nm u.ml s.OW=0) (x:Tx):Jn (addN u s) x=if x=u.nm then some (QT u) else Jn s x:=by
 obtain⟨h1,h2,h3,h4,h5,h6⟩:=Zjg hu;by_cases hx:x=u.nm
 .rw[if_pos hx,hx];unfold Jn;show(Ze u.nm (Qw u.nm (u.hs,u.ds) s.A)).map _=_
  rw[WL];show some (WQ _ u.nm (u.hs,u.ds))=_
  unfold WQ QT;show some (u.nm,u.hs,(Ze u.nm (ZdJ u.nm u.ml s.OW s.OF)).getD [],u.ds,ofL u.nm s.K (Zaz u.gs u.nm s.mem))=_
  rw[Zjk he,if_pos rfl];have hg:ofL u.nm s.K (Zaz u.gs u.nm s.mem)=u.gs:=by
   refine(ZpO hk).uniq ⟨ZjO h6,fun y=>Iff.rfl⟩ fun y=>?_;unfold Zaz;rw[hfree];simp
   exact hgs y
  rw[hg];rcases Zp6 h3 with hm|⟨hm,hf⟩
  .rw[if_pos hm,hm];rfl
  .have hne:u.ml≠[]:=by have:=(ZlQ hm).1;rwa [hf] at this
   rw[if_neg hne,hf];rfl
 .rw[if_neg hx];unfold Jn;show(Ze x (Qw u.nm (u.hs,u.ds) s.A)).map _=_
  rw[Kt hx];cases Ze x s.A with
  | none=>rfl
  | some p=>
   show some (WQ _ x p)=some (WQ s x p)
   unfold WQ;show some (x,p.1,(Ze x (ZdJ u.nm u.ml s.OW s.OF)).getD [],p.2,ofL x s.K (Zaz u.gs u.nm s.mem))=_
   rw[Zjk he,if_neg hx];have:ofL x s.K (Zaz u.gs u.nm s.mem)=ofL x s.K s.mem:=by
    unfold ofL Zaz;refine List.filter_congr fun g _=>?_;simp[hx]
   rw[this]
theorem Yd.add (hi:Yd s) (hu:J2 u=0) (hA:s.A.length < 12) (he:Kj u.nm u.ml s.OW=0):Yd (addN u s):=by
 obtain⟨h1,h2,h3,h4,h5,h6⟩:=Zjg hu;have p1:=hi.putA (k:=u.nm) (v:=(u.hs,u.ds)) h1 h2 (.inr hA);refine⟨p1.nm,p1.few,fun x hx=>?_,fun g x hx=>?_,fun x y hx=>?_⟩
 .have hx:(Ze x (ZdJ u.nm u.ml s.OW s.OF)).isSome=true:=hx;rw[Zjk he] at hx;by_cases e:x=u.nm
  .show(Ze x (Qw u.nm (u.hs,u.ds) s.A)).isSome=true
   rw[e,WL];rfl
  .rw[if_neg e] at hx;exact Zb6 (.inl (hi.ofA x hx))
 .have hx:Zaz u.gs u.nm s.mem g x=true:=hx;unfold Zaz at hx;rw[Bool.or_eq_true] at hx;rcases hx with hx|hx
  .exact Zb6 (.inl (hi.memA g x hx))
  .rw[Bool.and_eq_true,beq_iff_eq] at hx;exact Zb6 (.inr hx.2)
 .have hx:Ze x (ZdJ u.nm u.ml s.OW s.OF)=some y:=hx;rw[Zjk he] at hx;by_cases e:x=u.nm
  .rw[if_pos e] at hx;rcases Zp6 h3 with hm|⟨hm,hf⟩
   .rw[if_pos hm] at hx;cases hx
   .have hne:u.ml≠[]:=by have:=(ZlQ hm).1;rwa [hf] at this
    rw[if_neg hne,hf] at hx;cases hx;exact⟨hm,hf⟩
  .rw[if_neg e] at hx;exact hi.good x y hx
structure OfS (X0 X:Zd) (d:Nat) (r:NR) (s:NSt) (c:Nat) (gs:List Tx) (prev:List Zv):Prop where
 le:HLe X0 X
 nd:ND X d r s c
 own:∀ i∈r.own,X0.length<=i
 K:s.K=gs
 ok:ROK s prev
theorem ZD3 (hn:us.length<=12) (hA:KF X0 sl us) (h2:∀ u∈us,J2 u=0) (hris:Kh (us.map (·.nm))=true):∀ (t i:Nat) (s:NSt) (c:Nat) (X:Zd),us.length - i=t->i<=us.length->OfS X0 X d r s c gs (us.take i)->
  ∃ X' o,Zj (c4 (Q0.l2 (R (n+11)))) [pt d,sl,iv us.length,iv i] X=some (o,X')/\HLe X0 X'/\(if ZbI gs (us.take i) (us.drop i)=0 then o=.ext 2 [pt d]/\∃ s' c',OfS X0 X' d r s' c' gs us else o=.ret (.tuple #[.pointer none,iv (ZbI gs (us.take i) (us.drop i))]))
 | 0,i,s,c,X,ht,hi,hS=>by
  have hi:i=us.length:=by omega
  subst hi;rw[List.take_length] at hS;rw[List.drop_length,List.take_length];refine⟨X,.ext 2 [pt d],ZZ ?_,hS.le,?_⟩
  .rw[ZL];unfold Q0.l2;rw[Za Zs,Zb,if_neg (by simp)];rfl
  .rw[if_pos (show ZbI gs us []=0 from by unfold ZbI;rfl)];exact⟨rfl,s,c,hS⟩
 | t+1,i,s,c,X,ht,hi,hS=>by
  have hjl:i < us.length:=by omega
  have hlt:(i:Int) < us.length:=by omega
  have hg:=List.getElem?_eq_getElem hjl;have hdr:=List.drop_eq_getElem_cons hjl;generalize us[i]=u at hg hdr;have hum:=List.mem_of_getElem? hg;have hu:=h2 u hum;obtain⟨u1,u2,u3,u4,u5,u6⟩:=Zjg hu;have hP:=hS.nd.pinv;have hrp:∀ v∈us.take i,v.nm < u.nm:=fun v hv=>by
   have hp:=ZjO hris;rw[<- List.take_append_drop i us,hdr,List.map_append,List.pairwise_append] at hp;exact hp.2.2 v.nm (List.mem_map.2 ⟨v,hv,rfl⟩) u.nm (by simp)
  have hlen:=hS.ok.len hP.n;have hlt':(us.take i).length=i:=by rw[List.length_take];omega
  have hnone:Ze u.nm s.A=none:=by
   cases ha:Ze u.nm s.A with
   | none=>rfl
   | some p=>
    have h3:Jn s u.nm=some (WQ s u.nm p):=by unfold Jn;rw[ha];rfl
    obtain⟨v,hv,hk⟩:=Zch.1 ((hS.ok.look (WQ s u.nm p)).2 h3);have hvn:v.nm=u.nm:=congrArg (·.1) hk;have:=hrp v hv;rw[hvn] at this;exact absurd this (List.lt_irrefl _)
  have hfree:=hP.i.memN hnone;have hok:=(hA.mono hS.le).ok hum;have hf:=fun {K:Value->M Out}=>Zvl (k:=K) (hA.mono hS.le).1 hok.2.1 hg;have g1:(X++[Zf.cells u.cells 1 false false])[X.length]?=some (.cells u.cells 1 false false):=Zn;have k1:HLe X (X++[Zf.cells u.cells 1 false false]):=.app _ _;generalize X++[Zf.cells u.cells 1 false false]=X1 at g1 k1 hf;generalize X.length=b at g1 hf;have d1:=hS.nd.hle k1;have ok1:=hok.hle k1;have a0:∀ f x,u.cells[f]?=some x->ld1 (pa b f) X1=some (x,X1):=fun f x h=>Zy g1 h;obtain⟨X2,e2,m2,s2,_⟩:=d1.m.mup (k:=u.nm) (v:=(u.hs,u.ds));obtain⟨d2,t2⟩:=d1.toND0.setA m2 s2;have c2:=d1.toND0.cle t2;have g2:=c2 _ _ _ _ _ g1;have a4:ld1 (pa b 4) X2=some (u.gv,X2):=Zy g2 rfl;have hs2:=ok1.1.cle c2;have hul:ZB u.gv X2=some (iv u.gs.length,X2):=by have:=hs2.len (H':=X2);simpa using this
  have d2':ND0 X2 d r { ({ s with A:=Qw u.nm (u.hs,u.ds) s.A }:NSt) with mem:=Zaz (u.gs.take 0) u.nm s.mem } c:=by
   rw[List.take_zero,ZFh];exact d2
  obtain⟨X3,e3,t3,h3⟩:=ZDd (n:=n) (s:={ s with A:=Qw u.nm (u.hs,u.ds) s.A }) (gs:=gs) (z1:=sl) (z2:=iv us.length) (z3:=iv i) u1 u5 u6 u4 hfree hS.K u.gs.length 0 c X2 (by omega) (by omega) d2' g2 hs2;rw[show iv ((0:Nat):Int)=.int .i64 0 from rfl,List.drop_zero] at e3;rw[List.drop_zero] at h3;obtain⟨q1,q2⟩:=(hS.le.trans k1).more (t2.trans t3) hS.own;have hbody:∀ o Z,jn (Zj (c8 (Q0.l3 (R (n+11)))) [pt d,pt b,sl,iv us.length,iv i,u.gv,iv u.gs.length,(Value.int .i64 0)]) noN (xk 4 (c5 fun q45_0 q45_1 q45_2 q45_3 q45_4=>
    bind (Zx q45_0) fun v73x46=>bind (fa 1 v73x46) fun v74x47=>bind (ld1 v74x47) fun v75x48=>bind (fa 0 q45_1) fun v76x49=>bind (ld1 v76x49) fun v77x50=>bind (fa 2 q45_1) fun v78x51=>bind (ld1 v78x51) fun v79x52=>
    bind (R (n+11) KD [v75x48,v77x50,v79x52]) fun v80x53=>bind (bop .int .neq v80x53 (Value.int .i64 0)) fun v82x54=>
    cnd v82x54 (ret (.ret (Value.tuple #[(Value.pointer none),v80x53]))) (bind (bop .int .add q45_4 (Value.int .i64 1)) fun v84x55=>ret (.nrm [q45_0,q45_2,q45_3,v84x55]))) noX) ZM X2=some (o,Z)->c4 (Q0.l2 (R (n+11))) [pt d,sl,iv us.length,iv i] X=some (o,Z):=fun o Z h=>by
   rw[ZL];unfold Q0.l2;rw[Za Zs,Zb,if_pos (by simpa using hlt),hf,Za Zg,Za Zi,Za d1.l0,Za Zi,Za (a0 0 _ rfl),Za Zi,Za (a0 1 _ rfl),Za Zi,Za (a0 3 _ rfl),Za ZJS,Za e2,Za Zi,Za a4,Za hul];exact h
  rw[hdr];unfold ZbI Zgn;cases ha:u.gs.all fun g=>decide (g∈gs)
  .rw[ha] at e3;simp only[Bool.false_eq_true,if_false];exact⟨X3,_,Yu (hbody _ _ ((KG e3).trans rfl)),q1,rfl⟩
  .rw[ha] at e3;simp only[if_true];obtain⟨c3,d3⟩:=h3 ha;have c23:=d2.cle t3;have g3:=c23 _ _ _ _ _ g2;have l0:ld1 (pa b 0) X3=some (strv u.nm,X3):=Zy g3 rfl;have l2:ld1 (pa b 2) X3=some (strv u.ml,X3):=Zy g3 rfl;obtain⟨X4,e4,i4,s4⟩:=ZDC (n:=n+2) (k:=u.nm) (m:=u.ml) d3.ix;have e4:R (n+11) KD [pt r.x,strv u.nm,strv u.ml] X3=some (iv (Kj u.nm u.ml s.OW),X4):=e4;obtain⟨d4,t4⟩:=d3.setI i4 s4;obtain⟨q3,q4⟩:=q1.more t4 q2;have hE:=ZH8 hS.ok hP hu hnone;by_cases hp:u.ml≠[]/\(us.take i).any (fun w=>u.ml==w.ml)=true
   .rw[if_pos hp] at hE;simp only[if_pos hp];rw[hE] at e4;refine⟨X4,_,Yu (hbody (.ret (.tuple #[.pointer none,iv 9])) X4 ?_),q3,rfl⟩;rw[Qk e3,ZI,QJ,Za Zg,Za Zi,Za d3.l1,Za Zi,Za l0,Za Zi,Za l2,Za e4,Za Zl,Zb,if_pos (by simp)];rfl
   .rw[if_neg hp] at hE;simp only[if_neg hp,if_true];rw[hE] at e4;have hgs:∀ g∈u.gs,g∈s.K:=fun g hgm=>by
     rw[hS.K];simpa using List.all_eq_true.1 ha g hgm
    have hadd:=ZFs hP.i hu hgs hP.k.nod hnone hfree hE;have hd4:ND X4 d r (addN u s) c3:=⟨d4,hP.i.add hu (by omega) hE⟩;have hok4:ROK (addN u s) (us.take (i+1)):=by
     rw[Zwb hg,<- ZwL hrp];exact hS.ok.put (by rw[hadd,if_pos rfl]) (fun x hx=>by rw[hadd,if_neg hx])
    obtain⟨X5,o5,e5,k5,h5⟩:=ZD3 hn hA h2 hris t (i+1) (addN u s) c3 X4 (by omega) (by omega) ⟨q3,hd4,q4,hS.K,hok4⟩;rw[Zwb hg] at h5;refine⟨X5,o5,(ZJ (hbody _ X4 ?_)).trans e5,k5,h5⟩;rw[Qk e3,ZI,QJ,Za Zg,Za Zi,Za d3.l1,Za Zi,Za l0,Za Zi,Za l2,Za e4,Za Zl,Zb,if_neg (by simp),Za ZG,Je (by omega)];rfl
theorem ZEh (h:ZdO us gs=0):YD us=0/\Kh (us.map (·.nm))=true/\us.length<=12/\gs.all Zw=true/\Kh gs=true/\gs.length<=6:=by
 unfold ZdO Zmy at h;by_cases h1:YD us=0
 .simp only[if_pos h1] at h;cases h2:Kh (us.map (·.nm))
  .rw[h2] at h;simp at h
  .rw[h2] at h;by_cases h3:12 < us.length
   .simp[h3] at h
   .cases h4:gs.all Zw<;>cases h5:Kh gs<;>rw[h4,h5] at h<;>by_cases h6:6 < gs.length<;>simp[h3,h6] at h;exact⟨h1,rfl,by omega,rfl,rfl,by omega⟩
 .simp only[if_neg h1] at h;exact absurd h h1
theorem Zwi (hn:us.length<=1000) (hl:gs.length<=1000000) (hA:KF X sl us) (hs:Sl X gv (gs.map strv)):∃ X',HLe X X'/\(if Zcx us gs=0 then ∃ d r s c,R (n+12) ZcS [sl,gv] X=some (.tuple #[pt d,iv 0],X')/\OfS X X' d r s c gs us else R (n+12) ZcS [sl,gv] X=some (.tuple #[.pointer none,iv (Zcx us gs)],X')):=by
 obtain⟨X1,e1,k1⟩:=Zx0 (n:=n) hn hl hA hs;have f1:∀ r X',Q0 (R (n+11)) sl gv X=some (r,X')->R (n+12) ZcS [sl,gv] X=some (r,X'):=fun r X' hr=>by rw[R,Zz7 rfl];exact hr
 unfold Zcx;by_cases hc:ZdO us gs=0
 .obtain⟨c1,c2,c3,c4,c5,c6⟩:=ZEh hc;rw[hc] at e1;simp only[if_pos hc];have q1:bop .int .neq (iv 0) (.int .i64 0) X1=some (.bool false,X1):=by rw[Zl];rfl
  obtain⟨X2,d,r,e2,D2,l2,o1,o2⟩:=ZId (n:=n+9) (X:=X1);have e2:R (n+11) Zgw [] X1=_:=e2;have k2:=k1.trans l2;have hgn:ZB gv X2=some (iv gs.length,X2):=by have:=hs.len (H':=X2);simpa using this
  obtain⟨X3,r3,e3,k3,D3,o3⟩:=ZD7 (n:=n) (sl:=sl) hs c5 c4 c6 gs.length 0 r X2 (by omega) (by omega) k2 D2 (fun i hi=>Nat.le_trans k1.len (o2 i hi));rw[show iv ((0:Nat):Int)=.int .i64 0 from rfl] at e3;have hlen:ZB sl X3=some (iv us.length,X3):=by have:=hA.1.len (H':=X3);rwa [List.length_map] at this
  have hS:OfS X X3 d r3 (nGs gs) 0 gs (us.take 0):=⟨k3,D3,o3,rfl,⟨List.Pairwise.nil,fun key=>by simp[Jn,nGs,Ze]⟩⟩;obtain⟨X4,o,e4,k4,h4⟩:=ZD3 (n:=n) c3 hA (Zom c1) c2 us.length 0 (nGs gs) 0 X3 (by omega) (by omega) hS;rw[show iv ((0:Nat):Int)=.int .i64 0 from rfl] at e4;rw[List.take_zero,List.drop_zero] at h4;refine⟨X4,k4,?_⟩;by_cases hz:ZbI gs [] us=0
  .rw[if_pos hz] at h4 ⊢;obtain⟨rfl,s',c',hS'⟩:=h4;refine⟨d,r3,s',c',f1 _ _ ?_,hS'⟩;unfold Q0;rw[Za e1,Za q1,Zb,if_neg (by simp),Za e2,Za hgn,Qk e3,ZI,ZT,Za hlen,Qk e4,ZI];rfl
  .rw[if_neg hz] at h4 ⊢;subst h4;refine f1 _ _ ?_;unfold Q0;rw[Za e1,Za q1,Zb,if_neg (by simp),Za e2,Za hgn,Qk e3,ZI,ZT,Za hlen,KG e4];rfl
 .simp only[if_neg hc];have q1:bop .int .neq (iv (ZdO us gs)) (.int .i64 0) X1=some (.bool true,X1):=by rw[Zl];simp[hc]
  refine⟨X1,k1,f1 _ _ ?_⟩;unfold Q0;rw[Za e1,Za q1,Zb,if_pos rfl];rfl
theorem ZFw {us ws:List Zv} (h:us.map QT=ws.map QT):Zcx us gs=Zcx ws gs:=by
 have hrest:∀ (l l' p p':List Zv),l.map QT=l'.map QT->p.map QT=p'.map QT->ZbI gs p l=ZbI gs p' l':=by
  intro l
  induction l with
  | nil=>
   intro l' p p' hl hp;cases l' with
   | nil=>unfold ZbI;rfl
   | cons a b=>simp at hl
  | cons u l ih=>
   intro l' p p' hl hp;cases l' with
   | nil=>simp at hl
   | cons w l'=>
    rw[List.map_cons,List.map_cons,List.cons.injEq] at hl;have hg:u.gs=w.gs:=congrArg (·.2.2.2.2) hl.1;have hm:u.ml=w.ml:=congrArg (·.2.2.1) hl.1;have hany:p.any (fun v=>u.ml==v.ml)=p'.any (fun v=>w.ml==v.ml):=by
     have h1:∀ (p:List Zv) (m:Tx),p.any (fun v=>m==v.ml)=(p.map QT).any (fun v=>m==v.2.2.1):=fun p m=>by
      rw[List.any_map];rfl
     rw[h1,h1,hp,hm]
    have hpe:Zgn gs p u=Zgn gs p' w:=by
     unfold Zgn;rw[hg,hm];rw[hm] at hany;rw[hany]
    unfold ZbI;rw[hpe,ih l' (p++[u]) (p'++[w]) hl.2 (by rw[List.map_append,List.map_append,hp,List.map_singleton,List.map_singleton,hl.1])]
 have hfirst:∀ (l l':List Zv),l.map QT=l'.map QT->YD l=YD l':=by
  intro l
  induction l with
  | nil=>
   intro l' hl;cases l' with
   | nil=>rfl
   | cons a b=>simp at hl
  | cons u l ih=>
   intro l' hl;cases l' with
   | nil=>simp at hl
   | cons w l'=>
    rw[List.map_cons,List.map_cons,List.cons.injEq] at hl;have he:J2 u=J2 w:=by
     have h1:u.nm=w.nm:=congrArg (·.1) hl.1;have h2:u.hs=w.hs:=congrArg (·.2.1) hl.1;have h3:u.ml=w.ml:=congrArg (·.2.2.1) hl.1;have h4:u.gs=w.gs:=congrArg (·.2.2.2.2) hl.1;unfold J2;rw[h1,h2,h3,h4]
    unfold YD;rw[he,ih l' hl.2]
 have hnm:us.map (·.nm)=ws.map (·.nm):=by
  have h1:=congrArg (List.map (·.1)) h;rw[List.map_map,List.map_map] at h1;exact h1
 have hlen:us.length=ws.length:=by
  have h1:=congrArg List.length h
  rwa [List.length_map,List.length_map] at h1
 unfold Zcx ZdO Zmy;rw[hfirst us ws h,hnm,hlen,hrest us ws [] [] h rfl]
end
def Y5 (e:Ent):Nat:=if Zw e.1 then(if K9 e.2 then 0 else 4) else 10
def WN (e:Ent):Zv:=⟨e.1,e.2,[],false,.slice none 0 0,[]⟩
def Zn8 (e:Ent):List UInt8:=txt e.1++txt e.2
def ZbH (m:List Ent):List UInt8:=(m.map Zn8).flatten
def Zii (m:List Ent):List UInt8:=le 1 1++(le m.length 2++ZbH m)
theorem Zqb (e:Ent) (H:Zd):(WN e).ok H:=.inl ⟨rfl,.inl rfl⟩
theorem ZhJ (e:Ent):ZgY (WN e)=Y5 e:=by
 unfold ZgY Y5;have:Zpm (WN e)=true:=rfl;rw[this];show(if Zw e.1=true then if K9 e.2=true then _ else _ else _)=_
 split
 .split<;>rfl
 .rfl
theorem Zls {k:List UInt8} (h:K9 k=true):k.length<=12:=by
 unfold K9 at h;simp only[Bool.and_eq_true,decide_eq_true_eq] at h;exact h.1.2
theorem ZhS {e:Ent}:Y5 e=0↔Zw e.1=true/\K9 e.2=true:=by
 unfold Y5;cases Zw e.1<;>cases K9 e.2<;>simp
theorem Zcz {s:List UInt8}:(txt s).length=s.length+2:=by unfold txt;rw[List.length_append,KS];omega
theorem ZrY {e:Ent} (h:Y5 e=0):(Zn8 e).length<=28:=by
 have h1:=Ky (ZhS.1 h).1;have h2:=Zls (ZhS.1 h).2;unfold Zn8;rw[List.length_append,Zcz,Zcz];omega
section
variable {H X:Zd} {n p d b:Nat} {sl x v:Value} {own q:List Nat} {bs:List UInt8} {m:List Ent} {e:Ent}
theorem ZIs (he:Y5 e=0) (hb:bs.length<=100000000) (h:Wtr H p bs own):∃ H' own',R (n+7) Zfv [pt p,iv 1,.agg (usr e).toArray] H=some (.bool true,H')/\Wtr H' p (bs++Zn8 e) own'/\Zo (p :: own) H (p :: own') H':=by
 have h1:=Ky (ZhS.1 he).1;have h2:=Zls (ZhS.1 he).2;have e1:alc 1 (.agg (usr e).toArray) H=some (pt H.length,H++[.cells (usr e) 1 false false]):=ZGw (Zqb e H);have k1:HLe H (H++[.cells (usr e) 1 false false]):=.app _ _;have c1:(H++[Zf.cells (usr e) 1 false false])[H.length]?=some (.cells (usr e) 1 false false):=Zn;have hne:H.length∉p :: own:=fun hm=>Nat.lt_irrefl _ (h.lt _ hm);generalize H++[Zf.cells (usr e) 1 false false]=X1 at e1 k1 c1;generalize H.length=w at e1 c1 hne;have d1:ldA 5 (pt w) X1=some (.agg (usr e).toArray,X1):=Z8 (n:=5) c1 rfl;obtain⟨X2,e2,k2⟩:=Zlc (n:=n) (Zqb e X1);rw[ZhJ,he] at e2;have e2:R (n+6) Yz [iv 1,.agg (usr e).toArray] X1=some (iv 0,X2):=e2;have c2:=k2 _ _ c1;have q1:bop .int .neq (iv 0) (.int .i64 0) X2=some (.bool false,X2):=by rw[Zl];rfl
 have a0:ld1 (pa w 0) X2=some (strv e.1,X2):=Zy c2 rfl;have a1:ld1 (pa w 1) X2=some (strv e.2,X2):=Zy c2 rfl;have w2:=(h.hle k1).hle k2;obtain⟨X3,q3,e3,w3,s3⟩:=Zfq (n:=n+3) (s:=e.1) (by omega) (by omega) w2;have e3:R (n+6) Qz [pt p,strv e.1] X2=_:=e3;have b1:ld1 (pa w 1) X3=some (strv e.2,X3):=Zy (s3.get c2 hne) rfl;obtain⟨X4,q4,e4,w4,s4⟩:=Zfq (n:=n+3) (s:=e.2) (by omega) (by rw[List.length_append,Zcz];omega) w3;have e4:R (n+6) Qz [pt p,strv e.2] X3=_:=e4;have q2:bop .int .eql (iv 1) (.int .i64 2) X4=some (.bool false,X4):=by rw[ZA];rfl
 rw[List.append_assoc] at w4;refine⟨X4,q4,?_,w4,((k1.trans k2).step.more (by simp) (fun j hj=>.inl hj)).trans (s3.trans s4)⟩;rw[R,ZrH rfl];unfold ZkU;rw[Za e1,Za d1,Za e2,Za q1,Zb,if_neg (by simp),Za Zi,Za a0,Za Zi,Za a1,Za e3,Za b1,Ql,Za e4,Za q2];refine(ZC (vs:=[]) (H':=X4) ?_).trans ?_
 .rw[Zb,if_neg (by simp)];rfl
 .rfl
theorem JQ.users (hr:JQ 5 H v (m.map usr) q):Users H v (m.map WN):=
 ⟨by have h:=hr.rd;rw[List.map_map];exact h,fun u hu=>by obtain⟨e,_,rfl⟩:=List.mem_map.1 hu;exact Zqb e H⟩
theorem ZDA (hA:m.length<=1000) (hE:∀ e∈m,Y5 e=0):∀ (t k:Nat) (bs:List UInt8) (own:List Nat) (X:Zd),m.length - k=t->k<=m.length->JQ 5 X v (m.map usr) q->(∀ j∈q,j∉p :: own)->bs.length+t * 28<=100000->Wtr X p bs own->
  ∃ X' own',Zj (c4 (Zaf.l1 (R (n+7)))) [pt p,v,iv m.length,iv k] X=some (.ext 0 [pt p],X')/\Wtr X' p (bs++ZbH (m.drop k)) own'/\Zo (p :: own) X (p :: own') X'
 | 0,k,bs,own,X,ht,hk,hr,hd,hb,h=>by
  have:k=m.length:=by omega
  subst this;rw[List.drop_length];refine⟨X,own,ZZ ?_,by simpa[ZbH] using h,.refl _ _⟩;rw[ZL];unfold Zaf.l1;rw[Za Zs,Zb,if_neg (by simp)];rfl
 | t+1,k,bs,own,X,ht,hk,hr,hd,hb,h=>by
  have hkl:k < m.length:=by omega
  have hlt:(k:Int) < m.length:=by omega
  have hg:=List.getElem?_eq_getElem hkl;have hdr:=List.drop_eq_getElem_cons hkl;generalize m[k]=e at hg hdr;have he:=hE e (List.mem_of_getElem? hg);have hrow:(m.map WN)[k]?=some (WN e):=by rw[List.getElem?_map,hg];rfl
  have hf:=fun {K:Value->M Out}=>(hr.users).fetch (k:=K) hrow;have k1:HLe X (X++[Zf.cells (usr e) 1 false false]):=.app _ _;have c1:(X++[Zf.cells (usr e) 1 false false])[X.length]?=some (.cells (usr e) 1 false false):=Zn;change ∀ {K:Value->M Out},_=K _ (X++[Zf.cells (usr e) 1 false false]) at hf
  generalize X++[Zf.cells (usr e) 1 false false]=X1 at k1 c1 hf;have d1:ldA 5 (pt X.length) X1=some (.agg (usr e).toArray,X1):=Z8 (n:=5) c1 rfl;obtain⟨X2,own2,e2,w2,s2⟩:=ZIs (n:=n) he (by omega) (h.hle k1);have hel:=ZrY he;have s12:=(k1.step.more (o2:=p :: own) (o2':=p :: own) (by simp) (fun j hj=>.inl hj)).trans s2;have hr2:=hr.step s12 hd;have hd2:∀ j∈q,j∉p :: own2:=fun j hj hm=>by
   rcases s12.own j hm with h1|h1
   .exact hd j hj h1
   .have:=hr.lt j hj;omega
  obtain⟨X3,own3,e3,w3,s3⟩:=ZDA hA hE t (k+1) (bs++Zn8 e) own2 X2 (by omega) (by omega) hr2 hd2 (by rw[List.length_append];omega) w2;refine⟨X3,own3,(ZJ ?_).trans e3,?_,s12.trans s3⟩
  .rw[ZL];unfold Zaf.l1;rw[Za Zs,Zb,if_pos (by simpa using hlt)];rw[hf,Za d1,Za e2,Za ZG,Je (by omega)];rfl
  .rw[hdr];unfold ZbH at w3 ⊢;rw[List.map_cons,List.flatten_cons,<- List.append_assoc];exact w3
theorem ZAE (h:Dir H d b m) (hE:∀ e∈Q3 m,Y5 e=0) (hl:(Q3 m).length=m.length):∃ v H',R (n+8) ZeP [pt d] H=some (v,H')/\Sl H' v (u8s (Zii (Q3 m)))/\HLe H H':=by
 have q0:bop .ptr .eql (pt d) (.pointer none) H=some (.bool false,H):=Jc;obtain⟨z1,z2,w0⟩:=ZvJ (H:=H);have k0:HLe H (H++[Zf.cells [.slice none 0 0] 1 false false]):=.app _ _;have hp0:H.length<=H.length:=Nat.le_refl _;generalize H++[Zf.cells [.slice none 0 0] 1 false false]=X0 at z2 w0 k0;generalize hpp:H.length=p at z2 w0;have hp:∀ j∈[p],H.length<=j:=fun j hj=>by have:j=p:=(by simpa using hj);omega
 have hfew:=h.few;obtain⟨X1,q1,e1,w1,s1⟩:=Zjc (n:=n+5) (x:=1) (by omega) (by simp) w0;have e1:R (n+7) Qi [pt p,.int .u8 1] X0=_:=e1;have m1:=k0.more s1 hp;have e2:=ZJM (n:=n+6) (h.hle m1.1);have e2:R (n+7) Zc6 [pt d] X1=some (iv m.length,X1):=e2;have c2:cvi .u16 (iv m.length) X1=some (.int .u16 m.length,X1):=by rw[Qx,Zys,Int.emod_eq_of_lt (by omega) (by omega)]
 obtain⟨X2,q2,e3,w2,s2⟩:=Zul (n:=n+5) (x:=m.length) (by omega) (by simp[le]) w1;have e3:R (n+7) Yj [pt p,.int .u16 m.length] X1=_:=e3;have m2:=m1.1.more s2 m1.2;obtain⟨av,qa,X3,e4,r4,l4,o4⟩:=ZzW (n:=n+4) (h.hle m2.1);have e4:R (n+7) ZaA [pt d] X2=_:=e4;have w3:=w2.hle l4;have hlen:=r4.rd.len (H':=X3);rw[List.length_map] at hlen;have hlb:([]++le 1 1++le m.length 2:List UInt8).length=3:=by simp[le]
 obtain⟨X4,q4,e5,w4,s4⟩:=ZDA (n:=n) (m:=Q3 m) (by omega) hE (Q3 m).length 0 ([]++le 1 1++le m.length 2) q2 X3 (by omega) (by omega) r4 (fun j hj hm=>by have:=o4 j hj;have:=w2.lt j hm;omega) (by rw[hlb];omega) w3;have e5:Zj (c4 (Zaf.l1 (R (n+7)))) [pt p,av,iv (Q3 m).length,.int .i64 0] X3=_:=e5;rw[List.drop_zero] at w4;have hbl:([]++le 1 1++le m.length 2++ZbH (Q3 m):List UInt8).length<=1000000000:=by
  have:∀ (l:List Ent),(∀ e∈l,Y5 e=0)->(ZbH l).length<=l.length * 28:=by
   intro l
   induction l with
   | nil=>intro _;exact Nat.zero_le _
   | cons a l ih=>
    intro hh;have h1:=ZrY (hh a (by simp));have h2:=ih fun e he=>hh e (by simp[he]);unfold ZbH at h2 ⊢;rw[List.map_cons,List.flatten_cons,List.length_append,List.length_cons];omega
  have:=this _ hE;rw[List.length_append,hlb];omega
 have m4:=(m2.1.trans l4).more s4 m2.2;obtain⟨v,qv,X5,e6,r6,l6,o6⟩:=ZrR (n:=n+5) hbl w4;have e6:R (n+7) J7 [pt p] X4=_:=e6;refine⟨v,X5,?_,?_,m4.1.trans l6⟩
 .rw[R,ZwT rfl];unfold Zaf;rw[Za q0,Zb,if_neg (by simp),Za z1,Za z2,Za e1,Za e2,Za c2,Za e3,Za e4,Za hlen,Qk e5,ZI,Yi,Za e6];rfl
 .have:=r6.rd;unfold Zii;rw[hl];simpa[List.append_assoc] using this
end
def Zvr (u:Ent) (r:RSt):Ent × RSt:=
 let r':=if r.1=0 then WB (Y5 u) r else r
 (if r'.1=0 then u else([],[]),r')
def Zep (s:RSt):Ent × RSt:=Zvr ((Yo 65535 s).1,(Yo 65535 (Yo 65535 s).2).1) (Yo 65535 (Yo 65535 s).2).2
def Zdx:Nat->RSt->List Ent × RSt
 | 0,s=>([],s)
 | k+1,s=>((Zep s).1 :: (Zdx k (Zep s).2).1,(Zdx k (Zep s).2).2)
def ofN (l:List Ent):Nat:=(ofE (l.map WN)).toNat
def Zgy (bs:List UInt8):Nat × List Ent:=
 let b:=Jl 1 (0,bs)
 if b.2.1=0/\b.1≠1 then(6,[]) else
 let c:=Jl 2 b.2
 let q:=if c.1 > 12 then([],WB 7 c.2) else Zdx c.1 c.2
 if q.2.1≠0 then(q.2.1,[]) else
 let e:=if ofN q.1=0 then Zdt q.2 else ofN q.1
 if e≠0 then(e,[]) else(0,q.1)
theorem ZGS (e:Ent):Y5 e<=10:=by
 unfold Y5;split
 .split<;>omega
 .omega
theorem ZvY:∀ {l:List Ent},0<=Zb5 (l.map WN)
 | []=>Int.le_refl _
 | e :: l=>by
  rw[List.map_cons];unfold Zb5;split
  .exact ZvY
  .rw[ZhJ];omega
theorem ZI3 {l:List Ent}:0<=ofE (l.map WN):=by
 unfold ofE;have:=ZvY (l:=l);split
 .split
  .split<;>decide
  .decide
 .exact this
theorem ZlG (k:Nat):((k:Int)==0)=(k==0):=by rw[Bool.eq_iff_iff];simp
theorem ZjV (k:Nat):((k:Int) !=0)=(k !=0):=by rw[Bool.eq_iff_iff];simp
theorem ZGv (l:List Ent):ofE (l.map WN)=ofN l:=(Int.toNat_of_nonneg ZI3).symm
section
variable {H X:Zd} {n p d b:Nat} {sl x v:Value} {own q:List Nat} {bs:List UInt8} {m:List Ent} {e:Ent} {s:RSt}
theorem ZJQ (h:Rdr H p s):∃ H',R (n+7) ZbV [pt p,iv 1] H=some (.agg (usr (Zep s).1).toArray,H')/\Rdr H' p (Zep s).2/\Zo [p] H [p] H':=by
 have z0:alc 1 (.agg #[.string ⟨#[]⟩,.string ⟨#[]⟩,.string ⟨#[]⟩,.bool false,.slice none 0 0]) H=some (pt H.length,H++[.cells (usr ([],[])) 1 false false]):=Zeh (vs:=usr ([],[])) rfl;have k0:HLe H (H++[.cells (usr ([],[])) 1 false false]):=.app _ _;have c0:(H++[Zf.cells (usr ([],[])) 1 false false])[H.length]?=some (.cells (usr ([],[])) 1 false false):=Zn;have hlt:=h.lt;have hn0:H.length≠p:=by omega
 generalize H++[Zf.cells (usr ([],[])) 1 false false]=X0 at z0 k0 c0;have hlt4:p < H.length:=hlt;generalize hal:H.length=a at z0 c0 hn0 hlt4;have q1:bop .int .neq (iv 1) (.int .i64 1) X0=some (.bool false,X0):=by rw[Zl];rfl
 obtain⟨X1,e1,r1,s1⟩:=Zlz (n:=n) (most:=65535) (by omega) (h.hle k0);have e1:R (n+6) Ja [pt p,.int .i64 65535] X0=_:=e1;obtain⟨X2,e2,r2,s2⟩:=Zlz (n:=n) (most:=65535) (by omega) r1;have e2:R (n+6) Ja [pt p,.int .i64 65535] X1=_:=e2;have c2:=(s1.trans s2).get c0 (by simpa using hn0);unfold Zep;generalize(Yo 65535 (Yo 65535 s).2).2=r at r2 e2;generalize(Yo 65535 (Yo 65535 s).2).1=hs at e2;generalize(Yo 65535 s).1=nm at e1;have z3:=Zp1 (k:=nm) (s:=hs) (H:=X2);generalize hu:((nm,hs):Ent)=u at z3;have z4:alc 1 (.agg #[.string ⟨#[]⟩,.string ⟨#[]⟩,.string ⟨#[]⟩,.bool false,.slice none 0 0]) X2=some (pt X2.length,X2++[.cells (usr ([],[])) 1 false false]):=Zeh (vs:=usr ([],[])) rfl;have k3:HLe X2 (X2++[.cells (usr u) 1 false false]):=.app _ _;have c3:(X2++[Zf.cells (usr u) 1 false false])[X2.length]?=some (.cells (usr u) 1 false false):=Zn;have w3:stA 5 (pt X2.length) (.agg (usr u).toArray) (X2++[.cells (usr ([],[])) 1 false false])=some (undef,X2++[.cells (usr u) 1 false false]):=by
  have:=ZbD (vs:=usr u) (n:=5) (H:=X2++[Zf.cells (usr ([],[])) 1 false false]) (id:=X2.length) (cs:=usr ([],[])) (es:=1) (g:=false) Zn rfl rfl rfl;rw[this];simp
 have hn3:X2.length≠p:=by have:=r2.lt;omega
 generalize X2++[Zf.cells (usr u) 1 false false]=X3 at k3 c3 w3;generalize X2.length=c at z4 c3 w3 hn3;have r3:=r2.hle k3;have c03:=k3 _ _ c2;have q2:bop .int .eql (iv 1) (.int .i64 2) X3=some (.bool false,X3):=by rw[ZA];rfl
 have s03:Zo [p] H [p] X3:=((k0.step.more (o2:=[p]) (o2':=[p]) (by simp) (fun j hj=>.inl hj)).trans (s1.trans s2)).trans (k3.step.more (by simp) (fun j hj=>.inl hj));have f1:∀ v H',ZfB (R (n+6)) (pt p) (iv 1) H=some (v,H')->R (n+7) ZbV [pt p,iv 1] H=some (v,H'):=fun v H' hr=>by rw[R,ZkW rfl];exact hr
 have e4:=Zkv (n:=n+5) r3;have e4:R (n+6) Z7 [pt p] X3=some (iv r.1,X3):=e4;have hC:∃ X4,(cnd (Value.bool (r.1==0)) (bind (ldA 5 (pt c)) fun v36=>bind (R (n+6) Yz [iv 1,v36]) fun v37=>bind (R (n+6) ZO [pt p,v37]) fun v38=>ret (Out.nrm [pt p,pt a,pt c])) (ret (Out.nrm [pt p,pt a,pt c]))) X3=some (Out.nrm [pt p,pt a,pt c],X4)/\Rdr X4 p (if r.1=0 then WB (Y5 u) r else r)/\Zo [p] X3 [p] X4:=by
  by_cases h0:r.1=0
  .have d3:ldA 5 (pt c) X3=some (.agg (usr u).toArray,X3):=Z8 (n:=5) c3 rfl;obtain⟨X4,e5,k5⟩:=Zlc (n:=n) (Zqb u X3);rw[ZhJ] at e5;have e5:R (n+6) Yz [iv 1,.agg (usr u).toArray] X3=some (iv (Y5 u),X4):=e5;obtain⟨X5,e6,r6,s6⟩:=Zjp (n:=n+5) (e:=Y5 u) (by have:=ZGS u;omega) (r3.hle k5);have e6:R (n+6) ZO [pt p,iv (Y5 u)] X4=_:=e6;rw[if_pos h0];refine⟨X5,?_,r6,(k5.step.more (by simp) (fun j hj=>.inl hj)).trans s6⟩;rw[Zb,if_pos (by simp[h0]),Za d3,Za e5,Za e6];rfl
  .rw[if_neg h0];refine⟨X3,?_,r3,.refl _ _⟩;rw[Zb,if_neg (by simp[h0])];rfl
 obtain⟨X4,e5,r4,s4⟩:=hC;have e6:=Zkv (n:=n+5) r4;have e6:R (n+6) Z7 [pt p] X4=_:=e6;have c34:=s4.get c3 (by simpa using hn3);have c04:=s4.get c03 (by simpa using hn0);have d4:ldA 5 (pt c) X4=some (.agg (usr u).toArray,X4):=Z8 (n:=5) c34 rfl;have q3:bop .int .eql (iv r.1) (.int .i64 0) X3=some (.bool (r.1==0),X3):=by
  rw[ZA,ZlG]
 generalize hr':(if r.1=0 then WB (Y5 u) r else r)=r' at r4 e6;have hw:∀ u':Ent,stA 5 (pt a) (.agg (usr u').toArray) X4=some (undef,X4.set a (.cells (usr u') 1 false false)):=fun u'=>ZbD (vs:=usr u') (n:=5) c04 rfl rfl rfl;have hd:∀ u':Ent,ldA 5 (pt a) (X4.set a (.cells (usr u') 1 false false))=some (.agg (usr u').toArray,X4.set a (.cells (usr u') 1 false false)):=fun u'=>Z8 (n:=5) (ZW c04) rfl;have s4p:Zo [p] H [p] X4:=s03.trans s4;have hT:∀ u':Ent,Zo [p] H [p] (X4.set a (.cells (usr u') 1 false false)):=fun u'=>⟨by rw[List.length_set];exact s4p.len,fun j hj hm=>by rw[List.getElem?_set_ne (by omega),s4p.keep j hj hm],fun j hj=>.inl hj⟩;have hF:∀ (u':Ent),(Zvr u r).1=u'->(cnd (Value.bool (r'.1 !=0)) (bind (bld (.agg #[.string ⟨#[]⟩,.string ⟨#[]⟩,.string ⟨#[]⟩,.bool false,.slice none 0 0]) []) fun v42=>bind (stA 5 (pt a) v42) fun _=>bind (ldA 5 (pt a)) fun vr=>ret vr) (bind (ldA 5 (pt c)) fun v43=>bind (stA 5 (pt a) v43) fun _=>bind (ldA 5 (pt a)) fun vr=>ret vr)) X4=some (.agg (usr u').toArray,X4.set a (.cells (usr u') 1 false false)):=fun u' h'=>by
  unfold Zvr at h';rw[hr'] at h';have h':(if r'.1=0 then u else([],[]))=u':=h';have zb:bld (.agg #[.string ⟨#[]⟩,.string ⟨#[]⟩,.string ⟨#[]⟩,.bool false,.slice none 0 0]) [] X4=some (.agg (usr ([],[])).toArray,X4):=rfl;by_cases h0:r'.1=0
  .rw[if_pos h0] at h';subst h';rw[Zb,if_neg (by simp[h0]),Za d4,Za (hw u),Za (hd u)];rfl
  .rw[if_neg h0] at h';subst h';rw[Zb,if_pos (by simp[h0]),Za zb,Za (hw ([],[])),Za (hd ([],[]))];rfl
 have hr2:(Zvr u r).2=r':=hr';have q4:bop .int .neq (iv r'.1) (.int .i64 0) X4=some (.bool (r'.1 !=0),X4):=by
  rw[Zl,ZjV]
 refine⟨X4.set a (.cells (usr (Zvr u r).1) 1 false false),f1 _ _ ?_,by rw[hr2];exact r4.other hlt4,hT _⟩;unfold ZfB;rw[Za z0,Za q1,Za (g_r.trans (if_neg (by simp)))];simp only[List.replicate];rw[ZT,Za Zk];simp only[cond_false];rw[Zb,if_neg (by simp),Za e1,Za e2,Za z3,Za z4,Za w3,Za q2];refine(ZC (vs:=[pt p,iv 1,pt a,pt c]) (H':=X3) ?_).trans ?_
 .rw[Zb,if_neg (by simp)];rfl
 .rw[ZL,Za e4,Za q3];refine(ZC e5).trans ?_;rw[ZY,Za e6,Za q4];exact hF _ rfl
theorem Rdr.step {o1 o2:List Nat} (h:Rdr H p s) (hs:Zo o1 H o2 X) (hn:∀ j∈o1,p < j):Rdr X p s:=by
 obtain⟨sl,h1,h2,h3,h4⟩:=h;refine⟨sl,hs.get h1 fun hm=>Nat.lt_irrefl _ (hn _ hm),h2.keep fun j hj=>hs.keep j ?_ fun hm=>?_,h3,h4⟩
 .have:=h3 j hj;have:=ZX h1;omega
 .have:=h3 j hj;have:=hn j hm;omega
theorem ZBm {N:Nat} (hN:N<=1000):∀ (t k:Nat) (l:List Ent) (s:RSt) (sl:Value) (q:List Nat) (X:Zd),N - k=t->k<=N->l.length<=k->JQ 5 X sl (l.map usr) q->(∀ j∈q,p < j)->Rdr X p s->
  ∃ X' sl' q',Zj (c4 (Wx.l1 (R (n+7)))) [pt p,sl,iv N,iv k] X=some (.ext 0 [pt p,sl'],X')/\JQ 5 X' sl' ((l++(Zdx t s).1).map usr) q'/\Rdr X' p (Zdx t s).2/\(∀ j∈q',p < j)/\Zo (p :: q) X (p :: q') X'
 | 0,k,l,s,sl,q,X,ht,hk,hl,hr,hq,h=>by
  have:k=N:=by omega
  subst this;refine⟨X,sl,q,ZZ ?_,by simpa[Zdx] using hr,h,hq,.refl _ _⟩;rw[ZL];unfold Wx.l1;rw[Za Zs,Zb,if_neg (by simp)];rfl
 | t+1,k,l,s,sl,q,X,ht,hk,hl,hr,hq,h=>by
  have hlt:(k:Int) < N:=by omega
  obtain⟨X1,e1,r1,s1⟩:=ZJQ (n:=n) h;have hr1:=hr.step s1 (fun j hj hm=>by have:j=p:=(by simpa using hm);have:=hq j hj;omega);have hpx:=r1.lt;have x4:=ZxB (es:=5) (z:=.agg #[.string ⟨#[]⟩,.string ⟨#[]⟩,.string ⟨#[]⟩,.bool false,.slice none 0 0]) (H:=X1) rfl (Zjh (Zep s).1) (ZBc _);have l1:HLe X1 (X1++[Zf.cells (usr (Zep s).1) 5 false false]):=.app _ _;have s4:SlN 5 (X1++[Zf.cells (usr (Zep s).1) 5 false false]) (.slice (some ⟨X1.length,0,none⟩) 1 1) [usr (Zep s).1]:=SlN.whole (rows:=[usr (Zep s).1]) (c:=1) (e:=5) (g:=false) (ro:=false) (by rw[Zn];simp) (by simp[Zjh]);generalize X1++[Zf.cells (usr (Zep s).1) 5 false false]=X2 at x4 l1 s4;have hr2:JQ 5 X2 sl (l.map usr) q:=hr1.keep fun j hj=>l1.step.keep j (hr1.lt j hj) (by simp);obtain⟨sl',X3,q',x5,hr3,s3⟩:=hr2.push (b:=80) s4 (Zjh _) (by simp;omega) (by simp;omega);rw[<- List.map_singleton (f:=usr),<- List.map_append] at hr3;have hq3:∀ j∈q',p < j:=fun j hj=>by
   rcases s3.own j hj with h1|h1
   .exact hq j h1
   .have:=l1.len;omega
  have r3:=(r1.hle l1).step s3 hq;obtain⟨X4,sl4,q4,e4,hr4,r4,hq4,s5⟩:=ZBm hN t (k+1) (l++[(Zep s).1]) (Zep s).2 sl' q' X3 (by omega) (by omega) (by rw[List.length_append,List.length_singleton];omega) hr3 hq3 r3;have s13:Zo (p :: q) X (p :: q') X3:=(s1.more (o2:=p :: q) (o2':=p :: q) (by simp) (fun j hj=>.inl hj)).trans ((l1.step.more (o2:=p :: q) (o2':=p :: q) (by simp) (fun j hj=>.inl hj)).trans (s3.more (o2:=p :: q) (o2':=p :: q') (by simp+contextual) (fun j hj=>by
   rcases List.mem_cons.1 hj with rfl|hj
   .exact .inl (by simp)
   .exact .inr (.inl hj))))
  refine⟨X4,sl4,q4,(ZJ ?_).trans e4,?_,r4,hq4,s13.trans s5⟩
  .rw[ZL];unfold Wx.l1;rw[Za Zs,Zb,if_pos (by simpa using hlt),Za e1,Za x4,Za x5,Za ZG,Je (by omega)];rfl
  .rw[List.append_assoc] at hr4;exact hr4
theorem ZJy {l:List Ent} (h:ofN l=0):(∀ e∈l,Y5 e=0)/\l.length<=12:=by
 have h:ofE (l.map WN)=0:=by rw[ZGv,h];rfl
 unfold ofE at h;by_cases h1:Zb5 (l.map WN)=0
 .rw[if_pos h1] at h;refine⟨fun e he=>?_,?_⟩
  .have:=ZsH h1 (WN e) (List.mem_map.2 ⟨e,he,rfl⟩);rw[ZhJ] at this;omega
  .by_cases h2:ZeN none (l.map WN)=true
   .rw[if_pos h2] at h;by_cases h3:12 < (l.map WN).length
    .rw[if_pos h3] at h;exact absurd h (by decide)
    .rw[List.length_map] at h3;omega
   .rw[if_neg h2] at h;exact absurd h (by decide)
 .rw[if_neg h1] at h;exact absurd h h1
theorem ZwQ (l:List Ent):(l.map WN).map ZiV=l:=by
 rw[List.map_map];exact(List.map_congr_left fun a _=>rfl).trans (List.map_id l)
end
theorem ZDZ:∀ {k x:Nat},x < 256 ^ k->leN (le x k)=x
 | 0,x,h=>by
  have:x=0:=by simpa using h
  rw[this];rfl
 | k+1,x,h=>by
  unfold le leN;have h2:x / 256 < 256 ^ k:=by
   rw[Nat.pow_succ] at h;exact Nat.div_lt_of_lt_mul (by rw[Nat.mul_comm];exact h)
  rw[ZDZ h2,UInt8.toNat_ofNat'];omega
theorem ZvE {a r:List UInt8} {k:Nat} (h:a.length=k):tkS k (0,a++r)=(a,(0,r)):=by
 subst h;unfold tkS;simp only[];rw[if_pos (by simp),List.take_left,List.drop_left]
theorem Zbj {k x:Nat} {r:List UInt8} (h:x < 256 ^ k):Jl k (0,le x k++r)=(x,(0,r)):=by
 unfold Jl;rw[ZvE KS,ZDZ h]
theorem Zwf {s r:List UInt8} (h:s.length<=65535):Yo 65535 (0,txt s++r)=(s,(0,r)):=by
 have h1:Jl 2 (0,txt s++r)=(s.length,(0,s++r)):=by
  unfold txt;rw[List.append_assoc];exact Zbj (k:=2) (by omega)
 unfold Yo JD;rw[h1];simp only[];rw[if_neg (by omega),ZvE rfl]
theorem ZF4 {e:Ent} {r:List UInt8} (he:Y5 e=0):Zep (0,Zn8 e++r)=(e,(0,r)):=by
 have h1:=Ky (ZhS.1 he).1;have h2:=Zls (ZhS.1 he).2;unfold Zep Zn8;rw[List.append_assoc,Zwf (by omega)];simp only[];rw[Zwf (by omega)];simp only[Zvr,if_true];rw[he];rfl
theorem Zv4:∀ {m:List Ent} {r:List UInt8},(∀ e∈m,Y5 e=0)->Zdx m.length (0,ZbH m++r)=(m,(0,r))
 | [],r,_=>rfl
 | e :: m,r,h=>by
  have h1:=ZF4 (e:=e) (r:=ZbH m++r) (h e (by simp));have h2:=Zv4 (m:=m) (r:=r) fun x hx=>h x (by simp[hx]);have h3:ZbH (e :: m)++r=Zn8 e++(ZbH m++r):=by simp[ZbH]
  rw[List.length_cons,h3];unfold Zdx;rw[h1];simp only[];rw[h2]
theorem ZC8 {m:List Ent} (h:ofN m=0):Zgy (Zii m)=(0,m):=by
 obtain⟨hE,hl⟩:=ZJy h;have h1:Jl 1 (0,Zii m)=(1,(0,le m.length 2++ZbH m)):=Zbj (k:=1) (by omega);have h2:Jl 2 (0,le m.length 2++ZbH m)=(m.length,(0,ZbH m)):=Zbj (k:=2) (by omega);have h3:=Zv4 (r:=[]) hE;rw[List.append_nil] at h3;unfold Zgy;rw[h1];simp only[];rw[if_neg (by simp),h2];simp only[];rw[if_neg (show ¬ m.length > 12 by omega),h3];simp only[];rw[if_neg (by simp),if_pos h];have:Zdt (0,[])=0:=rfl;rw[this,if_neg (by simp)]
section
variable {H0 H X:Zd} {n p d b:Nat} {u w:Zv} {us ws:List Zv} {sl a c v:Value} {bs:List UInt8} {m:List Ent}
end
section
variable {H0 H X:Zd} {n p d b:Nat} {a c v:Value} {bs s:List UInt8} {β:Type} {K:Value->M β}
theorem HLe.put {H0 X:Zd} (h:HLe H0 X) {b:Nat} {o:Zf} (hb:H0.length<=b):HLe H0 (X.set b o):=fun i v hi=>by
 have:=ZX hi;rw[List.getElem?_set_ne (by omega)];exact h i v hi
theorem bx {vs:List Value} (h1:vs.all oneCell=true):alc 1 (.agg vs.toArray) X=some (pt X.length,X++[.cells vs 1 false false]):=Zeh h1
theorem ZGK {vs cs:List Value} {es:Nat} (hc:X[p]?=some (.cells cs es false false)) (h2:cs.length=n) (hv:vs.length=n) (h1:vs.all oneCell=true) :
  bind (stA n (pt p) (.agg vs.toArray)) (fun _=>bind (ldA n (pt p)) K) X=K (.agg vs.toArray) (X.set p (.cells vs es false false)):=by
 rw[Za (ZbD hc h2 hv h1),Za (Z8 (ZW hc) hv)]
end
abbrev RR (s:RSt):List Value:=[strv s.2,iv s.1]
theorem ZIc (s:RSt):(RR s).all oneCell=true:=rfl
section
variable {H0 H X:Zd} {n p d b:Nat} {a c v:Value} {bs:List UInt8} {β:Type} {K:Value->M β} {s:RSt}
end
section
variable {H0 H X:Zd} {n p d b:Nat} {a c v:Value} {bs:List UInt8} {s:RSt} {q:List Nat}
theorem JQ.us {m:List Ent} (h:JQ 5 H v (m.map usr) q):KF H v (m.map WN):=h.users.s (fun u hu=>by obtain⟨e,_,rfl⟩:=List.mem_map.1 hu;exact Nat.zero_le _)
end
section
set_option maxRecDepth 100000
def ZjK (b:Bool):List UInt8:=le (if b then 1 else 0) 1
def Zg4 (l:List Tx):List UInt8:=le l.length 2++(l.map txt).flatten
def Zml (k:KA):List UInt8:=txt k.1++(txt k.2.1++(txt k.2.2.1++(ZjK k.2.2.2.1++Zg4 k.2.2.2.2)))
def Zap (l:List KA):List UInt8:=(l.map Zml).flatten
def ZfQ (K:List Tx) (ks:List KA):List UInt8:=le 2 1++(Zg4 K++(le ks.length 2++Zap ks))
abbrev ZJW:KA:=([],[],[],false,[])
def uOf (k:KA):Zv:=⟨k.1,k.2.1,k.2.2.1,k.2.2.2.1,.slice none 0 0,k.2.2.2.2⟩
def Zds (k:KA):Nat:=(J2 (uOf k)).toNat
def ofK (ks:List KA) (gs:List Tx):Nat:=(Zcx (ks.map uOf) gs).toNat
def ZjF (s:RSt):Bool × RSt:=((Jl 1 s).1==1,if 1 < (Jl 1 s).1 then WB 4 (Jl 1 s).2 else(Jl 1 s).2)
def WX (long:Nat):Nat->RSt->List Tx × RSt
 | 0,s=>([],s)
 | k+1,s=>((Yo long s).1 :: (WX long k (Yo long s).2).1,(WX long k (Yo long s).2).2)
def Zf7 (most long:Nat) (s:RSt):List Tx × RSt:=
 (if(WX long (JD most s).1 (JD most s).2).2.1=0 then(WX long (JD most s).1 (JD most s).2).1 else[],(WX long (JD most s).1 (JD most s).2).2)
def Zot (s:RSt):KA × RSt:=
 let a:=Yo 65535 s
 let b:=Yo 65535 a.2
 let c:=Yo 65535 b.2
 let d:=ZjF c.2
 let e:=Zf7 65535 65535 d.2
 ((a.1,b.1,c.1,d.1,e.1),e.2)
def Zmd (s:RSt):KA × RSt:=(if(WB (Zds (Zot s).1) (Zot s).2).1=0 then(Zot s).1 else ZJW,WB (Zds (Zot s).1) (Zot s).2)
def ZeY:Nat->RSt->List KA × RSt
 | 0,s=>([],s)
 | k+1,s=>((Zmd s).1 :: (ZeY k (Zmd s).2).1,(ZeY k (Zmd s).2).2)
def ZB0 (s:RSt):Nat × (List Tx × List KA):=
 let g:=Zf7 6 12 s
 let n:=Jl 2 g.2
 let m:=if n.1 > 12 then(0,WB 7 n.2) else n
 let u:=ZeY m.1 m.2
 if u.2.1≠0 then(u.2.1,[],[]) else
 if ofK u.1 g.1≠0 then(ofK u.1 g.1,[],[]) else
 if u.2.2≠[] then(3,[],[]) else(0,g.1,u.1)
def Zht (bs:List UInt8):Nat × (List Tx × List KA):=
 let b:=Jl 1 (0,bs)
 if b.2.1=0/\b.1≠2 then(6,[],[]) else ZB0 b.2
section
variable {s:RSt} {k:KA} {ks:List KA} {l K:List Tx} {r t:List UInt8} {us:List Zv}
theorem ZGd (k:KA):QT (uOf k)=k:=rfl
theorem ZpV (ks:List KA):(ks.map uOf).map QT=ks:=by
 rw[List.map_map];exact(List.map_congr_left fun a _=>ZGd a).trans (List.map_id ks)
theorem Zms {u:Zv}:0<=J2 u/\J2 u<=12:=by
 unfold J2 Zih
 repeat' split
 all_goals exact⟨by decide,by decide⟩
theorem ZD2 {u w:Zv} (h:QT u=QT w):J2 u=J2 w:=by
 have h1:u.nm=w.nm:=congrArg (·.1) h;have h2:u.hs=w.hs:=congrArg (·.2.1) h;have h3:u.ml=w.ml:=congrArg (·.2.2.1) h;have h4:u.gs=w.gs:=congrArg (·.2.2.2.2) h;unfold J2;rw[h1,h2,h3,h4]
theorem ZvV {u:Zv}:J2 u=Zds (QT u):=by
 unfold Zds;rw[Int.toNat_of_nonneg Zms.1];exact ZD2 rfl
theorem ZHr:Zds k<=12:=by
 unfold Zds;have:=Zms (u:=uOf k);omega
theorem Ztx:∀ {us:List Zv},0<=YD us
 | []=>Int.le_refl _
 | u :: us=>by
  unfold YD;split
  .exact Ztx
  .exact Zms.1
theorem ZF7 {gs:List Tx} {p:List Zv} {u:Zv}:0<=Zgn gs p u:=by
 unfold Zgn
 repeat' split
 all_goals decide
theorem Zza {gs:List Tx}:∀ {us p:List Zv},0<=ZbI gs p us
 | [],p=>by unfold ZbI;exact Int.le_refl _
 | u :: us,p=>by
  unfold ZbI;split
  .exact Zza
  .exact ZF7
theorem ZGM:0<=ZdO us l:=by
 unfold ZdO Zmy;have:=Ztx (us:=us)
 repeat' split
 all_goals first|exact this|decide
theorem ZyR:0<=Zcx us l:=by
 unfold Zcx;split
 .exact Zza
 .exact ZGM
theorem ZBa:Zcx us l=ofK (us.map QT) l:=by
 unfold ofK;rw[Int.toNat_of_nonneg ZyR];exact ZFw (ZpV _).symm
theorem ZA4 {m:Tx} (h:ZeA m=true):m.length<=20:=by
 rcases Zp6 h with h|⟨h,_⟩
 .rw[h];decide
 .unfold Yp at h;rw[Bool.and_eq_true,decide_eq_true_eq] at h;exact h.1
structure Zp8 (k:KA):Prop where
 n:k.1.length<=12
 h:k.2.1.length<=12
 m:k.2.2.1.length<=20
 g:k.2.2.2.2.length<=6
 gs:∀ x∈k.2.2.2.2,x.length<=12
theorem ZtV (h:Zds k=0):Zp8 k:=by
 have h0:J2 (uOf k)=0:=by
  have:=Zms (u:=uOf k);unfold Zds at h;omega
 obtain⟨h1,h2,h3,h4,h5,_⟩:=Zjg h0;exact⟨Ky h1,Zls h2,ZA4 h3,h4,fun x hx=>Ky (List.all_eq_true.1 h5 x hx)⟩
theorem ZxD (h:ofK ks l=0):(∀ k∈ks,Zds k=0)/\ks.length<=12/\l.length<=6/\(∀ x∈l,x.length<=12)/\Kh l=true/\l.all Zw=true:=by
 have h0:Zcx (ks.map uOf) l=0:=by
  have:=ZyR (us:=ks.map uOf) (l:=l);unfold ofK at h;omega
 have hc:ZdO (ks.map uOf) l=0:=by
  unfold Zcx at h0;by_cases hc:ZdO (ks.map uOf) l=0
  .exact hc
  .rw[if_neg hc] at h0;exact h0
 obtain⟨h1,_,h3,h4,h5,h6⟩:=ZEh hc;rw[List.length_map] at h3;refine⟨fun k hk=>?_,h3,h6,fun x hx=>Ky (List.all_eq_true.1 h4 x hx),h5,h4⟩;have:=Zom h1 (uOf k) (List.mem_map.2 ⟨k,hk,rfl⟩);unfold Zds;rw[this];rfl
theorem ZnY {b:Nat}:∀ {l:List Tx},(∀ x∈l,x.length<=b)->((l.map txt).flatten).length<=l.length * (b+2)
 | [],_=>by simp
 | x :: l,h=>by
  have h1:=h x (by simp);have h2:=ZnY (b:=b) (l:=l) fun y hy=>h y (by simp[hy]);rw[List.map_cons,List.flatten_cons,List.length_append,Zcz,List.length_cons,Nat.add_mul];omega
theorem Zsl {b:Nat} (h:∀ x∈l,x.length<=b):(Zg4 l).length<=2+l.length * (b+2):=by
 unfold Zg4;rw[List.length_append,KS];have:=ZnY h;omega
theorem ZsU (b:Bool):(ZjK b).length=1:=by unfold ZjK;rw[KS]
theorem Zy3 (h:Zp8 k):(Zml k).length<=137:=by
 unfold Zml;rw[List.length_append,List.length_append,List.length_append,List.length_append,Zcz,Zcz,Zcz,ZsU];have h1:=Zsl h.gs;have h2:=h.g;have:=h.n;have:=h.h;have:=h.m;have h3:k.2.2.2.2.length * (12+2)<=6 * (12+2):=Nat.mul_le_mul_right _ h2;omega
theorem Zuz:∀ {ks:List KA},(∀ k∈ks,Zp8 k)->(Zap ks).length<=ks.length * 137
 | [],_=>by simp[Zap]
 | k :: ks,h=>by
  have h1:=Zy3 (h k (by simp));have h2:=Zuz (ks:=ks) fun y hy=>h y (by simp[hy]);unfold Zap at h2 ⊢;rw[List.map_cons,List.flatten_cons,List.length_append,List.length_cons,Nat.add_mul];omega
theorem Zsm (h:∀ k∈ks,Zp8 k) (hn:ks.length<=12) (hl:l.length<=6) (hx:∀ x∈l,x.length<=12):(ZfQ l ks).length<=1733:=by
 unfold ZfQ;rw[List.length_append,List.length_append,List.length_append,KS,KS];have h1:=Zsl hx;have h2:=Zuz h;have h3:l.length * (12+2)<=6 * (12+2):=Nat.mul_le_mul_right _ hl;have h4:ks.length * 137<=12 * 137:=Nat.mul_le_mul_right _ hn;omega
theorem ZkD {t r:List UInt8} {most:Nat} (h:t.length<=most) (h2:t.length<=65535):Yo most (0,txt t++r)=(t,(0,r)):=by
 have h1:Jl 2 (0,txt t++r)=(t.length,(0,t++r)):=by
  unfold txt;rw[List.append_assoc];exact Zbj (by omega)
 unfold Yo JD;rw[h1];simp only[];rw[if_neg (by omega)];exact ZvE rfl
theorem ZtM {long:Nat}:∀ {l:List Tx} {r:List UInt8},(∀ x∈l,x.length<=long/\x.length<=65535)->WX long l.length (0,(l.map txt).flatten++r)=(l,(0,r))
 | [],r,_=>rfl
 | x :: l,r,h=>by
  have h1:=h x (by simp);rw[List.length_cons];unfold WX;rw[List.map_cons,List.flatten_cons,List.append_assoc,ZkD h1.1 h1.2,ZtM fun y hy=>h y (by simp[hy])]
theorem Zyi {most long:Nat} (hm:l.length<=most) (h6:l.length<=65535) (h:∀ x∈l,x.length<=long/\x.length<=65535):Zf7 most long (0,Zg4 l++r)=(l,(0,r)):=by
 have h1:JD most (0,Zg4 l++r)=(l.length,(0,(l.map txt).flatten++r)):=by
  unfold JD Zg4;rw[List.append_assoc,Zbj (by omega)];simp only[];rw[if_neg (by omega)]
 unfold Zf7;rw[h1];simp only[];rw[ZtM h];simp
theorem ZCn (b:Bool):ZjF (0,ZjK b++r)=(b,(0,r)):=by
 unfold ZjF ZjK;cases b
 .rw[show(if false=true then 1 else 0)=0 from rfl,Zbj (by decide)];simp
 .rw[show(if true=true then 1 else 0)=1 from rfl,Zbj (by decide)];simp
theorem ZHG:WB 0 s=s:=by unfold WB;rw[if_neg (fun h=>h.2 rfl)]
theorem ZFF (h:Zp8 k):Zot (0,Zml k++r)=(k,(0,r)):=by
 have h1:=h.n;have h2:=h.h;have h3:=h.m;have h4:=h.g;unfold Zot Zml;simp only[List.append_assoc];rw[ZkD (by omega) (by omega)];simp only[];rw[ZkD (by omega) (by omega)];simp only[];rw[ZkD (by omega) (by omega)];simp only[];rw[ZCn];simp only[];rw[Zyi (by omega) (by omega) (fun x hx=>by have:=h.gs x hx;omega)]
theorem ZF5 (h:Zds k=0):Zmd (0,Zml k++r)=(k,(0,r)):=by
 unfold Zmd;rw[ZFF (ZtV h)];simp only[h,ZHG];simp
theorem Zwz:∀ {ks:List KA} {r:List UInt8},(∀ k∈ks,Zds k=0)->ZeY ks.length (0,Zap ks++r)=(ks,(0,r))
 | [],r,_=>rfl
 | k :: ks,r,h=>by
  have ih:=Zwz (ks:=ks) (r:=r) fun y hy=>h y (by simp[hy]);unfold Zap at ih ⊢;rw[List.length_cons];unfold ZeY;rw[List.map_cons,List.flatten_cons,List.append_assoc,ZF5 (h k (by simp)),ih]
theorem ZDr (h:ofK ks l=0):Zht (ZfQ l ks)=(0,l,ks):=by
 obtain⟨h1,h2,h3,h4,_,_⟩:=ZxD h;have e1:Jl 1 (0,ZfQ l ks)=(2,(0,Zg4 l++(le ks.length 2++Zap ks))):=by
  unfold ZfQ;exact Zbj (by decide)
 have e2:Zf7 6 12 (0,Zg4 l++(le ks.length 2++Zap ks))=(l,(0,le ks.length 2++Zap ks)):=Zyi h3 (by omega) (fun x hx=>by have:=h4 x hx;omega);have e3:Jl 2 (0,le ks.length 2++Zap ks)=(ks.length,(0,Zap ks)):=Zbj (by omega);have e4:ZeY ks.length (0,Zap ks)=(ks,(0,[])):=by
  have:=Zwz (r:=[]) h1
  rwa [List.append_nil] at this
 unfold Zht;rw[e1];simp only[];rw[if_neg (fun h=>h.2 rfl)];unfold ZB0;rw[e2];simp only[];rw[e3];simp only[];rw[if_neg (show ¬ ks.length > 12 by omega)];simp only[];rw[e4];simp[h]
end
end
section
set_option maxRecDepth 100000
section
variable {H X X':Zd} {n p d c:Nat} {r:NR} {s:NSt} {sl x v gv sv:Value} {own q:List Nat} {bs:List UInt8} {l:List Tx} {u:Zv} {us:List Zv}
theorem ZjH:∀ {l:List Tx},l.Pairwise (· < ·)->Kh l=true
 | [],_=>rfl
 | [a],_=>rfl
 | a :: b :: l,h=>by
  rw[ZhU,Bool.and_eq_true,decide_eq_true_eq];have h1:=List.pairwise_cons.1 h;exact⟨h1.1 b (by simp),ZjH h1.2⟩
theorem ND0.kname (hd:ND0 X d r s c) {k:Tx} (hk:k∈s.K):Zw k=true:=by
 rw[<- hd.ks] at hk;obtain⟨p,hp,rfl⟩:=List.mem_map.1 hk;exact hd.gr.ok p hp
theorem Zob (hO:ROK s us) (hP:Y0 s) (hN:∀ k∈s.K,Zw k=true) (hu:u∈us):J2 u=0/\(∀ g∈u.gs,g∈s.K)/\u.ml=(Ze u.nm s.OF).getD []:=by
 have hat:=hO.at hu;unfold Jn at hat;cases ha:Ze u.nm s.A with
 | none=>rw[ha] at hat;cases hat
 | some p=>
  rw[ha] at hat;have hk:WQ s u.nm p=QT u:=Option.some.inj hat;have h1:p.1=u.hs:=congrArg (·.2.1) hk;have h2:(Ze u.nm s.OF).getD []=u.ml:=congrArg (·.2.2.1) hk;have h3:ofL u.nm s.K s.mem=u.gs:=congrArg (·.2.2.2.2) hk;have hnm:=hP.i.nm _ (Ku ha);have hin:∀ g∈u.gs,g∈s.K:=fun g hg=>by
   rw[<- h3] at hg;exact(((ZpO hP.k.nod).mem g).1 hg).1
  refine⟨?_,hin,h2.symm⟩;unfold J2 Zih;rw[show Zw u.nm=true from hnm.1,<- h1,show K9 p.1=true from hnm.2];have hm:ZeA u.ml=true:=by
   unfold ZeA;rw[<- h2];cases ho:Ze u.nm s.OF with
   | none=>rfl
   | some m=>
    obtain⟨g1,g2⟩:=hP.i.good _ m ho;show(m==[] || (Yp m && QO m==m))=true
    rw[g1,g2];simp
  have hl:u.gs.length<=6:=by
   rw[<- h3];exact Nat.le_trans Zli hP.k.few
  have hall:u.gs.all Zw=true:=List.all_eq_true.2 fun g hg=>hN g (hin g hg);have hr:Kh u.gs=true:=by
   rw[<- h3];exact ZjH (ZpO hP.k.nod).asc
  rw[hm,hall,hr];simp only[if_true];rw[if_neg (by omega)]
theorem Zvt {gs:List Tx}:∀ {us prev:List Zv},(∀ (i:Nat) (u:Zv),us[i]?=some u->Zgn gs (prev++us.take i) u=0)->ZbI gs prev us=0
 | [],prev,_=>by unfold ZbI;rfl
 | u :: us,prev,h=>by
  have h0:=h 0 u rfl;rw[List.take_zero,List.append_nil] at h0;unfold ZbI;rw[if_pos h0];refine Zvt fun i w hi=>?_;have h1:=h (i+1) w (by simpa using hi);rw[List.take_succ_cons] at h1
  rwa [List.append_assoc]
theorem ZIC (hO:ROK s us) (hP:Y0 s) (hN:∀ k∈s.K,Zw k=true):Zcx us (ZN s.K)=0:=by
 have hlen:=hO.len hP.n;have hfew:=hP.i.few;have h1:YD us=0:=by
  have hall:∀ u∈us,J2 u=0:=fun u hu=>(Zob hO hP hN hu).1;clear hO hlen
  induction us with
  | nil=>rfl
  | cons u us ih=>
   unfold YD;rw[if_pos (hall u (by simp))];exact ih fun w hw=>hall w (by simp[hw])
 have h2:Kh (us.map (·.nm))=true:=by
  refine ZjH ?_;rw[List.pairwise_map];exact hO.rise
 have h3:(ZN s.K).all Zw=true:=List.all_eq_true.2 fun g hg=>hN g (Kp.1 hg);have h4:Kh (ZN s.K)=true:=ZjH (ZcV hP.k.nod);have h5:(ZN s.K).length<=6:=by rw[YC];exact hP.k.few
 have hc:ZdO us (ZN s.K)=0:=by
  unfold ZdO Zmy;have x1:¬ 12 < us.length:=by omega
  have x2:¬ 6 < (ZN s.K).length:=by omega
  rw[h1,h2,h3,h4];simp[x1,x2,hP.k.few]
 unfold Zcx;rw[if_pos hc];refine Zvt fun i u hi=>?_;rw[List.nil_append];have hum:=List.mem_of_getElem? hi;obtain⟨_,hg,hm⟩:=Zob hO hP hN hum;unfold Zgn;have hall:(u.gs.all fun g=>decide (g∈ZN s.K))=true:=List.all_eq_true.2 fun g hgm=>by
  rw[decide_eq_true_eq];exact Kp.2 (hg g hgm)
 rw[hall,if_pos rfl,if_neg]
 rintro⟨hne,hany⟩
 obtain⟨w,hw,hwe⟩:=List.any_eq_true.1 hany;have hwm:=List.mem_of_mem_take hw;obtain⟨_,_,hm2⟩:=Zob hO hP hN hwm;have hwe:u.ml=w.ml:=by simpa using hwe
 have h6:∀ v:Zv,v.ml=(Ze v.nm s.OF).getD []->v.ml≠[]->Ze v.ml s.OW=some v.nm:=fun v hv hvne=>by
  cases ho:Ze v.nm s.OF with
  | none=>rw[ho] at hv;exact absurd hv hvne
  | some m=>
   rw[ho] at hv;have hv:v.ml=m:=hv;rw[hv];exact(hP.x.inv _ _).1 ho
 have h7:=h6 u hm hne;have h8:=h6 w hm2 (by rw[<- hwe];exact hne);rw[<- hwe,h7] at h8;have h9:u.nm=w.nm:=Option.some.inj h8;have hri:=hO.rise;unfold ZgF at hri;rw[<- List.take_append_drop i us,List.pairwise_append] at hri;have hud:u∈us.drop i:=by
  have hil:=(List.getElem?_eq_some_iff.1 hi).1;rw[List.drop_eq_getElem_cons hil];have:=List.getElem?_eq_getElem hil;rw[hi] at this;rw[<- Option.some.inj this];simp
 have:=hri.2.2 w hw u hud;rw[h9] at this;exact absurd this (List.lt_irrefl _)
theorem ROK.allK (hn:(KZ s).Nodup):ROK s ((A.allK s).map uOf):=⟨by
 have h:=ZwD hn;unfold ZgF;rw[List.pairwise_map];exact h,fun key=>by rw[ZpV];exact ZmX hn⟩
theorem ZxY (hd:ND X d r s c):ofK (A.allK s) (ZN s.K)=0:=by
 have:=ZIC (ROK.allK hd.pinv.n) hd.pinv fun k hk=>hd.toND0.kname hk;rw[ZBa,ZpV] at this;omega
theorem ZEW {b:Bool} (hb:bs.length<=100000000000) (h:Wtr H p bs own):∃ H' own',R (n+3) Zam [pt p,.bool b] H=some (pt p,H')/\Wtr H' p (bs++ZjK b) own'/\Zo (p :: own) H (p :: own') H':=by
 obtain⟨H',own',e,w,s⟩:=Zjc (n:=n) (x:=if b then 1 else 0) (by cases b<;>decide) hb h;refine⟨H',own',?_,w,s⟩;rw[R,Zmw rfl];unfold ZdP;cases b
 .have e:R (n+2) Qi [pt p,.int .u8 0] H=_:=e;rw[Zb,if_neg (by simp),Za e];rfl
 .have e:R (n+2) Qi [pt p,.int .u8 1] H=_:=e;rw[Zb,if_pos rfl,Za e];rfl
theorem Zt.whole {vs:List Value} (h:Zt X v vs q):∃ sv,slv 1 v none (some (iv vs.length)) none X=some (sv,X)/\Sl X sv vs/\∀ j,A.own1 sv=some j->j∈q:=by
 have b1:∀ d,bnd (some (iv vs.length)) d=some vs.length:=fun d=>by simp[bnd]
 have b2:∀ d,bnd none d=some d:=fun _=>rfl;rcases h with⟨rfl,rfl,rfl⟩|⟨sid,rest,g,rfl,rfl,hid⟩
 .exact⟨.slice none 0 0,rfl,Sl.nil,fun j hj=>by cases hj⟩
 .by_cases h0:vs.length+rest.length=0
  .have hv:vs=[]:=List.eq_nil_of_length_eq_zero (by omega);subst hv;refine⟨.slice (some ⟨sid,0,some (bif g then 1 else 0)⟩) 0 0,?_,⟨_,_,rfl,(fun e=>by cases e),rfl⟩,fun j hj=>by cases hj⟩;simp only[slv,hid,b1,b2];rw[if_pos ⟨trivial,by omega,by omega,Nat.le_refl _⟩,if_pos (by omega)]
  .refine⟨.slice (some ⟨sid,0,none⟩) vs.length (vs.length+rest.length),?_,⟨some ⟨sid,0,none⟩,_,rfl,(fun e=>by cases e),?_⟩,fun j hj=>by cases hj;simp⟩
   .simp only[slv,hid,b1,b2];rw[if_pos ⟨trivial,by omega,by omega,Nat.le_refl _⟩,if_neg (by omega)];simp
   .simp only[QL,hid];rw[if_pos (by simp)];simp
theorem ZBy (hl:∀ x∈l,x.length<=1000) (hn:l.length<=1000):∀ (t j:Nat) (bs:List UInt8) (own:List Nat) (X:Zd),l.length - j=t->j<=l.length->Sl X sv (l.map strv)->(∀ i,own1 sv=some i->i∉p :: own/\i < X.length)->bs.length+t * 1002<=100000000->Wtr X p bs own->
  ∃ X' own',Zj (c4 (Ks.l1 (R (n+3)))) [pt p,sv,iv l.length,iv j] X=some (.ext 0 [pt p],X')/\Wtr X' p (bs++((l.drop j).map txt).flatten) own'/\Zo (p :: own) X (p :: own') X'
 | 0,j,bs,own,X,ht,hj,hs,hd,hb,h=>by
  rw[List.drop_eq_nil_of_le (by omega)];refine⟨X,own,ZZ ?_,by simpa using h,.refl _ _⟩;rw[ZL,show j=l.length by omega];unfold Ks.l1;rw[Za Zs,Zb,if_neg (by simp)];rfl
 | t+1,j,bs,own,X,ht,hj,hs,hd,hb,h=>by
  have hkl:j < l.length:=by omega
  have hlt:(j:Int) < l.length:=by omega
  have hg:=List.getElem?_eq_getElem hkl;have hdr:=List.drop_eq_getElem_cons hkl;generalize l[j]=y at hg hdr;have hy:=hl y (List.mem_of_getElem? hg);have x1:=hs.ix (i:=j) (by simpa using hkl) .i64 X;have x2:=hs.ldx (Wr hg);obtain⟨X1,own1',e1,w1,s1⟩:=Zfq (n:=n) (s:=y) (by omega) (by omega) h;have hs1:Sl X1 sv (l.map strv):=hs.keep fun i hi=>s1.keep i (hd i hi).2 (hd i hi).1;have hd1:∀ i,A.own1 sv=some i->i∉p :: own1'/\i < X1.length:=fun i hi=>⟨fun hm=>by
   rcases s1.own i hm with h1|h1
   .exact(hd i hi).1 h1
   .have:=(hd i hi).2;omega,Nat.lt_of_lt_of_le (hd i hi).2 s1.len⟩
  obtain⟨X2,own2,e2,w2,s2⟩:=ZBy hl hn t (j+1) (bs++txt y) own1' X1 (by omega) (by omega) hs1 hd1 (by rw[List.length_append,Zcz];omega) w1;refine⟨X2,own2,(ZJ ?_).trans e2,?_,s1.trans s2⟩
  .rw[ZL];unfold Ks.l1;rw[Za Zs,Zb,if_pos (by simpa using hlt),Za x1,Za x2,Za e1,Za ZG,Je (by omega)];rfl
  .rw[hdr,List.map_cons,List.flatten_cons,<- List.append_assoc];exact w2
theorem ZC6 (hl:∀ x∈l,x.length<=1000) (hn:l.length<=1000) (hr:Zt H gv (l.map strv) q) (hd:∀ j∈q,j∉p :: own) (hb:bs.length<=10000000) (h:Wtr H p bs own):∃ H' own',R (n+4) Wd [pt p,gv] H=some (pt p,H')/\Wtr H' p (bs++Zg4 l) own'/\Zo (p :: own) H (p :: own') H':=by
 have hlen:ZB gv H=some (iv l.length,H):=by have:=hr.rd.len (H':=H);simpa using this
 have hm:mxi false (iv l.length) (.int .i64 65535) H=some (iv l.length,H):=by
  rw[YO,if_neg (by omega)]
 obtain⟨sv,e1,s1,o1⟩:=hr.whole;rw[List.length_map] at e1;have hsl:∀ Y,ZB sv Y=some (iv l.length,Y):=fun Y=>by have:=s1.len (H':=Y);simpa using this
 have c1:cvi .u16 (iv l.length) H=some (.int .u16 l.length,H):=by rw[Qx,Zys,Int.emod_eq_of_lt (by omega) (by omega)]
 obtain⟨X1,own1',e2,w2,st2⟩:=Zul (n:=n+1) (x:=l.length) (by omega) (by omega) h;have e2:R (n+3) Yj [pt p,.int .u16 l.length] H=_:=e2;have hs1:Sl X1 sv (l.map strv):=s1.keep fun i hi=>st2.keep i (hr.lt i (o1 i hi)) (hd i (o1 i hi));have hd1:∀ i,A.own1 sv=some i->i∉p :: own1'/\i < X1.length:=fun i hi=>⟨fun hm=>by
  rcases st2.own i hm with h1|h1
  .exact hd i (o1 i hi) h1
  .have:=hr.lt i (o1 i hi);omega,Nat.lt_of_lt_of_le (hr.lt i (o1 i hi)) st2.len⟩
 obtain⟨X2,own2,e3,w3,st3⟩:=ZBy (n:=n) (p:=p) hl hn l.length 0 (bs++le l.length 2) own1' X1 (by omega) (by omega) hs1 hd1 (by rw[List.length_append,KS];omega) w2;rw[show iv ((0:Nat):Int)=.int .i64 0 from rfl] at e3;rw[List.drop_zero,List.append_assoc] at w3;refine⟨X2,own2,?_,w3,st2.trans st3⟩;rw[R,ZoR rfl];unfold Ks;rw[Za hlen,Za hm,Za e1,Za (hsl _),Za c1,Za e2,Za (hsl _),Qk e3,ZI];rfl
theorem ZIN {u:Zv}:Zml (QT u)=txt u.nm++(txt u.hs++(txt u.ml++(ZjK u.ds++Zg4 u.gs))):=rfl
theorem Zd6 {o1 o2:List Nat} (hs:Zo o1 X o2 X') {q:List Nat} (hl:∀ j∈q,j < X.length) (hd:∀ j∈q,j∉o1):∀ j∈q,j∉o2:=fun j hj hm=>by
 rcases hs.own j hm with h1|h1
 .exact hd j hj h1
 .have:=hl j hj;omega
theorem ZHs (he:J2 u=0) (hr:Zt H u.gv (u.gs.map strv) q) (hd:∀ j∈q,j∉p :: own) (hb:bs.length<=1000000) (h:Wtr H p bs own):∃ H' own',R (n+11) Zfv [pt p,iv 2,.agg u.cells.toArray] H=some (.bool true,H')/\Wtr H' p (bs++Zml (QT u)) own'/\Zo (p :: own) H (p :: own') H':=by
 obtain⟨b1,b2,b3,b4,b5,b6⟩:=Zjg he;have hnl:=Ky b1;have hhl:=Zls b2;have hml:=ZA4 b3;have hgl:∀ x∈u.gs,x.length<=1000:=fun x hx=>by have:=Ky (List.all_eq_true.1 b5 x hx);omega
 have ok0:UOK H u:=⟨hr.rd,hr.one.1,by omega⟩;have e1:=ok0.cells1;have k1:HLe H (H++[.cells u.cells 1 false false]):=.app _ _;have c1:(H++[Zf.cells u.cells 1 false false])[H.length]?=some (.cells u.cells 1 false false):=Zn;have hne:H.length∉p :: own:=fun hm=>Nat.lt_irrefl _ (h.lt _ hm);have hq1:=hr.lt;generalize H++[Zf.cells u.cells 1 false false]=X1 at e1 k1 c1;have d1:ldA 5 (pt H.length) X1=some (.agg u.cells.toArray,X1):=Z8 (n:=5) c1 rfl;obtain⟨X2,e2,k2⟩:=Zjx (n:=n) (ok0.hle k1);rw[he] at e2;have c2:=k2 _ _ c1;have k12:=k1.trans k2;have q1:bop .int .neq (iv 0) (.int .i64 0) X2=some (.bool false,X2):=by rw[Zl];rfl
 have w2:=h.hle k12;have hr2:=hr.step k12.step (by simp);generalize H.length=w at e1 c1 hne d1 c2;obtain⟨X3,q3,e3,w3,s3⟩:=Zfq (n:=n+7) (s:=u.nm) (by omega) (by omega) w2;have e3:R (n+10) Qz [pt p,strv u.nm] X2=_:=e3;have c3:=s3.get c2 hne;have hwl:=ZX c2;have n3:w∉p :: q3:=fun hm=>by
  rcases s3.own w hm with h1|h1
  .exact hne h1
  .omega
 have l3:(txt u.nm).length<=14:=by rw[Zcz];omega
 have l4:(txt u.hs).length<=14:=by rw[Zcz];omega
 have l5:(txt u.ml).length<=22:=by rw[Zcz];omega
 obtain⟨X4,q4,e4,w4,s4⟩:=Zfq (n:=n+7) (s:=u.hs) (by omega) (by rw[List.length_append];omega) w3;have e4:R (n+10) Qz [pt p,strv u.hs] X3=_:=e4;have c4:=s4.get c3 n3;have hwl3:=ZX c3;have n4:w∉p :: q4:=fun hm=>by
  rcases s4.own w hm with h1|h1
  .exact n3 h1
  .omega
 obtain⟨X5,q5,e5,w5,s5⟩:=Zfq (n:=n+7) (s:=u.ml) (by omega) (by rw[List.length_append,List.length_append];omega) w4;have e5:R (n+10) Qz [pt p,strv u.ml] X4=_:=e5;have c5:=s5.get c4 n4;have hwl4:=ZX c4;have n5:w∉p :: q5:=fun hm=>by
  rcases s5.own w hm with h1|h1
  .exact n4 h1
  .omega
 obtain⟨X6,q6,e6,w6,s6⟩:=ZEW (n:=n+7) (b:=u.ds) (by rw[List.length_append,List.length_append,List.length_append];omega) w5;have e6:R (n+10) Zam [pt p,.bool u.ds] X5=_:=e6;have c6:=s6.get c5 n5;have a2:=hr2.lt;have r3:=hr2.step s3 hd;have f3:=Zd6 s3 a2 hd;have r4:=r3.step s4 f3;have f4:=Zd6 s4 r3.lt f3;have r5:=r4.step s5 f4;have f5:=Zd6 s5 r4.lt f4;have r6:=r5.step s6 f5;have f6:=Zd6 s6 r5.lt f5;obtain⟨X7,q7,e7,w7,s7⟩:=ZC6 (n:=n+6) hgl (by omega) r6 f6 (by rw[List.length_append,List.length_append,List.length_append,List.length_append,ZsU];omega) w6;have e7:R (n+10) Wd [pt p,u.gv] X6=_:=e7;have q2:bop .int .eql (iv 2) (.int .i64 2) X4=some (.bool true,X4):=by rw[ZA];rfl
 have a:∀ {Y:Zd},Y[w]?=some (.cells u.cells 1 false false)->∀ f x,u.cells[f]?=some x->ld1 (pa w f) Y=some (x,Y):=fun hY f x h=>Zy hY h;refine⟨X7,q7,?_,by rw[ZIN];simpa[List.append_assoc] using w7,(k12.stepq).trans ((((s3.trans s4).trans s5).trans s6).trans s7)⟩;rw[R,ZrH rfl];unfold ZkU;rw[Za e1,Za d1,Za e2,Za q1,Zb,if_neg (by simp),Za Zi,Za (a c2 0 _ rfl),Za Zi,Za (a c2 1 _ rfl),Za e3,Za (a c3 1 _ rfl),Ql,Za e4,Za q2];refine(ZC (vs:=[]) (H':=X7) ?_).trans ?_
 .rw[Zb,if_pos rfl,Za Zi,Za (a c4 2 _ rfl),Za Zi,Za (a c4 3 _ rfl),Za Zi,Za (a c4 4 _ rfl),Za e5,Za (a c5 4 _ rfl),Ql,Za (a c5 3 _ rfl),Ql,Za e6,Za (a c6 4 _ rfl),Ql,Za e7];rfl
 .rfl
theorem ZBS (hn:us.length<=100) (hE:∀ u∈us,J2 u=0):∀ (t k:Nat) (bs:List UInt8) (own:List Nat) (X:Zd),us.length - k=t->k<=us.length->JQ 5 X v (us.map Zv.cells) q->(∀ j∈q,j∉p :: own)->(∀ u∈us,∃ qu,Zt X u.gv (u.gs.map strv) qu/\∀ j∈qu,j∉p :: own)->bs.length+t * 137<=100000->Wtr X p bs own->
  ∃ X' own',Zj (c4 (Zal.l1 (R (n+11)))) [pt p,v,iv us.length,iv k] X=some (.ext 0 [pt p],X')/\Wtr X' p (bs++Zap ((us.drop k).map QT)) own'/\Zo (p :: own) X (p :: own') X'
 | 0,k,bs,own,X,ht,hk,hr,hd,hu,hb,h=>by
  rw[List.drop_eq_nil_of_le (by omega)];refine⟨X,own,ZZ ?_,by simpa[Zap] using h,.refl _ _⟩;rw[ZL,show k=us.length by omega];unfold Zal.l1;rw[Za Zs,Zb,if_neg (by simp)];rfl
 | t+1,k,bs,own,X,ht,hk,hr,hd,hu,hb,h=>by
  have hkl:k < us.length:=by omega
  have hlt:(k:Int) < us.length:=by omega
  have hg:=List.getElem?_eq_getElem hkl;have hdr:=List.drop_eq_getElem_cons hkl;generalize us[k]=u at hg hdr;have hum:=List.mem_of_getElem? hg;have he:=hE u hum;obtain⟨qu,u1,u2⟩:=hu u hum;have hf:=fun {K:Value->M Out}=>Zvl (k:=K) hr.rd u1.one.1 hg;have k1:HLe X (X++[Zf.cells u.cells 1 false false]):=.app _ _;have c1:(X++[Zf.cells u.cells 1 false false])[X.length]?=some (.cells u.cells 1 false false):=Zn;generalize X++[Zf.cells u.cells 1 false false]=X1 at k1 c1 hf;have d1:ldA 5 (pt X.length) X1=some (.agg u.cells.toArray,X1):=Z8 (n:=5) c1 rfl;obtain⟨X2,own2,e2,w2,s2⟩:=ZHs (n:=n) he (u1.step k1.step (by simp)) u2 (by omega) (h.hle k1);have hgk:Zp8 (QT u):=ZtV (by rw[<- Int.toNat_natCast (Zds (QT u)),<- ZvV,he];rfl);have hel:=Zy3 hgk;have s12:=(k1.stepq (q:=p :: own)).trans s2;have hu2:∀ u∈us,∃ qu,Zt X2 u.gv (u.gs.map strv) qu/\∀ j∈qu,j∉p :: own2:=fun w hw=>by
   obtain⟨qw,w1,w2⟩:=hu w hw;exact⟨qw,w1.step s12 w2,Zd6 s12 w1.lt w2⟩
  obtain⟨X3,own3,e3,w3,s3⟩:=ZBS hn hE t (k+1) (bs++Zml (QT u)) own2 X2 (by omega) (by omega) (hr.step s12 hd) (Zd6 s12 hr.lt hd) hu2 (by rw[List.length_append];omega) w2;refine⟨X3,own3,(ZJ ?_).trans e3,?_,s12.trans s3⟩
  .rw[ZL];unfold Zal.l1;rw[Za Zs,Zb,if_pos (by simpa using hlt),hf,Za d1,Za e2,Za ZG,Je (by omega)];rfl
  .rw[hdr];unfold Zap at w3 ⊢;rw[List.map_cons,List.map_cons,List.flatten_cons,<- List.append_assoc];exact w3
theorem ZyM (hd:ND X d r s c):∃ v q H',R (n+12) Zgg [pt d] X=some (v,H')/\Zt H' v (u8s (ZfQ (ZN s.K) (A.allK s))) q/\HLe X H'/\∀ j∈q,X.length<=j:=by
 have hgood:=ZxY hd;obtain⟨g1,g2,g3,g4,_,_⟩:=ZxD hgood;have q0:bop .ptr .eql (pt d) (.pointer none) X=some (.bool false,X):=Jc;obtain⟨z1,z2,w0⟩:=ZvJ (H:=X);have k0:HLe X (X++[Zf.cells [.slice none 0 0] 1 false false]):=.app _ _;generalize X++[Zf.cells [.slice none 0 0] 1 false false]=X0 at z2 w0 k0;generalize hpp:X.length=p at z2 w0;have hp:∀ j∈[p],X.length<=j:=fun j hj=>by have:j=p:=(by simpa using hj);omega
 obtain⟨X1,q1,e1,w1,s1⟩:=Zjc (n:=n+9) (x:=2) (by omega) (by simp) w0;have e1:R (n+11) Qi [pt p,.int .u8 2] X0=_:=e1;have m1:=k0.more s1 hp;rw[List.nil_append] at w1;obtain⟨vg,qg,X2,e2,r2,l2,o2⟩:=ZEF (n:=n+7) (hd.hle m1.1);have e2:R (n+11) Zbk [pt d] X1=_:=e2;have w2:=w1.hle l2;have m12:=m1.1.trans l2;have dg:∀ j∈qg,j∉p :: q1:=fun j hj hm=>by have:=o2 j hj;have:=w1.lt j hm;omega
 obtain⟨X3,q3,e3,w3,s3⟩:=ZC6 (n:=n+7) (l:=ZN s.K) (fun x hx=>by have:=g4 x hx;omega) (by omega) r2 dg (by rw[KS];omega) w2;have e3:R (n+11) Wd [pt p,vg] X2=_:=e3;have m3:=m12.more s3 m1.2;have e4:R (n+11) Zc8 [pt d] X3=some (iv s.A.length,X3):=ZJe (n:=n+10) (hd.hle m3.1);have hfew:=hd.inv.few;have c4:cvi .u16 (iv s.A.length) X3=some (.int .u16 s.A.length,X3):=by rw[Qx,Zys,Int.emod_eq_of_lt (by omega) (by omega)]
 have hlr:=Zsl (b:=12) g4;have hlr2:(ZN s.K).length * (12+2)<=6 * (12+2):=Nat.mul_le_mul_right _ g3;obtain⟨X4,q4,e5,w4,s4⟩:=Zul (n:=n+9) (x:=s.A.length) (by omega) (by rw[List.length_append,KS];omega) w3;have e5:R (n+11) Yj [pt p,.int .u16 s.A.length] X3=_:=e5;have m4:=m3.1.more s4 m3.2;obtain⟨va,qa,us,X5,e6,o6,u6,l6⟩:=ZJc (n:=n+3) (hd.hle m4.1);have e6:R (n+11) Zdb [pt d] X4=_:=e6;have w5:=w4.hle l6;have hlen:us.length=s.A.length:=by
  have h1:=congrArg List.length u6;unfold A.allK at h1;rw[List.length_map,List.length_map,YC] at h1;simpa using h1
 have hla:ZB va X5=some (iv us.length,X5):=by have:=o6.r.rd.len (H':=X5);rwa [List.length_map] at this
 have hE:∀ u∈us,J2 u=0:=fun u hu=>by
  have:=g1 (QT u) (by rw[<- u6];exact List.mem_map.2 ⟨u,hu,rfl⟩);rw[ZvV,this];rfl
 have da:∀ j,X4.length<=j->j∉p :: q4:=fun j hj hm=>by have:=w4.lt j hm;omega
 obtain⟨X6,q6,e7,w6,s6⟩:=ZBS (n:=n) (p:=p) (us:=us) (by omega) hE us.length 0 _ q4 X5 (by omega) (by omega) o6.r (fun j hj=>da j (o6.o j hj)) (fun u hu=>by
  obtain⟨qu,a1,a2,_⟩:=o6.u u hu;exact⟨qu,a1,fun j hj=>da j (a2 j hj).1⟩) (by rw[List.length_append,List.length_append,KS,KS];omega) w5
 rw[show iv ((0:Nat):Int)=.int .i64 0 from rfl] at e7;rw[List.drop_zero,u6] at w6;have m6:=(m4.1.trans l6).more s6 m4.2;have heq:le 2 1++Zg4 (ZN s.K)++le s.A.length 2++Zap (A.allK s)=ZfQ (ZN s.K) (A.allK s):=by
  unfold ZfQ;have:(A.allK s).length=s.A.length:=by rw[<- u6,List.length_map,hlen]
  rw[this];simp[List.append_assoc]
 rw[heq] at w6;have hel:=Zsm (fun k hk=>ZtV (g1 k hk)) g2 g3 g4;obtain⟨v,qv,X7,e8,r7,l7,o7⟩:=ZrR (n:=n+9) (by omega) w6;have e8:R (n+11) J7 [pt p] X6=_:=e8;refine⟨v,qv,X7,?_,r7,m6.1.trans l7,fun j hj=>by have h1:=o7 j hj;have h2:=m6.1.len;omega⟩;rw[R,ZvT rfl];unfold Zal;rw[Za q0,Zb,if_neg (by simp),Za z1,Za z2,Za e1,Za e2,Za e3,Za e4,Za c4,Za e5,Za e6,Za hla,Qk e7,ZI,Yi,Za e8];rfl
end
end
section
variable {X X' Y:Zd} {n:Nat} {o:OpT}
def GlX (X:Zd):Prop:=X[0]?=some (.cells (ZbO.map strv) 1 false true)
theorem GlX.le (h:GlX X) (hl:HLe X X'):GlX X':=hl _ _ h
def GlH (X:Zd):Prop:=X.take gl.length=gl
theorem GlH.at (h:GlH X) {i:Nat} (hi:i < 4):X[i]?=gl[i]?:=by
 have:(X.take gl.length)[i]?=gl[i]?:=by rw[h]
 rwa [List.getElem?_take,if_pos (show i < gl.length from hi)] at this
theorem GlH.x (h:GlH X):GlX X:=h.at (by omega)
theorem GlH.of (h:∀ i,i < 4->X[i]?=gl[i]?):GlH X:=by
 apply List.ext_getElem?
 intro i;rw[List.getElem?_take];split
 .exact h i ‹_›
 .rw[List.getElem?_eq_none (Nat.le_of_not_lt ‹_›)]
theorem ZEy {i:Nat} (hi:i < 4):∃ o,gl[i]?=some o:=⟨gl[i]'hi,List.getElem?_eq_getElem hi⟩
theorem GlH.le (h:GlH X) (hl:HLe X X'):GlH X':=.of fun i hi=>by
 obtain⟨o,ho⟩:=ZEy hi;rw[ho];exact hl _ _ ((h.at hi).trans ho)
theorem GlH.step {o1 o2:List Nat} (h:GlH X) (hs:Zo o1 X o2 X') (hn:∀ j∈o1,4<=j):GlH X':=.of fun i hi=>by
 obtain⟨o,ho⟩:=ZEy hi;rw[ho];exact hs.get ((h.at hi).trans ho) fun hm=>by have:=hn i hm;omega
theorem Zlj (o:OpT) (X:Zd):alc 1 (.agg o.cells.toArray) X=some (pt X.length,X++[.cells o.cells 1 false false]):=rfl
theorem ZfD {p f:Nat} {x:Value} (h:X[p]?=some (.cells o.cells 1 false false)) (hf:o.cells[f]?=some x):ld1 (pa p f) X=some (x,X):=Zy h hf
theorem ZDn {c:UInt8} (hc:c=97\/c=98\/c=110\/c=114):∃ X',R (n+1) Zhk [.agg o.cells.toArray,.int .u8 c.toNat] X=some (.bool (ZlS o c),X')/\HLe X X':=by
 have e1:=Zlj o X;have k1:HLe X (X++[.cells o.cells 1 false false]):=.app _ _;have c1:(X++[Zf.cells o.cells 1 false false])[X.length]?=some (.cells o.cells 1 false false):=Zn;generalize X++[Zf.cells o.cells 1 false false]=X1 at e1 k1 c1;generalize X.length=p at e1 c1;have l3:ld1 (pa p 3) X1=some (.int .u8 o.nd,X1):=Zy c1 rfl;have l4:ld1 (pa p 4) X1=some (.int .u8 o.rl,X1):=Zy c1 rfl;refine⟨X1,?_,k1⟩;rw[R,Zxl rfl];unfold Zk7;rw[Za e1,Za ZA];rcases hc with rfl|rfl|rfl|rfl
 .rw[Zb,if_neg (by decide),Za ZA,Zb,if_neg (by decide)];rfl
 .rw[Zb,if_neg (by decide),Za ZA,Zb,if_neg (by decide)];rfl
 .rw[Zb,if_pos (by decide),Za Zi,Za l3,Za Zs];have:decide ((o.nd:Int) < 7)=decide (o.nd < 7):=by rw[decide_eq_decide];omega
  rw[this];rfl
 .rw[Zb,if_neg (by decide),Za ZA,Zb,if_pos (by decide),Za Zi,Za l4,Za Qu];have h1:decide ((o.rl:Int)≥1)=decide (1<=o.rl):=by rw[decide_eq_decide];omega
  have h2:decide ((o.rl:Int)<=3)=decide (o.rl<=3):=by rw[decide_eq_decide];omega
  rw[h1];have hr:ZlS o 114=(decide (1<=o.rl) && decide (o.rl<=3)):=rfl;rw[hr];cases decide (1<=o.rl)
  .rw[Za (show gate (.bool false) true 3 _ X1=some ([QC,QC,QC],X1) from rfl),ZY,Za Zk];rfl
  .rw[Z4,Zm,Za Zi,Zm,Za l4,Zm,Za JB,Z5,ZY,Za Zk,h2];rfl
theorem ZIY {q:Nat} {s:Tx} {i:Nat} {c:UInt8} (h:X[q]?=some (.siter ⟨s.toArray⟩ i)) (hc:s[i]?=some c) (ha:c.toNat < 128) :
  ZjY (pt q) X=some (.tuple #[.bool true,iv i,.int .i32 c.toNat],X.set q (.siter ⟨s.toArray⟩ (i+1))):=by
 have hi:i < s.length:=(List.getElem?_eq_some_iff.1 hc).1;have hd:Utf8.decode ⟨s.toArray⟩ i=(c.toNat,1):=by
  have hg:(ByteArray.mk s.toArray).get! i=c:=by
   have h1:s.toArray[i]?=some c:=by simpa using hc
   simp[ByteArray.get!,h1,hc]
  unfold Utf8.decode;simp only[Nat.add_zero,hg];exact if_pos ha
 have hlt:i < (ByteArray.mk s.toArray).size:=by show i < s.toArray.size;simpa using hi
 have e:ZjY (pt q) X=(match X[q]? with
  | some (.siter s pos)=>
   if pos < s.size then some (.tuple #[.bool true,.int .i64 pos,.int .i32 ((Utf8.decode s pos).1:Nat)],X.set q (.siter s (pos+(Utf8.decode s pos).2)))
   else some (.tuple #[.bool false],X)
  | _=>none):=rfl
 rw[e,h];simp only[hd,hlt,if_true]
theorem ZHu {q:Nat} {s:Tx} {i:Nat} (h:X[q]?=some (.siter ⟨s.toArray⟩ i)) (hi:s.length<=i):ZjY (pt q) X=some (.tuple #[.bool false],X):=by
 unfold ZjY;simp only;rw[h];simp only;rw[if_neg (by simpa[ByteArray.size] using hi)]
def Zma (c:UInt8):Prop:=c=97\/c=98\/c=110\/c=114
instance (c:UInt8):Decidable (Zma c):=by unfold Zma;infer_instance
theorem ZEg (o:OpT):∀ c∈sgn o,Zma c:=by
 have:∀ k,∀ c∈ZbO.getD k [],Zma c:=by
  intro k
  match k with
  | 0=>decide
  | 1=>decide
  | 2=>decide
  | 3=>decide
  | 4=>decide
  | 5=>decide
  | 6=>decide
  | 7=>decide
  | 8=>decide
  | 9=>decide
  | 10=>decide
  | 11=>decide
  | 12=>decide
  | 13=>decide
  | 14=>decide
  | 15=>decide
  | 16=>decide
  | k+17=>intro c hc;simp[ZbO] at hc
 exact this _
theorem ZBb (o:OpT):(sgn o).length<=2:=by
 have:∀ k,(ZbO.getD k []).length<=2:=by
  intro k
  match k with
  | 0=>decide
  | 1=>decide
  | 2=>decide
  | 3=>decide
  | 4=>decide
  | 5=>decide
  | 6=>decide
  | 7=>decide
  | 8=>decide
  | 9=>decide
  | 10=>decide
  | 11=>decide
  | 12=>decide
  | 13=>decide
  | 14=>decide
  | 15=>decide
  | 16=>decide
  | k+17=>simp[ZbO]
 exact this _
theorem Zma.lt {c:UInt8} (h:Zma c):c.toNat < 128:=by
 rcases h with rfl|rfl|rfl|rfl<;>decide
theorem ZE9 (h:GlH X) (hk:o.kd < 17):R (n+1) Za0 [.agg o.cells.toArray] X=some (.agg (ZfM o).cells.toArray,X):=by
 have hf:ZtN [.agg o.cells.toArray]=some (.agg (ZfM o).cells.toArray):=by
  show(if 0<=(o.kd:Int)/\(o.kd:Int) < 17 then some (Zxz (o.kd:Int).toNat ⟨o.a.toArray⟩ ⟨o.b.toArray⟩ o.nd o.rl) else none)=_
  rw[if_pos ⟨by omega,by omega⟩];have e1:sgk ((o.kd:Int).toNat)=sgn o:=rfl;unfold Zxz;rw[e1];unfold ZfM OpT.cells
  congr 2
  simp only[List.contains_iff_mem,Int.toNat_natCast];by_cases h1:(97:UInt8)∈sgn o<;>by_cases h2:(98:UInt8)∈sgn o<;>by_cases h3:(110:UInt8)∈sgn o<;>by_cases h4:(114:UInt8)∈sgn o<;>simp[h1,h2,h3,h4]<;>first|exact⟨rfl,rfl⟩|rfl
 have:R (n+1) Za0 [.agg o.cells.toArray]=Zjn gl ZtN [.agg o.cells.toArray]:=rfl;rw[this];exact ZFV hf h
structure Zj1 (X0 Y:Zd) (o:OpT) (p1 p2 q:Nat) (s:Tx) (i:Nat) (bs:List UInt8) (own:List Nat):Prop where
 le:HLe X0 Y
 c1:Y[p1]?=some (.cells o.cells 1 false false)
 w:Wtr Y p2 bs own
 it:Y[q]?=some (.siter ⟨s.toArray⟩ i)
 n2:∀ j∈p2 :: own,X0.length<=j
 nq:X0.length<=q
 d1:p1∉p2 :: own
 dq:q∉p2 :: own
 d1q:p1≠q
variable {X0:Zd} {p1 p2 q:Nat} {s:Tx} {i:Nat} {bs:List UInt8} {own:List Nat}
theorem Zj1.turn (h:Zj1 X0 Y o p1 p2 q s i bs own):Zj1 X0 (Y.set q (.siter ⟨s.toArray⟩ (i+1))) o p1 p2 q s (i+1) bs own:=by
 have hlt:q < Y.length:=ZX h.it;exact⟨h.le.put h.nq,by rw[List.getElem?_set_ne (Ne.symm h.d1q)];exact h.c1,h.w.keep fun j hj=>List.getElem?_set_ne (fun e=>h.dq (by rw[e];exact hj)),by rw[List.getElem?_set_self hlt],h.n2,h.nq,h.d1,h.dq,h.d1q⟩
theorem Zj1.more {Y':Zd} {bs':List UInt8} {own':List Nat} (h:Zj1 X0 Y o p1 p2 q s i bs own) (hw:Wtr Y' p2 bs' own') (hs:Zo (p2 :: own) Y (p2 :: own') Y'):Zj1 X0 Y' o p1 p2 q s i bs' own':=by
 obtain⟨m1,m2⟩:=h.le.more hs h.n2;have hn:∀ a,a < Y.length->a∉p2 :: own->a∉p2 :: own':=fun a ha hna hm=>by
  rcases hs.own a hm with h1|h1
  .exact hna h1
  .omega
 exact⟨m1,hs.get h.c1 h.d1,hw,hs.get h.it h.dq,m2,h.nq,hn _ (ZX h.c1) h.d1,hn _ (ZX h.it) h.dq,h.d1q⟩
theorem ZCV {c:UInt8} (h:Zj1 X0 Y o p1 p2 q s i bs own) (hc:s[i]?=some c) (hs:Zma c) (ha:o.a.length<=65535) (hb:o.b.length<=65535) (hok:Zn3 o) (hbs:bs.length<=1000000) :
  ∃ Y' own',Zab.l1 (R (n+3)) (pt p1) (pt p2) (pt q) Y=some (.nrm [pt p1,pt p2,pt q],Y')/\Zj1 X0 Y' o p1 p2 q s (i+1) (bs++ZrZ o c) own':=by
 have e1:=ZIY h.it hc hs.lt;have h1:=h.turn;generalize Y.set q (.siter ⟨s.toArray⟩ (i+1))=Y1 at e1 h1;have hl:∀ f x,o.cells[f]?=some x->ld1 (pa p1 f) Y1=some (x,Y1):=fun f x hx=>Zy h1.c1 hx;unfold Zab.l1;rcases hs with rfl|rfl|rfl|rfl
 .obtain⟨Y2,own',e2,w2,s2⟩:=Zfq (n:=n) ha (by omega) h1.w;refine⟨Y2,own',?_,h1.more w2 s2⟩;rw[Za e1,Za QG,Zb,if_pos rfl,Za QE,Za (show bop .int .eql (.int .i32 ((97:UInt8).toNat:Nat)) (.int .i32 97) Y1=some (.bool true,Y1) from rfl)];rw[ZC (vs:=[pt p1,pt p2,pt q]) (H':=Y2) (by rw[Zb,if_pos rfl,Za Zi,Za (hl 1 _ rfl),Za e2];rfl),ZY];rfl
 .obtain⟨Y2,own',e2,w2,s2⟩:=Zfq (n:=n) hb (by omega) h1.w;refine⟨Y2,own',?_,h1.more w2 s2⟩;rw[Za e1,Za QG,Zb,if_pos rfl,Za QE,Za (show bop .int .eql (.int .i32 ((98:UInt8).toNat:Nat)) (.int .i32 97) Y1=some (.bool false,Y1) from rfl)];rw[ZC (vs:=[pt p1,pt p2,pt q]) (H':=Y2) (by
   rw[Zb,if_neg (by simp),Za (show bop .int .eql (.int .i32 ((98:UInt8).toNat:Nat)) (.int .i32 98) Y1=some (.bool true,Y1) from rfl)];rw[ZC (vs:=[pt p1,pt p2,pt q]) (H':=Y2) (by rw[Zb,if_pos rfl,Za Zi,Za (hl 2 _ rfl),Za e2];rfl),ZY];rfl),ZY]
  rfl
 .obtain⟨Y2,own',e2,w2,s2⟩:=Zjc (n:=n+1) (x:=o.nd) (by have:=hok.nd;omega) (by omega) h1.w;refine⟨Y2,own',?_,h1.more w2 s2⟩;rw[Za e1,Za QG,Zb,if_pos rfl,Za QE,Za (show bop .int .eql (.int .i32 ((110:UInt8).toNat:Nat)) (.int .i32 97) Y1=some (.bool false,Y1) from rfl)];rw[ZC (vs:=[pt p1,pt p2,pt q]) (H':=Y2) (by
   rw[Zb,if_neg (by simp),Za (show bop .int .eql (.int .i32 ((110:UInt8).toNat:Nat)) (.int .i32 98) Y1=some (.bool false,Y1) from rfl)];rw[ZC (vs:=[pt p1,pt p2,pt q]) (H':=Y2) (by
    rw[Zb,if_neg (by simp),Za (show bop .int .eql (.int .i32 ((110:UInt8).toNat:Nat)) (.int .i32 110) Y1=some (.bool true,Y1) from rfl)];rw[ZC (vs:=[pt p1,pt p2,pt q]) (H':=Y2) (by rw[Zb,if_pos rfl,Za Zi,Za (hl 3 _ rfl),Za e2];rfl),ZY];rfl),ZY]
   rfl),ZY]
  rfl
 .obtain⟨Y2,own',e2,w2,s2⟩:=Zjc (n:=n+1) (x:=o.rl) (by have:=hok.rl;omega) (by omega) h1.w;refine⟨Y2,own',?_,h1.more w2 s2⟩;rw[Za e1,Za QG,Zb,if_pos rfl,Za QE,Za (show bop .int .eql (.int .i32 ((114:UInt8).toNat:Nat)) (.int .i32 97) Y1=some (.bool false,Y1) from rfl)];rw[ZC (vs:=[pt p1,pt p2,pt q]) (H':=Y2) (by
   rw[Zb,if_neg (by simp),Za (show bop .int .eql (.int .i32 ((114:UInt8).toNat:Nat)) (.int .i32 98) Y1=some (.bool false,Y1) from rfl)];rw[ZC (vs:=[pt p1,pt p2,pt q]) (H':=Y2) (by
    rw[Zb,if_neg (by simp),Za (show bop .int .eql (.int .i32 ((114:UInt8).toNat:Nat)) (.int .i32 110) Y1=some (.bool false,Y1) from rfl)];rw[ZC (vs:=[pt p1,pt p2,pt q]) (H':=Y2) (by
     rw[Zb,if_neg (by simp),Za (show bop .int .eql (.int .i32 ((114:UInt8).toNat:Nat)) (.int .i32 114) Y1=some (.bool true,Y1) from rfl)];rw[ZC (vs:=[pt p1,pt p2,pt q]) (H':=Y2) (by rw[Zb,if_pos rfl,Za Zi,Za (hl 4 _ rfl),Za e2];rfl),ZY];rfl),ZY]
    rfl),ZY]
   rfl),ZY]
  rfl
theorem ZyU (ha:o.a.length<=65535) (hb:o.b.length<=65535) (c:UInt8):(ZrZ o c).length<=65537:=by
 unfold ZrZ;split
 .unfold txt;rw[List.length_append,KS];omega
 .split
  .unfold txt;rw[List.length_append,KS];omega
  .split
   .rw[KS];omega
   .split
    .rw[KS];omega
    .simp
theorem Zzo (ha:o.a.length<=65535) (hb:o.b.length<=65535) (hok:Zn3 o) (hsg:∀ c∈s,Zma c):∀ (t i:Nat) (bs:List UInt8) (own:List Nat) (Y:Zd),s.length - i=t->i<=s.length->bs.length+65537 * t<=1000000->Zj1 X0 Y o p1 p2 q s i bs own->
  ∃ Y' own',Zj (c3 (Zab.l1 (R (n+3)))) [pt p1,pt p2,pt q] Y=some (.ext 0 [pt p2],Y')/\Zj1 X0 Y' o p1 p2 q s s.length (bs++((s.drop i).map (ZrZ o)).flatten) own'
 | 0,i,bs,own,Y,ht,hi,hbs,h=>by
  have hi:i=s.length:=by omega
  subst hi;refine⟨Y,own,ZZ ?_,by rw[List.drop_length];simpa using h⟩;rw[ZY];unfold Zab.l1;rw[Za (ZHu h.it (Nat.le_refl _)),Za ZIb,Zb,if_neg (by simp)];rfl
 | t+1,i,bs,own,Y,ht,hi,hbs,h=>by
  have hlt:i < s.length:=by omega
  have hg:=List.getElem?_eq_getElem hlt;have hd:=List.drop_eq_getElem_cons hlt;have hm:=hsg _ (List.getElem_mem hlt);generalize s[i]=c at hg hd hm;obtain⟨Y1,own1,e1,h1⟩:=ZCV (n:=n) h hg hm ha hb hok (by omega);obtain⟨Y2,own2,e2,h2⟩:=Zzo ha hb hok hsg t (i+1) _ own1 Y1 (by omega) (by omega) (by have:=ZyU (o:=o) ha hb c;rw[List.length_append];omega) h1;refine⟨Y2,own2,(ZJ (by rw[ZY];exact e1)).trans e2,?_⟩;rw[hd,List.map_cons,List.flatten_cons,<- List.append_assoc];exact h2
theorem ZEe (hG:GlX X) (hk:o.kd < 17) (hok:Zn3 o) (ha:o.a.length<=65535) (hb:o.b.length<=65535) :
  ∃ v q X',R (n+4) Zhq [.agg o.cells.toArray] X=some (v,X')/\Zt X' v (u8s (ZfT o)) q/\HLe X X':=by
 have e1:=Zlj o X;have k1:HLe X (X++[Zf.cells o.cells 1 false false]):=.app _ _;have c1:(X++[Zf.cells o.cells 1 false false])[X.length]?=some (.cells o.cells 1 false false):=Zn;have n1:X.length<=X.length:=Nat.le_refl _;generalize X++[Zf.cells o.cells 1 false false]=X1 at e1 k1 c1;generalize hp1:X.length=p1 at e1 c1 n1;obtain⟨z1,z2,w0⟩:=ZvJ (H:=X1);have k2:HLe X1 (X1++[Zf.cells [.slice none 0 0] 1 false false]):=.app _ _;generalize X1++[Zf.cells [.slice none 0 0] 1 false false]=X2 at z2 w0 k2;generalize hp2:X1.length=p2 at z2 w0;have hlt1:p1 < X1.length:=ZX c1;have c2:=k2 _ _ c1;obtain⟨X3,own,e3,w3,s3⟩:=Zjc (n:=n+1) (x:=o.kd) (by omega) (by simp) w0;have hn2:∀ j∈[p2],X.length<=j:=fun j hj=>by have:j=p2:=(by simpa using hj);omega
 obtain⟨m3,o3⟩:=(k1.trans k2).more s3 hn2;have hd1:p1∉([p2]:List Nat):=by simp;omega
 have c3:=s3.get c2 hd1;have hlt2:p1 < X2.length:=ZX c2;have hd3:p1∉p2 :: own:=fun hm=>by
  rcases s3.own p1 hm with h1|h1
  .exact hd1 h1
  .omega
 have hl2:ld1 (pa p1 0) X2=some (.int .u8 o.kd,X2):=Zy c2 rfl;have hl3:ld1 (pa p1 0) X3=some (.int .u8 o.kd,X3):=Zy c3 rfl;have hsig:ld1 (.pointer (some ⟨0,o.kd,none⟩)) X3=some (strv (sgn o),X3):=by
  have h0:=hG.le m3;have h1:(ZbO.map strv)[o.kd]?=some (strv (sgn o)):=by
   rw[List.getElem?_map];have:ZbO[o.kd]?=some (sgn o):=by
    unfold sgn;rw[List.getD_eq_getElem?_getD,List.getElem?_eq_getElem (by simpa[ZbO] using hk)];rfl
   rw[this];rfl
  exact Zy (id:=0) h0 h1
 have hix:ZaD 17 1 (.pointer (some ⟨0,0,none⟩)) (.int .u8 o.kd) X3=some (.pointer (some ⟨0,o.kd,none⟩),X3):=by
  rw[QS,if_pos ⟨by omega,by omega⟩];simp
 have er:ZoE (strv (sgn o)) X3=some (pt X3.length,X3++[.siter ⟨(sgn o).toArray⟩ 0]):=rfl;have k4:HLe X3 (X3++[Zf.siter ⟨(sgn o).toArray⟩ 0]):=.app _ _;have c4:(X3++[Zf.siter ⟨(sgn o).toArray⟩ 0])[X3.length]?=some (.siter ⟨(sgn o).toArray⟩ 0):=Zn;have w4:=w3.hle k4;have hq:∀ j∈p2 :: own,j < X3.length:=w3.lt;generalize X3++[Zf.siter ⟨(sgn o).toArray⟩ 0]=X4 at er k4 c4 w4;have hlen3:=m3.len;generalize hqq:X3.length=q at er c4 hq hlen3;have h4:Zj1 X X4 o p1 p2 q (sgn o) 0 ([]++le o.kd 1) own:=
  ⟨m3.trans k4,k4 _ _ c3,w4,c4,o3,by omega,hd3,fun hm=>by have:=hq q hm;omega,fun e=>by have:=ZX c3;omega⟩
 have hsl:=ZBb o;obtain⟨X5,own5,e5,h5⟩:=Zzo (n:=n) ha hb hok (ZEg o) (sgn o).length 0 _ own X4 (by omega) (by omega) (by simp[KS];omega) h4;rw[List.drop_zero] at h5;have hwl:([]++le o.kd 1++((sgn o).map (ZrZ o)).flatten).length<=1000000000:=by
  have hf:∀ l:Tx,((l.map (ZrZ o)).flatten).length<=l.length * 65537:=by
   intro l
   induction l with
   | nil=>simp
   | cons c l ih=>
    have:=ZyU (o:=o) ha hb c;simp only[List.map_cons,List.flatten_cons,List.length_append,List.length_cons];omega
  have:=hf (sgn o);rw[List.length_append,List.nil_append,KS];omega
 obtain⟨v,qv,X6,e6,r6,l6,_⟩:=ZrR (n:=n+1) hwl h5.w;refine⟨v,qv,X6,?_,by simpa[ZfT] using r6,h5.le.trans l6⟩;have e3:R (n+3) Qi [pt p2,.int .u8 o.kd] X2=_:=e3;have e6:R (n+3) J7 [pt p2] X5=_:=e6;rw[R,Zw8 rfl];unfold Zab;rw[Za e1,Za z1,Za z2,Za Zi,Za hl2,Za e3,Za Zi,Za hl3,Za hix,Za hsig,Za er,Qk e5,ZI,Yi,Za e6];rfl
theorem ZII (a b:Tx):((⟨a.toArray⟩:ByteArray)==⟨b.toArray⟩)=decide (a=b):=by
 rw[ZpZ];by_cases h:a=b
 .subst h;simp
 .rw[decide_eq_false h];simp[h]
theorem ZHt (a b:Nat):(((a:Nat):Int)==(b:Nat))=decide (a=b):=by
 by_cases h:a=b
 .subst h;simp
 .rw[decide_eq_false h];exact beq_false_of_ne fun e=>h (Int.ofNat.inj e)
theorem Zvn {ks:List FK} {q:IntKind} {a b:Nat} {xs ys:List Value}:eqF (.int :: ks) (.int q a :: xs) (.int q b :: ys)=if a=b then eqF ks xs ys else some false:=by
 show(if q=q then(bif ((a:Int)==b) then eqF ks xs ys else some false) else none)=_
 rw[if_pos rfl,ZHt];by_cases h:a=b
 .rw[decide_eq_true h,if_pos h];rfl
 .rw[decide_eq_false h,if_neg h];rfl
theorem ZAW {ks:List FK} {a b:Tx} {xs ys:List Value}:eqF (.str :: ks) (strv a :: xs) (strv b :: ys)=if a=b then eqF ks xs ys else some false:=by
 show(bif ((⟨a.toArray⟩:ByteArray)==⟨b.toArray⟩) then eqF ks xs ys else some false)=_
 rw[ZII];by_cases h:a=b
 .rw[decide_eq_true h,if_pos h];rfl
 .rw[decide_eq_false h,if_neg h];rfl
theorem ZHU (o o':OpT):eqF [.int,.str,.str,.int,.int] o.cells o'.cells=some (decide (o=o')):=by
 obtain⟨k,a,b,d,r⟩:=o;obtain⟨k',a',b',d',r'⟩:=o';unfold OpT.cells;rw[Zvn,ZAW,ZAW,Zvn,Zvn];simp only[OpT.mk.injEq];by_cases h1:k=k'<;>by_cases h2:a=a'<;>by_cases h3:b=b'<;>by_cases h4:d=d'<;>by_cases h5:r=r'<;>simp[h1,h2,h3,h4,h5,eqF]
theorem ZBD (hsg:∀ c∈s,Zma c) (hn:s.length<=1000):∀ (t i:Nat) (Y:Zd) (sl:Value),s.length - i=t->i<=s.length->Y[p1]?=some (.cells o.cells 1 false false)->Sl Y sl (u8s s)->
  ∃ Y',Zj (c4 (Za3.l1 (R (n+1)))) [pt p1,sl,iv s.length,iv i] Y=some (if(s.drop i).all (ZlS o) then .ext 0 [pt p1] else .ret (iv 4),Y')/\HLe Y Y'
 | 0,i,Y,sl,ht,hi,h1,hs=>by
  have hi:i=s.length:=by omega
  subst hi;refine⟨Y,?_,.refl _⟩;rw[List.drop_length];refine ZZ ?_;rw[ZL];unfold Za3.l1;rw[Za Zs,Zb,if_neg (by simp)];rfl
 | t+1,i,Y,sl,ht,hi,h1,hs=>by
  have hlt:i < s.length:=by omega
  have hlt':(i:Int) < s.length:=by omega
  have hg:=List.getElem?_eq_getElem hlt;have hd:=List.drop_eq_getElem_cons hlt;have hm:=hsg _ (List.getElem_mem hlt);generalize s[i]=c at hg hd hm;have x1:=hs.ix (i:=i) (by rw[Jm];exact hlt) .i64 Y;have x2:ld1 (ixp sl i) Y=some (.int .u8 c.toNat,Y):=hs.ldx (by unfold u8s;rw[List.getElem?_map,hg];rfl);obtain⟨Y1,e1,k1⟩:=ZDn (n:=n) (o:=o) (X:=Y) hm;rw[hd,List.all_cons];cases hr:ZlS o c
  .refine⟨Y1,?_,k1⟩;rw[hr] at e1;refine Yu ?_;rw[ZL];unfold Za3.l1;rw[Za Zs,Zb,if_pos (by simpa using hlt'),Za x1,Za x2,Za (Z8 (n:=5) h1 rfl),Za e1,Za ZP,Zb,if_pos (by rfl)];rfl
  .rw[hr] at e1;obtain⟨Y2,e2,k2⟩:=ZBD hsg hn t (i+1) Y1 sl (by omega) (by omega) (k1 _ _ h1) (hs.mono k1);refine⟨Y2,?_,k1.trans k2⟩;rw[Bool.true_and];refine(ZJ ?_).trans e2;rw[ZL];unfold Za3.l1;rw[Za Zs,Zb,if_pos (by simpa using hlt'),Za x1,Za x2,Za (Z8 (n:=5) h1 rfl),Za e1,Za ZP,Zb,if_neg (by simp),Za ZG,Je (by omega)];rfl
theorem gvF {m:M Value} {k:Value->M Value} {H:Zd}:bind (gateV (.bool true) false m) k H=k QC H:=rfl
theorem Zwt (hG:GlH X) (hok:Zn3 o) (ha:o.a.length<=65535) (hb:o.b.length<=65535):∃ X',R (n+5) ZcT [.agg o.cells.toArray] X=some (iv (checkO o),X')/\HLe X X':=by
 have e1:=Zlj o X;have k1:HLe X (X++[Zf.cells o.cells 1 false false]):=.app _ _;have c1:(X++[Zf.cells o.cells 1 false false])[X.length]?=some (.cells o.cells 1 false false):=Zn;generalize X++[Zf.cells o.cells 1 false false]=X1 at e1 k1 c1;generalize X.length=p1 at e1 c1;have hl:∀ f x,o.cells[f]?=some x->ld1 (pa p1 f) X1=some (x,X1):=fun f x hx=>Zy c1 hx;have hA:ldA 5 (pt p1) X1=some (.agg o.cells.toArray,X1):=Z8 (n:=5) c1 rfl;have hcv:cvi .i64 (.int .u8 o.kd) X1=some (iv o.kd,X1):=by rw[Qx,w64 (by omega) (by have:=hok.kd;omega)]
 have hge:bop .int .geq (iv o.kd) (.int .i64 17) X1=some (.bool (decide (17<=o.kd)),X1):=by rw[Qu];congr 3;rw[decide_eq_decide];omega
 rw[R,ZAe rfl];unfold Za3;rw[Za e1,Za Zi,Za (hl 0 _ rfl),Za hcv,Za hge];by_cases hk:17<=o.kd
 .rw[decide_eq_true hk];refine⟨X1,?_,k1⟩;have hck:checkO o=4:=by unfold checkO;rw[if_pos (.inl hk)]
  rw[hck];rw[gvF,gvF,gvF,gvF,Ql,gvF,Za Zk];rfl
 rw[decide_eq_false hk];have hk:o.kd < 17:=by omega
 have hG1:=hG.le k1;have eb:R (n+4) Za0 [.agg o.cells.toArray] X1=some (.agg (ZfM o).cells.toArray,X1):=ZE9 (n:=n+3) hG1 hk;have hne:bop (.flat [.int,.str,.str,.int,.int]) .neq (.agg o.cells.toArray) (.agg (ZfM o).cells.toArray) X1=some (.bool (!decide (o=ZfM o)),X1):=by
  have:eqv (.flat [.int,.str,.str,.int,.int]) (.agg o.cells.toArray) (.agg (ZfM o).cells.toArray)=some (decide (o=ZfM o)):=ZHU o (ZfM o);unfold bop;simp only[this];rfl
 have gt:∀ {m:M Value} {k:Value->M Value},bind (gateV (.bool false) false m) k X1=bind m k X1:=fun {m k}=>rfl;rw[gt,Za hA,gt,Za hA,gt,Za eb,gt,Za hA,Ql,gt,Za hne,Za Zk];simp only[cond_false];by_cases hbr:o=ZfM o
 .rw[decide_eq_true hbr,Zb,if_neg (by simp)];have hsig:ld1 (.pointer (some ⟨0,o.kd,none⟩)) X1=some (strv (sgn o),X1):=by
   have h1:(ZbO.map strv)[o.kd]?=some (strv (sgn o)):=by
    rw[List.getElem?_map];have:ZbO[o.kd]?=some (sgn o):=by
     unfold sgn;rw[List.getD_eq_getElem?_getD,List.getElem?_eq_getElem (by simpa[ZbO] using hk)];rfl
    rw[this];rfl
   exact Zy (id:=0) hG1.x h1
  have hix:ZaD 17 1 (.pointer (some ⟨0,0,none⟩)) (.int .u8 o.kd) X1=some (.pointer (some ⟨0,o.kd,none⟩),X1):=by
   rw[QS,if_pos ⟨by omega,by omega⟩];simp
  have es:s2b (strv (sgn o)) X1=some (.slice (some ⟨X1.length,0,none⟩) (sgn o).length (sgn o).length,X1++[.cells (u8s (sgn o)) 1 true false]):=by
   unfold s2b Zk6;simp only[strv];rfl
  have k2:HLe X1 (X1++[Zf.cells (u8s (sgn o)) 1 true false]):=.app _ _;have s2:Sl (X1++[Zf.cells (u8s (sgn o)) 1 true false]) (.slice (some ⟨X1.length,0,none⟩) (u8s (sgn o)).length (sgn o).length) (u8s (sgn o)):=Sl.one (es:=1) (g:=true) (ro:=false) Zn;rw[Jm] at s2;generalize X1++[Zf.cells (u8s (sgn o)) 1 true false]=X2 at es k2 s2;generalize X1.length=q at es s2;have hln:ZB (.slice (some ⟨q,0,none⟩) (sgn o).length (sgn o).length) X2=some (iv (sgn o).length,X2):=rfl;obtain⟨X3,e3,k3⟩:=ZBD (n:=n+3) (o:=o) (p1:=p1) (ZEg o) (by have:=ZBb o;omega) (sgn o).length 0 X2 _ (by omega) (by omega) (k2 _ _ c1) s2;rw[List.drop_zero] at e3;have e3:Zj (c4 (Za3.l1 (run Tryz.prog np lvs (n+4)))) [pt p1,.slice (some ⟨q,0,none⟩) (sgn o).length (sgn o).length,.int .i64 (sgn o).length,.int .i64 0] X2=_:=e3;rw[Za Zi,Za (hl 0 _ rfl),Za hix,Za hsig,Za es,Za hln];have c3:=k3 _ _ (k2 _ _ c1);have hl3:∀ f x,o.cells[f]?=some x->ld1 (pa p1 f) X3=some (x,X3):=fun f x hx=>Zy c3 hx;cases hall:(sgn o).all (ZlS o) with
  | false=>
   rw[hall,if_neg (by simp)] at e3;refine⟨X3,?_,(k1.trans k2).trans k3⟩;have hck:checkO o=4:=by unfold checkO;rw[if_neg (fun h=>h.elim (fun h=>by omega) (fun h=>h hbr)),hall,if_neg (by simp)]
   rw[hck,KG e3];rfl
  | true=>
   rw[hall,if_pos rfl] at e3;have hcl:checkO o=if 64 < o.a.length+o.b.length\/64 < (ZfT o).length then 3 else 0:=by unfold checkO;rw[if_neg (fun h=>h.elim (fun h=>by omega) (fun h=>h hbr)),hall,if_pos rfl]
   rw[hcl,Qk e3,ZI,Yi,Za Zi,Za (hl3 1 _ rfl),Za Qg,Za Zi,Za (hl3 2 _ rfl),Za Qg,Za ZG,w64 (by omega) (by omega)];have hgt:bop .int .gtr (.int .i64 ((o.a.length:Int)+o.b.length)) (.int .i64 64) X3=some (.bool (decide (64 < o.a.length+o.b.length)),X3):=by rw[Z0];congr 3;rw[decide_eq_decide];omega
   rw[Za hgt];by_cases hab:64 < o.a.length+o.b.length
   .refine⟨X3,?_,(k1.trans k2).trans k3⟩;rw[decide_eq_true hab,if_pos (.inl hab),Za (show gate (.bool true) false 4 _ X3=some ([QC,QC,QC,QC],X3) from rfl),ZL,Za Zk];rfl
   .obtain⟨v,qv,X4,e4,r4,l4⟩:=ZEe (n:=n) (X:=X3) ((hG1.le (k2.trans k3)).x) hk hok ha hb;have hlv:ZB v X4=some (iv (ZfT o).length,X4):=by have:=r4.rd.len (H':=X4);rwa [Jm] at this
    have hg4:bop .int .gtr (iv (ZfT o).length) (.int .i64 64) X4=some (.bool (decide (64 < (ZfT o).length)),X4):=by
     generalize(ZfT o).length=w;have hq:decide ((w:Int) > 64)=decide (64 < w):=by rw[decide_eq_decide];omega
     rw[Z0,hq]
    refine⟨X4,?_,((k1.trans k2).trans k3).trans l4⟩;rw[decide_eq_false hab,Z4,Zm,Za (Z8 (n:=5) c3 rfl),Zm,Za e4,Zm,Za hlv,Zm,Za hg4,Z5,ZL,Za Zk];simp only[cond_false];by_cases hw:64 < (ZfT o).length
    .rw[decide_eq_true hw,if_pos (.inr hw)];rfl
    .rw[decide_eq_false hw,if_neg (fun h=>h.elim hab hw)];rfl
 .refine⟨X1,?_,k1⟩;have hck:checkO o=4:=by unfold checkO;rw[if_pos (.inr hbr)]
  rw[hck,decide_eq_false hbr,Zb,if_pos (by simp)];rfl
end
section
variable {X X' Y:Zd} {n:Nat}
def Jr (r:Qy) (lv:Value):List Value:=[.int .u64 r.num,iv r.e,lv]
def QY (rows:List Qy) (lvs:List Value):List Value:=((rows.zip lvs).map fun p=>Jr p.1 p.2).flatten
structure ZB3 (X:Zd) (lv:Value) (l:List Tx) (fr:List Nat):Prop where
 sl:Sl X lv (l.map strv)
 one:oneCell lv=true
 fr:∀ id,own1 lv=some id->id∈fr
 few:l.length<=1000
structure Tab (X:Zd) (t:Nat) (rows:List Qy) (lvs:List Value) (fr:List Nat):Prop where
 cell:X[t]?=some (.cells (QY rows lvs) 1 false false)
 n8:rows.length=8
 l8:lvs.length=8
 sep:∀ (i:Nat) lv,lvs[i]?=some lv->own1 lv≠some t
 t:t∈fr
 lt:∀ j∈fr,j < X.length
 txt:∀ (i:Nat) r lv,rows[i]?=some r->lvs[i]?=some lv->ZB3 X lv r.l fr
 err:∀ r∈rows,r.e≠0->r.l=[]
theorem ZB3.keep {lv:Value} {l:List Tx} {fr:List Nat} (h:ZB3 X lv l fr) (hk:∀ j∈fr,X'[j]?=X[j]?):ZB3 X' lv l fr:=
 ⟨h.sl.keep fun id hi=>hk id (h.fr id hi),h.one,h.fr,h.few⟩
theorem Tab.keep {t:Nat} {rows:List Qy} {lvs:List Value} {fr:List Nat} (h:Tab X t rows lvs fr) (hk:∀ j∈fr,X'[j]?=X[j]?) (hl:X.length<=X'.length):Tab X' t rows lvs fr:=
 ⟨by rw[hk t h.t];exact h.cell,h.n8,h.l8,h.sep,h.t,fun j hj=>Nat.lt_of_lt_of_le (h.lt j hj) hl,fun i r lv h1 h2=>(h.txt i r lv h1 h2).keep hk,h.err⟩
theorem ZBe {α β:Type} {l:List α} {m:List β} {i:Nat} {a:α} {b:β} (h1:l[i]?=some a) (h2:m[i]?=some b):(l.zip m)[i]?=some (a,b):=by
 rw[List.getElem?_zip_eq_some];exact⟨h1,h2⟩
theorem ZsF {rows:List Qy} {lvs:List Value}:∀ r∈(rows.zip lvs).map (fun p=>Jr p.1 p.2),r.length=3:=by
 intro r hr;obtain⟨p,_,rfl⟩:=List.mem_map.1 hr;rfl
theorem Zig {rows:List Qy} {lvs:List Value} {i:Nat} {r:Qy} {lv:Value} (hr:rows[i]?=some r) (hl:lvs[i]?=some lv):((QY rows lvs).drop (i * 3)).take 3=Jr r lv:=by
 have h1:((rows.zip lvs).map (fun p=>Jr p.1 p.2))[i]?=some (Jr r lv):=by rw[List.getElem?_map,ZBe hr hl];rfl
 have:=Zlw (rest:=[]) ZsF h1
 rwa [List.append_nil] at this
theorem Zhn {rows:List Qy} {lvs:List Value} {i:Nat} {r:Qy} {lv:Value} (hr:rows[i]?=some r) (hl:lvs[i]?=some lv) {f:Nat} {v:Value} (hv:(Jr r lv)[f]?=some v):(QY rows lvs)[i * 3+f]?=some v:=by
 rw[<- Zig hr hl,List.getElem?_take] at hv;split at hv
 .rwa [List.getElem?_drop] at hv
 .cases hv
theorem ZgA {rows:List Qy} {lvs:List Value} (h1:rows.length=8) (h2:lvs.length=8):(QY rows lvs).length=24:=by
 have:=ZdE (es:=3) (rows:=(rows.zip lvs).map fun p=>Jr p.1 p.2) ZsF;unfold QY;rw[this];simp[h1,h2]
theorem Tab.row {t:Nat} {rows:List Qy} {lvs:List Value} {fr:List Nat} (h:Tab X t rows lvs fr) {c:Nat} (hc:c < 8):∃ r lv,rows[c]?=some r/\lvs[c]?=some lv:=
 ⟨rows[c]'(by rw[h.n8];exact hc),lvs[c]'(by rw[h.l8];exact hc),List.getElem?_eq_getElem _,List.getElem?_eq_getElem _⟩
theorem Tab.ix {c t:Nat} (hc:c < 8):ZaD 8 3 (pa t 0) (.int .u8 c) X=some (pa t (c * 3),X):=by
 rw[QS,if_pos ⟨by omega,by omega⟩];simp
theorem Zx2 {a:Nat}:R (n+1) K8 [.int .u64 a] X=some (.bool false,X):=by
 rw[R,Zoa rfl];unfold Zfk;rw[Za Zl];simp[ret]
theorem ZI0 {a b:Nat}:R (n+2) Zai [.int .u64 a,.int .u64 b] X=some (iv (if a < b then -1 else if b < a then 1 else 0),X):=by
 rw[R,ZmR rfl];unfold ZdC;have e1:R (n+1) K8 [.int .u64 a] X=_:=Zx2;have e2:R (n+1) K8 [.int .u64 b] X=_:=Zx2;have q1:bop .int .lss (.int .u64 a) (.int .u64 b) X=some (.bool (decide (a < b)),X):=by
  have hq:decide ((a:Int) < b)=decide (a < b):=by rw[decide_eq_decide];omega
  rw[Zs,hq]
 have q2:bop .int .gtr (.int .u64 a) (.int .u64 b) X=some (.bool (decide (b < a)),X):=by
  have hq:decide ((a:Int) > b)=decide (b < a):=by rw[decide_eq_decide];omega
  rw[Z0,hq]
 rw[Za e1,Za e2,Zb,if_neg (by simp),Zb,if_neg (by simp),Za q1];by_cases h1:a < b
 .rw[decide_eq_true h1,Zb,if_pos rfl,if_pos h1];rfl
 .rw[decide_eq_false h1,Zb,if_neg (by simp),if_neg h1,Za q2];by_cases h2:b < a
  .rw[decide_eq_true h2,Zb,if_pos rfl,if_pos h2];rfl
  .rw[decide_eq_false h2,Zb,if_neg (by simp),if_neg h2];rfl
theorem Zvy {rows:List Qy} {c m:Nat} (h:8<=c\/m=0\/1099511627776 < m):judgeS rows c m=0:=by unfold judgeS;rw[if_pos h]
theorem ZBv {t c m:Nat} {rows:List Qy} {lvs:List Value} {fr:List Nat} (h:Tab X t rows lvs fr):R (n+3) KK [pt t,.int .u8 c,.int .u64 m] X=some (iv (judgeS rows c m),X):=by
 rw[R,ZnA rfl];unfold Zey;have q1:bop .int .geq (.int .u8 c) (.int .u8 8) X=some (.bool (decide (8<=c)),X):=by rw[Qu];congr 3;rw[decide_eq_decide];omega
 have q2:bop .int .eql (.int .u64 m) (.int .u64 0) X=some (.bool (decide (m=0)),X):=by
  rw[ZA];congr 3;by_cases h:m=0
  .subst h;rfl
  .rw[decide_eq_false h];simpa using h
 have q3:bop .int .gtr (.int .u64 m) (.int .u64 1099511627776) X=some (.bool (decide (1099511627776 < m)),X):=by rw[Z0];congr 3;rw[decide_eq_decide];omega
 rw[Za q1];by_cases h1:8<=c
 .rw[decide_eq_true h1,Zvy (.inl h1),Za (show gate (.bool true) false 2 _ X=some ([QC,QC],X) from rfl),ZT,Za Zk];simp only[cond_true];rw[Za (show gate (.bool true) false 2 _ X=some ([QC,QC],X) from rfl),ZT,Za Zk];rfl
 rw[decide_eq_false h1,Z4,Zm,Za q2,Z5,ZT,Za Zk];simp only[cond_false];by_cases h2:m=0
 .rw[decide_eq_true h2,Zvy (.inr (.inl h2)),Za (show gate (.bool true) false 2 _ X=some ([QC,QC],X) from rfl),ZT,Za Zk];rfl
 rw[decide_eq_false h2,Z4,Zm,Za q3,Z5,ZT,Za Zk];simp only[cond_false];by_cases h3:1099511627776 < m
 .rw[decide_eq_true h3,Zvy (.inr (.inr h3)),Zb,if_pos rfl];rfl
 have hc:c < 8:=by omega
 obtain⟨r,lv,hr,hl⟩:=h.row hc;have hj:judgeS rows c m=if m < r.num then 1 else if m=r.num then 2 else 3:=by
  unfold judgeS;rw[if_neg (by omega),hr]
 have e1:ld1 (pa t (c * 3)) X=some (.int .u64 r.num,X):=Zy h.cell (by have:=Zhn hr hl (f:=0) (v:=.int .u64 r.num) rfl;simpa using this);have e2:R (n+2) Zai [.int .u64 m,.int .u64 r.num] X=_:=ZI0 (n:=n);rw[decide_eq_false h3,Zb,if_neg (by simp),Za Zg,Za Zi,Za (Tab.ix hc),Za (show fa 0 (pa t (c * 3)) X=some (pa t (c * 3),X) from by rw[YA,Nat.add_zero]),Za e1,Za e2,Za ZG,hj];by_cases h4:m < r.num
 .rw[if_pos h4,if_pos h4];rfl
 .rw[if_neg h4,if_neg h4];by_cases h5:r.num < m
  .rw[if_pos h5,if_neg (by omega)];rfl
  .rw[if_neg h5,if_pos (by omega)];rfl
def ZCq (rows:List Qy) (c:Nat):Nat:=match rows[c]? with
 | some r=>r.num
 | none=>0
theorem ZEB {t c:Nat} {rows:List Qy} {lvs:List Value} {fr:List Nat} (h:Tab X t rows lvs fr):R (n+1) YE [pt t,.int .u8 c] X=some (.int .u64 (ZCq rows c),X):=by
 rw[R,Zpi rfl];unfold Zfm;have q1:bop .int .geq (.int .u8 c) (.int .u8 8) X=some (.bool (decide (8<=c)),X):=by rw[Qu];congr 3;rw[decide_eq_decide];omega
 rw[Za q1];by_cases h1:8<=c
 .rw[decide_eq_true h1,Zb,if_pos rfl];unfold ZCq;rw[List.getElem?_eq_none (by rw[h.n8];exact h1)];rfl
 .have hc:c < 8:=by omega
  obtain⟨r,lv,hr,hl⟩:=h.row hc;have e1:ld1 (pa t (c * 3)) X=some (.int .u64 r.num,X):=Zy h.cell (by have:=Zhn hr hl (f:=0) (v:=.int .u64 r.num) rfl;simpa using this);rw[decide_eq_false h1,Zb,if_neg (by simp),Za Zg,Za Zi,Za (Tab.ix hc),Za (show fa 0 (pa t (c * 3)) X=some (pa t (c * 3),X) from by rw[YA,Nat.add_zero]),Za e1];unfold ZCq;rw[hr];rfl
theorem ZFz {lv:Value} {l:List Tx} (h:Sl X lv (l.map strv)) (hl:l.length<=100000):∃ v q X',R (n+1) Y9 [lv] X=some (v,X')/\Zt X' v (l.map strv) q/\HLe X X'/\∀ j∈q,X.length<=j:=by
 have hlm:(l.map strv).length=l.length:=List.length_map _;rw[R,Zh4 rfl];unfold ZaY;rcases h.isnil (H':=X) with⟨rfl,h0,e⟩|e
 .refine⟨.slice none 0 0,[],X,?_,by rw[h0];exact Zt.nil,.refl _,by simp⟩;rw[Za e];rfl
 .have hb2:Sl (X++[.cells [] 1 false false]) lv (l.map strv):=h.mono (.app _ _);obtain⟨sl',X',own',e2,hr,hle,ho⟩:=ZzO (b:=16) hb2 (by rw[hlm];omega) (by rw[hlm];omega) (s:=.slice (some ⟨X.length,0,none⟩) 0 0) (.inr ⟨X.length,false,rfl,Zn,rfl⟩);refine⟨sl',own',X',?_,hr,(HLe.app _ _).trans hle,fun j hj=>?_⟩
  .rw[Za e,Zb,if_neg (by simp),Za ZFa,Za e2];rfl
  .rcases ho j hj with h|⟨_,h⟩
   .simp at h;omega
   .cases h;exact Nat.le_refl _
def Wk (e:Int) (l:List Tx):List Tx:=if e=0 then l else[]
theorem Zsy {e:Int} {lv:Value} {l:List Tx} (h:Sl X lv (l.map strv)) (hl:l.length<=1000) (h1:oneCell lv=true):∃ v q X',R (n+2) Zao [.agg #[iv e,lv]] X=some (.agg #[iv e,v],X')/\Zt X' v ((Wk e l).map strv) q/\HLe X X'/\∀ j∈q,X.length<=j:=by
 have a1:alc 1 (.agg #[iv e,lv]) X=some (pt X.length,X++[.cells [iv e,lv] 1 false false]):=by
  unfold alc Zvq;rw[if_pos (by simp[Value.cells,oneCell,h1]<;>exact h1)];rfl
 have k1:HLe X (X++[Zf.cells [iv e,lv] 1 false false]):=.app _ _;have c1:(X++[Zf.cells [iv e,lv] 1 false false])[X.length]?=some (.cells [iv e,lv] 1 false false):=Zn;have n1:X.length<=X.length:=Nat.le_refl _;generalize X++[Zf.cells [iv e,lv] 1 false false]=X1 at a1 k1 c1;generalize hp1:X.length=p1 at a1 c1 n1;have a2:alc 1 (.agg #[.int .i64 0,.slice none 0 0]) X1=some (pt X1.length,X1++[.cells [.int .i64 0,.slice none 0 0] 1 false false]):=rfl;have k2:HLe X1 (X1++[Zf.cells [.int .i64 0,.slice none 0 0] 1 false false]):=.app _ _;have c2:(X1++[Zf.cells [.int .i64 0,.slice none 0 0] 1 false false])[X1.length]?=some (.cells [.int .i64 0,.slice none 0 0] 1 false false):=Zn;have hlt:=ZX c1;have d1:=k2 _ _ c1;generalize X1++[Zf.cells [.int .i64 0,.slice none 0 0] 1 false false]=X2 at a2 k2 c2 d1;generalize hp2:X1.length=p2 at a2 c2;have hne:p2≠p1:=by omega
 have k12:=k1.trans k2;rw[R,ZuU rfl];unfold ZjG;rw[Za a1,Za a2,Za Zi,Za (Zy d1 rfl),Za Zl];by_cases he:e=0
 .subst he;obtain⟨v,q,X3,e3,r3,l3,o3⟩:=ZFz (n:=n) (h.mono k12) (by omega);have e3:R (n+1) Y9 [lv] X2=_:=e3;have f1:=l3 _ _ d1;have f2:=l3 _ _ c2;have s4:st1 (pa p1 1) v X3=some (undef,X3.set p1 (.cells [iv 0,v] 1 false false)):=Wq (o:=1) f1 (by simp) r3.one.1;have g1:(X3.set p1 (.cells [iv 0,v] 1 false false))[p1]?=some (.cells [iv 0,v] 1 false false):=ZW f1;have g2:(X3.set p1 (.cells [iv 0,v] 1 false false))[p2]?=some (.cells [.int .i64 0,.slice none 0 0] 1 false false):=by rw[List.getElem?_set_ne (Ne.symm hne)];exact f2
  have k4:HLe X (X3.set p1 (.cells [iv 0,v] 1 false false)):=(k12.trans l3).put (by omega);have r4:Zt (X3.set p1 (.cells [iv 0,v] 1 false false)) v (l.map strv) q:=r3.keep fun j hj=>List.getElem?_set_ne (fun e=>by have:=o3 j hj;have:=k2.len;have:=ZX d1;omega);generalize X3.set p1 (.cells [iv 0,v] 1 false false)=X4 at s4 g1 g2 k4 r4;have s5:stA 2 (pt p2) (.agg #[iv 0,v]) X4=some (undef,X4.set p2 (.cells [iv 0,v] 1 false false)):=ZbD (vs:=[iv 0,v]) g2 rfl rfl (by rw[List.all_cons,List.all_cons,r4.one.1];rfl);have g3:(X4.set p2 (.cells [iv 0,v] 1 false false))[p2]?=some (.cells [iv 0,v] 1 false false):=ZW g2;have hp2l:p2 < X2.length:=ZX c2;refine⟨v,q,X4.set p2 (.cells [iv 0,v] 1 false false),?_,?_,k4.put (by omega),fun j hj=>by have:=o3 j hj;have:=k12.len;omega⟩
  .rw[Zb,if_neg (by simp),Za Zi,Za (Zy d1 rfl),Za e3,Za Zi,Za s4,Za (Z8 (n:=2) g1 rfl),Za s5,Za (Z8 (n:=2) g3 rfl)];rfl
  .rw[show Wk 0 l=l from rfl];exact r4.keep fun j hj=>List.getElem?_set_ne (fun e=>by have:=o3 j hj;omega)
 .have hb:bld (.agg #[.int .i64 0,.slice none 0 0]) [(0,1,iv e)] X2=some (.agg #[iv e,.slice none 0 0],X2):=rfl;have s5:stA 2 (pt p2) (.agg #[iv e,.slice none 0 0]) X2=some (undef,X2.set p2 (.cells [iv e,.slice none 0 0] 1 false false)):=ZbD (vs:=[iv e,.slice none 0 0]) c2 rfl rfl rfl;have g3:(X2.set p2 (.cells [iv e,.slice none 0 0] 1 false false))[p2]?=some (.cells [iv e,.slice none 0 0] 1 false false):=ZW c2;refine⟨.slice none 0 0,[],X2.set p2 (.cells [iv e,.slice none 0 0] 1 false false),?_,?_,k12.put (by omega),by simp⟩
  .rw[Zb,if_pos (by simpa using he),Za Zi,Za (Zy d1 rfl),Za hb,Za s5,Za (Z8 (n:=2) g3 rfl)];rfl
  .rw[show Wk e l=[] from if_neg he];exact Zt.nil
end
section
variable {X X' Y:Zd} {n:Nat}
def ZbN:List Qy:=List.replicate 8 ⟨0,0,[]⟩
theorem Zur:R (n+1) Zc3 [] X=some (pt X.length,X++[.cells (QY ZbN (List.replicate 8 (.slice none 0 0))) 1 false false]):=by
 rw[R,ZyP rfl];rfl
theorem ZBk {fr:List Nat} (h:X.length∈fr) (hl:∀ j∈fr,j < X.length+1):Tab (X++[.cells (QY ZbN (List.replicate 8 (.slice none 0 0))) 1 false false]) X.length ZbN (List.replicate 8 (.slice none 0 0)) fr:=by
 refine⟨Zn,rfl,rfl,fun i lv h2=>?_,h,by simpa using hl,fun i r lv h1 h2=>?_,fun r hr h=>?_⟩
 .rw[List.eq_of_mem_replicate (List.mem_of_getElem? h2)];intro e;cases e
 .have e1:=List.mem_of_getElem? h1;have e2:=List.mem_of_getElem? h2;rw[List.eq_of_mem_replicate e1,List.eq_of_mem_replicate e2];exact⟨Sl.nil,rfl,(fun id hi=>by cases hi),by simp⟩
 .rw[List.eq_of_mem_replicate hr]
theorem Zp3 {id o k es:Nat} {cs:List Value} {g ro:Bool} (h:X[id]?=some (.cells cs es g ro)) (hk:o+k<=cs.length):ldA k (pa id o) X=some (.agg ((cs.drop o).take k).toArray,X):=by
 unfold ldA;simp only;rw[h];simp only;rw[if_pos hk]
theorem ZBd {id o k es:Nat} {cs vs:List Value} {g:Bool} (h:X[id]?=some (.cells cs es g false)) (hk:o+k<=cs.length) (hv:vs.length=k) (h1:vs.all oneCell=true):stA k (pa id o) (.agg vs.toArray) X=some (undef,X.set id (.cells (splice cs vs o) es g false)):=by
 unfold stA;simp only;rw[h];simp only;rw[if_pos ⟨hk,by simpa using hv,by simpa using h1⟩]
theorem Zq6 {es:Nat} {row:List Value} (hrow:row.length=es):∀ {rows:List (List Value)} {i:Nat},(∀ r∈rows,r.length=es)->i < rows.length->splice rows.flatten row (i * es)=(rows.set i row).flatten
 | [],i,_,h=>by simp at h
 | r :: rows,0,hr,h=>by
  have:r.length=es:=hr r (by simp);unfold splice;simp[this,hrow]
 | r :: rows,i+1,hr,h=>by
  have h1:r.length=es:=hr r (by simp);have h2:=Zq6 hrow (fun x hx=>hr x (by simp[hx])) (rows:=rows) (i:=i) (by simpa using h);have:=Zug (pre:=r) (m:=rows.flatten) (new:=row) (o:=i * es);rw[List.flatten_cons,show(i+1) * es=r.length+i * es by rw[h1,Nat.add_mul];omega,this,h2];rfl
theorem ZA7 {rows:List Qy} {lvs:List Value} {c:Nat} {r:Qy} {lv:Value} (h1:rows.length=8) (h2:lvs.length=8) (hc:c < 8):splice (QY rows lvs) (Jr r lv) (c * 3)=QY (rows.set c r) (lvs.set c lv):=by
 unfold QY;rw[Zq6 (es:=3) (row:=Jr r lv) rfl ZsF (by simp[h1,h2,hc])]
 congr 1
 rw[<- List.map_set (f:=fun p:Qy × Value=>Jr p.1 p.2) (a:=(r,lv))]
 congr 1
 apply List.ext_getElem?
 intro i;rw[List.getElem?_set];by_cases e:c=i
 .subst e;have a1:(rows.set c r)[c]?=some r:=List.getElem?_set_self (by omega);have a2:(lvs.set c lv)[c]?=some lv:=List.getElem?_set_self (by omega);rw[if_pos rfl,ZBe a1 a2,if_pos (by simp[h1,h2,hc])]
 .rw[if_neg e]
  apply Option.ext
  intro p;rw[List.getElem?_zip_eq_some,List.getElem?_zip_eq_some,List.getElem?_set_ne e,List.getElem?_set_ne e]
theorem ZHI {t c:Nat} {rows:List Qy} {lvs:List Value} {fr:List Nat} {r:Qy} (h:Tab X t rows lvs fr) (hc:c < 8) (hr:rows[c]?=some r):∃ v q X',R (n+3) WD [pt t,.int .u8 c] X=some (.agg #[iv r.e,v],X')/\Zt X' v (r.l.map strv) q/\HLe X X'/\∀ j∈q,X.length<=j:=by
 obtain⟨r',lv,hr',hl⟩:=h.row hc;rw[hr] at hr';cases hr';have ht:=h.txt c r lv hr hl;have hkeep:Wk r.e r.l=r.l:=by
  unfold Wk;split
  .rfl
  .rename_i he;exact(h.err r (List.mem_of_getElem? hr) (fun e0=>he (by rw[e0];rfl))).symm
 have a2:alc 1 (.agg #[.int .i64 0,.slice none 0 0]) X=some (pt X.length,X++[.cells [.int .i64 0,.slice none 0 0] 1 false false]):=rfl;have k2:HLe X (X++[Zf.cells [.int .i64 0,.slice none 0 0] 1 false false]):=.app _ _;have c2:(X++[Zf.cells [.int .i64 0,.slice none 0 0] 1 false false])[X.length]?=some (.cells [.int .i64 0,.slice none 0 0] 1 false false):=Zn;have n1:X.length<=X.length:=Nat.le_refl _;generalize X++[Zf.cells [.int .i64 0,.slice none 0 0] 1 false false]=X2 at a2 k2 c2;generalize hp2:X.length=p2 at a2 c2 n1;have hcell:=k2 _ _ h.cell;have hlen:=ZgA h.n8 h.l8;have hd:((QY rows lvs).drop (c * 3+1)).take 2=[iv r.e,lv]:=by
  have:=congrArg (List.drop 1) (Zig hr hl);rw[List.drop_take,List.drop_drop] at this;simpa[Jr] using this
 have q1:bop .int .geq (.int .u8 c) (.int .u8 8) X2=some (.bool false,X2):=by rw[Qu,decide_eq_false (by omega)]
 have e3:ldA 2 (pa t (c * 3+1)) X2=some (.agg #[iv r.e,lv],X2):=by rw[Zp3 hcell (by rw[hlen];omega),hd]
 obtain⟨v,q,X3,e4,r4,l4,o4⟩:=Zsy (n:=n) (e:=r.e) (ht.sl.mono k2) ht.few ht.one;rw[hkeep] at r4;have f2:=l4 _ _ c2;have s5:stA 2 (pt p2) (.agg #[iv r.e,v]) X3=some (undef,X3.set p2 (.cells [iv r.e,v] 1 false false)):=ZbD (vs:=[iv r.e,v]) f2 rfl rfl (by rw[List.all_cons,List.all_cons,r4.one.1];rfl);have g3:(X3.set p2 (.cells [iv r.e,v] 1 false false))[p2]?=some (.cells [iv r.e,v] 1 false false):=ZW f2;have hp2l:p2 < X2.length:=ZX c2;refine⟨v,q,X3.set p2 (.cells [iv r.e,v] 1 false false),?_,r4.keep fun j hj=>List.getElem?_set_ne (fun e=>by have:=o4 j hj;omega),(k2.trans l4).put (by omega),fun j hj=>by have:=o4 j hj;have:=k2.len;omega⟩;have e4:R (n+2) Zao [.agg #[iv r.e,lv]] X2=_:=e4;rw[R,ZnS rfl];unfold ZeG;rw[Za a2,Za q1,Zb,if_neg (by simp),Za Zg,Za Zi,Za (Tab.ix hc),Za (show fa 1 (pa t (c * 3)) X2=some (pa t (c * 3+1),X2) from by rw[YA]),Za e3,Za e4,Za s5,Za (Z8 (n:=2) g3 rfl)];rfl
def Zsk (rows:List Qy) (c m:Nat):Nat:=match judgeS rows c m with
 | 0=>1
 | 3=>0
 | _=>12
def Zl0 (rows:List Qy) (c m e:Nat) (l:List Tx):List Qy:=if judgeS rows c m=3 then rows.set c ⟨m,e,Wk e l⟩ else rows
theorem ZFW {rows:List Qy} {c m:Nat} (h:judgeS rows c m=3):c < 8:=by
 unfold judgeS at h;split at h
 .cases h
 .omega
theorem Zzd (rows:List Qy) (c m:Nat):judgeS rows c m<=3:=by
 unfold judgeS;split
 .omega
 .split
  .split
   .omega
   .split<;>omega
  .omega
theorem ZFu {e:Int} {l:List Tx}:(Wk e l).length<=l.length:=by
 unfold Wk;split
 .exact Nat.le_refl _
 .exact Nat.zero_le _
theorem Tab.put {t c m e:Nat} {rows:List Qy} {lvs:List Value} {fr q:List Nat} {l:List Tx} {v:Value} (h:Tab X t rows lvs fr) (hc:c < 8) (hr:Zt X v ((Wk e l).map strv) q) (hl:l.length<=1000) (ht:t∉q) (hX:X'[t]?=some (.cells (QY (rows.set c ⟨m,e,Wk e l⟩) (lvs.set c v)) 1 false false)) (hn:X.length<=X'.length) (hk:∀ j,j≠t->X'[j]?=X[j]?):Tab X' t (rows.set c ⟨m,e,Wk e l⟩) (lvs.set c v) (fr++q):=by
 have hr':Zt X' v ((Wk e l).map strv) q:=hr.keep fun j hj=>hk j (fun e=>ht (e ▸ hj));refine⟨hX,by simpa using h.n8,by simpa using h.l8,fun i lv h2=>?_,by simp[h.t],fun j hj=>?_,fun i r lv h1 h2=>?_,fun r hr1 he=>?_⟩
 .by_cases e1:c=i
  .subst e1;rw[List.getElem?_set_self (by rw[h.l8];exact hc)] at h2;cases h2;exact fun hi=>ht (hr'.own_of hi)
  .rw[List.getElem?_set_ne e1] at h2;exact h.sep i lv h2
 .rcases List.mem_append.1 hj with h1|h1
  .exact Nat.lt_of_lt_of_le (h.lt j h1) hn
  .exact hr'.lt j h1
 .by_cases e1:c=i
  .subst e1;rw[List.getElem?_set_self (by rw[h.n8];exact hc)] at h1;rw[List.getElem?_set_self (by rw[h.l8];exact hc)] at h2;cases h1;cases h2;exact⟨hr'.rd,hr'.one.1,(fun id hi=>List.mem_append_right _ (hr'.own_of hi)),Nat.le_trans ZFu hl⟩
  .rw[List.getElem?_set_ne e1] at h1 h2;have:=h.txt i r lv h1 h2;exact⟨this.sl.keep fun id hi=>hk id (fun e=>h.sep i lv h2 (e ▸ hi)),this.one,(fun id hi=>List.mem_append_left _ (this.fr id hi)),this.few⟩
 .rcases List.mem_or_eq_of_mem_set hr1 with h1|h1
  .exact h.err r h1 he
  .subst h1;show Wk _ _=_
   exact if_neg (fun h0=>he (by exact_mod_cast h0))
theorem ZJz {t c m e:Nat} {rows:List Qy} {lvs:List Value} {fr:List Nat} {l:List Tx} {lv:Value} (h:Tab X t rows lvs fr) (hs:Sl X lv (l.map strv)) (hl:l.length<=1000) (h1:oneCell lv=true) :
  ∃ X' lvs' q,R (n+4) Zb3 [pt t,.int .u8 c,.int .u64 m,.agg #[iv e,lv]] X=some (iv (Zsk rows c m),X')/\Tab X' t (Zl0 rows c m e l) lvs' (fr++q)/\X.length<=X'.length/\(∀ j,j < X.length->j≠t->X'[j]?=X[j]?)/\∀ j∈q,X.length<=j:=by
 have a1:alc 1 (.agg #[iv e,lv]) X=some (pt X.length,X++[.cells [iv e,lv] 1 false false]):=by
  unfold alc Zvq;rw[if_pos (by simp[Value.cells,oneCell,h1]<;>exact h1)];rfl
 have k1:HLe X (X++[Zf.cells [iv e,lv] 1 false false]):=.app _ _;have c1:(X++[Zf.cells [iv e,lv] 1 false false])[X.length]?=some (.cells [iv e,lv] 1 false false):=Zn;have t1:Tab (X++[Zf.cells [iv e,lv] 1 false false]) t rows lvs fr:=h.keep (fun j hj=>List.getElem?_append_left (h.lt j hj)) (by simp);generalize X++[Zf.cells [iv e,lv] 1 false false]=X1 at a1 k1 c1 t1;obtain⟨p1,hp1⟩:∃ p,p=X.length:=⟨_,rfl⟩;rw[<- hp1] at a1 c1;have htl:t < X.length:=h.lt t h.t;have old1:∀ j,j < X.length->X1[j]?=X[j]?:=fun j hj=>by rw[List.getElem?_eq_getElem hj];exact k1 _ _ (List.getElem?_eq_getElem hj)
 have ej:R (n+3) KK [pt t,.int .u8 c,.int .u64 m] X1=some (iv (judgeS rows c m),X1):=ZBv t1;rw[R,ZqW rfl];unfold Zgz;rw[Za a1,Za ej,Za ZA];by_cases j0:judgeS rows c m=0
 .refine⟨X1,lvs,[],?_,?_,k1.len,fun j hj _=>old1 j hj,by simp⟩
  .rw[j0,show Zsk rows c m=1 by unfold Zsk;rw[j0];rfl];rfl
  .rw[show Zl0 rows c m e l=rows by unfold Zl0;rw[if_neg (by omega)],List.append_nil];exact t1
 have q1:((judgeS rows c m:Int)==0)=false:=by simpa using j0
 rw[q1,Zb,if_neg (by simp),Za ZA];by_cases j3:judgeS rows c m=3
 .have hc:=ZFW j3;obtain⟨v,q,X2,e2,r2,l2,o2⟩:=Zsy (n:=n+1) (e:=(e:Int)) (hs.mono k1) hl h1;have e2:R (n+3) Zao [.agg #[iv e,lv]] X1=_:=e2;have c2:=l2 _ _ t1.cell;have t2:Tab X2 t rows lvs fr:=t1.keep (fun j hj=>by rw[List.getElem?_eq_getElem (t1.lt j hj)];exact l2 _ _ (List.getElem?_eq_getElem (t1.lt j hj))) l2.len;have old2:∀ j,j < X.length->X2[j]?=X[j]?:=fun j hj=>by
   have hj1:j < X1.length:=Nat.lt_of_lt_of_le hj k1.len;have e3:=l2 _ _ (List.getElem?_eq_getElem hj1);rw[<- List.getElem?_eq_getElem hj1] at e3;rw[e3];exact old1 j hj
  have hb:bld (.agg #[.int .u64 0,.int .i64 0,.slice none 0 0]) [(0,1,.int .u64 m),(1,2,.agg #[iv e,v])] X2=some (.agg #[.int .u64 m,iv e,v],X2):=by
   rw[JU];rfl
  have hlen:=ZgA h.n8 h.l8;have s3:stA 3 (pa t (c * 3)) (.agg #[.int .u64 m,iv e,v]) X2=some (undef,X2.set t (.cells (QY (rows.set c ⟨m,e,Wk e l⟩) (lvs.set c v)) 1 false false)):=by
   have:=ZBd (vs:=Jr ⟨m,e,Wk e l⟩ v) (o:=c * 3) (k:=3) c2 (by rw[hlen];omega) rfl (by unfold Jr;rw[List.all_cons,List.all_cons,List.all_cons,r2.one.1];rfl);rw[ZA7 h.n8 h.l8 hc] at this;exact this
  refine⟨X2.set t (.cells (QY (rows.set c ⟨m,e,Wk e l⟩) (lvs.set c v)) 1 false false),lvs.set c v,q,?_,?_,?_,fun j hj hne=>?_,fun j hj=>Nat.le_trans k1.len (o2 j hj)⟩
  .rw[j3,show Zsk rows c m=0 by unfold Zsk;rw[j3];rfl];rw[Zb,if_pos (show(((3:Nat):Int)==3)=true from rfl),Za (Z8 (n:=2) c1 rfl),Za Zg,Za Zi,Za e2,Za hb,Za (Tab.ix hc),Za s3];rfl
  .rw[show Zl0 rows c m e l=rows.set c ⟨m,e,Wk e l⟩ by unfold Zl0;rw[if_pos j3]];exact t2.put hc r2 hl (fun hq=>by have:=o2 t hq;have:=k1.len;omega) (ZW c2) (by simp) (fun j hj=>List.getElem?_set_ne (fun e=>hj e.symm))
  .simp only[List.length_set];exact Nat.le_trans k1.len l2.len
  .rw[List.getElem?_set_ne (fun e=>hne e.symm)];exact old2 j hj
 .refine⟨X1,lvs,[],?_,?_,k1.len,fun j hj _=>old1 j hj,by simp⟩
  .have q3:((judgeS rows c m:Int)==3)=false:=by
    rw[beq_eq_false_iff_ne];omega
   have hp:Zsk rows c m=12:=by
    unfold Zsk;have:=Zzd rows c m;generalize judgeS rows c m=k at *
    match k with
    | 0=>exact absurd rfl j0
    | 1=>rfl
    | 2=>rfl
    | 3=>exact absurd rfl j3
    | k+4=>omega
   rw[q3,hp,Zb,if_neg (by simp)];rfl
  .rw[show Zl0 rows c m e l=rows by unfold Zl0;rw[if_neg j3],List.append_nil];exact t1
end
section
variable {X X' Y:Zd} {n:Nat}
def rlv (k:Nat):Value:=.int .u8 k
structure Brd (X:Zd) (b:Nat) (l:List Nat) (q:List Nat):Prop where
 at_:∃ sl,X[b]?=some (.cells [sl] 1 false false)/\Zt X sl (l.map rlv) q
 out:b∉q
 few:l.length<=7
 rel:∀ r∈l,r<=3
 one:l≠[]
theorem Brd.keep {b:Nat} {l q:List Nat} (h:Brd X b l q) (hk:∀ j,j=b\/j∈q->X'[j]?=X[j]?):Brd X' b l q:=by
 obtain⟨sl,h1,h2⟩:=h.at_;exact⟨⟨sl,by rw[hk b (.inl rfl)];exact h1,h2.keep fun j hj=>hk j (.inr hj)⟩,h.out,h.few,h.rel,h.one⟩
theorem Brd.lt {b:Nat} {l q:List Nat} (h:Brd X b l q):∀ j,j=b\/j∈q->j < X.length:=by
 obtain⟨sl,h1,h2⟩:=h.at_
 rintro j (rfl|hj)
 .exact ZX h1
 .exact h2.lt j hj
theorem Brd.hle {b:Nat} {l q:List Nat} (h:Brd X b l q) (hk:HLe X X'):Brd X' b l q:=
 h.keep fun j hj=>by have:=h.lt j hj;rw[List.getElem?_eq_getElem this];exact hk _ _ (List.getElem?_eq_getElem this)
theorem ZEE:R (n+1) ZeO [.int .i64 3] X=some (pt (X++[Zf.cells [.int .u8 0,.int .u8 0,.int .u8 0] 1 false false]).length,X++[Zf.cells [.int .u8 0,.int .u8 0,.int .u8 0] 1 false false]++[.cells [.slice (some ⟨X.length,0,none⟩) 3 3] 1 false false]):=by
 rw[R,Zxf rfl];rfl
theorem ZH7:Brd (X++[Zf.cells [.int .u8 0,.int .u8 0,.int .u8 0] 1 false false]++[.cells [.slice (some ⟨X.length,0,none⟩) 3 3] 1 false false]) (X++[Zf.cells [.int .u8 0,.int .u8 0,.int .u8 0] 1 false false]).length [0,0,0] [X.length]:=by
 refine⟨⟨_,Zn,.inr ⟨X.length,[],false,rfl,rfl,?_⟩⟩,by simp,by simp,by simp,by simp⟩;rw[List.getElem?_append_left (by simp)];exact Zn
def Zhw (l:List Nat) (a r:Nat):Nat:=if l.length<=a\/r < 1\/3 < r then 1 else 0
def Zl5 (l:List Nat) (a r:Nat):List Nat:=if l.length<=a\/r < 1\/3 < r then l else l.set a r
theorem ZIm {b a r:Nat} {l q:List Nat} (h:Brd X b l q) (ha:a < 256):∃ X',R (n+1) ZaI [pt b,.int .u8 a,.int .u8 r] X=some (iv (Zhw l a r),X')/\Brd X' b (Zl5 l a r) q/\Zo q X q X'/\X'.length=X.length:=by
 obtain⟨sl,h1,h2⟩:=h.at_;have hl:ZB sl X=some (iv l.length,X):=by have:=h2.rd.len (H':=X);simpa using this
 have q1:bop .int .geq (iv a) (iv l.length) X=some (.bool (decide (l.length<=a)),X):=by
  rw[Qu];have hq:decide ((l.length:Int)<=(a:Int))=decide (l.length<=a):=by rw[decide_eq_decide];omega
  rw[hq]
 have q2:bop .int .lss (.int .u8 r) (.int .u8 1) X=some (.bool (decide (r < 1)),X):=by
  rw[Zs];have hq:decide ((r:Int) < 1)=decide (r < 1):=by rw[decide_eq_decide];omega
  rw[hq]
 have q3:bop .int .gtr (.int .u8 r) (.int .u8 3) X=some (.bool (decide (3 < r)),X):=by
  rw[Z0];have hq:decide ((3:Int) < r)=decide (3 < r):=by rw[decide_eq_decide];omega
  rw[hq]
 have q0:cvi .i64 (.int .u8 (a:Int)) X=some (iv a,X):=by
  rw[Qx,w64 (by omega) (by omega)]
 rw[R,Znk rfl];unfold Zer;rw[Za q0,Za Zg,Za Zi,Za (Zy h1 rfl),Za hl,Za q1];by_cases c1:l.length<=a
 .refine⟨X,?_,by rw[show Zl5 l a r=l from if_pos (.inl c1)];exact h,.refl _ _,rfl⟩;rw[show Zhw l a r=1 from if_pos (.inl c1),decide_eq_true c1,Za (show gate (.bool true) false 2 _ X=some ([QC,QC],X) from rfl),ZT,Za Zk];simp only[cond_true];rw[Za (show gate (.bool true) false 2 _ X=some ([QC,QC],X) from rfl),ZT,Za Zk];rfl
 rw[decide_eq_false c1,Z4,Zm,Za q2,Z5,ZT,Za Zk];simp only[cond_false];by_cases c2:r < 1
 .refine⟨X,?_,by rw[show Zl5 l a r=l from if_pos (.inr (.inl c2))];exact h,.refl _ _,rfl⟩;rw[show Zhw l a r=1 from if_pos (.inr (.inl c2)),decide_eq_true c2,Za (show gate (.bool true) false 2 _ X=some ([QC,QC],X) from rfl),ZT,Za Zk];rfl
 rw[decide_eq_false c2,Z4,Zm,Za q3,Z5,ZT,Za Zk];simp only[cond_false];by_cases c3:3 < r
 .refine⟨X,?_,by rw[show Zl5 l a r=l from if_pos (.inr (.inr c3))];exact h,.refl _ _,rfl⟩;rw[show Zhw l a r=1 from if_pos (.inr (.inr c3)),decide_eq_true c3,Zb,if_pos rfl];rfl
 have hn:¬ (l.length<=a\/r < 1\/3 < r):=by omega
 obtain⟨X',s1,s2,s3,s4⟩:=h2.stx (i:=a) (u:=.int .u8 r) (by simp;omega) rfl;have hb:b∉q:=h.out;refine⟨X',?_,?_,s3,s4⟩
 .rw[show Zhw l a r=0 from if_neg hn,decide_eq_false c3,Zb,if_neg (by simp),Za Zg,Za Zi,Za (Zy h1 rfl),Za (h2.ix (i:=a) (by simp;omega) .u8 X),Za s1];rfl
 .rw[show Zl5 l a r=l.set a r from if_neg hn];refine⟨⟨sl,by rw[s3.keep b (ZX h1) hb];exact h1,?_⟩,hb,by simpa using h.few,(fun x hx=>?_),(fun e=>h.one (List.eq_nil_of_length_eq_zero (by rw[<- List.length_set (i:=a) (a:=r),e];rfl)))⟩
  .rw[List.map_set];exact s2
  .rcases List.mem_or_eq_of_mem_set hx with h|h'
   .exact Brd.rel ‹_› x h
   .omega
theorem ZJu {r:Nat} (h:r<=3):R (n+1) ZeM [.int .u8 r,.int .u8 2] X=some (.bool (decide (2<=r)),X):=by
 rw[R,ZwZ rfl]
 match r,h with
 | 0,_=>rfl
 | 1,_=>rfl
 | 2,_=>rfl
 | 3,_=>rfl
theorem ZvB {sl:Value} {l q:List Nat} {H0:Zd} (hr:∀ r∈l,r<=3) (hf:l.length<=7):∀ (t k:Nat) (v:Value) (ws:List Value) (own:List Nat) (X:Zd),l.length - k=t->k<=l.length->Zt X sl (l.map rlv) q->(∀ j∈q,j < H0.length)->HLe H0 X->Zt X v ws own->(∀ j∈own,H0.length<=j)->ws.length<=k->
  ∃ v' ws' own' X',Zj (c5 (Jd.l1 (R (n+1)))) [.int .u8 2,v,sl,iv l.length,iv k] X=some (.ext 0 [v'],X')/\Zt X' v' ws' own'/\HLe H0 X'/\ws'.length=ws.length+((l.drop k).filter fun r=>!decide (2<=r)).length
 | 0,k,v,ws,own,X,ht,hk,h,hq,hl,h2,ho,hw=>by
  have:k=l.length:=by omega
  subst this;rw[List.drop_length];refine⟨v,ws,own,X,ZZ ?_,h2,hl,rfl⟩;rw[QJ];unfold Jd.l1;rw[Za Zs,Zb,if_neg (by simp)];rfl
 | t+1,k,v,ws,own,X,ht,hk,h,hq,hl,h2,ho,hw=>by
  have hkl:k < l.length:=by omega
  have hlt:(k:Int) < l.length:=by omega
  have hg:=List.getElem?_eq_getElem hkl;have hm:l[k]∈l:=List.getElem_mem hkl;have hd:=List.drop_eq_getElem_cons hkl;generalize l[k]=x at hg hd hm;have x1:=h.ix (i:=k) (by simpa using hkl) .i64 X;have x2:=h.ldx (i:=k) (v:=.int .u8 x) (by rw[List.getElem?_map,hg];rfl);have x3:R (n+1) ZeM [.int .u8 x,.int .u8 2] X=_:=ZJu (hr x hm);rw[hd,List.filter_cons];by_cases c:2<=x
  .rw[decide_eq_true c] at x3;obtain⟨v',ws',own',X',e,r1,r2,r3⟩:=ZvB hr hf t (k+1) v ws own X (by omega) (by omega) h hq hl h2 ho (by omega);refine⟨v',ws',own',X',(ZJ ?_).trans e,r1,r2,?_⟩
   .rw[QJ];unfold Jd.l1;rw[Za Zs,Zb,if_pos (by simpa using hlt),Za x1,Za x2,Za x3,Za ZP];refine(ZC (vs:=[.int .u8 2,v,sl,iv l.length,iv k]) (H':=X) rfl).trans ?_;rw[QJ,Za ZG,Je (by omega)];rfl
   .rw[r3,decide_eq_true c];simp
  .rw[decide_eq_false c] at x3;have hv:cvi .u8 (iv k) X=some (.int .u8 (k:Int),X):=by
    rw[Qx];have:IntKind.u8.wrap (k:Int)=k:=by
     have:k < 8:=by omega
     match k,this with
     | 0,_=>rfl
     | 1,_=>rfl
     | 2,_=>rfl
     | 3,_=>rfl
     | 4,_=>rfl
     | 5,_=>rfl
     | 6,_=>rfl
     | 7,_=>rfl
    rw[this]
   have x4:bsl 1 1 (.int .u8 0) [(0,1,.int .u8 (k:Int))] X=some (.slice (some ⟨X.length,0,none⟩) 1 1,X++[.cells [.int .u8 (k:Int)] 1 false false]):=Zpt rfl rfl rfl;have k1:HLe X (X++[Zf.cells [.int .u8 (k:Int)] 1 false false]):=.app _ _;have d1:Zt (X++[Zf.cells [.int .u8 (k:Int)] 1 false false]) (.slice (some ⟨X.length,0,none⟩) 1 1) [.int .u8 (k:Int)] [X.length]:=.inr ⟨X.length,[],false,rfl,rfl,Zn⟩;obtain⟨v2,X2,own2,e2,p2,s2,o2⟩:=(h2.hle k1).push (b:=1) d1.rd (by omega) (by omega);have hl1:=hl.trans k1;have k2:HLe H0 X2:=fun i o hi=>by
    have hi1:=ZX hi;have:=hl1.len;rw[o2 i (by omega) (fun j hj=>by have:=ho j hj;omega)];exact hl1 i o hi
   have h3:Zt X2 sl (l.map rlv) q:=(h.hle k1).keep fun j hj=>by
    have:=hq j hj;have:=hl1.len;exact o2 j (by omega) (fun i hi=>by have:=ho i hi;omega)
   obtain⟨v',ws',own',X',e,r1,r2,r3⟩:=ZvB hr hf t (k+1) v2 (ws++[.int .u8 (k:Int)]) own2 X2 (by omega) (by omega) h3 hq k2 p2 (fun j hj=>by
    rcases s2.own j hj with h|h
    .exact ho j h
    .have:=hl1.len;omega) (by simp;omega)
   refine⟨v',ws',own',X',(ZJ ?_).trans e,r1,r2,?_⟩
   .rw[QJ];unfold Jd.l1;rw[Za Zs,Zb,if_pos (by simpa using hlt),Za x1,Za x2,Za x3,Za ZP];refine(ZC (vs:=[.int .u8 2,v2,sl,iv l.length,iv k]) (H':=X2) ?_).trans ?_
    .rw[Zb,if_pos (show(!false)=true from rfl),Za hv,Za x4,Za e2];rfl
    rw[QJ,Za ZG,Je (by omega)];rfl
   .rw[r3,decide_eq_false c];simp
    omega
theorem ZF9 {b:Nat} {l q:List Nat} (h:Brd X b l q):∃ X',R (n+3) Zbq [pt b,.int .u8 2] X=some (.bool (l.all fun r=>decide (2<=r)),X')/\HLe X X':=by
 obtain⟨sl,h1,h2⟩:=h.at_;have hl:ZB sl X=some (iv l.length,X):=by have:=h2.rd.len (H':=X);simpa using this
 obtain⟨v,ws,own,X',e,r1,r2,r3⟩:=ZvB (n:=n) (q:=q) (H0:=X) h.rel h.few l.length 0 (.slice none 0 0) [] [] X (by omega) (by omega) h2 h2.lt (.refl _) Zt.nil (by simp) (by simp);rw[List.drop_zero] at r3;have e:Zj (c5 (Jd.l1 (R (n+1)))) [.int .u8 2,.slice none 0 0,sl,iv l.length,.int .i64 0] X=_:=e;have e1:R (n+2) ZaU [pt b,.int .u8 2] X=some (v,X'):=by
  rw[R,Zk3 rfl];unfold Jd;rw[Za Zg,Za Zi,Za (Zy h1 rfl),Za hl,Qk e,ZI];rfl
 refine⟨X',?_,r2⟩;rw[R,ZpA rfl];unfold Zfj;rw[Za e1,Za (r1.rd.len (H':=X')),Za ZA];have:((ws.length:Int)==0)=l.all fun r=>decide (2<=r):=by
  rw[r3,Bool.eq_iff_iff,beq_iff_eq,List.all_eq_true];simp only[List.length_nil,Nat.zero_add];constructor
  .intro h0 x hx;have h1:(l.filter fun r=>!decide (2<=r))=[]:=List.length_eq_zero_iff.1 (by omega);have:=List.filter_eq_nil_iff.1 h1 x hx;simpa using this
  .intro ha;have:(l.filter fun r=>!decide (2<=r))=[]:=List.filter_eq_nil_iff.2 fun x hx=>by simpa using ha x hx
   rw[this];rfl
 rw[this];rfl
end
section
set_option maxRecDepth 100000
section
variable {H X X':Zd} {n p:Nat} {s:RSt} {sl v:Value} {q:List Nat} {l:List Tx}
theorem ZFm (h:Rdr H p s):∃ H',R (n+5) Zan [pt p] H=some (.bool (ZjF s).1,H')/\Rdr H' p (ZjF s).2/\Zo [p] H [p] H':=by
 obtain⟨H1,e1,r1,s1⟩:=ZxU (n:=n) h;have q1:bop .int .gtr (.int .u8 (Jl 1 s).1) (.int .u8 1) H1=some (.bool (decide (1 < (Jl 1 s).1)),H1):=by
  rw[Z0,show(decide (((Jl 1 s).1:Int) > 1))=decide (1 < (Jl 1 s).1) from decide_eq_decide.2 (by omega)]
 have q2:∀ Y:Zd,bop .int .eql (.int .u8 (Jl 1 s).1) (.int .u8 1) Y=some (.bool ((Jl 1 s).1==1),Y):=fun Y=>by
  rw[ZA,show(((Jl 1 s).1:Int)==1)=((Jl 1 s).1==1) from by rw[Bool.eq_iff_iff];simp;omega]
 unfold ZjF;by_cases hc:1 < (Jl 1 s).1
 .obtain⟨H2,e2,r2,s2⟩:=Zjp (n:=n+3) (e:=4) (by omega) r1;have e2:R (n+4) ZO [pt p,.int .i64 4] H1=_:=e2;rw[if_pos hc];refine⟨H2,?_,r2,s1.trans s2⟩;rw[R,ZfV rfl];unfold Zcc;rw[Za e1,Za q1];refine(ZC (vs:=[.int .u8 (Jl 1 s).1]) (H':=H2) ?_).trans ?_
  .rw[decide_eq_true hc,Zb,if_pos rfl,Za e2];rfl
  .rw[Yi,Za (q2 _)];rfl
 .rw[if_neg hc];refine⟨H1,?_,r1,s1⟩;rw[R,ZfV rfl];unfold Zcc;rw[Za e1,Za q1];refine(ZC (vs:=[.int .u8 (Jl 1 s).1]) (H':=H1) ?_).trans ?_
  .rw[decide_eq_false hc,Zb,if_neg (by simp)];rfl
  .rw[Yi,Za (q2 _)];rfl
theorem Zuq {long:Nat}:∀ {k:Nat} {s:RSt},(WX long k s).1.length=k
 | 0,s=>rfl
 | k+1,s=>by unfold WX;rw[List.length_cons,Zuq]
theorem ZA9 {N long:Nat} (hN:N<=100000) (hl:long<=1000000):∀ (t j:Nat) (s:RSt) (sl:Value) (q:List Nat) (acc:List Tx) (X:Zd),N - j=t->j<=N->acc.length<=j->Zt X sl (acc.map strv) q->(∀ i∈q,p < i)->Rdr X p s->
  ∃ X' sl' q',Zj (c5 (YF.l1 (R (n+6)))) [pt p,iv long,sl,iv N,iv j] X=some (.ext 0 [pt p,sl'],X')/\Zt X' sl' ((acc++(WX long t s).1).map strv) q'/\Rdr X' p (WX long t s).2/\(∀ i∈q',p < i)/\Zo (p :: q) X (p :: q') X'
 | 0,j,s,sl,q,acc,X,ht,hj,ha,hr,hq,h=>by
  refine⟨X,sl,q,ZZ ?_,by simpa[WX] using hr,h,hq,.refl _ _⟩;rw[QJ,show j=N by omega];unfold YF.l1;rw[Za Zs,Zb,if_neg (by simp)];rfl
 | t+1,j,s,sl,q,acc,X,ht,hj,ha,hr,hq,h=>by
  have hlt:(j:Int) < N:=by omega
  obtain⟨X1,e1,r1,s1⟩:=Zlz (n:=n) hl h;have hr1:=hr.step s1 (fun i hi hm=>by have:=hq i hi;simp only[List.mem_singleton] at hm;omega);have x4:=Zpt (es:=1) (z:=.string ⟨#[]⟩) (v:=strv (Yo long s).1) (H:=X1) rfl rfl rfl;have k2:HLe X1 (X1++[Zf.cells [strv (Yo long s).1] 1 false false]):=.app _ _;have s2:Sl (X1++[Zf.cells [strv (Yo long s).1] 1 false false]) (.slice (some ⟨X1.length,0,none⟩) 1 1) [strv (Yo long s).1]:=Sl.one (c:=1) Zn;generalize X1++[Zf.cells [strv (Yo long s).1] 1 false false]=X2 at x4 k2 s2;have hr2:=hr1.step k2.step (by simp);obtain⟨sl',X3,q',x5,hr3,s3,_⟩:=hr2.push (b:=16) s2 (by simp;omega) (by simp;omega);have hr3':Zt X3 sl' ((acc++[(Yo long s).1]).map strv) q':=by rw[List.map_append];exact hr3
  have hp1:=r1.lt;have hp2:=(r1.hle k2).lt;have hq3:∀ i∈q',p < i:=fun i hi=>by
   rcases s3.own i hi with h1|h1
   .exact hq i h1
   .omega
  have r3:=(r1.hle k2).step s3 hq;obtain⟨X4,sl4,q4,e4,r4,d4,o4,st4⟩:=ZA9 hN hl t (j+1) (Yo long s).2 sl' q' (acc++[(Yo long s).1]) X3 (by omega) (by omega) (by rw[List.length_append,List.length_singleton];omega) hr3' hq3 r3;refine⟨X4,sl4,q4,(ZJ ?_).trans e4,by unfold WX;simpa using r4,d4,o4,?_⟩
  .rw[QJ];unfold YF.l1;rw[Za Zs,Zb,if_pos (by simpa using hlt),Za e1,Za x4,Za x5,Za ZG,Je (by omega)];rfl
  .refine Zo.trans ?_ st4;have a1:Zo (p :: q) X (p :: q) X1:=s1.more (by simp) (fun i hi=>.inl hi);have a2:Zo (p :: q) X1 (p :: q) X2:=k2.stepq;have a3:Zo (p :: q) X2 (p :: q') X3:=s3.more (fun i hi=>List.mem_cons_of_mem _ hi) (fun i hi=>by
    rcases List.mem_cons.1 hi with rfl|hi
    .exact .inl (by simp)
    .exact .inr (.inl hi))
   exact(a1.trans a2).trans a3
theorem ZD6 {most long:Nat} (hm:most<=1000000) (hl:long<=1000000) (h:Rdr H p s):∃ v q H',R (n+7) Wa [pt p,iv most,iv long] H=some (v,H')/\Zt H' v ((Zf7 most long s).1.map strv) q/\Rdr H' p (Zf7 most long s).2/\(∀ j∈q,H.length<=j)/\Zo [p] H [p] H':=by
 obtain⟨H1,e1,r1,s1⟩:=Zx7 (n:=n+1) hm h;have e1:R (n+6) Kw [pt p,iv most] H=_:=e1;have hc:=Zn6 (s:=s) (most:=most);obtain⟨H2,sl,q,e2,r2,d2,o2,s2⟩:=ZA9 (n:=n) (p:=p) (N:=(JD most s).1) (by omega) hl (JD most s).1 0 (JD most s).2 (.slice none 0 0) [] [] H1 (by omega) (by omega) (by simp) Zt.nil (by simp) r1;rw[show iv ((0:Nat):Int)=.int .i64 0 from rfl] at e2;rw[List.nil_append] at r2;have hfresh:∀ j∈q,H.length<=j:=fun j hj=>by
  rcases s2.own j (by simp[hj]) with h1|h1
  .simp only[List.mem_singleton] at h1;have:=o2 j hj;omega
  .exact Nat.le_trans s1.len h1
 have hst:Zo [p] H [p] H2:=⟨Nat.le_trans s1.len s2.len,fun j hj hn=>by
  have h1:=s1.keep j hj hn;have h2:j < H1.length:=Nat.lt_of_lt_of_le hj s1.len;rw[s2.keep j h2 hn,h1],fun j hj=>.inl hj⟩
 have hcell:∃ sv,H2[p]?=some (.cells [sv,iv (WX long (JD most s).1 (JD most s).2).2.1] 1 false false):=by
  obtain⟨sv,hcc,_⟩:=d2;exact⟨sv,hcc⟩
 obtain⟨sv,hcc⟩:=hcell;have a1:ld1 (pa p 1) H2=some (iv (WX long (JD most s).1 (JD most s).2).2.1,H2):=Zy hcc rfl;have q1:bop .int .neq (iv (WX long (JD most s).1 (JD most s).2).2.1) (.int .i64 0) H2=some (.bool ((WX long (JD most s).1 (JD most s).2).2.1 !=0),H2):=by rw[Zl,ZjV]
 unfold Zf7;by_cases h0:(WX long (JD most s).1 (JD most s).2).2.1=0
 .rw[if_pos h0];refine⟨sl,q,H2,?_,r2,d2,hfresh,hst⟩;rw[R,Zh7 rfl];unfold YF;rw[Za e1,Qk e2,ZI,ZT,Za Zg,Za Zi,Za a1,Za q1,Zb,if_neg (by simp[h0])];rfl
 .rw[if_neg h0];refine⟨.slice none 0 0,[],H2,?_,Zt.nil,d2,by simp,hst⟩;rw[R,Zh7 rfl];unfold YF;rw[Za e1,Qk e2,ZI,ZT,Za Zg,Za Zi,Za a1,Za q1,Zb,if_pos (by simp[h0])];rfl
theorem ZyO {most long:Nat}:(Zf7 most long s).1.length<=65535:=by
 unfold Zf7;have:=Zn6 (s:=s) (most:=most);simp only[];split
 .rw[Zuq];omega
 .simp
theorem ZH9 (h:Rdr H p s):∃ u q H',R (n+11) ZbV [pt p,iv 2] H=some (.agg (Zv.cells u).toArray,H')/\QT u=(Zmd s).1/\Zt H' u.gv (u.gs.map strv) q/\(∀ j∈q,H.length<=j)/\u.gs.length<=65535/\Rdr H' p (Zmd s).2/\Zo [p] H [p] H':=by
 have z0:alc 1 zU H=some (pt H.length,H++[.cells (usr ([],[])) 1 false false]):=Zeh (vs:=usr ([],[])) rfl;have k0:HLe H (H++[.cells (usr ([],[])) 1 false false]):=.app _ _;have c0:(H++[Zf.cells (usr ([],[])) 1 false false])[H.length]?=some (.cells (usr ([],[])) 1 false false):=Zn;have hlt:=h.lt;have hn0:H.length≠p:=by omega
 generalize H++[Zf.cells (usr ([],[])) 1 false false]=X0 at z0 k0 c0;have hlt4:p < H.length:=hlt;generalize hal:H.length=a at z0 c0 hn0 hlt4;have q1:bop .int .neq (iv 2) (.int .i64 1) X0=some (.bool true,X0):=by rw[Zl];rfl
 have q1':bop .int .neq (iv 2) (.int .i64 2) X0=some (.bool false,X0):=by rw[Zl];rfl
 obtain⟨X1,e1,r1,s1⟩:=Zlz (n:=n+4) (most:=65535) (by omega) (h.hle k0);have e1:R (n+10) Ja [pt p,.int .i64 65535] X0=_:=e1;obtain⟨X2,e2,r2,s2⟩:=Zlz (n:=n+4) (most:=65535) (by omega) r1;have e2:R (n+10) Ja [pt p,.int .i64 65535] X1=_:=e2;have c2:=(s1.trans s2).get c0 (by simpa using hn0);unfold Zmd Zot;simp only;generalize Yo 65535 s=T1 at e1 r1 e2 r2 ⊢;obtain⟨nm,t1⟩:=T1;simp only at e1 r1 e2 r2 ⊢;generalize Yo 65535 t1=T2 at e2 r2 ⊢;obtain⟨hs,t2⟩:=T2;simp only at e2 r2 ⊢;have z3:=Zp1 (k:=nm) (s:=hs) (H:=X2);have z4:∀ {β:Type} (K:Value->M β),bind (alc 1 zU) (fun q=>bind (stA 5 q (.agg (usr (nm,hs)).toArray)) fun _=>K q) X2=K (pt X2.length) (X2++[.cells (usr (nm,hs)) 1 false false]):=fun K=>ZaX (n:=5) (zs:=[.string ⟨#[]⟩,.string ⟨#[]⟩,.string ⟨#[]⟩,.bool false,.slice none 0 0]) (r:=usr (nm,hs)) rfl rfl rfl rfl;have k3:HLe X2 (X2++[.cells (usr (nm,hs)) 1 false false]):=.app _ _;have c3:(X2++[Zf.cells (usr (nm,hs)) 1 false false])[X2.length]?=some (.cells (usr (nm,hs)) 1 false false):=Zn;have hn3:X2.length≠p:=by have:=r2.lt;omega
 have hac:a < X2.length:=ZX c2;have hpc:p < X2.length:=r2.lt;generalize X2++[Zf.cells (usr (nm,hs)) 1 false false]=X3 at z4 k3 c3;generalize X2.length=c at z4 c3 hn3 hac hpc;have r3:=r2.hle k3;have c03:=k3 _ _ c2;have q2:bop .int .eql (iv 2) (.int .i64 2) X3=some (.bool true,X3):=by rw[ZA];rfl
 have s03:Zo [p] H [p] X3:=(k0.stepq.trans (s1.trans s2)).trans k3.stepq;obtain⟨X4,e4,r4,s4⟩:=Zlz (n:=n+4) (most:=65535) (by omega) r3;have e4:R (n+10) Ja [pt p,.int .i64 65535] X3=_:=e4;generalize Yo 65535 t2=T3 at e4 r4 ⊢;obtain⟨ml,t3⟩:=T3;simp only at e4 r4 ⊢;obtain⟨X5,e5,r5,s5⟩:=ZFm (n:=n+5) r4;have e5:R (n+10) Zan [pt p] X4=_:=e5;generalize ZjF t3=T4 at e5 r5 ⊢;obtain⟨ds,t4⟩:=T4;simp only at e5 r5 ⊢;obtain⟨gv,q,X6,e6,g6,r6,o6,s6⟩:=ZD6 (n:=n+3) (most:=65535) (long:=65535) (by omega) (by omega) r5;have e6:R (n+10) Wa [pt p,.int .i64 65535,.int .i64 65535] X5=_:=e6;have hgl:=ZyO (most:=65535) (long:=65535) (s:=t4);generalize Zf7 65535 65535 t4=T5 at e6 g6 r6 hgl ⊢;obtain⟨gs,t5⟩:=T5;simp only at e6 g6 r6 hgl ⊢;have s46:Zo [p] X3 [p] X6:=(s4.trans s5).trans s6;have c36:=s46.get c3 (by simpa using hn3);have c06:=s46.get c03 (by simpa using hn0);have hq6:∀ j∈q,c < j:=fun j hj=>by
  have h1:=o6 j hj;have h2:=ZX ((s4.trans s5).get c3 (by simpa using hn3));omega
 have w1:st1 (pa c 2) (strv ml) X6=some (undef,X6.set c (.cells [strv nm,strv hs,strv ml,.bool false,.slice none 0 0] 1 false false)):=Wq (o:=2) c36 (by simp[usr]) rfl;have w2:st1 (pa c 3) (.bool ds) (X6.set c (.cells [strv nm,strv hs,strv ml,.bool false,.slice none 0 0] 1 false false))=some (undef,(X6.set c (.cells [strv nm,strv hs,strv ml,.bool false,.slice none 0 0] 1 false false)).set c (.cells [strv nm,strv hs,strv ml,.bool ds,.slice none 0 0] 1 false false)):=Wq (o:=3) (ZW c36) (by simp) rfl;rw[List.set_set] at w2;have w3:st1 (pa c 4) gv (X6.set c (.cells [strv nm,strv hs,strv ml,.bool ds,.slice none 0 0] 1 false false))=some (undef,(X6.set c (.cells [strv nm,strv hs,strv ml,.bool ds,.slice none 0 0] 1 false false)).set c (.cells [strv nm,strv hs,strv ml,.bool ds,gv] 1 false false)):=Wq (o:=4) (ZW c36) (by simp) g6.one.1;rw[List.set_set] at w3
 let u:Zv:=⟨nm,hs,ml,ds,gv,gs⟩
 have c37:(X6.set c (.cells u.cells 1 false false))[c]?=some (.cells u.cells 1 false false):=ZW c36;have c07:(X6.set c (.cells u.cells 1 false false))[a]?=some (.cells (usr ([],[])) 1 false false):=(List.getElem?_set_ne (by omega)).trans c06;have r7:Rdr (X6.set c (.cells u.cells 1 false false)) p t5:=r6.other hpc;have g7:Zt (X6.set c (.cells u.cells 1 false false)) gv (gs.map strv) q:=g6.keep fun j hj=>List.getElem?_set_ne (by have:=hq6 j hj;omega);have s07:Zo [p] H [p] (X6.set c (.cells u.cells 1 false false)):=by
  have h1:=s03.trans s46;refine⟨by rw[List.length_set];exact h1.len,fun j hj hm=>?_,fun j hj=>.inl hj⟩;rw[List.getElem?_set_ne (by omega),h1.keep j hj hm]
 have w3:st1 (pa c 4) gv (X6.set c (.cells [strv nm,strv hs,strv ml,.bool ds,.slice none 0 0] 1 false false))=some (undef,X6.set c (.cells u.cells 1 false false)):=w3;generalize X6.set c (.cells u.cells 1 false false)=X7 at w3 c37 c07 r7 g7 s07;have hoku:UOK X7 u:=⟨g7.rd,g7.one.1,by show gs.length<=1000000;omega⟩;have f1:∀ v H',ZfB (R (n+10)) (pt p) (iv 2) H=some (v,H')->R (n+11) ZbV [pt p,iv 2] H=some (v,H'):=fun v H' hr=>by rw[R,ZkW rfl];exact hr
 have e8:=Zkv (n:=n+9) r7;have e8:R (n+10) Z7 [pt p] X7=some (iv t5.1,X7):=e8;have hck:((nm,hs,ml,ds,gs):KA)=QT u:=rfl;rw[hck];have hC:∃ X8,(cnd (Value.bool (t5.1==0)) (bind (ldA 5 (pt c)) fun v36=>bind (R (n+10) Yz [iv 2,v36]) fun v37=>bind (R (n+10) ZO [pt p,v37]) fun v38=>ret (Out.nrm [pt p,pt a,pt c])) (ret (Out.nrm [pt p,pt a,pt c]))) X7=some (Out.nrm [pt p,pt a,pt c],X8)/\Rdr X8 p (WB (Zds (QT u)) t5)/\Zo [p] X7 [p] X8:=by
  by_cases h0:t5.1=0
  .have d3:ldA 5 (pt c) X7=some (.agg u.cells.toArray,X7):=Z8 (n:=5) c37 rfl;obtain⟨X8,e9,k9⟩:=Zjx (n:=n) hoku;rw[ZvV] at e9;obtain⟨X9,e10,r10,s10⟩:=Zjp (n:=n+9) (e:=Zds (QT u)) (by have:=ZHr (k:=QT u);omega) (r7.hle k9);have e10:R (n+10) ZO [pt p,iv (Zds (QT u))] X8=_:=e10;refine⟨X9,?_,r10,k9.stepq.trans s10⟩;rw[Zb,if_pos (by simp[h0]),Za d3,Za e9,Za e10];rfl
  .have hfs:WB (Zds (QT u)) t5=t5:=by unfold WB;rw[if_neg (fun h=>h0 h.1)]
   rw[hfs];refine⟨X7,?_,r7,.refl _ _⟩;rw[Zb,if_neg (by simp[h0])];rfl
 obtain⟨X8,e9,r9,s9⟩:=hC;have e10:=Zkv (n:=n+9) r9;have e10:R (n+10) Z7 [pt p] X8=_:=e10;have c38:=s9.get c37 (by simpa using hn3);have c08:=s9.get c07 (by simpa using hn0);have g8:=g7.step s9 (fun j hj hm=>by have:=hq6 j hj;simp only[List.mem_singleton] at hm;omega);have s08:=s07.trans s9;have d4:ldA 5 (pt c) X8=some (.agg u.cells.toArray,X8):=Z8 (n:=5) c38 rfl;have q3:bop .int .eql (iv t5.1) (.int .i64 0) X7=some (.bool (t5.1==0),X7):=by rw[ZA,ZlG]
 generalize WB (Zds (QT u)) t5=r' at r9 e10 ⊢;have q4:bop .int .neq (iv r'.1) (.int .i64 0) X8=some (.bool (r'.1 !=0),X8):=by rw[Zl,ZjV]
 have hfin:∀ (w:Zv),oneCell w.gv=true->(stA 5 (pt a) (.agg w.cells.toArray) X8=some (undef,X8.set a (.cells w.cells 1 false false))/\ldA 5 (pt a) (X8.set a (.cells w.cells 1 false false))=some (.agg w.cells.toArray,X8.set a (.cells w.cells 1 false false))/\Zo [p] H [p] (X8.set a (.cells w.cells 1 false false))/\Rdr (X8.set a (.cells w.cells 1 false false)) p r'):=fun w hw=>
  ⟨ZbD (vs:=w.cells) (n:=5) c08 rfl rfl (ZwG hw),Z8 (n:=5) (ZW c08) rfl,⟨by rw[List.length_set];exact s08.len,fun j hj hm=>by rw[List.getElem?_set_ne (by omega),s08.keep j hj hm],fun j hj=>.inl hj⟩,r9.other (by omega)⟩
 have hpre:∀ o,(cnd (Value.bool (r'.1 !=0)) (bind (bld zU []) fun v42=>bind (stA 5 (pt a) v42) fun _=>bind (ldA 5 (pt a)) fun vr=>ret vr) (bind (ldA 5 (pt c)) fun v43=>bind (stA 5 (pt a) v43) fun _=>bind (ldA 5 (pt a)) fun vr=>ret vr)) X8=o->R (n+11) ZbV [pt p,iv 2] H=o:=fun o ho=>by
  rw[R,ZkW rfl];unfold ZfB;rw[Za z0,Za q1,Z4,Zm,Za q1',Z5,ZT,Za Zk];simp only[cond_true];rw[Zb,if_neg (by simp),Za e1,Za e2,Za z3,z4,Za q2];refine(ZC (vs:=[pt p,iv 2,pt a,pt c]) (H':=X7) ?_).trans ?_
  .rw[Zb,if_pos rfl,Za e4,Za e5,Za e6,Za Zi,Za w1,Za Zi,Za w2,Za Zi,Za w3];rfl
  .rw[ZL,Za e8,Za q3];refine(ZC e9).trans ?_;rw[ZY,Za e10,Za q4];exact ho
 by_cases h0:r'.1=0
 .rw[if_pos h0];obtain⟨f1',f2,f3,f4⟩:=hfin u g6.one.1;refine⟨u,q,_,hpre _ ?_,rfl,g8.keep fun j hj=>List.getElem?_set_ne (by have:=hq6 j hj;omega),fun j hj=>by have:=hq6 j hj;omega,hgl,f4,f3⟩;rw[Zb,if_neg (by simp[h0]),Za d4,Za f1',Za f2];rfl
 .rw[if_neg h0];obtain⟨f1',f2,f3,f4⟩:=hfin ZGi rfl;refine⟨ZGi,[],_,hpre _ ?_,rfl,Zt.nil,by simp,by decide,f4,f3⟩;have zb:bld zU [] X8=some (.agg ZGi.cells.toArray,X8):=rfl;rw[Zb,if_pos (by simp[h0]),Za zb,Za f1',Za f2];rfl
end
end
section
set_option maxRecDepth 100000
theorem ZcY.step {X0 X X':Zd} {sl:Value} {us:List Zv} {q o1 o2:List Nat} (h:ZcY X0 X sl us q) (hs:Zo o1 X o2 X') (hd:∀ j,X0.length<=j->j∉o1):ZcY X0 X' sl us q:=
 ⟨h.r.step hs fun j hj=>hd j (h.o j hj),h.o,fun w hw=>by
  obtain⟨qu,h1,h2,h3⟩:=h.u w hw;exact⟨qu,h1.step hs fun j hj=>hd j (h2 j hj).1,h2,h3⟩,h.un⟩
section
variable {H X X' X0:Zd} {n p:Nat} {s:RSt} {sl v vg bv:Value} {q qg:List Nat} {l gl:List Tx} {bs:List UInt8}
theorem Zzf {N:Nat} (hN:N<=12) (hp:p < X0.length) (hqg:∀ j∈qg,j≠p/\j < X0.length):∀ (t j:Nat) (s:RSt) (sl:Value) (q:List Nat) (acc:List Zv) (X:Zd),N - j=t->j<=N->acc.length<=j->X0.length<=X.length->ZcY X0 X sl acc q->Zt X vg (gl.map strv) qg->Rdr X p s->
  ∃ X' sl' q' us,Zj (c5 (Wm.l1 (R (n+12)))) [pt p,vg,sl,iv N,iv j] X=some (.ext 0 [pt p,vg,sl'],X')/\ZcY X0 X' sl' (acc++us) q'/\us.map QT=(ZeY t s).1/\Zt X' vg (gl.map strv) qg/\Rdr X' p (ZeY t s).2/\Zo (p :: q) X (p :: q') X'
 | 0,j,s,sl,q,acc,X,ht,hj,ha,hX,ho,hg,h=>by
  refine⟨X,sl,q,[],ZZ ?_,by rw[List.append_nil];exact ho,rfl,hg,h,.refl _ _⟩;rw[QJ,show j=N by omega];unfold Wm.l1;rw[Za Zs,Zb,if_neg (by simp)];rfl
 | t+1,j,s,sl,q,acc,X,ht,hj,ha,hX,ho,hg,h=>by
  have hlt:(j:Int) < N:=by omega
  obtain⟨u,qu,X1,e1,k1,r1,o1,gl1,d1,s1⟩:=ZH9 (n:=n+1) h;have ho1:=ho.step s1 (fun j hj hm=>by simp only[List.mem_singleton] at hm;omega);have hg1:=hg.step s1 (fun j hj hm=>by simp only[List.mem_singleton] at hm;exact(hqg j hj).1 hm);obtain⟨x,X2,sl',X3,q',a1,a2,ho3,s3⟩:=ho1.push0 (w:=u) (by omega) r1 (fun i hi=>⟨by have:=o1 i hi;omega,fun hm=>by have:=ho.r.lt i hm;have:=o1 i hi;omega⟩) (by omega) (fun a ha i hi hm=>by obtain⟨qa,b1,_,_⟩:=ho.u a ha;have h1:=b1.lt i (b1.own_of hi);have h2:=o1 i hm;omega) (Nat.le_trans hX s1.len);have hg3:=hg1.step s3 (fun j hj hm=>by have:=ho.o j hm;have:=(hqg j hj).2;omega);have d3:=d1.step s3 (fun j hj=>by have:=ho.o j hj;omega);obtain⟨X4,sl4,q4,us4,e4,ho4,k4,hg4,d4,s4⟩:=Zzf hN hp hqg t (j+1) (Zmd s).2 sl' q' (acc++[u]) X3 (by omega) (by omega) (by rw[List.length_append,List.length_singleton];omega) (Nat.le_trans hX (Nat.le_trans s1.len s3.len)) ho3 hg3 d3;refine⟨X4,sl4,q4,u :: us4,(ZJ ?_).trans e4,by rw[List.append_assoc] at ho4;exact ho4,?_,hg4,d4,?_⟩
  .rw[QJ];unfold Wm.l1;rw[Za Zs,Zb,if_pos (by simpa using hlt),Za e1,Za a1,Za a2,Za ZG,Je (by omega)];rfl
  .unfold ZeY;rw[List.map_cons,k1,k4]
  .have b1:Zo (p :: q) X (p :: q) X1:=s1.more (fun i hi=>by simp at hi;simp[hi]) (fun i hi=>.inl hi);have b2:Zo (p :: q) X1 (p :: q') X3:=s3.more (fun i hi=>List.mem_cons_of_mem _ hi) (fun i hi=>by
    rcases List.mem_cons.1 hi with rfl|hi
    .exact .inl (by simp)
    .exact .inr (.inl hi))
   exact(b1.trans b2).trans s4
theorem Zv2:∀ (k:Nat) (s:RSt),(ZeY k s).1.length=k
 | 0,s=>rfl
 | k+1,s=>by unfold ZeY;rw[List.length_cons,Zv2]
theorem Zq4 (hs:Sl X bv (u8s bs)) (hb:bs.length<=100000000):∃ dv X',R (n+13) Zci [bv] X=some (.tuple #[dv,iv (Zht bs).1],X')/\HLe X X'/\((Zht bs).1≠0->dv=.pointer none)/\((Zht bs).1=0->∃ d r s c us,dv=pt d/\OfS X X' d r s c (Zht bs).2.1 us/\us.map QT=(Zht bs).2.2):=by
 obtain⟨p,X0,e0,r0,k0,hp0⟩:=Zs4 (n:=n+10) hs (by omega);have e0:R (n+12) ZdR [bv] X=_:=e0;obtain⟨X1,e1,r1,s1⟩:=ZxU (n:=n+8) r0;have e1:R (n+12) Yr [pt p] X0=_:=e1;have hpo:∀ j∈[p],X.length<=j:=by simpa using hp0
 have m1:=k0.more s1 hpo;have e2:R (n+12) Z7 [pt p] X1=_:=Zkv (n:=n+11) r1;have f1:∀ v X',Wm (R (n+12)) bv X=some (v,X')->R (n+13) Zci [bv] X=some (v,X'):=fun v X' hr=>by rw[R,Znd rfl];exact hr
 unfold Zht;simp only;generalize Jl 1 (0,bs)=B at e1 r1 e2 ⊢;obtain⟨b0,t1⟩:=B;simp only at e1 r1 e2 ⊢;have q1:bop .int .eql (iv t1.1) (.int .i64 0) X1=some (.bool (t1.1==0),X1):=by rw[ZA,ZlG]
 have q2:bop .int .neq (.int .u8 b0) (.int .u8 2) X1=some (.bool (b0 !=2),X1):=by
  rw[Zl,show((b0:Int) !=2)=(b0 !=2) from by rw[Bool.eq_iff_iff];simp;omega]
 have hgate:∀ K:Value->M Value,bind (gate (.bool (t1.1==0)) true 2 (bind (bop .int .neq (.int .u8 b0) (.int .u8 2)) fun v21=>ret [.int .u8 b0,v21])) (c2 fun _ q=>bind (pick (.bool (t1.1==0)) q (.bool false)) K) X1=K (.bool ((t1.1==0) && (b0 !=2))) X1:=fun K=>by
  cases t1.1==0
  .rw[Za (g_r.trans (if_neg (by simp)))];simp only[List.replicate];rw[ZT,Za Zk];rfl
  .rw[Z4,Zm,Za q2,Z5,ZT,Za Zk];rfl
 by_cases hbad:t1.1=0/\b0≠2
 .rw[if_pos hbad];have hbb:((t1.1==0) && (b0 !=2))=true:=by simp[hbad]
  rw[hbb] at hgate;refine⟨.pointer none,X1,f1 _ _ ?_,m1.1,fun _=>rfl,fun h=>absurd h (by simp)⟩;unfold Wm;rw[Za e0,Za e1,Za e2,Za q1];refine(hgate _).trans ?_;rw[Zb,if_pos rfl];rfl
 .rw[if_neg hbad];have hbb:((t1.1==0) && (b0 !=2))=false:=by
   cases h1:(t1.1==0)<;>cases h2:(b0 !=2)<;>simp at h1 h2 ⊢;exact hbad ⟨h1,h2⟩
  rw[hbb] at hgate;obtain⟨vg,qg,X2,e3,g3,r3,o3,s3⟩:=ZD6 (n:=n+5) (most:=6) (long:=12) (by omega) (by omega) r1;have e3:R (n+12) Wa [pt p,.int .i64 6,.int .i64 12] X1=_:=e3;obtain⟨X3,e4,r4,s4⟩:=ZCH (n:=n+8) r3;have e4:R (n+12) YM [pt p] X2=_:=e4;have m3:=m1.1.more (s3.trans s4) hpo;have hpl:=r1.lt;have hg4:=g3.step s4 (fun j hj hm=>by have:=o3 j hj;simp only[List.mem_singleton] at hm;omega);have hnl:=Zjf (s:=(Zf7 6 12 t1).2) (k:=2);have hrl:(Zf7 6 12 t1).1.length<=65535:=ZyO;unfold ZB0;simp only;generalize Zf7 6 12 t1=G at e3 g3 r3 e4 r4 hnl hg4 hrl ⊢;obtain⟨gl,t2⟩:=G;simp only at e3 g3 r3 e4 r4 hnl hg4 hrl ⊢;generalize Jl 2 t2=N at e4 r4 hnl ⊢;obtain⟨nv,t3⟩:=N;simp only at e4 r4 hnl ⊢;have cI:cvi .i64 (.int .u16 nv) X3=some (iv nv,X3):=by rw[Qx,w64 (by omega) (by omega)]
  have q3:bop .int .gtr (iv nv) (.int .i64 12) X3=some (.bool (decide (12 < nv)),X3):=by
   rw[Z0,show(decide ((nv:Int) > 12))=decide (12 < nv) from decide_eq_decide.2 (by omega)]
  have hM:∃ X4,(cnd (Value.bool (decide (12 < nv))) (bind (R (n+12) ZO [pt p,(Value.int .i64 7)]) fun v31=>ret (Out.nrm [pt p,vg,(Value.int .i64 0)])) (ret (Out.nrm [pt p,vg,iv nv]))) X3=some (Out.nrm [pt p,vg,iv ((if nv > 12 then((0:Nat),WB 7 t3) else(nv,t3)).1:Nat)],X4)/\Rdr X4 p (if nv > 12 then((0:Nat),WB 7 t3) else(nv,t3)).2/\Zo [p] X3 [p] X4:=by
   by_cases h12:nv > 12
   .obtain⟨X4,e5,r5,s5⟩:=Zjp (n:=n+11) (e:=7) (by omega) r4;have e5:R (n+12) ZO [pt p,.int .i64 7] X3=_:=e5;rw[if_pos h12];refine⟨X4,?_,r5,s5⟩;rw[decide_eq_true h12,Zb,if_pos rfl,Za e5];rfl
   .rw[if_neg h12];refine⟨X3,?_,r4,.refl _ _⟩;rw[decide_eq_false h12,Zb,if_neg (by simp)];rfl
  obtain⟨X4,e5,r5,s5⟩:=hM;have hNle:(if nv > 12 then((0:Nat),WB 7 t3) else(nv,t3)).1<=12:=by
   split
   .simp
   .simp only;omega
  generalize(if nv > 12 then((0:Nat),WB 7 t3) else(nv,t3))=Mm at e5 r5 hNle ⊢;obtain⟨N,t4⟩:=Mm;simp only at e5 r5 hNle ⊢;have m4:=m3.1.more s5 hpo;have hg5:=hg4.step s5 (fun j hj hm=>by have:=o3 j hj;simp only[List.mem_singleton] at hm;omega);have hp4:=r5.lt;have hqg:∀ j∈qg,j≠p/\j < X4.length:=fun j hj=>⟨by have:=o3 j hj;omega,hg5.lt j hj⟩;obtain⟨X5,sl,q,us,e6,ho6,k6,hg6,r6,s6⟩:=Zzf (n:=n) (X0:=X4) (vg:=vg) (gl:=gl) hNle hp4 hqg N 0 t4 (.slice none 0 0) [] [] X4 (by omega) (by omega) (by simp) (Nat.le_refl _) ⟨JQ.nil,by simp,by simp,by simp⟩ hg5 r5;rw[show iv ((0:Nat):Int)=.int .i64 0 from rfl] at e6;rw[List.nil_append] at ho6;have hlus:us.length<=12:=by
   have:=congrArg List.length k6;rw[List.length_map,Zv2] at this;omega
  have hown6:∀ j∈p :: q,X.length<=j:=fun j hj=>by
   rcases List.mem_cons.1 hj with rfl|hj
   .exact hp0
   .exact Nat.le_trans m4.1.len (ho6.o j hj)
  have m6:HLe X X5:=(m4.1.more s6 hpo).1;generalize ZeY N t4=U at k6 r6 ⊢;obtain⟨ul,t5⟩:=U;simp only at k6 r6 ⊢;subst k6;have e7:R (n+12) Z7 [pt p] X5=_:=Zkv (n:=n+11) r6;have hpre:∀ o,(bind (R (n+12) Z7 [pt p]) fun y21=>
    bind (bop .int .neq y21 (Value.int .i64 0)) fun y22=>
    cnd y22 (ret (Value.tuple #[(Value.pointer none),y21]))
    (bind (R (n+12) ZcS [sl,vg]) fun y23=>bind (Zu y23 0) fun y24=>bind (Zu y23 1) fun y25=>bind (bop .int .eql y25 (Value.int .i64 0)) fun y26=>
    jn (cnd y26 (bind (R (n+12) YJ [pt p]) fun y27=>ret (.nrm [y24,y27])) (ret (.nrm [y24,y25]))) (c2 fun q28_0 q28_1=>
    bind (bop .int .neq q28_1 (Value.int .i64 0)) fun y29=>
    cnd y29 (ret (Value.tuple #[(Value.pointer none),q28_1])) (ret (Value.tuple #[q28_0,(Value.int .i64 0)]))) noX ret)) X5=o->R (n+13) Zci [bv] X=o:=fun o ho=>by
   rw[R,Znd rfl];unfold Wm;rw[Za e0,Za e1,Za e2,Za q1];refine(hgate _).trans ?_;rw[Zb,if_neg (by simp),Za e3,Za e4,Za cI,Za q3];refine(ZC e5).trans ?_;rw[ZY,Qk e6,ZI,ZY];exact ho
  by_cases h5:t5.1≠0
  .rw[if_pos h5];have q4:bop .int .neq (iv t5.1) (.int .i64 0) X5=some (.bool true,X5):=by rw[Zl,ZjV];simp[h5]
   refine⟨.pointer none,X5,hpre _ ?_,m6,fun _=>rfl,fun h=>absurd h h5⟩;rw[Za e7,Za q4,Zb,if_pos rfl];rfl
  .rw[if_neg h5];have h5:t5.1=0:=Decidable.of_not_not h5;have q4:bop .int .neq (iv t5.1) (.int .i64 0) X5=some (.bool false,X5):=by rw[Zl,ZjV];simp[h5]
   obtain⟨X6,k7,h7⟩:=Zwi (n:=n) (us:=us) (gs:=gl) (by omega) (by omega) ho6.us hg6.rd;rw[ZBa] at h7;have m7:=m6.trans k7;by_cases hE:ofK (us.map QT) gl≠0
   .rw[if_pos hE];have hE':¬ ((ofK (us.map QT) gl:Int)=0):=by omega
    rw[if_neg hE'] at h7;have q5:bop .int .eql (iv (ofK (us.map QT) gl)) (.int .i64 0) X6=some (.bool false,X6):=by rw[ZA,ZlG];simp[hE]
    have q6:bop .int .neq (iv (ofK (us.map QT) gl)) (.int .i64 0) X6=some (.bool true,X6):=by rw[Zl,ZjV];simp[hE]
    refine⟨.pointer none,X6,hpre _ ?_,m7,fun _=>rfl,fun h=>absurd h hE⟩;rw[Za e7,Za q4,Zb,if_neg (by simp),Za h7,Za Zp,Za Zq,Za q5];refine(ZC (vs:=[.pointer none,iv (ofK (us.map QT) gl)]) (H':=X6) ?_).trans ?_
    .rw[Zb,if_neg (by simp)];rfl
    .rw[ZT,Za q6,Zb,if_pos rfl];rfl
   .rw[if_neg hE];have hE:ofK (us.map QT) gl=0:=Decidable.of_not_not hE;rw[if_pos (by rw[hE];rfl)] at h7;obtain⟨d,r,st,c,e8,hS⟩:=h7;have q5:bop .int .eql (iv 0) (.int .i64 0) X6=some (.bool true,X6):=by rw[ZA];rfl
    have e9:R (n+12) YJ [pt p] X6=some (iv (Zdt t5),X6):=ZGs (n:=n+11) (r6.hle k7);have hS':OfS X X6 d r st c gl us:=⟨m7,hS.nd,fun i hi=>Nat.le_trans m6.len (hS.own i hi),hS.K,hS.ok⟩;by_cases h6:t5.2≠[]
    .rw[if_pos h6];have he:Zdt t5=3:=by unfold Zdt;rw[if_pos h5,if_neg h6]
     rw[he] at e9;have q6:bop .int .neq (iv ((3:Nat):Int)) (.int .i64 0) X6=some (.bool true,X6):=by rw[Zl];rfl
     refine⟨.pointer none,X6,hpre _ ?_,m7,fun _=>rfl,fun h=>absurd h (by simp)⟩;rw[Za e7,Za q4,Zb,if_neg (by simp),Za e8,Za Zp,Za Zq,Za q5];refine(ZC (vs:=[pt d,iv ((3:Nat):Int)]) (H':=X6) ?_).trans ?_
     .rw[Zb,if_pos rfl,Za e9];rfl
     .rw[ZT,Za q6,Zb,if_pos rfl];rfl
    .rw[if_neg h6];have h6:t5.2=[]:=Decidable.of_not_not h6;have he:Zdt t5=0:=by unfold Zdt;rw[if_pos h5,if_pos h6]
     rw[he] at e9;have q6:bop .int .neq (iv ((0:Nat):Int)) (.int .i64 0) X6=some (.bool false,X6):=by rw[Zl];rfl
     refine⟨pt d,X6,hpre _ ?_,m7,fun h=>absurd rfl h,fun _=>⟨d,r,st,c,us,rfl,hS',rfl⟩⟩;rw[Za e7,Za q4,Zb,if_neg (by simp),Za e8,Za Zp,Za Zq,Za q5];refine(ZC (vs:=[pt d,iv ((0:Nat):Int)]) (H':=X6) ?_).trans ?_
     .rw[Zb,if_pos rfl,Za e9];rfl
     .rw[ZT,Za q6,Zb,if_neg (by simp)];rfl
end
end
section
set_option maxRecDepth 100000
section
variable {H X X' H0:Zd} {n p:Nat} {sl v gv uv:Value} {l N:List Tx} {us:List Zv} {u:Zv} {b:Bool}
end
end
section
set_option maxRecDepth 100000
section
variable {H0 H X:Zd} {n p d b M L:Nat} {a c v:Value} {bs:List UInt8} {s:RSt}
end
end
section
set_option maxRecDepth 100000
abbrev uZ:Zv:=⟨[],[],[],false,.slice none 0 0,[]⟩
structure B5 (H X:Zd) (P1 P2 P3 P4 P5:Nat) (s:RSt) (u:Zv):Prop where
 b1:X[P1]?=some (.cells (RR s) 1 false false)
 b2:X[P2]?=some (.cells (RR (0,[])) 1 false false)
 b3:X[P3]?=some (.cells uZ.cells 1 false false)
 b4:X[P4]?=some (.cells uZ.cells 1 false false)
 b5:X[P5]?=some (.cells u.cells 1 false false)
 le:HLe H X
 o:H.length<=P1/\P1 < P2/\P2 < P3/\P3 < P4/\P4 < P5
section
variable {H0 H X X':Zd} {n p d b M L P1 P2 P3 P4 P5 i:Nat} {a c v:Value} {bs:List UInt8} {s s':RSt} {u u':Zv}
theorem B5.hle (h:B5 H X P1 P2 P3 P4 P5 s u) (hl:HLe X X'):B5 H X' P1 P2 P3 P4 P5 s u:=⟨hl _ _ h.b1,hl _ _ h.b2,hl _ _ h.b3,hl _ _ h.b4,hl _ _ h.b5,h.le.trans hl,h.o⟩
theorem B5.putU (h:B5 H X P1 P2 P3 P4 P5 s u) (hi:i < 5) (hv:oneCell v=true) (hu:u.cells.set i v=u'.cells):∃ X',st1 (pa P5 i) v X=some (undef,X')/\B5 H X' P1 P2 P3 P4 P5 s u'/\X.length=X'.length/\∀ j,P5 < j->X'[j]?=X[j]?:=by
 have ho:=h.o;have w:=Wq (o:=i) h.b5 (by simpa using hi) hv;rw[hu] at w;refine⟨_,w,⟨(List.getElem?_set_ne (by omega)).trans h.b1,(List.getElem?_set_ne (by omega)).trans h.b2,(List.getElem?_set_ne (by omega)).trans h.b3,(List.getElem?_set_ne (by omega)).trans h.b4,ZW h.b5,h.le.put (by omega),ho⟩,by simp,fun j hj=>List.getElem?_set_ne (by omega)⟩
theorem B5.d1 (h:B5 H X P1 P2 P3 P4 P5 s u):ldA 2 (pt P1) X=some (.agg (RR s).toArray,X):=Z8 (n:=2) h.b1 rfl
theorem B5.d5 (h:B5 H X P1 P2 P3 P4 P5 s u):ldA 5 (pt P5) X=some (.agg u.cells.toArray,X):=Z8 (n:=5) h.b5 rfl
theorem ZCM (hv:oneCell u.gv=true):u.cells.all oneCell=true:=by simp only[Zv.cells,List.all_cons,hv];rfl
theorem B5.fin (h:B5 H X P1 P2 P3 P4 P5 s u) {Q:Nat} (hQ:Q=P4\/Q=P5) (bQ:X[Q]?=some (.cells u'.cells 1 false false)) (hv:oneCell u'.gv=true):∃ X',(bind (ldA 2 (pt P1)) fun y54=>bind (ldA 5 (pt Q)) fun y55=>bind (stA 2 (pt P2) y54) fun _=>bind (ldA 5 (pt Q)) fun u_56=>same u_56 y55 <| bind (stA 5 (pt P3) y55) fun _=>bind (ldA 2 (pt P2)) fun y57=>bind (ldA 5 (pt P3)) fun y58=>ret (Value.tuple #[y57,y58])) X=some (.tuple #[.agg (RR s).toArray,.agg u'.cells.toArray],X')/\HLe H X'/\∀ j,P5 < j->X'[j]?=X[j]?:=by
 have ho:=h.o;have we:=ZbD (vs:=RR s) (n:=2) h.b2 rfl rfl (ZIc _);have x1:ldA 5 (pt Q) X=some (.agg u'.cells.toArray,X):=Z8 (n:=5) bQ rfl;have x2:ldA 5 (pt Q) (X.set P2 (.cells (RR s) 1 false false))=some (.agg u'.cells.toArray,_):=Z8 (n:=5) ((List.getElem?_set_ne (by omega)).trans bQ) rfl;have c3:(X.set P2 (.cells (RR s) 1 false false))[P3]?=some (.cells uZ.cells 1 false false):=(List.getElem?_set_ne (by omega)).trans h.b3;have x3:=ZbD (vs:=u'.cells) (n:=5) c3 rfl rfl (ZCM hv);have x4:ldA 2 (pt P2) ((X.set P2 (.cells (RR s) 1 false false)).set P3 (.cells u'.cells 1 false false))=some (.agg (RR s).toArray,_):=Z8 (n:=2) ((List.getElem?_set_ne (by omega)).trans (ZW h.b2)) rfl;have x5:ldA 5 (pt P3) ((X.set P2 (.cells (RR s) 1 false false)).set P3 (.cells u'.cells 1 false false))=some (.agg u'.cells.toArray,_):=Z8 (n:=5) (ZW c3) rfl;refine⟨(X.set P2 (.cells (RR s) 1 false false)).set P3 (.cells u'.cells 1 false false),?_,(h.le.put (by omega)).put (by omega),fun j hj=>(List.getElem?_set_ne (by omega)).trans (List.getElem?_set_ne (by omega))⟩;rw[Za h.d1,Za x1,Za we,Za x2,Ql,Za x3,Za x4,Za x5];rfl
end
end
section
set_option maxRecDepth 100000
section
variable {H0 H X X' X0:Zd} {n p d b P1 P2 P3:Nat} {v sl gv:Value} {bs:List UInt8} {s:RSt} {q:List Nat} {us:List Zv}
end
end
section
set_option maxRecDepth 100000
structure Ans (X:Zd) (wv:Value) (r:Nat × (List Tx × List KA)):Prop where
 one:∃ uv gv,wv=.agg #[uv,gv]/\oneCell uv=true/\oneCell gv=true
 ok:r.1=0->∃ uv gv us,wv=.agg #[uv,gv]/\KF X uv us/\us.map QT=r.2.2/\Sl X gv (r.2.1.map strv)
theorem Ans.no {X:Zd} {r:Nat × (List Tx × List KA)} (h:r.1≠0):Ans X (.agg #[.slice none 0 0,.slice none 0 0]) r:=⟨⟨_,_,rfl,rfl,rfl⟩,fun h0=>absurd h0 h⟩
section
variable {H0 H X X' X0:Zd} {n p d b p2 p4 p5:Nat} {v sl gv:Value} {bs:List UInt8} {s:RSt} {q:List Nat} {us:List Zv}
end
end
section
variable {X X' H H0:Zd} {n d c w:Nat} {r:NR} {uv gv sl:Value} {s:NSt} {u:ZeB} {ac:List ZeB}
end
section
set_option maxRecDepth 100000
section
variable {X X' H H0:Zd} {n d c w:Nat} {r:NR} {uv gv sl:Value} {s:NSt} {u:ZeB} {ac:List ZeB}
end
end
section
set_option maxRecDepth 100000
section
variable {X X' H H0:Zd} {n d:Nat} {a:Value} {bs:List UInt8}
end
end
def kOf (e:Ent):KA:=(e.1,e.2,[],false,[])
section
variable {X X' H H0:Zd} {n d b:Nat} {v sl gv:Value} {m:List Ent} {e:Ent} {q:List Nat}
theorem ZCx (h:Y5 e=0):J2 (WN e)=0:=by
 have h1:Zw e.1=true/\K9 e.2=true:=by
  unfold Y5 at h;cases h2:Zw e.1 with
  | false=>rw[h2] at h;simp at h
  | true=>
   cases h3:K9 e.2 with
   | false=>rw[h2,h3] at h;simp at h
   | true=>exact⟨rfl,rfl⟩
 unfold J2 WN;rw[h1.1,h1.2];rfl
theorem Zrv:∀ {us:List Zv},(∀ u∈us,J2 u=0)->YD us=0
 | [],_=>rfl
 | u :: us,h=>by
  unfold YD;rw[h u (by simp),if_pos rfl];exact Zrv fun w hw=>h w (by simp[hw])
theorem ZJp (hE:∀ e∈m,Y5 e=0) (hR:Kh (m.map (·.1))=true) (hn:m.length<=12):Zcx (m.map WN) []=0:=by
 have h1:YD (m.map WN)=0:=Zrv fun u hu=>by
  obtain⟨e,he,rfl⟩:=List.mem_map.1 hu;exact ZCx (hE e he)
 have h2:(m.map WN).map (·.nm)=m.map (·.1):=by rw[List.map_map];rfl
 have h3:Zmy (m.map WN)=0:=by
  unfold Zmy;rw[if_pos h1,h2,hR,List.length_map,if_pos rfl,if_neg (show ¬ 12 < m.length by omega)]
 have h4:ZdO (m.map WN) []=0:=by
  unfold ZdO;rw[if_pos h3];rfl
 unfold Zcx;rw[if_pos h4];refine Zvt fun i u hu=>?_;obtain⟨e,_,rfl⟩:=List.mem_map.1 (List.mem_of_getElem? hu);unfold Zgn;rw[if_pos (by rfl),if_neg (fun h=>h.1 rfl)]
theorem ZFl:∃ X',R (n+1) ZmG [.agg (usr e).toArray] X=some (.agg (usr e).toArray,X')/\HLe X X':=by
 have z1:alc 1 (.agg (usr e).toArray) X=some (pt X.length,X++[.cells (usr e) 1 false false]):=bx (vs:=usr e) rfl;have k1:HLe X (X++[Zf.cells (usr e) 1 false false]):=.app _ _;have g1:(X++[Zf.cells (usr e) 1 false false])[X.length]?=some (.cells (usr e) 1 false false):=Zn;generalize X++[Zf.cells (usr e) 1 false false]=X1 at z1 k1 g1;have z2:alc 1 zU X1=some (pt X1.length,X1++[.cells (usr ([],[])) 1 false false]):=bx (vs:=usr ([],[])) rfl;have k2:HLe X1 (X1++[Zf.cells (usr ([],[])) 1 false false]):=.app _ _;have g2:(X1++[Zf.cells (usr ([],[])) 1 false false])[X1.length]?=some (.cells (usr ([],[])) 1 false false):=Zn;have g1':=k2 _ _ g1;have hl:=k1.len;generalize X1++[Zf.cells (usr ([],[])) 1 false false]=X2 at z2 k2 g2 g1';have a0:ld1 (pa X.length 0) X2=some (strv e.1,X2):=Zy g1' rfl;have a1:ld1 (pa X.length 1) X2=some (strv e.2,X2):=Zy g1' rfl;have zb:=Zp1 (k:=e.1) (s:=e.2) (H:=X2);refine⟨X2.set X1.length (.cells (usr e) 1 false false),?_,(k1.trans k2).put hl⟩;rw[R,ZCr rfl];unfold Zsn;rw[Za z1,Za z2,Za Zi,Za a0,Za Zi,Za a1,Za zb];exact ZGK (vs:=usr e) g2 rfl rfl rfl
theorem ZJK {rows:List (List Value)} {r:List Value} (hr:JQ 5 X sl rows q) (hn:rows.length<=1000) (h5:r.length=5) (h1:r.all oneCell=true):∃ w X1 sl' X2 q',bsl 5 1 zU [(0,5,.agg r.toArray)] X=some (w,X1)/\app 5 80 sl w X1=some (sl',X2)/\JQ 5 X2 sl' (rows++[r]) q'/\Zo q X q' X2:=by
 have x4:=ZxB (es:=5) (z:=zU) (H:=X) rfl h5 h1;have l1:HLe X (X++[Zf.cells r 5 false false]):=.app _ _;have s1:SlN 5 (X++[Zf.cells r 5 false false]) (.slice (some ⟨X.length,0,none⟩) 1 1) [r]:=SlN.whole (rows:=[r]) (c:=1) (e:=5) (g:=false) (ro:=false) (by rw[Zn];simp) (by simpa using h5);generalize X++[Zf.cells r 5 false false]=X1 at x4 l1 s1;obtain⟨sl',X2,q',x5,hn2,s2⟩:=(hr.step l1.step (by simp)).push (b:=80) s1 h5 (by omega) (by omega);exact⟨_,X1,sl',X2,q',x4,x5,hn2,l1.stepq.trans s2⟩
theorem ZGm (hn:m.length<=100) (hs:SlN 5 H0 v (m.map usr)):∀ (t j:Nat) (sl:Value) (q:List Nat) (X:Zd),m.length - j=t->j<=m.length->HLe H0 X->(∀ i∈q,H0.length<=i)->JQ 5 X sl ((m.take j).map usr) q->
  ∃ X' sl' q',Zj (c4 (Zah.l1 (R (n+1)))) [sl,v,iv m.length,iv j] X=some (.ext 0 [sl'],X')/\JQ 5 X' sl' (m.map usr) q'/\HLe H0 X'/\∀ i∈q',H0.length<=i
 | 0,j,sl,q,X,ht,hj,hle,hq,hr=>by
  have hj:j=m.length:=by omega
  subst hj;rw[List.take_length] at hr;refine⟨X,sl,q,ZZ ?_,hr,hle,hq⟩;rw[ZL];unfold Zah.l1;rw[Za Zs,Zb,if_neg (by simp)];rfl
 | t+1,j,sl,q,X,ht,hj,hle,hq,hr=>by
  have hkl:j < m.length:=by omega
  have hlt:(j:Int) < m.length:=by omega
  have hg:=List.getElem?_eq_getElem hkl;have htk:m.take (j+1)=m.take j++[m[j]]:=by rw[List.take_add_one,hg];rfl
  generalize m[j]=e at hg htk;have hf:=fun {K:Value->A.M Out}=>(hs.mono hle).fetch (k:=K) (r:=usr e) (i:=j) (by rw[List.getElem?_map,hg];rfl) (by omega) .i64;have z4:∀ K:Value->A.M Out,bind (alc 1 zU) (fun q=>bind (stA 5 q (.agg (usr e).toArray)) fun _=>K q) X=K (pt X.length) (X++[.cells (usr e) 1 false false]):=fun K=>ZaX (n:=5) (zs:=usr ([],[])) (r:=usr e) rfl rfl rfl rfl;have k1:HLe X (X++[Zf.cells (usr e) 1 false false]):=.app _ _;have g1:(X++[Zf.cells (usr e) 1 false false])[X.length]?=some (.cells (usr e) 1 false false):=Zn;generalize X++[Zf.cells (usr e) 1 false false]=X1 at z4 k1 g1;have d1:ldA 5 (pt X.length) X1=some (.agg (usr e).toArray,X1):=Z8 (n:=5) g1 rfl;obtain⟨X2,e2,k2⟩:=ZFl (n:=n) (e:=e) (X:=X1);have hr2:=hr.step (k1.trans k2).step (by simp);obtain⟨w,X3,sl',X4,q',e3,e4,r4,s4⟩:=ZJK (r:=usr e) hr2 (by rw[List.length_map,List.length_take];omega) rfl rfl;have hm:=(hle.trans (k1.trans k2)).more s4 hq;rw[<- List.map_singleton (f:=usr),<- List.map_append,<- htk] at r4;obtain⟨X5,sl5,q5,e5,r5,k5,o5⟩:=ZGm hn hs t (j+1) sl' q' X4 (by omega) (by omega) hm.1 hm.2 r4;refine⟨X5,sl5,q5,(ZJ ?_).trans e5,r5,k5,o5⟩;rw[ZL];unfold Zah.l1;rw[Za Zs,Zb,if_pos (by simpa using hlt),hf,z4,Za d1,Za e2,Za e3,Za e4,Za ZG,Je (by omega)];rfl
theorem ZG8 {m:QH} (h:Dir X d b m) (hE:∀ e∈Q3 m,Y5 e=0) (hR:Kh ((Q3 m).map (·.1))=true) (hn:(Q3 m).length<=12):∃ X' d' r s c,R (n+13) Zhj [pt d] X=some (pt d',X')/\HLe X X'/\OfS X X' d' r s c [] ((Q3 m).map WN):=by
 obtain⟨v,q,X1,e1,r1,k1,o1⟩:=ZzW (n:=n+9) h;have e1:R (n+12) ZaA [pt d] X=_:=e1;have hl:ZB v X1=some (iv (Q3 m).length,X1):=by have:=r1.rd.len (H':=X1);rwa [List.length_map] at this
 obtain⟨X2,sl,q2,e2,r2,k2,o2⟩:=ZGm (n:=n+11) (H0:=X1) (by omega) r1.rd (Q3 m).length 0 (.slice none 0 0) [] X1 (by omega) (by omega) (.refl _) (by simp) JQ.nil;have e2:Zj (c4 (Zah.l1 (R (n+12)))) [.slice none 0 0,v,iv (Q3 m).length,.int .i64 0] X1=_:=e2;obtain⟨X3,k3,h3⟩:=Zwi (n:=n) (us:=(Q3 m).map WN) (gs:=[]) (by rw[List.length_map];omega) (by simp) r2.us (Zt.nil (H:=X2)).rd;rw[if_pos (ZJp hE hR hn)] at h3;obtain⟨d',r,s,c,e3,hS⟩:=h3;have hle:=(k1.trans k2).trans k3;refine⟨X3,d',r,s,c,?_,hle,⟨hle,hS.nd,fun i hi=>Nat.le_trans (k1.trans k2).len (hS.own i hi),hS.K,hS.ok⟩⟩;rw[R,Zxc rfl];unfold Zah;have q0:bop .ptr .eql (pt d) (.pointer none) X=some (.bool false,X):=Jc;rw[Za q0,Zb,if_neg (by simp),Za e1,Za hl,Qk e2,ZI,Yi,Za e3,Za Zp,Za Zq];rfl
end
section
variable {X X' H H0:Zd} {n d b:Nat} {v sl gv bv:Value} {m:List Ent} {e:Ent} {q:List Nat} {bs:List UInt8}
theorem ZC9 (hR:ZrL m):Kh (m.map (·.1))=true:=ZjH (List.pairwise_map.2 hR)
end
section
variable {X X' Y:Zd} {n:Nat}
def DX (X:Zd) (D:Qf) (ov nv:Value) (M C:List Nat) (c:Nat):Prop:=match D with
 | .old m=>∃ d b,ov=pt d/\nv=.pointer none/\Dir X d b m/\(∀ p∈m,Y5 p=0)/\M=[b]/\C=[d]
 | .now s=>∃ d r,ov=.pointer none/\nv=pt d/\ND X d r s c/\M=r.own/\C=[d,r.x,r.g]
theorem DX.lt {D:Qf} {ov nv:Value} {M C:List Nat} {c:Nat} (h:DX X D ov nv M C c):∀ j,j∈M\/j∈C->j < X.length:=by
 cases D with
 | old m=>
  obtain⟨d,b,rfl,rfl,h1,h2,rfl,rfl⟩:=h
  rintro j (hj|hj)<;>cases List.mem_singleton.1 hj
  .exact h1.lt.2
  .exact h1.lt.1
 | now s=>
  obtain⟨d,r,rfl,rfl,h1,rfl,rfl⟩:=h
  rintro j (hj|hj)
  .exact(h1.isMap hj).1
  .simp only[List.mem_cons,List.not_mem_nil,or_false] at hj;rcases hj with rfl|rfl|rfl
   .exact ZX h1.cell
   .exact ZX h1.ix.c
   .exact h1.gr.glt
theorem DX.isMap {D:Qf} {ov nv:Value} {M C:List Nat} {c:Nat} (h:DX X D ov nv M C c) {j:Nat} (hj:j∈M):∀ cs es g ro,X[j]?≠some (.cells cs es g ro):=by
 cases D with
 | old m=>
  obtain⟨d,b,rfl,rfl,h1,h2,rfl,rfl⟩:=h;cases List.mem_singleton.1 hj;exact h1.g.isMap.2
 | now s=>
  obtain⟨d,r,rfl,rfl,h1,rfl,rfl⟩:=h;exact(h1.isMap hj).2
theorem DX.step {D:Qf} {ov nv:Value} {M C o1 o2:List Nat} {c:Nat} (h:DX X D ov nv M C c) (hs:Zo o1 X o2 X') (hm:∀ j∈M,j∉o1) (hc:∀ j∈C,j∉o1):DX X' D ov nv M C c:=by
 cases D with
 | old m=>
  obtain⟨d,b,rfl,rfl,h1,h2,rfl,rfl⟩:=h;exact⟨d,b,rfl,rfl,h1.step hs (hc d (by simp)) (hm b (by simp)),h2,rfl,rfl⟩
 | now s=>
  obtain⟨d,r,rfl,rfl,h1,rfl,rfl⟩:=h;exact⟨d,r,rfl,rfl,h1.step hs (hc d (by simp)) (hc r.x (by simp)) (hc r.g (by simp)) hm,rfl,rfl⟩
theorem DX.hle {D:Qf} {ov nv:Value} {M C:List Nat} {c:Nat} (h:DX X D ov nv M C c) (hl:HLe X X'):DX X' D ov nv M C c:=h.step hl.step (by simp) (by simp)
def crE (k s:Tx):Qf->Int
 | .old m=>YV k s m
 | .now t=>J6 k s t.A
def crD (k s:Tx):Qf->Qf
 | .old m=>.old (Zfy k s m)
 | .now t=>.now (ZbR k s t)
def deE (k:Tx):Qf->Int
 | .old m=>Jj k m
 | .now t=>ZH k t.A
def deD (k:Tx):Qf->Qf
 | .old m=>.old (Zft k m)
 | .now t=>.now (ZbP k t)
def seE (k s:Tx):Qf->Int
 | .old m=>ZaN k s m
 | .now t=>Jq k s t.A
def seD (k s:Tx):Qf->Qf
 | .old m=>.old (ZnX k s m)
 | .now t=>.now (Zax k s t)
def ZoN:Qf->List Tx
 | .old m=>m.map (·.1)
 | .now s=>KZ s
def Zvh:Qf->Value->Value->Value
 | .old _,ov,_=>.iface 77 ov
 | .now _,_,nv=>.iface 79 nv
section
variable {m:QH} {k h:Tx}
theorem ZwF {α:Type} {m:List (Tx × α)} {k:Tx} {v:α} {p:Tx × α} (h:p∈Qw k v m):p=(k,v)\/p∈m:=by
 unfold Qw at h;split at h
 .obtain⟨q,hq,rfl⟩:=List.mem_map.1 h;by_cases e:q.1=k
  .rw[if_pos e];exact .inl rfl
  .rw[if_neg e];exact .inr hq
 .rcases List.mem_append.1 h with h|h
  .exact .inr h
  .exact .inl (by simpa using h)
theorem ZIP (h0:YV k h m=0):Zw k=true/\K9 h=true:=by
 unfold YV ZE Qj WR at h0;cases hk:Zw k
 .rw[hk] at h0;simp at h0
 .cases hh:K9 h
  .rw[hk,hh] at h0;simp at h0
  .exact⟨rfl,rfl⟩
theorem ZIi (h0:ZaN k h m=0):Zw k=true/\K9 h=true:=by
 unfold ZaN ZE Qj WR at h0;cases hk:Zw k
 .rw[hk] at h0;simp at h0
 .cases hh:K9 h
  .rw[hk,hh] at h0;simp at h0
  .exact⟨rfl,rfl⟩
theorem ZHT (g:∀ p∈m,Y5 p=0):∀ p∈Zfy k h m,Y5 p=0:=by
 unfold Zfy;split
 .rename_i h0;intro p hp;rcases ZwF hp with rfl|hp
  .exact ZhS.2 (ZIP h0)
  .exact g p hp
 .exact g
theorem ZH3 (g:∀ p∈m,Y5 p=0):∀ p∈Zft k m,Y5 p=0:=by
 unfold Zft;split
 .intro p hp;exact g p (List.mem_filter.1 hp).1
 .exact g
theorem ZHi (g:∀ p∈m,Y5 p=0):∀ p∈ZnX k h m,Y5 p=0:=by
 unfold ZnX;split
 .rename_i h0;intro p hp;rcases ZwF hp with rfl|hp
  .exact ZhS.2 (ZIi h0)
  .exact g p hp
 .exact g
theorem ZxI {d b:Nat} (D:Dir X d b m) (hE:∀ p∈m,Y5 p=0):(∀ e∈Q3 m,Y5 e=0)/\Kh ((Q3 m).map (·.1))=true/\(Q3 m).length<=12:=
 ⟨fun e he=>hE e (Ku ((Zpg D.g.nod).1 he)),ZC9 (ZCm D.g.nod),by rw[Zwe];exact D.few⟩
end
theorem ZfC {P:Program} {Γ:Zc} {t:TypeId} {x:Value} {nm:String} {g:FuncId} {vs:List Value} (h:Zf3 P t nm=some g):Zcg P Γ (.iface t x) nm vs=Γ g (x :: vs):=by
 unfold Zcg;simp only[h]
theorem ZJT : Zf3 Tryz.prog 77 "Create" = some Zbh := by kernel_rfl
theorem ZJ6 : Zf3 Tryz.prog 77 "Delete" = some Zbl := by kernel_rfl
theorem ZJ2 : Zf3 Tryz.prog 77 "SetHash" = some ZaQ := by kernel_rfl
theorem ZJZ : Zf3 Tryz.prog 77 "List" = some Zeb := by kernel_rfl
theorem ZJ4 : Zf3 Tryz.prog 79 "Create" = some Zby := by kernel_rfl
theorem ZJU : Zf3 Tryz.prog 79 "Delete" = some Zbi := by kernel_rfl
theorem ZJ5 : Zf3 Tryz.prog 79 "SetHash" = some ZaM := by kernel_rfl
theorem ZJ0 : Zf3 Tryz.prog 79 "List" = some Zen := by kernel_rfl
section
variable {D:Qf} {ov nv:Value} {M C:List Nat} {c:Nat} {k s pre:Tx}
theorem ZEx (h : DX X D ov nv M C c) (hk : k.length ≤ 1000000000) (hs : s.length ≤ 1000000000) : ∃ X', Zcg Tryz.prog (R (n + 10)) (Zvh D ov nv) "Create" [strv k, strv s] X = some (iv (crE k s D), X') ∧ DX X' (crD k s D) ov nv M C c ∧ Zo M X M X' := by
 cases D with
 | old m=>
  obtain⟨d,b,rfl,rfl,h1,h2,rfl,rfl⟩:=h;obtain⟨X',e,D',st⟩:=ZFZ (n:=n+3) h1 hk hs;exact⟨X',(congrFun (ZfC ZJT) X).trans e,⟨d,b,rfl,rfl,D',ZHT h2,rfl,rfl⟩,st⟩
 | now t=>
  obtain⟨d,r,rfl,rfl,h1,rfl,rfl⟩:=h;obtain⟨X',e,D',st⟩:=ZEq (n:=n) (k:=k) (h:=s) h1;exact⟨X',(congrFun (ZfC ZJ4) X).trans e,⟨d,r,rfl,rfl,D',rfl,rfl⟩,st⟩
theorem ZEP (h : DX X D ov nv M C c) (hk : k.length ≤ 1000000000) : ∃ X', Zcg Tryz.prog (R (n + 10)) (Zvh D ov nv) "Delete" [strv k] X = some (iv (deE k D), X') ∧ DX X' (deD k D) ov nv M C c ∧ Zo M X M X' := by
 cases D with
 | old m=>
  obtain⟨d,b,rfl,rfl,h1,h2,rfl,rfl⟩:=h;obtain⟨X',e,D',st⟩:=ZFG (n:=n+3) h1 hk;exact⟨X',(congrFun (ZfC ZJ6) X).trans e,⟨d,b,rfl,rfl,D',ZH3 h2,rfl,rfl⟩,st⟩
 | now t=>
  obtain⟨d,r,rfl,rfl,h1,rfl,rfl⟩:=h;obtain⟨X',e,D',st⟩:=ZD5 (n:=n) (k:=k) h1;exact⟨X',(congrFun (ZfC ZJU) X).trans e,⟨d,r,rfl,rfl,D',rfl,rfl⟩,st⟩
theorem ZC3 (h : DX X D ov nv M C c) (hk : k.length ≤ 1000000000) (hs : s.length ≤ 1000000000) : ∃ X', Zcg Tryz.prog (R (n + 10)) (Zvh D ov nv) "SetHash" [strv k, strv s] X = some (iv (seE k s D), X') ∧ DX X' (seD k s D) ov nv M C c ∧ Zo M X M X' := by
 cases D with
 | old m=>
  obtain⟨d,b,rfl,rfl,h1,h2,rfl,rfl⟩:=h;obtain⟨X',e,D',st⟩:=ZDq (n:=n+3) h1 hk hs;exact⟨X',(congrFun (ZfC ZJ2) X).trans e,⟨d,b,rfl,rfl,D',ZHi h2,rfl,rfl⟩,st⟩
 | now t=>
  obtain⟨d,r,rfl,rfl,h1,rfl,rfl⟩:=h;obtain⟨X',e,D',st⟩:=ZCl (n:=n) (k:=k) (h:=s) h1;exact⟨X',(congrFun (ZfC ZJ5) X).trans e,⟨d,r,rfl,rfl,D',rfl,rfl⟩,st⟩
theorem ZGU (h : DX X D ov nv M C c) (hp : pre.length ≤ 1000000000) : ∃ v q X', Zcg Tryz.prog (R (n + 10)) (Zvh D ov nv) "List" [strv pre] X = some (.tuple #[v, iv (YS pre)], X') ∧ Zt X' v ((if Zja pre then (ZN (ZoN D)).filter (Zgl pre) else []).map strv) q ∧ HLe X X' ∧ (if Zja pre then (ZN (ZoN D)).filter (Zgl pre) else []).length ≤ 1000 ∧ ∀ j ∈ q, X.length ≤ j := by
 cases D with
 | old m=>
  obtain⟨d,b,rfl,rfl,h1,h2,rfl,rfl⟩:=h;obtain⟨v,q,X',e,r1,l1,o1⟩:=ZEp (n:=n+4) h1 hp;refine⟨v,q,X',(congrFun (ZfC ZJZ) X).trans e,r1,l1,?_,o1⟩;split
  .refine Nat.le_trans (List.length_filter_le _ _) ?_;rw[YC];have:=h1.few;show(m.map (·.1)).length<=1000
   rw[List.length_map];omega
  .simp
 | now t=>
  obtain⟨d,r,rfl,rfl,h1,rfl,rfl⟩:=h;obtain⟨v,q,X',e,r1,l1,o1⟩:=ZFQ (n:=n+4) h1 hp;refine⟨v,q,X',(congrFun (ZfC ZJ0) X).trans e,r1,l1,?_,o1⟩;split
  .refine Nat.le_trans (List.length_filter_le _ _) ?_;rw[YC];have:=h1.inv.few;show(KZ t).length<=1000
   have h3:(KZ t).length=t.A.length:=by simp
   omega
  .simp
end
end
section
variable {X X' Y:Zd} {n:Nat}
structure HP where
 h:Nat
 t:Nat
 b:Nat
 fr:List Nat
 q:List Nat
 M:List Nat
 C:List Nat
 c:Nat
 lvs:List Value
 ov:Value
 nv:Value
def HP.own (p:HP):List Nat:=p.M++(p.h :: p.t :: p.q)
structure HO (X:Zd) (p:HP) (D:Qf) (T:List Qy) (B:List Nat):Prop where
 cell:X[p.h]?=some (.cells [p.ov,p.nv,pt p.t,pt p.b] 1 false false)
 dir:DX X D p.ov p.nv p.M p.C p.c
 tab:Tab X p.t T p.lvs p.fr
 brd:Brd X p.b B p.q
 hfr:p.h∉p.fr
 hq:p.h∉p.q
 hC:p.h∉p.C
 bh:p.b≠p.h
 bt:p.b≠p.t
 tq:p.t∉p.q
 tC:p.t∉p.C
 fq:∀ j∈p.fr,j∉p.q
 Cq:∀ j∈p.C,j∉p.q
 Mo:∀ j∈p.M,j≠p.h/\j≠p.b/\j∉p.q/\j∉p.fr
variable {p:HP} {D D':Qf} {T:List Qy} {B:List Nat}
theorem HO.lt (h:HO X p D T B):∀ j∈p.own,j < X.length:=by
 intro j hj;unfold HP.own at hj;rcases List.mem_append.1 hj with hj|hj
 .exact h.dir.lt j (.inl hj)
 .rcases List.mem_cons.1 hj with rfl|hj
  .exact ZX h.cell
  .rcases List.mem_cons.1 hj with rfl|hj
   .exact h.tab.lt _ h.tab.t
   .exact h.brd.lt j (.inr hj)
theorem Tab.hle {t:Nat} {rows:List Qy} {lvs:List Value} {fr:List Nat} (h:Tab X t rows lvs fr) (hk:HLe X X'):Tab X' t rows lvs fr:=
 h.keep (fun j hj=>by have:=h.lt j hj;rw[List.getElem?_eq_getElem this];exact hk _ _ (List.getElem?_eq_getElem this)) hk.len
theorem HO.hle (h:HO X p D T B) (hl:HLe X X'):HO X' p D T B:=
 ⟨hl _ _ h.cell,h.dir.hle hl,h.tab.hle hl,h.brd.hle hl,h.hfr,h.hq,h.hC,h.bh,h.bt,h.tq,h.tC,h.fq,h.Cq,h.Mo⟩
theorem HO.step {o1 o2:List Nat} (h:HO X p D T B) (hs:Zo o1 X o2 X') (h1:∀ j∈p.own,j∉o1) (h2:∀ j∈p.C,j∉o1) (h3:p.b∉o1) (h4:∀ j∈p.fr,j∉o1):HO X' p D T B:=
 ⟨hs.get h.cell (h1 p.h (by simp[HP.own])),h.dir.step hs (fun j hj=>h1 j (by simp[HP.own,hj])) h2,h.tab.keep (fun j hj=>hs.keep j (h.tab.lt j hj) (h4 j hj)) hs.len,h.brd.keep (fun j hj=>hs.keep j (h.brd.lt j hj) (by rcases hj with rfl|hj;exact h3;exact h1 j (by simp[HP.own,hj]))),h.hfr,h.hq,h.hC,h.bh,h.bt,h.tq,h.tC,h.fq,h.Cq,h.Mo⟩
theorem HO.act {M':List Nat} {c':Nat} (h:HO X p D T B) (hs:Zo p.M X M' X') (hd:DX X' D' p.ov p.nv M' p.C c'):HO X' { p with M:=M',c:=c' } D' T B/\Zo p.own X ({ p with M:=M',c:=c' }:HP).own X':=by
 have hM:=h.Mo;have hb:=h.brd.lt;have ht:=h.tab.lt;have hh:=ZX h.cell;refine⟨⟨hs.get h.cell fun hj=>(hM _ hj).1 rfl,hd,h.tab.keep (fun j hj=>hs.keep j (ht j hj) fun hm=>(hM j hm).2.2.2 hj) hs.len,h.brd.keep (fun j hj=>hs.keep j (hb j hj) fun hm=>by
  rcases hj with rfl|hj
  .exact(hM _ hm).2.1 rfl
  .exact(hM j hm).2.2.1 hj),h.hfr,h.hq,h.hC,h.bh,h.bt,h.tq,h.tC,h.fq,h.Cq,fun j hj=>?_⟩,⟨hs.len,fun j hj hn=>hs.keep j hj fun hm=>hn (by simp[HP.own,hm]),fun j hj=>?_⟩⟩
 .rcases hs.own j hj with hj|hj
  .exact hM j hj
  .refine⟨fun e=>?_,fun e=>?_,fun e=>?_,fun e=>?_⟩
   .subst e;exact absurd hh (Nat.not_lt.2 hj)
   .subst e;exact absurd (hb _ (.inl rfl)) (Nat.not_lt.2 hj)
   .exact absurd (hb _ (.inr e)) (Nat.not_lt.2 hj)
   .exact absurd (ht _ e) (Nat.not_lt.2 hj)
 .simp only[HP.own] at hj ⊢;rcases List.mem_append.1 hj with hj|hj
  .rcases hs.own j hj with hj|hj
   .exact .inl (List.mem_append_left _ hj)
   .exact .inr hj
  .exact .inl (List.mem_append_right _ hj)
def verS:Qf->Nat
 | .old _=>1
 | .now _=>2
theorem DX.nv (h:DX X D p.ov p.nv p.M p.C p.c) (H:Zd):bop .ptr .eql p.nv (.pointer none) H=some (.bool (decide (verS D=1)),H):=by
 cases D with
 | old m=>
  obtain⟨d,b,h1,h2,_⟩:=h;rw[h2];rfl
 | now s=>
  obtain⟨d,r,h1,h2,_⟩:=h;rw[h2];rfl
theorem Zmj (h:HO X p D T B):R (n+1) Jv [pt p.h] X=some (iv (verS D),X):=by
 rw[R,ZnJ rfl];unfold Zev;rw[Za Zg,Za (show fa 1 (pa p.h 0) X=some (pa p.h 1,X) from rfl),Za (Zy h.cell rfl),Za (h.dir.nv X)];cases D<;>rfl
theorem ZHo (h:HO X p D T B):R (n+1) KO [pt p.h] X=some (Zvh D p.ov p.nv,X):=by
 rw[R,ZqK rfl];unfold Zgc;have e0:ld1 (pa p.h 0) X=some (p.ov,X):=Zy h.cell rfl;have e1:ld1 (pa p.h 1) X=some (p.nv,X):=Zy h.cell rfl;rw[Za Zg,Za (show fa 1 (pa p.h 0) X=some (pa p.h 1,X) from rfl),Za e1,Za (h.dir.nv X)];cases D with
 | old m=>
  rw[show decide (verS (.old m)=1)=true from rfl,Zb,if_pos rfl,Za Zg,Za Zi,Za e0];rfl
 | now s=>
  rw[show decide (verS (.now s)=1)=false from rfl,Zb,if_neg (by simp),Za Zg,Za (show fa 1 (pa p.h 0) X=some (pa p.h 1,X) from rfl),Za e1];rfl
def ZdT:Qf->List UInt8
 | .old m=>Zii (Q3 m)
 | .now s=>ZfQ (ZN s.K) (A.allK s)
theorem ZjJ (h:HO X p D T B):∃ v X',R (n+13) Qb [pt p.h] X=some (v,X')/\Sl X' v (u8s (ZdT D))/\HLe X X':=by
 have e0:ld1 (pa p.h 0) X=some (p.ov,X):=Zy h.cell rfl;have e1:ld1 (pa p.h 1) X=some (p.nv,X):=Zy h.cell rfl;have hnv:=h.dir.nv X;have hd:=h.dir;cases D with
 | old m=>
  obtain⟨d,b,h1,h2,h3,h4,_,_⟩:=hd;obtain⟨u1,u2,u3⟩:=ZxI h3 h4;obtain⟨v,X',e2,r2,l2⟩:=ZAE (n:=n+4) h3 u1 Zwe;have e2:R (n+12) ZeP [pt d] X=_:=e2;refine⟨v,X',?_,r2,l2⟩;rw[R,ZkO rfl];unfold ZeV;rw[Za Zg,Za (show fa 1 (pa p.h 0) X=some (pa p.h 1,X) from rfl),Za e1,Za hnv,show decide (verS (.old m)=1)=true from rfl,Zb,if_pos rfl,Za Zg,Za Zi,Za e0,h1,Za e2];rfl
 | now s=>
  obtain⟨d,r,h1,h2,h3,_,_⟩:=hd;obtain⟨v,q,X',e2,r2,l2,_⟩:=ZyM (n:=n) h3;refine⟨v,X',?_,r2.rd,l2⟩;rw[R,ZkO rfl];unfold ZeV;rw[Za Zg,Za (show fa 1 (pa p.h 0) X=some (pa p.h 1,X) from rfl),Za e1,Za hnv,show decide (verS (.now s)=1)=false from rfl,Zb,if_neg (by simp),Za Zg,Za (show fa 1 (pa p.h 0) X=some (pa p.h 1,X) from rfl),Za e1,h2,Za e2];rfl
end
section
variable {X X' Y:Zd} {n:Nat} {p:HP} {D D':Qf} {T:List Qy} {B:List Nat} {k:Tx}
theorem ZIe:∃ p X',R (n+2) ZdK [.int .i64 3] X=some (pt p.h,X')/\HO X' p (.old []) ZbN [0,0,0]/\HLe X X'/\(∀ j∈p.own,X.length<=j)/\p.c=0:=by
 have e1:R (n+1) ZeO [.int .i64 3] X=_:=ZEE;have b1:=ZH7 (X:=X);have k1:HLe X (X++[Zf.cells [.int .u8 0,.int .u8 0,.int .u8 0] 1 false false]++[Zf.cells [.slice (some ⟨X.length,0,none⟩) 3 3] 1 false false]):=(HLe.app _ _).trans (.app _ _);have hb:(X++[Zf.cells [.int .u8 0,.int .u8 0,.int .u8 0] 1 false false]).length=X.length+1:=by simp
 have hl1:(X++[Zf.cells [.int .u8 0,.int .u8 0,.int .u8 0] 1 false false]++[Zf.cells [.slice (some ⟨X.length,0,none⟩) 3 3] 1 false false]).length=X.length+2:=by simp
 rw[hb] at e1 b1;generalize X++[Zf.cells [.int .u8 0,.int .u8 0,.int .u8 0] 1 false false]++[Zf.cells [.slice (some ⟨X.length,0,none⟩) 3 3] 1 false false]=X1 at e1 b1 k1 hl1;obtain⟨X2,d,m,e2,D2,k2,hd,hm⟩:=Zzi (n:=n) (H:=X1);have e2:R (n+1) Zc4 [] X1=_:=e2;have e3:R (n+1) Zc3 [] X2=_:=Zur;have t3:=ZBk (X:=X2) (fr:=[X2.length]) (by simp) (by simp);have k3:HLe X2 (X2++[.cells (QY ZbN (List.replicate 8 (.slice none 0 0))) 1 false false]):=.app _ _;have hl3:(X2++[Zf.cells (QY ZbN (List.replicate 8 (.slice none 0 0))) 1 false false]).length=X2.length+1:=by simp
 generalize X2++[Zf.cells (QY ZbN (List.replicate 8 (.slice none 0 0))) 1 false false]=X3 at e3 t3 k3 hl3;have e4:alc 1 (.agg #[pt d,.pointer none,pt X2.length,pt (X.length+1)]) X3=some (pt X3.length,X3++[.cells [pt d,.pointer none,pt X2.length,pt (X.length+1)] 1 false false]):=Zeh (vs:=[pt d,.pointer none,pt X2.length,pt (X.length+1)]) rfl;have k4:HLe X3 (X3++[.cells [pt d,.pointer none,pt X2.length,pt (X.length+1)] 1 false false]):=.app _ _;have c4:(X3++[Zf.cells [pt d,.pointer none,pt X2.length,pt (X.length+1)] 1 false false])[X3.length]?=some (.cells [pt d,.pointer none,pt X2.length,pt (X.length+1)] 1 false false):=Zn;generalize X3++[Zf.cells [pt d,.pointer none,pt X2.length,pt (X.length+1)] 1 false false]=X4 at e4 k4 c4;have l2:=k2.len;have dl:=D2.lt;refine⟨⟨X3.length,X2.length,X.length+1,[X2.length],[X.length],[m],[d],0,List.replicate 8 (.slice none 0 0),pt d,.pointer none⟩,X4,?_,⟨c4,⟨d,m,rfl,rfl,(D2.hle k3).hle k4,by simp,rfl,rfl⟩,t3.hle k4,((b1.hle k2).hle k3).hle k4,?_,?_,?_,?_,?_,?_,?_,?_,?_,?_⟩,((k1.trans k2).trans k3).trans k4,?_,rfl⟩
 .rw[R,Zz1 rfl];unfold Zow;rw[Za e1,Za (show bop .ptr .eql (pt (X.length+1)) (.pointer none) X1=some (.bool false,X1) from Jc),Zb,if_neg (by simp),Za e2,Za e3,Za (show bld (.agg #[.pointer none,.pointer none,.pointer none,.pointer none]) [(0,1,pt d),(2,1,pt X2.length),(3,1,pt (X.length+1))] X3=some (.agg #[pt d,.pointer none,pt X2.length,pt (X.length+1)],X3) from rfl),Za e4];rfl
 .simp;omega
 .simp;omega
 .simp;omega
 .show X.length+1≠X3.length
  omega
 .show X.length+1≠X2.length
  omega
 .simp;omega
 .simp;omega
 .simp;omega
 .simp;omega
 .simp;omega
 .simp[HP.own];omega
end
section
variable {X X' Y:Zd} {n:Nat} {p:HP} {D D':Qf} {T:List Qy} {B:List Nat} {k:Tx}
theorem DX.first {ov nv:Value} {M C:List Nat} {c:Nat} (h:DX X D ov nv M C c):∀ j∈C,∃ i cs es g ro,X[j]?=some (.cells (.map i :: cs) es g ro):=by
 cases D with
 | old m=>
  obtain⟨d,b,rfl,rfl,h1,h2,rfl,rfl⟩:=h;intro j hj;cases List.mem_singleton.1 hj;exact⟨_,_,_,_,_,h1.c⟩
 | now s=>
  obtain⟨d,r,rfl,rfl,h1,rfl,rfl⟩:=h;intro j hj;simp only[List.mem_cons,List.not_mem_nil,or_false] at hj;rcases hj with rfl|rfl|rfl
  .exact⟨_,_,_,_,_,h1.cell⟩
  .exact⟨_,_,_,_,_,h1.ix.c⟩
  .exact⟨_,_,_,_,_,h1.gr.cell⟩
theorem HO.ovp (h:DX X D p.ov p.nv p.M p.C p.c):∃ q,p.ov=.pointer q:=by
 cases D with
 | old m=>obtain⟨d,b,h1,_⟩:=h;exact⟨_,h1⟩
 | now s=>obtain⟨d,r,h1,_⟩:=h;exact⟨_,h1⟩
theorem HO.apart (h:HO X p D T B) {j:Nat} {i:Option Nat} {cs:List Value} {es:Nat} {g ro:Bool} (hj:X[j]?=some (.cells (.map i :: cs) es g ro)):j≠p.h/\j≠p.t/\j∉p.q:=by
 refine⟨fun e=>?_,fun e=>?_,fun e=>?_⟩
 .subst e;rw[h.cell] at hj;obtain⟨q,hq⟩:=HO.ovp h.dir;rw[hq] at hj;cases hj
 .subst e;obtain⟨r,lv,hr,hl⟩:=h.tab.row (c:=0) (by omega);have h1:=Zhn hr hl (f:=0) (v:=.int .u64 r.num) rfl;have h2:=h.tab.cell;rw[hj] at h2;simp only[Option.some.injEq,Zf.cells.injEq] at h2;rw[<- h2.1] at h1;simp at h1
 .obtain⟨sl,h1,h2⟩:=h.brd.at_;rcases h2 with⟨h3,h4,_⟩|⟨sid,rest,g',_,h4,h5⟩
  .rw[h4] at e;cases e
  .rw[h4] at e;cases List.mem_singleton.1 e;rw[hj] at h5;cases hB:B with
   | nil=>exact h.brd.one hB
   | cons a l=>
    rw[hB] at h5;simp[rlv] at h5
end
section
variable {X X' Y:Zd} {n:Nat} {p p':HP} {D D':Qf} {T:List Qy} {B:List Nat} {k:Tx} {o:OpT}
structure YN (X X':Zd) (p p':HP) (D D':Qf) (T:List Qy) (B:List Nat) (e:Int):Prop where
 ho:HO X' p' D' T B
 st:Zo p.own X p'.own X'
 h:p'.h=p.h
 t:p'.t=p.t
 fr:p'.fr=p.fr
 no:e≠0->D'=D
 nn:0<=e
 c:p'.c<=p.c+1
theorem YN.refl (h:HO X p D T B) {e:Int} (he:0<=e):YN X X p p D D T B e:=⟨h,.refl _ _,rfl,rfl,rfl,fun _=>rfl,he,by omega⟩
theorem YN.of {e:Int} (h:HO X p D T B) (hl:HLe X X') (he:0<=e):YN X X' p p D D T B e:=⟨h.hle hl,hl.step.more (by simp) (fun j hj=>.inl hj),rfl,rfl,rfl,fun _=>rfl,he,by omega⟩
theorem YN.pre {e:Int} (hl:HLe Y X) (h:YN X X' p p' D D' T B e):YN Y X' p p' D D' T B e:=
 ⟨h.ho,⟨Nat.le_trans hl.len h.st.len,fun j hj hn=>by rw[h.st.keep j (Nat.lt_of_lt_of_le hj hl.len) hn,List.getElem?_eq_getElem hj];exact hl _ _ (List.getElem?_eq_getElem hj),fun j hj=>by
  rcases h.st.own j hj with h1|h1
  .exact .inl h1
  .exact .inr (Nat.le_trans hl.len h1)⟩,h.h,h.t,h.fr,h.no,h.nn,h.c⟩
theorem YN.act {e:Int} {M':List Nat} {c':Nat} (h:HO X p D T B) (hs:Zo p.M X M' X') (hd:DX X' D' p.ov p.nv M' p.C c') (hn:e≠0->D'=D) (he:0<=e) (hc:c'<=p.c+1):YN X X' p { p with M:=M',c:=c' } D D' T B e:=
 ⟨(h.act hs hd).1,(h.act hs hd).2,rfl,rfl,rfl,hn,he,hc⟩
theorem ZJx {s:Tx} (h:crE k s D≠0):crD k s D=D:=by
 cases D with
 | old m=>show Qf.old (Zfy k s m)=_;unfold Zfy;rw[if_neg (show ¬ YV k s m=0 from h)]
 | now t=>show Qf.now (ZbR k s t)=_;unfold ZbR;rw[if_neg (show ¬ J6 k s t.A=0 from h)]
theorem ZJL (h:deE k D≠0):deD k D=D:=by
 cases D with
 | old m=>show Qf.old (Zft k m)=_;unfold Zft;rw[if_neg (show ¬ Jj k m=0 from h)]
 | now t=>show Qf.now (ZbP k t)=_;unfold ZbP;rw[if_neg (show ¬ ZH k t.A=0 from h)]
theorem ZJv {s:Tx} (h:seE k s D≠0):seD k s D=D:=by
 cases D with
 | old m=>show Qf.old (ZnX k s m)=_;unfold ZnX;rw[if_neg (show ¬ ZaN k s m=0 from h)]
 | now t=>show Qf.now (Zax k s t)=_;unfold Zax;rw[if_neg (show ¬ Jq k s t.A=0 from h)]
theorem ZoY {e:Int} {l:List Int} (h:0<=e/\e≠6) (hl:∀ x∈l,0<=x/\x≠6):0<=WR e l/\WR e l≠6:=by
 induction l generalizing e with
 | nil=>exact h
 | cons a l ih=>
  have:WR e (a :: l)=WR (if e=0 then a else e) l:=rfl;rw[this];refine ih ?_ fun x hx=>hl x (by simp[hx]);split
  .exact hl a (by simp)
  .exact h
theorem ZuW:0<=ZE k/\ZE k≠6:=by unfold ZE;split<;>omega
theorem ZEJ:0<=Qj k/\Qj k≠6:=by unfold Qj;split<;>omega
theorem ZHA {m:QH}:0<=ZbT k m/\ZbT k m≠6:=by unfold ZbT;split<;>(try split)<;>omega
theorem Zyw {m:QH}:0<=YZ k m/\YZ k m≠6:=by unfold YZ;split<;>omega
theorem ZGx {s:Tx}:0<=crE k s D/\crE k s D≠6:=by
 cases D with
 | old m=>
  refine ZoY ZuW fun x hx=>?_;simp only[List.mem_cons,List.not_mem_nil,or_false] at hx;rcases hx with rfl|rfl
  .exact ZEJ
  .exact ZHA
 | now t=>
  show 0<=J6 k s t.A/\J6 k s t.A≠6
  unfold J6
  repeat' split
  all_goals omega
theorem ZGy:0<=deE k D/\deE k D≠6:=by
 cases D with
 | old m=>
  refine ZoY ZuW fun x hx=>?_;simp only[List.mem_cons,List.not_mem_nil,or_false] at hx;rcases hx with rfl;exact Zyw
 | now t=>
  show 0<=ZH k t.A/\ZH k t.A≠6
  unfold ZH
  repeat' split
  all_goals omega
theorem ZGq {s:Tx}:0<=seE k s D/\seE k s D≠6:=by
 cases D with
 | old m=>
  refine ZoY ZuW fun x hx=>?_;simp only[List.mem_cons,List.not_mem_nil,or_false] at hx;rcases hx with rfl|rfl
  .exact ZEJ
  .exact Zyw
 | now t=>
  show 0<=Jq k s t.A/\Jq k s t.A≠6
  unfold Jq
  repeat' split
  all_goals omega
theorem ZBJ:0<=YS k/\YS k≠6:=by
 unfold YS
 repeat' split
 all_goals omega
theorem lvN {b:Bool} {A E:M Out} {v e:Value} (hb:b=false) (h:E X=some (.nrm [v,e],X')):jn (cnd (.bool b) A E) (c2 fun x y=>ret (.nrm [x,y])) noX ZM X=some (.nrm [v,e],X'):=by
 subst hb;exact(ZC (vs:=[v,e]) (H':=X') h).trans rfl
theorem lvY {b:Bool} {A E:M Out} {v e:Value} (hb:b=true) (h:A X=some (.nrm [v,e],X')):jn (cnd (.bool b) A E) (c2 fun x y=>ret (.nrm [x,y])) noX ZM X=some (.nrm [v,e],X'):=by
 subst hb;exact(ZC (vs:=[v,e]) (H':=X') h).trans rfl
theorem lvR {b:Bool} {A E:M Out} {w:Value} (hb:b=false) (h:E X=some (.ret w,X')):jn (cnd (.bool b) A E) (c2 fun x y=>ret (.nrm [x,y])) noX ZM X=some (.ret w,X'):=by
 subst hb;exact(KG (v:=w) (H':=X') h).trans rfl
end
section
variable {X X' Y:Zd} {n:Nat} {p p':HP} {D D':Qf} {T:List Qy} {B:List Nat} {k m g t:Tx} {o:OpT} {s:NSt} {b:Bool}
theorem ZBP {A:AMp}:0<=ZH k A/\ZH k A≠6:=by
 unfold ZH
 repeat' split
 all_goals omega
theorem ZHy {OW:QH}:0<=Kj k m OW/\Kj k m OW≠6:=by
 unfold Kj
 repeat' split
 all_goals omega
theorem Ztt:0<=Jh k m s/\Jh k m s≠6:=by
 unfold Jh
 repeat' split
 all_goals first|exact ZHy|omega
theorem Zi8:0<=Jf k b s.A/\Jf k b s.A≠6:=by
 unfold Jf
 repeat' split
 all_goals first|exact ZBP|omega
theorem ZwC:0<=J5 k t s.A/\J5 k t s.A≠6:=by
 unfold J5
 repeat' split
 all_goals omega
theorem ZBu:0<=Jp g s.K/\Jp g s.K≠6:=by
 unfold Jp
 repeat' split
 all_goals omega
theorem Zp2:0<=Q6 g s.K/\Q6 g s.K≠6:=by
 unfold Q6
 repeat' split
 all_goals omega
theorem Zv8:0<=JG g k s.A/\JG g k s.A≠6:=by
 unfold JG
 repeat' split
 all_goals first|exact ZBP|omega
theorem ZzK {ms K:List Tx}:0<=QP g ms K/\QP g ms K≠6:=by
 unfold QP
 repeat' split
 all_goals omega
theorem ZBB:0<=Wj g k s/\Wj g k s≠6:=by
 unfold Wj;split
 .unfold Zav
  repeat' split
  all_goals first|exact ZzK|omega
 .exact Zv8
theorem ZyX:0<=KB g k s/\KB g k s≠6:=by
 unfold KB;split
 .unfold Zcp
  repeat' split
  all_goals first|exact ZzK|omega
 .exact Zv8
theorem Zx3 {OW:QH}:0<=ZaC m OW/\ZaC m OW≠6:=by
 unfold ZaC
 repeat' split
 all_goals omega
theorem ZB1 (h:Jh k m s≠0):Kr k m s=s:=if_neg h
theorem Zuu (h:Jf k b s.A≠0):Y4 k b s=s:=if_neg h
theorem ZEn (h:J5 k t s.A≠0):Zbf k t s=s:=if_neg h
theorem ZG4 (h:Jp g s.K≠0):Zi7 g s=s:=by
 unfold Zi7 Zjb;rw[if_neg h]
theorem ZHD (h:Q6 g s.K≠0):ZiW g s=s:=by
 unfold ZiW ZpQ;rw[if_neg h,if_neg h]
theorem ZG2 (h:Wj g k s≠0):Zd5 g k s=s:=if_neg h
theorem ZFx (h:KB g k s≠0):ZcK g k s=s:=if_neg h
theorem ND.still {d c c':Nat} {r r':NR} {s s':NSt} (h:ND X d r s c) (h':ND X' d r' s' c') (hs:Zo r.own X r'.own X'):r'.x=r.x/\r'.g=r.g:=by
 have h1:=hs.get h.cell fun hj=>(h.isMap hj).2 _ _ _ _ h.cell;rw[h'.cell] at h1;simp only[Option.some.injEq,Zf.cells.injEq,List.cons.injEq,Value.pointer.injEq] at h1;have h2:=h1.1.2.1;have h3:=h1.1.2.2.1;simp at h2 h3
 exact⟨h2,h3⟩
end
section
variable {X X' Y:Zd} {n:Nat} {p p':HP} {D D':Qf} {T:List Qy} {B:List Nat} {k m g t:Tx} {o:OpT} {s:NSt} {b:Bool}
theorem HO.box {j:Nat} {i:Int} {v w1 w2:Value} (h:HO X p D T B) (hj:X[j]?=some (.cells [.int .i64 i,v] 1 false false)) (ho:j∉p.own) (hf:j∉p.fr):HO (X.set j (.cells [w1,w2] 1 false false)) p D T B:=by
 have hs:Zo [j] X [j] (X.set j (.cells [w1,w2] 1 false false)):=⟨by simp,fun a ha hn=>List.getElem?_set_ne (fun e=>hn (by simp[e])),fun a ha=>.inl ha⟩;refine h.step hs (fun a ha e=>?_) (fun a ha e=>?_) (fun e=>?_) (fun a ha e=>?_)
 .rw[List.mem_singleton.1 e] at ha;exact ho ha
 .rw[List.mem_singleton.1 e] at ha;obtain⟨_,_,_,_,_,hc⟩:=h.dir.first _ ha;rw[hj] at hc;cases hc
 .have e:=List.mem_singleton.1 e;obtain⟨sl,h1,_⟩:=h.brd.at_;rw[e,hj] at h1;cases h1
 .rw[List.mem_singleton.1 e] at ha;exact hf ha
theorem ZjB {j:Nat} {i:Int} {v w:Value} {e:Int} (hj:X[j]?=some (.cells [.int .i64 i,v] 1 false false)) (hw:oneCell w=true):stA 2 (pt j) (.agg #[iv e,w]) X=some (undef,X.set j (.cells [iv e,w] 1 false false)):=
 ZbD (vs:=[iv e,w]) hj rfl rfl (by rw[List.all_cons,List.all_cons,hw];rfl)
theorem Zj8 {j:Nat} {i:Int} {v w:Value} {e:Int} (hj:X[j]?=some (.cells [.int .i64 i,v] 1 false false)):ldA 2 (pt j) (X.set j (.cells [iv e,w] 1 false false))=some (.agg #[iv e,w],X.set j (.cells [iv e,w] 1 false false)):=
 Z8 (n:=2) (ZW hj) rfl
theorem ZF0 (h:checkO o=0):o.kd < 17:=by
 unfold checkO at h;split at h
 .cases h
 .omega
end
section
variable {X X' Y:Zd} {n:Nat} {p p':HP} {D D':Qf} {T:List Qy} {B:List Nat} {k m g t:Tx} {o:OpT} {s:NSt} {b:Bool} {r:W7}
theorem HO.put {T':List Qy} {lvs':List Value} {q2:List Nat} (h:HO X p D T B) (ht:Tab X' p.t T' lvs' (p.fr++q2)) (hl:X.length<=X'.length) (hk:∀ j,j < X.length->j≠p.t->X'[j]?=X[j]?) (hq:∀ j∈q2,X.length<=j):HO X' { p with fr:=p.fr++q2,lvs:=lvs' } D T' B/\Zo p.own X ({ p with fr:=p.fr++q2,lvs:=lvs' }:HP).own X':=by
 have hs:Zo [p.t] X [p.t] X':=⟨hl,fun j hj hn=>hk j hj (fun e=>hn (by simp[e])),fun j hj=>.inl hj⟩;have hh:=ZX h.cell;have htf:=h.tab.t;have hht:p.h≠p.t:=fun e=>h.hfr (e ▸ htf);have hMt:∀ j∈p.M,j≠p.t:=fun j hj e=>(h.Mo j hj).2.2.2 (e ▸ htf);refine⟨⟨hs.get h.cell (by simp[hht]),h.dir.step hs (fun j hj=>by simp[hMt j hj]) (fun j hj=>by simp;exact fun e=>h.tC (e ▸ hj)),ht,h.brd.keep (fun j hj=>hk j (h.brd.lt j hj) (by
  rcases hj with rfl|hj
  .exact h.bt
  .exact fun e=>h.tq (e ▸ hj))),?_,h.hq,h.hC,h.bh,h.bt,h.tq,h.tC,?_,h.Cq,?_⟩,⟨hl,fun j hj hn=>hk j hj (fun e=>hn (by simp[HP.own,e])),fun j hj=>.inl hj⟩⟩
 .intro hm;rcases List.mem_append.1 hm with h1|h1
  .exact h.hfr h1
  .exact absurd hh (Nat.not_lt.2 (hq p.h h1))
 .intro j hj hm;rcases List.mem_append.1 hj with h1|h1
  .exact h.fq j h1 hm
  .have:=hq j h1;have:=h.brd.lt j (.inr hm);omega
 .intro j hj;obtain⟨m1,m2,m3,m4⟩:=h.Mo j hj;refine⟨m1,m2,m3,fun hm=>?_⟩;rcases List.mem_append.1 hm with h1|h1
  .exact m4 h1
  .have:=hq j h1;have:=h.dir.lt j (.inl hj);omega
theorem Zvs (r:W7) (X:Zd):alc 1 (.agg r.cells.toArray) X=some (pt X.length,X++[.cells r.cells 1 false false]):=rfl
theorem Zzc {j:Nat} (h:X[j]?=some (.cells r.cells 1 false false)):ldA 5 (pa j 2) X=some (.agg r.o.cells.toArray,X):=Zp3 (o:=2) (k:=5) h (by simp[W7.cells,OpT.cells])
theorem HO.note {B':List Nat} (h:HO X p D T B) (hs:Zo p.q X p.q X') (hb:Brd X' p.b B' p.q):HO X' p D T B'/\Zo p.own X p.own X':=
 ⟨⟨hs.get h.cell h.hq,h.dir.step hs (fun j hj=>(h.Mo j hj).2.2.1) h.Cq,h.tab.keep (fun j hj=>hs.keep j (h.tab.lt j hj) (h.fq j hj)) hs.len,hb,h.hfr,h.hq,h.hC,h.bh,h.bt,h.tq,h.tC,h.fq,h.Cq,h.Mo⟩,hs.more (fun j hj=>by simp[HP.own,hj]) (fun j hj=>.inl hj)⟩
end
section
variable {X X' Y:Zd} {n:Nat} {p p':HP} {D D':Qf} {T:List Qy} {B:List Nat} {o:OpT} {s:NSt} {r:W7}
end
section
variable {X X' Y:Zd} {n:Nat} {p p':HP} {D D':Qf} {T:List Qy} {B:List Nat} {o:OpT} {s:NSt} {r:W7}
def ZEO (n:Nat) (D:Qf) (T:List Qy) (B:List Nat) (o:OpT) (P:Int->List Tx->Qf->Prop):Prop:=
 ∀ (X:Zd) (p:HP),GlH X->HO X p D T B->p.c<=1000->∃ (v:Value) (l:List Tx) (q:List Nat) (e:Int) (p':HP) (D':Qf) (X':Zd),
  R n ZcL [pt p.h,.agg o.cells.toArray] X=some (.agg #[iv e,v],X')/\Zt X' v (l.map strv) q/\(∀ j∈q,X.length<=j)/\l.length<=1000/\YN X X' p p' D D' T B e/\(e≠0->l=[])/\P e l D'
def Zh9 (T:List Qy) (c m:Nat):Nat × List Tx:=match judgeS T c m with
 | 0=>(1,[])
 | 1=>(12,[])
 | _=>match T[c]? with
  | some r=>(r.e,r.l)
  | none=>(0,[])
def ZJl (P:Int->List Tx->Qf->Prop) (D:Qf) (T:List Qy) (r:W7) (e:Int) (l:List Tx) (dn:Bool) (D':Qf) (T':List Qy):Prop:=
 (judgeS T r.cl r.num≠3/\dn=false/\D'=D/\T'=T/\e=(Zh9 T r.cl r.num).1/\l=(Zh9 T r.cl r.num).2)\/
 (judgeS T r.cl r.num=3/\dn=true/\P e l D'/\∃ en:Nat,e=en/\T'=T.set r.cl ⟨r.num,en,l⟩)
theorem ZC7 {P:Int->List Tx->Qf->Prop} (hG:GlH X) (h:HO X p D T B) (hc:p.c<=1000) (hok:ZmN r) (hs:r.cl≠255) (hP:ZEO (n+18) D T B r.o P):∃ (v:Value) (l:List Tx) (e:Int) (dn:Bool) (p':HP) (D':Qf) (T':List Qy) (X':Zd),
  R (n+19) Q1 [pt p.h,.agg r.cells.toArray] X=some (.tuple #[.agg #[iv e,v],.bool dn],X')/\Sl X' v (l.map strv)/\oneCell v=true/\l.length<=1000/\(∀ id,own1 v=some id->X.length<=id)/\HO X' p' D' T' B/\Zo p.own X p'.own X'/\p'.h=p.h/\p'.c<=p.c+1/\(e≠0->l=[])/\(judgeS T r.cl r.num≠3->HLe X X'/\p'=p)/\(∀ j∈p'.fr,j∈p.fr\/X.length<=j)/\ZJl P D T r e l dn D' T':=by
 have a1:=Zvs r X;have k1:HLe X (X++[Zf.cells r.cells 1 false false]):=.app _ _;have c1:(X++[Zf.cells r.cells 1 false false])[X.length]?=some (.cells r.cells 1 false false):=Zn;generalize X++[Zf.cells r.cells 1 false false]=X1 at a1 k1 c1;have a2:alc 1 (.agg #[.int .i64 0,.slice none 0 0]) X1=some (pt X1.length,X1++[.cells [.int .i64 0,.slice none 0 0] 1 false false]):=rfl;have k2:HLe X1 (X1++[Zf.cells [.int .i64 0,.slice none 0 0] 1 false false]):=.app _ _;have c2:(X1++[Zf.cells [.int .i64 0,.slice none 0 0] 1 false false])[X1.length]?=some (.cells [.int .i64 0,.slice none 0 0] 1 false false):=Zn;have d2:=k2 _ _ c1;generalize X1++[Zf.cells [.int .i64 0,.slice none 0 0] 1 false false]=X2 at a2 k2 c2 d2;have k12:=k1.trans k2;have H2:=h.hle k12;have G2:=hG.le k12;have n1:=k1.len;have n2:=k2.len;have hp1:X.length < X1.length:=ZX c1;have hp2:X1.length < X2.length:=ZX c2;have own2:X1.length∉p.own:=fun hh=>by have:=h.lt _ hh;omega
 have own1:X.length∉p.own:=fun hh=>by have:=h.lt _ hh;omega
 have fr2:X1.length∉p.fr:=fun hh=>by have:=h.tab.lt _ hh;omega
 have f0:∀ v X',KM (R (n+18)) (pt p.h) (.agg r.cells.toArray) X=some (v,X')->R (n+19) Q1 [pt p.h,.agg r.cells.toArray] X=some (v,X'):=fun v X' hr=>by rw[R,ZiB rfl];exact hr
 have b0:ld1 (pa X.length 0) X2=some (.int .u8 r.cl,X2):=Zy d2 rfl;have b1:ld1 (pa X.length 1) X2=some (.int .u64 r.num,X2):=Zy d2 rfl;have bt:ld1 (pa p.h 2) X2=some (pt p.t,X2):=Zy H2.cell rfl;have g1:∀ Z:Zd,fa 1 (pt X.length) Z=some (pa X.length 1,Z):=fun Z=>rfl;have g2:∀ Z:Zd,fa 2 (pt X.length) Z=some (pa X.length 2,Z):=fun Z=>rfl;have y2:∀ Z:Zd,fa 2 (pa p.h 0) Z=some (pa p.h 2,Z):=fun Z=>rfl;have q0:bop .int .eql (.int .u8 r.cl) (.int .u8 255) X2=some (.bool false,X2):=by
  rw[ZA];have hq:((r.cl:Int)==255)=false:=by rw[beq_eq_false_iff_ne];omega
  rw[hq]
 have Zgu:∀ {Z:Zd} {p':HP} {D':Qf} {T':List Qy} {e:Int} {w:Value} {l:List Tx} {q:List Nat} {dn:Bool},HO Z p' D' T' B->Zo p.own X2 p'.own Z->X1.length∉p'.fr->Zt Z w (l.map strv) q->(∀ j∈q,X2.length<=j)->Z[X1.length]?=some (.cells [.int .i64 0,.slice none 0 0] 1 false false)->
   ∃ Z',bind (stA 2 (pt X1.length) (.agg #[iv e,w])) (fun _=>bind (ldA 2 (pt X1.length)) fun vrx=>ret (Value.tuple #[vrx,.bool dn])) Z=some (.tuple #[.agg #[iv e,w],.bool dn],Z')/\Sl Z' w (l.map strv)/\oneCell w=true/\(∀ id,Go.Proofs.YtgfbgfafajiehaaGreatDoor.A.own1 w=some id->X.length<=id)/\HO Z' p' D' T' B/\Zo p.own X p'.own Z'/\(HLe X Z->HLe X Z'):=fun {Z p' D' T' e w l q dn} hO hs hf hr hq hz=>by
  have ho:X1.length∉p'.own:=fun hh=>by
   rcases hs.own _ hh with h1|h1
   .exact own2 h1
   .omega
  have hr2:Zt (Z.set X1.length (.cells [iv e,w] 1 false false)) w (l.map strv) q:=hr.keep fun j hj=>List.getElem?_set_ne (fun e0=>by have:=hq j hj;omega);refine⟨Z.set X1.length (.cells [iv e,w] 1 false false),?_,hr2.rd,hr.one.1,fun id hi=>by have:=hq _ (hr.own_of hi);omega,hO.box hz ho hf,⟨by simpa using Nat.le_trans k12.len hs.len,fun j hj hn=>?_,fun j hj=>?_⟩,fun hl=>hl.put (by omega)⟩
  .rw[Za (ZjB hz hr.one.1),Za (Zj8 hz)];rfl
  .rw[List.getElem?_set_ne (by omega),hs.keep j (Nat.lt_of_lt_of_le hj k12.len) hn,List.getElem?_eq_getElem hj];exact k12 _ _ (List.getElem?_eq_getElem hj)
  .rcases hs.own j hj with h1|h1
   .exact .inl h1
   .exact .inr (Nat.le_trans k12.len h1)
 have nil:∀ {Z:Zd},Zt Z (.slice none 0 0) (([]:List Tx).map strv) []:=Zt.nil;have ej:R (n+18) KK [pt p.t,.int .u8 r.cl,.int .u64 r.num] X2=some (iv (judgeS T r.cl r.num),X2):=ZBv H2.tab;have qj:∀ j:Nat,bop .int .eql (iv (judgeS T r.cl r.num)) (iv j) X2=some (.bool (decide (judgeS T r.cl r.num=j)),X2):=fun j=>by
  rw[ZA];have hq:((judgeS T r.cl r.num:Int)==(j:Int))=decide (judgeS T r.cl r.num=j):=by
   by_cases hz:judgeS T r.cl r.num=j
   .rw[hz];simp
   .rw[decide_eq_false hz,beq_eq_false_iff_ne];omega
  rw[hq]
 have qj0:bop .int .eql (iv (judgeS T r.cl r.num)) (.int .i64 0) X2=_:=qj 0;have qj1:bop .int .eql (iv (judgeS T r.cl r.num)) (.int .i64 1) X2=_:=qj 1;have qj2:bop .int .eql (iv (judgeS T r.cl r.num)) (.int .i64 2) X2=_:=qj 2;by_cases j0:judgeS T r.cl r.num=0
 .obtain⟨Z',z1,z2,z3,zf,z4,z5,z6⟩:=Zgu (e:=1) (dn:=false) H2 (.refl _ _) fr2 nil (by simp) c2;have ha:Zh9 T r.cl r.num=(1,[]):=by unfold Zh9;rw[j0];rfl
  refine⟨.slice none 0 0,[],1,false,p,D,T,Z',f0 _ _ ?_,z2,z3,by simp,zf,z4,z5,rfl,by omega,fun _=>rfl,fun _=>⟨z6 k12,rfl⟩,fun j hj=>.inl hj,.inl ⟨by omega,rfl,rfl,rfl,by rw[ha];rfl,by rw[ha]⟩⟩;unfold KM;rw[Za a1,Za a2,Za Zi,Za b0,Za q0,Zb,if_neg (by simp),Za Zg,Za (y2 X2),Za bt,Za Zi,Za b0,Za (g1 X2),Za b1,Za ej,Za qj0,decide_eq_true j0,Zb,if_pos rfl,Za (show bld (.agg #[.int .i64 0,.slice none 0 0]) [(0,1,(Value.int .i64 1))] X2=some (.agg #[iv 1,.slice none 0 0],X2) from rfl)];exact z1
 by_cases j1:judgeS T r.cl r.num=1
 .obtain⟨Z',z1,z2,z3,zf,z4,z5,z6⟩:=Zgu (e:=12) (dn:=false) H2 (.refl _ _) fr2 nil (by simp) c2;have ha:Zh9 T r.cl r.num=(12,[]):=by unfold Zh9;rw[j1];rfl
  refine⟨.slice none 0 0,[],12,false,p,D,T,Z',f0 _ _ ?_,z2,z3,by simp,zf,z4,z5,rfl,by omega,fun _=>rfl,fun _=>⟨z6 k12,rfl⟩,fun j hj=>.inl hj,.inl ⟨by omega,rfl,rfl,rfl,by rw[ha];rfl,by rw[ha]⟩⟩;unfold KM;rw[Za a1,Za a2,Za Zi,Za b0,Za q0,Zb,if_neg (by simp),Za Zg,Za (y2 X2),Za bt,Za Zi,Za b0,Za (g1 X2),Za b1,Za ej,Za qj0,decide_eq_false j0,Zb,if_neg (by simp),Za qj1,decide_eq_true j1,Zb,if_pos rfl,Za (show bld (.agg #[.int .i64 0,.slice none 0 0]) [(0,1,(Value.int .i64 12))] X2=some (.agg #[iv 12,.slice none 0 0],X2) from rfl)];exact z1
 by_cases j2:judgeS T r.cl r.num=2
 .have hcl:r.cl < 8:=by
   unfold judgeS at j2;split at j2
   .cases j2
   .omega
  obtain⟨row,lv,hr,hlv⟩:=H2.tab.row hcl;obtain⟨v,q,X3,e3,r3,k3,o3⟩:=ZHI (n:=n+15) H2.tab hcl hr;have e3:R (n+18) WD [pt p.t,.int .u8 r.cl] X2=_:=e3;have few:=(H2.tab.txt _ _ _ hr hlv).few;have ha:Zh9 T r.cl r.num=(row.e,row.l):=by unfold Zh9;rw[j2,hr];rfl
  obtain⟨Z',z1,z2,z3,zf,z4,z5,z6⟩:=Zgu (e:=(row.e:Int)) (dn:=false) (H2.hle k3) (k3.step.more (by simp) (fun j hj=>.inl hj)) fr2 r3 o3 (k3 _ _ c2);refine⟨v,row.l,row.e,false,p,D,T,Z',f0 _ _ ?_,z2,z3,few,zf,z4,z5,rfl,by omega,fun he=>H2.tab.err row (List.mem_of_getElem? hr) (fun h0=>he (by rw[h0];rfl)),fun _=>⟨z6 (k12.trans k3),rfl⟩,fun j hj=>.inl hj,.inl ⟨by omega,rfl,rfl,rfl,by rw[ha],by rw[ha]⟩⟩;unfold KM;rw[Za a1,Za a2,Za Zi,Za b0,Za q0,Zb,if_neg (by simp),Za Zg,Za (y2 X2),Za bt,Za Zi,Za b0,Za (g1 X2),Za b1,Za ej,Za qj0,decide_eq_false j0,Zb,if_neg (by simp),Za qj1,decide_eq_false j1,Zb,if_neg (by simp),Za qj2,decide_eq_true j2,Zb,if_pos rfl,Za Zg,Za (y2 X2),Za bt,Za Zi,Za b0,Za e3];exact z1
 .have j3:judgeS T r.cl r.num=3:=by have:=Zzd T r.cl r.num;omega
  obtain⟨v,l,q,e,p1,D1,X3,e3,r3,o3,n3,A,eL,hPe⟩:=hP X2 p G2 H2 hc;have d3:=A.st.get d2 own1;have c3:=A.st.get c2 own2;have z6:∀ K:Value->M Value,bind (alc 1 (.agg #[.int .i64 0,.slice none 0 0])) (fun q=>bind (stA 2 q (.agg #[iv e,v])) fun _=>K q) X3=K (pt X3.length) (X3++[.cells [iv e,v] 1 false false]):=fun K=>ZaX (n:=2) (zs:=[.int .i64 0,.slice none 0 0]) (r:=[iv e,v]) rfl rfl rfl (by rw[List.all_cons,List.all_cons,r3.one.1];rfl);have k4:HLe X3 (X3++[Zf.cells [iv e,v] 1 false false]):=.app _ _;have c6:(X3++[Zf.cells [iv e,v] 1 false false])[X3.length]?=some (.cells [iv e,v] 1 false false):=Zn;generalize X3++[Zf.cells [iv e,v] 1 false false]=X4 at z6 k4 c6;have H4:=A.ho.hle k4;have r4:=r3.hle k4;have hT:=A.t;have hH:=A.h;have htl:p.t < X.length:=h.tab.lt _ h.tab.t;have n4:=k4.len;have n23:=A.st.len;obtain⟨en,rfl⟩:∃ en:Nat,e=en:=⟨e.toNat,by have:=A.nn;omega⟩;obtain⟨X5,lvs',q2,e5,t5,l5,m5,o5⟩:=ZJz (n:=n+14) (c:=r.cl) (m:=r.num) (e:=en) H4.tab r4.rd n3 r4.one.1;have e5:R (n+18) Zb3 [pt p1.t,.int .u8 r.cl,.int .u64 r.num,.agg #[iv en,v]] X4=_:=e5;have hput:Zl0 T r.cl r.num en l=T.set r.cl ⟨r.num,en,l⟩:=by
   unfold Zl0;rw[if_pos j3];have:Wk en l=l:=by
    unfold Wk;split
    .rfl
    .rename_i hne;exact(eL hne).symm
   rw[this]
  rw[hput] at t5;obtain⟨H5,s5⟩:=H4.put t5 l5 m5 o5;have r5:Zt X5 v (l.map strv) q:=r4.keep fun j hj=>m5 j (r4.lt j hj) (by have:=o3 j hj;omega);have c6':X5[X3.length]?=some (.cells [iv en,v] 1 false false):=by
   rw[m5 _ (ZX c6) (by omega)];exact c6
  have c5:X5[X1.length]?=some (.cells [.int .i64 0,.slice none 0 0] 1 false false):=by
   have:=k4 _ _ c3;rw[m5 _ (ZX this) (by omega)];exact this
  have s24:Zo p.own X2 p1.own X4:=A.st.trans (k4.step.more (by simp) (fun j hj=>.inl hj));obtain⟨Z',z1,z2,z3,zf,z4,z5,_⟩:=Zgu (e:=(en:Int)) (dn:=true) H5 (s24.trans s5) (fun hh=>by
   rcases List.mem_append.1 hh with h1|h1
   .rw[A.fr] at h1;exact fr2 h1
   .have:=o5 _ h1;omega) r5 o3 c5
  refine⟨v,l,en,true,_,D1,_,Z',f0 _ _ ?_,z2,z3,n3,zf,z4,z5,hH,A.c,eL,fun hj=>absurd j3 hj,fun j hj=>by
   rcases List.mem_append.1 hj with h1|h1
   .rw[A.fr] at h1;exact .inl h1
   .have:=o5 _ h1;exact .inr (by omega),.inr ⟨j3,rfl,hPe,en,rfl,rfl⟩⟩
  unfold KM;rw[Za a1,Za a2,Za Zi,Za b0,Za q0,Zb,if_neg (by simp),Za Zg,Za (y2 X2),Za bt,Za Zi,Za b0,Za (g1 X2),Za b1,Za ej,Za qj0,decide_eq_false j0,Zb,if_neg (by simp),Za qj1,decide_eq_false j1,Zb,if_neg (by simp),Za qj2,decide_eq_false j2,Zb,if_neg (by simp),Za (g2 X2),Za (Zzc d2),Za e3,z6,Za Zg,Za (y2 X4),Za (show ld1 (pa p.h 2) X4=some (pt p1.t,X4) from by rw[<- hH];exact Zy H4.cell rfl),Za Zi,Za (show ld1 (pa X.length 0) X4=some (.int .u8 r.cl,X4) from Zy (k4 _ _ d3) rfl),Za (g1 X4),Za (show ld1 (pa X.length 1) X4=some (.int .u64 r.num,X4) from Zy (k4 _ _ d3) rfl),Za (Z8 (n:=2) c6 rfl),Za e5,Za (Z8 (n:=2) c6' rfl)];exact z1
end
section
set_option maxRecDepth 100000
structure Y6 (s t:NSt):Prop where
 a:∀ k,Ze k s.A=Ze k t.A
 f:∀ k,Ze k s.OF=Ze k t.OF
 w:∀ m,Ze m s.OW=Ze m t.OW
 m:∀ g k,s.mem g k=t.mem g k
 k:∀ g,g∈s.K↔g∈t.K
section
variable {α:Type} {x y:List (Tx × α)} {v:α} {j k o p:Tx} {OW OF OW' OF':QH} {s t:NSt} {K K':List Tx} {m:Tx} {u:ZeB}
theorem Zfu:k∈x.map (·.1)↔(Ze k x).isSome=true:=by
 constructor
 .intro h;cases hk:Ze k x with
  | none=>
   rw[Zfs] at hk;obtain⟨q,hq,rfl⟩:=List.mem_map.1 h;exact absurd rfl (hk q hq)
  | some v=>rfl
 .intro h;obtain⟨v,hv⟩:=Option.isSome_iff_exists.1 h;exact List.mem_map.2 ⟨(k,v),Ku hv,rfl⟩
theorem Zdh (h:∀ k,Ze k x=Ze k y) (k:Tx):Ze k (Qw j v x)=Ze k (Qw j v y):=by
 by_cases e:k=j
 .subst e;rw[WL,WL]
 .rw[Kt e,Kt e];exact h k
theorem ZlA (h:∀ k,Ze k x=Ze k y) (k:Tx):Ze k (Yx j x)=Ze k (Yx j y):=by
 by_cases e:k=j
 .subst e;rw[Za6,Za6]
 .rw[JM e,JM e];exact h k
theorem Zkt (hf:∀ k,Ze k OF=Ze k OF') (hw:∀ k,Ze k OW=Ze k OW') (k:Tx):Ze k (ZbG j OW OF)=Ze k (ZbG j OW' OF'):=by
 unfold ZbG;rw[hf];cases Ze j OF' with
 | none=>exact hw k
 | some m=>exact ZlA hw k
theorem ZkQ (hf:∀ k,Ze k OF=Ze k OF') (k:Tx):Ze k (Ws j OF)=Ze k (Ws j OF'):=by
 unfold Ws;rw[hf];cases Ze j OF' with
 | none=>exact hf k
 | some m=>exact ZlA hf k
theorem Zhp (hw:∀ k,Ze k OW=Ze k OW'):Kj k m OW=Kj k m OW':=by
 unfold Kj;rw[hw]
theorem Zrh (hf:∀ k,Ze k OF=Ze k OF'):Zej o p OF=Zej o p OF':=by
 unfold Zej;rw[hf,hf]
theorem ZGh (hf:∀ k,Ze k OF=Ze k OF') (hw:∀ k,Ze k OW=Ze k OW') (k:Tx):Ze k (ZmH j m OW OF)=Ze k (ZmH j m OW' OF'):=by
 unfold ZmH;rw[Zhp hw];split
 .split
  .exact Zkt hf hw k
  .exact Zdh (Zkt hf hw) k
 .exact hw k
theorem ZFS (hf:∀ k,Ze k OF=Ze k OF') (hw:∀ k,Ze k OW=Ze k OW') (k:Tx):Ze k (ZdJ j m OW OF)=Ze k (ZdJ j m OW' OF'):=by
 unfold ZdJ;rw[Zhp hw];split
 .split
  .exact ZkQ hf k
  .exact Zdh (ZkQ hf) k
 .exact hf k
theorem ZE7 (hf:∀ k,Ze k OF=Ze k OF') (hw:∀ k,Ze k OW=Ze k OW') (k:Tx):Ze k (ZrM o p OW OF)=Ze k (ZrM o p OW' OF'):=by
 unfold ZrM;rw[Zrh hf,hf];split
 .exact Zdh (Zkt hf hw) k
 .exact hw k
theorem ZFI (hf:∀ k,Ze k OF=Ze k OF') (k:Tx):Ze k (ZjL o p OF)=Ze k (ZjL o p OF'):=by
 unfold ZjL;rw[Zrh hf,hf];split
 .exact Zdh (ZkQ hf) k
 .exact hf k
theorem Zfp (h:K.Nodup) (h':K'.Nodup) (hk:∀ g,g∈K↔g∈K'):ZN K=ZN K':=
 ZpW (ZcV h) (ZcV h') fun x=>by rw[Kp,Kp];exact hk x
theorem Y6.lenK (h:Y6 s t) (hs:Y0 s) (ht:Y0 t):s.K.length=t.K.length:=by
 have:=congrArg List.length (Zfp hs.k.nod ht.k.nod h.k)
 rwa [YC,YC] at this
theorem Y6.lenA (h:Y6 s t) (hs:Y0 s) (ht:Y0 t):s.A.length=t.A.length:=by
 have:=congrArg List.length (Zfp hs.n ht.n (fun g=>by unfold KZ;rw[Zfu,Zfu,h.a]));rw[YC,YC] at this;simpa using this
theorem ZcC (hs:Y0 s) (ht:Y0 t) (h:Y6 s t):Y6 (ZFH u s) (ZFH u t):=by
 have hal:=h.lenA hs ht;have hkl:=h.lenK hs ht;have hacc:∀ k,Jg k s.A=Jg k t.A:=fun k=>by unfold Jg;rw[h.a]
 have herr:∀ k,ZH k s.A=ZH k t.A:=fun k=>by unfold ZH;rw[h.a]
 have hkb:∀ g:Tx,(g∈s.K)=(g∈t.K):=fun g=>propext (h.k g);have hfind:∀ (g:Tx) (l:List Tx),QP g l s.K=QP g l t.K:=fun g l=>by
  unfold QP;by_cases hg:g∈t.K
  .simp only[hg,(h.k g).2 hg,if_true]
  .simp only[hg,mt (h.k g).1 hg,if_false]
 have hdrop:∀ g:Tx,Q6 g s.K=Q6 g t.K:=fun g=>by rw[<- ZgS,<- ZgS];exact hfind g []
 have hmk:∀ g:Tx,Jp g s.K=Jp g t.K:=fun g=>by
  unfold Jp;rw[hkl];by_cases hg:g∈t.K
  .simp only[hg,(h.k g).2 hg,if_true]
  .simp only[hg,mt (h.k g).1 hg,if_false]
 unfold ZFH;split
 .unfold ZbR;rw[show J6 u.a u.b s.A=J6 u.a u.b t.A from by unfold J6;rw[h.a,hal]];split
  .exact⟨Zdh h.a,h.f,h.w,h.m,h.k⟩
  .exact h
 .unfold ZbP;rw[herr];split
  .exact⟨ZlA h.a,ZkQ h.f,Zkt h.f h.w,fun g k=>by show Zkf _ _ _ _=Zkf _ _ _ _;unfold Zkf;rw[h.m],h.k⟩
  .exact h
 .unfold Zax;rw[show Jq u.a u.b s.A=Jq u.a u.b t.A from by unfold Jq;rw[h.a,hacc],hacc];split
  .exact⟨Zdh h.a,h.f,h.w,h.m,h.k⟩
  .exact h
 .unfold Kr;rw[show Jh u.a u.b s=Jh u.a u.b t from by unfold Jh;rw[h.a,Zhp h.w]];split
  .exact⟨h.a,ZFS h.f h.w,ZGh h.f h.w,h.m,h.k⟩
  .exact h
 .unfold Y4;rw[show Jf u.a u.is s.A=Jf u.a u.is t.A from by unfold Jf;rw[herr,hacc],hacc];split
  .exact⟨Zdh h.a,h.f,h.w,h.m,h.k⟩
  .exact h
 .unfold Zbf;rw[show J5 u.a u.b s.A=J5 u.a u.b t.A from by unfold J5;rw[h.a,h.a],hacc];split
  .exact⟨Zdh (ZlA h.a),ZFI h.f,ZE7 h.f h.w,fun g k=>by show Zd2 _ _ _ _ _=Zd2 _ _ _ _ _;unfold Zd2;rw[h.m,h.m],h.k⟩
  .exact h
 .unfold Zi7 Zjb;rw[hmk];refine⟨h.a,h.f,h.w,h.m,fun g=>?_⟩;simp only;split
  .rw[List.mem_append,List.mem_append,h.k]
  .exact h.k g
 .unfold ZiW ZpQ;rw[hdrop];refine⟨h.a,h.f,h.w,fun g k=>?_,fun g=>?_⟩
  .simp only;split
   .unfold Zhb;rw[h.m]
   .exact h.m g k
  .simp only;split
   .rw[List.mem_filter,List.mem_filter,h.k]
   .exact h.k g
 .unfold Zd5;rw[show Wj u.a u.b s=Wj u.a u.b t from by unfold Wj JG Zav;rw[herr,hfind,h.m]];split
  .exact⟨h.a,h.f,h.w,fun g k=>by show Zgx _ _ _ _ _=Zgx _ _ _ _ _;unfold Zgx;rw[h.m],h.k⟩
  .exact h
 .unfold ZcK;rw[show KB u.a u.b s=KB u.a u.b t from by unfold KB JG Zcp;rw[herr,hfind,h.m]];split
  .exact⟨h.a,h.f,h.w,fun g k=>by show Zjo _ _ _ _ _=Zjo _ _ _ _ _;unfold Zjo;rw[h.m],h.k⟩
  .exact h
 .exact h
theorem ZBi (hs:Y0 s) (ht:Y0 t) (h:Y6 s t):ofL k s.K s.mem=ofL k t.K t.mem:=by
 unfold ofL;rw[Zfp hs.k.nod ht.k.nod h.k];exact List.filter_congr fun g _=>h.m g k
theorem ZID (hs:Y0 s) (ht:Y0 t) (h:Y6 s t):A.allK s=A.allK t/\ZN s.K=ZN t.K:=by
 refine⟨?_,Zfp hs.k.nod ht.k.nod h.k⟩;have hU:∀ n,Jn t n=Jn s n:=fun n=>by
  unfold Jn;rw[h.a];cases Ze n t.A with
  | none=>rfl
  | some p=>simp only[Option.map_some,WQ];rw[h.f,ZBi hs ht h]
 have h1:=((ROK.allK hs.n).same hU).all ht.n
 rwa [ZpV] at h1
theorem ZDt (hs:Y0 s) (ht:Y0 t) (hall:A.allK s=A.allK t) (hk:∀ g,g∈s.K↔g∈t.K):Y6 s t:=by
 have hU1:∀ {s t:NSt},Y0 s->Y0 t->A.allK s=A.allK t->∀ {n:Tx} {key:KA},Jn s n=some key->Jn t n=some key:=fun {s t} hs ht hall {n key} h=>by
  have e:=ZDS h;have h1:key∈A.allK s:=(ZmX hs.n).2 (by rw[e];exact h);rw[hall] at h1;have h2:=(ZmX ht.n).1 h1
  rwa [e] at h2
 have hU:∀ n,Jn s n=Jn t n:=fun n=>by
  cases h1:Jn s n with
  | some key=>exact(hU1 hs ht hall h1).symm
  | none=>
   cases h2:Jn t n with
   | none=>rfl
   | some key=>rw[hU1 ht hs hall.symm h2] at h1;cases h1
 have hN:∀ n,(Ze n s.A=none/\Ze n t.A=none)\/∃ p,Ze n s.A=some p/\Ze n t.A=some p/\(Ze n s.OF).getD []=(Ze n t.OF).getD []/\ofL n s.K s.mem=ofL n t.K t.mem:=fun n=>by
  have h:=hU n;unfold Jn at h;cases h1:Ze n s.A with
  | none=>
   cases h2:Ze n t.A with
   | none=>exact .inl ⟨rfl,rfl⟩
   | some p=>rw[h1,h2] at h;cases h
  | some p=>
   cases h2:Ze n t.A with
   | none=>rw[h1,h2] at h;cases h
   | some p'=>
    rw[h1,h2] at h;simp only[Option.map_some,Option.some.injEq,WQ,Prod.mk.injEq,true_and] at h;obtain⟨e1,e2,e3,e4⟩:=h;obtain⟨a1,a2⟩:=p;obtain⟨b1,b2⟩:=p';simp only at e1 e3;subst e1 e3;exact .inr ⟨_,rfl,rfl,e2,e4⟩
 have hno:∀ {s:NSt},Y0 s->∀ {n:Tx},Ze n s.A=none->Ze n s.OF=none:=fun {s} hs {n} h=>by
  cases h1:Ze n s.OF with
  | none=>rfl
  | some m=>have:=hs.i.ofA n (by rw[h1];rfl);rw[h] at this;cases this
 have hne:∀ {s:NSt},Y0 s->∀ {n:Tx},Ze n s.OF≠some []:=fun {s} hs {n} h=>(hs.x.lens _ (Ku h)).2.2.1 rfl;have hF:∀ n,Ze n s.OF=Ze n t.OF:=fun n=>by
  rcases hN n with⟨h1,h2⟩|⟨p,h1,h2,h3,h4⟩
  .rw[hno hs h1,hno ht h2]
  .cases e1:Ze n s.OF with
   | none=>
    cases e2:Ze n t.OF with
    | none=>rfl
    | some m=>
     rw[e1,e2] at h3;have h3:([]:Tx)=m:=h3;subst h3;exact absurd e2 (hne ht)
   | some m=>
    cases e2:Ze n t.OF with
    | none=>
     rw[e1,e2] at h3;have h3:m=([]:Tx):=h3;subst h3;exact absurd e1 (hne hs)
    | some m'=>
     rw[e1,e2] at h3;have h3:m=m':=h3;rw[h3]
 have hM:∀ {s t:NSt},Y0 s->Y0 t->(∀ g,g∈s.K↔g∈t.K)->(∀ n,(Ze n s.A=none/\Ze n t.A=none)\/∃ p,Ze n s.A=some p/\Ze n t.A=some p/\ofL n s.K s.mem=ofL n t.K t.mem)->∀ {g n:Tx},s.mem g n=true->t.mem g n=true:=fun {s t} hs ht hk hN {g n} h=>by
  have h1:=hs.i.memA g n h;rcases hN n with⟨h2,_⟩|⟨p,_,_,h4⟩
  .rw[h2] at h1;cases h1
  .have h5:g∈ofL n s.K s.mem:=ZjW.2 ⟨hs.k.out g n h,h⟩;rw[h4] at h5;exact(ZjW.1 h5).2
 refine⟨fun n=>?_,hF,fun m=>?_,fun g n=>?_,hk⟩
 .rcases hN n with⟨h1,h2⟩|⟨p,h1,h2,_,_⟩<;>rw[h1,h2]
 .cases e1:Ze m s.OW with
  | some k=>
   have:=(hs.x.inv k m).2 e1;rw[hF] at this;exact((ht.x.inv k m).1 this).symm
  | none=>
   cases e2:Ze m t.OW with
   | none=>rfl
   | some k=>
    have:=(ht.x.inv k m).2 e2;rw[<- hF] at this;rw[(hs.x.inv k m).1 this] at e1;cases e1
 .have h1:=hM hs ht hk (fun n=>(hN n).imp id fun⟨p,a,b,_,c⟩=>⟨p,a,b,c⟩) (g:=g) (n:=n);have h2:=hM ht hs (fun g=>(hk g).symm) (fun n=>(hN n).imp (fun h=>⟨h.2,h.1⟩) fun⟨p,a,b,_,c⟩=>⟨p,b,a,c.symm⟩) (g:=g) (n:=n);exact Bool.eq_iff_iff.2 ⟨h1,h2⟩
end
end
section
variable {X X' Y:Zd} {n:Nat} {p p':HP} {D D' D1 D1':Qf} {T:List Qy} {B:List Nat} {o:OpT} {s t:NSt} {r:W7} {m m':QH} {k h g pre:Tx} {e e1:Int} {l l1:List Tx}
def Zcl:Qf->Prop
 | .old m=>(m.map (·.1)).Nodup
 | .now s=>Y0 s
theorem DX.invD {ov nv:Value} {M C:List Nat} {c:Nat} (h:DX X D ov nv M C c):Zcl D:=by
 cases D with
 | old m=>
  obtain⟨d,b,h1,h2,h3,_⟩:=h;exact h3.g.nod
 | now s=>
  obtain⟨d,r,h1,h2,h3,_⟩:=h;exact h3.pinv
def WP:Qf->Qf->Prop
 | .old m,.old m'=>∀ k,Ze k m=Ze k m'
 | .now s,.now t=>Y6 s t
 | _,_=>False
theorem WP.refl:∀ D:Qf,WP D D
 | .old m=>fun k=>rfl
 | .now s=>⟨fun _=>rfl,fun _=>rfl,fun _=>rfl,fun _ _=>rfl,fun _=>Iff.rfl⟩
theorem WP.ver (h:WP D D1):verS D=verS D1:=by
 cases D<;>cases D1<;>first|rfl|exact h.elim
theorem ZmP (hn:(m.map (·.1)).Nodup) (hn':(m'.map (·.1)).Nodup) (h:∀ k,Ze k m=Ze k m'):ZN (m.map (·.1))=ZN (m'.map (·.1)):=
 Zfp hn hn' fun g=>by rw[Zfu,Zfu,h]
theorem ZG6 (hn:(m.map (·.1)).Nodup) (hn':(m'.map (·.1)).Nodup) (h:∀ k,Ze k m=Ze k m'):m.length=m'.length:=by
 have:=congrArg List.length (ZmP hn hn' h);rw[YC,YC] at this;simpa using this
theorem ZFR (hs:Y0 s) (ht:Y0 t) (h:Y6 s t):ZN (KZ s)=ZN (KZ t):=
 Zfp hs.n ht.n fun g=>by unfold KZ;rw[Zfu,Zfu,h.a]
theorem ZoP (h:Y6 s t):ZH k s.A=ZH k t.A:=by unfold ZH;rw[h.a]
theorem ZGt (h:Y6 s t):Jg k s.A=Jg k t.A:=by unfold Jg;rw[h.a]
theorem ZyZ {l:List Tx} (h:Y6 s t):QP g l s.K=QP g l t.K:=by
 unfold QP;by_cases hg:g∈t.K
 .simp only[hg,(h.k g).2 hg,if_true]
 .simp only[hg,mt (h.k g).1 hg,if_false]
theorem Zyj (h:Y6 s t):Q6 g s.K=Q6 g t.K:=by rw[<- ZgS,<- ZgS];exact ZyZ h
theorem ZIO (hs:Y0 s) (ht:Y0 t) (h:Y6 s t):Jp g s.K=Jp g t.K:=by
 unfold Jp;rw[h.lenK hs ht];by_cases hg:g∈t.K
 .simp only[hg,(h.k g).2 hg,if_true]
 .simp only[hg,mt (h.k g).1 hg,if_false]
theorem ZFK (hs:Y0 s) (ht:Y0 t) (h:Y6 s t) {b:Tx}:J6 k b s.A=J6 k b t.A:=by unfold J6;rw[h.a,h.lenA hs ht]
theorem ZDP (h:Y6 s t) {b:Tx}:Jq k b s.A=Jq k b t.A:=by unfold Jq;rw[h.a,ZGt h]
theorem ZEK (h:Y6 s t) {b:Tx}:Jh k b s=Jh k b t:=by unfold Jh;rw[h.a,Zhp h.w]
theorem ZwB (h:Y6 s t) {b:Bool}:Jf k b s.A=Jf k b t.A:=by unfold Jf;rw[ZoP h,ZGt h]
theorem ZFp (h:Y6 s t) {b:Tx}:J5 k b s.A=J5 k b t.A:=by unfold J5;rw[h.a,h.a]
theorem ZIt (h:Y6 s t) {b:Tx}:Wj k b s=Wj k b t:=by unfold Wj JG Zav;rw[ZoP h,ZyZ h,h.m]
theorem ZGO (h:Y6 s t) {b:Tx}:KB k b s=KB k b t:=by unfold KB JG Zcp;rw[ZoP h,ZyZ h,h.m]
theorem ZGP (h:Y6 s t):ZaC k s.OW=ZaC k t.OW:=by unfold ZaC;rw[h.w]
theorem ZGE (h:Y6 s t):ZeU k s.OW=ZeU k t.OW:=by unfold ZeU;rw[h.w]
theorem ZIj (hs:Y0 s) (ht:Y0 t) (h:Y6 s t) {p:Acc}:WQ s k p=WQ t k p:=by unfold WQ;rw[h.f,ZBi hs ht h]
def Zxw (k:Tx):Qf->Int
 | .old m=>Jj k m
 | .now s=>ZH k s.A
def uL (u:KA):List Tx:=u.2.1 :: u.2.2.1 :: (if u.2.2.2.1 then[49] else[48]) :: u.2.2.2.2
def ZmT (k:Tx):Qf->List Tx
 | .old m=>[if Jj k m=0 then(Ze k m).getD [] else[]]
 | .now s=>uL (WQ s k ((Ze k s.A).getD ([],false)))
def ZxJ (pre:Tx) (D:Qf):List Tx:=if Zja pre then(ZN (ZoN D)).filter (Zgl pre) else[]
theorem ZuD (hh:∀ k,Ze k m=Ze k m'):Jj k m=Jj k m':=by unfold Jj YZ;rw[hh]
theorem ZJj {b:Tx} (hS:WP D D1) (hI:Zcl D) (hI1:Zcl D1):crE k b D=crE k b D1/\WP (crD k b D) (crD k b D1):=by
 cases D<;>cases D1
 .rename_i m m';have hh:∀ k,Ze k m=Ze k m':=hS;have he:YV k b m=YV k b m':=by unfold YV ZbT;rw[hh,ZG6 hI hI1 hh]
  refine⟨he,fun j=>?_⟩;unfold Zfy;rw[he];split
  .exact Zdh hh j
  .exact hh j
 .exact hS.elim
 .exact hS.elim
 .exact⟨ZFK hI hI1 hS,ZcC (u:=⟨0,k,b,false⟩) hI hI1 hS⟩
theorem ZIh (hS:WP D D1) (hI:Zcl D) (hI1:Zcl D1):deE k D=deE k D1/\WP (deD k D) (deD k D1):=by
 cases D<;>cases D1
 .rename_i m m';have hh:∀ k,Ze k m=Ze k m':=hS;refine⟨ZuD hh,fun j=>?_⟩;unfold Zft;rw[ZuD hh];split
  .exact ZlA hh j
  .exact hh j
 .exact hS.elim
 .exact hS.elim
 .exact⟨ZoP hS,ZcC (u:=⟨1,k,[],false⟩) hI hI1 hS⟩
theorem ZJk {b:Tx} (hS:WP D D1) (hI:Zcl D) (hI1:Zcl D1):seE k b D=seE k b D1/\WP (seD k b D) (seD k b D1):=by
 cases D<;>cases D1
 .rename_i m m';have hh:∀ k,Ze k m=Ze k m':=hS;have he:ZaN k b m=ZaN k b m':=by unfold ZaN YZ;rw[hh]
  refine⟨he,fun j=>?_⟩;unfold ZnX;rw[he];split
  .exact Zdh hh j
  .exact hh j
 .exact hS.elim
 .exact hS.elim
 .exact⟨ZDP hS,ZcC (u:=⟨2,k,b,false⟩) hI hI1 hS⟩
theorem ZFM (hS:WP D D1) (hI:Zcl D) (hI1:Zcl D1):Zxw k D=Zxw k D1/\ZmT k D=ZmT k D1:=by
 cases D<;>cases D1
 .rename_i m m';have hh:∀ k,Ze k m=Ze k m':=hS;refine⟨ZuD hh,?_⟩;unfold ZmT;simp only;rw[ZuD hh,hh]
 .exact hS.elim
 .exact hS.elim
 .refine⟨ZoP hS,?_⟩;unfold ZmT;simp only;rw[ZIj hI hI1 hS,Y6.a hS]
theorem ZFe (hS:WP D D1) (hI:Zcl D) (hI1:Zcl D1):ZxJ pre D=ZxJ pre D1:=by
 have:ZN (ZoN D)=ZN (ZoN D1):=by
  cases D<;>cases D1
  .exact ZmP hI hI1 hS
  .exact hS.elim
  .exact hS.elim
  .exact ZFR hI hI1 hS
 unfold ZxJ;rw[this]
theorem Zws (hS:WP D D1) (hI:Zcl D) (hI1:Zcl D1):ZdT D=ZdT D1:=by
 cases D<;>cases D1
 .rename_i m m';have hh:∀ k,Ze k m=Ze k m':=hS;have:Q3 m=Q3 m':=by
   unfold Q3;rw[ZmP hI hI1 hh];exact List.map_congr_left fun k _=>by rw[hh]
  unfold ZdT;simp only;rw[this]
 .exact hS.elim
 .exact hS.elim
 .obtain⟨h1,h2⟩:=ZID hI hI1 hS;unfold ZdT;simp only;rw[h1,h2]
def UpD (D:Qf) (B:List Nat) (e:Int) (D':Qf):Prop:=match D with
 | .now s=>e=14/\D'=.now s
 | .old m=>if(B.all fun r=>decide (2<=r))=true then e=0/\∃ s,D'=.now s/\Y0 s/\A.allK s=(Q3 m).map kOf/\s.K=[] else e=13/\D'=.old m
def Zgq (D:Qf) (B:List Nat) (o:OpT) (e:Int) (l:List Tx) (D':Qf):Prop:=match o.kd with
 | 0=>e=crE o.a o.b D/\l=[]/\D'=crD o.a o.b D
 | 1=>e=deE o.a D/\l=[]/\D'=deD o.a D
 | 2=>e=seE o.a o.b D/\l=[]/\D'=seD o.a o.b D
 | 3=>e=Zxw o.a D/\(e=0->l=ZmT o.a D)/\D'=D
 | 4=>e=YS o.a/\l=ZxJ o.a D/\D'=D
 | 15=>l=[]/\UpD D B e D'
 | 16=>e=1/\l=[]/\D'=D
 | _=>False
def Zfe (s:NSt) (o:OpT) (e:Int) (l:List Tx) (D':Qf):Prop:=match o.kd with
 | 5=>e=Jh o.a o.b s/\l=[]/\D'=.now (Kr o.a o.b s)
 | 6=>e=Jf o.a true s.A/\l=[]/\D'=.now (Y4 o.a true s)
 | 7=>e=Jf o.a false s.A/\l=[]/\D'=.now (Y4 o.a false s)
 | 8=>e=J5 o.a o.b s.A/\l=[]/\D'=.now (Zbf o.a o.b s)
 | 9=>e=Jp o.a s.K/\l=[]/\D'=.now (Zi7 o.a s)
 | 10=>e=Q6 o.a s.K/\l=[]/\D'=.now (ZiW o.a s)
 | 11=>e=Wj o.a o.b s/\l=[]/\D'=.now (Zd5 o.a o.b s)
 | 12=>e=KB o.a o.b s/\l=[]/\D'=.now (ZcK o.a o.b s)
 | 13=>e=ZaC o.a s.OW/\l=[ZeU o.a s.OW]/\D'=.now s
 | 14=>e=Q6 o.a s.K/\Is l (fun m=>Q6 o.a s.K=0/\s.mem o.a m=true)/\D'=.now s
 | _=>False
def Zs1 (D:Qf) (B:List Nat) (o:OpT) (e:Int) (l:List Tx) (D':Qf):Prop:=
 (checkO o≠0/\e=checkO o/\l=[]/\D'=D)\/
 (checkO o=0/\∃ l0,l=(if e=0 then l0 else[])/\
  (Zgq D B o e l0 D'\/(5<=o.kd/\o.kd<=14/\match D with
   | .old m=>e=6/\D'=.old m
   | .now s=>Zfe s o e l0 D')))
theorem ZIS (hS:WP D D1) (hI:Zcl D) (hI1:Zcl D1) (h:UpD D B e D') (h1:UpD D1 B e1 D1'):e=e1/\WP D' D1':=by
 cases D<;>cases D1
 .rename_i m m';have hh:∀ k,Ze k m=Ze k m':=hS;unfold UpD at h h1;simp only at h h1;split at h
  .rename_i hB;rw[if_pos hB] at h1;obtain⟨rfl,s,rfl,i1,a1,k1⟩:=h;obtain⟨rfl,t,rfl,i2,a2,k2⟩:=h1;have hs:Q3 m=Q3 m':=by
    unfold Q3;rw[ZmP hI hI1 hh];exact List.map_congr_left fun k _=>by rw[hh]
   exact⟨rfl,ZDt i1 i2 (by rw[a1,a2,hs]) (fun g=>by rw[k1,k2])⟩
  .rename_i hB;rw[if_neg hB] at h1;obtain⟨rfl,rfl⟩:=h;obtain⟨rfl,rfl⟩:=h1;exact⟨rfl,hS⟩
 .exact hS.elim
 .exact hS.elim
 .obtain⟨rfl,rfl⟩:=h;obtain⟨rfl,rfl⟩:=h1;exact⟨rfl,hS⟩
theorem ZJq (hS:WP D D1) (hI:Zcl D) (hI1:Zcl D1) (h:Zgq D B o e l D') (h1:Zgq D1 B o e1 l1 D1'):e=e1/\(e=0->l=l1)/\WP D' D1':=by
 unfold Zgq at h h1;split at h
 .rename_i hk;rw[hk] at h1;obtain⟨rfl,rfl,rfl⟩:=h;obtain⟨rfl,rfl,rfl⟩:=h1;obtain⟨a,b⟩:=ZJj (k:=o.a) (b:=o.b) hS hI hI1;exact⟨a,fun _=>rfl,b⟩
 .rename_i hk;rw[hk] at h1;obtain⟨rfl,rfl,rfl⟩:=h;obtain⟨rfl,rfl,rfl⟩:=h1;obtain⟨a,b⟩:=ZIh (k:=o.a) hS hI hI1;exact⟨a,fun _=>rfl,b⟩
 .rename_i hk;rw[hk] at h1;obtain⟨rfl,rfl,rfl⟩:=h;obtain⟨rfl,rfl,rfl⟩:=h1;obtain⟨a,b⟩:=ZJk (k:=o.a) (b:=o.b) hS hI hI1;exact⟨a,fun _=>rfl,b⟩
 .rename_i hk;rw[hk] at h1;obtain⟨rfl,h2,rfl⟩:=h;obtain⟨rfl,h3,rfl⟩:=h1;obtain⟨a,b⟩:=ZFM (k:=o.a) hS hI hI1;exact⟨a,fun hz=>by rw[h2 hz,h3 (by rw[<- a];exact hz),b],hS⟩
 .rename_i hk;rw[hk] at h1;obtain⟨rfl,rfl,rfl⟩:=h;obtain⟨rfl,rfl,rfl⟩:=h1;exact⟨rfl,fun _=>ZFe hS hI hI1,hS⟩
 .rename_i hk;rw[hk] at h1;obtain⟨rfl,h2⟩:=h;obtain⟨rfl,h3⟩:=h1;obtain⟨a,b⟩:=ZIS hS hI hI1 h2 h3;exact⟨a,fun _=>rfl,b⟩
 .rename_i hk;rw[hk] at h1;obtain⟨rfl,rfl,rfl⟩:=h;obtain⟨rfl,rfl,rfl⟩:=h1;exact⟨rfl,fun _=>rfl,hS⟩
 .exact h.elim
theorem ZJw (hS:Y6 s t) (hI:Y0 s) (hI1:Y0 t) (h:Zfe s o e l D') (h1:Zfe t o e1 l1 D1'):e=e1/\(e=0->l=l1)/\WP D' D1':=by
 unfold Zfe at h h1;split at h
 all_goals first|exact h.elim|(rename_i hk;rw[hk] at h1)
 .obtain⟨rfl,rfl,rfl⟩:=h;obtain⟨rfl,rfl,rfl⟩:=h1;exact⟨ZEK hS,fun _=>rfl,ZcC (u:=⟨3,o.a,o.b,false⟩) hI hI1 hS⟩
 .obtain⟨rfl,rfl,rfl⟩:=h;obtain⟨rfl,rfl,rfl⟩:=h1;exact⟨ZwB hS,fun _=>rfl,ZcC (u:=⟨4,o.a,o.b,true⟩) hI hI1 hS⟩
 .obtain⟨rfl,rfl,rfl⟩:=h;obtain⟨rfl,rfl,rfl⟩:=h1;exact⟨ZwB hS,fun _=>rfl,ZcC (u:=⟨4,o.a,o.b,false⟩) hI hI1 hS⟩
 .obtain⟨rfl,rfl,rfl⟩:=h;obtain⟨rfl,rfl,rfl⟩:=h1;exact⟨ZFp hS,fun _=>rfl,ZcC (u:=⟨5,o.a,o.b,false⟩) hI hI1 hS⟩
 .obtain⟨rfl,rfl,rfl⟩:=h;obtain⟨rfl,rfl,rfl⟩:=h1;exact⟨ZIO hI hI1 hS,fun _=>rfl,ZcC (u:=⟨6,o.a,o.b,false⟩) hI hI1 hS⟩
 .obtain⟨rfl,rfl,rfl⟩:=h;obtain⟨rfl,rfl,rfl⟩:=h1;exact⟨Zyj hS,fun _=>rfl,ZcC (u:=⟨7,o.a,o.b,false⟩) hI hI1 hS⟩
 .obtain⟨rfl,rfl,rfl⟩:=h;obtain⟨rfl,rfl,rfl⟩:=h1;exact⟨ZIt hS,fun _=>rfl,ZcC (u:=⟨8,o.a,o.b,false⟩) hI hI1 hS⟩
 .obtain⟨rfl,rfl,rfl⟩:=h;obtain⟨rfl,rfl,rfl⟩:=h1;exact⟨ZGO hS,fun _=>rfl,ZcC (u:=⟨9,o.a,o.b,false⟩) hI hI1 hS⟩
 .obtain⟨rfl,rfl,rfl⟩:=h;obtain⟨rfl,rfl,rfl⟩:=h1;exact⟨ZGP hS,fun _=>by rw[ZGE hS],hS⟩
 .obtain⟨rfl,h2,rfl⟩:=h;obtain⟨rfl,h3,rfl⟩:=h1;exact⟨Zyj hS,fun _=>h2.uniq h3 fun x=>by rw[Zyj hS,hS.m],hS⟩
theorem ZJf (hS:WP D D1) (hI:Zcl D) (hI1:Zcl D1) (h:Zs1 D B o e l D') (h1:Zs1 D1 B o e1 l1 D1'):e=e1/\l=l1/\WP D' D1':=by
 rcases h with⟨hc,rfl,rfl,rfl⟩|⟨hc,l0,rfl,h⟩
 .rcases h1 with⟨_,rfl,rfl,rfl⟩|⟨hc1,_⟩
  .exact⟨rfl,rfl,hS⟩
  .exact absurd hc1 hc
 rcases h1 with⟨hc1,_⟩|⟨_,l2,rfl,h1⟩
 .exact absurd hc hc1
 have key:e=e1/\(e=0->l0=l2)/\WP D' D1':=by
  have noE:∀ {D:Qf} {e:Int} {l:List Tx} {D':Qf},5<=o.kd->o.kd<=14->¬ Zgq D B o e l D':=fun {D e l D'} h5 h14 hE=>by
   unfold Zgq at hE;split at hE
   all_goals first|omega|exact hE
  rcases h with h|⟨h5,h14,h⟩
  .rcases h1 with h1|⟨h5,h14,_⟩
   .exact ZJq hS hI hI1 h h1
   .exact absurd h (noE h5 h14)
  .rcases h1 with h1|⟨_,_,h1⟩
   .exact absurd h1 (noE h5 h14)
   .cases D<;>cases D1
    .obtain⟨rfl,rfl⟩:=h;obtain⟨rfl,rfl⟩:=h1;exact⟨rfl,fun hz=>absurd hz (by decide),hS⟩
    .exact hS.elim
    .exact hS.elim
    .exact ZJw hS hI hI1 h h1
 obtain⟨rfl,h2,h3⟩:=key;refine⟨rfl,?_,h3⟩;split
 .rename_i hz;exact h2 hz
 .rfl
end
section
variable {X X' Y:Zd} {n:Nat} {p p':HP} {D D':Qf} {T:List Qy} {B:List Nat} {k m g t:Tx} {o:OpT} {s:NSt} {b:Bool} {r:W7}
theorem ZCi (h:HO X p D T B) (hk:k.length<=1000000000):∃ (v:Value) (l:List Tx) (q:List Nat) (e:Int) (X':Zd),R (n+8) ZbC [pt p.h,strv k] X=some (.tuple #[v,iv e],X')/\Zt X' v (l.map strv) q/\HLe X X'/\l.length<=10/\(∀ j∈q,X.length<=j)/\(e≠6/\0<=e)/\e=Zxw k D/\(e=0->l=ZmT k D):=by
 have e0:ld1 (pa p.h 0) X=some (p.ov,X):=Zy h.cell rfl;have e1:ld1 (pa p.h 1) X=some (p.nv,X):=Zy h.cell rfl;have hnv:=h.dir.nv X;have hd:=h.dir;cases D with
 | old m=>
  obtain⟨d,b,h1,h2,h3,h4,_,_⟩:=hd;obtain⟨X1,a2,k2⟩:=ZFN (n:=n) (k:=k) h3 hk;have a2:R (n+7) ZbF [pt d,strv k] X=_:=a2;refine⟨.slice (some ⟨X1.length,0,none⟩) 1 1,[if Jj k m=0 then(Ze k m).getD [] else[]],[X1.length],Jj k m,X1++[Zf.cells [strv (if Jj k m=0 then(Ze k m).getD [] else[])] 1 false false],?_,.inr ⟨X1.length,[],false,rfl,rfl,Zn⟩,k2.trans (.app _ _),by simp,by simpa using k2.len,?_,rfl,fun _=>rfl⟩
  .rw[R,ZhD rfl];unfold ZcX;rw[Za Zg,Za (show fa 1 (pa p.h 0) X=some (pa p.h 1,X) from rfl),Za e1,Za hnv,show decide (verS (.old m)=1)=true from rfl,Zb,if_pos rfl,Za Zg,Za Zi,Za e0,h1,Za a2,Za Zp,Za Zq,Za (Zpt rfl rfl rfl)];rfl
  .unfold Jj ZE YZ WR;cases Zw k<;>cases (Ze k m).isSome<;>simp[WR]
 | now s=>
  obtain⟨d,r,h1,h2,h3,_,_⟩:=hd;obtain⟨u,q,X1,a2,r2,o2,k2,l2,hky⟩:=Zwm (n:=n) (k:=k) h3;have a2:R (n+7) Wb [pt d,strv k] X=_:=a2;have hu:u.cells.all oneCell=true:=by
   simp only[Zv.cells,List.all_cons,r2.one.1];rfl
  have z3:∀ K:Value->A.M Value,bind (alc 1 (.agg #[.string ⟨#[]⟩,.string ⟨#[]⟩,.string ⟨#[]⟩,.bool false,.slice none 0 0])) (fun q=>bind (stA 5 q (.agg u.cells.toArray)) fun _=>K q) X1=K (pt X1.length) (X1++[.cells u.cells 1 false false]):=fun K=>ZaX (n:=5) (zs:=[.string ⟨#[]⟩,.string ⟨#[]⟩,.string ⟨#[]⟩,.bool false,.slice none 0 0]) (r:=u.cells) rfl rfl rfl hu;have k3:HLe X1 (X1++[Zf.cells u.cells 1 false false]):=.app _ _;have c3:(X1++[Zf.cells u.cells 1 false false])[X1.length]?=some (.cells u.cells 1 false false):=Zn;generalize X1++[Zf.cells u.cells 1 false false]=X2 at z3 k3 c3;have f1:ld1 (pa X1.length 1) X2=some (strv u.hs,X2):=Zy c3 rfl;have f2:ld1 (pa X1.length 2) X2=some (strv u.ml,X2):=Zy c3 rfl;have f3:ld1 (pa X1.length 3) X2=some (.bool u.ds,X2):=Zy c3 rfl;have off:∃ o:Tx,o=(if u.ds then[49] else[48])/\cnd (.bool u.ds) (ret (Out.nrm [pt X1.length,iv (ZH k s.A),(Value.string ⟨#[49]⟩)])) (ret (Out.nrm [pt X1.length,iv (ZH k s.A),(Value.string ⟨#[48]⟩)])) X2=some (.nrm [pt X1.length,iv (ZH k s.A),strv o],X2):=by
   cases u.ds
   .exact⟨[48],rfl,rfl⟩
   .exact⟨[49],rfl,rfl⟩
  obtain⟨o,ho,e5⟩:=off;have e6:bsl 1 3 (.string ⟨#[]⟩) [(0,1,strv u.hs),(1,1,strv u.ml),(2,1,strv o)] X2=some (.slice (some ⟨X2.length,0,none⟩) 3 3,X2++[.cells [strv u.hs,strv u.ml,strv o] 1 false false]):=rfl;have k6:HLe X2 (X2++[Zf.cells [strv u.hs,strv u.ml,strv o] 1 false false]):=.app _ _;have r6:Zt (X2++[Zf.cells [strv u.hs,strv u.ml,strv o] 1 false false]) (.slice (some ⟨X2.length,0,none⟩) 3 3) [strv u.hs,strv u.ml,strv o] [X2.length]:=.inr ⟨X2.length,[],false,rfl,rfl,Zn⟩;generalize X2++[Zf.cells [strv u.hs,strv u.ml,strv o] 1 false false]=X3 at e6 k6 r6;have f4:ld1 (pa X1.length 4) X3=some (u.gv,X3):=Zy (k6 _ _ c3) rfl;have r7:=(r2.hle (k3.trans k6)).rd;obtain⟨v,X4,q4,e7,r8,s8⟩:=r6.addN (b:=16) r7.fc r7.flen (by simp;omega) (by simp;omega);have kk:=k2.trans k3;have m8:=(kk.trans k6).more s8 (by simpa using kk.len);refine⟨v,u.hs :: u.ml :: o :: u.gs,q4,ZH k s.A,X4,?_,r8,m8.1,by simp;omega,m8.2,?_,rfl,fun hz=>?_⟩
  .rw[R,ZhD rfl];unfold ZcX;rw[Za Zg,Za (show fa 1 (pa p.h 0) X=some (pa p.h 1,X) from rfl),Za e1,Za hnv,show decide (verS (.now s)=1)=false from rfl,Zb,if_neg (by simp),Za Zg,Za (show fa 1 (pa p.h 0) X=some (pa p.h 1,X) from rfl),Za e1,h2,Za a2,Za Zp,Za Zq,z3,Za (show fa 3 (pt X1.length) X2=some (pa X1.length 3,X2) from rfl),Za f3,ZC e5,ZY,Za (show fa 1 (pt X1.length) X2=some (pa X1.length 1,X2) from rfl),Za f1,Za (show fa 2 (pt X1.length) X2=some (pa X1.length 2,X2) from rfl),Za f2,Za e6,Za (show fa 4 (pt X1.length) X3=some (pa X1.length 4,X3) from rfl),Za f4,Za e7];rfl
  .unfold ZH;cases Zw k<;>cases (Ze k s.A).isSome<;>simp
  .rw[hz,if_pos rfl] at hky;unfold ZmT;simp only;rw[<- hky,ho];rfl
theorem ZAP (h:HO X p D T B):∃ (e:Int) (p':HP) (D':Qf) (X':Zd),R (n+14) ZaR [pt p.h] X=some (iv e,X')/\HO X' p' D' T B/\Zo p.own X p'.own X'/\p'.h=p.h/\p'.t=p.t/\p'.fr=p.fr/\(e≠0->D'=D)/\(0<=e/\e≠6/\p'.c<=p.c)/\UpD D B e D':=by
 have e0:ld1 (pa p.h 0) X=some (p.ov,X):=Zy h.cell rfl;have e1:ld1 (pa p.h 1) X=some (p.nv,X):=Zy h.cell rfl;have e3:ld1 (pa p.h 3) X=some (pt p.b,X):=Zy h.cell rfl;have g1:∀ H:Zd,fa 1 (pa p.h 0) H=some (pa p.h 1,H):=fun H=>rfl;have g3:∀ H:Zd,fa 3 (pa p.h 0) H=some (pa p.h 3,H):=fun H=>rfl;have hd:=h.dir;have f0:∀ r X',WJ (R (n+13)) (pt p.h) X=some (r,X')->R (n+14) ZaR [pt p.h] X=some (r,X'):=fun r X' hr=>by rw[R,ZnN rfl];exact hr
 cases D with
 | now s=>
  obtain⟨d,r,h1,h2,h3,_,_⟩:=hd;refine⟨14,p,.now s,X,f0 _ _ ?_,h,.refl _ _,rfl,rfl,rfl,fun _=>rfl,⟨by omega,by omega,Nat.le_refl _⟩,rfl,rfl⟩;unfold WJ;rw[Za Zg,Za (g1 X),Za e1,h2,Za (show bop .ptr .neq (pt d) (.pointer none) X=some (.bool true,X) from J0),Zb,if_pos rfl];rfl
 | old m=>
  obtain⟨d,b,h1,h2,h3,h4,_,_⟩:=hd;obtain⟨X1,a1,k1⟩:=ZF9 (n:=n+10) h.brd;have a1:R (n+13) Zbq [pt p.b,.int .u8 2] X=_:=a1;have q0:bop .ptr .neq (.pointer none) (.pointer none) X=some (.bool false,X):=rfl;cases hB:B.all fun r=>decide (2<=r) with
  | false=>
   rw[hB] at a1;refine⟨13,p,.old m,X1,f0 _ _ ?_,h.hle k1,k1.step.more (by simp) (fun j hj=>.inl hj),rfl,rfl,rfl,fun _=>rfl,⟨by omega,by omega,Nat.le_refl _⟩,by show if(B.all fun r=>decide (2<=r))=true then _ else _;rw[if_neg (by rw[hB];simp)];exact⟨rfl,rfl⟩⟩;unfold WJ;rw[Za Zg,Za (g1 X),Za e1,h2,Za q0,Zb,if_neg (by simp),Za Zg,Za (g3 X),Za e3,Za a1,Za ZP,Zb,if_pos (show(!false)=true from rfl)];rfl
  | true=>
   rw[hB] at a1;have H1:=h.hle k1;obtain⟨u1,u2,u3⟩:=ZxI h3 h4;obtain⟨X2,d',r,s,c,a2,k2,hS⟩:=ZG8 (n:=n) (h3.hle k1) u1 u2 u3;have H2:=H1.hle k2;have hK:r.G=[]:=by
    have:=hS.nd.ks;rw[hS.K] at this;exact List.map_eq_nil_iff.1 this
   have hN:ND X2 d' r s 0:=by
    have hg:=hS.nd.gr;have hg0:Grp X2 r.g r.o2 r.G s.mem 0:=⟨hg.cell,hg.mo,(fun x hx=>by rw[hK] at hx;cases hx),hg.out,hg.nod,hg.ok,hg.few⟩;exact⟨⟨hS.nd.cell,hS.nd.m,hS.nd.ix,hg0,hS.nd.ks,hS.nd.dis⟩,hS.nd.inv⟩
   have hO:=hS.own;have hUp:UpD (.old m) B 0 (.now s):=by
    show if(B.all fun r=>decide (2<=r))=true then _ else _
    rw[if_pos hB];refine⟨rfl,s,rfl,hS.nd.pinv,?_,hS.K⟩;have h2:=hS.ok.all hS.nd.pinv.n;rw[<- h2,List.map_map];rfl
   have hl1:=k1.len;have b1:st1 (pa p.h 1) (pt d') X2=some (undef,X2.set p.h (.cells [p.ov,pt d',pt p.t,pt p.b] 1 false false)):=Wq (o:=1) H2.cell (by simp) rfl;have c3:(X2.set p.h (.cells [p.ov,pt d',pt p.t,pt p.b] 1 false false))[p.h]?=some (.cells [p.ov,pt d',pt p.t,pt p.b] 1 false false):=ZW H2.cell;have s3:Zo [p.h] X2 [p.h] (X2.set p.h (.cells [p.ov,pt d',pt p.t,pt p.b] 1 false false)):=⟨by simp,fun j hj hn=>List.getElem?_set_ne (fun e=>hn (by simp[e])),fun j hj=>.inl hj⟩;generalize X2.set p.h (.cells [p.ov,pt d',pt p.t,pt p.b] 1 false false)=X3 at b1 c3 s3;have b2:st1 (pa p.h 0) (.pointer none) X3=some (undef,X3.set p.h (.cells [.pointer none,pt d',pt p.t,pt p.b] 1 false false)):=Wq (o:=0) c3 (by simp) rfl;have c4:(X3.set p.h (.cells [.pointer none,pt d',pt p.t,pt p.b] 1 false false))[p.h]?=some (.cells [.pointer none,pt d',pt p.t,pt p.b] 1 false false):=ZW c3;have s4:Zo [p.h] X3 [p.h] (X3.set p.h (.cells [.pointer none,pt d',pt p.t,pt p.b] 1 false false)):=⟨by simp,fun j hj hn=>List.getElem?_set_ne (fun e=>hn (by simp[e])),fun j hj=>.inl hj⟩;generalize X3.set p.h (.cells [.pointer none,pt d',pt p.t,pt p.b] 1 false false)=X4 at b2 c4 s4;have st:=s3.trans s4;have dx2:DX X2 (.now s) (.pointer none) (pt d') r.own [d',r.x,r.g] 0:=⟨d',r,rfl,rfl,hN,rfl,rfl⟩;have hap:∀ j∈[d',r.x,r.g],j≠p.h/\j≠p.t/\j∉p.q:=fun j hj=>by
    obtain⟨i,cs,es,g,ro,hc⟩:=dx2.first j hj;exact H2.apart hc
   have hM:∀ j∈r.own,j≠p.h/\j≠p.b/\j∉p.q/\j∉p.fr:=fun j hj=>by
    have h0:=hO j hj;have hh:=ZX H1.cell;refine⟨fun e=>?_,fun e=>?_,fun e=>?_,fun e=>?_⟩
    .omega
    .have:=H1.brd.lt p.b (.inl rfl);omega
    .have:=H1.brd.lt j (.inr e);omega
    .have:=H1.tab.lt j e;omega
   refine⟨0,{ p with M:=r.own,C:=[d',r.x,r.g],c:=0,ov:=.pointer none,nv:=pt d' },.now s,X4,f0 _ _ ?_,⟨c4,dx2.step st (fun j hj=>by simp[(hM j hj).1]) (fun j hj=>by simp[(hap j hj).1]),H2.tab.keep (fun j hj=>st.keep j (H2.tab.lt j hj) (by simp;exact fun e=>h.hfr (e ▸ hj))) st.len,H2.brd.keep (fun j hj=>st.keep j (H2.brd.lt j hj) (by
    simp
    rcases hj with rfl|hj
    .exact h.bh
    .exact fun e=>h.hq (e ▸ hj))),h.hfr,h.hq,fun hh=>(hap _ hh).1 rfl,h.bh,h.bt,h.tq,fun hh=>(hap _ hh).2.1 rfl,h.fq,fun j hj=>(hap j hj).2.2,hM⟩,?_,rfl,rfl,rfl,fun e=>absurd rfl e,⟨by omega,by omega,Nat.zero_le _⟩,hUp⟩
   .unfold WJ;rw[Za Zg,Za (g1 X),Za e1,h2,Za q0,Zb,if_neg (by simp),Za Zg,Za (g3 X),Za e3,Za a1,Za ZP,Zb,if_neg (by simp),Za Zg,Za Zi,Za (show ld1 (pa p.h 0) X1=some (p.ov,X1) from Zy H1.cell rfl),h1,Za a2,Za Zg,Za (g1 X2),Za b1,Za Zg,Za Zi,Za b2];rfl
   .have k12:=k1.trans k2;refine⟨Nat.le_trans k12.len st.len,fun j hj hn=>?_,fun j hj=>?_⟩
    .rw[st.keep j (Nat.lt_of_lt_of_le hj k12.len) (by simp;exact fun e=>hn (by simp[HP.own,e]))];rw[List.getElem?_eq_getElem hj];exact k12 _ _ (List.getElem?_eq_getElem hj)
    .simp only[HP.own] at hj ⊢;rcases List.mem_append.1 hj with hj|hj
     .exact .inr (Nat.le_trans hl1 (hO j hj))
     .exact .inl (List.mem_append_right _ hj)
theorem ZCc (h:HO X p D T B) (ha:o.a.length<=65535) (hb:o.b.length<=65535) (hok:Zn3 o):∃ (v:Value) (l:List Tx) (q:List Nat) (e:Int) (p':HP) (D':Qf) (X':Zd),
  R (n+15) W3 [pt p.h,.agg o.cells.toArray] X=some (.tuple #[v,iv e,.bool (o.kd<=4 || o.kd==15 || o.kd==16)],X')/\Zt X' v (l.map strv) q/\(∀ j∈q,X.length<=j)/\l.length<=1000/\YN X X' p p' D D' T B e/\e≠6/\(5<=o.kd/\o.kd<=14->D'=D/\p'=p)/\((decide (o.kd<=4) || o.kd==15 || o.kd==16)=true->Zgq D B o e l D'):=by
 have a1:=Zlj o X;have k1:HLe X (X++[Zf.cells o.cells 1 false false]):=.app _ _;have c1:(X++[Zf.cells o.cells 1 false false])[X.length]?=some (.cells o.cells 1 false false):=Zn;generalize X++[Zf.cells o.cells 1 false false]=X1 at a1 k1 c1;have H1:=h.hle k1;have l1:=k1.len;have b0:ld1 (pa X.length 0) X1=some (.int .u8 o.kd,X1):=ZfD c1 rfl;have b1:ld1 (pa X.length 1) X1=some (strv o.a,X1):=ZfD c1 rfl;have b2:ld1 (pa X.length 2) X1=some (strv o.b,X1):=ZfD c1 rfl;have g1:fa 1 (pt X.length) X1=some (pa X.length 1,X1):=rfl;have g2:fa 2 (pt X.length) X1=some (pa X.length 2,X1):=rfl;have hI:R (n+14) KO [pt p.h] X1=some (Zvh D p.ov p.nv,X1):=ZHo H1;have qq:∀ j:Int,bop .int .eql (.int .u8 o.kd) (.int .u8 j) X1=some (.bool (decide ((o.kd:Int)=j)),X1):=fun j=>by rw[ZA];rfl
 have sm:∀ (v:Value) (K:M Out),same v v K X1=K X1:=fun v K=>by unfold same;simp
 have f0:∀ r X',JP (R (n+14)) (pt p.h) (.agg o.cells.toArray) X=some (r,X')->R (n+15) W3 [pt p.h,.agg o.cells.toArray] X=some (r,X'):=fun r X' hr=>by rw[R,Zop rfl];exact hr
 have nil:∀ {Z:Zd},Zt Z (.slice none 0 0) (([]:List Tx).map strv) []:=Zt.nil;by_cases h0:o.kd=0
 .rw[show(decide (o.kd<=4) || o.kd==15 || o.kd==16)=true from by rw[h0];rfl];rw[h0] at qq;obtain⟨X2,e2,d2,s2⟩:=ZEx (n:=n+4) (k:=o.a) (s:=o.b) H1.dir (by omega) (by omega);refine⟨.slice none 0 0,[],[],crE o.a o.b D,_,crD o.a o.b D,X2,f0 _ _ ?_,nil,by simp,by simp,(YN.act H1 s2 d2 ZJx ZGx.1 (by omega)).pre k1,ZGx.2,by omega,fun _=>by unfold Zgq;rw[h0];exact⟨rfl,rfl,rfl⟩⟩;unfold JP;rw[Za a1,Za Zi,Za b0,h0,Za (qq 0)];refine(ZC (vs:=[.slice none 0 0,iv (crE o.a o.b D)]) (H':=X2) ?_).trans rfl;rw[Zb,if_pos (by decide),Za g1,Za b1,Za g2,Za b2,Za hI,Za b2,sm,Za b1,sm,Za e2];rfl
 by_cases h1:o.kd=1
 .rw[show(decide (o.kd<=4) || o.kd==15 || o.kd==16)=true from by rw[h1];rfl];rw[h1] at qq;obtain⟨X2,e2,d2,s2⟩:=ZEP (n:=n+4) (k:=o.a) H1.dir (by omega);refine⟨.slice none 0 0,[],[],deE o.a D,_,deD o.a D,X2,f0 _ _ ?_,nil,by simp,by simp,(YN.act H1 s2 d2 ZJL ZGy.1 (by omega)).pre k1,ZGy.2,by omega,fun _=>by unfold Zgq;rw[h1];exact⟨rfl,rfl,rfl⟩⟩;unfold JP;rw[Za a1,Za Zi,Za b0,h1,Za (qq 0)];refine(ZC (vs:=[.slice none 0 0,iv (deE o.a D)]) (H':=X2) ?_).trans rfl;rw[Zb,if_neg (by decide),Za (qq 1)];refine lvY (by decide) ?_;rw[Za g1,Za b1,Za hI,Za b1,sm,Za e2];rfl
 by_cases h2:o.kd=2
 .rw[show(decide (o.kd<=4) || o.kd==15 || o.kd==16)=true from by rw[h2];rfl];rw[h2] at qq;obtain⟨X2,e2,d2,s2⟩:=ZC3 (n:=n+4) (k:=o.a) (s:=o.b) H1.dir (by omega) (by omega);refine⟨.slice none 0 0,[],[],seE o.a o.b D,_,seD o.a o.b D,X2,f0 _ _ ?_,nil,by simp,by simp,(YN.act H1 s2 d2 ZJv ZGq.1 (by omega)).pre k1,ZGq.2,by omega,fun _=>by unfold Zgq;rw[h2];exact⟨rfl,rfl,rfl⟩⟩;unfold JP;rw[Za a1,Za Zi,Za b0,h2,Za (qq 0)];refine(ZC (vs:=[.slice none 0 0,iv (seE o.a o.b D)]) (H':=X2) ?_).trans rfl;rw[Zb,if_neg (by decide),Za (qq 1)];refine lvN (by decide) ?_;rw[Za (qq 2)];refine lvY (by decide) ?_;rw[Za g1,Za b1,Za g2,Za b2,Za hI,Za b2,sm,Za b1,sm,Za e2];rfl
 by_cases h3:o.kd=3
 .rw[show(decide (o.kd<=4) || o.kd==15 || o.kd==16)=true from by rw[h3];rfl];rw[h3] at qq;obtain⟨v,l,q,e,X2,e2,r2,k2,n2,o2,⟨ne,nn⟩,le,ll⟩:=ZCi (n:=n+6) (k:=o.a) H1 (by omega);have e2:R (n+14) ZbC [pt p.h,strv o.a] X1=_:=e2;refine⟨v,l,q,e,p,D,X2,f0 _ _ ?_,r2,fun j hj=>Nat.le_trans l1 (o2 j hj),by omega,(YN.of H1 k2 nn).pre k1,ne,by omega,fun _=>by unfold Zgq;rw[h3];exact⟨le,ll,rfl⟩⟩;unfold JP;rw[Za a1,Za Zi,Za b0,h3,Za (qq 0)];refine(ZC (vs:=[v,iv e]) (H':=X2) ?_).trans rfl;rw[Zb,if_neg (by decide),Za (qq 1)];refine lvN (by decide) ?_;rw[Za (qq 2)];refine lvN (by decide) ?_;rw[Za (qq 3)];refine lvY (by decide) ?_;rw[Za g1,Za b1,Za e2,Za Zp,Za Zq];rfl
 by_cases h4:o.kd=4
 .rw[show(decide (o.kd<=4) || o.kd==15 || o.kd==16)=true from by rw[h4];rfl];rw[h4] at qq;obtain⟨v,q,X2,e2,r2,k2,n2,o2⟩:=ZGU (n:=n+4) (pre:=o.a) H1.dir (by omega);refine⟨v,_,q,YS o.a,p,D,X2,f0 _ _ ?_,r2,fun j hj=>Nat.le_trans l1 (o2 j hj),n2,(YN.of H1 k2 ZBJ.1).pre k1,ZBJ.2,by omega,fun _=>by unfold Zgq;rw[h4];exact⟨rfl,rfl,rfl⟩⟩;unfold JP;rw[Za a1,Za Zi,Za b0,h4,Za (qq 0)];refine(ZC (vs:=[v,iv (YS o.a)]) (H':=X2) ?_).trans rfl;rw[Zb,if_neg (by decide),Za (qq 1)];refine lvN (by decide) ?_;rw[Za (qq 2)];refine lvN (by decide) ?_;rw[Za (qq 3)];refine lvN (by decide) ?_;rw[Za (qq 4)];refine lvY (by decide) ?_;rw[Za g1,Za b1,Za hI,Za b1,sm,Za e2,Za Zp,Za Zq];rfl
 by_cases h5:o.kd=15
 .rw[show(decide (o.kd<=4) || o.kd==15 || o.kd==16)=true from by rw[h5];rfl];rw[h5] at qq;obtain⟨e,p',D',X2,e2,ho,st,i1,i2,i3,no,⟨nn,n6,ic⟩,hU⟩:=ZAP (n:=n) H1;refine⟨.slice none 0 0,[],[],e,p',D',X2,f0 _ _ ?_,nil,by simp,by simp,YN.pre k1 ⟨ho,st,i1,i2,i3,no,nn,by omega⟩,n6,by omega,fun _=>by unfold Zgq;rw[h5];exact⟨rfl,hU⟩⟩;unfold JP;rw[Za a1,Za Zi,Za b0,h5,Za (qq 0)];refine(ZC (vs:=[.slice none 0 0,iv e]) (H':=X2) ?_).trans rfl;rw[Zb,if_neg (by decide),Za (qq 1)];refine lvN (by decide) ?_;rw[Za (qq 2)];refine lvN (by decide) ?_;rw[Za (qq 3)];refine lvN (by decide) ?_;rw[Za (qq 4)];refine lvN (by decide) ?_;rw[Za (qq 15)];refine lvY (by decide) ?_;rw[Za e2];rfl
 by_cases h6:o.kd=16
 .rw[show(decide (o.kd<=4) || o.kd==15 || o.kd==16)=true from by rw[h6];rfl];rw[h6] at qq;refine⟨.slice none 0 0,[],[],1,p,D,X1,f0 _ _ ?_,nil,by simp,by simp,YN.of h k1 (by omega),by omega,by omega,fun _=>by unfold Zgq;rw[h6];exact⟨rfl,rfl,rfl⟩⟩;unfold JP;rw[Za a1,Za Zi,Za b0,h6,Za (qq 0)];refine(ZC (vs:=[.slice none 0 0,iv 1]) (H':=X1) ?_).trans rfl;rw[Zb,if_neg (by decide),Za (qq 1)];refine lvN (by decide) ?_;rw[Za (qq 2)];refine lvN (by decide) ?_;rw[Za (qq 3)];refine lvN (by decide) ?_;rw[Za (qq 4)];refine lvN (by decide) ?_;rw[Za (qq 15)];refine lvN (by decide) ?_;rw[Za (qq 16),Zb,if_pos (by decide)];rfl
 .have hn:∀ j:Nat,o.kd≠j->decide ((o.kd:Int)=(j:Int))=false:=fun j hj=>decide_eq_false (by omega);have hz:(decide (o.kd<=4) || o.kd==15 || o.kd==16)=false:=by simp;omega
  refine⟨.slice none 0 0,[],[],0,p,D,X1,f0 _ _ ?_,nil,by simp,by simp,YN.of h k1 (by omega),by omega,fun _=>⟨rfl,rfl⟩,fun hy=>by rw[hz] at hy;cases hy⟩;rw[hz];unfold JP;rw[Za a1,Za Zi,Za b0,Za (qq 0)];refine(KG (v:=.tuple #[.slice none 0 0,iv 0,.bool false]) (H':=X1) ?_).trans rfl;rw[Zb,if_neg (by have:=h0;simp;omega),Za (qq 1)];refine lvR (hn 1 h1) ?_;rw[Za (qq 2)];refine lvR (hn 2 h2) ?_;rw[Za (qq 3)];refine lvR (hn 3 h3) ?_;rw[Za (qq 4)];refine lvR (hn 4 h4) ?_;rw[Za (qq 15)];refine lvR (hn 15 h5) ?_;rw[Za (qq 16),Zb,if_neg (by have:=h6;simp;omega)];rfl
theorem ZCw (h:HO X p (.now s) T B) (hc:p.c<=1000) (h5:5<=o.kd) (h14:o.kd<=14):∃ (v:Value) (l:List Tx) (q:List Nat) (e:Int) (p':HP) (D':Qf) (X':Zd),
  R (n+15) W9 [pt p.h,.agg o.cells.toArray] X=some (.tuple #[v,iv e],X')/\Zt X' v (l.map strv) q/\(∀ j∈q,X.length<=j)/\l.length<=1000/\YN X X' p p' (.now s) D' T B e/\e≠6/\Zfe s o e l D':=by
 have a1:=Zlj o X;have k1:HLe X (X++[Zf.cells o.cells 1 false false]):=.app _ _;have c1:(X++[Zf.cells o.cells 1 false false])[X.length]?=some (.cells o.cells 1 false false):=Zn;generalize X++[Zf.cells o.cells 1 false false]=X1 at a1 k1 c1;have H1:=h.hle k1;have l1:=k1.len;have b0:ld1 (pa X.length 0) X1=some (.int .u8 o.kd,X1):=ZfD c1 rfl;have b1:ld1 (pa X.length 1) X1=some (strv o.a,X1):=ZfD c1 rfl;have b2:ld1 (pa X.length 2) X1=some (strv o.b,X1):=ZfD c1 rfl;have g1:fa 1 (pt X.length) X1=some (pa X.length 1,X1):=rfl;have g2:fa 2 (pt X.length) X1=some (pa X.length 2,X1):=rfl;have y1:fa 1 (pa p.h 0) X1=some (pa p.h 1,X1):=rfl;have qq:∀ j:Int,bop .int .eql (.int .u8 o.kd) (.int .u8 j) X1=some (.bool (decide ((o.kd:Int)=j)),X1):=fun j=>by rw[ZA];rfl
 have f0:∀ r X',Q4 (R (n+14)) (pt p.h) (.agg o.cells.toArray) X=some (r,X')->R (n+15) W9 [pt p.h,.agg o.cells.toArray] X=some (r,X'):=fun r X' hr=>by rw[R,ZpI rfl];exact hr
 have nil:∀ {Z:Zd},Zt Z (.slice none 0 0) (([]:List Tx).map strv) []:=Zt.nil;obtain⟨d,r,z1,z2,h3,zM,zC⟩:=H1.dir;have y2:ld1 (pa p.h 1) X1=some (pt d,X1):=by rw[<- z2];exact Zy H1.cell rfl
 by_cases hk:o.kd=5
 .rw[hk] at qq;obtain⟨X2,e2,d2,s2⟩:=ZCA (n:=n+4) (k:=o.a) (m:=o.b) h3;have dx:DX X2 (.now (Kr o.a o.b s)) p.ov p.nv r.own p.C p.c:=⟨d,r,z1,z2,d2,rfl,zC⟩;have e2:R (n+14) WE [pt d,strv o.a,strv o.b] X1=_:=e2;refine⟨.slice none 0 0,[],[],Jh o.a o.b s,_,.now (Kr o.a o.b s),X2,f0 _ _ ?_,nil,by simp,by simp,(YN.act H1 (by rw[zM];exact s2) dx (fun hne=>by rw[ZB1 hne]) Ztt.1 (by omega)).pre k1,Ztt.2,by unfold Zfe;rw[hk];exact⟨rfl,rfl,rfl⟩⟩;unfold Q4;rw[Za a1,Za Zi,Za b0,hk,Za (qq 5)];refine(ZC (vs:=[.slice none 0 0,iv (Jh o.a o.b s)]) (H':=X2) ?_).trans rfl;rw[Zb,if_pos (by decide),Za Zg,Za y1,Za y2,Za g1,Za b1,Za g2,Za b2,Za e2];rfl
 by_cases hk:o.kd=6
 .rw[hk] at qq;obtain⟨X2,e2,d2,s2⟩:=Ztv (n:=n+4) (k:=o.a) (b:=true) h3;have dx:DX X2 (.now (Y4 o.a true s)) p.ov p.nv r.own p.C p.c:=⟨d,r,z1,z2,d2,rfl,zC⟩;have e2:R (n+14) YW [pt d,strv o.a,.bool true] X1=_:=e2;refine⟨.slice none 0 0,[],[],Jf o.a true s.A,_,.now (Y4 o.a true s),X2,f0 _ _ ?_,nil,by simp,by simp,(YN.act H1 (by rw[zM];exact s2) dx (fun hne=>by rw[Zuu hne]) Zi8.1 (by omega)).pre k1,Zi8.2,by unfold Zfe;rw[hk];exact⟨rfl,rfl,rfl⟩⟩;unfold Q4;rw[Za a1,Za Zi,Za b0,hk,Za (qq 5)];refine(ZC (vs:=[.slice none 0 0,iv (Jf o.a true s.A)]) (H':=X2) ?_).trans rfl;rw[Zb,if_neg (by decide),Za (qq 6)];refine lvY (by decide) ?_;rw[Za Zg,Za y1,Za y2,Za g1,Za b1,Za e2];rfl
 by_cases hk:o.kd=7
 .rw[hk] at qq;obtain⟨X2,e2,d2,s2⟩:=Ztv (n:=n+4) (k:=o.a) (b:=false) h3;have dx:DX X2 (.now (Y4 o.a false s)) p.ov p.nv r.own p.C p.c:=⟨d,r,z1,z2,d2,rfl,zC⟩;have e2:R (n+14) YW [pt d,strv o.a,.bool false] X1=_:=e2;refine⟨.slice none 0 0,[],[],Jf o.a false s.A,_,.now (Y4 o.a false s),X2,f0 _ _ ?_,nil,by simp,by simp,(YN.act H1 (by rw[zM];exact s2) dx (fun hne=>by rw[Zuu hne]) Zi8.1 (by omega)).pre k1,Zi8.2,by unfold Zfe;rw[hk];exact⟨rfl,rfl,rfl⟩⟩;unfold Q4;rw[Za a1,Za Zi,Za b0,hk,Za (qq 5)];refine(ZC (vs:=[.slice none 0 0,iv (Jf o.a false s.A)]) (H':=X2) ?_).trans rfl;rw[Zb,if_neg (by decide),Za (qq 6)];refine lvN (by decide) ?_;rw[Za (qq 7)];refine lvY (by decide) ?_;rw[Za Zg,Za y1,Za y2,Za g1,Za b1,Za e2];rfl
 by_cases hk:o.kd=8
 .rw[hk] at qq;obtain⟨X2,e2,d2,s2⟩:=ZDm (n:=n+4) (o:=o.a) (t:=o.b) h3;have dx:DX X2 (.now (Zbf o.a o.b s)) p.ov p.nv r.own p.C p.c:=⟨d,r,z1,z2,d2,rfl,zC⟩;have e2:R (n+14) W6 [pt d,strv o.a,strv o.b] X1=_:=e2;refine⟨.slice none 0 0,[],[],J5 o.a o.b s.A,_,.now (Zbf o.a o.b s),X2,f0 _ _ ?_,nil,by simp,by simp,(YN.act H1 (by rw[zM];exact s2) dx (fun hne=>by rw[ZEn hne]) ZwC.1 (by omega)).pre k1,ZwC.2,by unfold Zfe;rw[hk];exact⟨rfl,rfl,rfl⟩⟩;unfold Q4;rw[Za a1,Za Zi,Za b0,hk,Za (qq 5)];refine(ZC (vs:=[.slice none 0 0,iv (J5 o.a o.b s.A)]) (H':=X2) ?_).trans rfl;rw[Zb,if_neg (by decide),Za (qq 6)];refine lvN (by decide) ?_;rw[Za (qq 7)];refine lvN (by decide) ?_;rw[Za (qq 8)];refine lvY (by decide) ?_;rw[Za Zg,Za y1,Za y2,Za g1,Za b1,Za g2,Za b2,Za e2];rfl
 by_cases hk:o.kd=9
 .rw[hk] at qq;obtain⟨X2,r2,e2,d2,s2⟩:=ZG5 (n:=n+4) (g:=o.a) h3;obtain⟨x1,x2⟩:=h3.still d2 s2;have dx:DX X2 (.now (Zi7 o.a s)) p.ov p.nv r2.own p.C p.c:=⟨d,r2,z1,z2,d2,rfl,by rw[zC,x1,x2]⟩;have e2:R (n+14) WT [pt d,strv o.a] X1=_:=e2;refine⟨.slice none 0 0,[],[],Jp o.a s.K,_,.now (Zi7 o.a s),X2,f0 _ _ ?_,nil,by simp,by simp,(YN.act H1 (by rw[zM];exact s2) dx (fun hne=>by rw[ZG4 hne]) ZBu.1 (by omega)).pre k1,ZBu.2,by unfold Zfe;rw[hk];exact⟨rfl,rfl,rfl⟩⟩;unfold Q4;rw[Za a1,Za Zi,Za b0,hk,Za (qq 5)];refine(ZC (vs:=[.slice none 0 0,iv (Jp o.a s.K)]) (H':=X2) ?_).trans rfl;rw[Zb,if_neg (by decide),Za (qq 6)];refine lvN (by decide) ?_;rw[Za (qq 7)];refine lvN (by decide) ?_;rw[Za (qq 8)];refine lvN (by decide) ?_;rw[Za (qq 9)];refine lvY (by decide) ?_;rw[Za Zg,Za y1,Za y2,Za g1,Za b1,Za e2];rfl
 by_cases hk:o.kd=10
 .rw[hk] at qq;obtain⟨X2,r2,e2,d2,s2⟩:=ZHS (n:=n+4) (g:=o.a) h3;obtain⟨x1,x2⟩:=h3.still d2 s2;have dx:DX X2 (.now (ZiW o.a s)) p.ov p.nv r2.own p.C p.c:=⟨d,r2,z1,z2,d2,rfl,by rw[zC,x1,x2]⟩;have e2:R (n+14) WY [pt d,strv o.a] X1=_:=e2;refine⟨.slice none 0 0,[],[],Q6 o.a s.K,_,.now (ZiW o.a s),X2,f0 _ _ ?_,nil,by simp,by simp,(YN.act H1 (by rw[zM];exact s2) dx (fun hne=>by rw[ZHD hne]) Zp2.1 (by omega)).pre k1,Zp2.2,by unfold Zfe;rw[hk];exact⟨rfl,rfl,rfl⟩⟩;unfold Q4;rw[Za a1,Za Zi,Za b0,hk,Za (qq 5)];refine(ZC (vs:=[.slice none 0 0,iv (Q6 o.a s.K)]) (H':=X2) ?_).trans rfl;rw[Zb,if_neg (by decide),Za (qq 6)];refine lvN (by decide) ?_;rw[Za (qq 7)];refine lvN (by decide) ?_;rw[Za (qq 8)];refine lvN (by decide) ?_;rw[Za (qq 9)];refine lvN (by decide) ?_;rw[Za (qq 10)];refine lvY (by decide) ?_;rw[Za Zg,Za y1,Za y2,Za g1,Za b1,Za e2];rfl
 by_cases hk:o.kd=11
 .rw[hk] at qq;obtain⟨X2,e2,d2,s2⟩:=ZHY (n:=n+3) (g:=o.a) (k:=o.b) h3;have dx:DX X2 (.now (Zd5 o.a o.b s)) p.ov p.nv r.own p.C (p.c+1):=⟨d,r,z1,z2,d2,rfl,zC⟩;have e2:R (n+14) Zbb [pt d,strv o.a,strv o.b] X1=_:=e2;refine⟨.slice none 0 0,[],[],Wj o.a o.b s,_,.now (Zd5 o.a o.b s),X2,f0 _ _ ?_,nil,by simp,by simp,(YN.act H1 (by rw[zM];exact s2) dx (fun hne=>by rw[ZG2 hne]) ZBB.1 (by omega)).pre k1,ZBB.2,by unfold Zfe;rw[hk];exact⟨rfl,rfl,rfl⟩⟩;unfold Q4;rw[Za a1,Za Zi,Za b0,hk,Za (qq 5)];refine(ZC (vs:=[.slice none 0 0,iv (Wj o.a o.b s)]) (H':=X2) ?_).trans rfl;rw[Zb,if_neg (by decide),Za (qq 6)];refine lvN (by decide) ?_;rw[Za (qq 7)];refine lvN (by decide) ?_;rw[Za (qq 8)];refine lvN (by decide) ?_;rw[Za (qq 9)];refine lvN (by decide) ?_;rw[Za (qq 10)];refine lvN (by decide) ?_;rw[Za (qq 11)];refine lvY (by decide) ?_;rw[Za Zg,Za y1,Za y2,Za g1,Za b1,Za g2,Za b2,Za e2];rfl
 by_cases hk:o.kd=12
 .rw[hk] at qq;obtain⟨X2,e2,d2,s2⟩:=ZFU (n:=n+3) (g:=o.a) (k:=o.b) h3;have dx:DX X2 (.now (ZcK o.a o.b s)) p.ov p.nv r.own p.C (p.c+1):=⟨d,r,z1,z2,d2,rfl,zC⟩;have e2:R (n+14) Zas [pt d,strv o.a,strv o.b] X1=_:=e2;refine⟨.slice none 0 0,[],[],KB o.a o.b s,_,.now (ZcK o.a o.b s),X2,f0 _ _ ?_,nil,by simp,by simp,(YN.act H1 (by rw[zM];exact s2) dx (fun hne=>by rw[ZFx hne]) ZyX.1 (by omega)).pre k1,ZyX.2,by unfold Zfe;rw[hk];exact⟨rfl,rfl,rfl⟩⟩;unfold Q4;rw[Za a1,Za Zi,Za b0,hk,Za (qq 5)];refine(ZC (vs:=[.slice none 0 0,iv (KB o.a o.b s)]) (H':=X2) ?_).trans rfl;rw[Zb,if_neg (by decide),Za (qq 6)];refine lvN (by decide) ?_;rw[Za (qq 7)];refine lvN (by decide) ?_;rw[Za (qq 8)];refine lvN (by decide) ?_;rw[Za (qq 9)];refine lvN (by decide) ?_;rw[Za (qq 10)];refine lvN (by decide) ?_;rw[Za (qq 11)];refine lvN (by decide) ?_;rw[Za (qq 12)];refine lvY (by decide) ?_;rw[Za Zg,Za y1,Za y2,Za g1,Za b1,Za g2,Za b2,Za e2];rfl
 by_cases hk:o.kd=13
 .rw[hk] at qq;obtain⟨X2,e2,k2⟩:=ZAR (n:=n+4) (m:=o.a) h3;have e2:R (n+14) ZcJ [pt d,strv o.a] X1=_:=e2;have e3:bsl 1 1 (.string ⟨#[]⟩) [(0,1,strv (ZeU o.a s.OW))] X2=some (.slice (some ⟨X2.length,0,none⟩) 1 1,X2++[.cells [strv (ZeU o.a s.OW)] 1 false false]):=Zpt rfl rfl rfl;refine⟨.slice (some ⟨X2.length,0,none⟩) 1 1,[ZeU o.a s.OW],[X2.length],ZaC o.a s.OW,p,.now s,X2++[.cells [strv (ZeU o.a s.OW)] 1 false false],f0 _ _ ?_,.inr ⟨X2.length,[],false,rfl,rfl,Zn⟩,by have:=k2.len;simp;omega,by simp,(YN.of H1 (k2.trans (.app _ _)) Zx3.1).pre k1,Zx3.2,by unfold Zfe;rw[hk];exact⟨rfl,rfl,rfl⟩⟩;unfold Q4;rw[Za a1,Za Zi,Za b0,hk,Za (qq 5)];refine(ZC (vs:=[.slice (some ⟨X2.length,0,none⟩) 1 1,iv (ZaC o.a s.OW)]) (H':=(X2++[.cells [strv (ZeU o.a s.OW)] 1 false false])) ?_).trans rfl;rw[Zb,if_neg (by decide),Za (qq 6)];refine lvN (by decide) ?_;rw[Za (qq 7)];refine lvN (by decide) ?_;rw[Za (qq 8)];refine lvN (by decide) ?_;rw[Za (qq 9)];refine lvN (by decide) ?_;rw[Za (qq 10)];refine lvN (by decide) ?_;rw[Za (qq 11)];refine lvN (by decide) ?_;rw[Za (qq 12)];refine lvN (by decide) ?_;rw[Za (qq 13)];refine lvY (by decide) ?_;rw[Za Zg,Za y1,Za y2,Za g1,Za b1,Za e2,Za Zp,Za Zq,Za e3];rfl
 .have hk:o.kd=14:=by omega
  rw[hk] at qq;obtain⟨v,q,l,X2,e2,r2,i2,n2,k2,o2⟩:=Zz8 (n:=n+5) (g:=o.a) h3 (by omega);have e2:R (n+14) ZaE [pt d,strv o.a] X1=_:=e2;refine⟨v,l,q,Q6 o.a s.K,p,.now s,X2,f0 _ _ ?_,r2,fun j hj=>Nat.le_trans l1 (o2 j hj),by omega,(YN.of H1 k2 Zp2.1).pre k1,Zp2.2,by unfold Zfe;rw[hk];exact⟨rfl,i2,rfl⟩⟩;unfold Q4;rw[Za a1,Za Zi,Za b0,hk,Za (qq 5)];refine(ZC (vs:=[v,iv (Q6 o.a s.K)]) (H':=X2) ?_).trans rfl;rw[Zb,if_neg (by decide),Za (qq 6)];refine lvN (by decide) ?_;rw[Za (qq 7)];refine lvN (by decide) ?_;rw[Za (qq 8)];refine lvN (by decide) ?_;rw[Za (qq 9)];refine lvN (by decide) ?_;rw[Za (qq 10)];refine lvN (by decide) ?_;rw[Za (qq 11)];refine lvN (by decide) ?_;rw[Za (qq 12)];refine lvN (by decide) ?_;rw[Za (qq 13)];refine lvN (by decide) ?_;rw[Za (qq 14)];refine lvY (by decide) ?_;rw[Za Zg,Za y1,Za y2,Za g1,Za b1,Za e2,Za Zp,Za Zq];rfl
end
end Go.Proofs.YtgfbgfafajiehaaGreatDoor.A

