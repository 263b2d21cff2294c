/- What the law HostUpgrades needs (part 3). -/
import Derived.Test.YtgfbgfafajiehaaGreatDoorZHostUpgrades2
import Derived.Test.YtgfbgfafajiehaaGreatDoorProg
import Derived.KernelRfl
set_option linter.unusedVariables false
set_option linter.unusedSimpArgs false
namespace Go.Proofs.YtgfbgfafajiehaaGreatDoor.A
open Go.Proofs Go.Proofs.YtgfbgfafajiehaaGreatDoor
section
set_option maxRecDepth 100000
noncomputable section
def RA0 (g:Nat) (F:Zc->M Value):Prop:=∀ {prim:FuncId->Option (List Value->M Value)} (_:prim g=none) (n:Nat),run Tryz.prog prim lvs (n+1) g []=F (run Tryz.prog prim lvs n)
theorem ra0 {g:Nat} {fn:Func} {F:Zc->M Value} (hf:Tryz.prog.funcs[g]?=some fn) (hc:(Zc0 fn && Nat.blt g Kn)=true) (h:∀ (Γ:Zc),Zs Tryz.prog Γ fn (lvs g) []=F Γ):RA0 g F:=fun hp n=>(Zh hp rfl hf (by cases e:Zc0 fn<;>simp[e] at hc ⊢) (by cases e:Nat.blt g Kn<;>simp[e] at hc ⊢)).trans (h _)
def RA1 (g:Nat) (F:Zc->Value->M Value):Prop:=∀ {prim:FuncId->Option (List Value->M Value)} (_:prim g=none) (n:Nat) (x0:Value),run Tryz.prog prim lvs (n+1) g [x0]=F (run Tryz.prog prim lvs n) x0
theorem ra1 {g:Nat} {fn:Func} {F:Zc->Value->M Value} (hf:Tryz.prog.funcs[g]?=some fn) (hc:(Zc0 fn && Nat.blt g Kn)=true) (h:∀ (Γ:Zc) (x0:Value),Zs Tryz.prog Γ fn (lvs g) [x0]=F Γ x0):RA1 g F:=fun hp n x0=>(Zh hp rfl hf (by cases e:Zc0 fn<;>simp[e] at hc ⊢) (by cases e:Nat.blt g Kn<;>simp[e] at hc ⊢)).trans (h _ x0)
def RA2 (g:Nat) (F:Zc->Value->Value->M Value):Prop:=∀ {prim:FuncId->Option (List Value->M Value)} (_:prim g=none) (n:Nat) (x0 x1:Value),run Tryz.prog prim lvs (n+1) g [x0,x1]=F (run Tryz.prog prim lvs n) x0 x1
theorem ra2 {g:Nat} {fn:Func} {F:Zc->Value->Value->M Value} (hf:Tryz.prog.funcs[g]?=some fn) (hc:(Zc0 fn && Nat.blt g Kn)=true) (h:∀ (Γ:Zc) (x0 x1:Value),Zs Tryz.prog Γ fn (lvs g) [x0,x1]=F Γ x0 x1):RA2 g F:=fun hp n x0 x1=>(Zh hp rfl hf (by cases e:Zc0 fn<;>simp[e] at hc ⊢) (by cases e:Nat.blt g Kn<;>simp[e] at hc ⊢)).trans (h _ x0 x1)
def RA3 (g:Nat) (F:Zc->Value->Value->Value->M Value):Prop:=∀ {prim:FuncId->Option (List Value->M Value)} (_:prim g=none) (n:Nat) (x0 x1 x2:Value),run Tryz.prog prim lvs (n+1) g [x0,x1,x2]=F (run Tryz.prog prim lvs n) x0 x1 x2
theorem ra3 {g:Nat} {fn:Func} {F:Zc->Value->Value->Value->M Value} (hf:Tryz.prog.funcs[g]?=some fn) (hc:(Zc0 fn && Nat.blt g Kn)=true) (h:∀ (Γ:Zc) (x0 x1 x2:Value),Zs Tryz.prog Γ fn (lvs g) [x0,x1,x2]=F Γ x0 x1 x2):RA3 g F:=fun hp n x0 x1 x2=>(Zh hp rfl hf (by cases e:Zc0 fn<;>simp[e] at hc ⊢) (by cases e:Nat.blt g Kn<;>simp[e] at hc ⊢)).trans (h _ x0 x1 x2)
def RA4 (g:Nat) (F:Zc->Value->Value->Value->Value->M Value):Prop:=∀ {prim:FuncId->Option (List Value->M Value)} (_:prim g=none) (n:Nat) (x0 x1 x2 x3:Value),run Tryz.prog prim lvs (n+1) g [x0,x1,x2,x3]=F (run Tryz.prog prim lvs n) x0 x1 x2 x3
theorem ra4 {g:Nat} {fn:Func} {F:Zc->Value->Value->Value->Value->M Value} (hf:Tryz.prog.funcs[g]?=some fn) (hc:(Zc0 fn && Nat.blt g Kn)=true) (h:∀ (Γ:Zc) (x0 x1 x2 x3:Value),Zs Tryz.prog Γ fn (lvs g) [x0,x1,x2,x3]=F Γ x0 x1 x2 x3):RA4 g F:=fun hp n x0 x1 x2 x3=>(Zh hp rfl hf (by cases e:Zc0 fn<;>simp[e] at hc ⊢) (by cases e:Nat.blt g Kn<;>simp[e] at hc ⊢)).trans (h _ x0 x1 x2 x3)
def RA5 (g:Nat) (F:Zc->Value->Value->Value->Value->Value->M Value):Prop:=∀ {prim:FuncId->Option (List Value->M Value)} (_:prim g=none) (n:Nat) (x0 x1 x2 x3 x4:Value),run Tryz.prog prim lvs (n+1) g [x0,x1,x2,x3,x4]=F (run Tryz.prog prim lvs n) x0 x1 x2 x3 x4
theorem ra5 {g:Nat} {fn:Func} {F:Zc->Value->Value->Value->Value->Value->M Value} (hf:Tryz.prog.funcs[g]?=some fn) (hc:(Zc0 fn && Nat.blt g Kn)=true) (h:∀ (Γ:Zc) (x0 x1 x2 x3 x4:Value),Zs Tryz.prog Γ fn (lvs g) [x0,x1,x2,x3,x4]=F Γ x0 x1 x2 x3 x4):RA5 g F:=fun hp n x0 x1 x2 x3 x4=>(Zh hp rfl hf (by cases e:Zc0 fn<;>simp[e] at hc ⊢) (by cases e:Nat.blt g Kn<;>simp[e] at hc ⊢)).trans (h _ x0 x1 x2 x3 x4)
def Zfm.l1 (Γ:Zc) (s3 s19 s20 s21:Value):M Out:=
 bind (bop .int .lss s21 s20) fun y10=>
 cnd y10
 (bind (ixa 7 s19 s21) fun y11=>
 bind (ldA 7 y11) fun y12=>
 bind (alc 1 (.agg #[.int .u8 0,.int .u64 0,.int .u8 0,.string ⟨#[]⟩,.string ⟨#[]⟩,.int .u8 0,.int .u8 0])) fun y13=>
 bind (stA 7 y13 y12) fun _=>
 bind (Γ Jt [s3]) fun y14=>
 bind (b2s y14) fun y15=>
 bind (Γ Qf [s3]) fun y16=>
 bind (b2s y14) fun u_17=>same u_17 y15 <|
 bind (ldA 7 y13) fun y18=>
 bind (Γ ZR [s3,y18]) fun y19=>
 bind (Zm y19 0) fun y20=>
 bind (Zm y19 1) fun y21=>
 bind (alc 1 (.agg #[.int .i64 0,.slice none 0 0])) fun y22=>
 bind (stA 2 y22 y20) fun _=>
 bind (fa 0 y22) fun y23=>
 bind (ld1 y23) fun y24=>
 bind (bop .int .neq y24 (Value.int .i64 0)) fun y25=>
 bind (gate y25 true 6 (bind (Γ Jt [s3]) fun y26=>
 bind (b2s y26) fun y27=>
 bind (bop .str .neq y27 y15) fun y28=>
 ret [s3,y26,y27,y15,y28,y28])) (c6 fun _ _ _ _ _ q29_5=>
 bind (gate q29_5 false 4 (bind (fa 1 y22) fun y30=>
 bind (ld1 y30) fun y31=>
 bind (ZC y31) fun y32=>
 bind (bop .int .neq y32 (Value.int .i64 0)) fun y33=>
 ret [y30,y31,y32,y33])) (c4 fun _ _ _ q34_3=>
 bind (gate y25 true 1 (bind (pick q29_5 (Value.bool true) q34_3) fun y35=>
 ret [y35])) (c1 fun q36_0=>
 bind (pick y25 q36_0 (Value.bool false)) fun y37=>
 cnd y37
 (ret (.ret (Value.bool false)))
 (bind (gateV y21 true (fa 2 y13)) fun y38=>
 bind (gateV y21 true (ldA 5 y38)) fun y39=>
 bind (gateV y21 true (Γ ZbV [y39])) fun y40=>
 bind (gateV y21 true (bop .int .eql y40 (Value.int .i64 0))) fun y41=>
 bind (pick y21 y41 (Value.bool false)) fun y42=>
 bind (gateV y42 true (fa 0 y22)) fun y43=>
 bind (gateV y42 true (ld1 y43)) fun y44=>
 bind (gateV y42 true (bop .int .eql y44 (Value.int .i64 6))) fun y45=>
 bind (gateV y42 true (fa 2 y13)) fun y46=>
 bind (gateV y42 true (fa 0 y46)) fun y47=>
 bind (gateV y42 true (ld1 y47)) fun y48=>
 bind (gateV y42 true (cvi .i64 y48)) fun y49=>
 bind (gateV y42 true (ret y16)) fun y50=>
 bind (gateV y42 true (Γ ZBD [y49])) fun y51=>
 bind (gateV y42 true (ld1 y43)) fun u_52=>same u_52 y44 <|
 bind (gateV y42 true (bop .int .gtr y51 y50)) fun y53=>
 bind (gateV y42 true (bop .bool .neq y45 y53)) fun y54=>
 bind (pick y42 y54 (Value.bool false)) fun y55=>
 cnd y55
 (ret (.ret (Value.bool false)))
 (bind (bop .int .add s21 (Value.int .i64 1)) fun y56=>
 ret (.nrm [s3,s19,s20,y56])))))))
 (ret (.ext 0 []))
def Zfm (Γ:Zc) (x0:Value):M Value:=
 bind (Γ JN []) fun y1=>
 bind (uop .not y1) fun y2=>
 bind (gate y2 false 3 (bind (Γ W8 [x0]) fun y3=>
 bind (uop .not y3) fun y4=>
 ret [x0,y3,y4])) (c3 fun _ _ q5_2=>
 bind (pick y2 (Value.bool true) q5_2) fun y6=>
 cnd y6
 (bind (Γ JN []) fun y7=>
 ret y7)
 (bind (Γ ZbX [(Value.int .i64 3)]) fun y8=>
 bind (ZC x0) fun y9=>
 jn (Zi (c4 (Zfm.l1 Γ)) [y8,x0,y9,(Value.int .i64 0)]) noN (xk 0 (c0 (ret (Value.bool true))) noX) ret))
def ZiX.l1 (Γ:Zc) (s3 s23 s24 s25:Value):M Out:=
 bind (bop .int .lss s25 s24) fun y10=>
 cnd y10
 (jn (bind (ixa 7 s23 s25) fun y11=>
 bind (ldA 7 y11) fun y12=>
 bind (alc 1 (.agg #[.int .u8 0,.int .u64 0,.int .u8 0,.string ⟨#[]⟩,.string ⟨#[]⟩,.int .u8 0,.int .u8 0])) fun y13=>
 bind (stA 7 y13 y12) fun _=>
 bind (fa 0 y13) fun y14=>
 bind (ld1 y14) fun y15=>
 bind (bop .int .eql y15 (Value.int .u8 255)) fun y16=>
 jn (cnd y16
 (bind (fa 0 y13) fun y17=>
 bind (st1 y17 (Value.int .u8 0)) fun _=>
 ret (.nrm [s3,y13,s23,s24,s25]))
 (ret (.nrm [s3,y13,s23,s24,s25]))) (c5 fun q18_0 q18_1 q18_2 q18_3 q18_4=>
 bind (fa 0 q18_1) fun y19=>
 bind (ld1 y19) fun y20=>
 bind (Γ Jr [q18_0]) fun y21=>
 bind (ld1 y19) fun u_22=>same u_22 y20 <|
 bind (Γ J0 [y21,y20]) fun y23=>
 bind (Γ Jt [q18_0]) fun y24=>
 bind (b2s y24) fun y25=>
 bind (ldA 7 q18_1) fun y26=>
 bind (Γ ZR [q18_0,y26]) fun y27=>
 bind (Zm y27 0) fun y28=>
 bind (Zm y27 1) fun y29=>
 bind (alc 1 (.agg #[.int .i64 0,.slice none 0 0])) fun y30=>
 bind (stA 2 y30 y28) fun _=>
 bind (fa 0 q18_1) fun y31=>
 bind (ld1 y31) fun y32=>
 bind (bop .int .lss y32 (Value.int .u8 8)) fun y33=>
 bind (gate y33 true 4 (bind (fa 1 q18_1) fun y34=>
 bind (ld1 y34) fun y35=>
 bind (bop .int .gtr y35 y23) fun y36=>
 ret [y34,y35,y23,y36])) (c4 fun _ _ _ q37_3=>
 bind (pick y33 q37_3 (Value.bool false)) fun y38=>
 bind (gate y38 true 3 (bind (fa 1 q18_1) fun y39=>
 bind (ld1 y39) fun y40=>
 bind (bop .int .leq y40 (Value.int .u64 1099511627776)) fun y41=>
 ret [y39,y40,y41])) (c3 fun _ _ q42_2=>
 bind (pick y38 q42_2 (Value.bool false)) fun y43=>
 bind (bop .bool .neq y29 y43) fun y44=>
 bind (gate y44 false 3 (bind (uop .not y29) fun y45=>
 ret [y29,y45,y45])) (c3 fun _ _ q46_2=>
 bind (gate q46_2 true 5 (bind (Γ Jt [q18_0]) fun y47=>
 bind (b2s y47) fun y48=>
 bind (bop .str .neq y48 y25) fun y49=>
 ret [q18_0,y47,y48,y25,y49])) (c5 fun _ _ _ _ q50_4=>
 bind (gate y44 false 1 (bind (pick q46_2 q50_4 (Value.bool false)) fun y51=>
 ret [y51])) (c1 fun q52_0=>
 bind (pick y44 (Value.bool true) q52_0) fun y53=>
 cnd y53
 (ret (.ret (Value.bool false)))
 (bind (uop .not y29) fun y54=>
 cnd y54
 (ret (.nrm [q18_0,q18_2,q18_3,q18_4]))
 (bind (Γ Jt [q18_0]) fun y55=>
 bind (b2s y55) fun y56=>
 bind (ldA 7 q18_1) fun y57=>
 bind (Γ ZR [q18_0,y57]) fun y58=>
 bind (Zm y58 0) fun y59=>
 bind (Zm y58 1) fun y60=>
 bind (alc 1 (.agg #[.int .i64 0,.slice none 0 0])) fun y61=>
 bind (stA 2 y61 y59) fun _=>
 bind (gate y60 false 4 (bind (ldA 2 y30) fun y62=>
 bind (ldA 2 y61) fun y63=>
 bind (Γ Zbr [y62,y63]) fun y64=>
 bind (uop .not y64) fun y65=>
 ret [y62,y63,y64,y65])) (c4 fun _ _ _ q66_3=>
 bind (pick y60 (Value.bool true) q66_3) fun y67=>
 bind (gate y67 false 5 (bind (Γ Jt [q18_0]) fun y68=>
 bind (b2s y68) fun y69=>
 bind (bop .str .neq y69 y56) fun y70=>
 ret [q18_0,y68,y69,y56,y70])) (c5 fun _ _ _ _ q71_4=>
 bind (pick y67 (Value.bool true) q71_4) fun y72=>
 cnd y72
 (ret (.ret (Value.bool false)))
 (bind (fa 1 q18_1) fun y73=>
 bind (ld1 y73) fun y74=>
 bind (bop .int .sub y74 (Value.int .u64 1)) fun y75=>
 bind (fa 1 q18_1) fun y76=>
 bind (st1 y76 y75) fun _=>
 bind (ldA 7 q18_1) fun y77=>
 bind (Γ ZR [q18_0,y77]) fun y78=>
 bind (Zm y78 0) fun y79=>
 bind (Zm y78 1) fun y80=>
 bind (alc 1 (.agg #[.int .i64 0,.slice none 0 0])) fun y81=>
 bind (stA 2 y81 y79) fun _=>
 bind (fa 1 q18_1) fun y82=>
 bind (ld1 y82) fun y83=>
 bind (bop .int .gtr y83 (Value.int .u64 0)) fun y84=>
 bind (gate y84 true 2 (ret [y80,y80])) (c2 fun _ q85_1=>
 bind (gate q85_1 false 3 (bind (fa 0 y81) fun y86=>
 bind (ld1 y86) fun y87=>
 bind (bop .int .neq y87 (Value.int .i64 12)) fun y88=>
 ret [y86,y87,y88])) (c3 fun _ _ q89_2=>
 bind (gate y84 true 1 (bind (pick q85_1 (Value.bool true) q89_2) fun y90=>
 ret [y90])) (c1 fun q91_0=>
 bind (pick y84 q91_0 (Value.bool false)) fun y92=>
 bind (gate y92 false 5 (bind (Γ Jt [q18_0]) fun y93=>
 bind (b2s y93) fun y94=>
 bind (bop .str .neq y94 y56) fun y95=>
 ret [q18_0,y93,y94,y56,y95])) (c5 fun _ _ _ _ q96_4=>
 bind (pick y92 (Value.bool true) q96_4) fun y97=>
 bind (gate y97 false 3 (bind (ldA 7 q18_1) fun y98=>
 bind (Γ Yk [q18_0,y98]) fun y99=>
 ret [q18_0,y98,y99])) (c3 fun _ _ q100_2=>
 bind (pick y97 (Value.bool true) q100_2) fun y101=>
 cnd y101
 (ret (.ret (Value.bool false)))
 (ret (.nrm [q18_0,q18_2,q18_3,q18_4])))))))))))))))))) noX ZF) (c4 fun q103_0 q103_1 q103_2 q103_3=>
 bind (bop .int .add q103_3 (Value.int .i64 1)) fun y104=>
 ret (.nrm [q103_0,q103_1,q103_2,y104])) noX ZF)
 (ret (.ext 0 []))
def ZiX (Γ:Zc) (x0:Value):M Value:=
 bind (Γ JN []) fun y1=>
 bind (uop .not y1) fun y2=>
 bind (gate y2 false 3 (bind (Γ W8 [x0]) fun y3=>
 bind (uop .not y3) fun y4=>
 ret [x0,y3,y4])) (c3 fun _ _ q5_2=>
 bind (pick y2 (Value.bool true) q5_2) fun y6=>
 cnd y6
 (bind (Γ JN []) fun y7=>
 ret y7)
 (bind (Γ ZbX [(Value.int .i64 3)]) fun y8=>
 bind (ZC x0) fun y9=>
 jn (Zi (c4 (ZiX.l1 Γ)) [y8,x0,y9,(Value.int .i64 0)]) noN (xk 0 (c0 (ret (Value.bool true))) noX) ret))
def ZdN.l1 (Γ:Zc) (s1 s2 s7 s39 s40 s41:Value):M Out:=
 bind (bop .int .lss s41 s40) fun y14=>
 cnd y14
 (bind (ixa 7 s39 s41) fun y15=>
 bind (ldA 7 y15) fun y16=>
 bind (alc 1 (.agg #[.int .u8 0,.int .u64 0,.int .u8 0,.string ⟨#[]⟩,.string ⟨#[]⟩,.int .u8 0,.int .u8 0])) fun y17=>
 bind (stA 7 y17 y16) fun _=>
 bind (ldA 7 y17) fun y18=>
 bind (Γ ZR [s7,y18]) fun y19=>
 bind (bop .int .add s41 (Value.int .i64 1)) fun y20=>
 ret (.nrm [s1,s2,s7,s39,s40,y20]))
 (ret (.ext 0 [s1,s2,s7]))
def ZdN.l2 (Γ:Zc) (s7 s10 s95 s96 s97:Value):M Out:=
 bind (bop .int .lss s97 s96) fun y52=>
 cnd y52
 (bind (ixa 7 s95 s97) fun y53=>
 bind (ldA 7 y53) fun y54=>
 bind (alc 1 (.agg #[.int .u8 0,.int .u64 0,.int .u8 0,.string ⟨#[]⟩,.string ⟨#[]⟩,.int .u8 0,.int .u8 0])) fun y55=>
 bind (stA 7 y55 y54) fun _=>
 bind (Γ QB [s7]) fun y56=>
 bind (ldA 7 y55) fun y57=>
 bind (Γ ZR [s7,y57]) fun y58=>
 bind (Zm y58 0) fun y59=>
 bind (Zm y58 1) fun y60=>
 bind (alc 1 (.agg #[.int .i64 0,.slice none 0 0])) fun y61=>
 bind (stA 2 y61 y59) fun _=>
 bind (ldA 7 y55) fun y62=>
 bind (Γ ZR [s10,y62]) fun y63=>
 bind (Zm y63 0) fun y64=>
 bind (Zm y63 1) fun y65=>
 bind (alc 1 (.agg #[.int .i64 0,.slice none 0 0])) fun y66=>
 bind (stA 2 y66 y64) fun _=>
 bind (bop .bool .neq y60 y65) fun y67=>
 bind (gateV y67 false (ldA 2 y61)) fun y68=>
 bind (gateV y67 false (ldA 2 y66)) fun y69=>
 bind (gateV y67 false (Γ Zbr [y68,y69])) fun y70=>
 bind (gateV y67 false (uop .not y70)) fun y71=>
 bind (pick y67 (Value.bool true) y71) fun y72=>
 bind (gateV y72 false (ret s7)) fun y73=>
 bind (gateV y72 false (ret s10)) fun y74=>
 bind (gateV y72 false (Γ Qf [y73])) fun y75=>
 bind (gateV y72 false (Γ Qf [y74])) fun y76=>
 bind (gateV y72 false (bop .int .neq y75 y76)) fun y77=>
 bind (pick y72 (Value.bool true) y77) fun y78=>
 bind (gateV y78 false (ret s7)) fun y79=>
 bind (gateV y78 false (ret s10)) fun y80=>
 bind (gateV y78 false (Γ Jt [y79])) fun y81=>
 bind (gateV y78 false (b2s y81)) fun y82=>
 bind (gateV y78 false (Γ Jt [y80])) fun y83=>
 bind (gateV y78 false (b2s y81)) fun u_84=>same u_84 y82 <|
 bind (gateV y78 false (b2s y83)) fun y85=>
 bind (gateV y78 false (bop .str .neq y82 y85)) fun y86=>
 bind (pick y78 (Value.bool true) y86) fun y87=>
 bind (gateV y87 false (ret s7)) fun y88=>
 bind (gateV y87 false (fa 0 y55)) fun y89=>
 bind (gateV y87 false (ld1 y89)) fun y90=>
 bind (gateV y87 false (ret s10)) fun y91=>
 bind (gateV y87 false (fa 0 y55)) fun y92=>
 bind (gateV y87 false (ld1 y92)) fun y93=>
 bind (gateV y87 false (Γ Jr [y88])) fun y94=>
 bind (gateV y87 false (ld1 y92)) fun u_95=>same u_95 y93 <|
 bind (gateV y87 false (ld1 y89)) fun u_96=>same u_96 y90 <|
 bind (gateV y87 false (Γ J0 [y94,y90])) fun y97=>
 bind (gateV y87 false (ld1 y92)) fun u_98=>same u_98 y93 <|
 bind (gateV y87 false (Γ Jr [y91])) fun y99=>
 bind (gateV y87 false (ld1 y92)) fun u_100=>same u_100 y93 <|
 bind (gateV y87 false (Γ J0 [y99,y93])) fun y101=>
 bind (gateV y87 false (bop .int .neq y97 y101)) fun y102=>
 bind (pick y87 (Value.bool true) y102) fun y103=>
 cnd y103
 (ret (.ret (Value.bool false)))
 (bind (ldA 7 y55) fun y104=>
 bind (Γ ZR [y56,y104]) fun y105=>
 bind (Zm y105 0) fun y106=>
 bind (Zm y105 1) fun y107=>
 bind (alc 1 (.agg #[.int .i64 0,.slice none 0 0])) fun y108=>
 bind (stA 2 y108 y106) fun _=>
 bind (bop .bool .neq y107 y60) fun y109=>
 bind (gateV y109 false (ldA 2 y108)) fun y110=>
 bind (gateV y109 false (ldA 2 y61)) fun y111=>
 bind (gateV y109 false (Γ Zbr [y110,y111])) fun y112=>
 bind (gateV y109 false (uop .not y112)) fun y113=>
 bind (pick y109 (Value.bool true) y113) fun y114=>
 bind (gateV y114 false (ret y56)) fun y115=>
 bind (gateV y114 false (ret s7)) fun y116=>
 bind (gateV y114 false (Γ Jt [y115])) fun y117=>
 bind (gateV y114 false (b2s y117)) fun y118=>
 bind (gateV y114 false (Γ Jt [y116])) fun y119=>
 bind (gateV y114 false (b2s y117)) fun u_120=>same u_120 y118 <|
 bind (gateV y114 false (b2s y119)) fun y121=>
 bind (gateV y114 false (bop .str .neq y118 y121)) fun y122=>
 bind (pick y114 (Value.bool true) y122) fun y123=>
 cnd y123
 (ret (.ret (Value.bool false)))
 (bind (bop .int .add s97 (Value.int .i64 1)) fun y124=>
 ret (.nrm [s7,s10,s95,s96,y124]))))
 (ret (.ext 2 []))
def ZdN (Γ:Zc) (x0 x1 x2:Value):M Value:=
 bind (Γ JN []) fun y1=>
 bind (uop .not y1) fun y2=>
 bind (gate y2 false 3 (bind (Γ W8 [x0]) fun y3=>
 bind (uop .not y3) fun y4=>
 ret [x0,y3,y4])) (c3 fun _ _ q5_2=>
 bind (pick y2 (Value.bool true) q5_2) fun y6=>
 bind (gate y6 false 3 (bind (Γ W8 [x1]) fun y7=>
 bind (uop .not y7) fun y8=>
 ret [x1,y7,y8])) (c3 fun _ _ q9_2=>
 bind (pick y6 (Value.bool true) q9_2) fun y10=>
 cnd y10
 (bind (Γ JN []) fun y11=>
 ret y11)
 (bind (Γ ZbX [(Value.int .i64 3)]) fun y12=>
 bind (ZC x0) fun y13=>
 jn (Zi (c6 (ZdN.l1 Γ)) [x1,x2,y12,x0,y13,(Value.int .i64 0)]) noN (xk 0 (c3 fun q22_0 q22_1 q22_2=>
 bind (Γ Qf [q22_2]) fun y23=>
 bind (Γ Jt [q22_2]) fun y24=>
 bind (Γ Jr [q22_2]) fun y25=>
 bind (Γ KU [q22_2]) fun y26=>
 bind (Γ ZpC [y23,y24,y25,y26]) fun y27=>
 bind (Zm y27 0) fun y28=>
 bind (Zm y27 1) fun y29=>
 bind (bop .int .neq y29 (Value.int .i64 0)) fun y30=>
 bind (gate y30 false 2 (bind (bop .ptr .eql y28 (Value.pointer none)) fun y31=>
 ret [y28,y31])) (c2 fun _ q32_1=>
 bind (pick y30 (Value.bool true) q32_1) fun y33=>
 cnd y33
 (ret (Value.bool false))
 (bind (Γ Qf [q22_2]) fun y34=>
 bind (bop .int .sub (Value.int .i64 3) y34) fun y35=>
 bind (Γ Jt [q22_2]) fun y36=>
 bind (Γ Jr [q22_2]) fun y37=>
 bind (Γ KU [q22_2]) fun y38=>
 bind (Γ ZpC [y35,y36,y37,y38]) fun y39=>
 bind (Zm y39 0) fun y40=>
 bind (Zm y39 1) fun y41=>
 bind (Γ Jt [q22_2]) fun y42=>
 bind (Γ Jr [q22_2]) fun y43=>
 bind (Γ ZpC [q22_1,y42,y43,(Value.pointer none)]) fun y44=>
 bind (Zm y44 0) fun y45=>
 bind (Zm y44 1) fun y46=>
 bind (bop .int .neq y41 (Value.int .i64 6)) fun y47=>
 bind (gate y47 false 2 (bind (bop .int .neq y46 (Value.int .i64 1)) fun y48=>
 ret [y46,y48])) (c2 fun _ q49_1=>
 bind (pick y47 (Value.bool true) q49_1) fun y50=>
 cnd y50
 (ret (Value.bool false))
 (bind (ZC q22_0) fun y51=>
 jn (Zi (c5 (ZdN.l2 Γ)) [q22_2,y28,q22_0,y51,(Value.int .i64 0)]) noN (xk 2 (c0 (ret (Value.bool true))) noX) ret))))) noX) ret)))
def Wx.l1 (Γ:Zc) (s0 s5 s6 s7:Value):M Out:=
 bind (bop .int .lss s7 s6) fun y2=>
 cnd y2
 (bind (ixa 7 s5 s7) fun y3=>
 bind (ldA 7 y3) fun y4=>
 bind (alc 1 (.agg #[.int .u8 0,.int .u64 0,.int .u8 0,.string ⟨#[]⟩,.string ⟨#[]⟩,.int .u8 0,.int .u8 0])) fun y5=>
 bind (stA 7 y5 y4) fun _=>
 bind (fa 2 y5) fun y6=>
 bind (fa 1 y6) fun y7=>
 bind (ld1 y7) fun y8=>
 bind (JM y8) fun y9=>
 bind (bop .int .gtr y9 (Value.int .i64 100)) fun y10=>
 bind (gate y10 false 5 (bind (fa 2 y5) fun y11=>
 bind (fa 2 y11) fun y12=>
 bind (ld1 y12) fun y13=>
 bind (JM y13) fun y14=>
 bind (bop .int .gtr y14 (Value.int .i64 100)) fun y15=>
 ret [y11,y12,y13,y14,y15])) (c5 fun _ _ _ _ q16_4=>
 bind (pick y10 (Value.bool true) q16_4) fun y17=>
 cnd y17
 (ret (.ret (Value.bool false)))
 (bind (bop .int .add s7 (Value.int .i64 1)) fun y18=>
 ret (.nrm [s0,s5,s6,y18]))))
 (ret (.ext 0 [s0]))
def Wx (Γ:Zc) (x0:Value):M Value:=
 bind (ZC x0) fun y1=>
 jn (Zi (c4 (Wx.l1 Γ)) [x0,x0,y1,(Value.int .i64 0)]) noN (xk 0 (c1 fun q20_0=>
 bind (ZC q20_0) fun y21=>
 bind (bop .int .leq y21 (Value.int .i64 60)) fun y22=>
 ret y22) noX) ret
theorem Zvj:RA1 W8 Wx:=ra1 Tryz.func10 (by kernel_rfl) fun _ _=>by kernel_rfl
def Zmf (Γ:Zc) (x0:Value):M Value:=
 bind (Γ ZdH [x0]) fun y1=>
 bind (bop .ptr .eql y1 (Value.pointer none)) fun y2=>
 cnd y2
 (ret (Value.pointer none))
 (bind (Γ Zdg []) fun y3=>
 bind (Γ Zca []) fun y4=>
 bind (bld (.agg #[.pointer none,.pointer none,.pointer none,.pointer none]) [(0,1,y3),(2,1,y4),(3,1,y1)]) fun y5=>
 bind (alc 1 y5) fun y6=>
 ret y6)
theorem ZwX:RA1 ZbX Zmf:=ra1 Tryz.func11 (by kernel_rfl) fun _ _=>by kernel_rfl
def Zdr (Γ:Zc) (x0:Value):M Value:=
 bind (Zz x0) fun y1=>
 bind (fa 1 y1) fun y2=>
 bind (ld1 y2) fun y3=>
 bind (bop .ptr .eql y3 (Value.pointer none)) fun y4=>
 cnd y4
 (ret (Value.int .i64 1))
 (ret (Value.int .i64 2))
theorem Zlz:RA1 Qf Zdr:=ra1 Tryz.func13 (by kernel_rfl) fun _ _=>by kernel_rfl
def Kg (Γ:Zc) (x0 x1:Value):M Value:=
 bind (alc 1 x1) fun y1=>
 bind (alc 1 (.agg #[.int .i64 0,.slice none 0 0])) fun y2=>
 bind (fa 0 y1) fun y3=>
 bind (ld1 y3) fun y4=>
 bind (bop .int .eql y4 (Value.int .u8 255)) fun y5=>
 cnd y5
 (bind (ldA 7 y1) fun y6=>
 bind (Γ Zam [x0,y6]) fun y7=>
 bind (Zm y7 0) fun y8=>
 bind (Zm y7 1) fun y9=>
 bind (stA 2 y2 y8) fun _=>
 bind (ldA 2 y2) fun y10=>
 ret (Value.tuple #[y10,y9]))
 (bind (Zz x0) fun y11=>
 bind (fa 2 y11) fun y12=>
 bind (ld1 y12) fun y13=>
 bind (fa 0 y1) fun y14=>
 bind (ld1 y14) fun y15=>
 bind (fa 1 y1) fun y16=>
 bind (ld1 y16) fun y17=>
 bind (Γ J9 [y13,y15,y17]) fun y18=>
 bind (bop .int .eql y18 (Value.int .i64 0)) fun y19=>
 cnd y19
 (bind (bld (.agg #[.int .i64 0,.slice none 0 0]) [(0,1,(Value.int .i64 1))]) fun y20=>
 bind (stA 2 y2 y20) fun _=>
 bind (ldA 2 y2) fun y21=>
 ret (Value.tuple #[y21,(Value.bool false)]))
 (bind (bop .int .eql y18 (Value.int .i64 1)) fun y22=>
 cnd y22
 (bind (bld (.agg #[.int .i64 0,.slice none 0 0]) [(0,1,(Value.int .i64 12))]) fun y23=>
 bind (stA 2 y2 y23) fun _=>
 bind (ldA 2 y2) fun y24=>
 ret (Value.tuple #[y24,(Value.bool false)]))
 (bind (bop .int .eql y18 (Value.int .i64 2)) fun y25=>
 cnd y25
 (bind (Zz x0) fun y26=>
 bind (fa 2 y26) fun y27=>
 bind (ld1 y27) fun y28=>
 bind (fa 0 y1) fun y29=>
 bind (ld1 y29) fun y30=>
 bind (Γ K2 [y28,y30]) fun y31=>
 bind (stA 2 y2 y31) fun _=>
 bind (ldA 2 y2) fun y32=>
 ret (Value.tuple #[y32,(Value.bool false)]))
 (bind (fa 2 y1) fun y33=>
 bind (ldA 5 y33) fun y34=>
 bind (Γ ZbO [x0,y34]) fun y35=>
 bind (alc 1 (.agg #[.int .i64 0,.slice none 0 0])) fun y36=>
 bind (stA 2 y36 y35) fun _=>
 bind (Zz x0) fun y37=>
 bind (fa 2 y37) fun y38=>
 bind (ld1 y38) fun y39=>
 bind (fa 0 y1) fun y40=>
 bind (ld1 y40) fun y41=>
 bind (fa 1 y1) fun y42=>
 bind (ld1 y42) fun y43=>
 bind (ldA 2 y36) fun y44=>
 bind (Γ Za8 [y39,y41,y43,y44]) fun y45=>
 bind (ldA 2 y36) fun y46=>
 bind (stA 2 y2 y46) fun _=>
 bind (ldA 2 y2) fun y47=>
 ret (Value.tuple #[y47,(Value.bool true)])))))
theorem ZgY:RA2 ZR Kg:=ra2 Tryz.func14 (by kernel_rfl) fun _ _ _=>by kernel_rfl
def Zag.l1 (Γ:Zc) (s1 s19 s20 s21:Value):M Out:=
 bind (bop .int .lss s21 s20) fun y18=>
 cnd y18
 (bind (ixa 1 s19 s21) fun y19=>
 bind (ld1 y19) fun y20=>
 bind (ldA 5 s1) fun y21=>
 bind (Γ ZfU [y21,y20]) fun y22=>
 bind (uop .not y22) fun y23=>
 cnd y23
 (ret (.ret (Value.int .i64 4)))
 (bind (bop .int .add s21 (Value.int .i64 1)) fun y24=>
 ret (.nrm [s1,s19,s20,y24])))
 (ret (.ext 0 [s1]))
def Zag (Γ:Zc) (x0:Value):M Value:=
 bind (alc 1 x0) fun y1=>
 bind (fa 0 y1) fun y2=>
 bind (ld1 y2) fun y3=>
 bind (cvi .i64 y3) fun y4=>
 bind (bop .int .geq y4 (Value.int .i64 17)) fun y5=>
 bind (gateV y5 false (ldA 5 y1)) fun y6=>
 bind (gateV y5 false (ldA 5 y1)) fun y7=>
 bind (gateV y5 false (Γ Zab [y7])) fun y8=>
 bind (gateV y5 false (ldA 5 y1)) fun u_9=>same u_9 y6 <|
 bind (gateV y5 false (bop (.flat [.int,.str,.str,.int,.int]) .neq y6 y8)) fun y10=>
 bind (pick y5 (Value.bool true) y10) fun y11=>
 cnd y11
 (ret (Value.int .i64 4))
 (bind (fa 0 y1) fun y12=>
 bind (ld1 y12) fun y13=>
 bind (WN 17 1 (Value.pointer (some ⟨0,0,none⟩)) y13) fun y14=>
 bind (ld1 y14) fun y15=>
 bind (s2b y15) fun y16=>
 bind (ZC y16) fun y17=>
 jn (Zi (c4 (Zag.l1 Γ)) [y1,y16,y17,(Value.int .i64 0)]) noN (xk 0 (c1 fun q26_0=>
 bind (fa 1 q26_0) fun y27=>
 bind (ld1 y27) fun y28=>
 bind (JM y28) fun y29=>
 bind (fa 2 q26_0) fun y30=>
 bind (ld1 y30) fun y31=>
 bind (JM y31) fun y32=>
 bind (bop .int .add y29 y32) fun y33=>
 bind (bop .int .gtr y33 (Value.int .i64 64)) fun y34=>
 bind (gate y34 false 4 (bind (ldA 5 q26_0) fun y35=>
 bind (Γ ZfY [y35]) fun y36=>
 bind (ZC y36) fun y37=>
 bind (bop .int .gtr y37 (Value.int .i64 64)) fun y38=>
 ret [y35,y36,y37,y38])) (c4 fun _ _ _ q39_3=>
 bind (pick y34 (Value.bool true) q39_3) fun y40=>
 cnd y40
 (ret (Value.int .i64 3))
 (ret (Value.int .i64 0)))) noX) ret)
theorem Zw9:RA1 ZbV Zag:=ra1 Tryz.func15 (by kernel_rfl) fun _ _=>by kernel_rfl
def ZeK (Γ:Zc) (x0:Value):M Value:=
 bind (Zz x0) fun y1=>
 bind (fa 2 y1) fun y2=>
 bind (ld1 y2) fun y3=>
 bind (Γ Wm [y3]) fun y4=>
 ret y4
theorem Zop:RA1 Jr ZeK:=ra1 Tryz.func17 (by kernel_rfl) fun _ _=>by kernel_rfl
def Zea (Γ:Zc) (x0 x1:Value):M Value:=
 bind (bop .int .geq x1 (Value.int .u8 8)) fun y1=>
 cnd y1
 (ret (Value.int .u64 0))
 (bind (Zz x0) fun y2=>
 bind (fa 0 y2) fun y3=>
 bind (WN 8 3 y3 x1) fun y4=>
 bind (fa 0 y4) fun y5=>
 bind (ld1 y5) fun y6=>
 ret y6)
theorem ZmV:RA2 J0 Zea:=ra2 Tryz.func18 (by kernel_rfl) fun _ _ _=>by kernel_rfl
def Zqi (Γ:Zc) (x0 x1:Value):M Value:=
 bind (alc 1 x0) fun y1=>
 bind (alc 1 x1) fun y2=>
 bind (fa 0 y1) fun y3=>
 bind (ld1 y3) fun y4=>
 bind (fa 0 y2) fun y5=>
 bind (ld1 y5) fun y6=>
 bind (bop .int .eql y4 y6) fun y7=>
 bind (gate y7 true 4 (bind (fa 0 y1) fun y8=>
 bind (ld1 y8) fun y9=>
 bind (bop .int .neq y9 (Value.int .i64 0)) fun y10=>
 ret [y8,y9,y10,y10])) (c4 fun _ _ _ q11_3=>
 bind (gate q11_3 false 5 (bind (fa 1 y1) fun y12=>
 bind (ld1 y12) fun y13=>
 bind (fa 1 y2) fun y14=>
 bind (ld1 y14) fun y15=>
 bind (Γ YH [y13,y15]) fun y16=>
 ret [y12,y13,y14,y15,y16])) (c5 fun _ _ _ _ q17_4=>
 bind (gate y7 true 1 (bind (pick q11_3 (Value.bool true) q17_4) fun y18=>
 ret [y18])) (c1 fun q19_0=>
 bind (pick y7 q19_0 (Value.bool false)) fun y20=>
 ret y20)))
theorem Zzl:RA2 Zbr Zqi:=ra2 Tryz.func19 (by kernel_rfl) fun _ _ _=>by kernel_rfl
def Yl (Γ:Zc) (x0 x1:Value):M Value:=
 bind (alc 1 x1) fun y1=>
 bind (Zz x0) fun y2=>
 bind (fa 1 y2) fun y3=>
 bind (ld1 y3) fun y4=>
 bind (bop .ptr .eql y4 (Value.pointer none)) fun y5=>
 bind (gateV y5 true (fa 0 y1)) fun y6=>
 bind (gateV y5 true (ld1 y6)) fun y7=>
 bind (gateV y5 true (bop .int .neq y7 (Value.int .u8 255))) fun y8=>
 bind (pick y5 y8 (Value.bool false)) fun y9=>
 bind (gateV y9 true (ret x0)) fun y10=>
 bind (gateV y9 true (Zz y10)) fun y11=>
 bind (gateV y9 true (fa 2 y11)) fun y12=>
 bind (gateV y9 true (ld1 y12)) fun y13=>
 bind (gateV y9 true (fa 0 y1)) fun y14=>
 bind (gateV y9 true (ld1 y14)) fun y15=>
 bind (gateV y9 true (fa 1 y1)) fun y16=>
 bind (gateV y9 true (ld1 y16)) fun y17=>
 bind (gateV y9 true (Γ J9 [y13,y15,y17])) fun y18=>
 bind (gateV y9 true (bop .int .eql y18 (Value.int .i64 3))) fun y19=>
 bind (pick y9 y19 (Value.bool false)) fun y20=>
 bind (gateV y20 true (fa 2 y1)) fun y21=>
 bind (gateV y20 true (ldA 5 y21)) fun y22=>
 bind (gateV y20 true (bld (.agg #[.int .u8 0,.string ⟨#[]⟩,.string ⟨#[]⟩,.int .u8 0,.int .u8 0]) [(0,1,(Value.int .u8 15))])) fun y23=>
 bind (gateV y20 true (bop (.flat [.int,.str,.str,.int,.int]) .eql y22 y23)) fun y24=>
 bind (pick y20 y24 (Value.bool false)) fun y25=>
 bind (gateV y25 true (ret x0)) fun y26=>
 bind (gateV y25 true (Zz y26)) fun y27=>
 bind (gateV y25 true (fa 3 y27)) fun y28=>
 bind (gateV y25 true (ld1 y28)) fun y29=>
 bind (gateV y25 true (Γ YW [y29,(Value.int .u8 2)])) fun y30=>
 bind (pick y25 y30 (Value.bool false)) fun y31=>
 ret y31
theorem Zkp:RA2 Yk Yl:=ra2 Tryz.func20 (by kernel_rfl) fun _ _ _=>by kernel_rfl
def ZeB (Γ:Zc) (x0:Value):M Value:=
 bind (Zz x0) fun y1=>
 bind (fa 3 y1) fun y2=>
 bind (ld1 y2) fun y3=>
 bind (Γ K9 [y3]) fun y4=>
 ret y4
theorem Zoz:RA1 KU ZeB:=ra1 Tryz.func27 (by kernel_rfl) fun _ _=>by kernel_rfl
def Zd8 (Γ:Zc) (x0 x1:Value):M Value:=
 bind (Γ W6 [x0,x1]) fun y1=>
 bind (ZC y1) fun y2=>
 bind (bop .int .eql y2 (Value.int .i64 0)) fun y3=>
 ret y3
theorem Znb:RA2 YW Zd8:=ra2 Tryz.func28 (by kernel_rfl) fun _ _ _=>by kernel_rfl
def ZfC (Γ:Zc) (x0:Value):M Value:=
 bind (Zz x0) fun y1=>
 bind (fa 2 y1) fun y2=>
 bind (ld1 y2) fun y3=>
 bind (Zz x0) fun y4=>
 bind (fa 3 y4) fun y5=>
 bind (ld1 y5) fun y6=>
 bind (Γ Wm [y3]) fun y7=>
 bind (ld1 y5) fun u_8=>same u_8 y6 <|
 bind (Γ K9 [y6]) fun y9=>
 bind (bld (.agg #[.pointer none,.pointer none,.pointer none,.pointer none]) [(2,1,y7),(3,1,y9)]) fun y10=>
 bind (alc 1 y10) fun y11=>
 bind (Zz x0) fun y12=>
 bind (fa 1 y12) fun y13=>
 bind (ld1 y13) fun y14=>
 bind (bop .ptr .eql y14 (Value.pointer none)) fun y15=>
 jn (cnd y15
 (bind (Zz x0) fun y16=>
 bind (fa 0 y16) fun y17=>
 bind (ld1 y17) fun y18=>
 bind (Γ Zaj [y18]) fun y19=>
 bind (Zz y11) fun y20=>
 bind (fa 0 y20) fun y21=>
 bind (st1 y21 y19) fun _=>
 ret (.nrm [y11]))
 (bind (Zz x0) fun y22=>
 bind (fa 1 y22) fun y23=>
 bind (ld1 y23) fun y24=>
 bind (Γ Zap [y24]) fun y25=>
 bind (Zz y11) fun y26=>
 bind (fa 1 y26) fun y27=>
 bind (st1 y27 y25) fun _=>
 ret (.nrm [y11]))) (c1 fun q28_0=>
 ret q28_0) noX ret
theorem Zp6:RA1 QB ZfC:=ra1 Tryz.func29 (by kernel_rfl) fun _ _=>by kernel_rfl
def ZoX (Γ:Zc) (x0:Value):M Value:=
 bind (bop .int .eql x0 (Value.int .i64 3)) fun y1=>
 jn (cnd y1
 (ret (.nrm [x0,y1]))
 (bind (bop .int .eql x0 (Value.int .i64 5)) fun y2=>
 jn (cnd y2
 (ret (.nrm [x0,y2]))
 (bind (bop .int .eql x0 (Value.int .i64 7)) fun y3=>
 ret (.nrm [x0,y3]))) (c2 fun q4_0 q4_1=>
 ret (.nrm [q4_0,q4_1])) noX ZF)) (c2 fun q6_0 q6_1=>
 cnd q6_1
 (bind (mks 1 1 (.int .u8 0) q6_0 q6_0) fun y7=>
 bind (bld (.agg #[.slice none 0 0]) [(0,1,y7)]) fun y8=>
 bind (alc 1 y8) fun y9=>
 ret y9)
 (ret (Value.pointer none))) noX ret
theorem Zut:RA1 ZdH ZoX:=ra1 Tryz.func31 (by kernel_rfl) fun _ _=>by kernel_rfl
def ZkP (Γ:Zc):M Value:=
 bind (mkm) fun y1=>
 bind (bld (.agg #[.map none]) [(0,1,y1)]) fun y2=>
 bind (alc 1 y2) fun y3=>
 ret y3
theorem Zwa:RA0 Zdg ZkP:=ra0 Tryz.func32 (by kernel_rfl) fun _=>by kernel_rfl
def Zrw (Γ:Zc):M Value:=
 bind (bld (.agg #[.int .u64 0,.int .i64 0,.slice none 0 0,.int .u64 0,.int .i64 0,.slice none 0 0,.int .u64 0,.int .i64 0,.slice none 0 0,.int .u64 0,.int .i64 0,.slice none 0 0,.int .u64 0,.int .i64 0,.slice none 0 0,.int .u64 0,.int .i64 0,.slice none 0 0,.int .u64 0,.int .i64 0,.slice none 0 0,.int .u64 0,.int .i64 0,.slice none 0 0]) []) fun y1=>
 bind (alc 1 y1) fun y2=>
 ret y2
theorem ZvS:RA0 Zca Zrw:=ra0 Tryz.func33 (by kernel_rfl) fun _=>by kernel_rfl
def Zo7.l1 (Γ:Zc) (s3 s16 s17 s18:Value):M Out:=
 bind (bop .int .lss s18 s17) fun y10=>
 cnd y10
 (bind (ixa 5 s16 s18) fun y11=>
 bind (ldA 5 y11) fun y12=>
 bind (alc 1 (.agg #[.string ⟨#[]⟩,.string ⟨#[]⟩,.string ⟨#[]⟩,.bool false,.slice none 0 0])) fun y13=>
 bind (stA 5 y13 y12) fun _=>
 bind (ldA 5 y13) fun y14=>
 bind (Γ Ztz [s3,(Value.int .i64 1),y14]) fun y15=>
 bind (bop .int .add s18 (Value.int .i64 1)) fun y16=>
 ret (.nrm [s3,s16,s17,y16]))
 (ret (.ext 0 [s3]))
def Zo7 (Γ:Zc) (x0:Value):M Value:=
 bind (bop .ptr .eql x0 (Value.pointer none)) fun y1=>
 cnd y1
 (ret (Value.slice none 0 0))
 (bind (bld (.agg #[.slice none 0 0]) []) fun y2=>
 bind (alc 1 y2) fun y3=>
 bind (Γ Jc [y3,(Value.int .u8 1)]) fun y4=>
 bind (Γ Zt5 [x0]) fun y5=>
 bind (cvi .u16 y5) fun y6=>
 bind (Γ KA [y4,y6]) fun y7=>
 bind (Γ ZaY [x0]) fun y8=>
 bind (ZC y8) fun y9=>
 jn (Zi (c4 (Zo7.l1 Γ)) [y7,y8,y9,(Value.int .i64 0)]) noN (xk 0 (c1 fun q18_0=>
 bind (Γ YT [q18_0]) fun y19=>
 ret y19) noX) ret)
def Zmh.l1 (Γ:Zc) (s3 s19 s20 s21:Value):M Out:=
 bind (bop .int .lss s21 s20) fun y12=>
 cnd y12
 (bind (ixa 5 s19 s21) fun y13=>
 bind (ldA 5 y13) fun y14=>
 bind (alc 1 (.agg #[.string ⟨#[]⟩,.string ⟨#[]⟩,.string ⟨#[]⟩,.bool false,.slice none 0 0])) fun y15=>
 bind (stA 5 y15 y14) fun _=>
 bind (ldA 5 y15) fun y16=>
 bind (Γ Ztz [s3,(Value.int .i64 2),y16]) fun y17=>
 bind (bop .int .add s21 (Value.int .i64 1)) fun y18=>
 ret (.nrm [s3,s19,s20,y18]))
 (ret (.ext 0 [s3]))
def Zmh (Γ:Zc) (x0:Value):M Value:=
 bind (bop .ptr .eql x0 (Value.pointer none)) fun y1=>
 cnd y1
 (ret (Value.slice none 0 0))
 (bind (bld (.agg #[.slice none 0 0]) []) fun y2=>
 bind (alc 1 y2) fun y3=>
 bind (Γ Jc [y3,(Value.int .u8 2)]) fun y4=>
 bind (Γ Zpt [x0]) fun y5=>
 bind (Γ Zp9 [y4,y5]) fun y6=>
 bind (Γ Zt7 [x0]) fun y7=>
 bind (cvi .u16 y7) fun y8=>
 bind (Γ KA [y6,y8]) fun y9=>
 bind (Γ Zuu [x0]) fun y10=>
 bind (ZC y10) fun y11=>
 jn (Zi (c4 (Zmh.l1 Γ)) [y9,y10,y11,(Value.int .i64 0)]) noN (xk 0 (c1 fun q20_0=>
 bind (Γ YT [q20_0]) fun y21=>
 ret y21) noX) ret)
def Wj (Γ:Zc) (x0 x1:Value):M Value:=
 bind (alc 1 x1) fun y1=>
 bind (alc 1 (.agg #[.int .i64 0,.slice none 0 0])) fun y2=>
 bind (fa 1 y1) fun y3=>
 bind (ld1 y3) fun y4=>
 bind (bop .int .neq y4 (Value.int .u64 0)) fun y5=>
 bind (gate y5 false 4 (bind (fa 2 y1) fun y6=>
 bind (fa 0 y6) fun y7=>
 bind (ld1 y7) fun y8=>
 bind (bop .int .neq y8 (Value.int .u8 16)) fun y9=>
 ret [y6,y7,y8,y9])) (c4 fun _ _ _ q10_3=>
 bind (pick y5 (Value.bool true) q10_3) fun y11=>
 bind (gate y11 false 4 (bind (fa 2 y1) fun y12=>
 bind (ldA 5 y12) fun y13=>
 bind (Γ ZbV [y13]) fun y14=>
 bind (bop .int .neq y14 (Value.int .i64 0)) fun y15=>
 ret [y12,y13,y14,y15])) (c4 fun _ _ _ q16_3=>
 bind (pick y11 (Value.bool true) q16_3) fun y17=>
 cnd y17
 (bind (bld (.agg #[.int .i64 0,.slice none 0 0]) [(0,1,(Value.int .i64 1))]) fun y18=>
 bind (stA 2 y2 y18) fun _=>
 bind (ldA 2 y2) fun y19=>
 ret (Value.tuple #[y19,(Value.bool false)]))
 (bind (Zz x0) fun y20=>
 bind (fa 3 y20) fun y21=>
 bind (ld1 y21) fun y22=>
 bind (fa 2 y1) fun y23=>
 bind (fa 3 y23) fun y24=>
 bind (ld1 y24) fun y25=>
 bind (fa 2 y1) fun y26=>
 bind (fa 4 y26) fun y27=>
 bind (ld1 y27) fun y28=>
 bind (Γ WS [y22,y25,y28]) fun y29=>
 bind (bld (.agg #[.int .i64 0,.slice none 0 0]) [(0,1,y29)]) fun y30=>
 bind (stA 2 y2 y30) fun _=>
 bind (ldA 2 y2) fun y31=>
 ret (Value.tuple #[y31,(Value.bool true)]))))
theorem Zqg:RA2 Zam Wj:=ra2 Tryz.func36 (by kernel_rfl) fun _ _ _=>by kernel_rfl
def Zdu (Γ:Zc) (x0 x1 x2:Value):M Value:=
 bind (bop .int .geq x1 (Value.int .u8 8)) fun y1=>
 bind (gate y1 false 2 (bind (bop .int .eql x2 (Value.int .u64 0)) fun y2=>
 ret [x2,y2])) (c2 fun _ q3_1=>
 bind (pick y1 (Value.bool true) q3_1) fun y4=>
 bind (gate y4 false 2 (bind (bop .int .gtr x2 (Value.int .u64 1099511627776)) fun y5=>
 ret [x2,y5])) (c2 fun _ q6_1=>
 bind (pick y4 (Value.bool true) q6_1) fun y7=>
 cnd y7
 (ret (Value.int .i64 0))
 (bind (Zz x0) fun y8=>
 bind (fa 0 y8) fun y9=>
 bind (WN 8 3 y9 x1) fun y10=>
 bind (fa 0 y10) fun y11=>
 bind (ld1 y11) fun y12=>
 bind (Γ WA [x2,y12]) fun y13=>
 bind (bop .int .add (Value.int .i64 2) y13) fun y14=>
 ret y14)))
theorem Zlt:RA3 J9 Zdu:=ra3 Tryz.func37 (by kernel_rfl) fun _ _ _ _=>by kernel_rfl
def Zdz (Γ:Zc) (x0 x1:Value):M Value:=
 bind (alc 1 (.agg #[.int .i64 0,.slice none 0 0])) fun y1=>
 bind (bop .int .geq x1 (Value.int .u8 8)) fun y2=>
 cnd y2
 (bind (bld (.agg #[.int .i64 0,.slice none 0 0]) []) fun y3=>
 bind (stA 2 y1 y3) fun _=>
 bind (ldA 2 y1) fun y4=>
 ret y4)
 (bind (Zz x0) fun y5=>
 bind (fa 0 y5) fun y6=>
 bind (WN 8 3 y6 x1) fun y7=>
 bind (fa 1 y7) fun y8=>
 bind (ldA 2 y8) fun y9=>
 bind (Γ WF [y9]) fun y10=>
 bind (stA 2 y1 y10) fun _=>
 bind (ldA 2 y1) fun y11=>
 ret y11)
theorem ZlJ:RA2 K2 Zdz:=ra2 Tryz.func38 (by kernel_rfl) fun _ _ _=>by kernel_rfl
def ZaE (Γ:Zc) (x0 x1:Value):M Value:=
 bind (alc 1 x1) fun y1=>
 bind (alc 1 (.agg #[.int .i64 0,.slice none 0 0])) fun y2=>
 bind (ldA 5 y1) fun y3=>
 bind (Γ ZbV [y3]) fun y4=>
 bind (bop .int .neq y4 (Value.int .i64 0)) fun y5=>
 cnd y5
 (bind (bld (.agg #[.int .i64 0,.slice none 0 0]) [(0,1,y4)]) fun y6=>
 bind (stA 2 y2 y6) fun _=>
 bind (ldA 2 y2) fun y7=>
 ret y7)
 (bind (ldA 5 y1) fun y8=>
 bind (Γ Wl [x0,y8]) fun y9=>
 bind (Zm y9 0) fun y10=>
 bind (Zm y9 1) fun y11=>
 bind (Zm y9 2) fun y12=>
 bind (uop .not y12) fun y13=>
 bind (gate y13 true 5 (bind (Zz x0) fun y14=>
 bind (fa 1 y14) fun y15=>
 bind (ld1 y15) fun y16=>
 bind (bop .ptr .eql y16 (Value.pointer none)) fun y17=>
 ret [x0,y14,y15,y16,y17])) (c5 fun _ _ _ _ q18_4=>
 bind (pick y13 q18_4 (Value.bool false)) fun y19=>
 jn (cnd y19
 (ret (.nrm [y2,y10,(Value.int .i64 6)]))
 (bind (uop .not y12) fun y20=>
 jn (cnd y20
 (bind (ldA 5 y1) fun y21=>
 bind (Γ Ws [x0,y21]) fun y22=>
 bind (Zm y22 0) fun y23=>
 bind (Zm y22 1) fun y24=>
 ret (.nrm [y2,y23,y24]))
 (ret (.nrm [y2,y10,y11]))) (c3 fun q25_0 q25_1 q25_2=>
 ret (.nrm [q25_0,q25_1,q25_2])) noX ZF)) (c3 fun q27_0 q27_1 q27_2=>
 bind (bop .int .neq q27_2 (Value.int .i64 0)) fun y28=>
 cnd y28
 (bind (bld (.agg #[.int .i64 0,.slice none 0 0]) [(0,1,q27_2)]) fun y29=>
 bind (stA 2 q27_0 y29) fun _=>
 bind (ldA 2 q27_0) fun y30=>
 ret y30)
 (bind (bld (.agg #[.int .i64 0,.slice none 0 0]) [(1,1,q27_1)]) fun y31=>
 bind (stA 2 q27_0 y31) fun _=>
 bind (ldA 2 q27_0) fun y32=>
 ret y32)) noX ret))
theorem Zsc:RA2 ZbO ZaE:=ra2 Tryz.func39 (by kernel_rfl) fun _ _ _=>by kernel_rfl
def Zfa (Γ:Zc) (x0 x1 x2 x3:Value):M Value:=
 bind (alc 1 x3) fun y1=>
 bind (Γ J9 [x0,x1,x2]) fun y2=>
 bind (bop .int .eql y2 (Value.int .i64 0)) fun y3=>
 cnd y3
 (ret (Value.int .i64 1))
 (bind (bop .int .eql y2 (Value.int .i64 3)) fun y4=>
 cnd y4
 (bind (ldA 2 y1) fun y5=>
 bind (Zz x0) fun y6=>
 bind (fa 0 y6) fun y7=>
 bind (Γ WF [y5]) fun y8=>
 bind (bld (.agg #[.int .u64 0,.int .i64 0,.slice none 0 0]) [(0,1,x2),(1,2,y8)]) fun y9=>
 bind (WN 8 3 y7 x1) fun y10=>
 bind (stA 3 y10 y9) fun _=>
 ret (Value.int .i64 0))
 (ret (Value.int .i64 12)))
theorem Zow:RA4 Za8 Zfa:=ra4 Tryz.func40 (by kernel_rfl) fun _ _ _ _ _=>by kernel_rfl
def Zrp.l1 (Γ:Zc) (s1 s2 s3 s13:Value):M Out:=
 bind (Zh9 s13) fun y12=>
 bind (Zm y12 0) fun y13=>
 cnd y13
 (bind (Zm y12 2) fun y14=>
 bind (bop .int .eql y14 (Value.int .i32 97)) fun y15=>
 jn (cnd y15
 (bind (fa 1 s1) fun y16=>
 bind (ld1 y16) fun y17=>
 bind (fa 1 s3) fun y18=>
 bind (st1 y18 y17) fun _=>
 ret (.nrm [s1,s2,s3,s13]))
 (bind (bop .int .eql y14 (Value.int .i32 98)) fun y19=>
 jn (cnd y19
 (bind (fa 2 s1) fun y20=>
 bind (ld1 y20) fun y21=>
 bind (fa 2 s3) fun y22=>
 bind (st1 y22 y21) fun _=>
 ret (.nrm [s1,s2,s3,s13]))
 (bind (bop .int .eql y14 (Value.int .i32 110)) fun y23=>
 jn (cnd y23
 (bind (fa 3 s1) fun y24=>
 bind (ld1 y24) fun y25=>
 bind (fa 3 s3) fun y26=>
 bind (st1 y26 y25) fun _=>
 ret (.nrm [s1,s2,s3,s13]))
 (bind (bop .int .eql y14 (Value.int .i32 114)) fun y27=>
 jn (cnd y27
 (bind (fa 4 s1) fun y28=>
 bind (ld1 y28) fun y29=>
 bind (fa 4 s3) fun y30=>
 bind (st1 y30 y29) fun _=>
 ret (.nrm [s1,s2,s3,s13]))
 (ret (.nrm [s1,s2,s3,s13]))) (c4 fun q31_0 q31_1 q31_2 q31_3=>
 ret (.nrm [q31_0,q31_1,q31_2,q31_3])) noX ZF)) (c4 fun q33_0 q33_1 q33_2 q33_3=>
 ret (.nrm [q33_0,q33_1,q33_2,q33_3])) noX ZF)) (c4 fun q35_0 q35_1 q35_2 q35_3=>
 ret (.nrm [q35_0,q35_1,q35_2,q35_3])) noX ZF)) (c4 fun q37_0 q37_1 q37_2 q37_3=>
 ret (.nrm [q37_0,q37_1,q37_2,q37_3])) noX ZF)
 (ret (.ext 0 [s2,s3]))
def Zrp (Γ:Zc) (x0:Value):M Value:=
 bind (alc 1 x0) fun y1=>
 bind (alc 1 (.agg #[.int .u8 0,.string ⟨#[]⟩,.string ⟨#[]⟩,.int .u8 0,.int .u8 0])) fun y2=>
 bind (fa 0 y1) fun y3=>
 bind (ld1 y3) fun y4=>
 bind (bld (.agg #[.int .u8 0,.string ⟨#[]⟩,.string ⟨#[]⟩,.int .u8 0,.int .u8 0]) [(0,1,y4)]) fun y5=>
 bind (alc 1 (.agg #[.int .u8 0,.string ⟨#[]⟩,.string ⟨#[]⟩,.int .u8 0,.int .u8 0])) fun y6=>
 bind (stA 5 y6 y5) fun _=>
 bind (fa 0 y1) fun y7=>
 bind (ld1 y7) fun y8=>
 bind (WN 17 1 (Value.pointer (some ⟨0,0,none⟩)) y8) fun y9=>
 bind (ld1 y9) fun y10=>
 bind (Zmn y10) fun y11=>
 jn (Zi (c4 (Zrp.l1 Γ)) [y1,y2,y6,y11]) noN (xk 0 (c2 fun q40_0 q40_1=>
 bind (ldA 5 q40_1) fun y41=>
 bind (stA 5 q40_0 y41) fun _=>
 bind (ldA 5 q40_0) fun y42=>
 ret y42) noX) ret
def Zjg (Γ:Zc) (x0 x1:Value):M Value:=
 bind (alc 1 x0) fun y1=>
 bind (bop .int .eql x1 (Value.int .u8 110)) fun y2=>
 cnd y2
 (bind (fa 3 y1) fun y3=>
 bind (ld1 y3) fun y4=>
 bind (bop .int .lss y4 (Value.int .u8 7)) fun y5=>
 ret y5)
 (bind (bop .int .eql x1 (Value.int .u8 114)) fun y6=>
 cnd y6
 (bind (fa 4 y1) fun y7=>
 bind (ld1 y7) fun y8=>
 bind (bop .int .geq y8 (Value.int .u8 1)) fun y9=>
 bind (gate y9 true 3 (bind (fa 4 y1) fun y10=>
 bind (ld1 y10) fun y11=>
 bind (bop .int .leq y11 (Value.int .u8 3)) fun y12=>
 ret [y10,y11,y12])) (c3 fun _ _ q13_2=>
 bind (pick y9 q13_2 (Value.bool false)) fun y14=>
 ret y14))
 (ret (Value.bool true)))
theorem ZuB:RA2 ZfU Zjg:=ra2 Tryz.func42 (by kernel_rfl) fun _ _ _=>by kernel_rfl
def Wu.l1 (Γ:Zc) (s1 s3 s15:Value):M Out:=
 bind (Zh9 s15) fun y12=>
 bind (Zm y12 0) fun y13=>
 cnd y13
 (bind (Zm y12 2) fun y14=>
 bind (bop .int .eql y14 (Value.int .i32 97)) fun y15=>
 jn (cnd y15
 (bind (fa 1 s1) fun y16=>
 bind (ld1 y16) fun y17=>
 bind (Γ Kb [s3,y17]) fun y18=>
 ret (.nrm [s1,s3,s15]))
 (bind (bop .int .eql y14 (Value.int .i32 98)) fun y19=>
 jn (cnd y19
 (bind (fa 2 s1) fun y20=>
 bind (ld1 y20) fun y21=>
 bind (Γ Kb [s3,y21]) fun y22=>
 ret (.nrm [s1,s3,s15]))
 (bind (bop .int .eql y14 (Value.int .i32 110)) fun y23=>
 jn (cnd y23
 (bind (fa 3 s1) fun y24=>
 bind (ld1 y24) fun y25=>
 bind (Γ Jc [s3,y25]) fun y26=>
 ret (.nrm [s1,s3,s15]))
 (bind (bop .int .eql y14 (Value.int .i32 114)) fun y27=>
 jn (cnd y27
 (bind (fa 4 s1) fun y28=>
 bind (ld1 y28) fun y29=>
 bind (Γ Jc [s3,y29]) fun y30=>
 ret (.nrm [s1,s3,s15]))
 (ret (.nrm [s1,s3,s15]))) (c3 fun q31_0 q31_1 q31_2=>
 ret (.nrm [q31_0,q31_1,q31_2])) noX ZF)) (c3 fun q33_0 q33_1 q33_2=>
 ret (.nrm [q33_0,q33_1,q33_2])) noX ZF)) (c3 fun q35_0 q35_1 q35_2=>
 ret (.nrm [q35_0,q35_1,q35_2])) noX ZF)) (c3 fun q37_0 q37_1 q37_2=>
 ret (.nrm [q37_0,q37_1,q37_2])) noX ZF)
 (ret (.ext 0 [s3]))
def Wu (Γ:Zc) (x0:Value):M Value:=
 bind (alc 1 x0) fun y1=>
 bind (bld (.agg #[.slice none 0 0]) []) fun y2=>
 bind (alc 1 y2) fun y3=>
 bind (fa 0 y1) fun y4=>
 bind (ld1 y4) fun y5=>
 bind (Γ Jc [y3,y5]) fun y6=>
 bind (fa 0 y1) fun y7=>
 bind (ld1 y7) fun y8=>
 bind (WN 17 1 (Value.pointer (some ⟨0,0,none⟩)) y8) fun y9=>
 bind (ld1 y9) fun y10=>
 bind (Zmn y10) fun y11=>
 jn (Zi (c3 (Wu.l1 Γ)) [y1,y6,y11]) noN (xk 0 (c1 fun q40_0=>
 bind (Γ YT [q40_0]) fun y41=>
 ret y41) noX) ret
theorem Zum:RA1 ZfY Wu:=ra1 Tryz.func43 (by kernel_rfl) fun _ _=>by kernel_rfl
def Yr.l1 (Γ:Zc) (s3 s10 s11:Value):M Out:=
 bind (bop .int .lss s11 (Value.int .i64 8)) fun y5=>
 cnd y5
 (bind (ixv true 8 3 s10 s11) fun y6=>
 bind (alc 1 (.agg #[.int .u64 0,.int .i64 0,.slice none 0 0])) fun y7=>
 bind (stA 3 y7 y6) fun _=>
 bind (fa 0 y7) fun y8=>
 bind (ld1 y8) fun y9=>
 bind (fa 1 y7) fun y10=>
 bind (ldA 2 y10) fun y11=>
 bind (Zz s3) fun y12=>
 bind (fa 0 y12) fun y13=>
 bind (Γ WF [y11]) fun y14=>
 bind (ld1 y8) fun u_15=>same u_15 y9 <|
 bind (bld (.agg #[.int .u64 0,.int .i64 0,.slice none 0 0]) [(0,1,y9),(1,2,y14)]) fun y16=>
 bind (WN 8 3 y13 s11) fun y17=>
 bind (stA 3 y17 y16) fun _=>
 bind (bop .int .add s11 (Value.int .i64 1)) fun y18=>
 ret (.nrm [s3,s10,y18]))
 (ret (.ext 0 [s3]))
def Yr (Γ:Zc) (x0:Value):M Value:=
 bind (Γ Zca []) fun y1=>
 bind (Zz x0) fun y2=>
 bind (fa 0 y2) fun y3=>
 bind (ldA 24 y3) fun y4=>
 jn (Zi (c3 (Yr.l1 Γ)) [y1,y4,(Value.int .i64 0)]) noN (xk 0 (c1 fun q20_0=>
 ret q20_0) noX) ret
theorem Zml:RA1 Wm Yr:=ra1 Tryz.func44 (by kernel_rfl) fun _ _=>by kernel_rfl
def QE.l1 (Γ:Zc) (s0 s1 s12 s13:Value):M Out:=
 bind (bop .int .lss s13 s12) fun y5=>
 cnd y5
 (bind (ixa 1 s0 s13) fun y6=>
 bind (ld1 y6) fun y7=>
 bind (ixa 1 s1 s13) fun y8=>
 bind (ld1 y8) fun y9=>
 bind (bop .str .neq y7 y9) fun y10=>
 cnd y10
 (ret (.ret (Value.bool false)))
 (bind (bop .int .add s13 (Value.int .i64 1)) fun y11=>
 ret (.nrm [s0,s1,s12,y11])))
 (ret (.ext 0 []))
def QE (Γ:Zc) (x0 x1:Value):M Value:=
 bind (ZC x0) fun y1=>
 bind (ZC x1) fun y2=>
 bind (bop .int .neq y1 y2) fun y3=>
 cnd y3
 (ret (Value.bool false))
 (bind (ZC x0) fun y4=>
 jn (Zi (c4 (QE.l1 Γ)) [x0,x1,y4,(Value.int .i64 0)]) noN (xk 0 (c0 (ret (Value.bool true))) noX) ret)
theorem Zgz:RA2 YH QE:=ra2 Tryz.func45 (by kernel_rfl) fun _ _ _=>by kernel_rfl
def ZhF.l1 (Γ:Zc) (s0 s1 s12 s13:Value):M Out:=
 bind (bop .int .lss s13 s12) fun y5=>
 cnd y5
 (bind (ixa 1 s0 s13) fun y6=>
 bind (ld1 y6) fun y7=>
 bind (ixa 1 s1 s13) fun y8=>
 bind (ld1 y8) fun y9=>
 bind (bop .str .neq y7 y9) fun y10=>
 cnd y10
 (ret (.ret (Value.bool false)))
 (bind (bop .int .add s13 (Value.int .i64 1)) fun y11=>
 ret (.nrm [s0,s1,s12,y11])))
 (ret (.ext 0 []))
def ZhF (Γ:Zc) (x0 x1:Value):M Value:=
 bind (ZC x0) fun y1=>
 bind (ZC x1) fun y2=>
 bind (bop .int .neq y1 y2) fun y3=>
 cnd y3
 (ret (Value.bool false))
 (bind (ZC x0) fun y4=>
 jn (Zi (c4 (ZhF.l1 Γ)) [x0,x1,y4,(Value.int .i64 0)]) noN (xk 0 (c0 (ret (Value.bool true))) noX) ret)
def Zo2.l1 (Γ:Zc) (s0 s3 s7:Value):M Out:=
 bind (bop .int .lss s7 (Value.int .u8 8)) fun y2=>
 cnd y2
 (bind (Γ K2 [s0,s7]) fun y3=>
 bind (alc 1 (.agg #[.int .i64 0,.slice none 0 0])) fun y4=>
 bind (stA 2 y4 y3) fun _=>
 bind (WN 8 3 s3 s7) fun y5=>
 bind (fa 0 y5) fun y6=>
 bind (ld1 y6) fun y7=>
 bind (Γ J0 [s0,s7]) fun y8=>
 bind (ld1 y6) fun u_9=>same u_9 y7 <|
 bind (bop .int .neq y8 y7) fun y10=>
 bind (gateV y10 false (fa 0 y4)) fun y11=>
 bind (gateV y10 false (ld1 y11)) fun y12=>
 bind (gateV y10 false (ret s7)) fun y13=>
 bind (gateV y10 false (WN 8 3 s3 y13)) fun y14=>
 bind (gateV y10 false (fa 1 y14)) fun y15=>
 bind (gateV y10 false (fa 0 y15)) fun y16=>
 bind (gateV y10 false (ld1 y16)) fun y17=>
 bind (gateV y10 false (bop .int .neq y12 y17)) fun y18=>
 bind (pick y10 (Value.bool true) y18) fun y19=>
 bind (gateV y19 false (fa 1 y4)) fun y20=>
 bind (gateV y19 false (ld1 y20)) fun y21=>
 bind (gateV y19 false (ret s7)) fun y22=>
 bind (gateV y19 false (WN 8 3 s3 y22)) fun y23=>
 bind (gateV y19 false (fa 1 y23)) fun y24=>
 bind (gateV y19 false (fa 1 y24)) fun y25=>
 bind (gateV y19 false (ld1 y25)) fun y26=>
 bind (gateV y19 false (Γ ZpZ [y21,y26])) fun y27=>
 bind (gateV y19 false (uop .not y27)) fun y28=>
 bind (pick y19 (Value.bool true) y28) fun y29=>
 cnd y29
 (ret (.ret (Value.bool false)))
 (bind (bop .int .add s7 (Value.int .u8 1)) fun y30=>
 ret (.nrm [s0,s3,y30])))
 (ret (.ext 0 [s0,s3]))
def Zo2 (Γ:Zc) (x0 x1:Value):M Value:=
 bind (alc 3 x1) fun y1=>
 jn (Zi (c3 (Zo2.l1 Γ)) [x0,y1,(Value.int .u8 0)]) noN (xk 0 (c2 fun q32_0 q32_1=>
 bind (ldA 24 q32_1) fun y33=>
 bind (Γ ZwJ [q32_0]) fun y34=>
 bind (ldA 24 q32_1) fun u_35=>same u_35 y33 <|
 bind (Γ Zxx [y33]) fun y36=>
 bind (bop .str .eql y34 y36) fun y37=>
 ret y37) noX) ret
def Zo1.l1 (Γ:Zc) (s0 s3 s19:Value):M Out:=
 bind (bop .int .lss s19 (Value.int .u8 8)) fun y14=>
 cnd y14
 (bind (cvi .i64 s19) fun y15=>
 bind (fa 0 s3) fun y16=>
 bind (ld1 y16) fun y17=>
 bind (bop .int .lss y15 y17) fun y18=>
 jn (cnd y18
 (bind (fa 1 s3) fun y19=>
 bind (WN 7 1 y19 s19) fun y20=>
 bind (ld1 y20) fun y21=>
 ret (.nrm [s0,s3,s19,y21,s19]))
 (ret (.nrm [s0,s3,s19,(Value.int .u8 0),s19]))) (c5 fun q22_0 q22_1 q22_2 q22_3 q22_4=>
 bind (Γ Zro [q22_0,q22_2]) fun y23=>
 bind (bop .int .neq y23 q22_3) fun y24=>
 cnd y24
 (ret (.ret (Value.bool false)))
 (bind (bop .int .add q22_4 (Value.int .u8 1)) fun y25=>
 ret (.nrm [q22_0,q22_1,y25]))) noX ZF)
 (ret (.ext 0 []))
def Zo1 (Γ:Zc) (x0 x1:Value):M Value:=
 bind (alc 1 x1) fun y1=>
 bind (fa 0 y1) fun y2=>
 bind (ld1 y2) fun y3=>
 bind (Γ Zm7 [x0]) fun y4=>
 bind (ld1 y2) fun u_5=>same u_5 y3 <|
 bind (bop .int .neq y4 y3) fun y6=>
 bind (gateV y6 false (ret x0)) fun y7=>
 bind (gateV y6 false (ldA 8 y1)) fun y8=>
 bind (gateV y6 false (Γ Zvk [y7])) fun y9=>
 bind (gateV y6 false (ldA 8 y1)) fun u_10=>same u_10 y8 <|
 bind (gateV y6 false (Γ Zxk [y8])) fun y11=>
 bind (gateV y6 false (bop .str .neq y9 y11)) fun y12=>
 bind (pick y6 (Value.bool true) y12) fun y13=>
 cnd y13
 (ret (Value.bool false))
 (jn (Zi (c3 (Zo1.l1 Γ)) [x0,y1,(Value.int .u8 0)]) noN (xk 0 (c0 (ret (Value.bool true))) noX) ret)
def Zdo (Γ:Zc) (x0:Value):M Value:=
 bind (Zz x0) fun y1=>
 bind (fa 0 y1) fun y2=>
 bind (ld1 y2) fun y3=>
 bind (Γ Jk [y3]) fun y4=>
 bind (bld (.agg #[.slice none 0 0]) [(0,1,y4)]) fun y5=>
 bind (alc 1 y5) fun y6=>
 ret y6
theorem ZlA:RA1 K9 Zdo:=ra1 Tryz.func55 (by kernel_rfl) fun _ _=>by kernel_rfl
def Q2.l1 (Γ:Zc) (s1 s5 s11 s12 s13:Value):M Out:=
 bind (bop .int .lss s13 s12) fun y5=>
 cnd y5
 (bind (ixa 1 s11 s13) fun y6=>
 bind (ld1 y6) fun y7=>
 bind (Γ ZdG [y7,s1]) fun y8=>
 bind (uop .not y8) fun y9=>
 jn (cnd y9
 (bind (cvi .u8 s13) fun y10=>
 bind (bsl 1 1 (.int .u8 0) [(0,1,y10)]) fun y11=>
 bind (app 1 1 s5 y11) fun y12=>
 ret (.nrm [s1,y12,s11,s12,s13]))
 (ret (.nrm [s1,s5,s11,s12,s13]))) (c5 fun q13_0 q13_1 q13_2 q13_3 q13_4=>
 bind (bop .int .add q13_4 (Value.int .i64 1)) fun y14=>
 ret (.nrm [q13_0,q13_1,q13_2,q13_3,y14])) noX ZF)
 (ret (.ext 0 [s5]))
def Q2 (Γ:Zc) (x0 x1:Value):M Value:=
 bind (Zz x0) fun y1=>
 bind (fa 0 y1) fun y2=>
 bind (ld1 y2) fun y3=>
 bind (ZC y3) fun y4=>
 jn (Zi (c5 (Q2.l1 Γ)) [x1,(Value.slice none 0 0),y3,y4,(Value.int .i64 0)]) noN (xk 0 (c1 fun q17_0=>
 ret q17_0) noX) ret
theorem Zja:RA2 W6 Q2:=ra2 Tryz.func56 (by kernel_rfl) fun _ _ _=>by kernel_rfl
def Zfs (Γ:Zc) (x0:Value):M Value:=
 bind (Zz x0) fun y1=>
 bind (fa 0 y1) fun y2=>
 bind (ld1 y2) fun y3=>
 bind (Γ ZQ [y3]) fun y4=>
 bind (bld (.agg #[.map none]) [(0,1,y4)]) fun y5=>
 bind (alc 1 y5) fun y6=>
 ret y6
theorem ZpM:RA1 Zaj Zfs:=ra1 Tryz.func57 (by kernel_rfl) fun _ _=>by kernel_rfl
def ZfN (Γ:Zc) (x0:Value):M Value:=
 bind (Zz x0) fun y1=>
 bind (fa 0 y1) fun y2=>
 bind (ld1 y2) fun y3=>
 bind (Zz x0) fun y4=>
 bind (fa 1 y4) fun y5=>
 bind (ld1 y5) fun y6=>
 bind (Zz x0) fun y7=>
 bind (fa 2 y7) fun y8=>
 bind (ld1 y8) fun y9=>
 bind (Γ Jh [y3]) fun y10=>
 bind (ld1 y8) fun u_11=>same u_11 y9 <|
 bind (ld1 y5) fun u_12=>same u_12 y6 <|
 bind (Γ Zbf [y6]) fun y13=>
 bind (ld1 y8) fun u_14=>same u_14 y9 <|
 bind (Γ WW [y9]) fun y15=>
 bind (bld (.agg #[.map none,.pointer none,.pointer none]) [(0,1,y10),(1,1,y13),(2,1,y15)]) fun y16=>
 bind (alc 1 y16) fun y17=>
 ret y17
theorem Zpp:RA1 Zap ZfN:=ra1 Tryz.func58 (by kernel_rfl) fun _ _=>by kernel_rfl
def Zrz.l1 (Γ:Zc) (s4 s7 s29 s30:Value):M Out:=
 bind (bop .int .lss s30 s29) fun y13=>
 cnd y13
 (bind (Γ Ztn [s4,(Value.int .i64 1)]) fun y14=>
 bind (bsl 5 1 (.agg #[.string ⟨#[]⟩,.string ⟨#[]⟩,.string ⟨#[]⟩,.bool false,.slice none 0 0]) [(0,5,y14)]) fun y15=>
 bind (app 5 80 s7 y15) fun y16=>
 bind (bop .int .add s30 (Value.int .i64 1)) fun y17=>
 ret (.nrm [s4,y16,s29,y17]))
 (ret (.ext 0 [s4,s7]))
def Zrz (Γ:Zc) (x0:Value):M Value:=
 bind (Γ ZtM [x0]) fun y1=>
 bind (Γ ZgV [y1]) fun y2=>
 bind (Γ Zb3 [y1]) fun y3=>
 bind (bop .int .eql y3 (Value.int .i64 0)) fun y4=>
 bind (gate y4 true 2 (bind (bop .int .neq y2 (Value.int .u8 1)) fun y5=>
 ret [y2,y5])) (c2 fun _ q6_1=>
 bind (pick y4 q6_1 (Value.bool false)) fun y7=>
 cnd y7
 (ret (Value.tuple #[(Value.pointer none),(Value.int .i64 6)]))
 (bind (Γ Zip [y1]) fun y8=>
 bind (cvi .i64 y8) fun y9=>
 bind (bop .int .gtr y9 (Value.int .i64 12)) fun y10=>
 jn (cnd y10
 (bind (Γ Zg8 [y1,(Value.int .i64 7)]) fun y11=>
 ret (.nrm [y1,(Value.int .i64 0)]))
 (ret (.nrm [y1,y9]))) (c2 fun q12_0 q12_1=>
 jn (Zi (c4 (Zrz.l1 Γ)) [q12_0,(Value.slice none 0 0),q12_1,(Value.int .i64 0)]) noN (xk 0 (c2 fun q19_0 q19_1=>
 bind (Γ Zb3 [q19_0]) fun y20=>
 bind (bop .int .neq y20 (Value.int .i64 0)) fun y21=>
 cnd y21
 (ret (Value.tuple #[(Value.pointer none),y20]))
 (bind (Γ ZA8 [q19_1]) fun y22=>
 bind (Zm y22 0) fun y23=>
 bind (Zm y22 1) fun y24=>
 bind (bop .int .eql y24 (Value.int .i64 0)) fun y25=>
 jn (cnd y25
 (bind (Γ Zil [q19_0]) fun y26=>
 ret (.nrm [y23,y26]))
 (ret (.nrm [y23,y24]))) (c2 fun q27_0 q27_1=>
 bind (bop .int .neq q27_1 (Value.int .i64 0)) fun y28=>
 cnd y28
 (ret (Value.tuple #[(Value.pointer none),q27_1]))
 (ret (Value.tuple #[q27_0,(Value.int .i64 0)]))) noX ret)) noX) ret) noX ret))
def Zpe.l1 (Γ:Zc) (s4 s6 s8 s32 s33:Value):M Out:=
 bind (bop .int .lss s33 s32) fun y14=>
 cnd y14
 (bind (Γ Ztn [s4,(Value.int .i64 2)]) fun y15=>
 bind (bsl 5 1 (.agg #[.string ⟨#[]⟩,.string ⟨#[]⟩,.string ⟨#[]⟩,.bool false,.slice none 0 0]) [(0,5,y15)]) fun y16=>
 bind (app 5 80 s8 y16) fun y17=>
 bind (bop .int .add s33 (Value.int .i64 1)) fun y18=>
 ret (.nrm [s4,s6,y17,s32,y18]))
 (ret (.ext 0 [s4,s6,s8]))
def Zpe (Γ:Zc) (x0:Value):M Value:=
 bind (Γ ZtM [x0]) fun y1=>
 bind (Γ ZgV [y1]) fun y2=>
 bind (Γ Zb3 [y1]) fun y3=>
 bind (bop .int .eql y3 (Value.int .i64 0)) fun y4=>
 bind (gate y4 true 2 (bind (bop .int .neq y2 (Value.int .u8 2)) fun y5=>
 ret [y2,y5])) (c2 fun _ q6_1=>
 bind (pick y4 q6_1 (Value.bool false)) fun y7=>
 cnd y7
 (ret (Value.tuple #[(Value.pointer none),(Value.int .i64 6)]))
 (bind (Γ ZpN [y1,(Value.int .i64 6),(Value.int .i64 12)]) fun y8=>
 bind (Γ Zip [y1]) fun y9=>
 bind (cvi .i64 y9) fun y10=>
 bind (bop .int .gtr y10 (Value.int .i64 12)) fun y11=>
 jn (cnd y11
 (bind (Γ Zg8 [y1,(Value.int .i64 7)]) fun y12=>
 ret (.nrm [y1,y8,(Value.int .i64 0)]))
 (ret (.nrm [y1,y8,y10]))) (c3 fun q13_0 q13_1 q13_2=>
 jn (Zi (c5 (Zpe.l1 Γ)) [q13_0,q13_1,(Value.slice none 0 0),q13_2,(Value.int .i64 0)]) noN (xk 0 (c3 fun q20_0 q20_1 q20_2=>
 bind (Γ Zb3 [q20_0]) fun y21=>
 bind (bop .int .neq y21 (Value.int .i64 0)) fun y22=>
 cnd y22
 (ret (Value.tuple #[(Value.pointer none),y21]))
 (bind (Γ ZcI [q20_2,q20_1]) fun y23=>
 bind (Zm y23 0) fun y24=>
 bind (Zm y23 1) fun y25=>
 bind (bop .int .eql y25 (Value.int .i64 0)) fun y26=>
 jn (cnd y26
 (bind (Γ Zil [q20_0]) fun y27=>
 ret (.nrm [y24,y27]))
 (ret (.nrm [y24,y25]))) (c2 fun q28_0 q28_1=>
 bind (bop .int .neq q28_1 (Value.int .i64 0)) fun y29=>
 cnd y29
 (ret (Value.tuple #[(Value.pointer none),q28_1]))
 (ret (Value.tuple #[q28_0,(Value.int .i64 0)]))) noX ret)) noX) ret) noX ret))
def Zdm (Γ:Zc) (x0 x1:Value):M Value:=
 bind (cvi .u64 x1) fun y1=>
 bind (Γ Kv [x0,y1,(Value.int .i64 1)]) fun y2=>
 ret y2
theorem Zlx:RA2 Jc Zdm:=ra2 Tryz.func61 (by kernel_rfl) fun _ _ _=>by kernel_rfl
def Zd7 (Γ:Zc) (x0 x1:Value):M Value:=
 bind (cvi .u64 x1) fun y1=>
 bind (Γ Kv [x0,y1,(Value.int .i64 2)]) fun y2=>
 ret y2
theorem ZlY:RA2 KA Zd7:=ra2 Tryz.func62 (by kernel_rfl) fun _ _ _=>by kernel_rfl
def Kr.l1 (Γ:Zc) (s0 s3 s7 s8 s9:Value):M Out:=
 bind (bop .int .lss s9 s8) fun y3=>
 cnd y3
 (bind (ixa 1 s7 s9) fun y4=>
 bind (ld1 y4) fun y5=>
 bind (Zz s0) fun y6=>
 bind (fa 0 y6) fun y7=>
 bind (ld1 y7) fun y8=>
 bind (lkp .str (.string ⟨#[]⟩) false y8 y5) fun y9=>
 bind (bld (.agg #[.string ⟨#[]⟩,.string ⟨#[]⟩,.string ⟨#[]⟩,.bool false,.slice none 0 0]) [(0,1,y5),(1,1,y9)]) fun y10=>
 bind (bsl 5 1 (.agg #[.string ⟨#[]⟩,.string ⟨#[]⟩,.string ⟨#[]⟩,.bool false,.slice none 0 0]) [(0,5,y10)]) fun y11=>
 bind (app 5 80 s3 y11) fun y12=>
 bind (bop .int .add s9 (Value.int .i64 1)) fun y13=>
 ret (.nrm [s0,y12,s7,s8,y13]))
 (ret (.ext 0 [s3]))
def Kr (Γ:Zc) (x0:Value):M Value:=
 bind (Γ Za6 [x0]) fun y1=>
 bind (ZC y1) fun y2=>
 jn (Zi (c5 (Kr.l1 Γ)) [x0,(Value.slice none 0 0),y1,y2,(Value.int .i64 0)]) noN (xk 0 (c1 fun q15_0=>
 ret q15_0) noX) ret
theorem Zq5:RA1 ZaY Kr:=ra1 Tryz.func64 (by kernel_rfl) fun _ _=>by kernel_rfl
def ZcS (Γ:Zc) (x0:Value):M Value:=
 bind (Zz x0) fun y1=>
 bind (fa 0 y1) fun y2=>
 bind (ld1 y2) fun y3=>
 bind (Γ Zfd [y3]) fun y4=>
 ret y4
theorem Zj5:RA1 YT ZcS:=ra1 Tryz.func66 (by kernel_rfl) fun _ _=>by kernel_rfl
def ZhO.l1 (Γ:Zc) (s0 s17 s18 s19:Value):M Out:=
 bind (bop .int .lss s19 s18) fun y8=>
 cnd y8
 (bind (ixa 1 s17 s19) fun y9=>
 bind (ld1 y9) fun y10=>
 bind (Γ Kb [s0,y10]) fun y11=>
 bind (bop .int .add s19 (Value.int .i64 1)) fun y12=>
 ret (.nrm [s0,s17,s18,y12]))
 (ret (.ext 0 [s0]))
def ZhO (Γ:Zc) (x0 x1:Value):M Value:=
 bind (ZC x1) fun y1=>
 bind (mxi false y1 (Value.int .i64 65535)) fun y2=>
 bind (slv 1 x1 none (some y2) none) fun y3=>
 bind (ZC y3) fun y4=>
 bind (cvi .u16 y4) fun y5=>
 bind (Γ KA [x0,y5]) fun y6=>
 bind (ZC y3) fun y7=>
 jn (Zi (c4 (ZhO.l1 Γ)) [x0,y3,y7,(Value.int .i64 0)]) noN (xk 0 (c1 fun q14_0=>
 ret q14_0) noX) ret
def Zk3.l1 (Γ:Zc) (s0 s3 s9 s10 s11:Value):M Out:=
 bind (bop .int .lss s11 s10) fun y3=>
 cnd y3
 (bind (ixa 1 s9 s11) fun y4=>
 bind (ld1 y4) fun y5=>
 bind (Γ KB [s0,y5]) fun y6=>
 bind (Zm y6 0) fun y7=>
 bind (Zm y6 1) fun y8=>
 bind (alc 1 (.agg #[.string ⟨#[]⟩,.string ⟨#[]⟩,.string ⟨#[]⟩,.bool false,.slice none 0 0])) fun y9=>
 bind (stA 5 y9 y7) fun _=>
 bind (ldA 5 y9) fun y10=>
 bind (bsl 5 1 (.agg #[.string ⟨#[]⟩,.string ⟨#[]⟩,.string ⟨#[]⟩,.bool false,.slice none 0 0]) [(0,5,y10)]) fun y11=>
 bind (app 5 80 s3 y11) fun y12=>
 bind (bop .int .add s11 (Value.int .i64 1)) fun y13=>
 ret (.nrm [s0,y12,s9,s10,y13]))
 (ret (.ext 0 [s3]))
def Zk3 (Γ:Zc) (x0:Value):M Value:=
 bind (Γ Zbg [x0]) fun y1=>
 bind (ZC y1) fun y2=>
 jn (Zi (c5 (Zk3.l1 Γ)) [x0,(Value.slice none 0 0),y1,y2,(Value.int .i64 0)]) noN (xk 0 (c1 fun q15_0=>
 ret q15_0) noX) ret
def Zdn (Γ:Zc) (x0 x1 x2:Value):M Value:=
 bind (cvi .i64 x1) fun y1=>
 bind (Zz x0) fun y2=>
 bind (fa 0 y2) fun y3=>
 bind (ld1 y3) fun y4=>
 bind (ZC y4) fun y5=>
 bind (bop .int .geq y1 y5) fun y6=>
 bind (gate y6 false 2 (bind (bop .int .lss x2 (Value.int .u8 1)) fun y7=>
 ret [x2,y7])) (c2 fun _ q8_1=>
 bind (pick y6 (Value.bool true) q8_1) fun y9=>
 bind (gate y9 false 2 (bind (bop .int .gtr x2 (Value.int .u8 3)) fun y10=>
 ret [x2,y10])) (c2 fun _ q11_1=>
 bind (pick y9 (Value.bool true) q11_1) fun y12=>
 cnd y12
 (ret (Value.int .i64 1))
 (bind (Zz x0) fun y13=>
 bind (fa 0 y13) fun y14=>
 bind (ld1 y14) fun y15=>
 bind (ixa 1 y15 x1) fun y16=>
 bind (st1 y16 x2) fun _=>
 ret (Value.int .i64 0))))
theorem Zlf:RA3 WS Zdn:=ra3 Tryz.func71 (by kernel_rfl) fun _ _ _ _=>by kernel_rfl
def ZcG (Γ:Zc) (x0 x1:Value):M Value:=
 bind (Γ Ky [x0]) fun y1=>
 bind (Γ Ky [x1]) fun y2=>
 cnd y1
 (cnd y2
 (ret (Value.int .i64 0))
 (ret (Value.int .i64 (-1))))
 (cnd y2
 (ret (Value.int .i64 1))
 (bind (bop .int .lss x0 x1) fun y3=>
 cnd y3
 (ret (Value.int .i64 (-1)))
 (bind (bop .int .gtr x0 x1) fun y4=>
 cnd y4
 (ret (Value.int .i64 1))
 (ret (Value.int .i64 0)))))
theorem ZkN:RA2 WA ZcG:=ra2 Tryz.func72 (by kernel_rfl) fun _ _ _=>by kernel_rfl
def ZhT (Γ:Zc) (x0:Value):M Value:=
 bind (alc 1 x0) fun y1=>
 bind (alc 1 (.agg #[.int .i64 0,.slice none 0 0])) fun y2=>
 bind (fa 0 y1) fun y3=>
 bind (ld1 y3) fun y4=>
 bind (bop .int .neq y4 (Value.int .i64 0)) fun y5=>
 cnd y5
 (bind (fa 0 y1) fun y6=>
 bind (ld1 y6) fun y7=>
 bind (bld (.agg #[.int .i64 0,.slice none 0 0]) [(0,1,y7)]) fun y8=>
 bind (stA 2 y2 y8) fun _=>
 bind (ldA 2 y2) fun y9=>
 ret y9)
 (bind (fa 1 y1) fun y10=>
 bind (ld1 y10) fun y11=>
 bind (Γ YF [y11]) fun y12=>
 bind (fa 1 y1) fun y13=>
 bind (st1 y13 y12) fun _=>
 bind (ldA 2 y1) fun y14=>
 bind (stA 2 y2 y14) fun _=>
 bind (ldA 2 y2) fun y15=>
 ret y15)
theorem Zsh:RA1 WF ZhT:=ra1 Tryz.func73 (by kernel_rfl) fun _ _=>by kernel_rfl
def Jx (Γ:Zc) (x0 x1:Value):M Value:=
 bind (alc 1 x1) fun y1=>
 bind (fa 0 y1) fun y2=>
 bind (ld1 y2) fun y3=>
 bind (bop .int .eql y3 (Value.int .u8 0)) fun y4=>
 jn (cnd y4
 (bind (fa 1 y1) fun y5=>
 bind (ld1 y5) fun y6=>
 bind (fa 2 y1) fun y7=>
 bind (ld1 y7) fun y8=>
 bind (Γ Ki [x0]) fun y9=>
 bind (ld1 y7) fun u_10=>same u_10 y8 <|
 bind (ld1 y5) fun u_11=>same u_11 y6 <|
 bind (Zbl Tryz.prog Γ y9 "Create" [y6, y8]) fun y12 =>
 ret (.nrm [(Value.slice none 0 0),y12]))
 (bind (bop .int .eql y3 (Value.int .u8 1)) fun y13=>
 jn (cnd y13
 (bind (fa 1 y1) fun y14=>
 bind (ld1 y14) fun y15=>
 bind (Γ Ki [x0]) fun y16=>
 bind (ld1 y14) fun u_17=>same u_17 y15 <|
 bind (Zbl Tryz.prog Γ y16 "Delete" [y15]) fun y18 =>
 ret (.nrm [(Value.slice none 0 0),y18]))
 (bind (bop .int .eql y3 (Value.int .u8 2)) fun y19=>
 jn (cnd y19
 (bind (fa 1 y1) fun y20=>
 bind (ld1 y20) fun y21=>
 bind (fa 2 y1) fun y22=>
 bind (ld1 y22) fun y23=>
 bind (Γ Ki [x0]) fun y24=>
 bind (ld1 y22) fun u_25=>same u_25 y23 <|
 bind (ld1 y20) fun u_26=>same u_26 y21 <|
 bind (Zbl Tryz.prog Γ y24 "SetHash" [y21, y23]) fun y27 =>
 ret (.nrm [(Value.slice none 0 0),y27]))
 (bind (bop .int .eql y3 (Value.int .u8 3)) fun y28=>
 jn (cnd y28
 (bind (fa 1 y1) fun y29=>
 bind (ld1 y29) fun y30=>
 bind (Γ ZaK [x0,y30]) fun y31=>
 bind (Zm y31 0) fun y32=>
 bind (Zm y31 1) fun y33=>
 ret (.nrm [y32,y33]))
 (bind (bop .int .eql y3 (Value.int .u8 4)) fun y34=>
 jn (cnd y34
 (bind (fa 1 y1) fun y35=>
 bind (ld1 y35) fun y36=>
 bind (Γ Ki [x0]) fun y37=>
 bind (ld1 y35) fun u_38=>same u_38 y36 <|
 bind (Zbl Tryz.prog Γ y37 "List" [y36]) fun y39 =>
 bind (Zm y39 0) fun y40=>
 bind (Zm y39 1) fun y41=>
 ret (.nrm [y40,y41]))
 (bind (bop .int .eql y3 (Value.int .u8 15)) fun y42=>
 jn (cnd y42
 (bind (Γ W0 [x0]) fun y43=>
 ret (.nrm [(Value.slice none 0 0),y43]))
 (bind (bop .int .eql y3 (Value.int .u8 16)) fun y44=>
 cnd y44
 (ret (.nrm [(Value.slice none 0 0),(Value.int .i64 1)]))
 (ret (.ret (Value.tuple #[(Value.slice none 0 0),(Value.int .i64 0),(Value.bool false)]))))) (c2 fun q45_0 q45_1=>
 ret (.nrm [q45_0,q45_1])) noX ZF)) (c2 fun q47_0 q47_1=>
 ret (.nrm [q47_0,q47_1])) noX ZF)) (c2 fun q49_0 q49_1=>
 ret (.nrm [q49_0,q49_1])) noX ZF)) (c2 fun q51_0 q51_1=>
 ret (.nrm [q51_0,q51_1])) noX ZF)) (c2 fun q53_0 q53_1=>
 ret (.nrm [q53_0,q53_1])) noX ZF)) (c2 fun q55_0 q55_1=>
 ret (Value.tuple #[q55_0,q55_1,(Value.bool true)])) noX ret
theorem Zl9:RA2 Wl Jx:=ra2 Tryz.func74 (by kernel_rfl) fun _ _ _=>by kernel_rfl
def QW (Γ:Zc) (x0 x1:Value):M Value:=
 bind (alc 1 x1) fun y1=>
 bind (fa 0 y1) fun y2=>
 bind (ld1 y2) fun y3=>
 bind (bop .int .eql y3 (Value.int .u8 5)) fun y4=>
 jn (cnd y4
 (bind (Zz x0) fun y5=>
 bind (fa 1 y5) fun y6=>
 bind (ld1 y6) fun y7=>
 bind (fa 1 y1) fun y8=>
 bind (ld1 y8) fun y9=>
 bind (fa 2 y1) fun y10=>
 bind (ld1 y10) fun y11=>
 bind (Γ K3 [y7,y9,y11]) fun y12=>
 ret (.nrm [(Value.slice none 0 0),y12]))
 (bind (bop .int .eql y3 (Value.int .u8 6)) fun y13=>
 jn (cnd y13
 (bind (Zz x0) fun y14=>
 bind (fa 1 y14) fun y15=>
 bind (ld1 y15) fun y16=>
 bind (fa 1 y1) fun y17=>
 bind (ld1 y17) fun y18=>
 bind (Γ Yz [y16,y18,(Value.bool true)]) fun y19=>
 ret (.nrm [(Value.slice none 0 0),y19]))
 (bind (bop .int .eql y3 (Value.int .u8 7)) fun y20=>
 jn (cnd y20
 (bind (Zz x0) fun y21=>
 bind (fa 1 y21) fun y22=>
 bind (ld1 y22) fun y23=>
 bind (fa 1 y1) fun y24=>
 bind (ld1 y24) fun y25=>
 bind (Γ Yz [y23,y25,(Value.bool false)]) fun y26=>
 ret (.nrm [(Value.slice none 0 0),y26]))
 (bind (bop .int .eql y3 (Value.int .u8 8)) fun y27=>
 jn (cnd y27
 (bind (Zz x0) fun y28=>
 bind (fa 1 y28) fun y29=>
 bind (ld1 y29) fun y30=>
 bind (fa 1 y1) fun y31=>
 bind (ld1 y31) fun y32=>
 bind (fa 2 y1) fun y33=>
 bind (ld1 y33) fun y34=>
 bind (Γ Wp [y30,y32,y34]) fun y35=>
 ret (.nrm [(Value.slice none 0 0),y35]))
 (bind (bop .int .eql y3 (Value.int .u8 9)) fun y36=>
 jn (cnd y36
 (bind (Zz x0) fun y37=>
 bind (fa 1 y37) fun y38=>
 bind (ld1 y38) fun y39=>
 bind (fa 1 y1) fun y40=>
 bind (ld1 y40) fun y41=>
 bind (Γ We [y39,y41]) fun y42=>
 ret (.nrm [(Value.slice none 0 0),y42]))
 (bind (bop .int .eql y3 (Value.int .u8 10)) fun y43=>
 jn (cnd y43
 (bind (Zz x0) fun y44=>
 bind (fa 1 y44) fun y45=>
 bind (ld1 y45) fun y46=>
 bind (fa 1 y1) fun y47=>
 bind (ld1 y47) fun y48=>
 bind (Γ Wi [y46,y48]) fun y49=>
 ret (.nrm [(Value.slice none 0 0),y49]))
 (bind (bop .int .eql y3 (Value.int .u8 11)) fun y50=>
 jn (cnd y50
 (bind (Zz x0) fun y51=>
 bind (fa 1 y51) fun y52=>
 bind (ld1 y52) fun y53=>
 bind (fa 1 y1) fun y54=>
 bind (ld1 y54) fun y55=>
 bind (fa 2 y1) fun y56=>
 bind (ld1 y56) fun y57=>
 bind (Γ Zan [y53,y55,y57]) fun y58=>
 ret (.nrm [(Value.slice none 0 0),y58]))
 (bind (bop .int .eql y3 (Value.int .u8 12)) fun y59=>
 jn (cnd y59
 (bind (Zz x0) fun y60=>
 bind (fa 1 y60) fun y61=>
 bind (ld1 y61) fun y62=>
 bind (fa 1 y1) fun y63=>
 bind (ld1 y63) fun y64=>
 bind (fa 2 y1) fun y65=>
 bind (ld1 y65) fun y66=>
 bind (Γ WH [y62,y64,y66]) fun y67=>
 ret (.nrm [(Value.slice none 0 0),y67]))
 (bind (bop .int .eql y3 (Value.int .u8 13)) fun y68=>
 jn (cnd y68
 (bind (Zz x0) fun y69=>
 bind (fa 1 y69) fun y70=>
 bind (ld1 y70) fun y71=>
 bind (fa 1 y1) fun y72=>
 bind (ld1 y72) fun y73=>
 bind (Γ ZbN [y71,y73]) fun y74=>
 bind (Zm y74 0) fun y75=>
 bind (Zm y74 1) fun y76=>
 bind (bsl 1 1 (.string ⟨#[]⟩) [(0,1,y75)]) fun y77=>
 ret (.nrm [y77,y76]))
 (bind (bop .int .eql y3 (Value.int .u8 14)) fun y78=>
 jn (cnd y78
 (bind (Zz x0) fun y79=>
 bind (fa 1 y79) fun y80=>
 bind (ld1 y80) fun y81=>
 bind (fa 1 y1) fun y82=>
 bind (ld1 y82) fun y83=>
 bind (Γ WO [y81,y83]) fun y84=>
 bind (Zm y84 0) fun y85=>
 bind (Zm y84 1) fun y86=>
 ret (.nrm [y85,y86]))
 (ret (.nrm [(Value.slice none 0 0),(Value.int .i64 0)]))) (c2 fun q87_0 q87_1=>
 ret (.nrm [q87_0,q87_1])) noX ZF)) (c2 fun q89_0 q89_1=>
 ret (.nrm [q89_0,q89_1])) noX ZF)) (c2 fun q91_0 q91_1=>
 ret (.nrm [q91_0,q91_1])) noX ZF)) (c2 fun q93_0 q93_1=>
 ret (.nrm [q93_0,q93_1])) noX ZF)) (c2 fun q95_0 q95_1=>
 ret (.nrm [q95_0,q95_1])) noX ZF)) (c2 fun q97_0 q97_1=>
 ret (.nrm [q97_0,q97_1])) noX ZF)) (c2 fun q99_0 q99_1=>
 ret (.nrm [q99_0,q99_1])) noX ZF)) (c2 fun q101_0 q101_1=>
 ret (.nrm [q101_0,q101_1])) noX ZF)) (c2 fun q103_0 q103_1=>
 ret (.nrm [q103_0,q103_1])) noX ZF)) (c2 fun q105_0 q105_1=>
 ret (Value.tuple #[q105_0,q105_1])) noX ret
theorem Znk:RA2 Ws QW:=ra2 Tryz.func75 (by kernel_rfl) fun _ _ _=>by kernel_rfl
def Zdx (Γ:Zc) (x0 x1:Value):M Value:=
 bind (JM x1) fun y1=>
 bind (mxi false y1 (Value.int .i64 65535)) fun y2=>
 bind (sls x1 none (some y2)) fun y3=>
 bind (JM y3) fun y4=>
 bind (cvi .u16 y4) fun y5=>
 bind (Γ KA [x0,y5]) fun y6=>
 bind (Zz x0) fun y7=>
 bind (fa 0 y7) fun y8=>
 bind (ld1 y8) fun y9=>
 bind (app 1 1 y9 y3) fun y10=>
 bind (Zz x0) fun y11=>
 bind (fa 0 y11) fun y12=>
 bind (st1 y12 y10) fun _=>
 ret x0
theorem Zlu:RA2 Kb Zdx:=ra2 Tryz.func76 (by kernel_rfl) fun _ _ _=>by kernel_rfl
def Zpc.l1 (Γ:Zc) (s3 s6 s7:Value):M Out:=
 bind (bop .int .lss s7 (Value.int .i64 8)) fun y3=>
 cnd y3
 (bind (ixv true 8 3 s6 s7) fun y4=>
 bind (alc 1 (.agg #[.int .u64 0,.int .i64 0,.slice none 0 0])) fun y5=>
 bind (stA 3 y5 y4) fun _=>
 bind (fa 0 y5) fun y6=>
 bind (ld1 y6) fun y7=>
 bind (Γ Zhl [y7,(Value.int .i64 8)]) fun y8=>
 bind (bop .str .add s3 y8) fun y9=>
 bind (fa 0 y5) fun y10=>
 bind (ld1 y10) fun y11=>
 bind (bop .int .gtr y11 (Value.int .u64 0)) fun y12=>
 jn (cnd y12
 (bind (fa 1 y5) fun y13=>
 bind (ldA 2 y13) fun y14=>
 bind (Γ Zzv [y14]) fun y15=>
 bind (Γ ZoK [y15]) fun y16=>
 bind (bop .str .add y9 y16) fun y17=>
 ret (.nrm [y17,s6,s7]))
 (ret (.nrm [y9,s6,s7]))) (c3 fun q18_0 q18_1 q18_2=>
 bind (bop .int .add q18_2 (Value.int .i64 1)) fun y19=>
 ret (.nrm [q18_0,q18_1,y19])) noX ZF)
 (ret (.ext 0 [s3]))
def Zpc (Γ:Zc) (x0:Value):M Value:=
 bind (alc 3 x0) fun y1=>
 bind (ldA 24 y1) fun y2=>
 jn (Zi (c3 (Zpc.l1 Γ)) [(Value.string ⟨#[]⟩),y2,(Value.int .i64 0)]) noN (xk 0 (c1 fun q22_0=>
 ret q22_0) noX) ret
def ZoS.l1 (Γ:Zc) (s1 s3 s10 s11:Value):M Out:=
 bind (bop .int .lss s11 s10) fun y8=>
 cnd y8
 (bind (fa 1 s1) fun y9=>
 bind (WN 7 1 y9 s11) fun y10=>
 bind (ld1 y10) fun y11=>
 bind (bsl 1 1 (.int .u8 0) [(0,1,y11)]) fun y12=>
 bind (b2s y12) fun y13=>
 bind (bop .str .add s3 y13) fun y14=>
 bind (bop .int .add s11 (Value.int .i64 1)) fun y15=>
 ret (.nrm [s1,y14,s10,y15]))
 (ret (.ext 0 [s3]))
def ZoS (Γ:Zc) (x0:Value):M Value:=
 bind (alc 1 x0) fun y1=>
 bind (fa 0 y1) fun y2=>
 bind (ld1 y2) fun y3=>
 bind (cvi .u64 y3) fun y4=>
 bind (Γ Zhl [y4,(Value.int .i64 1)]) fun y5=>
 bind (fa 0 y1) fun y6=>
 bind (ld1 y6) fun y7=>
 jn (Zi (c4 (ZoS.l1 Γ)) [y1,y5,y7,(Value.int .i64 0)]) noN (xk 0 (c1 fun q17_0=>
 ret q17_0) noX) ret
def Zhd.l1 (Γ:Zc) (s1 s9 s10:Value):M Out:=
 bind (bop .int .lss s10 (Value.int .i64 8)) fun y4=>
 cnd y4
 (bind (ixv true 8 3 s9 s10) fun y5=>
 bind (alc 1 (.agg #[.int .u64 0,.int .i64 0,.slice none 0 0])) fun y6=>
 bind (stA 3 y6 y5) fun _=>
 bind (fa 0 y6) fun y7=>
 bind (ld1 y7) fun y8=>
 bind (Γ Zl8 [s1,y8]) fun y9=>
 bind (fa 0 y6) fun y10=>
 bind (ld1 y10) fun y11=>
 bind (bop .int .gtr y11 (Value.int .u64 0)) fun y12=>
 jn (cnd y12
 (bind (fa 1 y6) fun y13=>
 bind (ldA 2 y13) fun y14=>
 bind (Γ ZDe [y14]) fun y15=>
 bind (b2s y15) fun y16=>
 bind (Γ Kb [s1,y16]) fun y17=>
 ret (.nrm [s1,s9,s10]))
 (ret (.nrm [s1,s9,s10]))) (c3 fun q18_0 q18_1 q18_2=>
 bind (bop .int .add q18_2 (Value.int .i64 1)) fun y19=>
 ret (.nrm [q18_0,q18_1,y19])) noX ZF)
 (ret (.ext 0 []))
def Zhd (Γ:Zc) (x0 x1:Value):M Value:=
 bind (Zz x0) fun y1=>
 bind (fa 0 y1) fun y2=>
 bind (ldA 24 y2) fun y3=>
 jn (Zi (c3 (Zhd.l1 Γ)) [x1,y3,(Value.int .i64 0)]) noN (xk 0 (c0 (ret (Value.tuple #[]))) noX) ret
def Zgl.l1 (Γ:Zc) (s1 s17 s18 s19:Value):M Out:=
 bind (bop .int .lss s19 s18) fun y11=>
 cnd y11
 (bind (ixa 1 s17 s19) fun y12=>
 bind (ld1 y12) fun y13=>
 bind (Γ Jc [s1,y13]) fun y14=>
 bind (bop .int .add s19 (Value.int .i64 1)) fun y15=>
 ret (.nrm [s1,s17,s18,y15]))
 (ret (.ext 0 []))
def Zgl (Γ:Zc) (x0 x1:Value):M Value:=
 bind (Zz x0) fun y1=>
 bind (fa 0 y1) fun y2=>
 bind (ld1 y2) fun y3=>
 bind (ZC y3) fun y4=>
 bind (cvi .u8 y4) fun y5=>
 bind (Γ Jc [x1,y5]) fun y6=>
 bind (Zz x0) fun y7=>
 bind (fa 0 y7) fun y8=>
 bind (ld1 y8) fun y9=>
 bind (ZC y9) fun y10=>
 jn (Zi (c4 (Zgl.l1 Γ)) [x1,y9,y10,(Value.int .i64 0)]) noN (xk 0 (c0 (ret (Value.tuple #[]))) noX) ret
def Kl (Γ:Zc) (x0:Value):M Value:=
 bind (bop .slc .eql x0 (Value.slice none 0 0)) fun y1=>
 cnd y1
 (ret (Value.slice none 0 0))
 (bind (bsl 1 0 (.int .u8 0) []) fun y2=>
 bind (app 1 1 y2 x0) fun y3=>
 ret y3)
theorem Zde:RA1 Jk Kl:=ra1 Tryz.func92 (by kernel_rfl) fun _ _=>by kernel_rfl
def Zpd (Γ:Zc) (x0 x1:Value):M Value:=
 bind (bop .int .and x0 x1) fun y1=>
 bind (bop .int .eql y1 x1) fun y2=>
 ret y2
theorem Zue:RA2 ZdG Zpd:=ra2 Tryz.func93 (by kernel_rfl) fun _ _ _=>by kernel_rfl
def ZeI (Γ:Zc) (x0:Value):M Value:=
 bind (Zz x0) fun y1=>
 bind (fa 0 y1) fun y2=>
 bind (ld1 y2) fun y3=>
 bind (Zz x0) fun y4=>
 bind (fa 1 y4) fun y5=>
 bind (ld1 y5) fun y6=>
 bind (Γ ZQ [y3]) fun y7=>
 bind (ld1 y5) fun u_8=>same u_8 y6 <|
 bind (Γ ZQ [y6]) fun y9=>
 bind (bld (.agg #[.map none,.map none]) [(0,1,y7),(1,1,y9)]) fun y10=>
 bind (alc 1 y10) fun y11=>
 ret y11
theorem ZoA:RA1 Zbf ZeI:=ra1 Tryz.func96 (by kernel_rfl) fun _ _=>by kernel_rfl
def ZiH.l1 (Γ:Zc) (s0 s4 s11 s12 s13:Value):M Out:=
 bind (bop .int .lss s13 s12) fun y3=>
 cnd y3
 (bind (ixa 5 s11 s13) fun y4=>
 bind (ldA 5 y4) fun y5=>
 bind (alc 1 (.agg #[.string ⟨#[]⟩,.string ⟨#[]⟩,.string ⟨#[]⟩,.bool false,.slice none 0 0])) fun y6=>
 bind (stA 5 y6 y5) fun _=>
 bind (ldA 5 y6) fun y7=>
 bind (Γ Zcl [(Value.int .i64 1),y7]) fun y8=>
 bind (bop .int .neq y8 (Value.int .i64 0)) fun y9=>
 cnd y9
 (ret (.ret (Value.tuple #[(Value.pointer none),y8])))
 (bind (bop .int .add s13 (Value.int .i64 1)) fun y10=>
 ret (.nrm [s0,s4,s11,s12,y10])))
 (ret (.ext 0 [s0,s4]))
def ZiH.l2 (Γ:Zc) (s0 s4 s23 s24 s25:Value):M Out:=
 bind (bop .int .lss s25 s24) fun y14=>
 cnd y14
 (bind (ixa 5 s23 s25) fun y15=>
 bind (ldA 5 y15) fun y16=>
 bind (alc 1 (.agg #[.string ⟨#[]⟩,.string ⟨#[]⟩,.string ⟨#[]⟩,.bool false,.slice none 0 0])) fun y17=>
 bind (stA 5 y17 y16) fun _=>
 bind (bop .int .gtr s25 (Value.int .i64 0)) fun y18=>
 bind (gateV y18 true (ret s0)) fun y19=>
 bind (gateV y18 true (ret s25)) fun y20=>
 bind (gateV y18 true (bop .int .sub y20 (Value.int .i64 1))) fun y21=>
 bind (gateV y18 true (ixa 5 y19 y21)) fun y22=>
 bind (gateV y18 true (fa 0 y22)) fun y23=>
 bind (gateV y18 true (ld1 y23)) fun y24=>
 bind (gateV y18 true (fa 0 y17)) fun y25=>
 bind (gateV y18 true (ld1 y25)) fun y26=>
 bind (gateV y18 true (Γ Qa [y24,y26])) fun y27=>
 bind (gateV y18 true (bop .int .geq y27 (Value.int .i64 0))) fun y28=>
 bind (pick y18 y28 (Value.bool false)) fun y29=>
 cnd y29
 (ret (.ret (Value.tuple #[(Value.pointer none),(Value.int .i64 9)])))
 (bind (Zz s4) fun y30=>
 bind (fa 0 y30) fun y31=>
 bind (ld1 y31) fun y32=>
 bind (fa 0 y17) fun y33=>
 bind (ld1 y33) fun y34=>
 bind (fa 1 y17) fun y35=>
 bind (ld1 y35) fun y36=>
 bind (mup .str y32 y34 y36) fun _=>
 bind (bop .int .add s25 (Value.int .i64 1)) fun y37=>
 ret (.nrm [s0,s4,s23,s24,y37])))
 (ret (.ext 2 [s0,s4]))
def ZiH (Γ:Zc) (x0:Value):M Value:=
 bind (Γ Zdg []) fun y1=>
 bind (ZC x0) fun y2=>
 jn (Zi (c5 (ZiH.l1 Γ)) [x0,y1,x0,y2,(Value.int .i64 0)]) noN (xk 0 (c2 fun q12_0 q12_1=>
 bind (ZC q12_0) fun y13=>
 jn (Zi (c5 (ZiH.l2 Γ)) [q12_0,q12_1,q12_0,y13,(Value.int .i64 0)]) noN (xk 2 (c2 fun q39_0 q39_1=>
 bind (ZC q39_0) fun y40=>
 bind (bop .int .gtr y40 (Value.int .i64 12)) fun y41=>
 cnd y41
 (ret (Value.tuple #[(Value.pointer none),(Value.int .i64 7)]))
 (ret (Value.tuple #[q39_1,(Value.int .i64 0)]))) noX) ret) noX) ret
def ZhR.l1 (Γ:Zc) (s0 s2 s7 s10 s11:Value):M Out:=
 bind (bop .int .lss s11 s10) fun y2=>
 cnd y2
 (bind (Γ ZnO [s0,s2]) fun y3=>
 bind (bsl 1 1 (.string ⟨#[]⟩) [(0,1,y3)]) fun y4=>
 bind (app 1 16 s7 y4) fun y5=>
 bind (bop .int .add s11 (Value.int .i64 1)) fun y6=>
 ret (.nrm [s0,s2,y5,s10,y6]))
 (ret (.ext 0 [s0,s7]))
def ZhR (Γ:Zc) (x0 x1 x2:Value):M Value:=
 bind (Γ Zmy [x0,x1]) fun y1=>
 jn (Zi (c5 (ZhR.l1 Γ)) [x0,x2,(Value.slice none 0 0),y1,(Value.int .i64 0)]) noN (xk 0 (c2 fun q8_0 q8_1=>
 bind (Zz q8_0) fun y9=>
 bind (fa 1 y9) fun y10=>
 bind (ld1 y10) fun y11=>
 bind (bop .int .neq y11 (Value.int .i64 0)) fun y12=>
 cnd y12
 (ret (Value.slice none 0 0))
 (ret q8_1)) noX) ret
def QV.l1 (Γ:Zc) (s0 s7 s23 s24 s25:Value):M Out:=
 bind (bop .int .lss s25 s24) fun y5=>
 cnd y5
 (bind (ixa 1 s23 s25) fun y6=>
 bind (ld1 y6) fun y7=>
 bind (Zz s7) fun y8=>
 bind (fa 2 y8) fun y9=>
 bind (ld1 y9) fun y10=>
 bind (Γ Ya [y10,y7]) fun y11=>
 bind (bop .int .add s25 (Value.int .i64 1)) fun y12=>
 ret (.nrm [s0,s7,s23,s24,y12]))
 (ret (.ext 0 [s0,s7]))
def QV.l3 (Γ:Zc) (s7 s11 s36 s37 s38 s54 s55 s56:Value):M Out:=
 bind (bop .int .lss s56 s55) fun y33=>
 cnd y33
 (bind (ixa 1 s54 s56) fun y34=>
 bind (ld1 y34) fun y35=>
 bind (Zz s7) fun y36=>
 bind (fa 2 y36) fun y37=>
 bind (ld1 y37) fun y38=>
 bind (fa 0 s11) fun y39=>
 bind (ld1 y39) fun y40=>
 bind (Γ Yx [y38,y35,y40]) fun y41=>
 bind (bop .int .neq y41 (Value.int .i64 0)) fun y42=>
 cnd y42
 (ret (.ret (Value.tuple #[(Value.pointer none),y41])))
 (bind (bop .int .add s56 (Value.int .i64 1)) fun y43=>
 ret (.nrm [s7,s11,s36,s37,s38,s54,s55,y43])))
 (ret (.ext 4 [s7,s11,s36,s37,s38]))
def QV.l2 (Γ:Zc) (s7 s36 s37 s38:Value):M Out:=
 bind (bop .int .lss s38 s37) fun y16=>
 cnd y16
 (bind (ixa 5 s36 s38) fun y17=>
 bind (ldA 5 y17) fun y18=>
 bind (alc 1 (.agg #[.string ⟨#[]⟩,.string ⟨#[]⟩,.string ⟨#[]⟩,.bool false,.slice none 0 0])) fun y19=>
 bind (stA 5 y19 y18) fun _=>
 bind (Zz s7) fun y20=>
 bind (fa 0 y20) fun y21=>
 bind (ld1 y21) fun y22=>
 bind (fa 0 y19) fun y23=>
 bind (ld1 y23) fun y24=>
 bind (fa 1 y19) fun y25=>
 bind (ld1 y25) fun y26=>
 bind (fa 3 y19) fun y27=>
 bind (ld1 y27) fun y28=>
 bind (bld (.agg #[.string ⟨#[]⟩,.bool false]) [(0,1,y26),(1,1,y28)]) fun y29=>
 bind (mup .str y22 y24 y29) fun _=>
 bind (fa 4 y19) fun y30=>
 bind (ld1 y30) fun y31=>
 bind (ZC y31) fun y32=>
 jn (Zi (c8 (QV.l3 Γ)) [s7,y19,s36,s37,s38,y31,y32,(Value.int .i64 0)]) noN (xk 4 (c5 fun q45_0 q45_1 q45_2 q45_3 q45_4=>
 bind (Zz q45_0) fun y46=>
 bind (fa 1 y46) fun y47=>
 bind (ld1 y47) fun y48=>
 bind (fa 0 q45_1) fun y49=>
 bind (ld1 y49) fun y50=>
 bind (fa 2 q45_1) fun y51=>
 bind (ld1 y51) fun y52=>
 bind (Γ Y8 [y48,y50,y52]) fun y53=>
 bind (bop .int .neq y53 (Value.int .i64 0)) fun y54=>
 cnd y54
 (ret (.ret (Value.tuple #[(Value.pointer none),y53])))
 (bind (bop .int .add q45_4 (Value.int .i64 1)) fun y55=>
 ret (.nrm [q45_0,q45_2,q45_3,y55]))) noX) ZF)
 (ret (.ext 2 [s7]))
def QV (Γ:Zc) (x0 x1:Value):M Value:=
 bind (Γ ZcO [x0,x1]) fun y1=>
 bind (bop .int .neq y1 (Value.int .i64 0)) fun y2=>
 cnd y2
 (ret (Value.tuple #[(Value.pointer none),y1]))
 (bind (Γ Ze9 []) fun y3=>
 bind (ZC x1) fun y4=>
 jn (Zi (c5 (QV.l1 Γ)) [x0,y3,x1,y4,(Value.int .i64 0)]) noN (xk 0 (c2 fun q14_0 q14_1=>
 bind (ZC q14_0) fun y15=>
 jn (Zi (c4 (QV.l2 Γ)) [q14_1,q14_0,y15,(Value.int .i64 0)]) noN (xk 2 (c1 fun q58_0=>
 ret (Value.tuple #[q58_0,(Value.int .i64 0)])) noX) ret) noX) ret)
theorem Zw3:RA2 ZcI QV:=ra2 Tryz.func107 (by kernel_rfl) fun _ _ _=>by kernel_rfl
def Yt.l1 (Γ:Zc) (s0 s1 s7 s8:Value):M Out:=
 bind (bop .int .lss s8 s7) fun y1=>
 cnd y1
 (bind (Zz s0) fun y2=>
 bind (fa 0 y2) fun y3=>
 bind (ld1 y3) fun y4=>
 bind (cvi .u8 s1) fun y5=>
 bind (bsl 1 1 (.int .u8 0) [(0,1,y5)]) fun y6=>
 bind (app 1 1 y4 y6) fun y7=>
 bind (Zz s0) fun y8=>
 bind (fa 0 y8) fun y9=>
 bind (st1 y9 y7) fun _=>
 bind (bop .int .shr s1 (Value.int .u64 8)) fun y10=>
 bind (bop .int .add s8 (Value.int .i64 1)) fun y11=>
 ret (.nrm [s0,y10,s7,y11]))
 (ret (.ext 0 [s0]))
def Yt (Γ:Zc) (x0 x1 x2:Value):M Value:=
 jn (Zi (c4 (Yt.l1 Γ)) [x0,x1,x2,(Value.int .i64 0)]) noN (xk 0 (c1 fun q13_0=>
 ret q13_0) noX) ret
theorem ZmI:RA3 Kv Yt:=ra3 Tryz.func108 (by kernel_rfl) fun _ _ _ _=>by kernel_rfl
def Ze1 (Γ:Zc) (x0:Value):M Value:=
 bind (Zz x0) fun y1=>
 bind (fa 0 y1) fun y2=>
 bind (ld1 y2) fun y3=>
 bind (Γ JH [y3]) fun y4=>
 bind (Γ ZO [y4,(Value.func (.func 150) #[] #[])]) fun y5=>
 ret y5
theorem ZnV:RA1 Za6 Ze1:=ra1 Tryz.func109 (by kernel_rfl) fun _ _=>by kernel_rfl
def Zco (Γ:Zc) (x0 x1:Value):M Value:=
 bind (alc 1 x1) fun y1=>
 bind (bop .int .neq x0 (Value.int .i64 1)) fun y2=>
 bind (gate y2 true 2 (bind (bop .int .neq x0 (Value.int .i64 2)) fun y3=>
 ret [x0,y3])) (c2 fun _ q4_1=>
 bind (pick y2 q4_1 (Value.bool false)) fun y5=>
 cnd y5
 (ret (Value.int .i64 6))
 (bind (fa 0 y1) fun y6=>
 bind (ld1 y6) fun y7=>
 bind (fa 1 y1) fun y8=>
 bind (ld1 y8) fun y9=>
 bind (Γ QS [y7]) fun y10=>
 bind (ld1 y8) fun u_11=>same u_11 y9 <|
 bind (Γ KZ [y9]) fun y12=>
 bind (bsl 1 2 (.int .i64 0) [(0,1,y10),(1,1,y12)]) fun y13=>
 bind (Γ Zbq [y13]) fun y14=>
 bind (bop .int .neq y14 (Value.int .i64 0)) fun y15=>
 cnd y15
 (ret y14)
 (bind (bop .int .eql x0 (Value.int .i64 2)) fun y16=>
 cnd y16
 (bind (fa 2 y1) fun y17=>
 bind (ld1 y17) fun y18=>
 bind (fa 4 y1) fun y19=>
 bind (ld1 y19) fun y20=>
 bind (Γ ZeT [y18]) fun y21=>
 bind (ld1 y19) fun u_22=>same u_22 y20 <|
 bind (Γ ZcH [y20]) fun y23=>
 bind (bsl 1 2 (.int .i64 0) [(0,1,y21),(1,1,y23)]) fun y24=>
 bind (Γ Zbq [y24]) fun y25=>
 ret y25)
 (bind (fa 2 y1) fun y26=>
 bind (ld1 y26) fun y27=>
 bind (bop .str .neq y27 (Value.string ⟨#[]⟩)) fun y28=>
 bind (gate y28 false 2 (bind (fa 3 y1) fun y29=>
 bind (ld1 y29) fun y30=>
 ret [y29,y30])) (c2 fun _ q31_1=>
 bind (pick y28 (Value.bool true) q31_1) fun y32=>
 bind (gate y32 false 4 (bind (fa 4 y1) fun y33=>
 bind (ld1 y33) fun y34=>
 bind (ZC y34) fun y35=>
 bind (bop .int .gtr y35 (Value.int .i64 0)) fun y36=>
 ret [y33,y34,y35,y36])) (c4 fun _ _ _ q37_3=>
 bind (pick y32 (Value.bool true) q37_3) fun y38=>
 cnd y38
 (ret (Value.int .i64 12))
 (ret (Value.int .i64 0))))))))
theorem Zuv:RA2 Zcl Zco:=ra2 Tryz.func110 (by kernel_rfl) fun _ _ _=>by kernel_rfl
def Ze8 (Γ:Zc) (x0:Value):M Value:=
 bind (bop .slc .eql x0 (Value.slice none 0 0)) fun y1=>
 cnd y1
 (ret (Value.slice none 0 0))
 (bind (bsl 1 0 (.int .u8 0) []) fun y2=>
 bind (app 1 1 y2 x0) fun y3=>
 ret y3)
theorem Zsz:RA1 Zfd Ze8:=ra1 Tryz.func112 (by kernel_rfl) fun _ _=>by kernel_rfl
def ZdV (Γ:Zc) (x0:Value):M Value:=
 bind (Zz x0) fun y1=>
 bind (fa 0 y1) fun y2=>
 bind (ld1 y2) fun y3=>
 bind (Γ WG [y3]) fun y4=>
 ret y4
theorem Zl3:RA1 ZaN ZdV:=ra1 Tryz.func113 (by kernel_rfl) fun _ _=>by kernel_rfl
def Zet (Γ:Zc) (x0:Value):M Value:=
 bind (Zz x0) fun y1=>
 bind (fa 0 y1) fun y2=>
 bind (ld1 y2) fun y3=>
 bind (Γ QI [y3]) fun y4=>
 bind (Γ ZO [y4,(Value.func (.func 150) #[] #[])]) fun y5=>
 ret y5
theorem Zn6:RA1 Zbg Zet:=ra1 Tryz.func114 (by kernel_rfl) fun _ _=>by kernel_rfl
def ZaD (Γ:Zc) (x0 x1:Value):M Value:=
 bind (alc 1 (.agg #[.string ⟨#[]⟩,.string ⟨#[]⟩,.string ⟨#[]⟩,.bool false,.slice none 0 0])) fun y1=>
 bind (Γ Qy [x0,x1]) fun y2=>
 bind (Zm y2 0) fun y3=>
 bind (Zm y2 1) fun y4=>
 bind (alc 1 (.agg #[.string ⟨#[]⟩,.bool false])) fun y5=>
 bind (stA 2 y5 y3) fun _=>
 bind (bop .int .neq y4 (Value.int .i64 0)) fun y6=>
 cnd y6
 (bind (bld (.agg #[.string ⟨#[]⟩,.string ⟨#[]⟩,.string ⟨#[]⟩,.bool false,.slice none 0 0]) []) fun y7=>
 bind (stA 5 y1 y7) fun _=>
 bind (ldA 5 y1) fun y8=>
 ret (Value.tuple #[y8,y4]))
 (bind (Zz x0) fun y9=>
 bind (fa 1 y9) fun y10=>
 bind (ld1 y10) fun y11=>
 bind (Γ Zce [y11,x1]) fun y12=>
 bind (Zm y12 0) fun y13=>
 bind (Zm y12 1) fun y14=>
 bind (fa 0 y5) fun y15=>
 bind (ld1 y15) fun y16=>
 bind (fa 1 y5) fun y17=>
 bind (ld1 y17) fun y18=>
 bind (Zz x0) fun y19=>
 bind (fa 2 y19) fun y20=>
 bind (ld1 y20) fun y21=>
 bind (Γ JP [y21,x1]) fun y22=>
 bind (ld1 y17) fun u_23=>same u_23 y18 <|
 bind (ld1 y15) fun u_24=>same u_24 y16 <|
 bind (bld (.agg #[.string ⟨#[]⟩,.string ⟨#[]⟩,.string ⟨#[]⟩,.bool false,.slice none 0 0]) [(0,1,x1),(1,1,y16),(2,1,y13),(3,1,y18),(4,1,y22)]) fun y25=>
 bind (stA 5 y1 y25) fun _=>
 bind (ldA 5 y1) fun y26=>
 ret (Value.tuple #[y26,(Value.int .i64 0)]))
theorem ZmZ:RA2 KB ZaD:=ra2 Tryz.func115 (by kernel_rfl) fun _ _ _=>by kernel_rfl
def Zd9 (Γ:Zc) (x0:Value):M Value:=
 bind (bop .int .neq x0 x0) fun y1=>
 ret y1
theorem ZlV:RA1 Ky Zd9:=ra1 Tryz.func116 (by kernel_rfl) fun _ _=>by kernel_rfl
def W9 (Γ:Zc) (x0:Value):M Value:=
 bind (bop .slc .eql x0 (Value.slice none 0 0)) fun y1=>
 cnd y1
 (ret (Value.slice none 0 0))
 (bind (bsl 1 0 (.string ⟨#[]⟩) []) fun y2=>
 bind (app 1 16 y2 x0) fun y3=>
 ret y3)
theorem Zgx:RA1 YF W9:=ra1 Tryz.func117 (by kernel_rfl) fun _ _=>by kernel_rfl
def ZeR (Γ:Zc) (x0:Value):M Value:=
 bind (Zz x0) fun y1=>
 bind (fa 1 y1) fun y2=>
 bind (ld1 y2) fun y3=>
 bind (bop .ptr .eql y3 (Value.pointer none)) fun y4=>
 cnd y4
 (bind (Zz x0) fun y5=>
 bind (fa 0 y5) fun y6=>
 bind (ld1 y6) fun y7=>
 bind (ZpY 77 y7) fun y8=>
 ret y8)
 (bind (Zz x0) fun y9=>
 bind (fa 1 y9) fun y10=>
 bind (ld1 y10) fun y11=>
 bind (ZpY 79 y11) fun y12=>
 ret y12)
theorem Zol:RA1 Ki ZeR:=ra1 Tryz.func118 (by kernel_rfl) fun _ _=>by kernel_rfl
def Zb1 (Γ:Zc) (x0 x1:Value):M Value:=
 bind (Zz x0) fun y1=>
 bind (fa 1 y1) fun y2=>
 bind (ld1 y2) fun y3=>
 bind (bop .ptr .eql y3 (Value.pointer none)) fun y4=>
 cnd y4
 (bind (Zz x0) fun y5=>
 bind (fa 0 y5) fun y6=>
 bind (ld1 y6) fun y7=>
 bind (Γ ZaM [y7,x1]) fun y8=>
 bind (Zm y8 0) fun y9=>
 bind (Zm y8 1) fun y10=>
 bind (bsl 1 1 (.string ⟨#[]⟩) [(0,1,y9)]) fun y11=>
 ret (Value.tuple #[y11,y10]))
 (bind (Zz x0) fun y12=>
 bind (fa 1 y12) fun y13=>
 bind (ld1 y13) fun y14=>
 bind (Γ KB [y14,x1]) fun y15=>
 bind (Zm y15 0) fun y16=>
 bind (Zm y15 1) fun y17=>
 bind (alc 1 (.agg #[.string ⟨#[]⟩,.string ⟨#[]⟩,.string ⟨#[]⟩,.bool false,.slice none 0 0])) fun y18=>
 bind (stA 5 y18 y16) fun _=>
 bind (fa 3 y18) fun y19=>
 bind (ld1 y19) fun y20=>
 jn (cnd y20
 (ret (.nrm [y18,y17,(Value.string ⟨#[49]⟩)]))
 (ret (.nrm [y18,y17,(Value.string ⟨#[48]⟩)]))) (c3 fun q21_0 q21_1 q21_2=>
 bind (fa 1 q21_0) fun y22=>
 bind (ld1 y22) fun y23=>
 bind (fa 2 q21_0) fun y24=>
 bind (ld1 y24) fun y25=>
 bind (bsl 1 3 (.string ⟨#[]⟩) [(0,1,y23),(1,1,y25),(2,1,q21_2)]) fun y26=>
 bind (fa 4 q21_0) fun y27=>
 bind (ld1 y27) fun y28=>
 bind (app 1 16 y26 y28) fun y29=>
 ret (Value.tuple #[y29,q21_1])) noX ret)
theorem Zga:RA2 ZaK Zb1:=ra2 Tryz.func119 (by kernel_rfl) fun _ _ _=>by kernel_rfl
def K7 (Γ:Zc) (x0:Value):M Value:=
 bind (Zz x0) fun y1=>
 bind (fa 1 y1) fun y2=>
 bind (ld1 y2) fun y3=>
 bind (bop .ptr .neq y3 (Value.pointer none)) fun y4=>
 cnd y4
 (ret (Value.int .i64 14))
 (bind (Zz x0) fun y5=>
 bind (fa 3 y5) fun y6=>
 bind (ld1 y6) fun y7=>
 bind (Γ YW [y7,(Value.int .u8 2)]) fun y8=>
 bind (uop .not y8) fun y9=>
 cnd y9
 (ret (Value.int .i64 13))
 (bind (Zz x0) fun y10=>
 bind (fa 0 y10) fun y11=>
 bind (ld1 y11) fun y12=>
 bind (Γ ZfT [y12]) fun y13=>
 bind (Zz x0) fun y14=>
 bind (fa 1 y14) fun y15=>
 bind (st1 y15 y13) fun _=>
 bind (Zz x0) fun y16=>
 bind (fa 0 y16) fun y17=>
 bind (st1 y17 (Value.pointer none)) fun _=>
 ret (Value.int .i64 0)))
theorem ZlC:RA1 W0 K7:=ra1 Tryz.func120 (by kernel_rfl) fun _ _=>by kernel_rfl
def Ke (Γ:Zc) (x0 x1 x2:Value):M Value:=
 bind (Γ Qy [x0,x1]) fun y1=>
 bind (Zm y1 0) fun y2=>
 bind (Zm y1 1) fun y3=>
 bind (alc 1 (.agg #[.string ⟨#[]⟩,.bool false])) fun y4=>
 bind (stA 2 y4 y2) fun _=>
 bind (Γ W4 [x2]) fun y5=>
 bind (Zm y5 0) fun y6=>
 bind (Zm y5 1) fun y7=>
 bind (bop .int .eql y3 (Value.int .i64 10)) fun y8=>
 cnd y8
 (ret y3)
 (bind (bop .str .neq x2 (Value.string ⟨#[]⟩)) fun y9=>
 bind (gate y9 true 2 (bind (bop .int .neq y7 (Value.int .i64 0)) fun y10=>
 ret [y7,y10])) (c2 fun _ q11_1=>
 bind (pick y9 q11_1 (Value.bool false)) fun y12=>
 cnd y12
 (ret y7)
 (bind (bop .int .neq y3 (Value.int .i64 0)) fun y13=>
 cnd y13
 (ret y3)
 (bind (Zz x0) fun y14=>
 bind (fa 1 y14) fun y15=>
 bind (ld1 y15) fun y16=>
 bind (Γ Y8 [y16,x1,x2]) fun y17=>
 ret y17))))
theorem Zlm:RA3 K3 Ke:=ra3 Tryz.func121 (by kernel_rfl) fun _ _ _ _=>by kernel_rfl
def K5 (Γ:Zc) (x0 x1 x2:Value):M Value:=
 bind (Γ Qy [x0,x1]) fun y1=>
 bind (Zm y1 0) fun y2=>
 bind (Zm y1 1) fun y3=>
 bind (alc 1 (.agg #[.string ⟨#[]⟩,.bool false])) fun y4=>
 bind (stA 2 y4 y2) fun _=>
 bind (bop .int .neq y3 (Value.int .i64 0)) fun y5=>
 cnd y5
 (ret y3)
 (bind (fa 1 y4) fun y6=>
 bind (ld1 y6) fun y7=>
 bind (bop .bool .eql y7 x2) fun y8=>
 cnd y8
 (ret (Value.int .i64 12))
 (bind (fa 1 y4) fun y9=>
 bind (st1 y9 x2) fun _=>
 bind (Zz x0) fun y10=>
 bind (fa 0 y10) fun y11=>
 bind (ld1 y11) fun y12=>
 bind (ldA 2 y4) fun y13=>
 bind (mup .str y12 x1 y13) fun _=>
 ret (Value.int .i64 0)))
theorem Zly:RA3 Yz K5:=ra3 Tryz.func122 (by kernel_rfl) fun _ _ _ _=>by kernel_rfl
def Zav (Γ:Zc) (x0 x1 x2:Value):M Value:=
 bind (Γ Qy [x0,x1]) fun y1=>
 bind (Zm y1 0) fun y2=>
 bind (Zm y1 1) fun y3=>
 bind (alc 1 (.agg #[.string ⟨#[]⟩,.bool false])) fun y4=>
 bind (stA 2 y4 y2) fun _=>
 bind (Γ Qy [x0,x2]) fun y5=>
 bind (Zm y5 0) fun y6=>
 bind (Zm y5 1) fun y7=>
 bind (alc 1 (.agg #[.string ⟨#[]⟩,.bool false])) fun y8=>
 bind (stA 2 y8 y6) fun _=>
 bind (bop .int .eql y3 (Value.int .i64 10)) fun y9=>
 bind (gate y9 false 2 (bind (bop .int .eql y7 (Value.int .i64 10)) fun y10=>
 ret [y7,y10])) (c2 fun _ q11_1=>
 bind (pick y9 (Value.bool true) q11_1) fun y12=>
 cnd y12
 (ret (Value.int .i64 10))
 (bind (bop .int .neq y3 (Value.int .i64 0)) fun y13=>
 cnd y13
 (ret y3)
 (bind (bop .int .eql y7 (Value.int .i64 0)) fun y14=>
 cnd y14
 (ret (Value.int .i64 9))
 (bind (Zz x0) fun y15=>
 bind (fa 0 y15) fun y16=>
 bind (ld1 y16) fun y17=>
 bind (mde .str y17 x1) fun _=>
 bind (Zz x0) fun y18=>
 bind (fa 0 y18) fun y19=>
 bind (ld1 y19) fun y20=>
 bind (ldA 2 y4) fun y21=>
 bind (mup .str y20 x2 y21) fun _=>
 bind (Zz x0) fun y22=>
 bind (fa 1 y22) fun y23=>
 bind (ld1 y23) fun y24=>
 bind (Γ K4 [y24,x1,x2]) fun y25=>
 bind (Zz x0) fun y26=>
 bind (fa 2 y26) fun y27=>
 bind (ld1 y27) fun y28=>
 bind (Γ Kj [y28,x1,x2]) fun y29=>
 ret (Value.int .i64 0)))))
theorem Zni:RA3 Wp Zav:=ra3 Tryz.func123 (by kernel_rfl) fun _ _ _ _=>by kernel_rfl
def Zct (Γ:Zc) (x0 x1:Value):M Value:=
 bind (Zz x0) fun y1=>
 bind (fa 2 y1) fun y2=>
 bind (ld1 y2) fun y3=>
 bind (Γ Ya [y3,x1]) fun y4=>
 ret y4
theorem ZjP:RA2 We Zct:=ra2 Tryz.func124 (by kernel_rfl) fun _ _ _=>by kernel_rfl
def Zcs (Γ:Zc) (x0 x1:Value):M Value:=
 bind (Zz x0) fun y1=>
 bind (fa 2 y1) fun y2=>
 bind (ld1 y2) fun y3=>
 bind (Γ K8 [y3,x1]) fun y4=>
 ret y4
theorem ZjJ:RA2 Wi Zcs:=ra2 Tryz.func125 (by kernel_rfl) fun _ _ _=>by kernel_rfl
def ZbG (Γ:Zc) (x0 x1 x2:Value):M Value:=
 bind (Γ Wq [x0,x1,x2]) fun y1=>
 bind (bop .int .neq y1 (Value.int .i64 0)) fun y2=>
 cnd y2
 (ret y1)
 (bind (Zz x0) fun y3=>
 bind (fa 2 y3) fun y4=>
 bind (ld1 y4) fun y5=>
 bind (Γ Yx [y5,x1,x2]) fun y6=>
 ret y6)
theorem ZpS:RA3 Zan ZbG:=ra3 Tryz.func126 (by kernel_rfl) fun _ _ _ _=>by kernel_rfl
def Zbd (Γ:Zc) (x0 x1 x2:Value):M Value:=
 bind (Γ Wq [x0,x1,x2]) fun y1=>
 bind (bop .int .neq y1 (Value.int .i64 0)) fun y2=>
 cnd y2
 (ret y1)
 (bind (Zz x0) fun y3=>
 bind (fa 2 y3) fun y4=>
 bind (ld1 y4) fun y5=>
 bind (Γ KJ [y5,x1,x2]) fun y6=>
 ret y6)
theorem ZnW:RA3 WH Zbd:=ra3 Tryz.func127 (by kernel_rfl) fun _ _ _ _=>by kernel_rfl
def ZfL (Γ:Zc) (x0 x1:Value):M Value:=
 bind (Zz x0) fun y1=>
 bind (fa 1 y1) fun y2=>
 bind (ld1 y2) fun y3=>
 bind (Γ Za3 [y3,x1]) fun y4=>
 bind (Zm y4 0) fun y5=>
 bind (Zm y4 1) fun y6=>
 ret (Value.tuple #[y5,y6])
theorem ZpO:RA2 ZbN ZfL:=ra2 Tryz.func128 (by kernel_rfl) fun _ _ _=>by kernel_rfl
def Zds (Γ:Zc) (x0 x1:Value):M Value:=
 bind (Zz x0) fun y1=>
 bind (fa 2 y1) fun y2=>
 bind (ld1 y2) fun y3=>
 bind (Γ K0 [y3,x1]) fun y4=>
 bind (Zm y4 0) fun y5=>
 bind (Zm y4 1) fun y6=>
 ret (Value.tuple #[y5,y6])
theorem Zlr:RA2 WO Zds:=ra2 Tryz.func129 (by kernel_rfl) fun _ _ _=>by kernel_rfl
def Ztk.l1 (Γ:Zc) (s2 s3 s6 s7 s8:Value):M Out:=
 bind (bop .int .lss s8 s7) fun y3=>
 cnd y3
 (bind (ixa 5 s6 s8) fun y4=>
 bind (ldA 5 y4) fun y5=>
 bind (alc 1 (.agg #[.string ⟨#[]⟩,.string ⟨#[]⟩,.string ⟨#[]⟩,.bool false,.slice none 0 0])) fun y6=>
 bind (stA 5 y6 y5) fun _=>
 bind (fa 0 y6) fun y7=>
 bind (ld1 y7) fun y8=>
 bind (fa 1 y6) fun y9=>
 bind (ld1 y9) fun y10=>
 bind (bld (.agg #[.string ⟨#[]⟩,.string ⟨#[]⟩,.string ⟨#[]⟩,.bool false,.slice none 0 0]) [(0,1,y8),(1,1,y10)]) fun y11=>
 bind (bsl 5 1 (.agg #[.string ⟨#[]⟩,.string ⟨#[]⟩,.string ⟨#[]⟩,.bool false,.slice none 0 0]) [(0,5,y11)]) fun y12=>
 bind (app 5 80 s3 y12) fun y13=>
 bind (bop .int .add s8 (Value.int .i64 1)) fun y14=>
 ret (.nrm [s2,y13,s6,s7,y14]))
 (ret (.ext 0 [s2,s3]))
def Ztk (Γ:Zc) (x0:Value):M Value:=
 bind (alc 1 (.agg #[.slice none 0 0,.slice none 0 0])) fun y1=>
 bind (ZC x0) fun y2=>
 jn (Zi (c5 (Ztk.l1 Γ)) [y1,(Value.slice none 0 0),x0,y2,(Value.int .i64 0)]) noN (xk 0 (c2 fun q16_0 q16_1=>
 bind (bld (.agg #[.slice none 0 0,.slice none 0 0]) [(0,1,q16_1)]) fun y17=>
 bind (stA 2 q16_0 y17) fun _=>
 bind (ldA 2 q16_0) fun y18=>
 ret y18) noX) ret
def Zm1.l1 (Γ:Zc) (s0 s5 s12 s13 s14:Value):M Out:=
 bind (bop .int .lss s14 s13) fun y5=>
 cnd y5
 (bind (ixa 5 s12 s14) fun y6=>
 bind (ldA 5 y6) fun y7=>
 bind (alc 1 (.agg #[.string ⟨#[]⟩,.string ⟨#[]⟩,.string ⟨#[]⟩,.bool false,.slice none 0 0])) fun y8=>
 bind (stA 5 y8 y7) fun _=>
 bind (ldA 5 y8) fun y9=>
 bind (Γ ZxA [s0,y9]) fun y10=>
 bind (bop .str .add s5 y10) fun y11=>
 bind (bop .int .add s14 (Value.int .i64 1)) fun y12=>
 ret (.nrm [s0,y11,s12,s13,y12]))
 (ret (.ext 0 [s5]))
def Zm1 (Γ:Zc) (x0 x1:Value):M Value:=
 bind (ZC x1) fun y1=>
 bind (cvi .u64 y1) fun y2=>
 bind (Γ Zhl [y2,(Value.int .i64 2)]) fun y3=>
 bind (ZC x1) fun y4=>
 jn (Zi (c5 (Zm1.l1 Γ)) [x0,y3,x1,y4,(Value.int .i64 0)]) noN (xk 0 (c1 fun q14_0=>
 ret q14_0) noX) ret
def Zq0.l1 (Γ:Zc) (s3 s10 s11 s12:Value):M Out:=
 bind (bop .int .lss s12 s11) fun y5=>
 cnd y5
 (bind (ixa 1 s10 s12) fun y6=>
 bind (ld1 y6) fun y7=>
 bind (Γ ZoK [y7]) fun y8=>
 bind (bop .str .add s3 y8) fun y9=>
 bind (bop .int .add s12 (Value.int .i64 1)) fun y10=>
 ret (.nrm [y9,s10,s11,y10]))
 (ret (.ext 0 [s3]))
def Zq0 (Γ:Zc) (x0:Value):M Value:=
 bind (ZC x0) fun y1=>
 bind (cvi .u64 y1) fun y2=>
 bind (Γ Zhl [y2,(Value.int .i64 2)]) fun y3=>
 bind (ZC x0) fun y4=>
 jn (Zi (c4 (Zq0.l1 Γ)) [y3,x0,y4,(Value.int .i64 0)]) noN (xk 0 (c1 fun q12_0=>
 ret q12_0) noX) ret
def Zrq.l1 (Γ:Zc) (s0 s5 s6 s7:Value):M Out:=
 bind (bop .int .lss s7 s6) fun y1=>
 cnd y1
 (bind (bop .int .rem s0 (Value.int .u64 256)) fun y2=>
 bind (cvi .u8 y2) fun y3=>
 bind (bsl 1 1 (.int .u8 0) [(0,1,y3)]) fun y4=>
 bind (b2s y4) fun y5=>
 bind (bop .str .add s5 y5) fun y6=>
 bind (bop .int .quo s0 (Value.int .u64 256)) fun y7=>
 bind (bop .int .add s7 (Value.int .i64 1)) fun y8=>
 ret (.nrm [y7,y6,s6,y8]))
 (ret (.ext 0 [s5]))
def Zrq (Γ:Zc) (x0 x1:Value):M Value:=
 jn (Zi (c4 (Zrq.l1 Γ)) [x0,(Value.string ⟨#[]⟩),x1,(Value.int .i64 0)]) noN (xk 0 (c1 fun q10_0=>
 ret q10_0) noX) ret
def ZjY (Γ:Zc):M Value:=
 bind (mkm) fun y1=>
 bind (bld (.agg #[.map none]) [(0,1,y1)]) fun y2=>
 bind (alc 1 y2) fun y3=>
 ret y3
theorem ZwI:RA0 Zhe ZjY:=ra0 Tryz.func145 (by kernel_rfl) fun _=>by kernel_rfl
def ZhV.l1 (Γ:Zc) (s5 s10 s11 s12:Value):M Out:=
 bind (bop .int .lss s12 s11) fun y3=>
 cnd y3
 (bind (ixa 1 s10 s12) fun y4=>
 bind (ld1 y4) fun y5=>
 bind (cvi .u64 y5) fun y6=>
 bind (bop .int .mul (Value.int .i64 8) s12) fun y7=>
 bind (bop .int .shl y6 y7) fun y8=>
 bind (bop .int .or s5 y8) fun y9=>
 bind (bop .int .add s12 (Value.int .i64 1)) fun y10=>
 ret (.nrm [y9,s10,s11,y10]))
 (ret (.ext 0 [s5]))
def ZhV (Γ:Zc) (x0 x1:Value):M Value:=
 bind (Γ ZnR [x0,x1]) fun y1=>
 bind (ZC y1) fun y2=>
 jn (Zi (c4 (ZhV.l1 Γ)) [(Value.int .u64 0),y1,y2,(Value.int .i64 0)]) noN (xk 0 (c1 fun q12_0=>
 ret q12_0) noX) ret
def ZgG (Γ:Zc) (x0 x1:Value):M Value:=
 bind (Γ Za5 [x0,x1]) fun y1=>
 ret y1
theorem Zq6:RA2 Qa ZgG:=ra2 Tryz.func150 (by kernel_rfl) fun _ _ _=>by kernel_rfl
def Q5.l1 (Γ:Zc) (s1 s5 s13 s14 s15:Value):M Out:=
 bind (bop .int .lss s15 s14) fun y2=>
 cnd y2
 (bind (ixa 5 s13 s15) fun y3=>
 bind (ldA 5 y3) fun y4=>
 bind (alc 1 (.agg #[.string ⟨#[]⟩,.string ⟨#[]⟩,.string ⟨#[]⟩,.bool false,.slice none 0 0])) fun y5=>
 bind (stA 5 y5 y4) fun _=>
 bind (ldA 5 y5) fun y6=>
 bind (Γ Zcl [(Value.int .i64 2),y6]) fun y7=>
 bind (bop .int .neq y7 (Value.int .i64 0)) fun y8=>
 cnd y8
 (ret (.ret y7))
 (bind (fa 0 y5) fun y9=>
 bind (ld1 y9) fun y10=>
 bind (bsl 1 1 (.string ⟨#[]⟩) [(0,1,y10)]) fun y11=>
 bind (app 1 16 s5 y11) fun y12=>
 bind (bop .int .add s15 (Value.int .i64 1)) fun y13=>
 ret (.nrm [s1,y12,s13,s14,y13])))
 (ret (.ext 0 [s1,s5]))
def Q5.l2 (Γ:Zc) (s1 s35 s36 s37:Value):M Out:=
 bind (bop .int .lss s37 s36) fun y19=>
 cnd y19
 (bind (ixa 1 s35 s37) fun y20=>
 bind (ld1 y20) fun y21=>
 bind (Γ QS [y21]) fun y22=>
 bind (bop .int .neq y22 (Value.int .i64 0)) fun y23=>
 cnd y23
 (ret (.ret y22))
 (bind (bop .int .add s37 (Value.int .i64 1)) fun y24=>
 ret (.nrm [s1,s35,s36,y24])))
 (ret (.ext 2 [s1]))
def Q5 (Γ:Zc) (x0 x1:Value):M Value:=
 bind (ZC x0) fun y1=>
 jn (Zi (c5 (Q5.l1 Γ)) [x1,(Value.slice none 0 0),x0,y1,(Value.int .i64 0)]) noN (xk 0 (c2 fun q15_0 q15_1=>
 bind (Γ KO [q15_1,(Value.int .i64 12)]) fun y16=>
 bind (bop .int .neq y16 (Value.int .i64 0)) fun y17=>
 cnd y17
 (ret y16)
 (bind (ZC q15_0) fun y18=>
 jn (Zi (c4 (Q5.l2 Γ)) [q15_0,q15_0,y18,(Value.int .i64 0)]) noN (xk 2 (c1 fun q26_0=>
 bind (Γ KO [q26_0,(Value.int .i64 6)]) fun y27=>
 ret y27) noX) ret)) noX) ret
theorem ZsT:RA2 ZcO Q5:=ra2 Tryz.func152 (by kernel_rfl) fun _ _ _=>by kernel_rfl
def Zj3 (Γ:Zc):M Value:=
 bind (mkm) fun y1=>
 bind (Γ ZiC []) fun y2=>
 bind (Γ Zhe []) fun y3=>
 bind (bld (.agg #[.map none,.pointer none,.pointer none]) [(0,1,y1),(1,1,y2),(2,1,y3)]) fun y4=>
 bind (alc 1 y4) fun y5=>
 ret y5
theorem ZvQ:RA0 Ze9 Zj3:=ra0 Tryz.func153 (by kernel_rfl) fun _=>by kernel_rfl
def Yy (Γ:Zc) (x0 x1:Value):M Value:=
 bind (Γ JD [x0,x1,(Value.slice none 0 0)]) fun y1=>
 bind (Zm y1 0) fun y2=>
 bind (Zm y1 1) fun y3=>
 bind (bop .int .eql y3 (Value.int .i64 0)) fun y4=>
 cnd y4
 (ret (Value.int .i64 9))
 (bind (bop .int .neq y3 (Value.int .i64 8)) fun y5=>
 cnd y5
 (ret y3)
 (bind (Zz x0) fun y6=>
 bind (fa 0 y6) fun y7=>
 bind (ld1 y7) fun y8=>
 bind (lenM y8) fun y9=>
 bind (bop .int .geq y9 (Value.int .i64 6)) fun y10=>
 cnd y10
 (ret (Value.int .i64 7))
 (bind (Zz x0) fun y11=>
 bind (fa 0 y11) fun y12=>
 bind (ld1 y12) fun y13=>
 bind (mkm) fun y14=>
 bind (mup .str y13 x1 y14) fun _=>
 ret (Value.int .i64 0))))
theorem Zlw:RA2 Ya Yy:=ra2 Tryz.func154 (by kernel_rfl) fun _ _ _=>by kernel_rfl
def K6 (Γ:Zc) (x0 x1 x2:Value):M Value:=
 bind (bsl 1 1 (.string ⟨#[]⟩) [(0,1,x2)]) fun y1=>
 bind (Γ JD [x0,x1,y1]) fun y2=>
 bind (Zm y2 0) fun y3=>
 bind (Zm y2 1) fun y4=>
 bind (bop .int .neq y4 (Value.int .i64 0)) fun y5=>
 cnd y5
 (ret y4)
 (bind (lkp .str (.agg #[]) true y3 x2) fun y6=>
 bind (Zm y6 0) fun y7=>
 bind (Zm y6 1) fun y8=>
 bind (alc 1 (.agg #[])) fun y9=>
 bind (stA 0 y9 y7) fun _=>
 cnd y8
 (ret (Value.int .i64 9))
 (bind (bld (.agg #[]) []) fun y10=>
 bind (mup .str y3 x2 y10) fun _=>
 ret (Value.int .i64 0)))
theorem ZlB:RA3 Yx K6:=ra3 Tryz.func155 (by kernel_rfl) fun _ _ _ _=>by kernel_rfl
def KI (Γ:Zc) (x0 x1 x2:Value):M Value:=
 bind (Γ QS [x1]) fun y1=>
 bind (bop .int .neq y1 (Value.int .i64 0)) fun y2=>
 cnd y2
 (ret y1)
 (bind (bop .str .eql x2 (Value.string ⟨#[]⟩)) fun y3=>
 cnd y3
 (bind (Γ Jp [x0,x1]) fun y4=>
 ret (Value.int .i64 0))
 (bind (Γ W4 [x2]) fun y5=>
 bind (Zm y5 0) fun y6=>
 bind (Zm y5 1) fun y7=>
 bind (bop .int .neq y7 (Value.int .i64 0)) fun y8=>
 cnd y8
 (ret y7)
 (bind (Zz x0) fun y9=>
 bind (fa 0 y9) fun y10=>
 bind (ld1 y10) fun y11=>
 bind (lkp .str (.string ⟨#[]⟩) true y11 y6) fun y12=>
 bind (Zm y12 0) fun y13=>
 bind (Zm y12 1) fun y14=>
 bind (gate y14 true 3 (bind (bop .str .neq y13 x1) fun y15=>
 ret [y13,x1,y15])) (c3 fun _ _ q16_2=>
 bind (pick y14 q16_2 (Value.bool false)) fun y17=>
 cnd y17
 (ret (Value.int .i64 9))
 (bind (Γ Jp [x0,x1]) fun y18=>
 bind (Zz x0) fun y19=>
 bind (fa 0 y19) fun y20=>
 bind (ld1 y20) fun y21=>
 bind (Zz x0) fun y22=>
 bind (fa 1 y22) fun y23=>
 bind (ld1 y23) fun y24=>
 bind (men .str (.string ⟨#[]⟩) y21 y6) fun y25=>
 bind (Zm y25 1) fun y26=>
 bind (ens y21 y26 x1) fun _=>
 bind (men .str (.string ⟨#[]⟩) y24 x1) fun y27=>
 bind (Zm y27 1) fun y28=>
 bind (ens y24 y28 y6) fun _=>
 ret (Value.int .i64 0))))))
theorem Zqa:RA3 Y8 KI:=ra3 Tryz.func156 (by kernel_rfl) fun _ _ _ _=>by kernel_rfl
def YK (Γ:Zc) (x0:Value):M Value:=
 bind (alc 1 x0) fun y1=>
 ret (Value.func (.func 208) #[] #[y1])
theorem Zch:RA1 JH YK:=ra1 Tryz.func158 (by kernel_rfl) fun _ _=>by kernel_rfl
def J2.l1 (Γ:Zc) (s5 s6 s7:Value):M Out:=
 bind (bop .int .lss s7 s6) fun y2=>
 cnd y2
 (bind (ixa 1 s5 s7) fun y3=>
 bind (ld1 y3) fun y4=>
 bind (bop .int .neq y4 (Value.int .i64 0)) fun y5=>
 cnd y5
 (ret (.ret y4))
 (bind (bop .int .add s7 (Value.int .i64 1)) fun y6=>
 ret (.nrm [s5,s6,y6])))
 (ret (.ext 0 []))
def J2 (Γ:Zc) (x0:Value):M Value:=
 bind (ZC x0) fun y1=>
 jn (Zi (c3 (J2.l1 Γ)) [x0,y1,(Value.int .i64 0)]) noN (xk 0 (c0 (ret (Value.int .i64 0))) noX) ret
theorem Zuw:RA1 Zbq J2:=ra1 Tryz.func159 (by kernel_rfl) fun _ _=>by kernel_rfl
def ZkH (Γ:Zc) (x0:Value):M Value:=
 bind (Γ Zaz [x0]) fun y1=>
 bind (uop .not y1) fun y2=>
 cnd y2
 (ret (Value.int .i64 10))
 (ret (Value.int .i64 0))
theorem ZvK:RA1 QS ZkH:=ra1 Tryz.func160 (by kernel_rfl) fun _ _=>by kernel_rfl
def ZkZ (Γ:Zc) (x0:Value):M Value:=
 bind (bop .str .eql x0 (Value.string ⟨#[]⟩)) fun y1=>
 bind (gate y1 false 3 (bind (JM x0) fun y2=>
 bind (bop .int .gtr y2 (Value.int .i64 12)) fun y3=>
 ret [x0,y2,y3])) (c3 fun _ _ q4_2=>
 bind (pick y1 (Value.bool true) q4_2) fun y5=>
 bind (gate y5 false 4 (bind (Γ Kh [x0,(Value.func (.func 210) #[] #[])]) fun y6=>
 bind (uop .not y6) fun y7=>
 ret [x0,(Value.func (.func 210) #[] #[]),y6,y7])) (c4 fun _ _ _ q8_3=>
 bind (pick y5 (Value.bool true) q8_3) fun y9=>
 cnd y9
 (ret (Value.int .i64 4))
 (ret (Value.int .i64 0))))
theorem Zvm:RA1 KZ ZkZ:=ra1 Tryz.func161 (by kernel_rfl) fun _ _=>by kernel_rfl
def Zfg (Γ:Zc) (x0:Value):M Value:=
 bind (bop .str .eql x0 (Value.string ⟨#[]⟩)) fun y1=>
 cnd y1
 (ret (Value.int .i64 0))
 (bind (Γ W4 [x0]) fun y2=>
 bind (Zm y2 0) fun y3=>
 bind (Zm y2 1) fun y4=>
 bind (bop .int .neq y4 (Value.int .i64 0)) fun y5=>
 bind (gate y5 false 3 (bind (bop .str .neq y3 x0) fun y6=>
 ret [y3,x0,y6])) (c3 fun _ _ q7_2=>
 bind (pick y5 (Value.bool true) q7_2) fun y8=>
 cnd y8
 (ret (Value.int .i64 11))
 (ret (Value.int .i64 0))))
theorem Zwn:RA1 ZeT Zfg:=ra1 Tryz.func162 (by kernel_rfl) fun _ _=>by kernel_rfl
def Jw.l1 (Γ:Zc) (s0 s10 s11 s12:Value):M Out:=
 bind (bop .int .lss s12 s11) fun y4=>
 cnd y4
 (bind (ixa 1 s10 s12) fun y5=>
 bind (ld1 y5) fun y6=>
 bind (Γ QS [y6]) fun y7=>
 bind (bop .int .neq y7 (Value.int .i64 0)) fun y8=>
 cnd y8
 (ret (.ret y7))
 (bind (bop .int .add s12 (Value.int .i64 1)) fun y9=>
 ret (.nrm [s0,s10,s11,y9])))
 (ret (.ext 0 [s0]))
def Jw.l2 (Γ:Zc) (s0 s6:Value):M Out:=
 bind (ZC s0) fun y12=>
 bind (bop .int .lss s6 y12) fun y13=>
 cnd y13
 (bind (bop .int .sub s6 (Value.int .i64 1)) fun y14=>
 bind (ixa 1 s0 y14) fun y15=>
 bind (ld1 y15) fun y16=>
 bind (ixa 1 s0 s6) fun y17=>
 bind (ld1 y17) fun y18=>
 bind (bop .str .geq y16 y18) fun y19=>
 cnd y19
 (ret (.ret (Value.int .i64 9)))
 (bind (bop .int .add s6 (Value.int .i64 1)) fun y20=>
 ret (.nrm [s0,y20])))
 (ret (.ext 2 []))
def Jw (Γ:Zc) (x0:Value):M Value:=
 bind (ZC x0) fun y1=>
 bind (bop .int .gtr y1 (Value.int .i64 6)) fun y2=>
 cnd y2
 (ret (Value.int .i64 7))
 (bind (ZC x0) fun y3=>
 jn (Zi (c4 (Jw.l1 Γ)) [x0,x0,y3,(Value.int .i64 0)]) noN (xk 0 (c1 fun q11_0=>
 jn (Zi (c2 (Jw.l2 Γ)) [q11_0,(Value.int .i64 1)]) noN (xk 2 (c0 (ret (Value.int .i64 0))) noX) ret) noX) ret)
theorem Zte:RA1 ZcH Jw:=ra1 Tryz.func163 (by kernel_rfl) fun _ _=>by kernel_rfl
def ZbR (Γ:Zc) (x0:Value):M Value:=
 bind (Γ Ja [x0]) fun y1=>
 bind (Γ ZO [y1,(Value.func (.func 150) #[] #[])]) fun y2=>
 ret y2
theorem Zir:RA1 WG ZbR:=ra1 Tryz.func164 (by kernel_rfl) fun _ _=>by kernel_rfl
def Jm (Γ:Zc) (x0:Value):M Value:=
 bind (alc 1 x0) fun y1=>
 ret (Value.func (.func 214) #[] #[y1])
theorem WQ:RA1 QI Jm:=ra1 Tryz.func165 (by kernel_rfl) fun _ _=>by kernel_rfl
def Wk (Γ:Zc) (x0 x1:Value):M Value:=
 bind (alc 1 (.agg #[.string ⟨#[]⟩,.bool false])) fun y1=>
 bind (Γ QS [x1]) fun y2=>
 bind (bop .int .neq y2 (Value.int .i64 0)) fun y3=>
 cnd y3
 (bind (bld (.agg #[.string ⟨#[]⟩,.bool false]) []) fun y4=>
 bind (stA 2 y1 y4) fun _=>
 bind (ldA 2 y1) fun y5=>
 ret (Value.tuple #[y5,y2]))
 (bind (Zz x0) fun y6=>
 bind (fa 0 y6) fun y7=>
 bind (ld1 y7) fun y8=>
 bind (lkp .str (.agg #[.string ⟨#[]⟩,.bool false]) true y8 x1) fun y9=>
 bind (Zm y9 0) fun y10=>
 bind (Zm y9 1) fun y11=>
 bind (alc 1 (.agg #[.string ⟨#[]⟩,.bool false])) fun y12=>
 bind (stA 2 y12 y10) fun _=>
 bind (uop .not y11) fun y13=>
 cnd y13
 (bind (bld (.agg #[.string ⟨#[]⟩,.bool false]) []) fun y14=>
 bind (stA 2 y1 y14) fun _=>
 bind (ldA 2 y1) fun y15=>
 ret (Value.tuple #[y15,(Value.int .i64 8)]))
 (bind (ldA 2 y12) fun y16=>
 bind (stA 2 y1 y16) fun _=>
 bind (ldA 2 y1) fun y17=>
 ret (Value.tuple #[y17,(Value.int .i64 0)])))
theorem ZlT:RA2 Qy Wk:=ra2 Tryz.func166 (by kernel_rfl) fun _ _ _=>by kernel_rfl
def ZgK (Γ:Zc) (x0 x1:Value):M Value:=
 bind (Zz x0) fun y1=>
 bind (fa 1 y1) fun y2=>
 bind (ld1 y2) fun y3=>
 bind (lkp .str (.string ⟨#[]⟩) true y3 x1) fun y4=>
 bind (Zm y4 0) fun y5=>
 bind (Zm y4 1) fun y6=>
 ret (Value.tuple #[y5,y6])
theorem ZrW:RA2 Zce ZgK:=ra2 Tryz.func167 (by kernel_rfl) fun _ _ _=>by kernel_rfl
def Zfc (Γ:Zc) (x0 x1:Value):M Value:=
 bind (alc 1 x0) fun y1=>
 bind (alc 1 x1) fun y2=>
 bind (ld1 y1) fun y3=>
 bind (Γ ZaN [y3]) fun y4=>
 bind (Γ Z4 [y4,(Value.func (.func 216) #[] #[y1,y2])]) fun y5=>
 ret y5
theorem Zos:RA2 JP Zfc:=ra2 Tryz.func168 (by kernel_rfl) fun _ _ _=>by kernel_rfl
def ZdT (Γ:Zc) (x0 x1:Value):M Value:=
 bind (Γ JQ [x0,x1]) fun y1=>
 bind (bsl 1 1 .nilFunc [(0,1,y1)]) fun y2=>
 bind (Γ Kk [x1,y2]) fun y3=>
 bind (bop .int .neq y3 (Value.int .i64 0)) fun y4=>
 cnd y4
 (ret (Value.tuple #[(Value.string ⟨#[]⟩),y3]))
 (bind (Zz x0) fun y5=>
 bind (fa 0 y5) fun y6=>
 bind (ld1 y6) fun y7=>
 bind (lkp .str (.string ⟨#[]⟩) false y7 x1) fun y8=>
 ret (Value.tuple #[y8,(Value.int .i64 0)]))
theorem ZlO:RA2 ZaM ZdT:=ra2 Tryz.func169 (by kernel_rfl) fun _ _ _=>by kernel_rfl
def Wz.l1 (Γ:Zc) (s3 s11 s12 s13:Value):M Out:=
 bind (bop .int .lss s13 s12) fun y4=>
 cnd y4
 (bind (ixa 5 s11 s13) fun y5=>
 bind (ldA 5 y5) fun y6=>
 bind (alc 1 (.agg #[.string ⟨#[]⟩,.string ⟨#[]⟩,.string ⟨#[]⟩,.bool false,.slice none 0 0])) fun y7=>
 bind (stA 5 y7 y6) fun _=>
 bind (ldA 5 y7) fun y8=>
 bind (Γ ZkE [y8]) fun y9=>
 bind (bsl 5 1 (.agg #[.string ⟨#[]⟩,.string ⟨#[]⟩,.string ⟨#[]⟩,.bool false,.slice none 0 0]) [(0,5,y9)]) fun y10=>
 bind (app 5 80 s3 y10) fun y11=>
 bind (bop .int .add s13 (Value.int .i64 1)) fun y12=>
 ret (.nrm [y11,s11,s12,y12]))
 (ret (.ext 0 [s3]))
def Wz (Γ:Zc) (x0:Value):M Value:=
 bind (bop .ptr .eql x0 (Value.pointer none)) fun y1=>
 cnd y1
 (ret (Value.pointer none))
 (bind (Γ ZaY [x0]) fun y2=>
 bind (ZC y2) fun y3=>
 jn (Zi (c4 (Wz.l1 Γ)) [(Value.slice none 0 0),y2,y3,(Value.int .i64 0)]) noN (xk 0 (c1 fun q14_0=>
 bind (Γ ZcI [q14_0,(Value.slice none 0 0)]) fun y15=>
 bind (Zm y15 0) fun y16=>
 bind (Zm y15 1) fun y17=>
 ret y16) noX) ret)
theorem Zuq:RA1 ZfT Wz:=ra1 Tryz.func170 (by kernel_rfl) fun _ _=>by kernel_rfl
def Kq.l1 (Γ:Zc) (s0 s35 s36 s37:Value):M Out:=
 bind (bop .int .lss s37 s36) fun y19=>
 cnd y19
 (bind (ixa 1 s35 s37) fun y20=>
 bind (ld1 y20) fun y21=>
 bind (bop .str .eql y21 (Value.string ⟨#[]⟩)) fun y22=>
 bind (gate y22 false 3 (bind (Γ Kh [y21,(Value.func (.func 223) #[] #[])]) fun y23=>
 bind (uop .not y23) fun y24=>
 ret [y21,y23,y24])) (c3 fun _ _ q25_2=>
 bind (pick y22 (Value.bool true) q25_2) fun y26=>
 cnd y26
 (ret (.ret (Value.tuple #[(Value.string ⟨#[]⟩),(Value.int .i64 11)])))
 (bind (bop .int .add s37 (Value.int .i64 1)) fun y27=>
 ret (.nrm [s0,s35,s36,y27]))))
 (ret (.ext 0 [s0]))
def Kq (Γ:Zc) (x0:Value):M Value:=
 bind (JM x0) fun y1=>
 bind (bop .int .gtr y1 (Value.int .i64 20)) fun y2=>
 cnd y2
 (ret (Value.tuple #[(Value.string ⟨#[]⟩),(Value.int .i64 11)]))
 (bind (Γ Ze3 [x0]) fun y3=>
 bind (Γ Zax [y3,(Value.string ⟨#[64]⟩)]) fun y4=>
 bind (Zm y4 0) fun y5=>
 bind (Zm y4 1) fun y6=>
 bind (Zm y4 2) fun y7=>
 bind (Γ ZbJ [y6,(Value.string ⟨#[46]⟩)]) fun y8=>
 bind (uop .not y7) fun y9=>
 bind (gate y9 false 3 (bind (Γ Zaz [y5]) fun y10=>
 bind (uop .not y10) fun y11=>
 ret [y5,y10,y11])) (c3 fun _ _ q12_2=>
 bind (pick y9 (Value.bool true) q12_2) fun y13=>
 bind (gate y13 false 3 (bind (ZC y8) fun y14=>
 bind (bop .int .lss y14 (Value.int .i64 2)) fun y15=>
 ret [y8,y14,y15])) (c3 fun _ _ q16_2=>
 bind (pick y13 (Value.bool true) q16_2) fun y17=>
 cnd y17
 (ret (Value.tuple #[(Value.string ⟨#[]⟩),(Value.int .i64 11)]))
 (bind (ZC y8) fun y18=>
 jn (Zi (c4 (Kq.l1 Γ)) [y3,y8,y18,(Value.int .i64 0)]) noN (xk 0 (c1 fun q29_0=>
 ret (Value.tuple #[q29_0,(Value.int .i64 0)])) noX) ret))))
theorem Zwf:RA1 W4 Kq:=ra1 Tryz.func171 (by kernel_rfl) fun _ _=>by kernel_rfl
def Ka (Γ:Zc) (x0 x1 x2:Value):M Value:=
 bind (Γ QS [x2]) fun y1=>
 bind (bop .int .neq y1 (Value.int .i64 0)) fun y2=>
 cnd y2
 (ret y1)
 (bind (Zz x0) fun y3=>
 bind (fa 1 y3) fun y4=>
 bind (ld1 y4) fun y5=>
 bind (lkp .str (.string ⟨#[]⟩) true y5 x1) fun y6=>
 bind (Zm y6 0) fun y7=>
 bind (Zm y6 1) fun y8=>
 bind (Zz x0) fun y9=>
 bind (fa 1 y9) fun y10=>
 bind (ld1 y10) fun y11=>
 bind (lkp .str (.string ⟨#[]⟩) true y11 x2) fun y12=>
 bind (Zm y12 0) fun y13=>
 bind (Zm y12 1) fun y14=>
 bind (uop .not y8) fun y15=>
 cnd y15
 (ret (Value.int .i64 8))
 (bind (gate y14 true 3 (bind (bop .str .neq x2 x1) fun y16=>
 ret [x2,x1,y16])) (c3 fun _ _ q17_2=>
 bind (pick y14 q17_2 (Value.bool false)) fun y18=>
 cnd y18
 (ret (Value.int .i64 9))
 (bind (Γ Jp [x0,x1]) fun y19=>
 bind (Zz x0) fun y20=>
 bind (fa 0 y20) fun y21=>
 bind (ld1 y21) fun y22=>
 bind (Zz x0) fun y23=>
 bind (fa 1 y23) fun y24=>
 bind (ld1 y24) fun y25=>
 bind (men .str (.string ⟨#[]⟩) y22 y7) fun y26=>
 bind (Zm y26 1) fun y27=>
 bind (ens y22 y27 x2) fun _=>
 bind (men .str (.string ⟨#[]⟩) y25 x2) fun y28=>
 bind (Zm y28 1) fun y29=>
 bind (ens y25 y29 y7) fun _=>
 ret (Value.int .i64 0)))))
theorem Zlj:RA3 K4 Ka:=ra3 Tryz.func172 (by kernel_rfl) fun _ _ _ _=>by kernel_rfl
def QF.l1 (Γ:Zc) (s0 s1 s2 s26 s27 s28:Value):M Out:=
 bind (bop .int .lss s28 s27) fun y10=>
 cnd y10
 (bind (ixa 1 s26 s28) fun y11=>
 bind (ld1 y11) fun y12=>
 bind (Zz s0) fun y13=>
 bind (fa 0 y13) fun y14=>
 bind (ld1 y14) fun y15=>
 bind (lkp .str (.map none) false y15 y12) fun y16=>
 bind (mde .str y16 s1) fun _=>
 bind (Zz s0) fun y17=>
 bind (fa 0 y17) fun y18=>
 bind (ld1 y18) fun y19=>
 bind (lkp .str (.map none) false y19 y12) fun y20=>
 bind (bld (.agg #[]) []) fun y21=>
 bind (mup .str y20 s2 y21) fun _=>
 bind (bop .int .add s28 (Value.int .i64 1)) fun y22=>
 ret (.nrm [s0,s1,s2,s26,s27,y22]))
 (ret (.ext 0 []))
def QF (Γ:Zc) (x0 x1 x2:Value):M Value:=
 bind (bsl 1 1 (.string ⟨#[]⟩) [(0,1,x2)]) fun y1=>
 bind (Γ ZaH [y1]) fun y2=>
 bind (bop .int .neq y2 (Value.int .i64 0)) fun y3=>
 cnd y3
 (ret y2)
 (bind (bop .str .eql x1 x2) fun y4=>
 cnd y4
 (ret (Value.int .i64 0))
 (bind (Γ JP [x0,x2]) fun y5=>
 bind (ZC y5) fun y6=>
 bind (bop .int .gtr y6 (Value.int .i64 0)) fun y7=>
 cnd y7
 (ret (Value.int .i64 9))
 (bind (Γ JP [x0,x1]) fun y8=>
 bind (ZC y8) fun y9=>
 jn (Zi (c6 (QF.l1 Γ)) [x0,x1,x2,y8,y9,(Value.int .i64 0)]) noN (xk 0 (c0 (ret (Value.int .i64 0))) noX) ret)))
theorem Zjo:RA3 Kj QF:=ra3 Tryz.func173 (by kernel_rfl) fun _ _ _ _=>by kernel_rfl
def WT (Γ:Zc) (x0 x1:Value):M Value:=
 bind (Γ JD [x0,x1,(Value.slice none 0 0)]) fun y1=>
 bind (Zm y1 0) fun y2=>
 bind (Zm y1 1) fun y3=>
 bind (bop .int .eql y3 (Value.int .i64 0)) fun y4=>
 jn (cnd y4
 (bind (Zz x0) fun y5=>
 bind (fa 0 y5) fun y6=>
 bind (ld1 y6) fun y7=>
 bind (mde .str y7 x1) fun _=>
 ret (.nrm [y3]))
 (ret (.nrm [y3]))) (c1 fun q8_0=>
 ret q8_0) noX ret
theorem Zlq:RA2 K8 WT:=ra2 Tryz.func174 (by kernel_rfl) fun _ _ _=>by kernel_rfl
def ZaF (Γ:Zc) (x0 x1 x2:Value):M Value:=
 bind (Γ QS [x1]) fun y1=>
 bind (bop .int .neq y1 (Value.int .i64 0)) fun y2=>
 cnd y2
 (ret y1)
 (bind (Γ Qy [x0,x2]) fun y3=>
 bind (Zm y3 0) fun y4=>
 bind (Zm y3 1) fun y5=>
 bind (alc 1 (.agg #[.string ⟨#[]⟩,.bool false])) fun y6=>
 bind (stA 2 y6 y4) fun _=>
 ret y5)
theorem Zmx:RA3 Wq ZaF:=ra3 Tryz.func175 (by kernel_rfl) fun _ _ _ _=>by kernel_rfl
def KD (Γ:Zc) (x0 x1 x2:Value):M Value:=
 bind (bsl 1 1 (.string ⟨#[]⟩) [(0,1,x2)]) fun y1=>
 bind (Γ JD [x0,x1,y1]) fun y2=>
 bind (Zm y2 0) fun y3=>
 bind (Zm y2 1) fun y4=>
 bind (bop .int .neq y4 (Value.int .i64 0)) fun y5=>
 cnd y5
 (ret y4)
 (bind (lkp .str (.agg #[]) true y3 x2) fun y6=>
 bind (Zm y6 0) fun y7=>
 bind (Zm y6 1) fun y8=>
 bind (alc 1 (.agg #[])) fun y9=>
 bind (stA 0 y9 y7) fun _=>
 bind (uop .not y8) fun y10=>
 cnd y10
 (ret (Value.int .i64 12))
 (bind (mde .str y3 x2) fun _=>
 ret (Value.int .i64 0)))
theorem ZkW:RA3 KJ KD:=ra3 Tryz.func176 (by kernel_rfl) fun _ _ _ _=>by kernel_rfl
def ZcB (Γ:Zc) (x0 x1:Value):M Value:=
 bind (Γ W4 [x1]) fun y1=>
 bind (Zm y1 0) fun y2=>
 bind (Zm y1 1) fun y3=>
 bind (bop .int .neq y3 (Value.int .i64 0)) fun y4=>
 cnd y4
 (ret (Value.tuple #[(Value.string ⟨#[]⟩),y3]))
 (bind (Zz x0) fun y5=>
 bind (fa 0 y5) fun y6=>
 bind (ld1 y6) fun y7=>
 bind (lkp .str (.string ⟨#[]⟩) true y7 y2) fun y8=>
 bind (Zm y8 0) fun y9=>
 bind (Zm y8 1) fun y10=>
 bind (uop .not y10) fun y11=>
 cnd y11
 (ret (Value.tuple #[(Value.string ⟨#[]⟩),(Value.int .i64 8)]))
 (ret (Value.tuple #[y9,(Value.int .i64 0)])))
theorem Zot:RA2 Za3 ZcB:=ra2 Tryz.func177 (by kernel_rfl) fun _ _ _=>by kernel_rfl
def KV (Γ:Zc) (x0 x1:Value):M Value:=
 bind (Γ JD [x0,x1,(Value.slice none 0 0)]) fun y1=>
 bind (Zm y1 0) fun y2=>
 bind (Zm y1 1) fun y3=>
 bind (bop .int .neq y3 (Value.int .i64 0)) fun y4=>
 cnd y4
 (ret (Value.tuple #[(Value.slice none 0 0),y3]))
 (bind (Γ Wd [y2]) fun y5=>
 ret (Value.tuple #[y5,(Value.int .i64 0)]))
theorem Zjc:RA2 K0 KV:=ra2 Tryz.func178 (by kernel_rfl) fun _ _ _=>by kernel_rfl
def ZjN.l1 (Γ:Zc) (s1 s2 s5 s8 s9:Value):M Out:=
 bind (bop .int .lss s9 s8) fun y4=>
 cnd y4
 (bind (fa 1 s2) fun y5=>
 bind (WN 7 1 y5 s9) fun y6=>
 bind (ld1 y6) fun y7=>
 bind (Γ Zzo [y7,s1]) fun y8=>
 bind (uop .not y8) fun y9=>
 jn (cnd y9
 (bind (cvi .u8 s9) fun y10=>
 bind (bsl 1 1 (.int .u8 0) [(0,1,y10)]) fun y11=>
 bind (app 1 1 s5 y11) fun y12=>
 ret (.nrm [s1,s2,y12,s8,s9]))
 (ret (.nrm [s1,s2,s5,s8,s9]))) (c5 fun q13_0 q13_1 q13_2 q13_3 q13_4=>
 bind (bop .int .add q13_4 (Value.int .i64 1)) fun y14=>
 ret (.nrm [q13_0,q13_1,q13_2,q13_3,y14])) noX ZF)
 (ret (.ext 0 [s5]))
def ZjN (Γ:Zc) (x0 x1:Value):M Value:=
 bind (alc 1 x0) fun y1=>
 bind (fa 0 y1) fun y2=>
 bind (ld1 y2) fun y3=>
 jn (Zi (c5 (ZjN.l1 Γ)) [x1,y1,(Value.slice none 0 0),y3,(Value.int .i64 0)]) noN (xk 0 (c1 fun q17_0=>
 ret q17_0) noX) ret
def Zo8.l1 (Γ:Zc) (s1 s6 s12 s13 s14:Value):M Out:=
 bind (bop .int .lss s14 s13) fun y4=>
 cnd y4
 (bind (ixa 5 s12 s14) fun y5=>
 bind (ldA 5 y5) fun y6=>
 bind (alc 1 (.agg #[.string ⟨#[]⟩,.string ⟨#[]⟩,.string ⟨#[]⟩,.bool false,.slice none 0 0])) fun y7=>
 bind (stA 5 y7 y6) fun _=>
 bind (fa 0 y7) fun y8=>
 bind (ld1 y8) fun y9=>
 bind (JM y9) fun y10=>
 bind (JM s1) fun y11=>
 bind (bop .int .geq y10 y11) fun y12=>
 bind (gate y12 true 7 (bind (fa 0 y7) fun y13=>
 bind (ld1 y13) fun y14=>
 bind (JM s1) fun y15=>
 bind (sls y14 none (some y15)) fun y16=>
 bind (bop .str .eql y16 s1) fun y17=>
 ret [y13,y14,s1,y15,y16,s1,y17])) (c7 fun _ _ _ _ _ _ q18_6=>
 bind (pick y12 q18_6 (Value.bool false)) fun y19=>
 jn (cnd y19
 (bind (fa 0 y7) fun y20=>
 bind (ld1 y20) fun y21=>
 bind (bsl 1 1 (.string ⟨#[]⟩) [(0,1,y21)]) fun y22=>
 bind (app 1 16 s6 y22) fun y23=>
 ret (.nrm [s1,y23,s12,s13,s14]))
 (ret (.nrm [s1,s6,s12,s13,s14]))) (c5 fun q24_0 q24_1 q24_2 q24_3 q24_4=>
 bind (bop .int .add q24_4 (Value.int .i64 1)) fun y25=>
 ret (.nrm [q24_0,q24_1,q24_2,q24_3,y25])) noX ZF))
 (ret (.ext 0 [s6]))
def Zo8 (Γ:Zc) (x0 x1:Value):M Value:=
 bind (Γ Zuj [x1]) fun y1=>
 bind (uop .not y1) fun y2=>
 cnd y2
 (ret (Value.tuple #[(Value.slice none 0 0),(Value.int .i64 10)]))
 (bind (ZC x0) fun y3=>
 jn (Zi (c5 (Zo8.l1 Γ)) [x1,(Value.slice none 0 0),x0,y3,(Value.int .i64 0)]) noN (xk 0 (c1 fun q28_0=>
 ret (Value.tuple #[q28_0,(Value.int .i64 0)])) noX) ret)
def Zjq.l1 (Γ:Zc) (s1 s3 s6 s8 s10 s41 s42 s43:Value):M Out:=
 bind (bop .int .lss s43 s42) fun y26=>
 cnd y26
 (bind (ixa 5 s41 s43) fun y27=>
 bind (ldA 5 y27) fun y28=>
 bind (alc 1 (.agg #[.string ⟨#[]⟩,.string ⟨#[]⟩,.string ⟨#[]⟩,.bool false,.slice none 0 0])) fun y29=>
 bind (stA 5 y29 y28) fun _=>
 bind (bop .str .neq s10 (Value.string ⟨#[]⟩)) fun y30=>
 bind (gate y30 true 4 (bind (fa 2 y29) fun y31=>
 bind (ld1 y31) fun y32=>
 bind (bop .str .eql y32 s10) fun y33=>
 ret [y31,y32,s10,y33])) (c4 fun _ _ _ q34_3=>
 bind (pick y30 q34_3 (Value.bool false)) fun y35=>
 bind (gate y35 true 4 (bind (fa 0 y29) fun y36=>
 bind (ld1 y36) fun y37=>
 bind (bop .str .neq y37 s1) fun y38=>
 ret [y36,y37,s1,y38])) (c4 fun _ _ _ q39_3=>
 bind (pick y35 q39_3 (Value.bool false)) fun y40=>
 cnd y40
 (bind (ldA 2 s3) fun y41=>
 bind (stA 2 s6 y41) fun _=>
 bind (ldA 2 s6) fun y42=>
 ret (.ret (Value.tuple #[y42,(Value.int .i64 9)])))
 (bind (bop .int .add s43 (Value.int .i64 1)) fun y43=>
 ret (.nrm [s1,s3,s6,s8,s10,s41,s42,y43])))))
 (ret (.ext 0 [s3,s6,s8,s10]))
def Zjq (Γ:Zc) (x0 x1 x2:Value):M Value:=
 bind (alc 1 x0) fun y1=>
 bind (alc 1 (.agg #[.slice none 0 0,.slice none 0 0])) fun y2=>
 bind (ldA 2 y1) fun y3=>
 bind (Γ Zxf [y3,x1]) fun y4=>
 bind (Zm y4 0) fun y5=>
 bind (Zm y4 1) fun y6=>
 bind (alc 1 (.agg #[.string ⟨#[]⟩,.string ⟨#[]⟩,.string ⟨#[]⟩,.bool false,.slice none 0 0])) fun y7=>
 bind (stA 5 y7 y5) fun _=>
 bind (Γ ZoH [x2]) fun y8=>
 bind (Zm y8 0) fun y9=>
 bind (Zm y8 1) fun y10=>
 bind (bop .int .eql y6 (Value.int .i64 10)) fun y11=>
 cnd y11
 (bind (ldA 2 y1) fun y12=>
 bind (stA 2 y2 y12) fun _=>
 bind (ldA 2 y2) fun y13=>
 ret (Value.tuple #[y13,y6]))
 (bind (bop .str .neq x2 (Value.string ⟨#[]⟩)) fun y14=>
 bind (gate y14 true 2 (bind (uop .not y10) fun y15=>
 ret [y10,y15])) (c2 fun _ q16_1=>
 bind (pick y14 q16_1 (Value.bool false)) fun y17=>
 cnd y17
 (bind (ldA 2 y1) fun y18=>
 bind (stA 2 y2 y18) fun _=>
 bind (ldA 2 y2) fun y19=>
 ret (Value.tuple #[y19,(Value.int .i64 11)]))
 (bind (bop .int .neq y6 (Value.int .i64 0)) fun y20=>
 cnd y20
 (bind (ldA 2 y1) fun y21=>
 bind (stA 2 y2 y21) fun _=>
 bind (ldA 2 y2) fun y22=>
 ret (Value.tuple #[y22,y6]))
 (bind (fa 0 y1) fun y23=>
 bind (ld1 y23) fun y24=>
 bind (ZC y24) fun y25=>
 jn (Zi (c8 (Zjq.l1 Γ)) [x1,y1,y2,y7,y9,y24,y25,(Value.int .i64 0)]) noN (xk 0 (c4 fun q45_0 q45_1 q45_2 q45_3=>
 bind (fa 2 q45_2) fun y46=>
 bind (st1 y46 q45_3) fun _=>
 bind (ldA 2 q45_0) fun y47=>
 bind (ldA 5 q45_2) fun y48=>
 bind (Γ ZyK [y47,y48]) fun y49=>
 bind (stA 2 q45_1 y49) fun _=>
 bind (ldA 2 q45_1) fun y50=>
 ret (Value.tuple #[y50,(Value.int .i64 0)])) noX) ret))))
def ZhS.l1 (Γ:Zc) (s1 s2 s4 s8 s27 s28 s29:Value):M Out:=
 bind (bop .int .lss s29 s28) fun y19=>
 cnd y19
 (bind (ixa 5 s27 s29) fun y20=>
 bind (ldA 5 y20) fun y21=>
 bind (alc 1 (.agg #[.string ⟨#[]⟩,.string ⟨#[]⟩,.string ⟨#[]⟩,.bool false,.slice none 0 0])) fun y22=>
 bind (stA 5 y22 y21) fun _=>
 bind (fa 4 y22) fun y23=>
 bind (ld1 y23) fun y24=>
 bind (Γ Zsr [y24,s1]) fun y25=>
 bind (fa 4 y22) fun y26=>
 bind (st1 y26 y25) fun _=>
 bind (ldA 5 y22) fun y27=>
 bind (bsl 5 1 (.agg #[.string ⟨#[]⟩,.string ⟨#[]⟩,.string ⟨#[]⟩,.bool false,.slice none 0 0]) [(0,5,y27)]) fun y28=>
 bind (app 5 80 s8 y28) fun y29=>
 bind (bop .int .add s29 (Value.int .i64 1)) fun y30=>
 ret (.nrm [s1,s2,s4,y29,s27,s28,y30]))
 (ret (.ext 0 [s2,s4,s8]))
def ZhS (Γ:Zc) (x0 x1:Value):M Value:=
 bind (alc 1 x0) fun y1=>
 bind (alc 1 (.agg #[.slice none 0 0,.slice none 0 0])) fun y2=>
 bind (fa 1 y1) fun y3=>
 bind (ld1 y3) fun y4=>
 bind (bld (.agg #[.slice none 0 0,.slice none 0 0]) [(0,1,y4)]) fun y5=>
 bind (Γ Zxh [y5,x1]) fun y6=>
 bind (Zm y6 0) fun y7=>
 bind (Zm y6 1) fun y8=>
 bind (alc 1 (.agg #[.slice none 0 0,.slice none 0 0])) fun y9=>
 bind (stA 2 y9 y7) fun _=>
 bind (bop .int .neq y8 (Value.int .i64 0)) fun y10=>
 cnd y10
 (bind (ldA 2 y1) fun y11=>
 bind (stA 2 y2 y11) fun _=>
 bind (ldA 2 y2) fun y12=>
 ret (Value.tuple #[y12,y8]))
 (bind (fa 0 y9) fun y13=>
 bind (ld1 y13) fun y14=>
 bind (fa 1 y1) fun y15=>
 bind (st1 y15 y14) fun _=>
 bind (fa 0 y1) fun y16=>
 bind (ld1 y16) fun y17=>
 bind (ZC y17) fun y18=>
 jn (Zi (c7 (ZhS.l1 Γ)) [x1,y1,y2,(Value.slice none 0 0),y17,y18,(Value.int .i64 0)]) noN (xk 0 (c3 fun q32_0 q32_1 q32_2=>
 bind (fa 0 q32_0) fun y33=>
 bind (st1 y33 q32_2) fun _=>
 bind (ldA 2 q32_0) fun y34=>
 bind (stA 2 q32_1 y34) fun _=>
 bind (ldA 2 q32_1) fun y35=>
 ret (Value.tuple #[y35,(Value.int .i64 0)])) noX) ret)
def ZoE.l1 (Γ:Zc) (s6 s18 s19 s20:Value):M Out:=
 bind (bop .int .lss s20 s19) fun y9=>
 cnd y9
 (bind (ixa 5 s18 s20) fun y10=>
 bind (ldA 5 y10) fun y11=>
 bind (alc 1 (.agg #[.string ⟨#[]⟩,.string ⟨#[]⟩,.string ⟨#[]⟩,.bool false,.slice none 0 0])) fun y12=>
 bind (stA 5 y12 y11) fun _=>
 bind (fa 2 y12) fun y13=>
 bind (ld1 y13) fun y14=>
 bind (bop .str .eql y14 s6) fun y15=>
 cnd y15
 (bind (fa 0 y12) fun y16=>
 bind (ld1 y16) fun y17=>
 ret (.ret (Value.tuple #[y17,(Value.int .i64 0)])))
 (bind (bop .int .add s20 (Value.int .i64 1)) fun y18=>
 ret (.nrm [s6,s18,s19,y18])))
 (ret (.ext 0 []))
def ZoE (Γ:Zc) (x0 x1:Value):M Value:=
 bind (alc 1 x0) fun y1=>
 bind (Γ ZoH [x1]) fun y2=>
 bind (Zm y2 0) fun y3=>
 bind (Zm y2 1) fun y4=>
 bind (uop .not y4) fun y5=>
 cnd y5
 (ret (Value.tuple #[(Value.string ⟨#[]⟩),(Value.int .i64 11)]))
 (bind (fa 0 y1) fun y6=>
 bind (ld1 y6) fun y7=>
 bind (ZC y7) fun y8=>
 jn (Zi (c4 (ZoE.l1 Γ)) [y3,y7,y8,(Value.int .i64 0)]) noN (xk 0 (c0 (ret (Value.tuple #[(Value.string ⟨#[]⟩),(Value.int .i64 8)]))) noX) ret)
def Zjr.l1 (Γ:Zc) (s1 s6 s18 s19 s20:Value):M Out:=
 bind (bop .int .lss s20 s19) fun y11=>
 cnd y11
 (bind (ixa 5 s18 s20) fun y12=>
 bind (ldA 5 y12) fun y13=>
 bind (alc 1 (.agg #[.string ⟨#[]⟩,.string ⟨#[]⟩,.string ⟨#[]⟩,.bool false,.slice none 0 0])) fun y14=>
 bind (stA 5 y14 y13) fun _=>
 bind (fa 4 y14) fun y15=>
 bind (ld1 y15) fun y16=>
 bind (Γ ZqD [y16,s1]) fun y17=>
 jn (cnd y17
 (bind (fa 0 y14) fun y18=>
 bind (ld1 y18) fun y19=>
 bind (bsl 1 1 (.string ⟨#[]⟩) [(0,1,y19)]) fun y20=>
 bind (app 1 16 s6 y20) fun y21=>
 ret (.nrm [s1,y21,s18,s19,s20]))
 (ret (.nrm [s1,s6,s18,s19,s20]))) (c5 fun q22_0 q22_1 q22_2 q22_3 q22_4=>
 bind (bop .int .add q22_4 (Value.int .i64 1)) fun y23=>
 ret (.nrm [q22_0,q22_1,q22_2,q22_3,y23])) noX ZF)
 (ret (.ext 0 [s6]))
def Zjr (Γ:Zc) (x0 x1:Value):M Value:=
 bind (alc 1 x0) fun y1=>
 bind (Γ Zi2 [x1]) fun y2=>
 bind (uop .not y2) fun y3=>
 cnd y3
 (ret (Value.tuple #[(Value.slice none 0 0),(Value.int .i64 10)]))
 (bind (fa 1 y1) fun y4=>
 bind (ld1 y4) fun y5=>
 bind (Γ ZqD [y5,x1]) fun y6=>
 bind (uop .not y6) fun y7=>
 cnd y7
 (ret (Value.tuple #[(Value.slice none 0 0),(Value.int .i64 8)]))
 (bind (fa 0 y1) fun y8=>
 bind (ld1 y8) fun y9=>
 bind (ZC y9) fun y10=>
 jn (Zi (c5 (Zjr.l1 Γ)) [x1,(Value.slice none 0 0),y9,y10,(Value.int .i64 0)]) noN (xk 0 (c1 fun q26_0=>
 ret (Value.tuple #[q26_0,(Value.int .i64 0)])) noX) ret))
def ZcM (Γ:Zc) (x0 x1:Value):M Value:=
 bind (Γ Kt [x0]) fun y1=>
 bind (Γ Kt [x1]) fun y2=>
 cnd y1
 (cnd y2
 (ret (Value.int .i64 0))
 (ret (Value.int .i64 (-1))))
 (cnd y2
 (ret (Value.int .i64 1))
 (bind (bop .str .lss x0 x1) fun y3=>
 cnd y3
 (ret (Value.int .i64 (-1)))
 (bind (bop .str .gtr x0 x1) fun y4=>
 cnd y4
 (ret (Value.int .i64 1))
 (ret (Value.int .i64 0)))))
theorem ZkQ:RA2 Za5 ZcM:=ra2 Tryz.func201 (by kernel_rfl) fun _ _ _=>by kernel_rfl
def Wv.l1 (Γ:Zc) (s0 s1 s5:Value):M Out:=
 bind (ZC s0) fun y1=>
 bind (bop .int .lss s5 y1) fun y2=>
 cnd y2
 (bind (bop .int .sub s5 (Value.int .i64 1)) fun y3=>
 bind (ixa 1 s0 y3) fun y4=>
 bind (ld1 y4) fun y5=>
 bind (ixa 1 s0 s5) fun y6=>
 bind (ld1 y6) fun y7=>
 bind (Γ Qa [y5,y7]) fun y8=>
 bind (bop .int .geq y8 (Value.int .i64 0)) fun y9=>
 cnd y9
 (ret (.ret (Value.int .i64 9)))
 (bind (bop .int .add s5 (Value.int .i64 1)) fun y10=>
 ret (.nrm [s0,s1,y10])))
 (ret (.ext 0 [s0,s1]))
def Wv (Γ:Zc) (x0 x1:Value):M Value:=
 jn (Zi (c3 (Wv.l1 Γ)) [x0,x1,(Value.int .i64 1)]) noN (xk 0 (c2 fun q12_0 q12_1=>
 bind (ZC q12_0) fun y13=>
 bind (bop .int .gtr y13 q12_1) fun y14=>
 cnd y14
 (ret (Value.int .i64 7))
 (ret (Value.int .i64 0))) noX) ret
theorem Zuf:RA2 KO Wv:=ra2 Tryz.func202 (by kernel_rfl) fun _ _ _=>by kernel_rfl
def Zl5 (Γ:Zc):M Value:=
 bind (mkm) fun y1=>
 bind (mkm) fun y2=>
 bind (bld (.agg #[.map none,.map none]) [(0,1,y1),(1,1,y2)]) fun y3=>
 bind (alc 1 y3) fun y4=>
 ret y4
theorem Zw8:RA0 ZiC Zl5:=ra0 Tryz.func203 (by kernel_rfl) fun _=>by kernel_rfl
def Zdv (Γ:Zc) (x0 x1 x2:Value):M Value:=
 bind (bsl 1 1 (.string ⟨#[]⟩) [(0,1,x1)]) fun y1=>
 bind (app 1 16 y1 x2) fun y2=>
 bind (Γ ZaH [y2]) fun y3=>
 bind (bop .int .neq y3 (Value.int .i64 0)) fun y4=>
 cnd y4
 (ret (Value.tuple #[(Value.map none),y3]))
 (bind (Zz x0) fun y5=>
 bind (fa 0 y5) fun y6=>
 bind (ld1 y6) fun y7=>
 bind (lkp .str (.map none) true y7 x1) fun y8=>
 bind (Zm y8 0) fun y9=>
 bind (Zm y8 1) fun y10=>
 bind (uop .not y10) fun y11=>
 cnd y11
 (ret (Value.tuple #[(Value.map none),(Value.int .i64 8)]))
 (ret (Value.tuple #[y9,(Value.int .i64 0)])))
theorem ZlE:RA3 JD Zdv:=ra3 Tryz.func204 (by kernel_rfl) fun _ _ _ _=>by kernel_rfl
def Zbe (Γ:Zc) (x0 x1:Value):M Value:=
 bind (Zz x0) fun y1=>
 bind (fa 1 y1) fun y2=>
 bind (ld1 y2) fun y3=>
 bind (lkp .str (.string ⟨#[]⟩) true y3 x1) fun y4=>
 bind (Zm y4 0) fun y5=>
 bind (Zm y4 1) fun y6=>
 jn (cnd y6
 (bind (Zz x0) fun y7=>
 bind (fa 0 y7) fun y8=>
 bind (ld1 y8) fun y9=>
 bind (mde .str y9 y5) fun _=>
 bind (Zz x0) fun y10=>
 bind (fa 1 y10) fun y11=>
 bind (ld1 y11) fun y12=>
 bind (mde .str y12 x1) fun _=>
 ret (.nrm [y6]))
 (ret (.nrm [y6]))) (c1 fun q13_0=>
 ret q13_0) noX ret
theorem Zom:RA2 Jp Zbe:=ra2 Tryz.func205 (by kernel_rfl) fun _ _ _=>by kernel_rfl
def Wo (Γ:Zc) (x0 x1:Value):M Value:=
 bind (ZC x0) fun y1=>
 bind (cvi .u64 y1) fun y2=>
 bind (Γ ZdP [y2]) fun y3=>
 bind (Γ QX [x0,(Value.int .i64 0),y1,y3,x1]) fun y4=>
 ret (Value.tuple #[])
theorem Zeu:RA2 Wn Wo:=ra2 Tryz.func207 (by kernel_rfl) fun _ _ _=>by kernel_rfl
def ZcQ (Γ:Zc) (x0:Value):M Value:=
 bind (bop .str .eql x0 (Value.string ⟨#[]⟩)) fun y1=>
 bind (gate y1 false 3 (bind (JM x0) fun y2=>
 bind (bop .int .gtr y2 (Value.int .i64 12)) fun y3=>
 ret [x0,y2,y3])) (c3 fun _ _ q4_2=>
 bind (pick y1 (Value.bool true) q4_2) fun y5=>
 bind (gate y5 false 4 (bind (ixs x0 (Value.int .i64 0)) fun y6=>
 bind (Γ YU [y6]) fun y7=>
 bind (uop .not y7) fun y8=>
 ret [x0,y6,y7,y8])) (c4 fun _ _ _ q9_3=>
 bind (pick y5 (Value.bool true) q9_3) fun y10=>
 bind (gate y10 false 3 (bind (Γ Kh [x0,(Value.func (.func 248) #[] #[])]) fun y11=>
 bind (uop .not y11) fun y12=>
 ret [x0,y11,y12])) (c3 fun _ _ q13_2=>
 bind (pick y10 (Value.bool true) q13_2) fun y14=>
 cnd y14
 (ret (Value.bool false))
 (bind (JM x0) fun y15=>
 bind (bop .int .sub y15 (Value.int .i64 1)) fun y16=>
 bind (ixs x0 y16) fun y17=>
 bind (Γ YU [y17]) fun y18=>
 bind (gate y18 false 2 (bind (Γ Ko [y17]) fun y19=>
 ret [y17,y19])) (c2 fun _ q20_1=>
 bind (pick y18 (Value.bool true) q20_1) fun y21=>
 ret y21)))))
theorem Zsx:RA1 Zaz ZcQ:=ra1 Tryz.func209 (by kernel_rfl) fun _ _=>by kernel_rfl
def Zci (Γ:Zc) (x0:Value):M Value:=
 bind (Γ Ko [x0]) fun y1=>
 bind (gate y1 false 3 (bind (bop .int .geq x0 (Value.int .u8 97)) fun y2=>
 ret [x0,y2,y2])) (c3 fun _ _ q3_2=>
 bind (gate q3_2 true 2 (bind (bop .int .leq x0 (Value.int .u8 102)) fun y4=>
 ret [x0,y4])) (c2 fun _ q5_1=>
 bind (gate y1 false 1 (bind (pick q3_2 q5_1 (Value.bool false)) fun y6=>
 ret [y6])) (c1 fun q7_0=>
 bind (pick y1 (Value.bool true) q7_0) fun y8=>
 ret y8)))
theorem Zt6:RA1 ZdD Zci:=ra1 Tryz.func210 (by kernel_rfl) fun _ _=>by kernel_rfl
def ZdF (Γ:Zc) (x0:Value):M Value:=
 bind (bop .int .geq x0 (Value.int .u8 48)) fun y1=>
 bind (gate y1 true 2 (bind (bop .int .leq x0 (Value.int .u8 57)) fun y2=>
 ret [x0,y2])) (c2 fun _ q3_1=>
 bind (pick y1 q3_1 (Value.bool false)) fun y4=>
 ret y4)
theorem ZuJ:RA1 Ko ZdF:=ra1 Tryz.func211 (by kernel_rfl) fun _ _=>by kernel_rfl
def Zah.l1 (Γ:Zc) (s0 s1 s7 s8:Value):M Out:=
 bind (bop .int .lss s8 s7) fun y2=>
 cnd y2
 (bind (ixs s0 s8) fun y3=>
 bind (Qn Γ s1 [y3]) fun y4=>
 bind (uop .not y4) fun y5=>
 cnd y5
 (ret (.ret (Value.bool false)))
 (bind (bop .int .add s8 (Value.int .i64 1)) fun y6=>
 ret (.nrm [s0,s1,s7,y6])))
 (ret (.ext 0 []))
def Zah (Γ:Zc) (x0 x1:Value):M Value:=
 bind (JM x0) fun y1=>
 jn (Zi (c4 (Zah.l1 Γ)) [x0,x1,y1,(Value.int .i64 0)]) noN (xk 0 (c0 (ret (Value.bool true))) noX) ret
theorem Zxp:RA2 Kh Zah:=ra2 Tryz.func212 (by kernel_rfl) fun _ _ _=>by kernel_rfl
def Yi (Γ:Zc) (x0:Value):M Value:=
 bind (alc 1 x0) fun y1=>
 ret (Value.func (.func 249) #[] #[y1])
theorem Zbz:RA1 Ja Yi:=ra1 Tryz.func213 (by kernel_rfl) fun _ _=>by kernel_rfl
def ZB.l1 (Γ:Zc) (s0 s1 s5 s6:Value):M Out:=
 bind (ZC s0) fun y4=>
 bind (bop .int .lss s6 y4) fun y5=>
 cnd y5
 (bind (ixa 1 s0 s6) fun y6=>
 bind (ld1 y6) fun y7=>
 bind (Qn Γ s1 [y7]) fun y8=>
 bind (uop .not y8) fun y9=>
 jn (cnd y9
 (bind (ixa 1 s0 s5) fun y10=>
 bind (st1 y10 y7) fun _=>
 bind (bop .int .add s5 (Value.int .i64 1)) fun y11=>
 ret (.nrm [s0,s1,y11,s6]))
 (ret (.nrm [s0,s1,s5,s6]))) (c4 fun q12_0 q12_1 q12_2 q12_3=>
 bind (bop .int .add q12_3 (Value.int .i64 1)) fun y13=>
 ret (.nrm [q12_0,q12_1,q12_2,y13])) noX ZF)
 (ret (.ext 0 [s0,s5]))
def ZB (Γ:Zc) (x0 x1:Value):M Value:=
 bind (Γ QP [x0,x1]) fun y1=>
 bind (bop .int .eql y1 (Value.int .i64 (-1))) fun y2=>
 cnd y2
 (ret x0)
 (bind (bop .int .add y1 (Value.int .i64 1)) fun y3=>
 jn (Zi (c4 (ZB.l1 Γ)) [x0,x1,y1,y3]) noN (xk 0 (c2 fun q16_0 q16_1=>
 bind (slv 1 q16_0 (some q16_1) none none) fun y17=>
 bind (clr (.string ⟨#[]⟩) 1 y17) fun _=>
 bind (slv 1 q16_0 none (some q16_1) none) fun y18=>
 ret y18) noX) ret)
theorem ZaL:RA2 Z4 ZB:=ra2 Tryz.func215 (by kernel_rfl) fun _ _ _=>by kernel_rfl
def ZdS (Γ:Zc) (x0 x1 x2:Value):M Value:=
 bind (ld1 x1) fun y1=>
 bind (Zz y1) fun y2=>
 bind (fa 0 y2) fun y3=>
 bind (ld1 y3) fun y4=>
 bind (lkp .str (.map none) false y4 x0) fun y5=>
 bind (ld1 x2) fun y6=>
 bind (lkp .str (.agg #[]) true y5 y6) fun y7=>
 bind (Zm y7 0) fun y8=>
 bind (Zm y7 1) fun y9=>
 bind (alc 1 (.agg #[])) fun y10=>
 bind (lkp .str (.agg #[]) true y5 y6) fun u_11=>same u_11 y7 <|
 bind (ld1 x2) fun u_12=>same u_12 y6 <|
 bind (lkp .str (.map none) false y4 x0) fun u_13=>same u_13 y5 <|
 bind (ld1 y3) fun u_14=>same u_14 y4 <|
 bind (ld1 x1) fun u_15=>same u_15 y1 <|
 bind (stA 0 y10 y8) fun _=>
 bind (uop .not y9) fun y16=>
 ret y16
theorem ZmM:RA3 KC ZdS:=ra3 Tryz.func216 (by kernel_rfl) fun _ _ _ _=>by kernel_rfl
def Km.l1 (Γ:Zc) (s5 s10 s11 s12:Value):M Out:=
 bind (bop .int .lss s12 s11) fun y3=>
 cnd y3
 (bind (ixa 1 s10 s12) fun y4=>
 bind (ld1 y4) fun y5=>
 bind (bop .int .eql s5 (Value.int .i64 0)) fun y6=>
 jn (cnd y6
 (bind (Qn Γ y5 []) fun y7=>
 ret (.nrm [y7,s10,s11,s12]))
 (ret (.nrm [s5,s10,s11,s12]))) (c4 fun q8_0 q8_1 q8_2 q8_3=>
 bind (bop .int .add q8_3 (Value.int .i64 1)) fun y9=>
 ret (.nrm [q8_0,q8_1,q8_2,y9])) noX ZF)
 (ret (.ext 0 [s5]))
def Km (Γ:Zc) (x0 x1:Value):M Value:=
 bind (Γ QS [x0]) fun y1=>
 bind (ZC x1) fun y2=>
 jn (Zi (c4 (Km.l1 Γ)) [y1,x1,y2,(Value.int .i64 0)]) noN (xk 0 (c1 fun q12_0=>
 ret q12_0) noX) ret
theorem Zs4:RA2 Kk Km:=ra2 Tryz.func217 (by kernel_rfl) fun _ _ _=>by kernel_rfl
def Ze6 (Γ:Zc) (x0 x1:Value):M Value:=
 bind (alc 1 x0) fun y1=>
 bind (alc 1 x1) fun y2=>
 ret (Value.func (.func 251) #[] #[y1,y2])
theorem Zon:RA2 JQ Ze6:=ra2 Tryz.func218 (by kernel_rfl) fun _ _ _=>by kernel_rfl
def ZpR (Γ:Zc) (x0:Value):M Value:=
 bind (alc 1 x0) fun y1=>
 bind (alc 1 (.agg #[.string ⟨#[]⟩,.string ⟨#[]⟩,.string ⟨#[]⟩,.bool false,.slice none 0 0])) fun y2=>
 bind (fa 0 y1) fun y3=>
 bind (ld1 y3) fun y4=>
 bind (fa 1 y1) fun y5=>
 bind (ld1 y5) fun y6=>
 bind (bld (.agg #[.string ⟨#[]⟩,.string ⟨#[]⟩,.string ⟨#[]⟩,.bool false,.slice none 0 0]) [(0,1,y4),(1,1,y6)]) fun y7=>
 bind (stA 5 y2 y7) fun _=>
 bind (ldA 5 y2) fun y8=>
 ret y8
theorem Zy8:RA1 ZkE ZpR:=ra1 Tryz.func219 (by kernel_rfl) fun _ _=>by kernel_rfl
def Wy.l1 (Γ:Zc) (s3 s8 s9 s10:Value):M Out:=
 bind (bop .int .lss s10 s9) fun y3=>
 cnd y3
 (bind (ixa 1 s8 s10) fun y4=>
 bind (ld1 y4) fun y5=>
 bind (bop .int .geq y5 (Value.int .u8 65)) fun y6=>
 bind (gate y6 true 2 (bind (bop .int .leq y5 (Value.int .u8 90)) fun y7=>
 ret [y5,y7])) (c2 fun _ q8_1=>
 bind (pick y6 q8_1 (Value.bool false)) fun y9=>
 jn (cnd y9
 (bind (bop .int .add y5 (Value.int .u8 97)) fun y10=>
 bind (bop .int .sub y10 (Value.int .u8 65)) fun y11=>
 bind (ixa 1 s3 s10) fun y12=>
 bind (st1 y12 y11) fun _=>
 ret (.nrm [s3,s8,s9,s10]))
 (ret (.nrm [s3,s8,s9,s10]))) (c4 fun q13_0 q13_1 q13_2 q13_3=>
 bind (bop .int .add q13_3 (Value.int .i64 1)) fun y14=>
 ret (.nrm [q13_0,q13_1,q13_2,y14])) noX ZF))
 (ret (.ext 0 [s3]))
def Wy (Γ:Zc) (x0:Value):M Value:=
 bind (s2b x0) fun y1=>
 bind (ZC y1) fun y2=>
 jn (Zi (c4 (Wy.l1 Γ)) [y1,y1,y2,(Value.int .i64 0)]) noN (xk 0 (c1 fun q17_0=>
 bind (b2s q17_0) fun y18=>
 ret y18) noX) ret
theorem ZvH:RA1 Ze3 Wy:=ra1 Tryz.func220 (by kernel_rfl) fun _ _=>by kernel_rfl
def ZhE (Γ:Zc) (x0 x1:Value):M Value:=
 bind (Γ KP [x0,x1]) fun y1=>
 bind (Zm y1 0) fun y2=>
 bind (Zm y1 1) fun y3=>
 bind (Zm y1 2) fun y4=>
 ret (Value.tuple #[y2,y3,y4])
theorem Ztd:RA2 Zax ZhE:=ra2 Tryz.func221 (by kernel_rfl) fun _ _ _=>by kernel_rfl
def ZfB (Γ:Zc) (x0 x1:Value):M Value:=
 bind (Γ ZbA [x0,x1,(Value.int .i64 0),(Value.int .i64 (-1))]) fun y1=>
 ret y1
theorem Zql:RA2 ZbJ ZfB:=ra2 Tryz.func222 (by kernel_rfl) fun _ _ _=>by kernel_rfl
def Zjl (Γ:Zc) (x0:Value):M Value:=
 bind (Γ YU [x0]) fun y1=>
 bind (gate y1 false 2 (bind (Γ Ko [x0]) fun y2=>
 ret [x0,y2])) (c2 fun _ q3_1=>
 bind (pick y1 (Value.bool true) q3_1) fun y4=>
 ret y4)
theorem Zuo:RA1 ZdL Zjl:=ra1 Tryz.func223 (by kernel_rfl) fun _ _=>by kernel_rfl
def ZcL (Γ:Zc) (x0:Value):M Value:=
 bind (bop .int .geq x0 (Value.int .u8 97)) fun y1=>
 bind (gate y1 true 2 (bind (bop .int .leq x0 (Value.int .u8 122)) fun y2=>
 ret [x0,y2])) (c2 fun _ q3_1=>
 bind (pick y1 q3_1 (Value.bool false)) fun y4=>
 ret y4)
theorem Zsq:RA1 YU ZcL:=ra1 Tryz.func224 (by kernel_rfl) fun _ _=>by kernel_rfl
def KQ.l1 (Γ:Zc) (s6 s7 s8:Value):M Out:=
 bind (bop .int .lss s8 s7) fun y2=>
 cnd y2
 (bind (ixa 1 s6 s8) fun y3=>
 bind (ld1 y3) fun y4=>
 bind (Γ QS [y4]) fun y5=>
 bind (bop .int .neq y5 (Value.int .i64 0)) fun y6=>
 cnd y6
 (ret (.ret y5))
 (bind (bop .int .add s8 (Value.int .i64 1)) fun y7=>
 ret (.nrm [s6,s7,y7])))
 (ret (.ext 0 []))
def KQ (Γ:Zc) (x0:Value):M Value:=
 bind (ZC x0) fun y1=>
 jn (Zi (c3 (KQ.l1 Γ)) [x0,y1,(Value.int .i64 0)]) noN (xk 0 (c0 (ret (Value.int .i64 0))) noX) ret
theorem ZsX:RA1 ZaH KQ:=ra1 Tryz.func225 (by kernel_rfl) fun _ _=>by kernel_rfl
def Zcx (Γ:Zc) (x0:Value):M Value:=
 bind (Γ JK [x0]) fun y1=>
 bind (Γ ZO [y1,(Value.func (.func 150) #[] #[])]) fun y2=>
 ret y2
theorem ZjU:RA1 Wd Zcx:=ra1 Tryz.func226 (by kernel_rfl) fun _ _=>by kernel_rfl
def Zrx.l1 (Γ:Zc) (s0 s1 s5:Value):M Out:=
 bind (bop .int .lss s5 (Value.int .i64 8)) fun y1=>
 cnd y1
 (bind (bop .int .rem s1 (Value.int .u8 2)) fun y2=>
 bind (bop .int .eql y2 (Value.int .u8 1)) fun y3=>
 bind (gate y3 true 3 (bind (bop .int .rem s0 (Value.int .u8 2)) fun y4=>
 bind (bop .int .eql y4 (Value.int .u8 0)) fun y5=>
 ret [s0,y4,y5])) (c3 fun _ _ q6_2=>
 bind (pick y3 q6_2 (Value.bool false)) fun y7=>
 cnd y7
 (ret (.ret (Value.bool false)))
 (bind (bop .int .quo s0 (Value.int .u8 2)) fun y8=>
 bind (bop .int .quo s1 (Value.int .u8 2)) fun y9=>
 bind (bop .int .add s5 (Value.int .i64 1)) fun y10=>
 ret (.nrm [y8,y9,y10]))))
 (ret (.ext 0 []))
def Zrx (Γ:Zc) (x0 x1:Value):M Value:=
 jn (Zi (c3 (Zrx.l1 Γ)) [x0,x1,(Value.int .i64 0)]) noN (xk 0 (c0 (ret (Value.bool true))) noX) ret
def Zo9.l1 (Γ:Zc) (s1 s7 s8 s9:Value):M Out:=
 bind (bop .int .lss s9 s8) fun y2=>
 cnd y2
 (bind (ixa 5 s7 s9) fun y3=>
 bind (ldA 5 y3) fun y4=>
 bind (alc 1 (.agg #[.string ⟨#[]⟩,.string ⟨#[]⟩,.string ⟨#[]⟩,.bool false,.slice none 0 0])) fun y5=>
 bind (stA 5 y5 y4) fun _=>
 bind (fa 0 y5) fun y6=>
 bind (ld1 y6) fun y7=>
 bind (bop .str .eql y7 s1) fun y8=>
 cnd y8
 (ret (.ret s9))
 (bind (bop .int .add s9 (Value.int .i64 1)) fun y9=>
 ret (.nrm [s1,s7,s8,y9])))
 (ret (.ext 0 []))
def Zo9 (Γ:Zc) (x0 x1:Value):M Value:=
 bind (ZC x0) fun y1=>
 jn (Zi (c4 (Zo9.l1 Γ)) [x1,x0,y1,(Value.int .i64 0)]) noN (xk 0 (c0 (ret (Value.int .i64 (-1)))) noX) ret
def ZrQ.l1 (Γ:Zc) (s3 s5 s6 s9 s10 s11:Value):M Out:=
 bind (bop .int .lss s11 s10) fun y3=>
 cnd y3
 (bind (ixa 5 s9 s11) fun y4=>
 bind (ldA 5 y4) fun y5=>
 bind (alc 1 (.agg #[.string ⟨#[]⟩,.string ⟨#[]⟩,.string ⟨#[]⟩,.bool false,.slice none 0 0])) fun y6=>
 bind (stA 5 y6 y5) fun _=>
 bind (uop .not s6) fun y7=>
 bind (gate y7 true 5 (bind (fa 0 s3) fun y8=>
 bind (ld1 y8) fun y9=>
 bind (fa 0 y6) fun y10=>
 bind (ld1 y10) fun y11=>
 bind (bop .str .leq y9 y11) fun y12=>
 ret [y8,y9,y10,y11,y12])) (c5 fun _ _ _ _ q13_4=>
 bind (pick y7 q13_4 (Value.bool false)) fun y14=>
 jn (cnd y14
 (bind (ldA 5 s3) fun y15=>
 bind (bsl 5 1 (.agg #[.string ⟨#[]⟩,.string ⟨#[]⟩,.string ⟨#[]⟩,.bool false,.slice none 0 0]) [(0,5,y15)]) fun y16=>
 bind (app 5 80 s5 y16) fun y17=>
 ret (.nrm [s3,y17,(Value.bool true),y6,s9,s10,s11]))
 (ret (.nrm [s3,s5,s6,y6,s9,s10,s11]))) (c7 fun q18_0 q18_1 q18_2 q18_3 q18_4 q18_5 q18_6=>
 bind (fa 0 q18_3) fun y19=>
 bind (ld1 y19) fun y20=>
 bind (fa 0 q18_0) fun y21=>
 bind (ld1 y21) fun y22=>
 bind (bop .str .neq y20 y22) fun y23=>
 jn (cnd y23
 (bind (ldA 5 q18_3) fun y24=>
 bind (bsl 5 1 (.agg #[.string ⟨#[]⟩,.string ⟨#[]⟩,.string ⟨#[]⟩,.bool false,.slice none 0 0]) [(0,5,y24)]) fun y25=>
 bind (app 5 80 q18_1 y25) fun y26=>
 ret (.nrm [q18_0,y26,q18_2,q18_4,q18_5,q18_6]))
 (ret (.nrm [q18_0,q18_1,q18_2,q18_4,q18_5,q18_6]))) (c6 fun q27_0 q27_1 q27_2 q27_3 q27_4 q27_5=>
 bind (bop .int .add q27_5 (Value.int .i64 1)) fun y28=>
 ret (.nrm [q27_0,q27_1,q27_2,q27_3,q27_4,y28])) noX ZF) noX ZF))
 (ret (.ext 0 [s3,s5,s6]))
def ZrQ (Γ:Zc) (x0 x1:Value):M Value:=
 bind (alc 1 x1) fun y1=>
 bind (ZC x0) fun y2=>
 jn (Zi (c6 (ZrQ.l1 Γ)) [y1,(Value.slice none 0 0),(Value.bool false),x0,y2,(Value.int .i64 0)]) noN (xk 0 (c3 fun q32_0 q32_1 q32_2=>
 bind (uop .not q32_2) fun y33=>
 jn (cnd y33
 (bind (ldA 5 q32_0) fun y34=>
 bind (bsl 5 1 (.agg #[.string ⟨#[]⟩,.string ⟨#[]⟩,.string ⟨#[]⟩,.bool false,.slice none 0 0]) [(0,5,y34)]) fun y35=>
 bind (app 5 80 q32_1 y35) fun y36=>
 ret (.nrm [y36]))
 (ret (.nrm [q32_1]))) (c1 fun q37_0=>
 ret q37_0) noX ret) noX) ret
def Zo5.l1 (Γ:Zc) (s1 s5 s8 s9 s10:Value):M Out:=
 bind (bop .int .lss s10 s9) fun y2=>
 cnd y2
 (bind (ixa 5 s8 s10) fun y3=>
 bind (ldA 5 y3) fun y4=>
 bind (alc 1 (.agg #[.string ⟨#[]⟩,.string ⟨#[]⟩,.string ⟨#[]⟩,.bool false,.slice none 0 0])) fun y5=>
 bind (stA 5 y5 y4) fun _=>
 bind (fa 0 y5) fun y6=>
 bind (ld1 y6) fun y7=>
 bind (bop .str .neq y7 s1) fun y8=>
 jn (cnd y8
 (bind (ldA 5 y5) fun y9=>
 bind (bsl 5 1 (.agg #[.string ⟨#[]⟩,.string ⟨#[]⟩,.string ⟨#[]⟩,.bool false,.slice none 0 0]) [(0,5,y9)]) fun y10=>
 bind (app 5 80 s5 y10) fun y11=>
 ret (.nrm [s1,y11,s8,s9,s10]))
 (ret (.nrm [s1,s5,s8,s9,s10]))) (c5 fun q12_0 q12_1 q12_2 q12_3 q12_4=>
 bind (bop .int .add q12_4 (Value.int .i64 1)) fun y13=>
 ret (.nrm [q12_0,q12_1,q12_2,q12_3,y13])) noX ZF)
 (ret (.ext 0 [s5]))
def Zo5 (Γ:Zc) (x0 x1:Value):M Value:=
 bind (ZC x0) fun y1=>
 jn (Zi (c5 (Zo5.l1 Γ)) [x1,(Value.slice none 0 0),x0,y1,(Value.int .i64 0)]) noN (xk 0 (c1 fun q16_0=>
 ret q16_0) noX) ret
def ZfQ.l1 (Γ:Zc) (s0 s4:Value):M Out:=
 bind (JM s0) fun y4=>
 bind (bop .int .lss s4 y4) fun y5=>
 bind (gate y5 true 4 (bind (ixs s0 s4) fun y6=>
 bind (bop .int .neq y6 (Value.int .u8 64)) fun y7=>
 ret [s0,s4,y6,y7])) (c4 fun _ _ _ q8_3=>
 bind (pick y5 q8_3 (Value.bool false)) fun y9=>
 cnd y9
 (bind (bop .int .add s4 (Value.int .i64 1)) fun y10=>
 ret (.nrm [s0,y10]))
 (ret (.ext 0 [s0,s4])))
def ZfQ.l2 (Γ:Zc) (s0 s5 s6 s7:Value):M Out:=
 bind (JM s0) fun y21=>
 bind (bop .int .lss s7 y21) fun y22=>
 cnd y22
 (bind (ixs s0 s7) fun y23=>
 bind (bop .int .eql y23 (Value.int .u8 46)) fun y24=>
 jn (cnd y24
 (bind (bop .int .eql s6 (Value.int .i64 0)) fun y25=>
 cnd y25
 (ret (.ret (Value.tuple #[(Value.string ⟨#[]⟩),(Value.bool false)])))
 (bind (bop .int .add s5 (Value.int .i64 1)) fun y26=>
 ret (.nrm [s0,y26,(Value.int .i64 0),s7])))
 (bind (ixs s0 s7) fun y27=>
 bind (Γ Ztv [y27,(Value.string ⟨#[97,98,99,100,101,102,103,104,105,106,107,108,109,110,111,112,113,114,115,116,117,118,119,120,121,122,48,49,50,51,52,53,54,55,56,57]⟩)]) fun y28=>
 bind (uop .not y28) fun y29=>
 cnd y29
 (ret (.ret (Value.tuple #[(Value.string ⟨#[]⟩),(Value.bool false)])))
 (bind (bop .int .add s6 (Value.int .i64 1)) fun y30=>
 ret (.nrm [s0,s5,y30,s7])))) (c4 fun q31_0 q31_1 q31_2 q31_3=>
 bind (bop .int .add q31_3 (Value.int .i64 1)) fun y32=>
 ret (.nrm [q31_0,q31_1,q31_2,y32])) noX ZF)
 (ret (.ext 2 [s0,s5,s6]))
def ZfQ (Γ:Zc) (x0:Value):M Value:=
 bind (JM x0) fun y1=>
 bind (bop .int .gtr y1 (Value.int .i64 20)) fun y2=>
 cnd y2
 (ret (Value.tuple #[(Value.string ⟨#[]⟩),(Value.bool false)]))
 (bind (Γ ZwW [x0]) fun y3=>
 jn (Zi (c2 (ZfQ.l1 Γ)) [y3,(Value.int .i64 0)]) noN (xk 0 (c2 fun q12_0 q12_1=>
 bind (JM q12_0) fun y13=>
 bind (bop .int .eql q12_1 y13) fun y14=>
 bind (gate y14 false 5 (bind (sls q12_0 none (some q12_1)) fun y15=>
 bind (Γ Zi2 [y15]) fun y16=>
 bind (uop .not y16) fun y17=>
 ret [q12_0,q12_1,y15,y16,y17])) (c5 fun _ _ _ _ q18_4=>
 bind (pick y14 (Value.bool true) q18_4) fun y19=>
 cnd y19
 (ret (Value.tuple #[(Value.string ⟨#[]⟩),(Value.bool false)]))
 (bind (bop .int .add q12_1 (Value.int .i64 1)) fun y20=>
 jn (Zi (c4 (ZfQ.l2 Γ)) [q12_0,(Value.int .i64 0),(Value.int .i64 0),y20]) noN (xk 2 (c3 fun q35_0 q35_1 q35_2=>
 bind (bop .int .eql q35_1 (Value.int .i64 0)) fun y36=>
 bind (gate y36 false 2 (bind (bop .int .eql q35_2 (Value.int .i64 0)) fun y37=>
 ret [q35_2,y37])) (c2 fun _ q38_1=>
 bind (pick y36 (Value.bool true) q38_1) fun y39=>
 cnd y39
 (ret (Value.tuple #[(Value.string ⟨#[]⟩),(Value.bool false)]))
 (ret (Value.tuple #[q35_0,(Value.bool true)])))) noX) ret))) noX) ret)
def Zf4.l1 (Γ:Zc) (s1 s2 s4 s6 s23 s24 s25:Value):M Out:=
 bind (bop .int .lss s25 s24) fun y16=>
 cnd y16
 (bind (ixa 1 s23 s25) fun y17=>
 bind (ld1 y17) fun y18=>
 bind (bop .str .neq y18 s1) fun y19=>
 jn (cnd y19
 (bind (bsl 1 1 (.string ⟨#[]⟩) [(0,1,y18)]) fun y20=>
 bind (app 1 16 s6 y20) fun y21=>
 ret (.nrm [s1,s2,s4,y21,s23,s24,s25]))
 (ret (.nrm [s1,s2,s4,s6,s23,s24,s25]))) (c7 fun q22_0 q22_1 q22_2 q22_3 q22_4 q22_5 q22_6=>
 bind (bop .int .add q22_6 (Value.int .i64 1)) fun y23=>
 ret (.nrm [q22_0,q22_1,q22_2,q22_3,q22_4,q22_5,y23])) noX ZF)
 (ret (.ext 0 [s1,s2,s4,s6]))
def Zf4.l2 (Γ:Zc) (s1 s4 s6 s9 s38 s39 s40:Value):M Out:=
 bind (bop .int .lss s40 s39) fun y30=>
 cnd y30
 (bind (ixa 2 s38 s40) fun y31=>
 bind (ldA 2 y31) fun y32=>
 bind (alc 1 (.agg #[.string ⟨#[]⟩,.string ⟨#[]⟩])) fun y33=>
 bind (stA 2 y33 y32) fun _=>
 bind (fa 0 y33) fun y34=>
 bind (ld1 y34) fun y35=>
 bind (bop .str .neq y35 s1) fun y36=>
 jn (cnd y36
 (bind (ldA 2 y33) fun y37=>
 bind (bsl 2 1 (.agg #[.string ⟨#[]⟩,.string ⟨#[]⟩]) [(0,2,y37)]) fun y38=>
 bind (app 2 32 s9 y38) fun y39=>
 ret (.nrm [s1,s4,s6,y39,s38,s39,s40]))
 (ret (.nrm [s1,s4,s6,s9,s38,s39,s40]))) (c7 fun q40_0 q40_1 q40_2 q40_3 q40_4 q40_5 q40_6=>
 bind (bop .int .add q40_6 (Value.int .i64 1)) fun y41=>
 ret (.nrm [q40_0,q40_1,q40_2,q40_3,q40_4,q40_5,y41])) noX ZF)
 (ret (.ext 2 [s4,s6,s9]))
def Zf4 (Γ:Zc) (x0 x1:Value):M Value:=
 bind (alc 1 x0) fun y1=>
 bind (alc 1 (.agg #[.slice none 0 0,.slice none 0 0])) fun y2=>
 bind (Γ Zi2 [x1]) fun y3=>
 bind (uop .not y3) fun y4=>
 cnd y4
 (bind (ldA 2 y1) fun y5=>
 bind (stA 2 y2 y5) fun _=>
 bind (ldA 2 y2) fun y6=>
 ret (Value.tuple #[y6,(Value.int .i64 10)]))
 (bind (fa 0 y1) fun y7=>
 bind (ld1 y7) fun y8=>
 bind (Γ ZqJ [y8,x1]) fun y9=>
 bind (uop .not y9) fun y10=>
 cnd y10
 (bind (ldA 2 y1) fun y11=>
 bind (stA 2 y2 y11) fun _=>
 bind (ldA 2 y2) fun y12=>
 ret (Value.tuple #[y12,(Value.int .i64 8)]))
 (bind (fa 0 y1) fun y13=>
 bind (ld1 y13) fun y14=>
 bind (ZC y14) fun y15=>
 jn (Zi (c7 (Zf4.l1 Γ)) [x1,y1,y2,(Value.slice none 0 0),y14,y15,(Value.int .i64 0)]) noN (xk 0 (c4 fun q26_0 q26_1 q26_2 q26_3=>
 bind (fa 1 q26_1) fun y27=>
 bind (ld1 y27) fun y28=>
 bind (ZC y28) fun y29=>
 jn (Zi (c7 (Zf4.l2 Γ)) [q26_0,q26_2,q26_3,(Value.slice none 0 0),y28,y29,(Value.int .i64 0)]) noN (xk 2 (c3 fun q44_0 q44_1 q44_2=>
 bind (bld (.agg #[.slice none 0 0,.slice none 0 0]) [(0,1,q44_1),(1,1,q44_2)]) fun y45=>
 bind (stA 2 q44_0 y45) fun _=>
 bind (ldA 2 q44_0) fun y46=>
 ret (Value.tuple #[y46,(Value.int .i64 0)])) noX) ret) noX) ret))
def ZjO.l1 (Γ:Zc) (s1 s5 s8 s9 s10:Value):M Out:=
 bind (bop .int .lss s10 s9) fun y2=>
 cnd y2
 (bind (ixa 1 s8 s10) fun y3=>
 bind (ld1 y3) fun y4=>
 bind (bop .str .neq y4 s1) fun y5=>
 jn (cnd y5
 (bind (bsl 1 1 (.string ⟨#[]⟩) [(0,1,y4)]) fun y6=>
 bind (app 1 16 s5 y6) fun y7=>
 ret (.nrm [s1,y7,s8,s9,s10]))
 (ret (.nrm [s1,s5,s8,s9,s10]))) (c5 fun q8_0 q8_1 q8_2 q8_3 q8_4=>
 bind (bop .int .add q8_4 (Value.int .i64 1)) fun y9=>
 ret (.nrm [q8_0,q8_1,q8_2,q8_3,y9])) noX ZF)
 (ret (.ext 0 [s5]))
def ZjO (Γ:Zc) (x0 x1:Value):M Value:=
 bind (ZC x0) fun y1=>
 jn (Zi (c5 (ZjO.l1 Γ)) [x1,(Value.slice none 0 0),x0,y1,(Value.int .i64 0)]) noN (xk 0 (c1 fun q12_0=>
 ret q12_0) noX) ret
def Zqt.l1 (Γ:Zc) (s1 s7 s8 s9:Value):M Out:=
 bind (bop .int .lss s9 s8) fun y2=>
 cnd y2
 (bind (ixa 1 s7 s9) fun y3=>
 bind (ld1 y3) fun y4=>
 bind (bop .str .eql y4 s1) fun y5=>
 cnd y5
 (ret (.ret (Value.bool true)))
 (bind (bop .int .add s9 (Value.int .i64 1)) fun y6=>
 ret (.nrm [s1,s7,s8,y6])))
 (ret (.ext 0 []))
def Zqt (Γ:Zc) (x0 x1:Value):M Value:=
 bind (ZC x0) fun y1=>
 jn (Zi (c4 (Zqt.l1 Γ)) [x1,x0,y1,(Value.int .i64 0)]) noN (xk 0 (c0 (ret (Value.bool false))) noX) ret
def ZdO.l2 (Γ:Zc) (s5 s6 s7 s10 s11 s12 s19 s20 s21:Value):M Out:=
 bind (bop .int .lss s21 s20) fun y7=>
 cnd y7
 (bind (ixa 1 s19 s21) fun y8=>
 bind (ld1 y8) fun y9=>
 bind (uop .not s7) fun y10=>
 bind (gate y10 true 3 (bind (bop .str .lss s5 y9) fun y11=>
 ret [s5,y9,y11])) (c3 fun _ _ q12_2=>
 bind (pick y10 q12_2 (Value.bool false)) fun y13=>
 jn (cnd y13
 (bind (bsl 1 1 (.string ⟨#[]⟩) [(0,1,s5)]) fun y14=>
 bind (app 1 16 s6 y14) fun y15=>
 ret (.nrm [s5,y15,(Value.bool true),y9,s10,s11,s12,s19,s20,s21]))
 (ret (.nrm [s5,s6,s7,y9,s10,s11,s12,s19,s20,s21]))) (c10 fun q16_0 q16_1 q16_2 q16_3 q16_4 q16_5 q16_6 q16_7 q16_8 q16_9=>
 bind (bsl 1 1 (.string ⟨#[]⟩) [(0,1,q16_3)]) fun y17=>
 bind (app 1 16 q16_1 y17) fun y18=>
 bind (bop .int .add q16_9 (Value.int .i64 1)) fun y19=>
 ret (.nrm [q16_0,y18,q16_2,q16_4,q16_5,q16_6,q16_7,q16_8,y19])) noX ZF))
 (ret (.ext 2 [s5,s6,s7,s10,s11,s12]))
def ZdO.l1 (Γ:Zc) (s3 s10 s11 s12:Value):M Out:=
 bind (bop .int .lss s12 s11) fun y2=>
 cnd y2
 (jn (bind (ixa 1 s10 s12) fun y3=>
 bind (ld1 y3) fun y4=>
 bind (Γ ZqJ [s3,y4]) fun y5=>
 cnd y5
 (ret (.nrm [s3,s10,s11,s12]))
 (bind (ZC s3) fun y6=>
 jn (Zi (c9 (ZdO.l2 Γ)) [y4,(Value.slice none 0 0),(Value.bool false),s10,s11,s12,s3,y6,(Value.int .i64 0)]) noN (xk 2 (c6 fun q22_0 q22_1 q22_2 q22_3 q22_4 q22_5=>
 bind (uop .not q22_2) fun y23=>
 jn (cnd y23
 (bind (bsl 1 1 (.string ⟨#[]⟩) [(0,1,q22_0)]) fun y24=>
 bind (app 1 16 q22_1 y24) fun y25=>
 ret (.nrm [y25,q22_3,q22_4,q22_5]))
 (ret (.nrm [q22_1,q22_3,q22_4,q22_5]))) (c4 fun q26_0 q26_1 q26_2 q26_3=>
 ret (.nrm [q26_0,q26_1,q26_2,q26_3])) noX ZF) noX) ZF)) (c4 fun q29_0 q29_1 q29_2 q29_3=>
 bind (bop .int .add q29_3 (Value.int .i64 1)) fun y30=>
 ret (.nrm [q29_0,q29_1,q29_2,y30])) noX ZF)
 (ret (.ext 0 [s3]))
def ZdO (Γ:Zc) (x0:Value):M Value:=
 bind (ZC x0) fun y1=>
 jn (Zi (c4 (ZdO.l1 Γ)) [(Value.slice none 0 0),x0,y1,(Value.int .i64 0)]) noN (xk 0 (c1 fun q33_0=>
 ret q33_0) noX) ret
def Zd2 (Γ:Zc) (x0:Value):M Value:=
 bind (bop .str .neq x0 x0) fun y1=>
 ret y1
theorem Zmi:RA1 Kt Zd2:=ra1 Tryz.func244 (by kernel_rfl) fun _ _=>by kernel_rfl
noncomputable abbrev Zby.o1 (s2:Value) (st:LoopState) (pd:Option Code):Ze:=.loop Tryz.f245 KX 26 [0] (ZFi Tryz.f245 26) [(2,s2)] st pd
def Zby.r1 (Γ:Zc) (L:Nat) (s2:Value) (a0:Value):M Value:=
 ZpW L (
 bind (ld1 s2) fun y2=>
 bind (bsl 1 1 (.string ⟨#[]⟩) [(0,1,a0)]) fun y3=>
 bind (app 1 16 y2 y3) fun y4=>
 bind (st1 s2 y4) fun _=>
 Ze7 L none)
def Zby (Γ:Zc) (x0 x1:Value):M Value:=
 bind (alc 1 x0) fun y1=>
 ZeN (Zrg Tryz.prog) Γ x1 Tryz.f245 KX 26 [0] (ZFi Tryz.f245 26) [(2,y1)] fun pd_5=>
 (match pd_5 with
 | none=>bind (ld1 y1) fun y6=>
 ret y6
 | some (.exit j_5)=>fail
 | some .ret=>ret (Value.slice none 0 0)
 | _=>fail)
def Jl.l1 (Γ:Zc) (s0 s1 s2 s3 s4 s10 s11:Value):M Out:=
 jn (bind (bop .int .sub s2 s1) fun y1=>
 bind (bop .int .leq y1 (Value.int .i64 12)) fun y2=>
 cnd y2
 (bind (Γ Jd [s0,s1,s2,s4]) fun y3=>
 ret (.ret (Value.tuple #[])))
 (bind (bop .int .eql s3 (Value.int .i64 0)) fun y4=>
 cnd y4
 (bind (Γ Zfk [s0,s1,s2,s4]) fun y5=>
 ret (.ret (Value.tuple #[])))
 (bind (uop .not s10) fun y6=>
 jn (cnd y6
 (bind (Γ Zdq [s0,s1,s2,s4]) fun y7=>
 bind (bop .int .sub s3 (Value.int .i64 1)) fun y8=>
 ret (.nrm [s0,s1,s2,y8,s4,s10,s11,y1]))
 (ret (.nrm [s0,s1,s2,s3,s4,s10,s11,y1]))) (c8 fun q9_0 q9_1 q9_2 q9_3 q9_4 q9_5 q9_6 q9_7=>
 bind (Γ ZdX [q9_0,q9_1,q9_2,q9_4]) fun y10=>
 bind (Zm y10 0) fun y11=>
 bind (Zm y10 1) fun y12=>
 bind (bop .int .eql y12 (Value.int .i64 2)) fun y13=>
 jn (cnd y13
 (bind (Γ ZdI [q9_0,q9_1,q9_2,q9_4]) fun y14=>
 bind (bop .int .sub q9_2 (Value.int .i64 1)) fun y15=>
 bind (bop .int .sub y11 q9_1) fun y16=>
 bind (bop .int .sub y15 y16) fun y17=>
 ret (.nrm [q9_0,q9_1,q9_2,q9_3,q9_4,q9_5,q9_6,q9_7,y17,(Value.int .i64 1)]))
 (ret (.nrm [q9_0,q9_1,q9_2,q9_3,q9_4,q9_5,q9_6,q9_7,y11,y12]))) (c10 fun q18_0 q18_1 q18_2 q18_3 q18_4 q18_5 q18_6 q18_7 q18_8 q18_9=>
 bind (gate q18_5 true 1 (ret [q18_6])) (c1 fun q19_0=>
 bind (pick q18_5 q19_0 (Value.bool false)) fun y20=>
 bind (gate y20 true 2 (bind (bop .int .eql q18_9 (Value.int .i64 1)) fun y21=>
 ret [q18_9,y21])) (c2 fun _ q22_1=>
 bind (pick y20 q22_1 (Value.bool false)) fun y23=>
 jn (cnd y23
 (bind (Γ ZbT [q18_0,q18_1,q18_2,q18_4]) fun y24=>
 cnd y24
 (ret (.ret (Value.tuple #[])))
 (ret (.nrm [q18_0,q18_1,q18_2,q18_3,q18_4,q18_5,q18_6,q18_7,q18_8])))
 (ret (.nrm [q18_0,q18_1,q18_2,q18_3,q18_4,q18_5,q18_6,q18_7,q18_8]))) (c9 fun q25_0 q25_1 q25_2 q25_3 q25_4 q25_5 q25_6 q25_7 q25_8=>
 bind (bop .int .gtr q25_1 (Value.int .i64 0)) fun y26=>
 bind (gateV y26 true (ret q25_4)) fun y27=>
 bind (gateV y26 true (ret q25_0)) fun y28=>
 bind (gateV y26 true (ret q25_1)) fun y29=>
 bind (gateV y26 true (bop .int .sub y29 (Value.int .i64 1))) fun y30=>
 bind (gateV y26 true (ixa 1 y28 y30)) fun y31=>
 bind (gateV y26 true (ld1 y31)) fun y32=>
 bind (gateV y26 true (ret q25_0)) fun y33=>
 bind (gateV y26 true (ret q25_8)) fun y34=>
 bind (gateV y26 true (ixa 1 y33 y34)) fun y35=>
 bind (gateV y26 true (ld1 y35)) fun y36=>
 bind (gateV y26 true (Qn Γ y27 [y32,y36])) fun y37=>
 bind (gateV y26 true (bop .int .lss y37 (Value.int .i64 0))) fun y38=>
 bind (gateV y26 true (uop .not y38)) fun y39=>
 bind (pick y26 y39 (Value.bool false)) fun y40=>
 cnd y40
 (bind (Γ Zdb [q25_0,q25_1,q25_2,q25_8,q25_4]) fun y41=>
 ret (.nrm [q25_0,y41,q25_2,q25_3,q25_4,q25_5,q25_6]))
 (bind (Γ Zez [q25_0,q25_1,q25_2,q25_8,q25_4]) fun y42=>
 bind (Zm y42 0) fun y43=>
 bind (Zm y42 1) fun y44=>
 bind (bop .int .sub y43 q25_1) fun y45=>
 bind (bop .int .sub q25_2 y43) fun y46=>
 bind (bop .int .quo q25_7 (Value.int .i64 8)) fun y47=>
 bind (bop .int .lss y45 y46) fun y48=>
 jn (cnd y48
 (bind (bop .int .geq y45 y47) fun y49=>
 bind (Γ QX [q25_0,q25_1,y43,q25_3,q25_4]) fun y50=>
 bind (bop .int .add y43 (Value.int .i64 1)) fun y51=>
 ret (.nrm [q25_0,y51,q25_2,q25_3,q25_4,y49,y44]))
 (bind (bop .int .geq y46 y47) fun y52=>
 bind (bop .int .add y43 (Value.int .i64 1)) fun y53=>
 bind (Γ QX [q25_0,y53,q25_2,q25_3,q25_4]) fun y54=>
 ret (.nrm [q25_0,q25_1,y43,q25_3,q25_4,y52,y44]))) (c7 fun q55_0 q55_1 q55_2 q55_3 q55_4 q55_5 q55_6=>
 ret (.nrm [q55_0,q55_1,q55_2,q55_3,q55_4,q55_5,q55_6])) noX ZF)) noX ZF))) noX ZF) noX ZF))) (c7 fun q60_0 q60_1 q60_2 q60_3 q60_4 q60_5 q60_6=>
 ret (.nrm [q60_0,q60_1,q60_2,q60_3,q60_4,q60_5,q60_6])) noX ZF
def Jl (Γ:Zc) (x0 x1 x2 x3 x4:Value):M Value:=
 jn (Zi (c7 (Jl.l1 Γ)) [x0,x1,x2,x3,x4,(Value.bool true),(Value.bool true)]) noN noX ret
theorem ZeM:RA5 QX Jl:=ra5 Tryz.func246 (by kernel_rfl) fun _ _ _ _ _ _=>by kernel_rfl
def ZgH (Γ:Zc) (x0:Value):M Value:=
 cnd (Value.bool false)
 (bind (cvi .u32 x0) fun y1=>
 bind (Γ ZrB [y1]) fun y2=>
 ret y2)
 (bind (Γ Zcz [x0]) fun y3=>
 ret y3)
theorem Zq4:RA1 ZdP ZgH:=ra1 Tryz.func247 (by kernel_rfl) fun _ _=>by kernel_rfl
def Zkc (Γ:Zc) (x0:Value):M Value:=
 bind (Γ YU [x0]) fun y1=>
 bind (gate y1 false 2 (bind (Γ Ko [x0]) fun y2=>
 ret [x0,y2])) (c2 fun _ q3_1=>
 bind (pick y1 (Value.bool true) q3_1) fun y4=>
 bind (gate y4 false 2 (bind (bop .int .eql x0 (Value.int .u8 45)) fun y5=>
 ret [x0,y5])) (c2 fun _ q6_1=>
 bind (pick y4 (Value.bool true) q6_1) fun y7=>
 bind (gate y7 false 2 (bind (bop .int .eql x0 (Value.int .u8 46)) fun y8=>
 ret [x0,y8])) (c2 fun _ q9_1=>
 bind (pick y7 (Value.bool true) q9_1) fun y10=>
 ret y10)))
theorem Zvc:RA1 Zc7 Zkc:=ra1 Tryz.func248 (by kernel_rfl) fun _ _=>by kernel_rfl
def ZD.l1 (Γ:Zc) (s0 s1 s7 s8:Value):M Out:=
 bind (bop .int .lss s8 s7) fun y2=>
 cnd y2
 (bind (ixa 1 s0 s8) fun y3=>
 bind (ld1 y3) fun y4=>
 bind (Qn Γ s1 [y4]) fun y5=>
 cnd y5
 (ret (.ret s8))
 (bind (bop .int .add s8 (Value.int .i64 1)) fun y6=>
 ret (.nrm [s0,s1,s7,y6])))
 (ret (.ext 0 []))
def ZD (Γ:Zc) (x0 x1:Value):M Value:=
 bind (ZC x0) fun y1=>
 jn (Zi (c4 (ZD.l1 Γ)) [x0,x1,y1,(Value.int .i64 0)]) noN (xk 0 (c0 (ret (Value.int .i64 (-1)))) noX) ret
theorem ZaQ:RA2 QP ZD:=ra2 Tryz.func250 (by kernel_rfl) fun _ _ _=>by kernel_rfl
def ZdR (Γ:Zc) (x0 x1:Value):M Value:=
 bind (ld1 x0) fun y1=>
 bind (Zz y1) fun y2=>
 bind (fa 0 y2) fun y3=>
 bind (ld1 y3) fun y4=>
 bind (ld1 x1) fun y5=>
 bind (lkp .str (.string ⟨#[]⟩) true y4 y5) fun y6=>
 bind (Zm y6 0) fun y7=>
 bind (Zm y6 1) fun y8=>
 bind (uop .not y8) fun y9=>
 cnd y9
 (ret (Value.int .i64 8))
 (ret (Value.int .i64 0))
theorem Znn:RA2 Qh ZdR:=ra2 Tryz.func251 (by kernel_rfl) fun _ _ _=>by kernel_rfl
def ZaB (Γ:Zc) (x0 x1:Value):M Value:=
 bind (Γ Q8 [x0,x1]) fun y1=>
 bind (bop .int .geq y1 (Value.int .i64 0)) fun y2=>
 cnd y2
 (bind (sls x0 none (some y1)) fun y3=>
 bind (JM x1) fun y4=>
 bind (bop .int .add y1 y4) fun y5=>
 bind (sls x0 (some y5) none) fun y6=>
 ret (Value.tuple #[y3,y6,(Value.bool true)]))
 (ret (Value.tuple #[x0,(Value.string ⟨#[]⟩),(Value.bool false)]))
theorem ZgL:RA2 KP ZaB:=ra2 Tryz.func252 (by kernel_rfl) fun _ _ _=>by kernel_rfl
def J6.l1 (Γ:Zc) (s0 s1 s2 s3 s9 s10:Value):M Out:=
 bind (bop .int .lss s10 s3) fun y13=>
 cnd y13
 (bind (Γ Zao [s0,s1]) fun y14=>
 bind (bop .int .lss y14 (Value.int .i64 0)) fun y15=>
 cnd y15
 (ret (.ext 0 [s0,s9,s10]))
 (bind (bop .int .add y14 s2) fun y16=>
 bind (sls s0 none (some y16)) fun y17=>
 bind (ixa 1 s9 s10) fun y18=>
 bind (st1 y18 y17) fun _=>
 bind (JM s1) fun y19=>
 bind (bop .int .add y14 y19) fun y20=>
 bind (sls s0 (some y20) none) fun y21=>
 bind (bop .int .add s10 (Value.int .i64 1)) fun y22=>
 ret (.nrm [y21,s1,s2,s3,s9,y22])))
 (ret (.ext 0 [s0,s9,s10]))
def J6 (Γ:Zc) (x0 x1 x2 x3:Value):M Value:=
 bind (bop .int .eql x3 (Value.int .i64 0)) fun y1=>
 cnd y1
 (ret (Value.slice none 0 0))
 (bind (bop .str .eql x1 (Value.string ⟨#[]⟩)) fun y2=>
 cnd y2
 (bind (Γ ZpK [x0,x3]) fun y3=>
 ret y3)
 (bind (bop .int .lss x3 (Value.int .i64 0)) fun y4=>
 jn (cnd y4
 (bind (Γ ZbI [x0,x1]) fun y5=>
 bind (bop .int .add y5 (Value.int .i64 1)) fun y6=>
 ret (.nrm [x0,x1,x2,y6]))
 (ret (.nrm [x0,x1,x2,x3]))) (c4 fun q7_0 q7_1 q7_2 q7_3=>
 bind (JM q7_0) fun y8=>
 bind (bop .int .add y8 (Value.int .i64 1)) fun y9=>
 bind (mxi false q7_3 y9) fun y10=>
 bind (mks 1 16 (.string ⟨#[]⟩) y10 y10) fun y11=>
 bind (bop .int .sub y10 (Value.int .i64 1)) fun y12=>
 jn (jn (Zi (c6 (J6.l1 Γ)) [q7_0,q7_1,q7_2,y12,y11,(Value.int .i64 0)]) noN (xk 0 (c3 fun q24_0 q24_1 q24_2=>
 ret (.nrm [q24_0,q24_1,q24_2])) noX) ZF) (c3 fun q26_0 q26_1 q26_2=>
 bind (ixa 1 q26_1 q26_2) fun y27=>
 bind (st1 y27 q26_0) fun _=>
 bind (bop .int .add q26_2 (Value.int .i64 1)) fun y28=>
 bind (slv 1 q26_1 none (some y28) none) fun y29=>
 ret y29) noX ret) noX ret))
theorem Zlg:RA4 ZbA J6:=ra4 Tryz.func253 (by kernel_rfl) fun _ _ _ _ _=>by kernel_rfl
def YL (Γ:Zc) (x0:Value):M Value:=
 bind (alc 1 x0) fun y1=>
 ret (Value.func (.func 273) #[] #[y1])
theorem Zcf:RA1 JK YL:=ra1 Tryz.func254 (by kernel_rfl) fun _ _=>by kernel_rfl
def ZtY.l1 (Γ:Zc) (s0 s1 s5:Value):M Out:=
 bind (JM s0) fun y1=>
 bind (bop .int .lss s5 y1) fun y2=>
 cnd y2
 (bind (ixs s0 s5) fun y3=>
 bind (Γ Ztv [y3,s1]) fun y4=>
 bind (uop .not y4) fun y5=>
 cnd y5
 (ret (.ret (Value.bool false)))
 (bind (bop .int .add s5 (Value.int .i64 1)) fun y6=>
 ret (.nrm [s0,s1,y6])))
 (ret (.ext 0 []))
def ZtY (Γ:Zc) (x0 x1:Value):M Value:=
 jn (Zi (c3 (ZtY.l1 Γ)) [x0,x1,(Value.int .i64 0)]) noN (xk 0 (c0 (ret (Value.bool true))) noX) ret
def ZtH.l1 (Γ:Zc) (s0 s1 s5:Value):M Out:=
 bind (JM s1) fun y1=>
 bind (bop .int .lss s5 y1) fun y2=>
 cnd y2
 (bind (ixs s1 s5) fun y3=>
 bind (bop .int .eql y3 s0) fun y4=>
 cnd y4
 (ret (.ret (Value.bool true)))
 (bind (bop .int .add s5 (Value.int .i64 1)) fun y5=>
 ret (.nrm [s0,s1,y5])))
 (ret (.ext 0 []))
def ZtH (Γ:Zc) (x0 x1:Value):M Value:=
 jn (Zi (c3 (ZtH.l1 Γ)) [x0,x1,(Value.int .i64 0)]) noN (xk 0 (c0 (ret (Value.bool false))) noX) ret
def Zf0.l2 (Γ:Zc) (s0 s3 s4 s5 s6 s19:Value):M Out:=
 bind (bop .int .lss s19 (Value.int .i64 26)) fun y5=>
 cnd y5
 (bind (ixs s0 s5) fun y6=>
 bind (ixs s3 s19) fun y7=>
 bind (bop .int .eql y6 y7) fun y8=>
 jn (cnd y8
 (bind (bop .int .add s19 (Value.int .i64 1)) fun y9=>
 bind (sls (Value.string ⟨#[97,98,99,100,101,102,103,104,105,106,107,108,109,110,111,112,113,114,115,116,117,118,119,120,121,122]⟩) (some s19) (some y9)) fun y10=>
 ret (.nrm [s0,s3,s4,s5,y10,s19]))
 (ret (.nrm [s0,s3,s4,s5,s6,s19]))) (c6 fun q11_0 q11_1 q11_2 q11_3 q11_4 q11_5=>
 bind (bop .int .add q11_5 (Value.int .i64 1)) fun y12=>
 ret (.nrm [q11_0,q11_1,q11_2,q11_3,q11_4,y12])) noX ZF)
 (ret (.ext 2 [s0,s3,s4,s5,s6]))
def Zf0.l1 (Γ:Zc) (s0 s3 s4 s5:Value):M Out:=
 bind (JM s0) fun y1=>
 bind (bop .int .lss s5 y1) fun y2=>
 cnd y2
 (bind (bop .int .add s5 (Value.int .i64 1)) fun y3=>
 bind (sls s0 (some s5) (some y3)) fun y4=>
 jn (Zi (c6 (Zf0.l2 Γ)) [s0,s3,s4,s5,y4,(Value.int .i64 0)]) noN (xk 2 (c5 fun q15_0 q15_1 q15_2 q15_3 q15_4=>
 bind (bop .str .add q15_2 q15_4) fun y16=>
 bind (bop .int .add q15_3 (Value.int .i64 1)) fun y17=>
 ret (.nrm [q15_0,q15_1,y16,y17])) noX) ZF)
 (ret (.ext 0 [s4]))
def Zf0 (Γ:Zc) (x0:Value):M Value:=
 jn (Zi (c4 (Zf0.l1 Γ)) [x0,(Value.string ⟨#[65,66,67,68,69,70,71,72,73,74,75,76,77,78,79,80,81,82,83,84,85,86,87,88,89,90]⟩),(Value.string ⟨#[]⟩),(Value.int .i64 0)]) noN (xk 0 (c1 fun q20_0=>
 ret q20_0) noX) ret
def ZqB.l1 (Γ:Zc) (s1 s7 s8 s9:Value):M Out:=
 bind (bop .int .lss s9 s8) fun y2=>
 cnd y2
 (bind (ixa 1 s7 s9) fun y3=>
 bind (ld1 y3) fun y4=>
 bind (bop .str .eql y4 s1) fun y5=>
 cnd y5
 (ret (.ret (Value.bool true)))
 (bind (bop .int .add s9 (Value.int .i64 1)) fun y6=>
 ret (.nrm [s1,s7,s8,y6])))
 (ret (.ext 0 []))
def ZqB (Γ:Zc) (x0 x1:Value):M Value:=
 bind (ZC x0) fun y1=>
 jn (Zi (c4 (ZqB.l1 Γ)) [x1,x0,y1,(Value.int .i64 0)]) noN (xk 0 (c0 (ret (Value.bool false))) noX) ret
def Qc.l2 (Γ:Zc) (s0 s1 s2 s3 s8 s9:Value):M Out:=
 bind (bop .int .gtr s9 s1) fun y3=>
 bind (gateV y3 true (ret s3)) fun y4=>
 bind (gateV y3 true (ret s0)) fun y5=>
 bind (gateV y3 true (ret s9)) fun y6=>
 bind (gateV y3 true (ixa 1 y5 y6)) fun y7=>
 bind (gateV y3 true (ld1 y7)) fun y8=>
 bind (gateV y3 true (ret s0)) fun y9=>
 bind (gateV y3 true (ret s9)) fun y10=>
 bind (gateV y3 true (bop .int .sub y10 (Value.int .i64 1))) fun y11=>
 bind (gateV y3 true (ixa 1 y9 y11)) fun y12=>
 bind (gateV y3 true (ld1 y12)) fun y13=>
 bind (gateV y3 true (Qn Γ y4 [y8,y13])) fun y14=>
 bind (gateV y3 true (bop .int .lss y14 (Value.int .i64 0))) fun y15=>
 bind (pick y3 y15 (Value.bool false)) fun y16=>
 cnd y16
 (bind (bop .int .sub s9 (Value.int .i64 1)) fun y17=>
 bind (bop .int .sub s9 (Value.int .i64 1)) fun y18=>
 bind (ixa 1 s0 y18) fun y19=>
 bind (ld1 y19) fun y20=>
 bind (ixa 1 s0 s9) fun y21=>
 bind (ld1 y21) fun y22=>
 bind (ixa 1 s0 s9) fun y23=>
 bind (st1 y23 y20) fun _=>
 bind (ixa 1 s0 y17) fun y24=>
 bind (st1 y24 y22) fun _=>
 bind (bop .int .sub s9 (Value.int .i64 1)) fun y25=>
 ret (.nrm [s0,s1,s2,s3,s8,y25]))
 (ret (.ext 2 [s0,s1,s2,s3,s8]))
def Qc.l1 (Γ:Zc) (s0 s1 s2 s3 s8:Value):M Out:=
 bind (bop .int .lss s8 s2) fun y2=>
 cnd y2
 (jn (Zi (c6 (Qc.l2 Γ)) [s0,s1,s2,s3,s8,s8]) noN (xk 2 (c5 fun q27_0 q27_1 q27_2 q27_3 q27_4=>
 bind (bop .int .add q27_4 (Value.int .i64 1)) fun y28=>
 ret (.nrm [q27_0,q27_1,q27_2,q27_3,y28])) noX) ZF)
 (ret (.ext 0 []))
def Qc (Γ:Zc) (x0 x1 x2 x3:Value):M Value:=
 bind (bop .int .add x1 (Value.int .i64 1)) fun y1=>
 jn (Zi (c5 (Qc.l1 Γ)) [x0,x1,x2,x3,y1]) noN (xk 0 (c0 (ret (Value.tuple #[]))) noX) ret
theorem ZcU:RA4 Jd Qc:=ra4 Tryz.func259 (by kernel_rfl) fun _ _ _ _ _=>by kernel_rfl
def YQ.l1 (Γ:Zc) (s0 s3 s8 s9 s10 s11:Value):M Out:=
 bind (bop .int .geq s11 (Value.int .i64 0)) fun y4=>
 cnd y4
 (bind (Γ Zbw [s0,s11,s10,s8,s3]) fun y5=>
 bind (bop .int .sub s11 (Value.int .i64 1)) fun y6=>
 ret (.nrm [s0,s3,s8,s9,s10,y6]))
 (ret (.ext 0 [s0,s3,s8,s9,s10]))
def YQ.l2 (Γ:Zc) (s0 s3 s8 s9 s12:Value):M Out:=
 bind (bop .int .geq s12 (Value.int .i64 0)) fun y10=>
 cnd y10
 (bind (bop .int .add s8 s12) fun y11=>
 bind (bop .int .add s8 s12) fun y12=>
 bind (ixa 1 s0 y12) fun y13=>
 bind (ld1 y13) fun y14=>
 bind (ixa 1 s0 s8) fun y15=>
 bind (ld1 y15) fun y16=>
 bind (ixa 1 s0 s8) fun y17=>
 bind (st1 y17 y14) fun _=>
 bind (ixa 1 s0 y11) fun y18=>
 bind (st1 y18 y16) fun _=>
 bind (Γ Zbw [s0,s9,s12,s8,s3]) fun y19=>
 bind (bop .int .sub s12 (Value.int .i64 1)) fun y20=>
 ret (.nrm [s0,s3,s8,s9,y20]))
 (ret (.ext 2 []))
def YQ (Γ:Zc) (x0 x1 x2 x3:Value):M Value:=
 bind (bop .int .sub x2 x1) fun y1=>
 bind (bop .int .sub y1 (Value.int .i64 1)) fun y2=>
 bind (bop .int .quo y2 (Value.int .i64 2)) fun y3=>
 jn (Zi (c6 (YQ.l1 Γ)) [x0,x3,x1,(Value.int .i64 0),y1,y3]) noN (xk 0 (c5 fun q8_0 q8_1 q8_2 q8_3 q8_4=>
 bind (bop .int .sub q8_4 (Value.int .i64 1)) fun y9=>
 jn (Zi (c5 (YQ.l2 Γ)) [q8_0,q8_1,q8_2,q8_3,y9]) noN (xk 2 (c0 (ret (Value.tuple #[]))) noX) ret) noX) ret
def WP.l1 (Γ:Zc) (s0 s1 s8 s9 s10 s11:Value):M Out:=
 bind (bop .int .quo s8 (Value.int .i64 4)) fun y10=>
 bind (bop .int .mul y10 (Value.int .i64 2)) fun y11=>
 bind (bop .int .add s1 y11) fun y12=>
 bind (bop .int .add y12 (Value.int .i64 1)) fun y13=>
 bind (bop .int .leq s11 y13) fun y14=>
 cnd y14
 (bind (Γ ZkJ [s9]) fun y15=>
 bind (bop .int .sub s10 (Value.int .u64 1)) fun y16=>
 bind (bop .int .and y15 y16) fun y17=>
 bind (cvi .i64 y17) fun y18=>
 bind (bop .int .geq y18 s8) fun y19=>
 jn (cnd y19
 (bind (bop .int .sub y18 s8) fun y20=>
 ret (.nrm [s0,s1,s8,s9,s10,s11,y20]))
 (ret (.nrm [s0,s1,s8,s9,s10,s11,y18]))) (c7 fun q21_0 q21_1 q21_2 q21_3 q21_4 q21_5 q21_6=>
 bind (bop .int .add q21_1 q21_6) fun y22=>
 bind (bop .int .add q21_1 q21_6) fun y23=>
 bind (ixa 1 q21_0 y23) fun y24=>
 bind (ld1 y24) fun y25=>
 bind (ixa 1 q21_0 q21_5) fun y26=>
 bind (ld1 y26) fun y27=>
 bind (ixa 1 q21_0 q21_5) fun y28=>
 bind (st1 y28 y25) fun _=>
 bind (ixa 1 q21_0 y22) fun y29=>
 bind (st1 y29 y27) fun _=>
 bind (bop .int .add q21_5 (Value.int .i64 1)) fun y30=>
 ret (.nrm [q21_0,q21_1,q21_2,q21_3,q21_4,y30])) noX ZF)
 (ret (.ext 0 []))
def WP (Γ:Zc) (x0 x1 x2 x3:Value):M Value:=
 bind (bop .int .sub x2 x1) fun y1=>
 bind (bop .int .geq y1 (Value.int .i64 8)) fun y2=>
 jn (cnd y2
 (bind (cvi .u64 y1) fun y3=>
 bind (alc 1 (.int .u64 0)) fun y4=>
 bind (st1 y4 y3) fun _=>
 bind (Γ Zi8 [y1]) fun y5=>
 bind (bop .int .quo y1 (Value.int .i64 4)) fun y6=>
 bind (bop .int .mul y6 (Value.int .i64 2)) fun y7=>
 bind (bop .int .add x1 y7) fun y8=>
 bind (bop .int .sub y8 (Value.int .i64 1)) fun y9=>
 jn (Zi (c6 (WP.l1 Γ)) [x0,x1,y1,y4,y5,y9]) noN (xk 0 (c0 (ret (.nrm []))) noX) ZF)
 (ret (.nrm []))) (c0 (ret (Value.tuple #[]))) noX ret
def Zae.l1 (Γ:Zc) (s0 s8 s9:Value):M Out:=
 bind (bop .int .lss s8 s9) fun y2=>
 cnd y2
 (bind (ixa 1 s0 s9) fun y3=>
 bind (ld1 y3) fun y4=>
 bind (ixa 1 s0 s8) fun y5=>
 bind (ld1 y5) fun y6=>
 bind (ixa 1 s0 s8) fun y7=>
 bind (st1 y7 y4) fun _=>
 bind (ixa 1 s0 s9) fun y8=>
 bind (st1 y8 y6) fun _=>
 bind (bop .int .add s8 (Value.int .i64 1)) fun y9=>
 bind (bop .int .sub s9 (Value.int .i64 1)) fun y10=>
 ret (.nrm [s0,y9,y10]))
 (ret (.ext 0 []))
def Zae (Γ:Zc) (x0 x1 x2 x3:Value):M Value:=
 bind (bop .int .sub x2 (Value.int .i64 1)) fun y1=>
 jn (Zi (c3 (Zae.l1 Γ)) [x0,x1,y1]) noN (xk 0 (c0 (ret (Value.tuple #[]))) noX) ret
def ZS.l2 (Γ:Zc) (s0 s1 s2 s3 s9 s10:Value):M Out:=
 bind (bop .int .lss s9 s2) fun y3=>
 bind (gateV y3 true (ret s3)) fun y4=>
 bind (gateV y3 true (ret s0)) fun y5=>
 bind (gateV y3 true (ret s9)) fun y6=>
 bind (gateV y3 true (ixa 1 y5 y6)) fun y7=>
 bind (gateV y3 true (ld1 y7)) fun y8=>
 bind (gateV y3 true (ret s0)) fun y9=>
 bind (gateV y3 true (ret s9)) fun y10=>
 bind (gateV y3 true (bop .int .sub y10 (Value.int .i64 1))) fun y11=>
 bind (gateV y3 true (ixa 1 y9 y11)) fun y12=>
 bind (gateV y3 true (ld1 y12)) fun y13=>
 bind (gateV y3 true (Qn Γ y4 [y8,y13])) fun y14=>
 bind (gateV y3 true (bop .int .lss y14 (Value.int .i64 0))) fun y15=>
 bind (gateV y3 true (uop .not y15)) fun y16=>
 bind (pick y3 y16 (Value.bool false)) fun y17=>
 cnd y17
 (bind (bop .int .add s9 (Value.int .i64 1)) fun y18=>
 ret (.nrm [s0,s1,s2,s3,y18,s10]))
 (ret (.ext 2 [s0,s1,s2,s3,s9,s10]))
def ZS.l3 (Γ:Zc) (s0 s1 s2 s3 s9 s10 s11:Value):M Out:=
 bind (bop .int .geq s11 (Value.int .i64 1)) fun y35=>
 cnd y35
 (bind (ixa 1 s0 s11) fun y36=>
 bind (ld1 y36) fun y37=>
 bind (bop .int .sub s11 (Value.int .i64 1)) fun y38=>
 bind (ixa 1 s0 y38) fun y39=>
 bind (ld1 y39) fun y40=>
 bind (Qn Γ s3 [y37,y40]) fun y41=>
 bind (bop .int .lss y41 (Value.int .i64 0)) fun y42=>
 bind (uop .not y42) fun y43=>
 cnd y43
 (ret (.ext 4 [s0,s1,s2,s3,s9,s10]))
 (bind (bop .int .sub s11 (Value.int .i64 1)) fun y44=>
 bind (bop .int .sub s11 (Value.int .i64 1)) fun y45=>
 bind (ixa 1 s0 y45) fun y46=>
 bind (ld1 y46) fun y47=>
 bind (ixa 1 s0 s11) fun y48=>
 bind (ld1 y48) fun y49=>
 bind (ixa 1 s0 s11) fun y50=>
 bind (st1 y50 y47) fun _=>
 bind (ixa 1 s0 y44) fun y51=>
 bind (st1 y51 y49) fun _=>
 bind (bop .int .sub s11 (Value.int .i64 1)) fun y52=>
 ret (.nrm [s0,s1,s2,s3,s9,s10,y52])))
 (ret (.ext 4 [s0,s1,s2,s3,s9,s10]))
def ZS.l4 (Γ:Zc) (s0 s1 s2 s3 s9 s10 s12:Value):M Out:=
 bind (bop .int .lss s12 s2) fun y62=>
 cnd y62
 (bind (ixa 1 s0 s12) fun y63=>
 bind (ld1 y63) fun y64=>
 bind (bop .int .sub s12 (Value.int .i64 1)) fun y65=>
 bind (ixa 1 s0 y65) fun y66=>
 bind (ld1 y66) fun y67=>
 bind (Qn Γ s3 [y64,y67]) fun y68=>
 bind (bop .int .lss y68 (Value.int .i64 0)) fun y69=>
 bind (uop .not y69) fun y70=>
 cnd y70
 (ret (.ext 6 [s0,s1,s2,s3,s9,s10]))
 (bind (bop .int .sub s12 (Value.int .i64 1)) fun y71=>
 bind (bop .int .sub s12 (Value.int .i64 1)) fun y72=>
 bind (ixa 1 s0 y72) fun y73=>
 bind (ld1 y73) fun y74=>
 bind (ixa 1 s0 s12) fun y75=>
 bind (ld1 y75) fun y76=>
 bind (ixa 1 s0 s12) fun y77=>
 bind (st1 y77 y74) fun _=>
 bind (ixa 1 s0 y71) fun y78=>
 bind (st1 y78 y76) fun _=>
 bind (bop .int .add s12 (Value.int .i64 1)) fun y79=>
 ret (.nrm [s0,s1,s2,s3,s9,s10,y79])))
 (ret (.ext 6 [s0,s1,s2,s3,s9,s10]))
def ZS.l1 (Γ:Zc) (s0 s1 s2 s3 s9 s10:Value):M Out:=
 bind (bop .int .lss s10 (Value.int .i64 5)) fun y2=>
 cnd y2
 (jn (Zi (c6 (ZS.l2 Γ)) [s0,s1,s2,s3,s9,s10]) noN (xk 2 (c6 fun q20_0 q20_1 q20_2 q20_3 q20_4 q20_5=>
 bind (bop .int .eql q20_4 q20_2) fun y21=>
 cnd y21
 (ret (.ret (Value.bool true)))
 (bind (bop .int .sub q20_2 q20_1) fun y22=>
 bind (bop .int .lss y22 (Value.int .i64 50)) fun y23=>
 cnd y23
 (ret (.ret (Value.bool false)))
 (bind (bop .int .sub q20_4 (Value.int .i64 1)) fun y24=>
 bind (bop .int .sub q20_4 (Value.int .i64 1)) fun y25=>
 bind (ixa 1 q20_0 y25) fun y26=>
 bind (ld1 y26) fun y27=>
 bind (ixa 1 q20_0 q20_4) fun y28=>
 bind (ld1 y28) fun y29=>
 bind (ixa 1 q20_0 q20_4) fun y30=>
 bind (st1 y30 y27) fun _=>
 bind (ixa 1 q20_0 y24) fun y31=>
 bind (st1 y31 y29) fun _=>
 bind (bop .int .sub q20_4 q20_1) fun y32=>
 bind (bop .int .geq y32 (Value.int .i64 2)) fun y33=>
 jn (cnd y33
 (bind (bop .int .sub q20_4 (Value.int .i64 1)) fun y34=>
 jn (jn (Zi (c7 (ZS.l3 Γ)) [q20_0,q20_1,q20_2,q20_3,q20_4,q20_5,y34]) noN (xk 4 (c6 fun q54_0 q54_1 q54_2 q54_3 q54_4 q54_5=>
 ret (.nrm [q54_0,q54_1,q54_2,q54_3,q54_4,q54_5])) noX) ZF) (c6 fun q56_0 q56_1 q56_2 q56_3 q56_4 q56_5=>
 ret (.nrm [q56_0,q56_1,q56_2,q56_3,q56_4,q56_5])) noX ZF)
 (ret (.nrm [q20_0,q20_1,q20_2,q20_3,q20_4,q20_5]))) (c6 fun q58_0 q58_1 q58_2 q58_3 q58_4 q58_5=>
 bind (bop .int .sub q58_2 q58_4) fun y59=>
 bind (bop .int .geq y59 (Value.int .i64 2)) fun y60=>
 jn (cnd y60
 (bind (bop .int .add q58_4 (Value.int .i64 1)) fun y61=>
 jn (jn (Zi (c7 (ZS.l4 Γ)) [q58_0,q58_1,q58_2,q58_3,q58_4,q58_5,y61]) noN (xk 6 (c6 fun q81_0 q81_1 q81_2 q81_3 q81_4 q81_5=>
 ret (.nrm [q81_0,q81_1,q81_2,q81_3,q81_4,q81_5])) noX) ZF) (c6 fun q83_0 q83_1 q83_2 q83_3 q83_4 q83_5=>
 ret (.nrm [q83_0,q83_1,q83_2,q83_3,q83_4,q83_5])) noX ZF)
 (ret (.nrm [q58_0,q58_1,q58_2,q58_3,q58_4,q58_5]))) (c6 fun q85_0 q85_1 q85_2 q85_3 q85_4 q85_5=>
 bind (bop .int .add q85_5 (Value.int .i64 1)) fun y86=>
 ret (.nrm [q85_0,q85_1,q85_2,q85_3,q85_4,y86])) noX ZF) noX ZF))) noX) ZF)
 (ret (.ext 0 []))
def ZS (Γ:Zc) (x0 x1 x2 x3:Value):M Value:=
 bind (bop .int .add x1 (Value.int .i64 1)) fun y1=>
 jn (Zi (c6 (ZS.l1 Γ)) [x0,x1,x2,x3,y1,(Value.int .i64 0)]) noN (xk 0 (c0 (ret (Value.bool false))) noX) ret
def QJ.l2 (Γ:Zc) (s0 s1 s4 s11 s12:Value):M Out:=
 bind (bop .int .leq s11 s12) fun y9=>
 bind (gateV y9 true (ret s4)) fun y10=>
 bind (gateV y9 true (ret s0)) fun y11=>
 bind (gateV y9 true (ret s1)) fun y12=>
 bind (gateV y9 true (ixa 1 y11 y12)) fun y13=>
 bind (gateV y9 true (ld1 y13)) fun y14=>
 bind (gateV y9 true (ret s0)) fun y15=>
 bind (gateV y9 true (ret s11)) fun y16=>
 bind (gateV y9 true (ixa 1 y15 y16)) fun y17=>
 bind (gateV y9 true (ld1 y17)) fun y18=>
 bind (gateV y9 true (Qn Γ y10 [y14,y18])) fun y19=>
 bind (gateV y9 true (bop .int .lss y19 (Value.int .i64 0))) fun y20=>
 bind (gateV y9 true (uop .not y20)) fun y21=>
 bind (pick y9 y21 (Value.bool false)) fun y22=>
 cnd y22
 (bind (bop .int .add s11 (Value.int .i64 1)) fun y23=>
 ret (.nrm [s0,s1,s4,y23,s12]))
 (ret (.ext 2 [s0,s1,s4,s11,s12]))
def QJ.l3 (Γ:Zc) (s0 s1 s4 s11 s12:Value):M Out:=
 bind (bop .int .leq s11 s12) fun y26=>
 bind (gateV y26 true (ret s4)) fun y27=>
 bind (gateV y26 true (ret s0)) fun y28=>
 bind (gateV y26 true (ret s1)) fun y29=>
 bind (gateV y26 true (ixa 1 y28 y29)) fun y30=>
 bind (gateV y26 true (ld1 y30)) fun y31=>
 bind (gateV y26 true (ret s0)) fun y32=>
 bind (gateV y26 true (ret s12)) fun y33=>
 bind (gateV y26 true (ixa 1 y32 y33)) fun y34=>
 bind (gateV y26 true (ld1 y34)) fun y35=>
 bind (gateV y26 true (Qn Γ y27 [y31,y35])) fun y36=>
 bind (gateV y26 true (bop .int .lss y36 (Value.int .i64 0))) fun y37=>
 bind (pick y26 y37 (Value.bool false)) fun y38=>
 cnd y38
 (bind (bop .int .sub s12 (Value.int .i64 1)) fun y39=>
 ret (.nrm [s0,s1,s4,s11,y39]))
 (ret (.ext 4 [s0,s1,s4,s11,s12]))
def QJ.l1 (Γ:Zc) (s0 s1 s4 s11 s12:Value):M Out:=
 jn (Zi (c5 (QJ.l2 Γ)) [s0,s1,s4,s11,s12]) noN (xk 2 (c5 fun q25_0 q25_1 q25_2 q25_3 q25_4=>
 jn (Zi (c5 (QJ.l3 Γ)) [q25_0,q25_1,q25_2,q25_3,q25_4]) noN (xk 4 (c5 fun q41_0 q41_1 q41_2 q41_3 q41_4=>
 bind (bop .int .gtr q41_3 q41_4) fun y42=>
 cnd y42
 (ret (.ext 0 [q41_3]))
 (bind (ixa 1 q41_0 q41_4) fun y43=>
 bind (ld1 y43) fun y44=>
 bind (ixa 1 q41_0 q41_3) fun y45=>
 bind (ld1 y45) fun y46=>
 bind (ixa 1 q41_0 q41_3) fun y47=>
 bind (st1 y47 y44) fun _=>
 bind (ixa 1 q41_0 q41_4) fun y48=>
 bind (st1 y48 y46) fun _=>
 bind (bop .int .add q41_3 (Value.int .i64 1)) fun y49=>
 bind (bop .int .sub q41_4 (Value.int .i64 1)) fun y50=>
 ret (.nrm [q41_0,q41_1,q41_2,y49,y50]))) noX) ZF) noX) ZF
def QJ (Γ:Zc) (x0 x1 x2 x3 x4:Value):M Value:=
 bind (ixa 1 x0 x3) fun y1=>
 bind (ld1 y1) fun y2=>
 bind (ixa 1 x0 x1) fun y3=>
 bind (ld1 y3) fun y4=>
 bind (ixa 1 x0 x1) fun y5=>
 bind (st1 y5 y2) fun _=>
 bind (ixa 1 x0 x3) fun y6=>
 bind (st1 y6 y4) fun _=>
 bind (bop .int .add x1 (Value.int .i64 1)) fun y7=>
 bind (bop .int .sub x2 (Value.int .i64 1)) fun y8=>
 jn (Zi (c5 (QJ.l1 Γ)) [x0,x1,x4,y7,y8]) noN (xk 0 (c1 fun q54_0=>
 ret q54_0) noX) ret
def Z3.l1 (Γ:Zc) (s0 s1 s4 s12 s13:Value):M Out:=
 bind (bop .int .leq s12 s13) fun y9=>
 bind (gateV y9 true (ret s4)) fun y10=>
 bind (gateV y9 true (ret s0)) fun y11=>
 bind (gateV y9 true (ret s12)) fun y12=>
 bind (gateV y9 true (ixa 1 y11 y12)) fun y13=>
 bind (gateV y9 true (ld1 y13)) fun y14=>
 bind (gateV y9 true (ret s0)) fun y15=>
 bind (gateV y9 true (ret s1)) fun y16=>
 bind (gateV y9 true (ixa 1 y15 y16)) fun y17=>
 bind (gateV y9 true (ld1 y17)) fun y18=>
 bind (gateV y9 true (Qn Γ y10 [y14,y18])) fun y19=>
 bind (gateV y9 true (bop .int .lss y19 (Value.int .i64 0))) fun y20=>
 bind (pick y9 y20 (Value.bool false)) fun y21=>
 cnd y21
 (bind (bop .int .add s12 (Value.int .i64 1)) fun y22=>
 ret (.nrm [s0,s1,s4,y22,s13]))
 (ret (.ext 0 [s0,s1,s4,s12,s13]))
def Z3.l2 (Γ:Zc) (s0 s1 s4 s12 s13:Value):M Out:=
 bind (bop .int .leq s12 s13) fun y25=>
 bind (gateV y25 true (ret s4)) fun y26=>
 bind (gateV y25 true (ret s0)) fun y27=>
 bind (gateV y25 true (ret s13)) fun y28=>
 bind (gateV y25 true (ixa 1 y27 y28)) fun y29=>
 bind (gateV y25 true (ld1 y29)) fun y30=>
 bind (gateV y25 true (ret s0)) fun y31=>
 bind (gateV y25 true (ret s1)) fun y32=>
 bind (gateV y25 true (ixa 1 y31 y32)) fun y33=>
 bind (gateV y25 true (ld1 y33)) fun y34=>
 bind (gateV y25 true (Qn Γ y26 [y30,y34])) fun y35=>
 bind (gateV y25 true (bop .int .lss y35 (Value.int .i64 0))) fun y36=>
 bind (gateV y25 true (uop .not y36)) fun y37=>
 bind (pick y25 y37 (Value.bool false)) fun y38=>
 cnd y38
 (bind (bop .int .sub s13 (Value.int .i64 1)) fun y39=>
 ret (.nrm [s0,s1,s4,s12,y39]))
 (ret (.ext 2 [s0,s1,s4,s12,s13]))
def Z3.l4 (Γ:Zc) (s0 s1 s4 s12 s13:Value):M Out:=
 bind (bop .int .leq s12 s13) fun y57=>
 bind (gateV y57 true (ret s4)) fun y58=>
 bind (gateV y57 true (ret s0)) fun y59=>
 bind (gateV y57 true (ret s12)) fun y60=>
 bind (gateV y57 true (ixa 1 y59 y60)) fun y61=>
 bind (gateV y57 true (ld1 y61)) fun y62=>
 bind (gateV y57 true (ret s0)) fun y63=>
 bind (gateV y57 true (ret s1)) fun y64=>
 bind (gateV y57 true (ixa 1 y63 y64)) fun y65=>
 bind (gateV y57 true (ld1 y65)) fun y66=>
 bind (gateV y57 true (Qn Γ y58 [y62,y66])) fun y67=>
 bind (gateV y57 true (bop .int .lss y67 (Value.int .i64 0))) fun y68=>
 bind (pick y57 y68 (Value.bool false)) fun y69=>
 cnd y69
 (bind (bop .int .add s12 (Value.int .i64 1)) fun y70=>
 ret (.nrm [s0,s1,s4,y70,s13]))
 (ret (.ext 6 [s0,s1,s4,s12,s13]))
def Z3.l5 (Γ:Zc) (s0 s1 s4 s12 s13:Value):M Out:=
 bind (bop .int .leq s12 s13) fun y73=>
 bind (gateV y73 true (ret s4)) fun y74=>
 bind (gateV y73 true (ret s0)) fun y75=>
 bind (gateV y73 true (ret s13)) fun y76=>
 bind (gateV y73 true (ixa 1 y75 y76)) fun y77=>
 bind (gateV y73 true (ld1 y77)) fun y78=>
 bind (gateV y73 true (ret s0)) fun y79=>
 bind (gateV y73 true (ret s1)) fun y80=>
 bind (gateV y73 true (ixa 1 y79 y80)) fun y81=>
 bind (gateV y73 true (ld1 y81)) fun y82=>
 bind (gateV y73 true (Qn Γ y74 [y78,y82])) fun y83=>
 bind (gateV y73 true (bop .int .lss y83 (Value.int .i64 0))) fun y84=>
 bind (gateV y73 true (uop .not y84)) fun y85=>
 bind (pick y73 y85 (Value.bool false)) fun y86=>
 cnd y86
 (bind (bop .int .sub s13 (Value.int .i64 1)) fun y87=>
 ret (.nrm [s0,s1,s4,s12,y87]))
 (ret (.ext 8 [s0,s1,s4,s12,s13]))
def Z3.l3 (Γ:Zc) (s0 s1 s4 s12 s13:Value):M Out:=
 jn (Zi (c5 (Z3.l4 Γ)) [s0,s1,s4,s12,s13]) noN (xk 6 (c5 fun q72_0 q72_1 q72_2 q72_3 q72_4=>
 jn (Zi (c5 (Z3.l5 Γ)) [q72_0,q72_1,q72_2,q72_3,q72_4]) noN (xk 8 (c5 fun q89_0 q89_1 q89_2 q89_3 q89_4=>
 bind (bop .int .gtr q89_3 q89_4) fun y90=>
 cnd y90
 (ret (.ext 4 [q89_0,q89_1,q89_4]))
 (bind (ixa 1 q89_0 q89_4) fun y91=>
 bind (ld1 y91) fun y92=>
 bind (ixa 1 q89_0 q89_3) fun y93=>
 bind (ld1 y93) fun y94=>
 bind (ixa 1 q89_0 q89_3) fun y95=>
 bind (st1 y95 y92) fun _=>
 bind (ixa 1 q89_0 q89_4) fun y96=>
 bind (st1 y96 y94) fun _=>
 bind (bop .int .add q89_3 (Value.int .i64 1)) fun y97=>
 bind (bop .int .sub q89_4 (Value.int .i64 1)) fun y98=>
 ret (.nrm [q89_0,q89_1,q89_2,y97,y98]))) noX) ZF) noX) ZF
def Z3 (Γ:Zc) (x0 x1 x2 x3 x4:Value):M Value:=
 bind (ixa 1 x0 x3) fun y1=>
 bind (ld1 y1) fun y2=>
 bind (ixa 1 x0 x1) fun y3=>
 bind (ld1 y3) fun y4=>
 bind (ixa 1 x0 x1) fun y5=>
 bind (st1 y5 y2) fun _=>
 bind (ixa 1 x0 x3) fun y6=>
 bind (st1 y6 y4) fun _=>
 bind (bop .int .add x1 (Value.int .i64 1)) fun y7=>
 bind (bop .int .sub x2 (Value.int .i64 1)) fun y8=>
 jn (Zi (c5 (Z3.l1 Γ)) [x0,x1,x4,y7,y8]) noN (xk 0 (c5 fun q24_0 q24_1 q24_2 q24_3 q24_4=>
 jn (Zi (c5 (Z3.l2 Γ)) [q24_0,q24_1,q24_2,q24_3,q24_4]) noN (xk 2 (c5 fun q41_0 q41_1 q41_2 q41_3 q41_4=>
 bind (bop .int .gtr q41_3 q41_4) fun y42=>
 cnd y42
 (bind (ixa 1 q41_0 q41_1) fun y43=>
 bind (ld1 y43) fun y44=>
 bind (ixa 1 q41_0 q41_4) fun y45=>
 bind (ld1 y45) fun y46=>
 bind (ixa 1 q41_0 q41_4) fun y47=>
 bind (st1 y47 y44) fun _=>
 bind (ixa 1 q41_0 q41_1) fun y48=>
 bind (st1 y48 y46) fun _=>
 ret (Value.tuple #[q41_4,(Value.bool true)]))
 (bind (ixa 1 q41_0 q41_4) fun y49=>
 bind (ld1 y49) fun y50=>
 bind (ixa 1 q41_0 q41_3) fun y51=>
 bind (ld1 y51) fun y52=>
 bind (ixa 1 q41_0 q41_3) fun y53=>
 bind (st1 y53 y50) fun _=>
 bind (ixa 1 q41_0 q41_4) fun y54=>
 bind (st1 y54 y52) fun _=>
 bind (bop .int .add q41_3 (Value.int .i64 1)) fun y55=>
 bind (bop .int .sub q41_4 (Value.int .i64 1)) fun y56=>
 jn (Zi (c5 (Z3.l3 Γ)) [q41_0,q41_1,q41_2,y55,y56]) noN (xk 4 (c3 fun q102_0 q102_1 q102_2=>
 bind (ixa 1 q102_0 q102_1) fun y103=>
 bind (ld1 y103) fun y104=>
 bind (ixa 1 q102_0 q102_2) fun y105=>
 bind (ld1 y105) fun y106=>
 bind (ixa 1 q102_0 q102_2) fun y107=>
 bind (st1 y107 y104) fun _=>
 bind (ixa 1 q102_0 q102_1) fun y108=>
 bind (st1 y108 y106) fun _=>
 ret (Value.tuple #[q102_2,(Value.bool false)])) noX) ret)) noX) ret) noX) ret
def ZeY (Γ:Zc) (x0:Value):M Value:=
 bind (bop .int .geq x0 (Value.int .u64 4294967296)) fun y1=>
 jn (cnd y1
 (bind (bop .int .shr x0 (Value.int .u64 32)) fun y2=>
 ret (.nrm [y2,(Value.int .i64 32)]))
 (ret (.nrm [x0,(Value.int .i64 0)]))) (c2 fun q3_0 q3_1=>
 bind (bop .int .geq q3_0 (Value.int .u64 65536)) fun y4=>
 jn (cnd y4
 (bind (bop .int .shr q3_0 (Value.int .u64 16)) fun y5=>
 bind (bop .int .add q3_1 (Value.int .i64 16)) fun y6=>
 ret (.nrm [y5,y6]))
 (ret (.nrm [q3_0,q3_1]))) (c2 fun q7_0 q7_1=>
 bind (bop .int .geq q7_0 (Value.int .u64 256)) fun y8=>
 jn (cnd y8
 (bind (bop .int .shr q7_0 (Value.int .u64 8)) fun y9=>
 bind (bop .int .add q7_1 (Value.int .i64 8)) fun y10=>
 ret (.nrm [y9,y10]))
 (ret (.nrm [q7_0,q7_1]))) (c2 fun q11_0 q11_1=>
 bind (cvi .u8 q11_0) fun y12=>
 bind (ixs (Value.string ⟨#[0,1,2,2,3,3,3,3,4,4,4,4,4,4,4,4,5,5,5,5,5,5,5,5,5,5,5,5,5,5,5,5,6,6,6,6,6,6,6,6,6,6,6,6,6,6,6,6,6,6,6,6,6,6,6,6,6,6,6,6,6,6,6,6,7,7,7,7,7,7,7,7,7,7,7,7,7,7,7,7,7,7,7,7,7,7,7,7,7,7,7,7,7,7,7,7,7,7,7,7,7,7,7,7,7,7,7,7,7,7,7,7,7,7,7,7,7,7,7,7,7,7,7,7,7,7,7,7,8,8,8,8,8,8,8,8,8,8,8,8,8,8,8,8,8,8,8,8,8,8,8,8,8,8,8,8,8,8,8,8,8,8,8,8,8,8,8,8,8,8,8,8,8,8,8,8,8,8,8,8,8,8,8,8,8,8,8,8,8,8,8,8,8,8,8,8,8,8,8,8,8,8,8,8,8,8,8,8,8,8,8,8,8,8,8,8,8,8,8,8,8,8,8,8,8,8,8,8,8,8,8,8,8,8,8,8,8,8,8,8,8,8,8,8,8,8,8,8,8,8,8,8,8,8,8,8]⟩) y12) fun y13=>
 bind (cvi .i64 y13) fun y14=>
 bind (bop .int .add q11_1 y14) fun y15=>
 ret y15) noX ret) noX ret) noX ret
theorem ZnM:RA1 Zcz ZeY:=ra1 Tryz.func268 (by kernel_rfl) fun _ _=>by kernel_rfl
def Yv.l1 (Γ:Zc) (s0 s1 s5 s6 s7 s8 s9 s10:Value):M Out:=
 bind (bop .int .lss s8 s9) fun y23=>
 cnd y23
 (bind (ixs s0 s8) fun y24=>
 bind (bop .int .neq y24 s6) fun y25=>
 jn (cnd y25
 (bind (bop .int .add s8 (Value.int .i64 1)) fun y26=>
 bind (sls s0 (some y26) (some s9)) fun y27=>
 bind (Γ JW [y27,s6]) fun y28=>
 bind (bop .int .lss y28 (Value.int .i64 0)) fun y29=>
 cnd y29
 (ret (.ret (Value.int .i64 (-1))))
 (bind (bop .int .add y28 (Value.int .i64 1)) fun y30=>
 bind (bop .int .add s8 y30) fun y31=>
 ret (.nrm [s0,s1,s5,s6,s7,y31,s9,s10])))
 (ret (.nrm [s0,s1,s5,s6,s7,s8,s9,s10]))) (c8 fun q32_0 q32_1 q32_2 q32_3 q32_4 q32_5 q32_6 q32_7=>
 bind (bop .int .add q32_5 (Value.int .i64 1)) fun y33=>
 bind (ixs q32_0 y33) fun y34=>
 bind (bop .int .eql y34 q32_4) fun y35=>
 bind (gate y35 true 8 (bind (bop .int .add q32_5 q32_2) fun y36=>
 bind (sls q32_0 (some q32_5) (some y36)) fun y37=>
 bind (bop .str .eql y37 q32_1) fun y38=>
 ret [q32_0,q32_5,q32_5,q32_2,y36,y37,q32_1,y38])) (c8 fun _ _ _ _ _ _ _ q39_7=>
 bind (pick y35 q39_7 (Value.bool false)) fun y40=>
 cnd y40
 (ret (.ret q32_5))
 (bind (bop .int .add q32_5 (Value.int .i64 1)) fun y41=>
 bind (bop .int .add q32_7 (Value.int .i64 1)) fun y42=>
 bind (ld1 (Value.pointer (some ⟨1,0,none⟩))) fun y43=>
 bind (bop .int .leq q32_2 y43) fun y44=>
 bind (gate y44 true 4 (bind (Γ Zib [y41]) fun y45=>
 bind (bop .int .gtr y42 y45) fun y46=>
 ret [y42,y41,y45,y46])) (c4 fun _ _ _ q47_3=>
 bind (pick y44 q47_3 (Value.bool false)) fun y48=>
 cnd y48
 (bind (sls q32_0 (some y41) none) fun y49=>
 bind (Γ ZbE [y49,q32_1]) fun y50=>
 bind (bop .int .geq y50 (Value.int .i64 0)) fun y51=>
 cnd y51
 (bind (bop .int .add y50 y41) fun y52=>
 ret (.ret y52))
 (ret (.ret (Value.int .i64 (-1)))))
 (bind (ld1 (Value.pointer (some ⟨1,0,none⟩))) fun y53=>
 bind (bop .int .gtr q32_2 y53) fun y54=>
 bind (gate y54 true 5 (bind (bop .int .shr y41 (Value.int .u64 4)) fun y55=>
 bind (bop .int .add (Value.int .i64 4) y55) fun y56=>
 bind (bop .int .geq y42 y56) fun y57=>
 ret [y42,y41,y55,y56,y57])) (c5 fun _ _ _ _ q58_4=>
 bind (pick y54 q58_4 (Value.bool false)) fun y59=>
 bind (gate y59 true 3 (bind (bop .int .lss y41 q32_6) fun y60=>
 ret [y41,q32_6,y60])) (c3 fun _ _ q61_2=>
 bind (pick y59 q61_2 (Value.bool false)) fun y62=>
 cnd y62
 (bind (sls q32_0 (some y41) none) fun y63=>
 bind (Γ ZcC [y63,q32_1]) fun y64=>
 bind (bop .int .lss y64 (Value.int .i64 0)) fun y65=>
 cnd y65
 (ret (.ret (Value.int .i64 (-1))))
 (bind (bop .int .add y41 y64) fun y66=>
 ret (.ret y66)))
 (ret (.nrm [q32_0,q32_1,q32_2,q32_3,q32_4,y41,q32_6,y42]))))))))) noX ZF)
 (ret (.ext 1 []))
def Yv (Γ:Zc) (x0 x1:Value):M Value:=
 bind (JM x1) fun y1=>
 bind (bop .int .eql y1 (Value.int .i64 0)) fun y2=>
 bind (gate y2 false 3 (bind (bop .str .eql x1 x0) fun y3=>
 ret [x1,x0,y3])) (c3 fun _ _ q4_2=>
 bind (pick y2 (Value.bool true) q4_2) fun y5=>
 cnd y5
 (ret (Value.int .i64 0))
 (bind (bop .int .eql y1 (Value.int .i64 1)) fun y6=>
 cnd y6
 (bind (ixs x1 (Value.int .i64 0)) fun y7=>
 bind (Γ JW [x0,y7]) fun y8=>
 ret y8)
 (bind (JM x0) fun y9=>
 bind (bop .int .geq y1 y9) fun y10=>
 cnd y10
 (ret (Value.int .i64 (-1)))
 (bind (ld1 (Value.pointer (some ⟨1,0,none⟩))) fun y11=>
 bind (bop .int .leq y1 y11) fun y12=>
 bind (gate y12 true 3 (bind (JM x0) fun y13=>
 bind (bop .int .leq y13 (Value.int .i64 64)) fun y14=>
 ret [x0,y13,y14])) (c3 fun _ _ q15_2=>
 bind (pick y12 q15_2 (Value.bool false)) fun y16=>
 cnd y16
 (bind (Γ ZbE [x0,x1]) fun y17=>
 ret y17)
 (bind (ixs x1 (Value.int .i64 0)) fun y18=>
 bind (ixs x1 (Value.int .i64 1)) fun y19=>
 bind (JM x0) fun y20=>
 bind (bop .int .sub y20 y1) fun y21=>
 bind (bop .int .add y21 (Value.int .i64 1)) fun y22=>
 jn (Zi (c8 (Yv.l1 Γ)) [x0,x1,y1,y18,y19,(Value.int .i64 0),y22,(Value.int .i64 0)]) noN (xk 1 (c0 (ret (Value.int .i64 (-1)))) noX) ret))))))
theorem ZfP:RA2 Q8 Yv:=ra2 Tryz.func269 (by kernel_rfl) fun _ _ _=>by kernel_rfl
def ZhQ.l1 (Γ:Zc) (s0 s1 s6 s7:Value):M Out:=
 bind (bop .int .sub s1 (Value.int .i64 1)) fun y8=>
 bind (bop .int .lss s7 y8) fun y9=>
 cnd y9
 (bind (Γ Zer [s0]) fun y10=>
 bind (Zm y10 0) fun y11=>
 bind (Zm y10 1) fun y12=>
 bind (sls s0 none (some y12)) fun y13=>
 bind (ixa 1 s6 s7) fun y14=>
 bind (st1 y14 y13) fun _=>
 bind (sls s0 (some y12) none) fun y15=>
 bind (bop .int .add s7 (Value.int .i64 1)) fun y16=>
 ret (.nrm [y15,s1,s6,y16]))
 (ret (.ext 0 [s0,s1,s6]))
def ZhQ (Γ:Zc) (x0 x1:Value):M Value:=
 bind (Γ Za4 [x0]) fun y1=>
 bind (bop .int .lss x1 (Value.int .i64 0)) fun y2=>
 bind (gate y2 false 3 (bind (bop .int .gtr x1 y1) fun y3=>
 ret [x1,y1,y3])) (c3 fun _ _ q4_2=>
 bind (pick y2 (Value.bool true) q4_2) fun y5=>
 jn (cnd y5
 (ret (.nrm [x0,y1]))
 (ret (.nrm [x0,x1]))) (c2 fun q6_0 q6_1=>
 bind (mks 1 16 (.string ⟨#[]⟩) q6_1 q6_1) fun y7=>
 jn (Zi (c4 (ZhQ.l1 Γ)) [q6_0,q6_1,y7,(Value.int .i64 0)]) noN (xk 0 (c3 fun q18_0 q18_1 q18_2=>
 bind (bop .int .gtr q18_1 (Value.int .i64 0)) fun y19=>
 jn (cnd y19
 (bind (bop .int .sub q18_1 (Value.int .i64 1)) fun y20=>
 bind (ixa 1 q18_2 y20) fun y21=>
 bind (st1 y21 q18_0) fun _=>
 ret (.nrm [q18_2]))
 (ret (.nrm [q18_2]))) (c1 fun q22_0=>
 ret q22_0) noX ret) noX) ret) noX ret)
def ZbL.l1 (Γ:Zc) (s0 s1 s5:Value):M Out:=
 bind (Γ Zao [s0,s1]) fun y9=>
 bind (bop .int .eql y9 (Value.int .i64 (-1))) fun y10=>
 cnd y10
 (ret (.ret s5))
 (bind (bop .int .add s5 (Value.int .i64 1)) fun y11=>
 bind (JM s1) fun y12=>
 bind (bop .int .add y9 y12) fun y13=>
 bind (sls s0 (some y13) none) fun y14=>
 ret (.nrm [y14,s1,y11]))
def ZbL (Γ:Zc) (x0 x1:Value):M Value:=
 bind (JM x1) fun y1=>
 bind (bop .int .eql y1 (Value.int .i64 0)) fun y2=>
 cnd y2
 (bind (Γ Za4 [x0]) fun y3=>
 bind (bop .int .add y3 (Value.int .i64 1)) fun y4=>
 ret y4)
 (bind (JM x1) fun y5=>
 bind (bop .int .eql y5 (Value.int .i64 1)) fun y6=>
 cnd y6
 (bind (ixs x1 (Value.int .i64 0)) fun y7=>
 bind (Γ Y9 [x0,y7]) fun y8=>
 ret y8)
 (jn (Zi (c3 (ZbL.l1 Γ)) [x0,x1,(Value.int .i64 0)]) noN noX ret))
theorem Zqm:RA2 ZbI ZbL:=ra2 Tryz.func271 (by kernel_rfl) fun _ _ _=>by kernel_rfl
def ZfD (Γ:Zc) (x0 x1:Value):M Value:=
 bind (Γ Q8 [x0,x1]) fun y1=>
 ret y1
theorem ZpX:RA2 Zao ZfD:=ra2 Tryz.func272 (by kernel_rfl) fun _ _ _=>by kernel_rfl
def Zbu.l1 (Γ:Zc) (s0 s2 s3 s4 s10:Value):M Out:=
 bind (bop .int .mul (Value.int .i64 2) s10) fun y1=>
 bind (bop .int .add y1 (Value.int .i64 1)) fun y2=>
 bind (bop .int .geq y2 s2) fun y3=>
 cnd y3
 (ret (.ext 0 []))
 (bind (bop .int .add y2 (Value.int .i64 1)) fun y4=>
 bind (bop .int .lss y4 s2) fun y5=>
 bind (gateV y5 true (ret s4)) fun y6=>
 bind (gateV y5 true (ret s0)) fun y7=>
 bind (gateV y5 true (ret s3)) fun y8=>
 bind (gateV y5 true (ret y2)) fun y9=>
 bind (gateV y5 true (bop .int .add y8 y9)) fun y10=>
 bind (gateV y5 true (ixa 1 y7 y10)) fun y11=>
 bind (gateV y5 true (ld1 y11)) fun y12=>
 bind (gateV y5 true (ret s0)) fun y13=>
 bind (gateV y5 true (ret s3)) fun y14=>
 bind (gateV y5 true (ret y2)) fun y15=>
 bind (gateV y5 true (bop .int .add y14 y15)) fun y16=>
 bind (gateV y5 true (bop .int .add y16 (Value.int .i64 1))) fun y17=>
 bind (gateV y5 true (ixa 1 y13 y17)) fun y18=>
 bind (gateV y5 true (ld1 y18)) fun y19=>
 bind (gateV y5 true (Qn Γ y6 [y12,y19])) fun y20=>
 bind (gateV y5 true (bop .int .lss y20 (Value.int .i64 0))) fun y21=>
 bind (pick y5 y21 (Value.bool false)) fun y22=>
 jn (cnd y22
 (bind (bop .int .add y2 (Value.int .i64 1)) fun y23=>
 ret (.nrm [s0,s2,s3,s4,s10,y23]))
 (ret (.nrm [s0,s2,s3,s4,s10,y2]))) (c6 fun q24_0 q24_1 q24_2 q24_3 q24_4 q24_5=>
 bind (bop .int .add q24_2 q24_4) fun y25=>
 bind (ixa 1 q24_0 y25) fun y26=>
 bind (ld1 y26) fun y27=>
 bind (bop .int .add q24_2 q24_5) fun y28=>
 bind (ixa 1 q24_0 y28) fun y29=>
 bind (ld1 y29) fun y30=>
 bind (Qn Γ q24_3 [y27,y30]) fun y31=>
 bind (bop .int .lss y31 (Value.int .i64 0)) fun y32=>
 bind (uop .not y32) fun y33=>
 cnd y33
 (ret (.ret (Value.tuple #[])))
 (bind (bop .int .add q24_2 q24_4) fun y34=>
 bind (bop .int .add q24_2 q24_5) fun y35=>
 bind (bop .int .add q24_2 q24_5) fun y36=>
 bind (ixa 1 q24_0 y36) fun y37=>
 bind (ld1 y37) fun y38=>
 bind (bop .int .add q24_2 q24_4) fun y39=>
 bind (ixa 1 q24_0 y39) fun y40=>
 bind (ld1 y40) fun y41=>
 bind (ixa 1 q24_0 y34) fun y42=>
 bind (st1 y42 y38) fun _=>
 bind (ixa 1 q24_0 y35) fun y43=>
 bind (st1 y43 y41) fun _=>
 ret (.nrm [q24_0,q24_1,q24_2,q24_3,q24_5]))) noX ZF)
def Zbu (Γ:Zc) (x0 x1 x2 x3 x4:Value):M Value:=
 jn (Zi (c5 (Zbu.l1 Γ)) [x0,x2,x3,x4,x1]) noN (xk 0 (c0 (ret (Value.tuple #[]))) noX) ret
def K1 (Γ:Zc) (x0 x1:Value):M Value:=
 bind (Γ Yp [x0,x1]) fun y1=>
 ret y1
theorem ZdU:RA2 JW K1:=ra2 Tryz.func279 (by kernel_rfl) fun _ _ _=>by kernel_rfl
def JJ.l1 (Γ:Zc) (s0 s1 s5 s6 s7 s8 s9:Value):M Out:=
 bind (bop .int .lss s9 s7) fun y5=>
 cnd y5
 (bind (bop .int .mul s8 (Value.int .u32 16777619)) fun y6=>
 bind (ixs s0 s9) fun y7=>
 bind (cvi .u32 y7) fun y8=>
 bind (bop .int .add y6 y8) fun y9=>
 bind (bop .int .add s9 (Value.int .i64 1)) fun y10=>
 ret (.nrm [s0,s1,s5,s6,s7,y9,y10]))
 (ret (.ext 0 [s0,s1,s5,s6,s7,s8]))
def JJ.l2 (Γ:Zc) (s0 s1 s5 s6 s7 s8 s10:Value):M Out:=
 bind (JM s0) fun y18=>
 bind (bop .int .lss s10 y18) fun y19=>
 cnd y19
 (bind (bop .int .mul s8 (Value.int .u32 16777619)) fun y20=>
 bind (ixs s0 s10) fun y21=>
 bind (cvi .u32 y21) fun y22=>
 bind (bop .int .add y20 y22) fun y23=>
 bind (bop .int .sub s10 s7) fun y24=>
 bind (ixs s0 y24) fun y25=>
 bind (cvi .u32 y25) fun y26=>
 bind (bop .int .mul s6 y26) fun y27=>
 bind (bop .int .sub y23 y27) fun y28=>
 bind (bop .int .add s10 (Value.int .i64 1)) fun y29=>
 bind (bop .int .eql y28 s5) fun y30=>
 bind (gate y30 true 8 (bind (bop .int .sub y29 s7) fun y31=>
 bind (sls s0 (some y31) (some y29)) fun y32=>
 bind (bop .str .eql y32 s1) fun y33=>
 ret [s0,y29,s7,y31,y29,y32,s1,y33])) (c8 fun _ _ _ _ _ _ _ q34_7=>
 bind (pick y30 q34_7 (Value.bool false)) fun y35=>
 cnd y35
 (bind (bop .int .sub y29 s7) fun y36=>
 ret (.ret y36))
 (ret (.nrm [s0,s1,s5,s6,s7,y28,y29]))))
 (ret (.ext 2 []))
def JJ (Γ:Zc) (x0 x1:Value):M Value:=
 bind (Γ ZeS [x1]) fun y1=>
 bind (Zm y1 0) fun y2=>
 bind (Zm y1 1) fun y3=>
 bind (JM x1) fun y4=>
 jn (Zi (c7 (JJ.l1 Γ)) [x0,x1,y2,y3,y4,(Value.int .u32 0),(Value.int .i64 0)]) noN (xk 0 (c6 fun q12_0 q12_1 q12_2 q12_3 q12_4 q12_5=>
 bind (bop .int .eql q12_5 q12_2) fun y13=>
 bind (gate y13 true 5 (bind (sls q12_0 none (some q12_4)) fun y14=>
 bind (bop .str .eql y14 q12_1) fun y15=>
 ret [q12_0,q12_4,y14,q12_1,y15])) (c5 fun _ _ _ _ q16_4=>
 bind (pick y13 q16_4 (Value.bool false)) fun y17=>
 cnd y17
 (ret (Value.int .i64 0))
 (jn (Zi (c7 (JJ.l2 Γ)) [q12_0,q12_1,q12_2,q12_3,q12_4,q12_5,q12_4]) noN (xk 2 (c0 (ret (Value.int .i64 (-1)))) noX) ret))) noX) ret
def Zbb.l1 (Γ:Zc) (s2 s4:Value):M Out:=
 bind (Zh9 s4) fun y2=>
 bind (Zm y2 0) fun y3=>
 cnd y3
 (bind (bop .int .add s2 (Value.int .i64 1)) fun y4=>
 ret (.nrm [y4,s4]))
 (ret (.ext 0 [s2]))
def Zbb (Γ:Zc) (x0:Value):M Value:=
 bind (Zmn x0) fun y1=>
 jn (Zi (c2 (Zbb.l1 Γ)) [(Value.int .i64 0),y1]) noN (xk 0 (c1 fun q6_0=>
 ret q6_0) noX) ret
def YE.l1 (Γ:Zc) (s0 s4 s5:Value):M Out:=
 bind (JM s0) fun y1=>
 bind (bop .int .lss s5 y1) fun y2=>
 cnd y2
 (bind (bop .int .mul s4 (Value.int .u32 16777619)) fun y3=>
 bind (ixs s0 s5) fun y4=>
 bind (cvi .u32 y4) fun y5=>
 bind (bop .int .add y3 y5) fun y6=>
 bind (bop .int .add s5 (Value.int .i64 1)) fun y7=>
 ret (.nrm [s0,y6,y7]))
 (ret (.ext 0 [s0,s4]))
def YE.l2 (Γ:Zc) (s4 s6 s7 s8:Value):M Out:=
 bind (bop .int .gtr s8 (Value.int .i64 0)) fun y11=>
 cnd y11
 (bind (bop .int .and s8 (Value.int .i64 1)) fun y12=>
 bind (bop .int .neq y12 (Value.int .i64 0)) fun y13=>
 jn (cnd y13
 (bind (bop .int .mul s6 s7) fun y14=>
 ret (.nrm [s4,y14,s7,s8]))
 (ret (.nrm [s4,s6,s7,s8]))) (c4 fun q15_0 q15_1 q15_2 q15_3=>
 bind (bop .int .mul q15_2 q15_2) fun y16=>
 bind (bop .int .shr q15_3 (Value.int .u64 1)) fun y17=>
 ret (.nrm [q15_0,q15_1,y16,y17])) noX ZF)
 (ret (.ext 2 [s4,s6]))
def YE (Γ:Zc) (x0:Value):M Value:=
 jn (Zi (c3 (YE.l1 Γ)) [x0,(Value.int .u32 0),(Value.int .i64 0)]) noN (xk 0 (c2 fun q9_0 q9_1=>
 bind (JM q9_0) fun y10=>
 jn (Zi (c4 (YE.l2 Γ)) [q9_1,(Value.int .u32 1),(Value.int .u32 16777619),y10]) noN (xk 2 (c2 fun q20_0 q20_1=>
 ret (Value.tuple #[q20_0,q20_1])) noX) ret) noX) ret
def ZdY (Γ:Zc) (x0 x1 x2:Value):M Value:=
 bind (Γ Zb4 [x2]) fun y1=>
 bind (Γ ZbC [x0,x1]) fun y2=>
 bind (bsl 1 2 .nilFunc [(0,1,y1),(1,1,y2)]) fun y3=>
 bind (Γ Kk [x1,y3]) fun y4=>
 bind (bop .int .eql y4 (Value.int .i64 0)) fun y5=>
 jn (cnd y5
 (bind (Zz x0) fun y6=>
 bind (fa 0 y6) fun y7=>
 bind (ld1 y7) fun y8=>
 bind (mup .str y8 x1 x2) fun _=>
 ret (.nrm [y4]))
 (ret (.nrm [y4]))) (c1 fun q9_0=>
 ret q9_0) noX ret
theorem ZmA:RA3 Zas ZdY:=ra3 Tryz.func305 (by kernel_rfl) fun _ _ _ _=>by kernel_rfl
def ZdW (Γ:Zc) (x0 x1:Value):M Value:=
 bind (Γ JQ [x0,x1]) fun y1=>
 bind (bsl 1 1 .nilFunc [(0,1,y1)]) fun y2=>
 bind (Γ Kk [x1,y2]) fun y3=>
 bind (bop .int .eql y3 (Value.int .i64 0)) fun y4=>
 jn (cnd y4
 (bind (Zz x0) fun y5=>
 bind (fa 0 y5) fun y6=>
 bind (ld1 y6) fun y7=>
 bind (mde .str y7 x1) fun _=>
 ret (.nrm [y3]))
 (ret (.nrm [y3]))) (c1 fun q8_0=>
 ret q8_0) noX ret
theorem Zmg:RA2 Zau ZdW:=ra2 Tryz.func306 (by kernel_rfl) fun _ _ _=>by kernel_rfl
def Zc5 (Γ:Zc) (x0 x1:Value):M Value:=
 bind (alc 1 x1) fun y1=>
 bind (ld1 y1) fun y2=>
 bind (Γ ZaA [y2]) fun y3=>
 bind (bop .int .neq y3 (Value.int .i64 0)) fun y4=>
 cnd y4
 (ret (Value.tuple #[(Value.slice none 0 0),y3]))
 (bind (Γ Za6 [x0]) fun y5=>
 bind (Γ Z4 [y5,(Value.func (.func 312) #[] #[y1])]) fun y6=>
 ret (Value.tuple #[y6,(Value.int .i64 0)]))
theorem Zh6:RA2 Zc8 Zc5:=ra2 Tryz.func307 (by kernel_rfl) fun _ _ _=>by kernel_rfl
def Zdp (Γ:Zc) (x0 x1 x2:Value):M Value:=
 bind (Γ Zb4 [x2]) fun y1=>
 bind (Γ JQ [x0,x1]) fun y2=>
 bind (bsl 1 2 .nilFunc [(0,1,y1),(1,1,y2)]) fun y3=>
 bind (Γ Kk [x1,y3]) fun y4=>
 bind (bop .int .eql y4 (Value.int .i64 0)) fun y5=>
 jn (cnd y5
 (bind (Zz x0) fun y6=>
 bind (fa 0 y6) fun y7=>
 bind (ld1 y7) fun y8=>
 bind (mup .str y8 x1 x2) fun _=>
 ret (.nrm [y4]))
 (ret (.nrm [y4]))) (c1 fun q9_0=>
 ret q9_0) noX ret
theorem Zlh:RA3 WZ Zdp:=ra3 Tryz.func308 (by kernel_rfl) fun _ _ _ _=>by kernel_rfl
def Zj6 (Γ:Zc) (x0:Value):M Value:=
 bind (alc 1 x0) fun y1=>
 ret (Value.func (.func 314) #[] #[y1])
theorem Zu2:RA1 Zb4 Zj6:=ra1 Tryz.func309 (by kernel_rfl) fun _ _=>by kernel_rfl
def ZfJ (Γ:Zc) (x0 x1:Value):M Value:=
 bind (alc 1 x0) fun y1=>
 bind (alc 1 x1) fun y2=>
 ret (Value.func (.func 315) #[] #[y1,y2])
theorem Zqe:RA2 ZbC ZfJ:=ra2 Tryz.func310 (by kernel_rfl) fun _ _ _=>by kernel_rfl
def Zig (Γ:Zc) (x0:Value):M Value:=
 bind (JM x0) fun y1=>
 bind (bop .int .gtr y1 (Value.int .i64 12)) fun y2=>
 bind (gate y2 false 3 (bind (Γ Kh [x0,(Value.func (.func 248) #[] #[])]) fun y3=>
 bind (uop .not y3) fun y4=>
 ret [x0,y3,y4])) (c3 fun _ _ q5_2=>
 bind (pick y2 (Value.bool true) q5_2) fun y6=>
 cnd y6
 (ret (Value.int .i64 10))
 (ret (Value.int .i64 0)))
theorem Zsa:RA1 ZaA Zig:=ra1 Tryz.func311 (by kernel_rfl) fun _ _=>by kernel_rfl
def ZeQ (Γ:Zc) (x0 x1:Value):M Value:=
 bind (ld1 x1) fun y1=>
 bind (Γ YZ [x0,y1]) fun y2=>
 bind (uop .not y2) fun y3=>
 ret y3
theorem ZnY:RA2 Za2 ZeQ:=ra2 Tryz.func312 (by kernel_rfl) fun _ _ _=>by kernel_rfl
def ZcW (Γ:Zc) (x0 x1:Value):M Value:=
 bind (Γ JR [x0,x1]) fun y1=>
 ret y1
theorem Zko:RA2 YZ ZcW:=ra2 Tryz.func313 (by kernel_rfl) fun _ _ _=>by kernel_rfl
def Zi4 (Γ:Zc) (x0:Value):M Value:=
 bind (ld1 x0) fun y1=>
 bind (Γ KZ [y1]) fun y2=>
 ret y2
theorem Zuy:RA1 JZ Zi4:=ra1 Tryz.func314 (by kernel_rfl) fun _ _=>by kernel_rfl
def Zfe (Γ:Zc) (x0 x1:Value):M Value:=
 bind (ld1 x0) fun y1=>
 bind (ld1 x1) fun y2=>
 bind (Γ JQ [y1,y2]) fun y3=>
 bind (Qn Γ y3 []) fun y4=>
 bind (bop .int .eql y4 (Value.int .i64 0)) fun y5=>
 cnd y5
 (ret (Value.int .i64 9))
 (bind (ld1 x0) fun y6=>
 bind (Zz y6) fun y7=>
 bind (fa 0 y7) fun y8=>
 bind (ld1 y8) fun y9=>
 bind (lenM y9) fun y10=>
 bind (bop .int .geq y10 (Value.int .i64 12)) fun y11=>
 cnd y11
 (ret (Value.int .i64 7))
 (ret (Value.int .i64 0)))
theorem Zn9:RA2 Yh Zfe:=ra2 Tryz.func315 (by kernel_rfl) fun _ _ _=>by kernel_rfl
def KY (Γ:Zc) (x0 x1:Value):M Value:=
 bind (JM x0) fun y1=>
 bind (JM x1) fun y2=>
 bind (bop .int .geq y1 y2) fun y3=>
 bind (gate y3 true 6 (bind (JM x1) fun y4=>
 bind (sls x0 none (some y4)) fun y5=>
 bind (bop .str .eql y5 x1) fun y6=>
 ret [x0,x1,y4,y5,x1,y6])) (c6 fun _ _ _ _ _ q7_5=>
 bind (pick y3 q7_5 (Value.bool false)) fun y8=>
 ret y8)
theorem Zd0:RA2 JR KY:=ra2 Tryz.func316 (by kernel_rfl) fun _ _ _=>by kernel_rfl
def ZaJ (Γ:Zc) (x0 x1 x2:Value):M Value:=
 bind (Γ Qy [x0,x1]) fun y1=>
 bind (Zm y1 0) fun y2=>
 bind (Zm y1 1) fun y3=>
 bind (alc 1 (.agg #[.string ⟨#[]⟩,.bool false])) fun y4=>
 bind (stA 2 y4 y2) fun _=>
 bind (bop .int .eql y3 (Value.int .i64 10)) fun y5=>
 cnd y5
 (ret y3)
 (bind (Γ KZ [x2]) fun y6=>
 bind (bop .int .neq y6 (Value.int .i64 0)) fun y7=>
 cnd y7
 (ret (Value.int .i64 4))
 (bind (bop .int .eql y3 (Value.int .i64 0)) fun y8=>
 cnd y8
 (ret (Value.int .i64 9))
 (bind (Zz x0) fun y9=>
 bind (fa 0 y9) fun y10=>
 bind (ld1 y10) fun y11=>
 bind (lenM y11) fun y12=>
 bind (bop .int .geq y12 (Value.int .i64 12)) fun y13=>
 cnd y13
 (ret (Value.int .i64 7))
 (bind (Zz x0) fun y14=>
 bind (fa 0 y14) fun y15=>
 bind (ld1 y15) fun y16=>
 bind (bld (.agg #[.string ⟨#[]⟩,.bool false]) [(0,1,x2)]) fun y17=>
 bind (mup .str y16 x1 y17) fun _=>
 ret (Value.int .i64 0)))))
theorem Zl7:RA3 ZaG ZaJ:=ra3 Tryz.func317 (by kernel_rfl) fun _ _ _ _=>by kernel_rfl
def ZaC (Γ:Zc) (x0 x1:Value):M Value:=
 bind (Γ Qy [x0,x1]) fun y1=>
 bind (Zm y1 0) fun y2=>
 bind (Zm y1 1) fun y3=>
 bind (alc 1 (.agg #[.string ⟨#[]⟩,.bool false])) fun y4=>
 bind (stA 2 y4 y2) fun _=>
 bind (bop .int .neq y3 (Value.int .i64 0)) fun y5=>
 cnd y5
 (ret y3)
 (bind (Zz x0) fun y6=>
 bind (fa 0 y6) fun y7=>
 bind (ld1 y7) fun y8=>
 bind (mde .str y8 x1) fun _=>
 bind (Zz x0) fun y9=>
 bind (fa 1 y9) fun y10=>
 bind (ld1 y10) fun y11=>
 bind (Γ Jp [y11,x1]) fun y12=>
 bind (Zz x0) fun y13=>
 bind (fa 2 y13) fun y14=>
 bind (ld1 y14) fun y15=>
 bind (Γ Wf [y15,x1]) fun y16=>
 ret (Value.int .i64 0))
theorem ZmU:RA2 Zat ZaC:=ra2 Tryz.func318 (by kernel_rfl) fun _ _ _=>by kernel_rfl
def Zdj (Γ:Zc) (x0 x1:Value):M Value:=
 bind (alc 1 x1) fun y1=>
 bind (ld1 y1) fun y2=>
 bind (Γ ZaA [y2]) fun y3=>
 bind (bop .int .neq y3 (Value.int .i64 0)) fun y4=>
 cnd y4
 (ret (Value.tuple #[(Value.slice none 0 0),y3]))
 (bind (Γ Zbg [x0]) fun y5=>
 bind (Γ Z4 [y5,(Value.func (.func 322) #[] #[y1])]) fun y6=>
 ret (Value.tuple #[y6,(Value.int .i64 0)]))
theorem ZhI:RA2 Zdk Zdj:=ra2 Tryz.func319 (by kernel_rfl) fun _ _ _=>by kernel_rfl
def WR (Γ:Zc) (x0 x1 x2:Value):M Value:=
 bind (Γ Qy [x0,x1]) fun y1=>
 bind (Zm y1 0) fun y2=>
 bind (Zm y1 1) fun y3=>
 bind (alc 1 (.agg #[.string ⟨#[]⟩,.bool false])) fun y4=>
 bind (stA 2 y4 y2) fun _=>
 bind (bop .int .eql y3 (Value.int .i64 10)) fun y5=>
 cnd y5
 (ret y3)
 (bind (Γ KZ [x2]) fun y6=>
 bind (bop .int .neq y6 (Value.int .i64 0)) fun y7=>
 cnd y7
 (ret (Value.int .i64 4))
 (bind (bop .int .neq y3 (Value.int .i64 0)) fun y8=>
 cnd y8
 (ret y3)
 (bind (fa 1 y4) fun y9=>
 bind (ld1 y9) fun y10=>
 cnd y10
 (ret (Value.int .i64 12))
 (bind (fa 0 y4) fun y11=>
 bind (st1 y11 x2) fun _=>
 bind (Zz x0) fun y12=>
 bind (fa 0 y12) fun y13=>
 bind (ld1 y13) fun y14=>
 bind (ldA 2 y4) fun y15=>
 bind (mup .str y14 x1 y15) fun _=>
 ret (Value.int .i64 0)))))
theorem Zli:RA3 WV WR:=ra3 Tryz.func320 (by kernel_rfl) fun _ _ _ _=>by kernel_rfl
def J5.l1 (Γ:Zc) (s0 s1 s5 s11 s12 s13:Value):M Out:=
 bind (bop .int .lss s13 s12) fun y3=>
 cnd y3
 (bind (ixa 1 s11 s13) fun y4=>
 bind (ld1 y4) fun y5=>
 bind (Zz s0) fun y6=>
 bind (fa 0 y6) fun y7=>
 bind (ld1 y7) fun y8=>
 bind (lkp .str (.map none) false y8 y5) fun y9=>
 bind (mde .str y9 s1) fun _=>
 bind (bop .int .add s13 (Value.int .i64 1)) fun y10=>
 ret (.nrm [s0,s1,s5,s11,s12,y10]))
 (ret (.ext 0 [s5]))
def J5 (Γ:Zc) (x0 x1:Value):M Value:=
 bind (Γ JP [x0,x1]) fun y1=>
 bind (ZC y1) fun y2=>
 jn (Zi (c6 (J5.l1 Γ)) [x0,x1,y1,y1,y2,(Value.int .i64 0)]) noN (xk 0 (c1 fun q12_0=>
 bind (ZC q12_0) fun y13=>
 ret y13) noX) ret
theorem ZjS:RA2 Wf J5:=ra2 Tryz.func321 (by kernel_rfl) fun _ _ _=>by kernel_rfl
def Zfh (Γ:Zc) (x0 x1:Value):M Value:=
 bind (ld1 x1) fun y1=>
 bind (Γ YZ [x0,y1]) fun y2=>
 bind (uop .not y2) fun y3=>
 ret y3
theorem Zoe:RA2 Zbj Zfh:=ra2 Tryz.func322 (by kernel_rfl) fun _ _ _=>by kernel_rfl
end
end
end Go.Proofs.YtgfbgfafajiehaaGreatDoor.A

