/- What the law MigrateDown needs (part 3). -/
import Derived.Test.YtedkoimihknggaaGreatDoorZMigrateDown2
import Derived.Test.YtedkoimihknggaaGreatDoorProg
import Derived.KernelRfl
namespace Go.Proofs.YtedkoimihknggaaGreatDoor.A
set_option linter.unusedVariables false
set_option maxRecDepth 100000
set_option linter.unusedSimpArgs false
open Go.Proofs Go.Proofs.YtedkoimihknggaaGreatDoor
def RA0 (g : Nat) (F : Zc→M Value) : Prop:=∀ {prim : FuncId→Option (List Value→M Value)} (_ : prim g=none) (n : Nat),run Tryz.prog prim lvs (n+1) g []=F (run Tryz.prog prim lvs n)
theorem ra0 {g : Nat} {fn : Func} {F : Zc→M Value} (hf : Tryz.prog.funcs[g]?=some fn) (hc : (Zd3 fn && Nat.blt g Zb0)=true) (h : ∀ (Γ : Zc),Zz Tryz.prog Γ fn (lvs g) []=F Γ) : RA0 g F:=fun hp n=>(Zn hp rfl hf (by cases e : Zd3 fn <;> simp [e] at hc ⊢) (by cases e : Nat.blt g Zb0 <;> simp [e] at hc ⊢)).trans (h _)
def RA1 (g : Nat) (F : Zc→Value→M Value) : Prop:=∀ {prim : FuncId→Option (List Value→M Value)} (_ : prim g=none) (n : Nat) (x0 : Value),run Tryz.prog prim lvs (n+1) g [x0]=F (run Tryz.prog prim lvs n) x0
theorem ra1 {g : Nat} {fn : Func} {F : Zc→Value→M Value} (hf : Tryz.prog.funcs[g]?=some fn) (hc : (Zd3 fn && Nat.blt g Zb0)=true) (h : ∀ (Γ : Zc) (x0 : Value),Zz Tryz.prog Γ fn (lvs g) [x0]=F Γ x0) : RA1 g F:=fun hp n x0=>(Zn hp rfl hf (by cases e : Zd3 fn <;> simp [e] at hc ⊢) (by cases e : Nat.blt g Zb0 <;> simp [e] at hc ⊢)).trans (h _ x0)
def RA2 (g : Nat) (F : Zc→Value→Value→M Value) : Prop:=∀ {prim : FuncId→Option (List Value→M Value)} (_ : prim g=none) (n : Nat) (x0 x1 : Value),run Tryz.prog prim lvs (n+1) g [x0,x1]=F (run Tryz.prog prim lvs n) x0 x1
theorem ra2 {g : Nat} {fn : Func} {F : Zc→Value→Value→M Value} (hf : Tryz.prog.funcs[g]?=some fn) (hc : (Zd3 fn && Nat.blt g Zb0)=true) (h : ∀ (Γ : Zc) (x0 x1 : Value),Zz Tryz.prog Γ fn (lvs g) [x0,x1]=F Γ x0 x1) : RA2 g F:=fun hp n x0 x1=>(Zn hp rfl hf (by cases e : Zd3 fn <;> simp [e] at hc ⊢) (by cases e : Nat.blt g Zb0 <;> simp [e] at hc ⊢)).trans (h _ x0 x1)
def RA3 (g : Nat) (F : Zc→Value→Value→Value→M Value) : Prop:=∀ {prim : FuncId→Option (List Value→M Value)} (_ : prim g=none) (n : Nat) (x0 x1 x2 : Value),run Tryz.prog prim lvs (n+1) g [x0,x1,x2]=F (run Tryz.prog prim lvs n) x0 x1 x2
theorem ra3 {g : Nat} {fn : Func} {F : Zc→Value→Value→Value→M Value} (hf : Tryz.prog.funcs[g]?=some fn) (hc : (Zd3 fn && Nat.blt g Zb0)=true) (h : ∀ (Γ : Zc) (x0 x1 x2 : Value),Zz Tryz.prog Γ fn (lvs g) [x0,x1,x2]=F Γ x0 x1 x2) : RA3 g F:=fun hp n x0 x1 x2=>(Zn hp rfl hf (by cases e : Zd3 fn <;> simp [e] at hc ⊢) (by cases e : Nat.blt g Zb0 <;> simp [e] at hc ⊢)).trans (h _ x0 x1 x2)
def RA4 (g : Nat) (F : Zc→Value→Value→Value→Value→M Value) : Prop:=∀ {prim : FuncId→Option (List Value→M Value)} (_ : prim g=none) (n : Nat) (x0 x1 x2 x3 : Value),run Tryz.prog prim lvs (n+1) g [x0,x1,x2,x3]=F (run Tryz.prog prim lvs n) x0 x1 x2 x3
theorem ra4 {g : Nat} {fn : Func} {F : Zc→Value→Value→Value→Value→M Value} (hf : Tryz.prog.funcs[g]?=some fn) (hc : (Zd3 fn && Nat.blt g Zb0)=true) (h : ∀ (Γ : Zc) (x0 x1 x2 x3 : Value),Zz Tryz.prog Γ fn (lvs g) [x0,x1,x2,x3]=F Γ x0 x1 x2 x3) : RA4 g F:=fun hp n x0 x1 x2 x3=>(Zn hp rfl hf (by cases e : Zd3 fn <;> simp [e] at hc ⊢) (by cases e : Nat.blt g Zb0 <;> simp [e] at hc ⊢)).trans (h _ x0 x1 x2 x3)
def RA5 (g : Nat) (F : Zc→Value→Value→Value→Value→Value→M Value) : Prop:=∀ {prim : FuncId→Option (List Value→M Value)} (_ : prim g=none) (n : Nat) (x0 x1 x2 x3 x4 : Value),run Tryz.prog prim lvs (n+1) g [x0,x1,x2,x3,x4]=F (run Tryz.prog prim lvs n) x0 x1 x2 x3 x4
theorem ra5 {g : Nat} {fn : Func} {F : Zc→Value→Value→Value→Value→Value→M Value} (hf : Tryz.prog.funcs[g]?=some fn) (hc : (Zd3 fn && Nat.blt g Zb0)=true) (h : ∀ (Γ : Zc) (x0 x1 x2 x3 x4 : Value),Zz Tryz.prog Γ fn (lvs g) [x0,x1,x2,x3,x4]=F Γ x0 x1 x2 x3 x4) : RA5 g F:=fun hp n x0 x1 x2 x3 x4=>(Zn hp rfl hf (by cases e : Zd3 fn <;> simp [e] at hc ⊢) (by cases e : Nat.blt g Zb0 <;> simp [e] at hc ⊢)).trans (h _ x0 x1 x2 x3 x4)
noncomputable def Zcb.l1 (Γ : Zc) (s3 s4 s5 s21 s22 s23 : Value) : M Out:=
 bind (bop .int .lss s23 s22) fun y10=>
 cnd y10
 (bind (ixa 1 s21 s23) fun y11=>
 bind (ld1 y11) fun y12=>
 bind (Jv Γ s4 [y12,(Value.int .i64 12)]) fun y13=>
 bind (bsl 1 1 (.string ⟨#[]⟩) [(0,1,y13)]) fun y14=>
 bind (app 1 16 s5 y14) fun y15=>
 bind (bop .int .add s23 (Value.int .i64 1)) fun y16=>
 ret (.nrm [s3,s4,y15,s21,s22,y16]))
 (ret (.ext 0 [s3,s4,s5]))
noncomputable def Zcb.l2 (Γ : Zc) (s3 s4 s5 s8 s34 s35 s36 : Value) : M Out:=
 bind (bop .int .lss s36 s35) fun y21=>
 cnd y21
 (bind (ixa 1 s34 s36) fun y22=>
 bind (ld1 y22) fun y23=>
 bind (ld1 s3) fun y24=>
 bind (Jv Γ s4 [y23,(Value.int .i64 12)]) fun y25=>
 bind (ld1 s3) fun u_26=>same u_26 y24 <|
 bind (Jv Γ s4 [y23,(Value.int .i64 12)]) fun y27=>
 bind (ld1 s3) fun u_28=>same u_28 y24 <|
 bind (bop .str .add y27 (Value.string ⟨#[64,98,99,100,46,101,102]⟩)) fun y29=>
 bind (bop .str .add y29 y24) fun y30=>
 bind (bld (.agg #[.string ⟨#[]⟩,.string ⟨#[]⟩,.string ⟨#[]⟩,.bool false,.slice none 0 0]) [(0,1,y25),(1,1,(Value.string ⟨#[48,49,50,51,52,53,54,55,56,57,97,98]⟩)),(2,1,y30),(3,1,(Value.bool true)),(4,1,s5)]) fun y31=>
 bind (bsl 5 1 (.agg #[.string ⟨#[]⟩,.string ⟨#[]⟩,.string ⟨#[]⟩,.bool false,.slice none 0 0]) [(0,5,y31)]) fun y32=>
 bind (app 5 80 s8 y32) fun y33=>
 bind (bop .int .add s36 (Value.int .i64 1)) fun y34=>
 ret (.nrm [s3,s4,s5,y33,s34,s35,y34]))
 (ret (.ext 2 [s5,s8]))
noncomputable def Zcb (Γ : Zc) (x0 : Value) : M Value:=
 bind (Γ Zhc []) fun y1=>
 bind (uop .not y1) fun y2=>
 cnd y2
 (ret (Value.bool false))
 (bind (bop .int .rem x0 (Value.int .u8 26)) fun y3=>
 bind (bop .int .add (Value.int .u8 97) y3) fun y4=>
 bind (bsl 1 1 (.int .u8 0) [(0,1,y4)]) fun y5=>
 bind (b2s y5) fun y6=>
 bind (alc 1 (.string ⟨#[]⟩)) fun y7=>
 bind (st1 y7 y6) fun _=>
 bind (bsl 1 6 (.string ⟨#[]⟩) [(0,1,(Value.string ⟨#[97,49]⟩)),(1,1,(Value.string ⟨#[98,49]⟩)),(2,1,(Value.string ⟨#[99,49]⟩)),(3,1,(Value.string ⟨#[100,49]⟩)),(4,1,(Value.string ⟨#[101,49]⟩)),(5,1,(Value.string ⟨#[102,49]⟩))]) fun y8=>
 bind (Zx y8) fun y9=>
 jn (Zi (c6 (Zcb.l1 Γ)) [y7,(Value.func (.func 11) #[] #[y7]),(Value.slice none 0 0),y8,y9,(Value.int .i64 0)]) noN (xk 0 (c3 fun q18_0 q18_1 q18_2=>
 bind (bsl 1 12 (.string ⟨#[]⟩) [(0,1,(Value.string ⟨#[97]⟩)),(1,1,(Value.string ⟨#[98]⟩)),(2,1,(Value.string ⟨#[99]⟩)),(3,1,(Value.string ⟨#[100]⟩)),(4,1,(Value.string ⟨#[101]⟩)),(5,1,(Value.string ⟨#[102]⟩)),(6,1,(Value.string ⟨#[103]⟩)),(7,1,(Value.string ⟨#[104]⟩)),(8,1,(Value.string ⟨#[105]⟩)),(9,1,(Value.string ⟨#[106]⟩)),(10,1,(Value.string ⟨#[107]⟩)),(11,1,(Value.string ⟨#[108]⟩))]) fun y19=>
 bind (Zx y19) fun y20=>
 jn (Zi (c7 (Zcb.l2 Γ)) [q18_0,q18_1,q18_2,(Value.slice none 0 0),y19,y20,(Value.int .i64 0)]) noN (xk 2 (c2 fun q36_0 q36_1=>
 bind (Γ Zb6 [q36_1,q36_0]) fun y37=>
 bind (Zo y37 0) fun y38=>
 bind (Zo y37 1) fun y39=>
 bind (bop .int .eql y39 (Value.int .i64 0)) fun y40=>
 bind (ZG y40 true 2 (bind (bop .ptr .neq y38 (Value.pointer none)) fun y41=>
 ret [y38,y41])) (c2 fun _ q42_1=>
 bind (pick y40 q42_1 (Value.bool false)) fun y43=>
 bind (ZG y43 true 5 (bind (Γ QQ [y38]) fun y44=>
 bind (Zx y44) fun y45=>
 bind (Γ Zve []) fun y46=>
 bind (bop .int .eql y45 y46) fun y47=>
 ret [y38,y44,y45,y46,y47])) (c5 fun _ _ _ _ q48_4=>
 bind (pick y43 q48_4 (Value.bool false)) fun y49=>
 ret y49))) noX) ret) noX) ret)
noncomputable def ZgI.l1 (Γ : Zc) (s5 s6 s9 s11 s63 s64 s65 : Value) : M Out:=
 bind (bop .int .lss s65 s64) fun y44=>
 cnd y44
 (bind (ixa 4 s63 s65) fun y45=>
 bind (ldA 4 y45) fun y46=>
 bind (alc 1 (.agg #[.int .u8 0,.string ⟨#[]⟩,.string ⟨#[]⟩,.bool false])) fun y47=>
 bind (stA 4 y47 y46) fun _=>
 bind (ldA 2 s6) fun y48=>
 bind (ldA 4 y47) fun y49=>
 bind (Γ JP [s5,y48,y49]) fun y50=>
 bind (Zo y50 0) fun y51=>
 bind (Zo y50 1) fun y52=>
 bind (stA 2 s6 y51) fun _=>
 bind (ldA 2 s11) fun y53=>
 bind (ldA 4 y47) fun y54=>
 bind (Γ JP [s9,y53,y54]) fun y55=>
 bind (Zo y55 0) fun y56=>
 bind (Zo y55 1) fun y57=>
 bind (stA 2 s11 y56) fun _=>
 bind (uop .not y52) fun y58=>
 bind (Zg y58 false (ret y57)) fun y59=>
 bind (Zg y58 false (uop .not y59)) fun y60=>
 bind (pick y58 (Value.bool true) y60) fun y61=>
 bind (Zg y61 false (ret s5)) fun y62=>
 bind (Zg y61 false (ret s9)) fun y63=>
 bind (Zg y61 false (Γ QQ [y62])) fun y64=>
 bind (Zg y61 false (b2s y64)) fun y65=>
 bind (Zg y61 false (Γ QQ [y63])) fun y66=>
 bind (Zg y61 false (b2s y64)) fun u_67=>same u_67 y65 <|
 bind (Zg y61 false (b2s y66)) fun y68=>
 bind (Zg y61 false (bop .str .neq y65 y68)) fun y69=>
 bind (pick y61 (Value.bool true) y69) fun y70=>
 cnd y70
 (ret (.ret (Value.bool false)))
 (bind (bop .int .add s65 (Value.int .i64 1)) fun y71=>
 ret (.nrm [s5,s6,s9,s11,s63,s64,y71])))
 (ret (.ext 0 []))
noncomputable def ZgI (Γ : Zc) (x0 x1 : Value) : M Value:=
 bind (Γ Zhc []) fun y1=>
 bind (uop .not y1) fun y2=>
 bind (ZG y2 false 3 (bind (Γ Zbt [x0]) fun y3=>
 bind (uop .not y3) fun y4=>
 ret [x0,y3,y4])) (c3 fun _ _ q5_2=>
 bind (pick y2 (Value.bool true) q5_2) fun y6=>
 bind (ZG y6 false 3 (bind (Γ Zbt [x1]) fun y7=>
 bind (uop .not y7) fun y8=>
 ret [x1,y7,y8])) (c3 fun _ _ q9_2=>
 bind (pick y6 (Value.bool true) q9_2) fun y10=>
 cnd y10
 (bind (Γ Zhc []) fun y11=>
 ret y11)
 (bind (Γ ZjZ [x0]) fun y12=>
 bind (Zo y12 0) fun y13=>
 bind (Zo y12 1) fun y14=>
 bind (alc 1 (.agg #[.slice none 0 0,.slice none 0 0])) fun y15=>
 bind (stA 2 y15 y14) fun _=>
 bind (Γ ZjZ [x1]) fun y16=>
 bind (Zo y16 0) fun y17=>
 bind (Zo y16 1) fun y18=>
 bind (alc 1 (.agg #[.slice none 0 0,.slice none 0 0])) fun y19=>
 bind (stA 2 y19 y18) fun _=>
 bind (ldA 2 y15) fun y20=>
 bind (Γ QQ [y13]) fun y21=>
 bind (ldA 2 y15) fun u_22=>same u_22 y20 <|
 bind (b2s y21) fun y23=>
 bind (Γ QQ [y17]) fun y24=>
 bind (b2s y21) fun u_25=>same u_25 y23 <|
 bind (ldA 2 y15) fun u_26=>same u_26 y20 <|
 bind (b2s y24) fun y27=>
 bind (bop .str .eql y23 y27) fun y28=>
 bind (Γ Zu3 [y17,y20]) fun y29=>
 bind (b2s y24) fun u_30=>same u_30 y27 <|
 bind (b2s y21) fun u_31=>same u_31 y23 <|
 bind (bop .bool .neq y28 y29) fun y32=>
 cnd y32
 (ret (Value.bool false))
 (bind (Γ QQ [y13]) fun y33=>
 bind (Γ ZnC [y33]) fun y34=>
 bind (Zo y34 0) fun y35=>
 bind (Zo y34 1) fun y36=>
 bind (bop .int .neq y36 (Value.int .i64 0)) fun y37=>
 bind (ZG y37 false 2 (bind (bop .ptr .eql y35 (Value.pointer none)) fun y38=>
 ret [y35,y38])) (c2 fun _ q39_1=>
 bind (pick y37 (Value.bool true) q39_1) fun y40=>
 cnd y40
 (ret (Value.bool false))
 (bind (ldA 2 y15) fun y41=>
 bind (alc 1 (.agg #[.slice none 0 0,.slice none 0 0])) fun y42=>
 bind (stA 2 y42 y41) fun _=>
 bind (Zx x1) fun y43=>
 jn (Zi (c7 (ZgI.l1 Γ)) [y13,y15,y35,y42,x1,y43,(Value.int .i64 0)]) noN (xk 0 (c0 (ret (Value.bool true))) noX) ret))))))
noncomputable def Zbj.l1 (Γ : Zc) (s1 s2 s3 s9 s48 s49 s50 : Value) : M Out:=
 bind (bop .int .lss s50 s49) fun y22=>
 cnd y22
 (bind (ixa 3 s48 s50) fun y23=>
 bind (ldA 3 y23) fun y24=>
 bind (alc 1 (.agg #[.int .u8 0,.string ⟨#[]⟩,.string ⟨#[]⟩])) fun y25=>
 bind (stA 3 y25 y24) fun _=>
 bind (ldA 3 y25) fun y26=>
 bind (Γ ZrC [s9,y26]) fun y27=>
 bind (bop .int .add s50 (Value.int .i64 1)) fun y28=>
 ret (.nrm [s1,s2,s3,s9,s48,s49,y28]))
 (ret (.ext 0 [s1,s2,s3,s9]))
noncomputable def Zbj.l2 (Γ : Zc) (s2 s3 s9 s13 s72 s73 s74 : Value) : M Out:=
 bind (bop .int .lss s74 s73) fun y41=>
 cnd y41
 (bind (ixa 3 s72 s74) fun y42=>
 bind (ldA 3 y42) fun y43=>
 bind (alc 1 (.agg #[.int .u8 0,.string ⟨#[]⟩,.string ⟨#[]⟩])) fun y44=>
 bind (stA 3 y44 y43) fun _=>
 bind (ldA 3 y44) fun y45=>
 bind (ldA 3 y44) fun y46=>
 bind (Γ ZrC [s9,y45]) fun y47=>
 bind (ldA 3 y44) fun u_48=>same u_48 y46 <|
 bind (Γ ZtX [s13,y46]) fun y49=>
 bind (bop .int .neq y47 y49) fun y50=>
 bind (Zg y50 false (ret s9)) fun y51=>
 bind (Zg y50 false (ret s13)) fun y52=>
 bind (Zg y50 false (Γ K0 [y51])) fun y53=>
 bind (Zg y50 false (Γ QQ [y53])) fun y54=>
 bind (Zg y50 false (b2s y54)) fun y55=>
 bind (Zg y50 false (Γ QQ [y52])) fun y56=>
 bind (Zg y50 false (b2s y54)) fun u_57=>same u_57 y55 <|
 bind (Zg y50 false (b2s y56)) fun y58=>
 bind (Zg y50 false (bop .str .neq y55 y58)) fun y59=>
 bind (pick y50 (Value.bool true) y59) fun y60=>
 cnd y60
 (ret (.ret (Value.bool false)))
 (bind (Γ ZnR [s9,s2]) fun y61=>
 bind (Zo y61 0) fun y62=>
 bind (Zo y61 1) fun y63=>
 bind (Γ WD [s13,s2]) fun y64=>
 bind (Zo y64 0) fun y65=>
 bind (Zo y64 1) fun y66=>
 bind (alc 1 (.agg #[.string ⟨#[]⟩,.string ⟨#[]⟩,.string ⟨#[]⟩,.bool false,.slice none 0 0])) fun y67=>
 bind (stA 5 y67 y65) fun _=>
 bind (Γ ZqF [s9,s3]) fun y68=>
 bind (Zo y68 0) fun y69=>
 bind (Zo y68 1) fun y70=>
 bind (Γ ZqY [s13,s3]) fun y71=>
 bind (Zo y71 0) fun y72=>
 bind (Zo y71 1) fun y73=>
 bind (fa 1 y67) fun y74=>
 bind (ld1 y74) fun y75=>
 bind (bop .str .neq y62 y75) fun y76=>
 bind (ZG y76 false 3 (bind (bop .int .neq y63 y66) fun y77=>
 ret [y63,y66,y77])) (c3 fun _ _ q78_2=>
 bind (pick y76 (Value.bool true) q78_2) fun y79=>
 bind (ZG y79 false 3 (bind (bop .int .neq y70 y73) fun y80=>
 ret [y70,y73,y80])) (c3 fun _ _ q81_2=>
 bind (pick y79 (Value.bool true) q81_2) fun y82=>
 bind (ZG y82 false 4 (bind (Γ Zn9 [y69,y72]) fun y83=>
 bind (uop .not y83) fun y84=>
 ret [y69,y72,y83,y84])) (c4 fun _ _ _ q85_3=>
 bind (pick y82 (Value.bool true) q85_3) fun y86=>
 cnd y86
 (ret (.ret (Value.bool false)))
 (bind (bop .int .add s74 (Value.int .i64 1)) fun y87=>
 ret (.nrm [s2,s3,s9,s13,s72,s73,y87])))))))
 (ret (.ext 2 []))
noncomputable def Zbj (Γ : Zc) (x0 x1 x2 x3 : Value) : M Value:=
 bind (Γ ZaR []) fun y1=>
 bind (uop .not y1) fun y2=>
 bind (ZG y2 false 3 (bind (Γ ZpF [x0]) fun y3=>
 bind (uop .not y3) fun y4=>
 ret [x0,y3,y4])) (c3 fun _ _ q5_2=>
 bind (pick y2 (Value.bool true) q5_2) fun y6=>
 bind (ZG y6 false 3 (bind (Γ ZpF [x1]) fun y7=>
 bind (uop .not y7) fun y8=>
 ret [x1,y7,y8])) (c3 fun _ _ q9_2=>
 bind (pick y6 (Value.bool true) q9_2) fun y10=>
 bind (ZG y10 false 3 (bind (J0 x2) fun y11=>
 bind (bop .int .gtr y11 (Value.int .i64 50)) fun y12=>
 ret [x2,y11,y12])) (c3 fun _ _ q13_2=>
 bind (pick y10 (Value.bool true) q13_2) fun y14=>
 bind (ZG y14 false 3 (bind (J0 x3) fun y15=>
 bind (bop .int .gtr y15 (Value.int .i64 50)) fun y16=>
 ret [x3,y15,y16])) (c3 fun _ _ q17_2=>
 bind (pick y14 (Value.bool true) q17_2) fun y18=>
 cnd y18
 (bind (Γ ZaR []) fun y19=>
 ret y19)
 (bind (Γ Zcd []) fun y20=>
 bind (Zx x0) fun y21=>
 jn (Zi (c7 (Zbj.l1 Γ)) [x1,x2,x3,y20,x0,y21,(Value.int .i64 0)]) noN (xk 0 (c4 fun q30_0 q30_1 q30_2 q30_3=>
 bind (Γ ZnG [q30_3]) fun y31=>
 bind (b2s y31) fun y32=>
 bind (Γ K0 [q30_3]) fun y33=>
 bind (bop .ptr .eql y33 (Value.pointer none)) fun y34=>
 bind (ZG y34 false 5 (bind (Γ ZnG [q30_3]) fun y35=>
 bind (b2s y35) fun y36=>
 bind (bop .str .neq y36 y32) fun y37=>
 ret [q30_3,y35,y36,y32,y37])) (c5 fun _ _ _ _ q38_4=>
 bind (pick y34 (Value.bool true) q38_4) fun y39=>
 cnd y39
 (ret (Value.bool false))
 (bind (Zx q30_0) fun y40=>
 jn (Zi (c7 (Zbj.l2 Γ)) [q30_1,q30_2,q30_3,y33,q30_0,y40,(Value.int .i64 0)]) noN (xk 2 (c0 (bind (Γ K0 [(Value.pointer none)]) fun y90=>
 bind (bop .ptr .eql y90 (Value.pointer none)) fun y91=>
 ret y91)) noX) ret))) noX) ret)))))
noncomputable def ZY.l1 (Γ : Zc) (s3 s4 s23 s24 s25 : Value) : M Out:=
 bind (bop .int .lss s25 s24) fun y11=>
 cnd y11
 (bind (ixa 4 s23 s25) fun y12=>
 bind (ldA 4 y12) fun y13=>
 bind (alc 1 (.agg #[.int .u8 0,.string ⟨#[]⟩,.string ⟨#[]⟩,.bool false])) fun y14=>
 bind (stA 4 y14 y13) fun _=>
 bind (ldA 2 s4) fun y15=>
 bind (ldA 4 y14) fun y16=>
 bind (Γ JP [s3,y15,y16]) fun y17=>
 bind (Zo y17 0) fun y18=>
 bind (Zo y17 1) fun y19=>
 bind (stA 2 s4 y18) fun _=>
 bind (bop .int .add s25 (Value.int .i64 1)) fun y20=>
 ret (.nrm [s3,s4,s23,s24,y20]))
 (ret (.ext 0 [s3,s4]))
noncomputable def ZY.l2 (Γ : Zc) (s3 s4 s7 s42 s43 s44 : Value) : M Out:=
 bind (bop .int .lss s44 s43) fun y30=>
 cnd y30
 (bind (ixa 5 s42 s44) fun y31=>
 bind (ldA 5 y31) fun y32=>
 bind (alc 1 (.agg #[.string ⟨#[]⟩,.string ⟨#[]⟩,.string ⟨#[]⟩,.bool false,.slice none 0 0])) fun y33=>
 bind (stA 5 y33 y32) fun _=>
 bind (ZG s7 true 3 (bind (fa 2 y33) fun y34=>
 bind (ld1 y34) fun y35=>
 bind (bop .str .eql y35 (Value.string ⟨#[]⟩)) fun y36=>
 ret [y34,y35,y36])) (c3 fun _ _ q37_2=>
 bind (pick s7 q37_2 (Value.bool false)) fun y38=>
 bind (ZG y38 true 3 (bind (fa 3 y33) fun y39=>
 bind (ld1 y39) fun y40=>
 bind (uop .not y40) fun y41=>
 ret [y39,y40,y41])) (c3 fun _ _ q42_2=>
 bind (pick y38 q42_2 (Value.bool false)) fun y43=>
 bind (bop .int .add s44 (Value.int .i64 1)) fun y44=>
 ret (.nrm [s3,s4,y43,s42,s43,y44]))))
 (ret (.ext 2 [s3,s4,s7]))
noncomputable def ZY (Γ : Zc) (x0 : Value) : M Value:=
 bind (Γ ZaR []) fun y1=>
 bind (uop .not y1) fun y2=>
 bind (ZG y2 false 3 (bind (Γ Zbt [x0]) fun y3=>
 bind (uop .not y3) fun y4=>
 ret [x0,y3,y4])) (c3 fun _ _ q5_2=>
 bind (pick y2 (Value.bool true) q5_2) fun y6=>
 cnd y6
 (bind (Γ ZaR []) fun y7=>
 ret y7)
 (bind (Γ Zal []) fun y8=>
 bind (alc 1 (.agg #[.slice none 0 0,.slice none 0 0])) fun y9=>
 bind (Zx x0) fun y10=>
 jn (Zi (c5 (ZY.l1 Γ)) [y8,y9,x0,y10,(Value.int .i64 0)]) noN (xk 0 (c2 fun q22_0 q22_1=>
 bind (fa 1 q22_1) fun y23=>
 bind (ld1 y23) fun y24=>
 bind (Zx y24) fun y25=>
 bind (bop .int .eql y25 (Value.int .i64 0)) fun y26=>
 bind (fa 0 q22_1) fun y27=>
 bind (ld1 y27) fun y28=>
 bind (Zx y28) fun y29=>
 jn (Zi (c6 (ZY.l2 Γ)) [q22_0,q22_1,y26,y28,y29,(Value.int .i64 0)]) noN (xk 2 (c3 fun q46_0 q46_1 q46_2=>
 bind (Γ Kd [q46_0]) fun y47=>
 bind (Zo y47 0) fun y48=>
 bind (Zo y47 1) fun y49=>
 bind (uop .not q46_2) fun y50=>
 cnd y50
 (bind (bop .int .eql y49 (Value.int .i64 12)) fun y51=>
 bind (ZG y51 true 2 (bind (bop .ptr .eql y48 (Value.pointer none)) fun y52=>
 ret [y48,y52])) (c2 fun _ q53_1=>
 bind (pick y51 q53_1 (Value.bool false)) fun y54=>
 ret y54))
 (bind (bop .int .neq y49 (Value.int .i64 0)) fun y55=>
 bind (Zg y55 false (ret y48)) fun y56=>
 bind (Zg y55 false (bop .ptr .eql y56 (Value.pointer none))) fun y57=>
 bind (pick y55 (Value.bool true) y57) fun y58=>
 bind (Zg y58 false (ret y48)) fun y59=>
 bind (Zg y58 false (ret q46_0)) fun y60=>
 bind (Zg y58 false (Γ K0 [y59])) fun y61=>
 bind (Zg y58 false (Γ QQ [y61])) fun y62=>
 bind (Zg y58 false (b2s y62)) fun y63=>
 bind (Zg y58 false (Γ QQ [y60])) fun y64=>
 bind (Zg y58 false (b2s y62)) fun u_65=>same u_65 y63 <|
 bind (Zg y58 false (b2s y64)) fun y66=>
 bind (Zg y58 false (bop .str .neq y63 y66)) fun y67=>
 bind (pick y58 (Value.bool true) y67) fun y68=>
 cnd y68
 (ret (Value.bool false))
 (bind (Γ Kd [(Value.pointer none)]) fun y69=>
 bind (Zo y69 0) fun y70=>
 bind (Zo y69 1) fun y71=>
 bind (bop .int .eql y71 (Value.int .i64 12)) fun y72=>
 bind (Zg y72 true (ret y70)) fun y73=>
 bind (Zg y72 true (bop .ptr .eql y73 (Value.pointer none))) fun y74=>
 bind (pick y72 y74 (Value.bool false)) fun y75=>
 bind (Zg y75 true (ret y48)) fun y76=>
 bind (Zg y75 true (fa 0 q46_1)) fun y77=>
 bind (Zg y75 true (ld1 y77)) fun y78=>
 bind (Zg y75 true (Γ KB [y76])) fun y79=>
 bind (Zg y75 true (ld1 y77)) fun u_80=>same u_80 y78 <|
 bind (Zg y75 true (Γ KK [y79,y78])) fun y81=>
 bind (pick y75 y81 (Value.bool false)) fun y82=>
 ret y82))) noX) ret) noX) ret))
theorem ZjC : RA1 WU ZY:=ra1 Tryz.func9 (by kernel_rfl) fun _ _=>by kernel_rfl
noncomputable def Zgv.l1 (Γ : Zc) (s0 s1 s2 : Value) : M Out:=
 bind (J0 s0) fun y1=>
 bind (bop .int .lss y1 s1) fun y2=>
 cnd y2
 (bind (ld1 s2) fun y3=>
 bind (bop .str .add s0 y3) fun y4=>
 ret (.nrm [y4,s1,s2]))
 (ret (.ext 0 [s0]))
noncomputable def Zgv (Γ : Zc) (x0 x1 x2 : Value) : M Value:=
 jn (Zi (c3 (Zgv.l1 Γ)) [x0,x1,x2]) noN (xk 0 (c1 fun q6_0=>
 ret q6_0) noX) ret
noncomputable def Q0.l1 (Γ : Zc) (s0 s7 s23 s24 s25 : Value) : M Out:=
 bind (bop .int .lss s25 s24) fun y5=>
 cnd y5
 (bind (ixa 1 s23 s25) fun y6=>
 bind (ld1 y6) fun y7=>
 bind (Qe s7) fun y8=>
 bind (fa 2 y8) fun y9=>
 bind (ld1 y9) fun y10=>
 bind (Γ Yk [y10,y7]) fun y11=>
 bind (bop .int .add s25 (Value.int .i64 1)) fun y12=>
 ret (.nrm [s0,s7,s23,s24,y12]))
 (ret (.ext 0 [s0,s7]))
noncomputable def Q0.l3 (Γ : Zc) (s7 s11 s36 s37 s38 s54 s55 s56 : Value) : M Out:=
 bind (bop .int .lss s56 s55) fun y33=>
 cnd y33
 (bind (ixa 1 s54 s56) fun y34=>
 bind (ld1 y34) fun y35=>
 bind (Qe s7) fun y36=>
 bind (fa 2 y36) fun y37=>
 bind (ld1 y37) fun y38=>
 bind (fa 0 s11) fun y39=>
 bind (ld1 y39) fun y40=>
 bind (Γ YI [y38,y35,y40]) fun y41=>
 bind (bop .int .neq y41 (Value.int .i64 0)) fun y42=>
 cnd y42
 (ret (.ret (Value.tuple #[(Value.pointer none),y41])))
 (bind (bop .int .add s56 (Value.int .i64 1)) fun y43=>
 ret (.nrm [s7,s11,s36,s37,s38,s54,s55,y43])))
 (ret (.ext 4 [s7,s11,s36,s37,s38]))
noncomputable def Q0.l2 (Γ : Zc) (s7 s36 s37 s38 : Value) : M Out:=
 bind (bop .int .lss s38 s37) fun y16=>
 cnd y16
 (bind (ixa 5 s36 s38) fun y17=>
 bind (ldA 5 y17) fun y18=>
 bind (alc 1 (.agg #[.string ⟨#[]⟩,.string ⟨#[]⟩,.string ⟨#[]⟩,.bool false,.slice none 0 0])) fun y19=>
 bind (stA 5 y19 y18) fun _=>
 bind (Qe s7) fun y20=>
 bind (fa 0 y20) fun y21=>
 bind (ld1 y21) fun y22=>
 bind (fa 0 y19) fun y23=>
 bind (ld1 y23) fun y24=>
 bind (fa 1 y19) fun y25=>
 bind (ld1 y25) fun y26=>
 bind (fa 3 y19) fun y27=>
 bind (ld1 y27) fun y28=>
 bind (bld (.agg #[.string ⟨#[]⟩,.bool false]) [(0,1,y26),(1,1,y28)]) fun y29=>
 bind (mup .str y22 y24 y29) fun _=>
 bind (fa 4 y19) fun y30=>
 bind (ld1 y30) fun y31=>
 bind (Zx y31) fun y32=>
 jn (Zi (c8 (Q0.l3 Γ)) [s7,y19,s36,s37,s38,y31,y32,(Value.int .i64 0)]) noN (xk 4 (c5 fun q45_0 q45_1 q45_2 q45_3 q45_4=>
 bind (Qe q45_0) fun y46=>
 bind (fa 1 y46) fun y47=>
 bind (ld1 y47) fun y48=>
 bind (fa 0 q45_1) fun y49=>
 bind (ld1 y49) fun y50=>
 bind (fa 2 q45_1) fun y51=>
 bind (ld1 y51) fun y52=>
 bind (Γ Kf [y48,y50,y52]) fun y53=>
 bind (bop .int .neq y53 (Value.int .i64 0)) fun y54=>
 cnd y54
 (ret (.ret (Value.tuple #[(Value.pointer none),y53])))
 (bind (bop .int .add q45_4 (Value.int .i64 1)) fun y55=>
 ret (.nrm [q45_0,q45_2,q45_3,y55]))) noX) Z5)
 (ret (.ext 2 [s7]))
noncomputable def Q0 (Γ : Zc) (x0 x1 : Value) : M Value:=
 bind (Γ Zc2 [x0,x1]) fun y1=>
 bind (bop .int .neq y1 (Value.int .i64 0)) fun y2=>
 cnd y2
 (ret (Value.tuple #[(Value.pointer none),y1]))
 (bind (Γ Zal []) fun y3=>
 bind (Zx x1) fun y4=>
 jn (Zi (c5 (Q0.l1 Γ)) [x0,y3,x1,y4,(Value.int .i64 0)]) noN (xk 0 (c2 fun q14_0 q14_1=>
 bind (Zx q14_0) fun y15=>
 jn (Zi (c4 (Q0.l2 Γ)) [q14_1,q14_0,y15,(Value.int .i64 0)]) noN (xk 2 (c1 fun q58_0=>
 ret (Value.tuple #[q58_0,(Value.int .i64 0)])) noX) ret) noX) ret)
theorem Zvl : RA2 Zb6 Q0:=ra2 Tryz.func12 (by kernel_rfl) fun _ _ _=>by kernel_rfl
noncomputable def WW.l1 (Γ : Zc) (s3 s19 s20 s21 : Value) : M Out:=
 bind (bop .int .lss s21 s20) fun y12=>
 cnd y12
 (bind (ixa 5 s19 s21) fun y13=>
 bind (ldA 5 y13) fun y14=>
 bind (alc 1 (.agg #[.string ⟨#[]⟩,.string ⟨#[]⟩,.string ⟨#[]⟩,.bool false,.slice none 0 0])) fun y15=>
 bind (stA 5 y15 y14) fun _=>
 bind (ldA 5 y15) fun y16=>
 bind (Γ Zge [s3,(Value.int .i64 2),y16]) fun y17=>
 bind (bop .int .add s21 (Value.int .i64 1)) fun y18=>
 ret (.nrm [s3,s19,s20,y18]))
 (ret (.ext 0 [s3]))
noncomputable def WW (Γ : Zc) (x0 : Value) : M Value:=
 bind (bop .ptr .eql x0 (Value.pointer none)) fun y1=>
 cnd y1
 (ret (Value.slice none 0 0))
 (bind (bld (.agg #[.slice none 0 0]) []) fun y2=>
 bind (alc 1 y2) fun y3=>
 bind (Γ JS [y3,(Value.int .u8 2)]) fun y4=>
 bind (Γ KO [x0]) fun y5=>
 bind (Γ KF [y4,y5]) fun y6=>
 bind (Γ Zcy [x0]) fun y7=>
 bind (cvi .u16 y7) fun y8=>
 bind (Γ Yw [y6,y8]) fun y9=>
 bind (Γ Wp [x0]) fun y10=>
 bind (Zx y10) fun y11=>
 jn (Zi (c4 (WW.l1 Γ)) [y9,y10,y11,(Value.int .i64 0)]) noN (xk 0 (c1 fun q20_0=>
 bind (Γ KS [q20_0]) fun y21=>
 ret y21) noX) ret)
theorem ZqH : RA1 QQ WW:=ra1 Tryz.func13 (by kernel_rfl) fun _ _=>by kernel_rfl
noncomputable def ZnK.l1 (Γ : Zc) (s4 s6 s8 s32 s33 : Value) : M Out:=
 bind (bop .int .lss s33 s32) fun y14=>
 cnd y14
 (bind (Γ Zeu [s4,(Value.int .i64 2)]) fun y15=>
 bind (bsl 5 1 (.agg #[.string ⟨#[]⟩,.string ⟨#[]⟩,.string ⟨#[]⟩,.bool false,.slice none 0 0]) [(0,5,y15)]) fun y16=>
 bind (app 5 80 s8 y16) fun y17=>
 bind (bop .int .add s33 (Value.int .i64 1)) fun y18=>
 ret (.nrm [s4,s6,y17,s32,y18]))
 (ret (.ext 0 [s4,s6,s8]))
noncomputable def ZnK (Γ : Zc) (x0 : Value) : M Value:=
 bind (Γ Zeo [x0]) fun y1=>
 bind (Γ Ko [y1]) fun y2=>
 bind (Γ QF [y1]) fun y3=>
 bind (bop .int .eql y3 (Value.int .i64 0)) fun y4=>
 bind (ZG y4 true 2 (bind (bop .int .neq y2 (Value.int .u8 2)) fun y5=>
 ret [y2,y5])) (c2 fun _ q6_1=>
 bind (pick y4 q6_1 (Value.bool false)) fun y7=>
 cnd y7
 (ret (Value.tuple #[(Value.pointer none),(Value.int .i64 6)]))
 (bind (Γ ZhD [y1,(Value.int .i64 6),(Value.int .i64 12)]) fun y8=>
 bind (Γ Y7 [y1]) fun y9=>
 bind (cvi .i64 y9) fun y10=>
 bind (bop .int .gtr y10 (Value.int .i64 12)) fun y11=>
 jn (cnd y11
 (bind (Γ Qk [y1,(Value.int .i64 7)]) fun y12=>
 ret (.nrm [y1,y8,(Value.int .i64 0)]))
 (ret (.nrm [y1,y8,y10]))) (c3 fun q13_0 q13_1 q13_2=>
 jn (Zi (c5 (ZnK.l1 Γ)) [q13_0,q13_1,(Value.slice none 0 0),q13_2,(Value.int .i64 0)]) noN (xk 0 (c3 fun q20_0 q20_1 q20_2=>
 bind (Γ QF [q20_0]) fun y21=>
 bind (bop .int .neq y21 (Value.int .i64 0)) fun y22=>
 cnd y22
 (ret (Value.tuple #[(Value.pointer none),y21]))
 (bind (Γ Zb6 [q20_2,q20_1]) fun y23=>
 bind (Zo y23 0) fun y24=>
 bind (Zo y23 1) fun y25=>
 bind (bop .int .eql y25 (Value.int .i64 0)) fun y26=>
 jn (cnd y26
 (bind (Γ KH [q20_0]) fun y27=>
 ret (.nrm [y24,y27]))
 (ret (.nrm [y24,y25]))) (c2 fun q28_0 q28_1=>
 bind (bop .int .neq q28_1 (Value.int .i64 0)) fun y29=>
 cnd y29
 (ret (Value.tuple #[(Value.pointer none),q28_1]))
 (ret (Value.tuple #[q28_0,(Value.int .i64 0)]))) noX ret)) noX) ret) noX ret))
noncomputable def ZnJ.l1 (Γ : Zc) (s2 s4 s5 s6 s8 s45 s46 : Value) : M Out:=
 bind (bop .int .lss s46 s45) fun y37=>
 cnd y37
 (bind (ldA 2 s5) fun y38=>
 bind (Γ ZoR [y38,(Value.int .i64 2)]) fun y39=>
 bind (Zo y39 0) fun y40=>
 bind (Zo y39 1) fun y41=>
 bind (alc 1 (.agg #[.string ⟨#[]⟩,.int .i64 0])) fun y42=>
 bind (alc 1 (.agg #[.string ⟨#[]⟩,.string ⟨#[]⟩,.string ⟨#[]⟩,.bool false,.slice none 0 0])) fun y43=>
 bind (stA 2 y42 y40) fun _=>
 bind (stA 5 y43 y41) fun _=>
 bind (ldA 2 y42) fun y44=>
 bind (stA 2 s5 y44) fun _=>
 bind (ldA 5 y43) fun y45=>
 bind (bsl 5 1 (.agg #[.string ⟨#[]⟩,.string ⟨#[]⟩,.string ⟨#[]⟩,.bool false,.slice none 0 0]) [(0,5,y45)]) fun y46=>
 bind (app 5 80 s8 y46) fun y47=>
 bind (bop .int .add s46 (Value.int .u64 1)) fun y48=>
 ret (.nrm [s2,s4,s5,s6,y47,s45,y48]))
 (ret (.ext 0 [s2,s4,s5,s6,s8]))
noncomputable def ZnJ (Γ : Zc) (x0 : Value) : M Value:=
 bind (alc 1 (.agg #[.slice none 0 0,.slice none 0 0])) fun y1=>
 bind (bld (.agg #[.slice none 0 0,.slice none 0 0]) []) fun y2=>
 bind (alc 1 (.agg #[.slice none 0 0,.slice none 0 0])) fun y3=>
 bind (stA 2 y3 y2) fun _=>
 bind (bop .str .eql x0 (Value.string ⟨#[]⟩)) fun y4=>
 cnd y4
 (bind (ldA 2 y3) fun y5=>
 bind (stA 2 y1 y5) fun _=>
 bind (ldA 2 y1) fun y6=>
 ret (Value.tuple #[y6,(Value.int .i64 2)]))
 (bind (ixs x0 (Value.int .i64 0)) fun y7=>
 bind (bop .int .neq y7 (Value.int .u8 2)) fun y8=>
 cnd y8
 (bind (ldA 2 y3) fun y9=>
 bind (stA 2 y1 y9) fun _=>
 bind (ldA 2 y1) fun y10=>
 ret (Value.tuple #[y10,(Value.int .i64 6)]))
 (bind (sls x0 (some (Value.int .i64 1)) none) fun y11=>
 bind (bld (.agg #[.string ⟨#[]⟩,.int .i64 0]) [(0,1,y11)]) fun y12=>
 bind (Γ Zsr [y12,(Value.int .i64 6),(Value.int .i64 12)]) fun y13=>
 bind (Zo y13 0) fun y14=>
 bind (Zo y13 1) fun y15=>
 bind (alc 1 (.agg #[.string ⟨#[]⟩,.int .i64 0])) fun y16=>
 bind (stA 2 y16 y14) fun _=>
 bind (ldA 2 y16) fun y17=>
 bind (Γ Zja [y17,(Value.int .i64 2)]) fun y18=>
 bind (Zo y18 0) fun y19=>
 bind (Zo y18 1) fun y20=>
 bind (stA 2 y16 y19) fun _=>
 bind (fa 1 y16) fun y21=>
 bind (ld1 y21) fun y22=>
 bind (bop .int .eql y22 (Value.int .i64 0)) fun y23=>
 bind (ZG y23 true 2 (bind (bop .int .gtr y20 (Value.int .u64 12)) fun y24=>
 ret [y20,y24])) (c2 fun _ q25_1=>
 bind (pick y23 q25_1 (Value.bool false)) fun y26=>
 jn (cnd y26
 (bind (fa 1 y16) fun y27=>
 bind (st1 y27 (Value.int .i64 7)) fun _=>
 ret (.nrm [y1,y3,y16,y15,y20]))
 (ret (.nrm [y1,y3,y16,y15,y20]))) (c5 fun q28_0 q28_1 q28_2 q28_3 q28_4=>
 bind (fa 1 q28_2) fun y29=>
 bind (ld1 y29) fun y30=>
 bind (bop .int .neq y30 (Value.int .i64 0)) fun y31=>
 cnd y31
 (bind (ldA 2 q28_1) fun y32=>
 bind (fa 1 q28_2) fun y33=>
 bind (ld1 y33) fun y34=>
 bind (stA 2 q28_0 y32) fun _=>
 bind (ld1 y33) fun u_35=>same u_35 y34 <|
 bind (ldA 2 q28_0) fun y36=>
 ret (Value.tuple #[y36,y34]))
 (jn (Zi (c7 (ZnJ.l1 Γ)) [q28_0,q28_1,q28_2,q28_3,(Value.slice none 0 0),q28_4,(Value.int .u64 0)]) noN (xk 0 (c5 fun q50_0 q50_1 q50_2 q50_3 q50_4=>
 bind (fa 1 q50_2) fun y51=>
 bind (ld1 y51) fun y52=>
 bind (bop .int .eql y52 (Value.int .i64 0)) fun y53=>
 jn (cnd y53
 (bind (Γ ZyU [q50_4,q50_3]) fun y54=>
 bind (fa 1 q50_2) fun y55=>
 bind (st1 y55 y54) fun _=>
 ret (.nrm [q50_0,q50_1,q50_2,q50_3,q50_4]))
 (ret (.nrm [q50_0,q50_1,q50_2,q50_3,q50_4]))) (c5 fun q56_0 q56_1 q56_2 q56_3 q56_4=>
 bind (fa 1 q56_2) fun y57=>
 bind (ld1 y57) fun y58=>
 bind (bop .int .eql y58 (Value.int .i64 0)) fun y59=>
 bind (ZG y59 true 3 (bind (fa 0 q56_2) fun y60=>
 bind (ld1 y60) fun y61=>
 bind (bop .str .neq y61 (Value.string ⟨#[]⟩)) fun y62=>
 ret [y60,y61,y62])) (c3 fun _ _ q63_2=>
 bind (pick y59 q63_2 (Value.bool false)) fun y64=>
 jn (cnd y64
 (bind (fa 1 q56_2) fun y65=>
 bind (st1 y65 (Value.int .i64 3)) fun _=>
 ret (.nrm [q56_0,q56_1,q56_2,q56_3,q56_4]))
 (ret (.nrm [q56_0,q56_1,q56_2,q56_3,q56_4]))) (c5 fun q66_0 q66_1 q66_2 q66_3 q66_4=>
 bind (fa 1 q66_2) fun y67=>
 bind (ld1 y67) fun y68=>
 bind (bop .int .neq y68 (Value.int .i64 0)) fun y69=>
 cnd y69
 (bind (ldA 2 q66_1) fun y70=>
 bind (fa 1 q66_2) fun y71=>
 bind (ld1 y71) fun y72=>
 bind (stA 2 q66_0 y70) fun _=>
 bind (ld1 y71) fun u_73=>same u_73 y72 <|
 bind (ldA 2 q66_0) fun y74=>
 ret (Value.tuple #[y74,y72]))
 (bind (bld (.agg #[.slice none 0 0,.slice none 0 0]) [(0,1,q66_4),(1,1,q66_3)]) fun y75=>
 bind (stA 2 q66_0 y75) fun _=>
 bind (ldA 2 q66_0) fun y76=>
 ret (Value.tuple #[y76,(Value.int .i64 0)]))) noX ret)) noX ret) noX) ret)) noX ret)))
noncomputable def WL.l1 (Γ : Zc) (s0 s5 s6 s7 : Value) : M Out:=
 bind (bop .int .lss s7 s6) fun y2=>
 cnd y2
 (bind (ixa 4 s5 s7) fun y3=>
 bind (ldA 4 y3) fun y4=>
 bind (alc 1 (.agg #[.int .u8 0,.string ⟨#[]⟩,.string ⟨#[]⟩,.bool false])) fun y5=>
 bind (stA 4 y5 y4) fun _=>
 bind (fa 1 y5) fun y6=>
 bind (ld1 y6) fun y7=>
 bind (J0 y7) fun y8=>
 bind (bop .int .gtr y8 (Value.int .i64 50)) fun y9=>
 bind (ZG y9 false 4 (bind (fa 2 y5) fun y10=>
 bind (ld1 y10) fun y11=>
 bind (J0 y11) fun y12=>
 bind (bop .int .gtr y12 (Value.int .i64 50)) fun y13=>
 ret [y10,y11,y12,y13])) (c4 fun _ _ _ q14_3=>
 bind (pick y9 (Value.bool true) q14_3) fun y15=>
 cnd y15
 (ret (.ret (Value.bool false)))
 (bind (bop .int .add s7 (Value.int .i64 1)) fun y16=>
 ret (.nrm [s0,s5,s6,y16]))))
 (ret (.ext 0 [s0]))
noncomputable def WL (Γ : Zc) (x0 : Value) : M Value:=
 bind (Zx x0) fun y1=>
 jn (Zi (c4 (WL.l1 Γ)) [x0,x0,y1,(Value.int .i64 0)]) noN (xk 0 (c1 fun q18_0=>
 bind (Zx q18_0) fun y19=>
 bind (bop .int .leq y19 (Value.int .i64 60)) fun y20=>
 ret y20) noX) ret
theorem ZuL : RA1 Zbt WL:=ra1 Tryz.func18 (by kernel_rfl) fun _ _=>by kernel_rfl
noncomputable def Zj6.l1 (Γ : Zc) (s3 s4 s5 s9 s10 s11 : Value) : M Out:=
 bind (bop .int .lss s11 s10) fun y5=>
 cnd y5
 (bind (ixa 4 s9 s11) fun y6=>
 bind (ldA 4 y6) fun y7=>
 bind (alc 1 (.agg #[.int .u8 0,.string ⟨#[]⟩,.string ⟨#[]⟩,.bool false])) fun y8=>
 bind (stA 4 y8 y7) fun _=>
 bind (ldA 2 s5) fun y9=>
 bind (ldA 4 y8) fun y10=>
 bind (Γ JP [s4,y9,y10]) fun y11=>
 bind (Zo y11 0) fun y12=>
 bind (Zo y11 1) fun y13=>
 bind (stA 2 s5 y12) fun _=>
 bind (bop .int .add s11 (Value.int .i64 1)) fun y14=>
 ret (.nrm [s3,s4,s5,s9,s10,y14]))
 (ret (.ext 0 [s3,s4,s5]))
noncomputable def Zj6 (Γ : Zc) (x0 : Value) : M Value:=
 bind (alc 1 (.agg #[.slice none 0 0,.slice none 0 0])) fun y1=>
 bind (Γ Zal []) fun y2=>
 bind (alc 1 (.agg #[.slice none 0 0,.slice none 0 0])) fun y3=>
 bind (Zx x0) fun y4=>
 jn (Zi (c6 (Zj6.l1 Γ)) [y1,y2,y3,x0,y4,(Value.int .i64 0)]) noN (xk 0 (c3 fun q16_0 q16_1 q16_2=>
 bind (ldA 2 q16_2) fun y17=>
 bind (stA 2 q16_0 y17) fun _=>
 bind (ldA 2 q16_0) fun y18=>
 ret (Value.tuple #[q16_1,y18])) noX) ret
noncomputable def KV (Γ : Zc) (x0 x1 x2 : Value) : M Value:=
 bind (alc 1 x1) fun y1=>
 bind (alc 1 x2) fun y2=>
 bind (alc 1 (.agg #[.slice none 0 0,.slice none 0 0])) fun y3=>
 bind (fa 0 y2) fun y4=>
 bind (ld1 y4) fun y5=>
 bind (bop .int .rem y5 (Value.int .u8 11)) fun y6=>
 bind (bop .int .eql y6 (Value.int .u8 0)) fun y7=>
 jn (cnd y7
 (bind (ldA 2 y1) fun y8=>
 bind (fa 1 y2) fun y9=>
 bind (ld1 y9) fun y10=>
 bind (fa 2 y2) fun y11=>
 bind (ld1 y11) fun y12=>
 bind (Γ Zcr [y8,y10,y12]) fun y13=>
 bind (Zo y13 0) fun y14=>
 bind (Zo y13 1) fun y15=>
 bind (stA 2 y1 y14) fun _=>
 bind (fa 1 y2) fun y16=>
 bind (ld1 y16) fun y17=>
 bind (fa 2 y2) fun y18=>
 bind (ld1 y18) fun y19=>
 bind (Γ Kc [x0,y17,y19]) fun y20=>
 ret (.nrm [y1,y3,y20,y15]))
 (bind (bop .int .eql y6 (Value.int .u8 1)) fun y21=>
 jn (cnd y21
 (bind (ldA 2 y1) fun y22=>
 bind (fa 1 y2) fun y23=>
 bind (ld1 y23) fun y24=>
 bind (Γ Zcx [y22,y24]) fun y25=>
 bind (Zo y25 0) fun y26=>
 bind (Zo y25 1) fun y27=>
 bind (stA 2 y1 y26) fun _=>
 bind (fa 1 y2) fun y28=>
 bind (ld1 y28) fun y29=>
 bind (Γ Y9 [x0,y29]) fun y30=>
 ret (.nrm [y1,y3,y30,y27]))
 (bind (bop .int .eql y6 (Value.int .u8 2)) fun y31=>
 jn (cnd y31
 (bind (ldA 2 y1) fun y32=>
 bind (fa 1 y2) fun y33=>
 bind (ld1 y33) fun y34=>
 bind (fa 2 y2) fun y35=>
 bind (ld1 y35) fun y36=>
 bind (Γ Zaz [y32,y34,y36]) fun y37=>
 bind (Zo y37 0) fun y38=>
 bind (Zo y37 1) fun y39=>
 bind (stA 2 y1 y38) fun _=>
 bind (fa 1 y2) fun y40=>
 bind (ld1 y40) fun y41=>
 bind (fa 2 y2) fun y42=>
 bind (ld1 y42) fun y43=>
 bind (Γ Wg [x0,y41,y43]) fun y44=>
 ret (.nrm [y1,y3,y44,y39]))
 (bind (bop .int .eql y6 (Value.int .u8 3)) fun y45=>
 jn (cnd y45
 (bind (ldA 2 y1) fun y46=>
 bind (fa 1 y2) fun y47=>
 bind (ld1 y47) fun y48=>
 bind (fa 2 y2) fun y49=>
 bind (ld1 y49) fun y50=>
 bind (Γ ZaD [y46,y48,y50]) fun y51=>
 bind (Zo y51 0) fun y52=>
 bind (Zo y51 1) fun y53=>
 bind (stA 2 y1 y52) fun _=>
 bind (fa 1 y2) fun y54=>
 bind (ld1 y54) fun y55=>
 bind (fa 2 y2) fun y56=>
 bind (ld1 y56) fun y57=>
 bind (Γ YH [x0,y55,y57]) fun y58=>
 ret (.nrm [y1,y3,y58,y53]))
 (bind (bop .int .eql y6 (Value.int .u8 4)) fun y59=>
 jn (cnd y59
 (bind (ldA 2 y1) fun y60=>
 bind (fa 1 y2) fun y61=>
 bind (ld1 y61) fun y62=>
 bind (fa 3 y2) fun y63=>
 bind (ld1 y63) fun y64=>
 bind (Γ ZaE [y60,y62,y64]) fun y65=>
 bind (Zo y65 0) fun y66=>
 bind (Zo y65 1) fun y67=>
 bind (stA 2 y1 y66) fun _=>
 bind (fa 1 y2) fun y68=>
 bind (ld1 y68) fun y69=>
 bind (fa 3 y2) fun y70=>
 bind (ld1 y70) fun y71=>
 bind (Γ Wk [x0,y69,y71]) fun y72=>
 ret (.nrm [y1,y3,y72,y67]))
 (bind (bop .int .eql y6 (Value.int .u8 5)) fun y73=>
 jn (cnd y73
 (bind (ldA 2 y1) fun y74=>
 bind (fa 1 y2) fun y75=>
 bind (ld1 y75) fun y76=>
 bind (fa 2 y2) fun y77=>
 bind (ld1 y77) fun y78=>
 bind (Γ Zbd [y74,y76,y78]) fun y79=>
 bind (Zo y79 0) fun y80=>
 bind (Zo y79 1) fun y81=>
 bind (stA 2 y1 y80) fun _=>
 bind (fa 1 y2) fun y82=>
 bind (ld1 y82) fun y83=>
 bind (fa 2 y2) fun y84=>
 bind (ld1 y84) fun y85=>
 bind (Γ WB [x0,y83,y85]) fun y86=>
 ret (.nrm [y1,y3,y86,y81]))
 (bind (bop .int .eql y6 (Value.int .u8 6)) fun y87=>
 jn (cnd y87
 (bind (ldA 2 y1) fun y88=>
 bind (fa 1 y2) fun y89=>
 bind (ld1 y89) fun y90=>
 bind (Γ ZaW [y88,y90]) fun y91=>
 bind (Zo y91 0) fun y92=>
 bind (Zo y91 1) fun y93=>
 bind (stA 2 y1 y92) fun _=>
 bind (fa 1 y2) fun y94=>
 bind (ld1 y94) fun y95=>
 bind (Γ Wu [x0,y95]) fun y96=>
 ret (.nrm [y1,y3,y96,y93]))
 (bind (bop .int .eql y6 (Value.int .u8 7)) fun y97=>
 jn (cnd y97
 (bind (ldA 2 y1) fun y98=>
 bind (fa 1 y2) fun y99=>
 bind (ld1 y99) fun y100=>
 bind (Γ WA [y98,y100]) fun y101=>
 bind (Zo y101 0) fun y102=>
 bind (Zo y101 1) fun y103=>
 bind (stA 2 y1 y102) fun _=>
 bind (fa 1 y2) fun y104=>
 bind (ld1 y104) fun y105=>
 bind (Γ YJ [x0,y105]) fun y106=>
 ret (.nrm [y1,y3,y106,y103]))
 (bind (bop .int .eql y6 (Value.int .u8 8)) fun y107=>
 jn (cnd y107
 (bind (ldA 2 y1) fun y108=>
 bind (fa 1 y2) fun y109=>
 bind (ld1 y109) fun y110=>
 bind (fa 2 y2) fun y111=>
 bind (ld1 y111) fun y112=>
 bind (Γ Zcz [y108,y110,y112]) fun y113=>
 bind (Zo y113 0) fun y114=>
 bind (Zo y113 1) fun y115=>
 bind (stA 2 y1 y114) fun _=>
 bind (fa 1 y2) fun y116=>
 bind (ld1 y116) fun y117=>
 bind (fa 2 y2) fun y118=>
 bind (ld1 y118) fun y119=>
 bind (Γ Zay [x0,y117,y119]) fun y120=>
 ret (.nrm [y1,y3,y120,y115]))
 (bind (bop .int .eql y6 (Value.int .u8 9)) fun y121=>
 jn (cnd y121
 (bind (ldA 2 y1) fun y122=>
 bind (fa 1 y2) fun y123=>
 bind (ld1 y123) fun y124=>
 bind (fa 2 y2) fun y125=>
 bind (ld1 y125) fun y126=>
 bind (Γ ZbP [y122,y124,y126]) fun y127=>
 bind (Zo y127 0) fun y128=>
 bind (Zo y127 1) fun y129=>
 bind (stA 2 y1 y128) fun _=>
 bind (fa 1 y2) fun y130=>
 bind (ld1 y130) fun y131=>
 bind (fa 2 y2) fun y132=>
 bind (ld1 y132) fun y133=>
 bind (Γ WY [x0,y131,y133]) fun y134=>
 ret (.nrm [y1,y3,y134,y129]))
 (bind (Γ Zb2 [x0]) fun y135=>
 bind (fa 1 y2) fun y136=>
 bind (ld1 y136) fun y137=>
 bind (Γ Kc [y135,y137,(Value.string ⟨#[49]⟩)]) fun y138=>
 bind (Γ Y9 [y135,(Value.string ⟨#[97,110,110]⟩)]) fun y139=>
 bind (Γ YJ [y135,(Value.string ⟨#[100,101,118]⟩)]) fun y140=>
 bind (Γ YH [y135,(Value.string ⟨#[98,111,98]⟩),(Value.string ⟨#[113,64,113,46,113]⟩)]) fun y141=>
 ret (.nrm [y1,y3,(Value.int .i64 0),(Value.int .i64 0)]))) (c4 fun q142_0 q142_1 q142_2 q142_3=>
 ret (.nrm [q142_0,q142_1,q142_2,q142_3])) noX Z5)) (c4 fun q144_0 q144_1 q144_2 q144_3=>
 ret (.nrm [q144_0,q144_1,q144_2,q144_3])) noX Z5)) (c4 fun q146_0 q146_1 q146_2 q146_3=>
 ret (.nrm [q146_0,q146_1,q146_2,q146_3])) noX Z5)) (c4 fun q148_0 q148_1 q148_2 q148_3=>
 ret (.nrm [q148_0,q148_1,q148_2,q148_3])) noX Z5)) (c4 fun q150_0 q150_1 q150_2 q150_3=>
 ret (.nrm [q150_0,q150_1,q150_2,q150_3])) noX Z5)) (c4 fun q152_0 q152_1 q152_2 q152_3=>
 ret (.nrm [q152_0,q152_1,q152_2,q152_3])) noX Z5)) (c4 fun q154_0 q154_1 q154_2 q154_3=>
 ret (.nrm [q154_0,q154_1,q154_2,q154_3])) noX Z5)) (c4 fun q156_0 q156_1 q156_2 q156_3=>
 ret (.nrm [q156_0,q156_1,q156_2,q156_3])) noX Z5)) (c4 fun q158_0 q158_1 q158_2 q158_3=>
 ret (.nrm [q158_0,q158_1,q158_2,q158_3])) noX Z5)) (c4 fun q160_0 q160_1 q160_2 q160_3=>
 bind (ldA 2 q160_0) fun y161=>
 bind (bop .int .eql q160_2 q160_3) fun y162=>
 bind (stA 2 q160_1 y161) fun _=>
 bind (ldA 2 q160_1) fun y163=>
 ret (Value.tuple #[y163,y162])) noX ret
theorem Kw : RA3 JP KV:=ra3 Tryz.func20 (by kernel_rfl) fun _ _ _ _=>by kernel_rfl
noncomputable def Zhz (Γ : Zc) (x0 : Value) : M Value:=
 bind (Zx x0) fun y1=>
 bind (bop .int .gtr y1 (Value.int .i64 0)) fun y2=>
 bind (ZG y2 true 5 (bind (ixa 1 x0 (Value.int .i64 0)) fun y3=>
 bind (ld1 y3) fun y4=>
 bind (bop .int .eql y4 (Value.int .u8 1)) fun y5=>
 ret [x0,y3,y4,y5,y5])) (c5 fun _ _ _ _ q6_4=>
 bind (ZG q6_4 false 4 (bind (ixa 1 x0 (Value.int .i64 0)) fun y7=>
 bind (ld1 y7) fun y8=>
 bind (bop .int .eql y8 (Value.int .u8 2)) fun y9=>
 ret [x0,y7,y8,y9])) (c4 fun _ _ _ q10_3=>
 bind (ZG y2 true 1 (bind (pick q6_4 (Value.bool true) q10_3) fun y11=>
 ret [y11])) (c1 fun q12_0=>
 bind (pick y2 q12_0 (Value.bool false)) fun y13=>
 cnd y13
 (bind (ixa 1 x0 (Value.int .i64 0)) fun y14=>
 bind (ld1 y14) fun y15=>
 bind (cvi .i64 y15) fun y16=>
 ret y16)
 (ret (Value.int .i64 0)))))
theorem ZqL : RA1 Zc7 Zhz:=ra1 Tryz.func22 (by kernel_rfl) fun _ _=>by kernel_rfl
noncomputable def Zhb (Γ : Zc) : M Value:=
 bind (bsl 1 3 (.int .u8 0) [(0,1,(Value.int .u8 1)),(1,1,(Value.int .u8 0)),(2,1,(Value.int .u8 0))]) fun y1=>
 bind (Γ Zdw [y1]) fun y2=>
 bind (Zo y2 0) fun y3=>
 bind (Zo y2 1) fun y4=>
 bind (bop .int .eql y4 (Value.int .i64 0)) fun y5=>
 bind (ZG y5 true 3 (bind (b2s y3) fun y6=>
 bind (bop .str .eql y6 (Value.string ⟨#[2,0,0,0,0]⟩)) fun y7=>
 ret [y3,y6,y7])) (c3 fun _ _ q8_2=>
 bind (pick y5 q8_2 (Value.bool false)) fun y9=>
 ret y9)
theorem Zrf : RA0 ZaR Zhb:=ra0 Tryz.func23 (by kernel_rfl) fun _=>by kernel_rfl
noncomputable def Zfw (Γ : Zc) (x0 : Value) : M Value:=
 bind (Γ Zc7 [x0]) fun y1=>
 bind (bop .int .eql y1 (Value.int .i64 2)) fun y2=>
 cnd y2
 (bind (Γ ZnC [x0]) fun y3=>
 bind (Zo y3 0) fun y4=>
 bind (Zo y3 1) fun y5=>
 bind (bop .int .neq y5 (Value.int .i64 0)) fun y6=>
 cnd y6
 (ret (Value.tuple #[(Value.slice none 0 0),y5]))
 (bind (Γ ZbZ [x0]) fun y7=>
 ret (Value.tuple #[y7,(Value.int .i64 0)])))
 (bind (Γ Zcg [x0]) fun y8=>
 bind (Zo y8 0) fun y9=>
 bind (Zo y8 1) fun y10=>
 bind (bop .int .neq y10 (Value.int .i64 0)) fun y11=>
 cnd y11
 (ret (Value.tuple #[(Value.slice none 0 0),y10]))
 (bind (Γ K0 [y9]) fun y12=>
 bind (Γ QQ [y12]) fun y13=>
 ret (Value.tuple #[y13,(Value.int .i64 0)])))
theorem ZoG : RA1 Zdw Zfw:=ra1 Tryz.func24 (by kernel_rfl) fun _ _=>by kernel_rfl
noncomputable def Zqq.l1 (Γ : Zc) (s0 s5 s6 s7 : Value) : M Out:=
 bind (bop .int .lss s7 s6) fun y2=>
 cnd y2
 (bind (ixa 3 s5 s7) fun y3=>
 bind (ldA 3 y3) fun y4=>
 bind (alc 1 (.agg #[.int .u8 0,.string ⟨#[]⟩,.string ⟨#[]⟩])) fun y5=>
 bind (stA 3 y5 y4) fun _=>
 bind (fa 1 y5) fun y6=>
 bind (ld1 y6) fun y7=>
 bind (J0 y7) fun y8=>
 bind (bop .int .gtr y8 (Value.int .i64 50)) fun y9=>
 bind (ZG y9 false 4 (bind (fa 2 y5) fun y10=>
 bind (ld1 y10) fun y11=>
 bind (J0 y11) fun y12=>
 bind (bop .int .gtr y12 (Value.int .i64 50)) fun y13=>
 ret [y10,y11,y12,y13])) (c4 fun _ _ _ q14_3=>
 bind (pick y9 (Value.bool true) q14_3) fun y15=>
 cnd y15
 (ret (.ret (Value.bool false)))
 (bind (bop .int .add s7 (Value.int .i64 1)) fun y16=>
 ret (.nrm [s0,s5,s6,y16]))))
 (ret (.ext 0 [s0]))
noncomputable def Zqq (Γ : Zc) (x0 : Value) : M Value:=
 bind (Zx x0) fun y1=>
 jn (Zi (c4 (Zqq.l1 Γ)) [x0,x0,y1,(Value.int .i64 0)]) noN (xk 0 (c1 fun q18_0=>
 bind (Zx q18_0) fun y19=>
 bind (bop .int .leq y19 (Value.int .i64 60)) fun y20=>
 ret y20) noX) ret
noncomputable def Zjl (Γ : Zc) : M Value:=
 bind (mkm) fun y1=>
 bind (bld (.agg #[.map none]) [(0,1,y1)]) fun y2=>
 bind (alc 1 y2) fun y3=>
 ret y3
theorem Zuy : RA0 Zcd Zjl:=ra0 Tryz.func27 (by kernel_rfl) fun _=>by kernel_rfl
noncomputable def Znq.l1 (Γ : Zc) (s3 s16 s17 s18 : Value) : M Out:=
 bind (bop .int .lss s18 s17) fun y10=>
 cnd y10
 (bind (ixa 5 s16 s18) fun y11=>
 bind (ldA 5 y11) fun y12=>
 bind (alc 1 (.agg #[.string ⟨#[]⟩,.string ⟨#[]⟩,.string ⟨#[]⟩,.bool false,.slice none 0 0])) fun y13=>
 bind (stA 5 y13 y12) fun _=>
 bind (ldA 5 y13) fun y14=>
 bind (Γ Zge [s3,(Value.int .i64 1),y14]) fun y15=>
 bind (bop .int .add s18 (Value.int .i64 1)) fun y16=>
 ret (.nrm [s3,s16,s17,y16]))
 (ret (.ext 0 [s3]))
noncomputable def Znq (Γ : Zc) (x0 : Value) : M Value:=
 bind (bop .ptr .eql x0 (Value.pointer none)) fun y1=>
 cnd y1
 (ret (Value.slice none 0 0))
 (bind (bld (.agg #[.slice none 0 0]) []) fun y2=>
 bind (alc 1 y2) fun y3=>
 bind (Γ JS [y3,(Value.int .u8 1)]) fun y4=>
 bind (Γ Zst [x0]) fun y5=>
 bind (cvi .u16 y5) fun y6=>
 bind (Γ Yw [y4,y6]) fun y7=>
 bind (Γ KB [x0]) fun y8=>
 bind (Zx y8) fun y9=>
 jn (Zi (c4 (Znq.l1 Γ)) [y7,y8,y9,(Value.int .i64 0)]) noN (xk 0 (c1 fun q18_0=>
 bind (Γ KS [q18_0]) fun y19=>
 ret y19) noX) ret)
noncomputable def WN.l1 (Γ : Zc) (s3 s11 s12 s13 : Value) : M Out:=
 bind (bop .int .lss s13 s12) fun y4=>
 cnd y4
 (bind (ixa 5 s11 s13) fun y5=>
 bind (ldA 5 y5) fun y6=>
 bind (alc 1 (.agg #[.string ⟨#[]⟩,.string ⟨#[]⟩,.string ⟨#[]⟩,.bool false,.slice none 0 0])) fun y7=>
 bind (stA 5 y7 y6) fun _=>
 bind (ldA 5 y7) fun y8=>
 bind (Γ ZjA [y8]) fun y9=>
 bind (bsl 5 1 (.agg #[.string ⟨#[]⟩,.string ⟨#[]⟩,.string ⟨#[]⟩,.bool false,.slice none 0 0]) [(0,5,y9)]) fun y10=>
 bind (app 5 80 s3 y10) fun y11=>
 bind (bop .int .add s13 (Value.int .i64 1)) fun y12=>
 ret (.nrm [y11,s11,s12,y12]))
 (ret (.ext 0 [s3]))
noncomputable def WN (Γ : Zc) (x0 : Value) : M Value:=
 bind (bop .ptr .eql x0 (Value.pointer none)) fun y1=>
 cnd y1
 (ret (Value.pointer none))
 (bind (Γ KB [x0]) fun y2=>
 bind (Zx y2) fun y3=>
 jn (Zi (c4 (WN.l1 Γ)) [(Value.slice none 0 0),y2,y3,(Value.int .i64 0)]) noN (xk 0 (c1 fun q14_0=>
 bind (Γ Zb6 [q14_0,(Value.slice none 0 0)]) fun y15=>
 bind (Zo y15 0) fun y16=>
 bind (Zo y15 1) fun y17=>
 ret y16) noX) ret)
theorem Zr5 : RA1 K0 WN:=ra1 Tryz.func30 (by kernel_rfl) fun _ _=>by kernel_rfl
noncomputable def ZaO (Γ : Zc) (x0 x1 : Value) : M Value:=
 bind (alc 1 (.agg #[.string ⟨#[]⟩,.string ⟨#[]⟩,.string ⟨#[]⟩,.bool false,.slice none 0 0])) fun y1=>
 bind (Γ Q4 [x0,x1]) fun y2=>
 bind (Zo y2 0) fun y3=>
 bind (Zo y2 1) fun y4=>
 bind (alc 1 (.agg #[.string ⟨#[]⟩,.bool false])) fun y5=>
 bind (stA 2 y5 y3) fun _=>
 bind (bop .int .neq y4 (Value.int .i64 0)) fun y6=>
 cnd y6
 (bind (bld (.agg #[.string ⟨#[]⟩,.string ⟨#[]⟩,.string ⟨#[]⟩,.bool false,.slice none 0 0]) []) fun y7=>
 bind (stA 5 y1 y7) fun _=>
 bind (ldA 5 y1) fun y8=>
 ret (Value.tuple #[y8,y4]))
 (bind (Qe x0) fun y9=>
 bind (fa 1 y9) fun y10=>
 bind (ld1 y10) fun y11=>
 bind (Γ Zcp [y11,x1]) fun y12=>
 bind (Zo y12 0) fun y13=>
 bind (Zo y12 1) fun y14=>
 bind (fa 0 y5) fun y15=>
 bind (ld1 y15) fun y16=>
 bind (fa 1 y5) fun y17=>
 bind (ld1 y17) fun y18=>
 bind (Qe x0) fun y19=>
 bind (fa 2 y19) fun y20=>
 bind (ld1 y20) fun y21=>
 bind (Γ J6 [y21,x1]) fun y22=>
 bind (ld1 y17) fun u_23=>same u_23 y18 <|
 bind (ld1 y15) fun u_24=>same u_24 y16 <|
 bind (bld (.agg #[.string ⟨#[]⟩,.string ⟨#[]⟩,.string ⟨#[]⟩,.bool false,.slice none 0 0]) [(0,1,x1),(1,1,y16),(2,1,y13),(3,1,y18),(4,1,y22)]) fun y25=>
 bind (stA 5 y1 y25) fun _=>
 bind (ldA 5 y1) fun y26=>
 ret (Value.tuple #[y26,(Value.int .i64 0)]))
theorem Zmk : RA2 WD ZaO:=ra2 Tryz.func33 (by kernel_rfl) fun _ _ _=>by kernel_rfl
noncomputable def Zhv.l1 (Γ : Zc) (s0 s1 s12 s13 : Value) : M Out:=
 bind (bop .int .lss s13 s12) fun y5=>
 cnd y5
 (bind (ixa 1 s0 s13) fun y6=>
 bind (ld1 y6) fun y7=>
 bind (ixa 1 s1 s13) fun y8=>
 bind (ld1 y8) fun y9=>
 bind (bop .str .neq y7 y9) fun y10=>
 cnd y10
 (ret (.ret (Value.bool false)))
 (bind (bop .int .add s13 (Value.int .i64 1)) fun y11=>
 ret (.nrm [s0,s1,s12,y11])))
 (ret (.ext 0 []))
noncomputable def Zhv (Γ : Zc) (x0 x1 : Value) : M Value:=
 bind (Zx x0) fun y1=>
 bind (Zx x1) fun y2=>
 bind (bop .int .neq y1 y2) fun y3=>
 cnd y3
 (ret (Value.bool false))
 (bind (Zx x0) fun y4=>
 jn (Zi (c4 (Zhv.l1 Γ)) [x0,x1,y4,(Value.int .i64 0)]) noN (xk 0 (c0 (ret (Value.bool true))) noX) ret)
noncomputable def ZjM (Γ : Zc) : M Value:=
 bind (mkm) fun y1=>
 bind (Γ ZhI []) fun y2=>
 bind (Γ Zg2 []) fun y3=>
 bind (bld (.agg #[.map none,.pointer none,.pointer none]) [(0,1,y1),(1,1,y2),(2,1,y3)]) fun y4=>
 bind (alc 1 y4) fun y5=>
 ret y5
theorem ZsZ : RA0 Zal ZjM:=ra0 Tryz.func37 (by kernel_rfl) fun _=>by kernel_rfl
noncomputable def Zd0 (Γ : Zc) (x0 : Value) : M Value:=
 bind (bop .ptr .eql x0 (Value.pointer none)) fun y1=>
 bind (ZG y1 false 4 (bind (Γ KO [x0]) fun y2=>
 bind (Zx y2) fun y3=>
 bind (bop .int .gtr y3 (Value.int .i64 0)) fun y4=>
 ret [x0,y2,y3,y4])) (c4 fun _ _ _ q5_3=>
 bind (pick y1 (Value.bool true) q5_3) fun y6=>
 cnd y6
 (ret (Value.tuple #[(Value.pointer none),(Value.int .i64 12)]))
 (bind (Γ Wp [x0]) fun y7=>
 bind (Γ WT [y7]) fun y8=>
 bind (Zo y8 0) fun y9=>
 bind (Zo y8 1) fun y10=>
 bind (bop .int .neq y10 (Value.int .i64 0)) fun y11=>
 cnd y11
 (ret (Value.tuple #[(Value.pointer none),(Value.int .i64 12)]))
 (ret (Value.tuple #[y9,(Value.int .i64 0)]))))
theorem ZhT : RA1 Kd Zd0:=ra1 Tryz.func38 (by kernel_rfl) fun _ _=>by kernel_rfl
noncomputable def Jk.l1 (Γ : Zc) (s0 s1 s12 s13 : Value) : M Out:=
 bind (bop .int .lss s13 s12) fun y5=>
 cnd y5
 (bind (ixa 5 s0 s13) fun y6=>
 bind (ldA 5 y6) fun y7=>
 bind (ixa 5 s1 s13) fun y8=>
 bind (ldA 5 y8) fun y9=>
 bind (Γ ZfJ [y7,y9]) fun y10=>
 bind (uop .not y10) fun y11=>
 cnd y11
 (ret (.ret (Value.bool false)))
 (bind (bop .int .add s13 (Value.int .i64 1)) fun y12=>
 ret (.nrm [s0,s1,s12,y12])))
 (ret (.ext 0 []))
noncomputable def Jk (Γ : Zc) (x0 x1 : Value) : M Value:=
 bind (Zx x0) fun y1=>
 bind (Zx x1) fun y2=>
 bind (bop .int .neq y1 y2) fun y3=>
 cnd y3
 (ret (Value.bool false))
 (bind (Zx x0) fun y4=>
 jn (Zi (c4 (Jk.l1 Γ)) [x0,x1,y4,(Value.int .i64 0)]) noN (xk 0 (c0 (ret (Value.bool true))) noX) ret)
theorem Zme : RA2 KK Jk:=ra2 Tryz.func39 (by kernel_rfl) fun _ _ _=>by kernel_rfl
noncomputable def Kz.l1 (Γ : Zc) (s0 s3 s7 s8 s9 : Value) : M Out:=
 bind (bop .int .lss s9 s8) fun y3=>
 cnd y3
 (bind (ixa 1 s7 s9) fun y4=>
 bind (ld1 y4) fun y5=>
 bind (Qe s0) fun y6=>
 bind (fa 0 y6) fun y7=>
 bind (ld1 y7) fun y8=>
 bind (lkp .str (.string ⟨#[]⟩) false y8 y5) fun y9=>
 bind (bld (.agg #[.string ⟨#[]⟩,.string ⟨#[]⟩,.string ⟨#[]⟩,.bool false,.slice none 0 0]) [(0,1,y5),(1,1,y9)]) fun y10=>
 bind (bsl 5 1 (.agg #[.string ⟨#[]⟩,.string ⟨#[]⟩,.string ⟨#[]⟩,.bool false,.slice none 0 0]) [(0,5,y10)]) fun y11=>
 bind (app 5 80 s3 y11) fun y12=>
 bind (bop .int .add s9 (Value.int .i64 1)) fun y13=>
 ret (.nrm [s0,y12,s7,s8,y13]))
 (ret (.ext 0 [s3]))
noncomputable def Kz (Γ : Zc) (x0 : Value) : M Value:=
 bind (Γ ZcR [x0]) fun y1=>
 bind (Zx y1) fun y2=>
 jn (Zi (c5 (Kz.l1 Γ)) [x0,(Value.slice none 0 0),y1,y2,(Value.int .i64 0)]) noN (xk 0 (c1 fun q15_0=>
 ret q15_0) noX) ret
theorem Zqn : RA1 KB Kz:=ra1 Tryz.func40 (by kernel_rfl) fun _ _=>by kernel_rfl
noncomputable def Jb.l1 (Γ : Zc) (s1 s5 s13 s14 s15 : Value) : M Out:=
 bind (bop .int .lss s15 s14) fun y2=>
 cnd y2
 (bind (ixa 5 s13 s15) fun y3=>
 bind (ldA 5 y3) fun y4=>
 bind (alc 1 (.agg #[.string ⟨#[]⟩,.string ⟨#[]⟩,.string ⟨#[]⟩,.bool false,.slice none 0 0])) fun y5=>
 bind (stA 5 y5 y4) fun _=>
 bind (ldA 5 y5) fun y6=>
 bind (Γ Yq [(Value.int .i64 2),y6]) fun y7=>
 bind (bop .int .neq y7 (Value.int .i64 0)) fun y8=>
 cnd y8
 (ret (.ret y7))
 (bind (fa 0 y5) fun y9=>
 bind (ld1 y9) fun y10=>
 bind (bsl 1 1 (.string ⟨#[]⟩) [(0,1,y10)]) fun y11=>
 bind (app 1 16 s5 y11) fun y12=>
 bind (bop .int .add s15 (Value.int .i64 1)) fun y13=>
 ret (.nrm [s1,y12,s13,s14,y13])))
 (ret (.ext 0 [s1,s5]))
noncomputable def Jb.l2 (Γ : Zc) (s1 s35 s36 s37 : Value) : M Out:=
 bind (bop .int .lss s37 s36) fun y19=>
 cnd y19
 (bind (ixa 1 s35 s37) fun y20=>
 bind (ld1 y20) fun y21=>
 bind (Γ QZ [y21]) fun y22=>
 bind (bop .int .neq y22 (Value.int .i64 0)) fun y23=>
 cnd y23
 (ret (.ret y22))
 (bind (bop .int .add s37 (Value.int .i64 1)) fun y24=>
 ret (.nrm [s1,s35,s36,y24])))
 (ret (.ext 2 [s1]))
noncomputable def Jb (Γ : Zc) (x0 x1 : Value) : M Value:=
 bind (Zx x0) fun y1=>
 jn (Zi (c5 (Jb.l1 Γ)) [x1,(Value.slice none 0 0),x0,y1,(Value.int .i64 0)]) noN (xk 0 (c2 fun q15_0 q15_1=>
 bind (Γ K1 [q15_1,(Value.int .i64 12)]) fun y16=>
 bind (bop .int .neq y16 (Value.int .i64 0)) fun y17=>
 cnd y17
 (ret y16)
 (bind (Zx q15_0) fun y18=>
 jn (Zi (c4 (Jb.l2 Γ)) [q15_0,q15_0,y18,(Value.int .i64 0)]) noN (xk 2 (c1 fun q26_0=>
 bind (Γ K1 [q26_0,(Value.int .i64 6)]) fun y27=>
 ret y27) noX) ret)) noX) ret
theorem Zq7 : RA2 Zc2 Jb:=ra2 Tryz.func41 (by kernel_rfl) fun _ _ _=>by kernel_rfl
noncomputable def YG (Γ : Zc) (x0 x1 : Value) : M Value:=
 bind (Γ Yl [x0,x1,(Value.slice none 0 0)]) fun y1=>
 bind (Zo y1 0) fun y2=>
 bind (Zo y1 1) fun y3=>
 bind (bop .int .eql y3 (Value.int .i64 0)) fun y4=>
 cnd y4
 (ret (Value.int .i64 9))
 (bind (bop .int .neq y3 (Value.int .i64 8)) fun y5=>
 cnd y5
 (ret y3)
 (bind (Qe x0) fun y6=>
 bind (fa 0 y6) fun y7=>
 bind (ld1 y7) fun y8=>
 bind (lenM y8) fun y9=>
 bind (bop .int .geq y9 (Value.int .i64 6)) fun y10=>
 cnd y10
 (ret (Value.int .i64 7))
 (bind (Qe x0) fun y11=>
 bind (fa 0 y11) fun y12=>
 bind (ld1 y12) fun y13=>
 bind (mkm) fun y14=>
 bind (mup .str y13 x1 y14) fun _=>
 ret (Value.int .i64 0))))
theorem Zks : RA2 Yk YG:=ra2 Tryz.func42 (by kernel_rfl) fun _ _ _=>by kernel_rfl
noncomputable def Wo (Γ : Zc) (x0 x1 x2 : Value) : M Value:=
 bind (bsl 1 1 (.string ⟨#[]⟩) [(0,1,x2)]) fun y1=>
 bind (Γ Yl [x0,x1,y1]) fun y2=>
 bind (Zo y2 0) fun y3=>
 bind (Zo y2 1) fun y4=>
 bind (bop .int .neq y4 (Value.int .i64 0)) fun y5=>
 cnd y5
 (ret y4)
 (bind (lkp .str (.agg #[]) true y3 x2) fun y6=>
 bind (Zo y6 0) fun y7=>
 bind (Zo y6 1) fun y8=>
 bind (alc 1 (.agg #[])) fun y9=>
 bind (stA 0 y9 y7) fun _=>
 cnd y8
 (ret (Value.int .i64 9))
 (bind (bld (.agg #[]) []) fun y10=>
 bind (mup .str y3 x2 y10) fun _=>
 ret (Value.int .i64 0)))
theorem Zkz : RA3 YI Wo:=ra3 Tryz.func43 (by kernel_rfl) fun _ _ _ _=>by kernel_rfl
noncomputable def KW (Γ : Zc) (x0 x1 x2 : Value) : M Value:=
 bind (Γ QZ [x1]) fun y1=>
 bind (bop .int .neq y1 (Value.int .i64 0)) fun y2=>
 cnd y2
 (ret y1)
 (bind (bop .str .eql x2 (Value.string ⟨#[]⟩)) fun y3=>
 cnd y3
 (bind (Γ JE [x0,x1]) fun y4=>
 ret (Value.int .i64 0))
 (bind (Γ Zbp [x2]) fun y5=>
 bind (Zo y5 0) fun y6=>
 bind (Zo y5 1) fun y7=>
 bind (bop .int .neq y7 (Value.int .i64 0)) fun y8=>
 cnd y8
 (ret y7)
 (bind (Qe x0) fun y9=>
 bind (fa 0 y9) fun y10=>
 bind (ld1 y10) fun y11=>
 bind (lkp .str (.string ⟨#[]⟩) true y11 y6) fun y12=>
 bind (Zo y12 0) fun y13=>
 bind (Zo y12 1) fun y14=>
 bind (ZG y14 true 3 (bind (bop .str .neq y13 x1) fun y15=>
 ret [y13,x1,y15])) (c3 fun _ _ q16_2=>
 bind (pick y14 q16_2 (Value.bool false)) fun y17=>
 cnd y17
 (ret (Value.int .i64 9))
 (bind (Γ JE [x0,x1]) fun y18=>
 bind (Qe x0) fun y19=>
 bind (fa 0 y19) fun y20=>
 bind (ld1 y20) fun y21=>
 bind (Qe x0) fun y22=>
 bind (fa 1 y22) fun y23=>
 bind (ld1 y23) fun y24=>
 bind (men .str (.string ⟨#[]⟩) y21 y6) fun y25=>
 bind (Zo y25 1) fun y26=>
 bind (ens y21 y26 x1) fun _=>
 bind (men .str (.string ⟨#[]⟩) y24 x1) fun y27=>
 bind (Zo y27 1) fun y28=>
 bind (ens y24 y28 y6) fun _=>
 ret (Value.int .i64 0))))))
theorem Zoh : RA3 Kf KW:=ra3 Tryz.func44 (by kernel_rfl) fun _ _ _ _=>by kernel_rfl
noncomputable def ZdH (Γ : Zc) (x0 x1 : Value) : M Value:=
 bind (cvi .u64 x1) fun y1=>
 bind (Γ KJ [x0,y1,(Value.int .i64 1)]) fun y2=>
 ret y2
theorem Zkl : RA2 JS ZdH:=ra2 Tryz.func45 (by kernel_rfl) fun _ _ _=>by kernel_rfl
noncomputable def Ka.l1 (Γ : Zc) (s0 s17 s18 s19 : Value) : M Out:=
 bind (bop .int .lss s19 s18) fun y8=>
 cnd y8
 (bind (ixa 1 s17 s19) fun y9=>
 bind (ld1 y9) fun y10=>
 bind (Γ JT [s0,y10]) fun y11=>
 bind (bop .int .add s19 (Value.int .i64 1)) fun y12=>
 ret (.nrm [s0,s17,s18,y12]))
 (ret (.ext 0 [s0]))
noncomputable def Ka (Γ : Zc) (x0 x1 : Value) : M Value:=
 bind (Zx x1) fun y1=>
 bind (mxi false y1 (Value.int .i64 65535)) fun y2=>
 bind (slv 1 x1 none (some y2) none) fun y3=>
 bind (Zx y3) fun y4=>
 bind (cvi .u16 y4) fun y5=>
 bind (Γ Yw [x0,y5]) fun y6=>
 bind (Zx y3) fun y7=>
 jn (Zi (c4 (Ka.l1 Γ)) [x0,y3,y7,(Value.int .i64 0)]) noN (xk 0 (c1 fun q14_0=>
 ret q14_0) noX) ret
theorem ZkV : RA2 KF Ka:=ra2 Tryz.func46 (by kernel_rfl) fun _ _ _=>by kernel_rfl
noncomputable def Zd7 (Γ : Zc) (x0 : Value) : M Value:=
 bind (Qe x0) fun y1=>
 bind (fa 2 y1) fun y2=>
 bind (ld1 y2) fun y3=>
 bind (Γ KN [y3]) fun y4=>
 ret y4
theorem Zma : RA1 KO Zd7:=ra1 Tryz.func47 (by kernel_rfl) fun _ _=>by kernel_rfl
noncomputable def Zej (Γ : Zc) (x0 x1 : Value) : M Value:=
 bind (cvi .u64 x1) fun y1=>
 bind (Γ KJ [x0,y1,(Value.int .i64 2)]) fun y2=>
 ret y2
theorem Zlt : RA2 Yw Zej:=ra2 Tryz.func48 (by kernel_rfl) fun _ _ _=>by kernel_rfl
noncomputable def Zgu (Γ : Zc) (x0 : Value) : M Value:=
 bind (Qe x0) fun y1=>
 bind (fa 0 y1) fun y2=>
 bind (ld1 y2) fun y3=>
 bind (lenM y3) fun y4=>
 ret y4
theorem Zo0 : RA1 Zcy Zgu:=ra1 Tryz.func49 (by kernel_rfl) fun _ _=>by kernel_rfl
noncomputable def KC.l1 (Γ : Zc) (s0 s3 s9 s10 s11 : Value) : M Out:=
 bind (bop .int .lss s11 s10) fun y3=>
 cnd y3
 (bind (ixa 1 s9 s11) fun y4=>
 bind (ld1 y4) fun y5=>
 bind (Γ WD [s0,y5]) fun y6=>
 bind (Zo y6 0) fun y7=>
 bind (Zo y6 1) fun y8=>
 bind (alc 1 (.agg #[.string ⟨#[]⟩,.string ⟨#[]⟩,.string ⟨#[]⟩,.bool false,.slice none 0 0])) fun y9=>
 bind (stA 5 y9 y7) fun _=>
 bind (ldA 5 y9) fun y10=>
 bind (bsl 5 1 (.agg #[.string ⟨#[]⟩,.string ⟨#[]⟩,.string ⟨#[]⟩,.bool false,.slice none 0 0]) [(0,5,y10)]) fun y11=>
 bind (app 5 80 s3 y11) fun y12=>
 bind (bop .int .add s11 (Value.int .i64 1)) fun y13=>
 ret (.nrm [s0,y12,s9,s10,y13]))
 (ret (.ext 0 [s3]))
noncomputable def KC (Γ : Zc) (x0 : Value) : M Value:=
 bind (Γ Zbh [x0]) fun y1=>
 bind (Zx y1) fun y2=>
 jn (Zi (c5 (KC.l1 Γ)) [x0,(Value.slice none 0 0),y1,y2,(Value.int .i64 0)]) noN (xk 0 (c1 fun q15_0=>
 ret q15_0) noX) ret
theorem Zpp : RA1 Wp KC:=ra1 Tryz.func50 (by kernel_rfl) fun _ _=>by kernel_rfl
noncomputable def Zml (Γ : Zc) (x0 x1 x2 : Value) : M Value:=
 bind (alc 1 x2) fun y1=>
 bind (ldA 5 y1) fun y2=>
 bind (Γ Yq [x1,y2]) fun y3=>
 bind (bop .int .neq y3 (Value.int .i64 0)) fun y4=>
 cnd y4
 (ret (Value.bool false))
 (bind (fa 0 y1) fun y5=>
 bind (ld1 y5) fun y6=>
 bind (fa 1 y1) fun y7=>
 bind (ld1 y7) fun y8=>
 bind (Γ JT [x0,y6]) fun y9=>
 bind (ld1 y7) fun u_10=>same u_10 y8 <|
 bind (Γ JT [y9,y8]) fun y11=>
 bind (bop .int .eql x1 (Value.int .i64 2)) fun y12=>
 jn (cnd y12
 (bind (fa 2 y1) fun y13=>
 bind (ld1 y13) fun y14=>
 bind (fa 3 y1) fun y15=>
 bind (ld1 y15) fun y16=>
 bind (fa 4 y1) fun y17=>
 bind (ld1 y17) fun y18=>
 bind (Γ JT [x0,y14]) fun y19=>
 bind (ld1 y17) fun u_20=>same u_20 y18 <|
 bind (ld1 y15) fun u_21=>same u_21 y16 <|
 bind (Γ WR [y19,y16]) fun y22=>
 bind (ld1 y17) fun u_23=>same u_23 y18 <|
 bind (Γ KF [y22,y18]) fun y24=>
 ret (.nrm []))
 (ret (.nrm []))) (c0 (ret (Value.bool true))) noX ret)
theorem Zva : RA3 Zge Zml:=ra3 Tryz.func51 (by kernel_rfl) fun _ _ _ _=>by kernel_rfl
noncomputable def Zc4 (Γ : Zc) (x0 : Value) : M Value:=
 bind (Qe x0) fun y1=>
 bind (fa 0 y1) fun y2=>
 bind (ld1 y2) fun y3=>
 bind (Γ ZbZ [y3]) fun y4=>
 ret y4
theorem Zi5 : RA1 KS Zc4:=ra1 Tryz.func52 (by kernel_rfl) fun _ _=>by kernel_rfl
noncomputable def ZkT (Γ : Zc) (x0 : Value) : M Value:=
 bind (Γ ZbZ [x0]) fun y1=>
 bind (bld (.agg #[.slice none 0 0,.int .i64 0]) [(0,1,y1)]) fun y2=>
 bind (alc 1 y2) fun y3=>
 ret y3
theorem Zvh : RA1 Zeo ZkT:=ra1 Tryz.func53 (by kernel_rfl) fun _ _=>by kernel_rfl
noncomputable def ZdF (Γ : Zc) (x0 : Value) : M Value:=
 bind (Γ KI [x0,(Value.int .i64 1)]) fun y1=>
 bind (cvi .u8 y1) fun y2=>
 ret y2
theorem Zke : RA1 Ko ZdF:=ra1 Tryz.func54 (by kernel_rfl) fun _ _=>by kernel_rfl
noncomputable def Zee (Γ : Zc) (x0 : Value) : M Value:=
 bind (Qe x0) fun y1=>
 bind (fa 1 y1) fun y2=>
 bind (ld1 y2) fun y3=>
 ret y3
theorem Zlp : RA1 QF Zee:=ra1 Tryz.func55 (by kernel_rfl) fun _ _=>by kernel_rfl
noncomputable def Zhf.l1 (Γ : Zc) (s0 s2 s7 s10 s11 : Value) : M Out:=
 bind (bop .int .lss s11 s10) fun y2=>
 cnd y2
 (bind (Γ Ym [s0,s2]) fun y3=>
 bind (bsl 1 1 (.string ⟨#[]⟩) [(0,1,y3)]) fun y4=>
 bind (app 1 16 s7 y4) fun y5=>
 bind (bop .int .add s11 (Value.int .i64 1)) fun y6=>
 ret (.nrm [s0,s2,y5,s10,y6]))
 (ret (.ext 0 [s0,s7]))
noncomputable def Zhf (Γ : Zc) (x0 x1 x2 : Value) : M Value:=
 bind (Γ KP [x0,x1]) fun y1=>
 jn (Zi (c5 (Zhf.l1 Γ)) [x0,x2,(Value.slice none 0 0),y1,(Value.int .i64 0)]) noN (xk 0 (c2 fun q8_0 q8_1=>
 bind (Qe q8_0) fun y9=>
 bind (fa 1 y9) fun y10=>
 bind (ld1 y10) fun y11=>
 bind (bop .int .neq y11 (Value.int .i64 0)) fun y12=>
 cnd y12
 (ret (Value.slice none 0 0))
 (ret q8_1)) noX) ret
noncomputable def Zd9 (Γ : Zc) (x0 : Value) : M Value:=
 bind (Γ KI [x0,(Value.int .i64 2)]) fun y1=>
 bind (cvi .u16 y1) fun y2=>
 ret y2
theorem ZlG : RA1 Y7 Zd9:=ra1 Tryz.func57 (by kernel_rfl) fun _ _=>by kernel_rfl
noncomputable def Wj (Γ : Zc) (x0 x1 : Value) : M Value:=
 bind (Qe x0) fun y1=>
 bind (fa 1 y1) fun y2=>
 bind (ld1 y2) fun y3=>
 bind (bop .int .eql y3 (Value.int .i64 0)) fun y4=>
 bind (ZG y4 true 2 (bind (bop .int .neq x1 (Value.int .i64 0)) fun y5=>
 ret [x1,y5])) (c2 fun _ q6_1=>
 bind (pick y4 q6_1 (Value.bool false)) fun y7=>
 jn (cnd y7
 (bind (Qe x0) fun y8=>
 bind (fa 0 y8) fun y9=>
 bind (st1 y9 (Value.slice none 0 0)) fun _=>
 bind (Qe x0) fun y10=>
 bind (fa 1 y10) fun y11=>
 bind (st1 y11 x1) fun _=>
 ret (.nrm []))
 (ret (.nrm []))) (c0 (ret (Value.tuple #[]))) noX ret)
theorem Zkj : RA2 Qk Wj:=ra2 Tryz.func58 (by kernel_rfl) fun _ _ _=>by kernel_rfl
noncomputable def ZhL (Γ : Zc) (x0 x1 : Value) : M Value:=
 bind (alc 1 (.agg #[.string ⟨#[]⟩,.string ⟨#[]⟩,.string ⟨#[]⟩,.bool false,.slice none 0 0])) fun y1=>
 bind (bop .int .neq x1 (Value.int .i64 1)) fun y2=>
 bind (ZG y2 true 2 (bind (bop .int .neq x1 (Value.int .i64 2)) fun y3=>
 ret [x1,y3])) (c2 fun _ q4_1=>
 bind (pick y2 q4_1 (Value.bool false)) fun y5=>
 cnd y5
 (bind (Γ Qk [x0,(Value.int .i64 6)]) fun y6=>
 bind (bld (.agg #[.string ⟨#[]⟩,.string ⟨#[]⟩,.string ⟨#[]⟩,.bool false,.slice none 0 0]) []) fun y7=>
 bind (stA 5 y1 y7) fun _=>
 bind (ldA 5 y1) fun y8=>
 ret y8)
 (bind (Γ Ym [x0,(Value.int .i64 65535)]) fun y9=>
 bind (Γ Ym [x0,(Value.int .i64 65535)]) fun y10=>
 bind (bld (.agg #[.string ⟨#[]⟩,.string ⟨#[]⟩,.string ⟨#[]⟩,.bool false,.slice none 0 0]) [(0,1,y9),(1,1,y10)]) fun y11=>
 bind (alc 1 (.agg #[.string ⟨#[]⟩,.string ⟨#[]⟩,.string ⟨#[]⟩,.bool false,.slice none 0 0])) fun y12=>
 bind (stA 5 y12 y11) fun _=>
 bind (bop .int .eql x1 (Value.int .i64 2)) fun y13=>
 jn (cnd y13
 (bind (Γ Ym [x0,(Value.int .i64 65535)]) fun y14=>
 bind (Γ ZlH [x0]) fun y15=>
 bind (Γ ZhD [x0,(Value.int .i64 65535),(Value.int .i64 65535)]) fun y16=>
 bind (fa 2 y12) fun y17=>
 bind (st1 y17 y14) fun _=>
 bind (fa 3 y12) fun y18=>
 bind (st1 y18 y15) fun _=>
 bind (fa 4 y12) fun y19=>
 bind (st1 y19 y16) fun _=>
 ret (.nrm [x0,x1,y1,y12]))
 (ret (.nrm [x0,x1,y1,y12]))) (c4 fun q20_0 q20_1 q20_2 q20_3=>
 bind (Γ QF [q20_0]) fun y21=>
 bind (bop .int .eql y21 (Value.int .i64 0)) fun y22=>
 jn (cnd y22
 (bind (ldA 5 q20_3) fun y23=>
 bind (Γ Yq [q20_1,y23]) fun y24=>
 bind (Γ Qk [q20_0,y24]) fun y25=>
 ret (.nrm [q20_0,q20_2,q20_3]))
 (ret (.nrm [q20_0,q20_2,q20_3]))) (c3 fun q26_0 q26_1 q26_2=>
 bind (Γ QF [q26_0]) fun y27=>
 bind (bop .int .neq y27 (Value.int .i64 0)) fun y28=>
 cnd y28
 (bind (bld (.agg #[.string ⟨#[]⟩,.string ⟨#[]⟩,.string ⟨#[]⟩,.bool false,.slice none 0 0]) []) fun y29=>
 bind (stA 5 q26_1 y29) fun _=>
 bind (ldA 5 q26_1) fun y30=>
 ret y30)
 (bind (ldA 5 q26_2) fun y31=>
 bind (stA 5 q26_1 y31) fun _=>
 bind (ldA 5 q26_1) fun y32=>
 ret y32)) noX ret) noX ret))
theorem ZvL : RA2 Zeu ZhL:=ra2 Tryz.func59 (by kernel_rfl) fun _ _ _=>by kernel_rfl
noncomputable def Zeg (Γ : Zc) (x0 : Value) : M Value:=
 bind (Qe x0) fun y1=>
 bind (fa 1 y1) fun y2=>
 bind (ld1 y2) fun y3=>
 bind (bop .int .eql y3 (Value.int .i64 0)) fun y4=>
 bind (ZG y4 true 6 (bind (Qe x0) fun y5=>
 bind (fa 0 y5) fun y6=>
 bind (ld1 y6) fun y7=>
 bind (Zx y7) fun y8=>
 bind (bop .int .gtr y8 (Value.int .i64 0)) fun y9=>
 ret [x0,y5,y6,y7,y8,y9])) (c6 fun _ _ _ _ _ q10_5=>
 bind (pick y4 q10_5 (Value.bool false)) fun y11=>
 cnd y11
 (ret (Value.int .i64 3))
 (bind (Qe x0) fun y12=>
 bind (fa 1 y12) fun y13=>
 bind (ld1 y13) fun y14=>
 ret y14))
theorem ZkO : RA1 KH Zeg:=ra1 Tryz.func60 (by kernel_rfl) fun _ _=>by kernel_rfl
noncomputable def Zj2.l1 (Γ : Zc) (s2 s6 s8 s10 s29 s30 : Value) : M Out:=
 bind (bop .int .lss s30 s29) fun y18=>
 cnd y18
 (bind (ldA 2 s8) fun y19=>
 bind (Γ ZqR [y19,s2]) fun y20=>
 bind (Zo y20 0) fun y21=>
 bind (Zo y20 1) fun y22=>
 bind (alc 1 (.agg #[.string ⟨#[]⟩,.int .i64 0])) fun y23=>
 bind (stA 2 y23 y21) fun _=>
 bind (ldA 2 y23) fun y24=>
 bind (stA 2 s8 y24) fun _=>
 bind (fa 1 s8) fun y25=>
 bind (ld1 y25) fun y26=>
 bind (bop .int .neq y26 (Value.int .i64 0)) fun y27=>
 cnd y27
 (bind (ldA 2 s8) fun y28=>
 bind (stA 2 s6 y28) fun _=>
 bind (ldA 2 s6) fun y29=>
 ret (.ret (Value.tuple #[y29,(Value.slice none 0 0)])))
 (bind (bsl 1 1 (.string ⟨#[]⟩) [(0,1,y22)]) fun y30=>
 bind (app 1 16 s10 y30) fun y31=>
 bind (bop .int .add s30 (Value.int .u64 1)) fun y32=>
 ret (.nrm [s2,s6,s8,y31,s29,y32])))
 (ret (.ext 0 [s6,s8,s10]))
noncomputable def Zj2 (Γ : Zc) (x0 x1 x2 : Value) : M Value:=
 bind (alc 1 x0) fun y1=>
 bind (alc 1 (.agg #[.string ⟨#[]⟩,.int .i64 0])) fun y2=>
 bind (ldA 2 y1) fun y3=>
 bind (Γ Zja [y3,(Value.int .i64 2)]) fun y4=>
 bind (Zo y4 0) fun y5=>
 bind (Zo y4 1) fun y6=>
 bind (alc 1 (.agg #[.string ⟨#[]⟩,.int .i64 0])) fun y7=>
 bind (stA 2 y7 y5) fun _=>
 bind (fa 1 y7) fun y8=>
 bind (ld1 y8) fun y9=>
 bind (bop .int .eql y9 (Value.int .i64 0)) fun y10=>
 bind (ZG y10 true 5 (bind (cvi .i64 y6) fun y11=>
 bind (mxi true (Value.int .i64 0) x1) fun y12=>
 bind (bop .int .gtr y11 y12) fun y13=>
 ret [y6,y11,x1,y12,y13])) (c5 fun _ _ _ _ q14_4=>
 bind (pick y10 q14_4 (Value.bool false)) fun y15=>
 cnd y15
 (bind (bld (.agg #[.string ⟨#[]⟩,.int .i64 0]) [(1,1,(Value.int .i64 3))]) fun y16=>
 bind (stA 2 y2 y16) fun _=>
 bind (ldA 2 y2) fun y17=>
 ret (Value.tuple #[y17,(Value.slice none 0 0)]))
 (jn (Zi (c6 (Zj2.l1 Γ)) [x2,y2,y7,(Value.slice none 0 0),y6,(Value.int .u64 0)]) noN (xk 0 (c3 fun q34_0 q34_1 q34_2=>
 bind (ldA 2 q34_1) fun y35=>
 bind (stA 2 q34_0 y35) fun _=>
 bind (ldA 2 q34_0) fun y36=>
 ret (Value.tuple #[y36,q34_2])) noX) ret))
noncomputable def Zas.l1 (Γ : Zc) (s0 s1 s21 s22 s23 : Value) : M Out:=
 bind (bop .int .lss s23 s22) fun y4=>
 cnd y4
 (bind (ixa 1 s21 s23) fun y5=>
 bind (ld1 y5) fun y6=>
 bind (Γ QP [y6]) fun y7=>
 bind (uop .not y7) fun y8=>
 cnd y8
 (ret (.ret (Value.int .i64 10)))
 (bind (bop .int .add s23 (Value.int .i64 1)) fun y9=>
 ret (.nrm [s0,s1,s21,s22,y9])))
 (ret (.ext 0 [s0,s1]))
noncomputable def Zas.l2 (Γ : Zc) (s0 s1 s31 s32 s33 : Value) : M Out:=
 bind (bop .int .lss s33 s32) fun y13=>
 cnd y13
 (bind (ixa 1 s31 s33) fun y14=>
 bind (ld1 y14) fun y15=>
 bind (bop .int .gtr s33 (Value.int .i64 0)) fun y16=>
 bind (ZG y16 true 7 (bind (bop .int .sub s33 (Value.int .i64 1)) fun y17=>
 bind (ixa 1 s1 y17) fun y18=>
 bind (ld1 y18) fun y19=>
 bind (bop .str .geq y19 y15) fun y20=>
 ret [s1,s33,y17,y18,y19,y15,y20])) (c7 fun _ _ _ _ _ _ q21_6=>
 bind (pick y16 q21_6 (Value.bool false)) fun y22=>
 cnd y22
 (ret (.ret (Value.int .i64 9)))
 (bind (bop .int .add s33 (Value.int .i64 1)) fun y23=>
 ret (.nrm [s0,s1,s31,s32,y23]))))
 (ret (.ext 2 [s0,s1]))
noncomputable def Zas.l4 (Γ : Zc) (s0 s1 s10 s11 s53 s54 s55 s61 s62 s63 : Value) : M Out:=
 bind (bop .int .lss s63 s62) fun y36=>
 cnd y36
 (bind (ixa 1 s61 s63) fun y37=>
 bind (ld1 y37) fun y38=>
 bind (Γ K3 [s1,y38]) fun y39=>
 bind (uop .not y39) fun y40=>
 cnd y40
 (ret (.ret (Value.int .i64 8)))
 (bind (bop .int .add s63 (Value.int .i64 1)) fun y41=>
 ret (.nrm [s0,s1,s10,s11,s53,s54,s55,s61,s62,y41])))
 (ret (.ext 6 [s0,s1,s10,s11,s53,s54,s55]))
noncomputable def Zas.l5 (Γ : Zc) (s0 s1 s11 s53 s54 s55 s74 s75 s76 : Value) : M Out:=
 bind (bop .int .lss s76 s75) fun y46=>
 cnd y46
 (bind (ixa 5 s74 s76) fun y47=>
 bind (ldA 5 y47) fun y48=>
 bind (alc 1 (.agg #[.string ⟨#[]⟩,.string ⟨#[]⟩,.string ⟨#[]⟩,.bool false,.slice none 0 0])) fun y49=>
 bind (stA 5 y49 y48) fun _=>
 bind (fa 2 s11) fun y50=>
 bind (ld1 y50) fun y51=>
 bind (bop .str .neq y51 (Value.string ⟨#[]⟩)) fun y52=>
 bind (ZG y52 true 5 (bind (fa 2 s11) fun y53=>
 bind (ld1 y53) fun y54=>
 bind (fa 2 y49) fun y55=>
 bind (ld1 y55) fun y56=>
 bind (bop .str .eql y54 y56) fun y57=>
 ret [y53,y54,y55,y56,y57])) (c5 fun _ _ _ _ q58_4=>
 bind (pick y52 q58_4 (Value.bool false)) fun y59=>
 cnd y59
 (ret (.ret (Value.int .i64 9)))
 (bind (bop .int .add s76 (Value.int .i64 1)) fun y60=>
 ret (.nrm [s0,s1,s11,s53,s54,s55,s74,s75,y60]))))
 (ret (.ext 8 [s0,s1,s53,s54,s55]))
noncomputable def Zas.l3 (Γ : Zc) (s0 s1 s53 s54 s55 : Value) : M Out:=
 bind (bop .int .lss s55 s54) fun y29=>
 cnd y29
 (bind (ixa 5 s53 s55) fun y30=>
 bind (ldA 5 y30) fun y31=>
 bind (alc 1 (.agg #[.string ⟨#[]⟩,.string ⟨#[]⟩,.string ⟨#[]⟩,.bool false,.slice none 0 0])) fun y32=>
 bind (stA 5 y32 y31) fun _=>
 bind (fa 4 y32) fun y33=>
 bind (ld1 y33) fun y34=>
 bind (Zx y34) fun y35=>
 jn (Zi (c10 (Zas.l4 Γ)) [s0,s1,s55,y32,s53,s54,s55,y34,y35,(Value.int .i64 0)]) noN (xk 6 (c7 fun q43_0 q43_1 q43_2 q43_3 q43_4 q43_5 q43_6=>
 bind (slv 5 q43_0 none (some q43_2) none) fun y44=>
 bind (Zx y44) fun y45=>
 jn (Zi (c9 (Zas.l5 Γ)) [q43_0,q43_1,q43_3,q43_4,q43_5,q43_6,y44,y45,(Value.int .i64 0)]) noN (xk 8 (c5 fun q62_0 q62_1 q62_2 q62_3 q62_4=>
 bind (bop .int .add q62_4 (Value.int .i64 1)) fun y63=>
 ret (.nrm [q62_0,q62_1,q62_2,q62_3,y63])) noX) Z5) noX) Z5)
 (ret (.ext 4 []))
noncomputable def Zas (Γ : Zc) (x0 x1 : Value) : M Value:=
 bind (Γ ZrV [x0,(Value.int .i64 2)]) fun y1=>
 bind (bop .int .neq y1 (Value.int .i64 0)) fun y2=>
 cnd y2
 (ret y1)
 (bind (Zx x1) fun y3=>
 jn (Zi (c5 (Zas.l1 Γ)) [x0,x1,x1,y3,(Value.int .i64 0)]) noN (xk 0 (c2 fun q11_0 q11_1=>
 bind (Zx q11_1) fun y12=>
 jn (Zi (c5 (Zas.l2 Γ)) [q11_0,q11_1,q11_1,y12,(Value.int .i64 0)]) noN (xk 2 (c2 fun q25_0 q25_1=>
 bind (Zx q25_1) fun y26=>
 bind (bop .int .gtr y26 (Value.int .i64 6)) fun y27=>
 cnd y27
 (ret (Value.int .i64 7))
 (bind (Zx q25_0) fun y28=>
 jn (Zi (c5 (Zas.l3 Γ)) [q25_0,q25_1,q25_0,y28,(Value.int .i64 0)]) noN (xk 4 (c0 (ret (Value.int .i64 0))) noX) ret)) noX) ret) noX) ret)
noncomputable def Zgo (Γ : Zc) (x0 x1 x2 : Value) : M Value:=
 bind (alc 1 x0) fun y1=>
 bind (alc 1 (.agg #[.slice none 0 0,.slice none 0 0])) fun y2=>
 bind (fa 0 y1) fun y3=>
 bind (ld1 y3) fun y4=>
 bind (Γ Za8 [y4,x1,x2]) fun y5=>
 bind (Zo y5 0) fun y6=>
 bind (Zo y5 1) fun y7=>
 bind (fa 0 y1) fun y8=>
 bind (st1 y8 y6) fun _=>
 bind (ldA 2 y1) fun y9=>
 bind (stA 2 y2 y9) fun _=>
 bind (ldA 2 y2) fun y10=>
 ret (Value.tuple #[y10,y7])
theorem ZpO : RA3 Zcr Zgo:=ra3 Tryz.func65 (by kernel_rfl) fun _ _ _ _=>by kernel_rfl
noncomputable def ZaK (Γ : Zc) (x0 x1 x2 : Value) : M Value:=
 bind (Γ Q4 [x0,x1]) fun y1=>
 bind (Zo y1 0) fun y2=>
 bind (Zo y1 1) fun y3=>
 bind (alc 1 (.agg #[.string ⟨#[]⟩,.bool false])) fun y4=>
 bind (stA 2 y4 y2) fun _=>
 bind (bop .int .eql y3 (Value.int .i64 10)) fun y5=>
 cnd y5
 (ret y3)
 (bind (Γ WH [x2]) fun y6=>
 bind (bop .int .neq y6 (Value.int .i64 0)) fun y7=>
 cnd y7
 (ret (Value.int .i64 4))
 (bind (bop .int .eql y3 (Value.int .i64 0)) fun y8=>
 cnd y8
 (ret (Value.int .i64 9))
 (bind (Qe x0) fun y9=>
 bind (fa 0 y9) fun y10=>
 bind (ld1 y10) fun y11=>
 bind (lenM y11) fun y12=>
 bind (bop .int .geq y12 (Value.int .i64 12)) fun y13=>
 cnd y13
 (ret (Value.int .i64 7))
 (bind (Qe x0) fun y14=>
 bind (fa 0 y14) fun y15=>
 bind (ld1 y15) fun y16=>
 bind (bld (.agg #[.string ⟨#[]⟩,.bool false]) [(0,1,x2)]) fun y17=>
 bind (mup .str y16 x1 y17) fun _=>
 ret (Value.int .i64 0)))))
theorem Zk9 : RA3 Kc ZaK:=ra3 Tryz.func66 (by kernel_rfl) fun _ _ _ _=>by kernel_rfl
noncomputable def Zgq (Γ : Zc) (x0 x1 : Value) : M Value:=
 bind (alc 1 x0) fun y1=>
 bind (alc 1 (.agg #[.slice none 0 0,.slice none 0 0])) fun y2=>
 bind (fa 0 y1) fun y3=>
 bind (ld1 y3) fun y4=>
 bind (Γ Za9 [y4,x1]) fun y5=>
 bind (Zo y5 0) fun y6=>
 bind (Zo y5 1) fun y7=>
 bind (fa 0 y1) fun y8=>
 bind (st1 y8 y6) fun _=>
 bind (ldA 2 y1) fun y9=>
 bind (stA 2 y2 y9) fun _=>
 bind (ldA 2 y2) fun y10=>
 ret (Value.tuple #[y10,y7])
theorem Zqp : RA2 Zcx Zgq:=ra2 Tryz.func67 (by kernel_rfl) fun _ _ _=>by kernel_rfl
noncomputable def ZaY (Γ : Zc) (x0 x1 : Value) : M Value:=
 bind (Γ Q4 [x0,x1]) fun y1=>
 bind (Zo y1 0) fun y2=>
 bind (Zo y1 1) fun y3=>
 bind (alc 1 (.agg #[.string ⟨#[]⟩,.bool false])) fun y4=>
 bind (stA 2 y4 y2) fun _=>
 bind (bop .int .neq y3 (Value.int .i64 0)) fun y5=>
 cnd y5
 (ret y3)
 (bind (Qe x0) fun y6=>
 bind (fa 0 y6) fun y7=>
 bind (ld1 y7) fun y8=>
 bind (mde .str y8 x1) fun _=>
 bind (Qe x0) fun y9=>
 bind (fa 1 y9) fun y10=>
 bind (ld1 y10) fun y11=>
 bind (Γ JE [y11,x1]) fun y12=>
 bind (Qe x0) fun y13=>
 bind (fa 2 y13) fun y14=>
 bind (ld1 y14) fun y15=>
 bind (Γ Wx [y15,x1]) fun y16=>
 ret (Value.int .i64 0))
theorem ZlU : RA2 Y9 ZaY:=ra2 Tryz.func68 (by kernel_rfl) fun _ _ _=>by kernel_rfl
noncomputable def ZbV (Γ : Zc) (x0 x1 x2 : Value) : M Value:=
 bind (alc 1 x0) fun y1=>
 bind (alc 1 (.agg #[.slice none 0 0,.slice none 0 0])) fun y2=>
 bind (ldA 2 y1) fun y3=>
 bind (Γ Yc [y3,x1]) fun y4=>
 bind (Zo y4 0) fun y5=>
 bind (Zo y4 1) fun y6=>
 bind (alc 1 (.agg #[.string ⟨#[]⟩,.string ⟨#[]⟩,.string ⟨#[]⟩,.bool false,.slice none 0 0])) fun y7=>
 bind (stA 5 y7 y5) fun _=>
 bind (bop .int .eql y6 (Value.int .i64 10)) fun y8=>
 cnd y8
 (bind (ldA 2 y1) fun y9=>
 bind (stA 2 y2 y9) fun _=>
 bind (ldA 2 y2) fun y10=>
 ret (Value.tuple #[y10,y6]))
 (bind (Γ Zaw [x2]) fun y11=>
 bind (uop .not y11) fun y12=>
 cnd y12
 (bind (ldA 2 y1) fun y13=>
 bind (stA 2 y2 y13) fun _=>
 bind (ldA 2 y2) fun y14=>
 ret (Value.tuple #[y14,(Value.int .i64 4)]))
 (bind (bop .int .neq y6 (Value.int .i64 0)) fun y15=>
 cnd y15
 (bind (ldA 2 y1) fun y16=>
 bind (stA 2 y2 y16) fun _=>
 bind (ldA 2 y2) fun y17=>
 ret (Value.tuple #[y17,y6]))
 (bind (fa 3 y7) fun y18=>
 bind (ld1 y18) fun y19=>
 cnd y19
 (bind (ldA 2 y1) fun y20=>
 bind (stA 2 y2 y20) fun _=>
 bind (ldA 2 y2) fun y21=>
 ret (Value.tuple #[y21,(Value.int .i64 12)]))
 (bind (fa 1 y7) fun y22=>
 bind (st1 y22 x2) fun _=>
 bind (ldA 2 y1) fun y23=>
 bind (ldA 5 y7) fun y24=>
 bind (Γ WM [y23,y24]) fun y25=>
 bind (stA 2 y2 y25) fun _=>
 bind (ldA 2 y2) fun y26=>
 ret (Value.tuple #[y26,(Value.int .i64 0)])))))
theorem ZoD : RA3 Zaz ZbV:=ra3 Tryz.func69 (by kernel_rfl) fun _ _ _ _=>by kernel_rfl
noncomputable def W7 (Γ : Zc) (x0 x1 x2 : Value) : M Value:=
 bind (Γ Q4 [x0,x1]) fun y1=>
 bind (Zo y1 0) fun y2=>
 bind (Zo y1 1) fun y3=>
 bind (alc 1 (.agg #[.string ⟨#[]⟩,.bool false])) fun y4=>
 bind (stA 2 y4 y2) fun _=>
 bind (bop .int .eql y3 (Value.int .i64 10)) fun y5=>
 cnd y5
 (ret y3)
 (bind (Γ WH [x2]) fun y6=>
 bind (bop .int .neq y6 (Value.int .i64 0)) fun y7=>
 cnd y7
 (ret (Value.int .i64 4))
 (bind (bop .int .neq y3 (Value.int .i64 0)) fun y8=>
 cnd y8
 (ret y3)
 (bind (fa 1 y4) fun y9=>
 bind (ld1 y9) fun y10=>
 cnd y10
 (ret (Value.int .i64 12))
 (bind (fa 0 y4) fun y11=>
 bind (st1 y11 x2) fun _=>
 bind (Qe x0) fun y12=>
 bind (fa 0 y12) fun y13=>
 bind (ld1 y13) fun y14=>
 bind (ldA 2 y4) fun y15=>
 bind (mup .str y14 x1 y15) fun _=>
 ret (Value.int .i64 0)))))
theorem Zki : RA3 Wg W7:=ra3 Tryz.func70 (by kernel_rfl) fun _ _ _ _=>by kernel_rfl
noncomputable def Qz.l1 (Γ : Zc) (s1 s3 s6 s8 s10 s41 s42 s43 : Value) : M Out:=
 bind (bop .int .lss s43 s42) fun y26=>
 cnd y26
 (bind (ixa 5 s41 s43) fun y27=>
 bind (ldA 5 y27) fun y28=>
 bind (alc 1 (.agg #[.string ⟨#[]⟩,.string ⟨#[]⟩,.string ⟨#[]⟩,.bool false,.slice none 0 0])) fun y29=>
 bind (stA 5 y29 y28) fun _=>
 bind (bop .str .neq s10 (Value.string ⟨#[]⟩)) fun y30=>
 bind (ZG y30 true 4 (bind (fa 2 y29) fun y31=>
 bind (ld1 y31) fun y32=>
 bind (bop .str .eql y32 s10) fun y33=>
 ret [y31,y32,s10,y33])) (c4 fun _ _ _ q34_3=>
 bind (pick y30 q34_3 (Value.bool false)) fun y35=>
 bind (ZG y35 true 4 (bind (fa 0 y29) fun y36=>
 bind (ld1 y36) fun y37=>
 bind (bop .str .neq y37 s1) fun y38=>
 ret [y36,y37,s1,y38])) (c4 fun _ _ _ q39_3=>
 bind (pick y35 q39_3 (Value.bool false)) fun y40=>
 cnd y40
 (bind (ldA 2 s3) fun y41=>
 bind (stA 2 s6 y41) fun _=>
 bind (ldA 2 s6) fun y42=>
 ret (.ret (Value.tuple #[y42,(Value.int .i64 9)])))
 (bind (bop .int .add s43 (Value.int .i64 1)) fun y43=>
 ret (.nrm [s1,s3,s6,s8,s10,s41,s42,y43])))))
 (ret (.ext 0 [s3,s6,s8,s10]))
noncomputable def Qz (Γ : Zc) (x0 x1 x2 : Value) : M Value:=
 bind (alc 1 x0) fun y1=>
 bind (alc 1 (.agg #[.slice none 0 0,.slice none 0 0])) fun y2=>
 bind (ldA 2 y1) fun y3=>
 bind (Γ Yc [y3,x1]) fun y4=>
 bind (Zo y4 0) fun y5=>
 bind (Zo y4 1) fun y6=>
 bind (alc 1 (.agg #[.string ⟨#[]⟩,.string ⟨#[]⟩,.string ⟨#[]⟩,.bool false,.slice none 0 0])) fun y7=>
 bind (stA 5 y7 y5) fun _=>
 bind (Γ Zby [x2]) fun y8=>
 bind (Zo y8 0) fun y9=>
 bind (Zo y8 1) fun y10=>
 bind (bop .int .eql y6 (Value.int .i64 10)) fun y11=>
 cnd y11
 (bind (ldA 2 y1) fun y12=>
 bind (stA 2 y2 y12) fun _=>
 bind (ldA 2 y2) fun y13=>
 ret (Value.tuple #[y13,y6]))
 (bind (bop .str .neq x2 (Value.string ⟨#[]⟩)) fun y14=>
 bind (ZG y14 true 2 (bind (uop .not y10) fun y15=>
 ret [y10,y15])) (c2 fun _ q16_1=>
 bind (pick y14 q16_1 (Value.bool false)) fun y17=>
 cnd y17
 (bind (ldA 2 y1) fun y18=>
 bind (stA 2 y2 y18) fun _=>
 bind (ldA 2 y2) fun y19=>
 ret (Value.tuple #[y19,(Value.int .i64 11)]))
 (bind (bop .int .neq y6 (Value.int .i64 0)) fun y20=>
 cnd y20
 (bind (ldA 2 y1) fun y21=>
 bind (stA 2 y2 y21) fun _=>
 bind (ldA 2 y2) fun y22=>
 ret (Value.tuple #[y22,y6]))
 (bind (fa 0 y1) fun y23=>
 bind (ld1 y23) fun y24=>
 bind (Zx y24) fun y25=>
 jn (Zi (c8 (Qz.l1 Γ)) [x1,y1,y2,y7,y9,y24,y25,(Value.int .i64 0)]) noN (xk 0 (c4 fun q45_0 q45_1 q45_2 q45_3=>
 bind (fa 2 q45_2) fun y46=>
 bind (st1 y46 q45_3) fun _=>
 bind (ldA 2 q45_0) fun y47=>
 bind (ldA 5 q45_2) fun y48=>
 bind (Γ WM [y47,y48]) fun y49=>
 bind (stA 2 q45_1 y49) fun _=>
 bind (ldA 2 q45_1) fun y50=>
 ret (Value.tuple #[y50,(Value.int .i64 0)])) noX) ret))))
theorem Zoa : RA3 ZaD Qz:=ra3 Tryz.func71 (by kernel_rfl) fun _ _ _ _=>by kernel_rfl
noncomputable def Km (Γ : Zc) (x0 x1 x2 : Value) : M Value:=
 bind (Γ Q4 [x0,x1]) fun y1=>
 bind (Zo y1 0) fun y2=>
 bind (Zo y1 1) fun y3=>
 bind (alc 1 (.agg #[.string ⟨#[]⟩,.bool false])) fun y4=>
 bind (stA 2 y4 y2) fun _=>
 bind (Γ Zbp [x2]) fun y5=>
 bind (Zo y5 0) fun y6=>
 bind (Zo y5 1) fun y7=>
 bind (bop .int .eql y3 (Value.int .i64 10)) fun y8=>
 cnd y8
 (ret y3)
 (bind (bop .str .neq x2 (Value.string ⟨#[]⟩)) fun y9=>
 bind (ZG y9 true 2 (bind (bop .int .neq y7 (Value.int .i64 0)) fun y10=>
 ret [y7,y10])) (c2 fun _ q11_1=>
 bind (pick y9 q11_1 (Value.bool false)) fun y12=>
 cnd y12
 (ret y7)
 (bind (bop .int .neq y3 (Value.int .i64 0)) fun y13=>
 cnd y13
 (ret y3)
 (bind (Qe x0) fun y14=>
 bind (fa 1 y14) fun y15=>
 bind (ld1 y15) fun y16=>
 bind (Γ Kf [y16,x1,x2]) fun y17=>
 ret y17))))
theorem Zko : RA3 YH Km:=ra3 Tryz.func72 (by kernel_rfl) fun _ _ _ _=>by kernel_rfl
noncomputable def ZaF (Γ : Zc) (x0 x1 x2 : Value) : M Value:=
 bind (alc 1 x0) fun y1=>
 bind (alc 1 (.agg #[.slice none 0 0,.slice none 0 0])) fun y2=>
 bind (ldA 2 y1) fun y3=>
 bind (Γ Yc [y3,x1]) fun y4=>
 bind (Zo y4 0) fun y5=>
 bind (Zo y4 1) fun y6=>
 bind (alc 1 (.agg #[.string ⟨#[]⟩,.string ⟨#[]⟩,.string ⟨#[]⟩,.bool false,.slice none 0 0])) fun y7=>
 bind (stA 5 y7 y5) fun _=>
 bind (bop .int .neq y6 (Value.int .i64 0)) fun y8=>
 cnd y8
 (bind (ldA 2 y1) fun y9=>
 bind (stA 2 y2 y9) fun _=>
 bind (ldA 2 y2) fun y10=>
 ret (Value.tuple #[y10,y6]))
 (bind (fa 3 y7) fun y11=>
 bind (ld1 y11) fun y12=>
 bind (bop .bool .eql y12 x2) fun y13=>
 cnd y13
 (bind (ldA 2 y1) fun y14=>
 bind (stA 2 y2 y14) fun _=>
 bind (ldA 2 y2) fun y15=>
 ret (Value.tuple #[y15,(Value.int .i64 12)]))
 (bind (fa 3 y7) fun y16=>
 bind (st1 y16 x2) fun _=>
 bind (ldA 2 y1) fun y17=>
 bind (ldA 5 y7) fun y18=>
 bind (Γ WM [y17,y18]) fun y19=>
 bind (stA 2 y2 y19) fun _=>
 bind (ldA 2 y2) fun y20=>
 ret (Value.tuple #[y20,(Value.int .i64 0)])))
theorem Zos : RA3 ZaE ZaF:=ra3 Tryz.func73 (by kernel_rfl) fun _ _ _ _=>by kernel_rfl
noncomputable def Wn (Γ : Zc) (x0 x1 x2 : Value) : M Value:=
 bind (Γ Q4 [x0,x1]) fun y1=>
 bind (Zo y1 0) fun y2=>
 bind (Zo y1 1) fun y3=>
 bind (alc 1 (.agg #[.string ⟨#[]⟩,.bool false])) fun y4=>
 bind (stA 2 y4 y2) fun _=>
 bind (bop .int .neq y3 (Value.int .i64 0)) fun y5=>
 cnd y5
 (ret y3)
 (bind (fa 1 y4) fun y6=>
 bind (ld1 y6) fun y7=>
 bind (bop .bool .eql y7 x2) fun y8=>
 cnd y8
 (ret (Value.int .i64 12))
 (bind (fa 1 y4) fun y9=>
 bind (st1 y9 x2) fun _=>
 bind (Qe x0) fun y10=>
 bind (fa 0 y10) fun y11=>
 bind (ld1 y11) fun y12=>
 bind (ldA 2 y4) fun y13=>
 bind (mup .str y12 x1 y13) fun _=>
 ret (Value.int .i64 0)))
theorem Zky : RA3 Wk Wn:=ra3 Tryz.func74 (by kernel_rfl) fun _ _ _ _=>by kernel_rfl
noncomputable def Zcs (Γ : Zc) (x0 x1 x2 : Value) : M Value:=
 bind (alc 1 x0) fun y1=>
 bind (alc 1 (.agg #[.slice none 0 0,.slice none 0 0])) fun y2=>
 bind (ldA 2 y1) fun y3=>
 bind (Γ Yc [y3,x1]) fun y4=>
 bind (Zo y4 0) fun y5=>
 bind (Zo y4 1) fun y6=>
 bind (alc 1 (.agg #[.string ⟨#[]⟩,.string ⟨#[]⟩,.string ⟨#[]⟩,.bool false,.slice none 0 0])) fun y7=>
 bind (stA 5 y7 y5) fun _=>
 bind (ldA 2 y1) fun y8=>
 bind (Γ Yc [y8,x2]) fun y9=>
 bind (Zo y9 0) fun y10=>
 bind (Zo y9 1) fun y11=>
 bind (alc 1 (.agg #[.string ⟨#[]⟩,.string ⟨#[]⟩,.string ⟨#[]⟩,.bool false,.slice none 0 0])) fun y12=>
 bind (stA 5 y12 y10) fun _=>
 bind (bop .int .eql y6 (Value.int .i64 10)) fun y13=>
 bind (ZG y13 false 2 (bind (bop .int .eql y11 (Value.int .i64 10)) fun y14=>
 ret [y11,y14])) (c2 fun _ q15_1=>
 bind (pick y13 (Value.bool true) q15_1) fun y16=>
 cnd y16
 (bind (ldA 2 y1) fun y17=>
 bind (stA 2 y2 y17) fun _=>
 bind (ldA 2 y2) fun y18=>
 ret (Value.tuple #[y18,(Value.int .i64 10)]))
 (bind (bop .int .neq y6 (Value.int .i64 0)) fun y19=>
 cnd y19
 (bind (ldA 2 y1) fun y20=>
 bind (stA 2 y2 y20) fun _=>
 bind (ldA 2 y2) fun y21=>
 ret (Value.tuple #[y21,y6]))
 (bind (bop .int .eql y11 (Value.int .i64 0)) fun y22=>
 cnd y22
 (bind (ldA 2 y1) fun y23=>
 bind (stA 2 y2 y23) fun _=>
 bind (ldA 2 y2) fun y24=>
 ret (Value.tuple #[y24,(Value.int .i64 9)]))
 (bind (fa 0 y7) fun y25=>
 bind (st1 y25 x2) fun _=>
 bind (fa 0 y1) fun y26=>
 bind (ld1 y26) fun y27=>
 bind (ldA 5 y7) fun y28=>
 bind (Γ ZbB [y27,x1]) fun y29=>
 bind (ldA 5 y7) fun u_30=>same u_30 y28 <|
 bind (Γ Zag [y29,y28]) fun y31=>
 bind (fa 0 y1) fun y32=>
 bind (st1 y32 y31) fun _=>
 bind (ldA 2 y1) fun y33=>
 bind (stA 2 y2 y33) fun _=>
 bind (ldA 2 y2) fun y34=>
 ret (Value.tuple #[y34,(Value.int .i64 0)])))))
theorem Zpl : RA3 Zbd Zcs:=ra3 Tryz.func75 (by kernel_rfl) fun _ _ _ _=>by kernel_rfl
noncomputable def ZaI (Γ : Zc) (x0 x1 x2 : Value) : M Value:=
 bind (Γ Q4 [x0,x1]) fun y1=>
 bind (Zo y1 0) fun y2=>
 bind (Zo y1 1) fun y3=>
 bind (alc 1 (.agg #[.string ⟨#[]⟩,.bool false])) fun y4=>
 bind (stA 2 y4 y2) fun _=>
 bind (Γ Q4 [x0,x2]) fun y5=>
 bind (Zo y5 0) fun y6=>
 bind (Zo y5 1) fun y7=>
 bind (alc 1 (.agg #[.string ⟨#[]⟩,.bool false])) fun y8=>
 bind (stA 2 y8 y6) fun _=>
 bind (bop .int .eql y3 (Value.int .i64 10)) fun y9=>
 bind (ZG y9 false 2 (bind (bop .int .eql y7 (Value.int .i64 10)) fun y10=>
 ret [y7,y10])) (c2 fun _ q11_1=>
 bind (pick y9 (Value.bool true) q11_1) fun y12=>
 cnd y12
 (ret (Value.int .i64 10))
 (bind (bop .int .neq y3 (Value.int .i64 0)) fun y13=>
 cnd y13
 (ret y3)
 (bind (bop .int .eql y7 (Value.int .i64 0)) fun y14=>
 cnd y14
 (ret (Value.int .i64 9))
 (bind (Qe x0) fun y15=>
 bind (fa 0 y15) fun y16=>
 bind (ld1 y16) fun y17=>
 bind (mde .str y17 x1) fun _=>
 bind (Qe x0) fun y18=>
 bind (fa 0 y18) fun y19=>
 bind (ld1 y19) fun y20=>
 bind (ldA 2 y4) fun y21=>
 bind (mup .str y20 x2 y21) fun _=>
 bind (Qe x0) fun y22=>
 bind (fa 1 y22) fun y23=>
 bind (ld1 y23) fun y24=>
 bind (Γ Wl [y24,x1,x2]) fun y25=>
 bind (Qe x0) fun y26=>
 bind (fa 2 y26) fun y27=>
 bind (ld1 y27) fun y28=>
 bind (Γ Ks [y28,x1,x2]) fun y29=>
 ret (Value.int .i64 0)))))
theorem Zli : RA3 WB ZaI:=ra3 Tryz.func76 (by kernel_rfl) fun _ _ _ _=>by kernel_rfl
noncomputable def Zef (Γ : Zc) (x0 x1 : Value) : M Value:=
 bind (alc 1 x0) fun y1=>
 bind (alc 1 (.agg #[.slice none 0 0,.slice none 0 0])) fun y2=>
 bind (fa 1 y1) fun y3=>
 bind (ld1 y3) fun y4=>
 bind (bld (.agg #[.slice none 0 0,.slice none 0 0]) [(0,1,y4)]) fun y5=>
 bind (Γ ZdP [y5,x1]) fun y6=>
 bind (Zo y6 0) fun y7=>
 bind (Zo y6 1) fun y8=>
 bind (alc 1 (.agg #[.slice none 0 0,.slice none 0 0])) fun y9=>
 bind (stA 2 y9 y7) fun _=>
 bind (fa 0 y9) fun y10=>
 bind (ld1 y10) fun y11=>
 bind (fa 1 y1) fun y12=>
 bind (st1 y12 y11) fun _=>
 bind (ldA 2 y1) fun y13=>
 bind (stA 2 y2 y13) fun _=>
 bind (ldA 2 y2) fun y14=>
 ret (Value.tuple #[y14,y8])
theorem Zlv : RA2 ZaW Zef:=ra2 Tryz.func77 (by kernel_rfl) fun _ _ _=>by kernel_rfl
noncomputable def ZcG (Γ : Zc) (x0 x1 : Value) : M Value:=
 bind (Qe x0) fun y1=>
 bind (fa 2 y1) fun y2=>
 bind (ld1 y2) fun y3=>
 bind (Γ Yk [y3,x1]) fun y4=>
 ret y4
theorem ZiO : RA2 Wu ZcG:=ra2 Tryz.func78 (by kernel_rfl) fun _ _ _=>by kernel_rfl
noncomputable def JI.l1 (Γ : Zc) (s1 s2 s4 s8 s27 s28 s29 : Value) : M Out:=
 bind (bop .int .lss s29 s28) fun y19=>
 cnd y19
 (bind (ixa 5 s27 s29) fun y20=>
 bind (ldA 5 y20) fun y21=>
 bind (alc 1 (.agg #[.string ⟨#[]⟩,.string ⟨#[]⟩,.string ⟨#[]⟩,.bool false,.slice none 0 0])) fun y22=>
 bind (stA 5 y22 y21) fun _=>
 bind (fa 4 y22) fun y23=>
 bind (ld1 y23) fun y24=>
 bind (Γ ZaA [y24,s1]) fun y25=>
 bind (fa 4 y22) fun y26=>
 bind (st1 y26 y25) fun _=>
 bind (ldA 5 y22) fun y27=>
 bind (bsl 5 1 (.agg #[.string ⟨#[]⟩,.string ⟨#[]⟩,.string ⟨#[]⟩,.bool false,.slice none 0 0]) [(0,5,y27)]) fun y28=>
 bind (app 5 80 s8 y28) fun y29=>
 bind (bop .int .add s29 (Value.int .i64 1)) fun y30=>
 ret (.nrm [s1,s2,s4,y29,s27,s28,y30]))
 (ret (.ext 0 [s2,s4,s8]))
noncomputable def JI (Γ : Zc) (x0 x1 : Value) : M Value:=
 bind (alc 1 x0) fun y1=>
 bind (alc 1 (.agg #[.slice none 0 0,.slice none 0 0])) fun y2=>
 bind (fa 1 y1) fun y3=>
 bind (ld1 y3) fun y4=>
 bind (bld (.agg #[.slice none 0 0,.slice none 0 0]) [(0,1,y4)]) fun y5=>
 bind (Γ ZdK [y5,x1]) fun y6=>
 bind (Zo y6 0) fun y7=>
 bind (Zo y6 1) fun y8=>
 bind (alc 1 (.agg #[.slice none 0 0,.slice none 0 0])) fun y9=>
 bind (stA 2 y9 y7) fun _=>
 bind (bop .int .neq y8 (Value.int .i64 0)) fun y10=>
 cnd y10
 (bind (ldA 2 y1) fun y11=>
 bind (stA 2 y2 y11) fun _=>
 bind (ldA 2 y2) fun y12=>
 ret (Value.tuple #[y12,y8]))
 (bind (fa 0 y9) fun y13=>
 bind (ld1 y13) fun y14=>
 bind (fa 1 y1) fun y15=>
 bind (st1 y15 y14) fun _=>
 bind (fa 0 y1) fun y16=>
 bind (ld1 y16) fun y17=>
 bind (Zx y17) fun y18=>
 jn (Zi (c7 (JI.l1 Γ)) [x1,y1,y2,(Value.slice none 0 0),y17,y18,(Value.int .i64 0)]) noN (xk 0 (c3 fun q32_0 q32_1 q32_2=>
 bind (fa 0 q32_0) fun y33=>
 bind (st1 y33 q32_2) fun _=>
 bind (ldA 2 q32_0) fun y34=>
 bind (stA 2 q32_1 y34) fun _=>
 bind (ldA 2 q32_1) fun y35=>
 ret (Value.tuple #[y35,(Value.int .i64 0)])) noX) ret)
theorem ZlW : RA2 WA JI:=ra2 Tryz.func79 (by kernel_rfl) fun _ _ _=>by kernel_rfl
noncomputable def ZcH (Γ : Zc) (x0 x1 : Value) : M Value:=
 bind (Qe x0) fun y1=>
 bind (fa 2 y1) fun y2=>
 bind (ld1 y2) fun y3=>
 bind (Γ Wi [y3,x1]) fun y4=>
 ret y4
theorem Zir : RA2 YJ ZcH:=ra2 Tryz.func80 (by kernel_rfl) fun _ _ _=>by kernel_rfl
noncomputable def ZcC (Γ : Zc) (x0 x1 x2 : Value) : M Value:=
 bind (alc 1 x0) fun y1=>
 bind (alc 1 (.agg #[.slice none 0 0,.slice none 0 0])) fun y2=>
 bind (ldA 2 y1) fun y3=>
 bind (Γ Zba [y3,x1,x2]) fun y4=>
 bind (Zo y4 0) fun y5=>
 bind (Zo y4 1) fun y6=>
 bind (alc 1 (.agg #[.string ⟨#[]⟩,.string ⟨#[]⟩,.string ⟨#[]⟩,.bool false,.slice none 0 0])) fun y7=>
 bind (stA 5 y7 y5) fun _=>
 bind (bop .int .neq y6 (Value.int .i64 0)) fun y8=>
 cnd y8
 (bind (ldA 2 y1) fun y9=>
 bind (stA 2 y2 y9) fun _=>
 bind (ldA 2 y2) fun y10=>
 ret (Value.tuple #[y10,y6]))
 (bind (fa 4 y7) fun y11=>
 bind (ld1 y11) fun y12=>
 bind (Γ K3 [y12,x1]) fun y13=>
 cnd y13
 (bind (ldA 2 y1) fun y14=>
 bind (stA 2 y2 y14) fun _=>
 bind (ldA 2 y2) fun y15=>
 ret (Value.tuple #[y15,(Value.int .i64 9)]))
 (bind (bsl 1 0 (.string ⟨#[]⟩) []) fun y16=>
 bind (fa 4 y7) fun y17=>
 bind (ld1 y17) fun y18=>
 bind (app 1 16 y16 y18) fun y19=>
 bind (bsl 1 1 (.string ⟨#[]⟩) [(0,1,x1)]) fun y20=>
 bind (app 1 16 y19 y20) fun y21=>
 bind (Γ W4 [y21]) fun y22=>
 bind (fa 4 y7) fun y23=>
 bind (st1 y23 y22) fun _=>
 bind (ldA 2 y1) fun y24=>
 bind (ldA 5 y7) fun y25=>
 bind (Γ WM [y24,y25]) fun y26=>
 bind (stA 2 y2 y26) fun _=>
 bind (ldA 2 y2) fun y27=>
 ret (Value.tuple #[y27,(Value.int .i64 0)])))
theorem Zsg : RA3 Zcz ZcC:=ra3 Tryz.func81 (by kernel_rfl) fun _ _ _ _=>by kernel_rfl
noncomputable def ZbN (Γ : Zc) (x0 x1 x2 : Value) : M Value:=
 bind (Γ Wz [x0,x1,x2]) fun y1=>
 bind (bop .int .neq y1 (Value.int .i64 0)) fun y2=>
 cnd y2
 (ret y1)
 (bind (Qe x0) fun y3=>
 bind (fa 2 y3) fun y4=>
 bind (ld1 y4) fun y5=>
 bind (Γ YI [y5,x1,x2]) fun y6=>
 ret y6)
theorem ZnZ : RA3 Zay ZbN:=ra3 Tryz.func82 (by kernel_rfl) fun _ _ _ _=>by kernel_rfl
noncomputable def ZbR (Γ : Zc) (x0 x1 x2 : Value) : M Value:=
 bind (alc 1 x0) fun y1=>
 bind (alc 1 (.agg #[.slice none 0 0,.slice none 0 0])) fun y2=>
 bind (ldA 2 y1) fun y3=>
 bind (Γ Zba [y3,x1,x2]) fun y4=>
 bind (Zo y4 0) fun y5=>
 bind (Zo y4 1) fun y6=>
 bind (alc 1 (.agg #[.string ⟨#[]⟩,.string ⟨#[]⟩,.string ⟨#[]⟩,.bool false,.slice none 0 0])) fun y7=>
 bind (stA 5 y7 y5) fun _=>
 bind (bop .int .neq y6 (Value.int .i64 0)) fun y8=>
 cnd y8
 (bind (ldA 2 y1) fun y9=>
 bind (stA 2 y2 y9) fun _=>
 bind (ldA 2 y2) fun y10=>
 ret (Value.tuple #[y10,y6]))
 (bind (fa 4 y7) fun y11=>
 bind (ld1 y11) fun y12=>
 bind (Γ K3 [y12,x1]) fun y13=>
 bind (uop .not y13) fun y14=>
 cnd y14
 (bind (ldA 2 y1) fun y15=>
 bind (stA 2 y2 y15) fun _=>
 bind (ldA 2 y2) fun y16=>
 ret (Value.tuple #[y16,(Value.int .i64 12)]))
 (bind (fa 4 y7) fun y17=>
 bind (ld1 y17) fun y18=>
 bind (Γ ZaA [y18,x1]) fun y19=>
 bind (fa 4 y7) fun y20=>
 bind (st1 y20 y19) fun _=>
 bind (ldA 2 y1) fun y21=>
 bind (ldA 5 y7) fun y22=>
 bind (Γ WM [y21,y22]) fun y23=>
 bind (stA 2 y2 y23) fun _=>
 bind (ldA 2 y2) fun y24=>
 ret (Value.tuple #[y24,(Value.int .i64 0)])))
theorem ZqW : RA3 ZbP ZbR:=ra3 Tryz.func83 (by kernel_rfl) fun _ _ _ _=>by kernel_rfl
noncomputable def Zbg (Γ : Zc) (x0 x1 x2 : Value) : M Value:=
 bind (Γ Wz [x0,x1,x2]) fun y1=>
 bind (bop .int .neq y1 (Value.int .i64 0)) fun y2=>
 cnd y2
 (ret y1)
 (bind (Qe x0) fun y3=>
 bind (fa 2 y3) fun y4=>
 bind (ld1 y4) fun y5=>
 bind (Γ KX [y5,x1,x2]) fun y6=>
 ret y6)
theorem ZmQ : RA3 WY Zbg:=ra3 Tryz.func84 (by kernel_rfl) fun _ _ _ _=>by kernel_rfl
noncomputable def ZfF (Γ : Zc) (x0 : Value) : M Value:=
 bind (Qe x0) fun y1=>
 bind (fa 0 y1) fun y2=>
 bind (ld1 y2) fun y3=>
 bind (Qe x0) fun y4=>
 bind (fa 1 y4) fun y5=>
 bind (ld1 y5) fun y6=>
 bind (Qe x0) fun y7=>
 bind (fa 2 y7) fun y8=>
 bind (ld1 y8) fun y9=>
 bind (Γ Js [y3]) fun y10=>
 bind (ld1 y8) fun u_11=>same u_11 y9 <|
 bind (ld1 y5) fun u_12=>same u_12 y6 <|
 bind (Γ Zbv [y6]) fun y13=>
 bind (ld1 y8) fun u_14=>same u_14 y9 <|
 bind (Γ W6 [y9]) fun y15=>
 bind (bld (.agg #[.map none,.pointer none,.pointer none]) [(0,1,y10),(1,1,y13),(2,1,y15)]) fun y16=>
 bind (alc 1 y16) fun y17=>
 ret y17
theorem ZoK : RA1 Zb2 ZfF:=ra1 Tryz.func85 (by kernel_rfl) fun _ _=>by kernel_rfl
noncomputable def Zpe.l1 (Γ : Zc) (s3 s10 s11 s12 : Value) : M Out:=
 bind (bop .int .lss s12 s11) fun y5=>
 cnd y5
 (bind (ixa 1 s10 s12) fun y6=>
 bind (ld1 y6) fun y7=>
 bind (Γ Zu9 [y7]) fun y8=>
 bind (bop .str .add s3 y8) fun y9=>
 bind (bop .int .add s12 (Value.int .i64 1)) fun y10=>
 ret (.nrm [y9,s10,s11,y10]))
 (ret (.ext 0 [s3]))
noncomputable def Zpe (Γ : Zc) (x0 : Value) : M Value:=
 bind (Zx x0) fun y1=>
 bind (cvi .u64 y1) fun y2=>
 bind (Γ Zql [y2,(Value.int .i64 2)]) fun y3=>
 bind (Zx x0) fun y4=>
 jn (Zi (c4 (Zpe.l1 Γ)) [y3,x0,y4,(Value.int .i64 0)]) noN (xk 0 (c1 fun q12_0=>
 ret q12_0) noX) ret
noncomputable def Zlq.l1 (Γ : Zc) (s0 s5 s12 s13 s14 : Value) : M Out:=
 bind (bop .int .lss s14 s13) fun y5=>
 cnd y5
 (bind (ixa 5 s12 s14) fun y6=>
 bind (ldA 5 y6) fun y7=>
 bind (alc 1 (.agg #[.string ⟨#[]⟩,.string ⟨#[]⟩,.string ⟨#[]⟩,.bool false,.slice none 0 0])) fun y8=>
 bind (stA 5 y8 y7) fun _=>
 bind (ldA 5 y8) fun y9=>
 bind (Γ ZvF [s0,y9]) fun y10=>
 bind (bop .str .add s5 y10) fun y11=>
 bind (bop .int .add s14 (Value.int .i64 1)) fun y12=>
 ret (.nrm [s0,y11,s12,s13,y12]))
 (ret (.ext 0 [s5]))
noncomputable def Zlq (Γ : Zc) (x0 x1 : Value) : M Value:=
 bind (Zx x1) fun y1=>
 bind (cvi .u64 y1) fun y2=>
 bind (Γ Zql [y2,(Value.int .i64 2)]) fun y3=>
 bind (Zx x1) fun y4=>
 jn (Zi (c5 (Zlq.l1 Γ)) [x0,y3,x1,y4,(Value.int .i64 0)]) noN (xk 0 (c1 fun q14_0=>
 ret q14_0) noX) ret
noncomputable def ZeI (Γ : Zc) (x0 : Value) : M Value:=
 bind (bop .slc .eql x0 (Value.slice none 0 0)) fun y1=>
 cnd y1
 (ret (Value.slice none 0 0))
 (bind (bsl 1 0 (.int .u8 0) []) fun y2=>
 bind (app 1 1 y2 x0) fun y3=>
 ret y3)
theorem Zrs : RA1 ZbZ ZeI:=ra1 Tryz.func88 (by kernel_rfl) fun _ _=>by kernel_rfl
noncomputable def K4.l1 (Γ : Zc) (s4 s7 s29 s30 : Value) : M Out:=
 bind (bop .int .lss s30 s29) fun y13=>
 cnd y13
 (bind (Γ Zeu [s4,(Value.int .i64 1)]) fun y14=>
 bind (bsl 5 1 (.agg #[.string ⟨#[]⟩,.string ⟨#[]⟩,.string ⟨#[]⟩,.bool false,.slice none 0 0]) [(0,5,y14)]) fun y15=>
 bind (app 5 80 s7 y15) fun y16=>
 bind (bop .int .add s30 (Value.int .i64 1)) fun y17=>
 ret (.nrm [s4,y16,s29,y17]))
 (ret (.ext 0 [s4,s7]))
noncomputable def K4 (Γ : Zc) (x0 : Value) : M Value:=
 bind (Γ Zeo [x0]) fun y1=>
 bind (Γ Ko [y1]) fun y2=>
 bind (Γ QF [y1]) fun y3=>
 bind (bop .int .eql y3 (Value.int .i64 0)) fun y4=>
 bind (ZG y4 true 2 (bind (bop .int .neq y2 (Value.int .u8 1)) fun y5=>
 ret [y2,y5])) (c2 fun _ q6_1=>
 bind (pick y4 q6_1 (Value.bool false)) fun y7=>
 cnd y7
 (ret (Value.tuple #[(Value.pointer none),(Value.int .i64 6)]))
 (bind (Γ Y7 [y1]) fun y8=>
 bind (cvi .i64 y8) fun y9=>
 bind (bop .int .gtr y9 (Value.int .i64 12)) fun y10=>
 jn (cnd y10
 (bind (Γ Qk [y1,(Value.int .i64 7)]) fun y11=>
 ret (.nrm [y1,(Value.int .i64 0)]))
 (ret (.nrm [y1,y9]))) (c2 fun q12_0 q12_1=>
 jn (Zi (c4 (K4.l1 Γ)) [q12_0,(Value.slice none 0 0),q12_1,(Value.int .i64 0)]) noN (xk 0 (c2 fun q19_0 q19_1=>
 bind (Γ QF [q19_0]) fun y20=>
 bind (bop .int .neq y20 (Value.int .i64 0)) fun y21=>
 cnd y21
 (ret (Value.tuple #[(Value.pointer none),y20]))
 (bind (Γ WT [q19_1]) fun y22=>
 bind (Zo y22 0) fun y23=>
 bind (Zo y22 1) fun y24=>
 bind (bop .int .eql y24 (Value.int .i64 0)) fun y25=>
 jn (cnd y25
 (bind (Γ KH [q19_0]) fun y26=>
 ret (.nrm [y23,y26]))
 (ret (.nrm [y23,y24]))) (c2 fun q27_0 q27_1=>
 bind (bop .int .neq q27_1 (Value.int .i64 0)) fun y28=>
 cnd y28
 (ret (Value.tuple #[(Value.pointer none),q27_1]))
 (ret (Value.tuple #[q27_0,(Value.int .i64 0)]))) noX ret)) noX) ret) noX ret))
theorem Zum : RA1 Zcg K4:=ra1 Tryz.func89 (by kernel_rfl) fun _ _=>by kernel_rfl
noncomputable def ZrA.l1 (Γ : Zc) (s2 s3 s6 s7 s8 : Value) : M Out:=
 bind (bop .int .lss s8 s7) fun y3=>
 cnd y3
 (bind (ixa 5 s6 s8) fun y4=>
 bind (ldA 5 y4) fun y5=>
 bind (alc 1 (.agg #[.string ⟨#[]⟩,.string ⟨#[]⟩,.string ⟨#[]⟩,.bool false,.slice none 0 0])) fun y6=>
 bind (stA 5 y6 y5) fun _=>
 bind (fa 0 y6) fun y7=>
 bind (ld1 y7) fun y8=>
 bind (fa 1 y6) fun y9=>
 bind (ld1 y9) fun y10=>
 bind (bld (.agg #[.string ⟨#[]⟩,.string ⟨#[]⟩,.string ⟨#[]⟩,.bool false,.slice none 0 0]) [(0,1,y8),(1,1,y10)]) fun y11=>
 bind (bsl 5 1 (.agg #[.string ⟨#[]⟩,.string ⟨#[]⟩,.string ⟨#[]⟩,.bool false,.slice none 0 0]) [(0,5,y11)]) fun y12=>
 bind (app 5 80 s3 y12) fun y13=>
 bind (bop .int .add s8 (Value.int .i64 1)) fun y14=>
 ret (.nrm [s2,y13,s6,s7,y14]))
 (ret (.ext 0 [s2,s3]))
noncomputable def ZrA (Γ : Zc) (x0 : Value) : M Value:=
 bind (alc 1 (.agg #[.slice none 0 0,.slice none 0 0])) fun y1=>
 bind (Zx x0) fun y2=>
 jn (Zi (c5 (ZrA.l1 Γ)) [y1,(Value.slice none 0 0),x0,y2,(Value.int .i64 0)]) noN (xk 0 (c2 fun q16_0 q16_1=>
 bind (bld (.agg #[.slice none 0 0,.slice none 0 0]) [(0,1,q16_1)]) fun y17=>
 bind (stA 2 q16_0 y17) fun _=>
 bind (ldA 2 q16_0) fun y18=>
 ret y18) noX) ret
noncomputable def ZnY (Γ : Zc) (x0 : Value) : M Value:=
 bind (alc 1 x0) fun y1=>
 bind (alc 1 (.agg #[.string ⟨#[]⟩,.string ⟨#[]⟩,.string ⟨#[]⟩,.bool false,.slice none 0 0])) fun y2=>
 bind (fa 0 y1) fun y3=>
 bind (ld1 y3) fun y4=>
 bind (fa 1 y1) fun y5=>
 bind (ld1 y5) fun y6=>
 bind (bld (.agg #[.string ⟨#[]⟩,.string ⟨#[]⟩,.string ⟨#[]⟩,.bool false,.slice none 0 0]) [(0,1,y4),(1,1,y6)]) fun y7=>
 bind (stA 5 y2 y7) fun _=>
 bind (ldA 5 y2) fun y8=>
 ret y8
theorem Zxj : RA1 ZjA ZnY:=ra1 Tryz.func96 (by kernel_rfl) fun _ _=>by kernel_rfl
noncomputable def ZkL.l1 (Γ : Zc) (s5 s10 s11 s12 : Value) : M Out:=
 bind (bop .int .lss s12 s11) fun y3=>
 cnd y3
 (bind (ixa 1 s10 s12) fun y4=>
 bind (ld1 y4) fun y5=>
 bind (bop .int .eql s5 (Value.int .i64 0)) fun y6=>
 jn (cnd y6
 (bind (Jv Γ y5 []) fun y7=>
 ret (.nrm [y7,s10,s11,s12]))
 (ret (.nrm [s5,s10,s11,s12]))) (c4 fun q8_0 q8_1 q8_2 q8_3=>
 bind (bop .int .add q8_3 (Value.int .i64 1)) fun y9=>
 ret (.nrm [q8_0,q8_1,q8_2,y9])) noX Z5)
 (ret (.ext 0 [s5]))
noncomputable def ZkL (Γ : Zc) (x0 x1 : Value) : M Value:=
 bind (Γ QZ [x0]) fun y1=>
 bind (Zx x1) fun y2=>
 jn (Zi (c4 (ZkL.l1 Γ)) [y1,x1,y2,(Value.int .i64 0)]) noN (xk 0 (c1 fun q12_0=>
 ret q12_0) noX) ret
noncomputable def ZaH (Γ : Zc) (x0 x1 : Value) : M Value:=
 bind (alc 1 (.agg #[.string ⟨#[]⟩,.bool false])) fun y1=>
 bind (Γ QZ [x1]) fun y2=>
 bind (bop .int .neq y2 (Value.int .i64 0)) fun y3=>
 cnd y3
 (bind (bld (.agg #[.string ⟨#[]⟩,.bool false]) []) fun y4=>
 bind (stA 2 y1 y4) fun _=>
 bind (ldA 2 y1) fun y5=>
 ret (Value.tuple #[y5,y2]))
 (bind (Qe x0) fun y6=>
 bind (fa 0 y6) fun y7=>
 bind (ld1 y7) fun y8=>
 bind (lkp .str (.agg #[.string ⟨#[]⟩,.bool false]) true y8 x1) fun y9=>
 bind (Zo y9 0) fun y10=>
 bind (Zo y9 1) fun y11=>
 bind (alc 1 (.agg #[.string ⟨#[]⟩,.bool false])) fun y12=>
 bind (stA 2 y12 y10) fun _=>
 bind (uop .not y11) fun y13=>
 cnd y13
 (bind (bld (.agg #[.string ⟨#[]⟩,.bool false]) []) fun y14=>
 bind (stA 2 y1 y14) fun _=>
 bind (ldA 2 y1) fun y15=>
 ret (Value.tuple #[y15,(Value.int .i64 8)]))
 (bind (ldA 2 y12) fun y16=>
 bind (stA 2 y1 y16) fun _=>
 bind (ldA 2 y1) fun y17=>
 ret (Value.tuple #[y17,(Value.int .i64 0)])))
theorem Zoc : RA2 Q4 ZaH:=ra2 Tryz.func99 (by kernel_rfl) fun _ _ _=>by kernel_rfl
noncomputable def Zgm (Γ : Zc) (x0 x1 : Value) : M Value:=
 bind (Qe x0) fun y1=>
 bind (fa 1 y1) fun y2=>
 bind (ld1 y2) fun y3=>
 bind (lkp .str (.string ⟨#[]⟩) true y3 x1) fun y4=>
 bind (Zo y4 0) fun y5=>
 bind (Zo y4 1) fun y6=>
 ret (Value.tuple #[y5,y6])
theorem Zpz : RA2 Zcp Zgm:=ra2 Tryz.func100 (by kernel_rfl) fun _ _ _=>by kernel_rfl
noncomputable def ZeK (Γ : Zc) (x0 x1 : Value) : M Value:=
 bind (alc 1 x0) fun y1=>
 bind (alc 1 x1) fun y2=>
 bind (ld1 y1) fun y3=>
 bind (Γ KN [y3]) fun y4=>
 bind (Γ Jf [y4,(Value.func (.func 166) #[] #[y1,y2])]) fun y5=>
 ret y5
theorem Zm0 : RA2 J6 ZeK:=ra2 Tryz.func101 (by kernel_rfl) fun _ _ _=>by kernel_rfl
noncomputable def Z7.l1 (Γ : Zc) (s0 s1 s5 s6 : Value) : M Out:=
 bind (Zx s0) fun y4=>
 bind (bop .int .lss s6 y4) fun y5=>
 cnd y5
 (bind (ixa 1 s0 s6) fun y6=>
 bind (ld1 y6) fun y7=>
 bind (Jv Γ s1 [y7]) fun y8=>
 bind (uop .not y8) fun y9=>
 jn (cnd y9
 (bind (ixa 1 s0 s5) fun y10=>
 bind (st1 y10 y7) fun _=>
 bind (bop .int .add s5 (Value.int .i64 1)) fun y11=>
 ret (.nrm [s0,s1,y11,s6]))
 (ret (.nrm [s0,s1,s5,s6]))) (c4 fun q12_0 q12_1 q12_2 q12_3=>
 bind (bop .int .add q12_3 (Value.int .i64 1)) fun y13=>
 ret (.nrm [q12_0,q12_1,q12_2,y13])) noX Z5)
 (ret (.ext 0 [s0,s5]))
noncomputable def Z7 (Γ : Zc) (x0 x1 : Value) : M Value:=
 bind (Γ Yf [x0,x1]) fun y1=>
 bind (bop .int .eql y1 (Value.int .i64 (-1))) fun y2=>
 cnd y2
 (ret x0)
 (bind (bop .int .add y1 (Value.int .i64 1)) fun y3=>
 jn (Zi (c4 (Z7.l1 Γ)) [x0,x1,y1,y3]) noN (xk 0 (c2 fun q16_0 q16_1=>
 bind (slv 1 q16_0 (some q16_1) none none) fun y17=>
 bind (clr (.string ⟨#[]⟩) 1 y17) fun _=>
 bind (slv 1 q16_0 none (some q16_1) none) fun y18=>
 ret y18) noX) ret)
theorem Zd8 : RA2 Jf Z7:=ra2 Tryz.func103 (by kernel_rfl) fun _ _ _=>by kernel_rfl
noncomputable def Ze2 (Γ : Zc) (x0 : Value) : M Value:=
 bind (Qe x0) fun y1=>
 bind (fa 0 y1) fun y2=>
 bind (ld1 y2) fun y3=>
 bind (Γ JV [y3]) fun y4=>
 bind (Γ QS [y4,(Value.func (.func 172) #[] #[])]) fun y5=>
 ret y5
theorem ZmN : RA1 ZcR Ze2:=ra1 Tryz.func104 (by kernel_rfl) fun _ _=>by kernel_rfl
noncomputable def ZeG (Γ : Zc) (x0 : Value) : M Value:=
 bind (Qe x0) fun y1=>
 bind (fa 0 y1) fun y2=>
 bind (ld1 y2) fun y3=>
 bind (Γ QO [y3]) fun y4=>
 bind (Γ QS [y4,(Value.func (.func 172) #[] #[])]) fun y5=>
 ret y5
theorem ZmX : RA1 Zbh ZeG:=ra1 Tryz.func107 (by kernel_rfl) fun _ _=>by kernel_rfl
noncomputable def ZlK (Γ : Zc) : M Value:=
 bind (mkm) fun y1=>
 bind (mkm) fun y2=>
 bind (bld (.agg #[.map none,.map none]) [(0,1,y1),(1,1,y2)]) fun y3=>
 bind (alc 1 y3) fun y4=>
 ret y4
theorem ZvI : RA0 ZhI ZlK:=ra0 Tryz.func109 (by kernel_rfl) fun _=>by kernel_rfl
noncomputable def Zjz (Γ : Zc) : M Value:=
 bind (mkm) fun y1=>
 bind (bld (.agg #[.map none]) [(0,1,y1)]) fun y2=>
 bind (alc 1 y2) fun y3=>
 ret y3
theorem Ztk : RA0 Zg2 Zjz:=ra0 Tryz.func110 (by kernel_rfl) fun _=>by kernel_rfl
noncomputable def Z6.l1 (Γ : Zc) (s0 s4 s11 s12 s13 : Value) : M Out:=
 bind (bop .int .lss s13 s12) fun y3=>
 cnd y3
 (bind (ixa 5 s11 s13) fun y4=>
 bind (ldA 5 y4) fun y5=>
 bind (alc 1 (.agg #[.string ⟨#[]⟩,.string ⟨#[]⟩,.string ⟨#[]⟩,.bool false,.slice none 0 0])) fun y6=>
 bind (stA 5 y6 y5) fun _=>
 bind (ldA 5 y6) fun y7=>
 bind (Γ Yq [(Value.int .i64 1),y7]) fun y8=>
 bind (bop .int .neq y8 (Value.int .i64 0)) fun y9=>
 cnd y9
 (ret (.ret (Value.tuple #[(Value.pointer none),y8])))
 (bind (bop .int .add s13 (Value.int .i64 1)) fun y10=>
 ret (.nrm [s0,s4,s11,s12,y10])))
 (ret (.ext 0 [s0,s4]))
noncomputable def Z6.l2 (Γ : Zc) (s0 s4 s23 s24 s25 : Value) : M Out:=
 bind (bop .int .lss s25 s24) fun y14=>
 cnd y14
 (bind (ixa 5 s23 s25) fun y15=>
 bind (ldA 5 y15) fun y16=>
 bind (alc 1 (.agg #[.string ⟨#[]⟩,.string ⟨#[]⟩,.string ⟨#[]⟩,.bool false,.slice none 0 0])) fun y17=>
 bind (stA 5 y17 y16) fun _=>
 bind (bop .int .gtr s25 (Value.int .i64 0)) fun y18=>
 bind (Zg y18 true (ret s0)) fun y19=>
 bind (Zg y18 true (ret s25)) fun y20=>
 bind (Zg y18 true (bop .int .sub y20 (Value.int .i64 1))) fun y21=>
 bind (Zg y18 true (ixa 5 y19 y21)) fun y22=>
 bind (Zg y18 true (fa 0 y22)) fun y23=>
 bind (Zg y18 true (ld1 y23)) fun y24=>
 bind (Zg y18 true (fa 0 y17)) fun y25=>
 bind (Zg y18 true (ld1 y25)) fun y26=>
 bind (Zg y18 true (Γ Qv [y24,y26])) fun y27=>
 bind (Zg y18 true (bop .int .geq y27 (Value.int .i64 0))) fun y28=>
 bind (pick y18 y28 (Value.bool false)) fun y29=>
 cnd y29
 (ret (.ret (Value.tuple #[(Value.pointer none),(Value.int .i64 9)])))
 (bind (Qe s4) fun y30=>
 bind (fa 0 y30) fun y31=>
 bind (ld1 y31) fun y32=>
 bind (fa 0 y17) fun y33=>
 bind (ld1 y33) fun y34=>
 bind (fa 1 y17) fun y35=>
 bind (ld1 y35) fun y36=>
 bind (mup .str y32 y34 y36) fun _=>
 bind (bop .int .add s25 (Value.int .i64 1)) fun y37=>
 ret (.nrm [s0,s4,s23,s24,y37])))
 (ret (.ext 2 [s0,s4]))
noncomputable def Z6 (Γ : Zc) (x0 : Value) : M Value:=
 bind (Γ Zcd []) fun y1=>
 bind (Zx x0) fun y2=>
 jn (Zi (c5 (Z6.l1 Γ)) [x0,y1,x0,y2,(Value.int .i64 0)]) noN (xk 0 (c2 fun q12_0 q12_1=>
 bind (Zx q12_0) fun y13=>
 jn (Zi (c5 (Z6.l2 Γ)) [q12_0,q12_1,q12_0,y13,(Value.int .i64 0)]) noN (xk 2 (c2 fun q39_0 q39_1=>
 bind (Zx q39_0) fun y40=>
 bind (bop .int .gtr y40 (Value.int .i64 12)) fun y41=>
 cnd y41
 (ret (Value.tuple #[(Value.pointer none),(Value.int .i64 7)]))
 (ret (Value.tuple #[q39_1,(Value.int .i64 0)]))) noX) ret) noX) ret
theorem Znz : RA1 WT Z6:=ra1 Tryz.func111 (by kernel_rfl) fun _ _=>by kernel_rfl
noncomputable def KY.l1 (Γ : Zc) (s2 s3 s43 s44 : Value) : M Out:=
 bind (bop .int .lss s44 s43) fun y41=>
 cnd y41
 (bind (fa 4 s2) fun y42=>
 bind (ld1 y42) fun y43=>
 bind (ixa 1 y43 s44) fun y44=>
 bind (ld1 y44) fun y45=>
 bind (fa 4 s3) fun y46=>
 bind (ld1 y46) fun y47=>
 bind (ixa 1 y47 s44) fun y48=>
 bind (ld1 y48) fun y49=>
 bind (bop .str .neq y45 y49) fun y50=>
 cnd y50
 (ret (.ret (Value.bool false)))
 (bind (bop .int .add s44 (Value.int .i64 1)) fun y51=>
 ret (.nrm [s2,s3,s43,y51])))
 (ret (.ext 0 []))
noncomputable def KY (Γ : Zc) (x0 x1 : Value) : M Value:=
 bind (alc 1 x0) fun y1=>
 bind (alc 1 x1) fun y2=>
 bind (fa 0 y1) fun y3=>
 bind (ld1 y3) fun y4=>
 bind (fa 0 y2) fun y5=>
 bind (ld1 y5) fun y6=>
 bind (bop .str .neq y4 y6) fun y7=>
 bind (ZG y7 false 5 (bind (fa 1 y1) fun y8=>
 bind (ld1 y8) fun y9=>
 bind (fa 1 y2) fun y10=>
 bind (ld1 y10) fun y11=>
 bind (bop .str .neq y9 y11) fun y12=>
 ret [y8,y9,y10,y11,y12])) (c5 fun _ _ _ _ q13_4=>
 bind (pick y7 (Value.bool true) q13_4) fun y14=>
 bind (ZG y14 false 5 (bind (fa 2 y1) fun y15=>
 bind (ld1 y15) fun y16=>
 bind (fa 2 y2) fun y17=>
 bind (ld1 y17) fun y18=>
 bind (bop .str .neq y16 y18) fun y19=>
 ret [y15,y16,y17,y18,y19])) (c5 fun _ _ _ _ q20_4=>
 bind (pick y14 (Value.bool true) q20_4) fun y21=>
 bind (ZG y21 false 5 (bind (fa 3 y1) fun y22=>
 bind (ld1 y22) fun y23=>
 bind (fa 3 y2) fun y24=>
 bind (ld1 y24) fun y25=>
 bind (bop .bool .neq y23 y25) fun y26=>
 ret [y22,y23,y24,y25,y26])) (c5 fun _ _ _ _ q27_4=>
 bind (pick y21 (Value.bool true) q27_4) fun y28=>
 bind (ZG y28 false 7 (bind (fa 4 y1) fun y29=>
 bind (ld1 y29) fun y30=>
 bind (Zx y30) fun y31=>
 bind (fa 4 y2) fun y32=>
 bind (ld1 y32) fun y33=>
 bind (Zx y33) fun y34=>
 bind (bop .int .neq y31 y34) fun y35=>
 ret [y29,y30,y31,y32,y33,y34,y35])) (c7 fun _ _ _ _ _ _ q36_6=>
 bind (pick y28 (Value.bool true) q36_6) fun y37=>
 cnd y37
 (ret (Value.bool false))
 (bind (fa 4 y1) fun y38=>
 bind (ld1 y38) fun y39=>
 bind (Zx y39) fun y40=>
 jn (Zi (c4 (KY.l1 Γ)) [y1,y2,y40,(Value.int .i64 0)]) noN (xk 0 (c0 (ret (Value.bool true))) noX) ret)))))
theorem Zsy : RA2 ZfJ KY:=ra2 Tryz.func112 (by kernel_rfl) fun _ _ _=>by kernel_rfl
noncomputable def Zax (Γ : Zc) (x0 x1 : Value) : M Value:=
 bind (alc 1 x1) fun y1=>
 bind (bop .int .neq x0 (Value.int .i64 1)) fun y2=>
 bind (ZG y2 true 2 (bind (bop .int .neq x0 (Value.int .i64 2)) fun y3=>
 ret [x0,y3])) (c2 fun _ q4_1=>
 bind (pick y2 q4_1 (Value.bool false)) fun y5=>
 cnd y5
 (ret (Value.int .i64 6))
 (bind (fa 0 y1) fun y6=>
 bind (ld1 y6) fun y7=>
 bind (fa 1 y1) fun y8=>
 bind (ld1 y8) fun y9=>
 bind (Γ QZ [y7]) fun y10=>
 bind (ld1 y8) fun u_11=>same u_11 y9 <|
 bind (Γ WH [y9]) fun y12=>
 bind (bsl 1 2 (.int .i64 0) [(0,1,y10),(1,1,y12)]) fun y13=>
 bind (Γ WK [y13]) fun y14=>
 bind (bop .int .neq y14 (Value.int .i64 0)) fun y15=>
 cnd y15
 (ret y14)
 (bind (bop .int .eql x0 (Value.int .i64 2)) fun y16=>
 cnd y16
 (bind (fa 2 y1) fun y17=>
 bind (ld1 y17) fun y18=>
 bind (fa 4 y1) fun y19=>
 bind (ld1 y19) fun y20=>
 bind (Γ ZeN [y18]) fun y21=>
 bind (ld1 y19) fun u_22=>same u_22 y20 <|
 bind (Γ Zdh [y20]) fun y23=>
 bind (bsl 1 2 (.int .i64 0) [(0,1,y21),(1,1,y23)]) fun y24=>
 bind (Γ WK [y24]) fun y25=>
 ret y25)
 (bind (fa 2 y1) fun y26=>
 bind (ld1 y26) fun y27=>
 bind (bop .str .neq y27 (Value.string ⟨#[]⟩)) fun y28=>
 bind (ZG y28 false 2 (bind (fa 3 y1) fun y29=>
 bind (ld1 y29) fun y30=>
 ret [y29,y30])) (c2 fun _ q31_1=>
 bind (pick y28 (Value.bool true) q31_1) fun y32=>
 bind (ZG y32 false 4 (bind (fa 4 y1) fun y33=>
 bind (ld1 y33) fun y34=>
 bind (Zx y34) fun y35=>
 bind (bop .int .gtr y35 (Value.int .i64 0)) fun y36=>
 ret [y33,y34,y35,y36])) (c4 fun _ _ _ q37_3=>
 bind (pick y32 (Value.bool true) q37_3) fun y38=>
 cnd y38
 (ret (Value.int .i64 12))
 (ret (Value.int .i64 0))))))))
theorem Zgn : RA2 Yq Zax:=ra2 Tryz.func113 (by kernel_rfl) fun _ _ _=>by kernel_rfl
noncomputable def WJ.l1 (Γ : Zc) (s0 s1 s5 : Value) : M Out:=
 bind (Zx s0) fun y1=>
 bind (bop .int .lss s5 y1) fun y2=>
 cnd y2
 (bind (bop .int .sub s5 (Value.int .i64 1)) fun y3=>
 bind (ixa 1 s0 y3) fun y4=>
 bind (ld1 y4) fun y5=>
 bind (ixa 1 s0 s5) fun y6=>
 bind (ld1 y6) fun y7=>
 bind (Γ Qv [y5,y7]) fun y8=>
 bind (bop .int .geq y8 (Value.int .i64 0)) fun y9=>
 cnd y9
 (ret (.ret (Value.int .i64 9)))
 (bind (bop .int .add s5 (Value.int .i64 1)) fun y10=>
 ret (.nrm [s0,s1,y10])))
 (ret (.ext 0 [s0,s1]))
noncomputable def WJ (Γ : Zc) (x0 x1 : Value) : M Value:=
 jn (Zi (c3 (WJ.l1 Γ)) [x0,x1,(Value.int .i64 1)]) noN (xk 0 (c2 fun q12_0 q12_1=>
 bind (Zx q12_0) fun y13=>
 bind (bop .int .gtr y13 q12_1) fun y14=>
 cnd y14
 (ret (Value.int .i64 7))
 (ret (Value.int .i64 0))) noX) ret
theorem ZsB : RA2 K1 WJ:=ra2 Tryz.func114 (by kernel_rfl) fun _ _ _=>by kernel_rfl
noncomputable def Zjm (Γ : Zc) (x0 : Value) : M Value:=
 bind (Γ ZaJ [x0]) fun y1=>
 bind (uop .not y1) fun y2=>
 cnd y2
 (ret (Value.int .i64 10))
 (ret (Value.int .i64 0))
theorem Zto : RA1 QZ Zjm:=ra1 Tryz.func115 (by kernel_rfl) fun _ _=>by kernel_rfl
noncomputable def ZdA (Γ : Zc) (x0 x1 x2 : Value) : M Value:=
 bind (bsl 1 1 (.string ⟨#[]⟩) [(0,1,x1)]) fun y1=>
 bind (app 1 16 y1 x2) fun y2=>
 bind (Γ ZaP [y2]) fun y3=>
 bind (bop .int .neq y3 (Value.int .i64 0)) fun y4=>
 cnd y4
 (ret (Value.tuple #[(Value.map none),y3]))
 (bind (Qe x0) fun y5=>
 bind (fa 0 y5) fun y6=>
 bind (ld1 y6) fun y7=>
 bind (lkp .str (.map none) true y7 x1) fun y8=>
 bind (Zo y8 0) fun y9=>
 bind (Zo y8 1) fun y10=>
 bind (uop .not y10) fun y11=>
 cnd y11
 (ret (Value.tuple #[(Value.map none),(Value.int .i64 8)]))
 (ret (Value.tuple #[y9,(Value.int .i64 0)])))
theorem Zkh : RA3 Yl ZdA:=ra3 Tryz.func116 (by kernel_rfl) fun _ _ _ _=>by kernel_rfl
noncomputable def Zbe (Γ : Zc) (x0 x1 : Value) : M Value:=
 bind (Qe x0) fun y1=>
 bind (fa 1 y1) fun y2=>
 bind (ld1 y2) fun y3=>
 bind (lkp .str (.string ⟨#[]⟩) true y3 x1) fun y4=>
 bind (Zo y4 0) fun y5=>
 bind (Zo y4 1) fun y6=>
 jn (cnd y6
 (bind (Qe x0) fun y7=>
 bind (fa 0 y7) fun y8=>
 bind (ld1 y8) fun y9=>
 bind (mde .str y9 y5) fun _=>
 bind (Qe x0) fun y10=>
 bind (fa 1 y10) fun y11=>
 bind (ld1 y11) fun y12=>
 bind (mde .str y12 x1) fun _=>
 ret (.nrm [y6]))
 (ret (.nrm [y6]))) (c1 fun q13_0=>
 ret q13_0) noX ret
theorem Zm6 : RA2 JE Zbe:=ra2 Tryz.func117 (by kernel_rfl) fun _ _ _=>by kernel_rfl
noncomputable def KA.l1 (Γ : Zc) (s0 s35 s36 s37 : Value) : M Out:=
 bind (bop .int .lss s37 s36) fun y19=>
 cnd y19
 (bind (ixa 1 s35 s37) fun y20=>
 bind (ld1 y20) fun y21=>
 bind (bop .str .eql y21 (Value.string ⟨#[]⟩)) fun y22=>
 bind (ZG y22 false 3 (bind (Γ Wq [y21,(Value.func (.func 183) #[] #[])]) fun y23=>
 bind (uop .not y23) fun y24=>
 ret [y21,y23,y24])) (c3 fun _ _ q25_2=>
 bind (pick y22 (Value.bool true) q25_2) fun y26=>
 cnd y26
 (ret (.ret (Value.tuple #[(Value.string ⟨#[]⟩),(Value.int .i64 11)])))
 (bind (bop .int .add s37 (Value.int .i64 1)) fun y27=>
 ret (.nrm [s0,s35,s36,y27]))))
 (ret (.ext 0 [s0]))
noncomputable def KA (Γ : Zc) (x0 : Value) : M Value:=
 bind (J0 x0) fun y1=>
 bind (bop .int .gtr y1 (Value.int .i64 20)) fun y2=>
 cnd y2
 (ret (Value.tuple #[(Value.string ⟨#[]⟩),(Value.int .i64 11)]))
 (bind (Γ ZeH [x0]) fun y3=>
 bind (Γ ZaQ [y3,(Value.string ⟨#[64]⟩)]) fun y4=>
 bind (Zo y4 0) fun y5=>
 bind (Zo y4 1) fun y6=>
 bind (Zo y4 2) fun y7=>
 bind (Γ ZbS [y6,(Value.string ⟨#[46]⟩)]) fun y8=>
 bind (uop .not y7) fun y9=>
 bind (ZG y9 false 3 (bind (Γ ZaJ [y5]) fun y10=>
 bind (uop .not y10) fun y11=>
 ret [y5,y10,y11])) (c3 fun _ _ q12_2=>
 bind (pick y9 (Value.bool true) q12_2) fun y13=>
 bind (ZG y13 false 3 (bind (Zx y8) fun y14=>
 bind (bop .int .lss y14 (Value.int .i64 2)) fun y15=>
 ret [y8,y14,y15])) (c3 fun _ _ q16_2=>
 bind (pick y13 (Value.bool true) q16_2) fun y17=>
 cnd y17
 (ret (Value.tuple #[(Value.string ⟨#[]⟩),(Value.int .i64 11)]))
 (bind (Zx y8) fun y18=>
 jn (Zi (c4 (KA.l1 Γ)) [y3,y8,y18,(Value.int .i64 0)]) noN (xk 0 (c1 fun q29_0=>
 ret (Value.tuple #[q29_0,(Value.int .i64 0)])) noX) ret))))
theorem Ztn : RA1 Zbp KA:=ra1 Tryz.func118 (by kernel_rfl) fun _ _=>by kernel_rfl
noncomputable def Yv.l1 (Γ : Zc) (s0 s1 s7 s8 : Value) : M Out:=
 bind (bop .int .lss s8 s7) fun y1=>
 cnd y1
 (bind (Qe s0) fun y2=>
 bind (fa 0 y2) fun y3=>
 bind (ld1 y3) fun y4=>
 bind (cvi .u8 s1) fun y5=>
 bind (bsl 1 1 (.int .u8 0) [(0,1,y5)]) fun y6=>
 bind (app 1 1 y4 y6) fun y7=>
 bind (Qe s0) fun y8=>
 bind (fa 0 y8) fun y9=>
 bind (st1 y9 y7) fun _=>
 bind (bop .int .shr s1 (Value.int .u64 8)) fun y10=>
 bind (bop .int .add s8 (Value.int .i64 1)) fun y11=>
 ret (.nrm [s0,y10,s7,y11]))
 (ret (.ext 0 [s0]))
noncomputable def Yv (Γ : Zc) (x0 x1 x2 : Value) : M Value:=
 jn (Zi (c4 (Yv.l1 Γ)) [x0,x1,x2,(Value.int .i64 0)]) noN (xk 0 (c1 fun q13_0=>
 ret q13_0) noX) ret
theorem Zk1 : RA3 KJ Yv:=ra3 Tryz.func119 (by kernel_rfl) fun _ _ _ _=>by kernel_rfl
noncomputable def Zdz (Γ : Zc) (x0 x1 : Value) : M Value:=
 bind (J0 x1) fun y1=>
 bind (mxi false y1 (Value.int .i64 65535)) fun y2=>
 bind (sls x1 none (some y2)) fun y3=>
 bind (J0 y3) fun y4=>
 bind (cvi .u16 y4) fun y5=>
 bind (Γ Yw [x0,y5]) fun y6=>
 bind (Qe x0) fun y7=>
 bind (fa 0 y7) fun y8=>
 bind (ld1 y8) fun y9=>
 bind (app 1 1 y9 y3) fun y10=>
 bind (Qe x0) fun y11=>
 bind (fa 0 y11) fun y12=>
 bind (st1 y12 y10) fun _=>
 ret x0
theorem ZkA : RA2 JT Zdz:=ra2 Tryz.func120 (by kernel_rfl) fun _ _ _=>by kernel_rfl
noncomputable def Zec (Γ : Zc) (x0 : Value) : M Value:=
 bind (Qe x0) fun y1=>
 bind (fa 0 y1) fun y2=>
 bind (ld1 y2) fun y3=>
 bind (Γ WX [y3]) fun y4=>
 ret y4
theorem Zmh : RA1 KN Zec:=ra1 Tryz.func121 (by kernel_rfl) fun _ _=>by kernel_rfl
noncomputable def Zdg (Γ : Zc) (x0 x1 : Value) : M Value:=
 cnd x1
 (bind (Γ JS [x0,(Value.int .u8 1)]) fun y1=>
 ret y1)
 (bind (Γ JS [x0,(Value.int .u8 0)]) fun y2=>
 ret y2)
theorem Zjt : RA2 WR Zdg:=ra2 Tryz.func122 (by kernel_rfl) fun _ _ _=>by kernel_rfl
noncomputable def Yy.l1 (Γ : Zc) (s5 s10 s11 s12 : Value) : M Out:=
 bind (bop .int .lss s12 s11) fun y3=>
 cnd y3
 (bind (ixa 1 s10 s12) fun y4=>
 bind (ld1 y4) fun y5=>
 bind (cvi .u64 y5) fun y6=>
 bind (bop .int .mul (Value.int .i64 8) s12) fun y7=>
 bind (bop .int .shl y6 y7) fun y8=>
 bind (bop .int .or s5 y8) fun y9=>
 bind (bop .int .add s12 (Value.int .i64 1)) fun y10=>
 ret (.nrm [y9,s10,s11,y10]))
 (ret (.ext 0 [s5]))
noncomputable def Yy (Γ : Zc) (x0 x1 : Value) : M Value:=
 bind (Γ Kl [x0,x1]) fun y1=>
 bind (Zx y1) fun y2=>
 jn (Zi (c4 (Yy.l1 Γ)) [(Value.int .u64 0),y1,y2,(Value.int .i64 0)]) noN (xk 0 (c1 fun q12_0=>
 ret q12_0) noX) ret
theorem ZlP : RA2 KI Yy:=ra2 Tryz.func123 (by kernel_rfl) fun _ _ _=>by kernel_rfl
noncomputable def WS (Γ : Zc) (x0 x1 : Value) : M Value:=
 bind (Γ Y7 [x0]) fun y1=>
 bind (cvi .i64 y1) fun y2=>
 bind (mxi true (Value.int .i64 0) x1) fun y3=>
 bind (bop .int .gtr y2 y3) fun y4=>
 cnd y4
 (bind (Γ Qk [x0,(Value.int .i64 3)]) fun y5=>
 ret (Value.int .i64 0))
 (ret y2)
theorem Zi1 : RA2 KP WS:=ra2 Tryz.func124 (by kernel_rfl) fun _ _ _=>by kernel_rfl
noncomputable def ZdD (Γ : Zc) (x0 x1 : Value) : M Value:=
 bind (Γ KP [x0,x1]) fun y1=>
 bind (Γ Kl [x0,y1]) fun y2=>
 bind (b2s y2) fun y3=>
 ret y3
theorem Zkq : RA2 Ym ZdD:=ra2 Tryz.func125 (by kernel_rfl) fun _ _ _=>by kernel_rfl
noncomputable def Zk3.l1 (Γ : Zc) (s0 s3 s4 : Value) : M Out:=
 bind (bop .int .geq s4 (Value.int .i64 0)) fun y3=>
 cnd y3
 (bind (bop .int .mul s3 (Value.int .u64 256)) fun y4=>
 bind (ixs s0 s4) fun y5=>
 bind (cvi .u64 y5) fun y6=>
 bind (bop .int .add y4 y6) fun y7=>
 bind (bop .int .sub s4 (Value.int .i64 1)) fun y8=>
 ret (.nrm [s0,y7,y8]))
 (ret (.ext 0 [s3]))
noncomputable def Zk3 (Γ : Zc) (x0 : Value) : M Value:=
 bind (J0 x0) fun y1=>
 bind (bop .int .sub y1 (Value.int .i64 1)) fun y2=>
 jn (Zi (c3 (Zk3.l1 Γ)) [x0,(Value.int .u64 0),y2]) noN (xk 0 (c1 fun q10_0=>
 ret q10_0) noX) ret
noncomputable def Zfd.l1 (Γ : Zc) (s3 s62 s63 s64 : Value) : M Out:=
 bind (bop .int .lss s64 s63) fun y50=>
 cnd y50
 (bind (ixa 1 s62 s64) fun y51=>
 bind (ld1 y51) fun y52=>
 bind (Γ QP [y52]) fun y53=>
 bind (uop .not y53) fun y54=>
 cnd y54
 (ret (.ret (Value.int .i64 10)))
 (bind (bop .int .add s64 (Value.int .i64 1)) fun y55=>
 ret (.nrm [s3,s62,s63,y55])))
 (ret (.ext 0 [s3]))
noncomputable def Zfd.l2 (Γ : Zc) (s3 s73 s74 s75 : Value) : M Out:=
 bind (bop .int .lss s75 s74) fun y61=>
 cnd y61
 (bind (ixa 1 s73 s75) fun y62=>
 bind (ld1 y62) fun y63=>
 bind (bop .int .gtr s75 (Value.int .i64 0)) fun y64=>
 bind (ZG y64 true 8 (bind (fa 4 s3) fun y65=>
 bind (ld1 y65) fun y66=>
 bind (bop .int .sub s75 (Value.int .i64 1)) fun y67=>
 bind (ixa 1 y66 y67) fun y68=>
 bind (ld1 y68) fun y69=>
 bind (bop .str .leq y63 y69) fun y70=>
 ret [y63,y65,y66,s75,y67,y68,y69,y70])) (c8 fun _ _ _ _ _ _ _ q71_7=>
 bind (pick y64 q71_7 (Value.bool false)) fun y72=>
 cnd y72
 (ret (.ret (Value.int .i64 9)))
 (bind (bop .int .add s75 (Value.int .i64 1)) fun y73=>
 ret (.nrm [s3,s73,s74,y73]))))
 (ret (.ext 2 []))
noncomputable def Zfd (Γ : Zc) (x0 x1 : Value) : M Value:=
 bind (alc 1 x1) fun y1=>
 bind (bop .int .lss x0 (Value.int .i64 1)) fun y2=>
 bind (ZG y2 false 2 (bind (bop .int .gtr x0 (Value.int .i64 2)) fun y3=>
 ret [x0,y3])) (c2 fun _ q4_1=>
 bind (pick y2 (Value.bool true) q4_1) fun y5=>
 cnd y5
 (ret (Value.int .i64 6))
 (bind (fa 0 y1) fun y6=>
 bind (ld1 y6) fun y7=>
 bind (Γ QP [y7]) fun y8=>
 bind (uop .not y8) fun y9=>
 cnd y9
 (ret (Value.int .i64 10))
 (bind (fa 1 y1) fun y10=>
 bind (ld1 y10) fun y11=>
 bind (Γ Zaw [y11]) fun y12=>
 bind (uop .not y12) fun y13=>
 cnd y13
 (ret (Value.int .i64 4))
 (bind (bop .int .eql x0 (Value.int .i64 1)) fun y14=>
 cnd y14
 (bind (fa 2 y1) fun y15=>
 bind (ld1 y15) fun y16=>
 bind (bop .str .neq y16 (Value.string ⟨#[]⟩)) fun y17=>
 bind (ZG y17 false 2 (bind (fa 3 y1) fun y18=>
 bind (ld1 y18) fun y19=>
 ret [y18,y19])) (c2 fun _ q20_1=>
 bind (pick y17 (Value.bool true) q20_1) fun y21=>
 bind (ZG y21 false 4 (bind (fa 4 y1) fun y22=>
 bind (ld1 y22) fun y23=>
 bind (Zx y23) fun y24=>
 bind (bop .int .gtr y24 (Value.int .i64 0)) fun y25=>
 ret [y22,y23,y24,y25])) (c4 fun _ _ _ q26_3=>
 bind (pick y21 (Value.bool true) q26_3) fun y27=>
 cnd y27
 (ret (Value.int .i64 12))
 (ret (Value.int .i64 0)))))
 (bind (fa 2 y1) fun y28=>
 bind (ld1 y28) fun y29=>
 bind (bop .str .neq y29 (Value.string ⟨#[]⟩)) fun y30=>
 jn (cnd y30
 (bind (fa 2 y1) fun y31=>
 bind (ld1 y31) fun y32=>
 bind (Γ Zby [y32]) fun y33=>
 bind (Zo y33 0) fun y34=>
 bind (Zo y33 1) fun y35=>
 bind (uop .not y35) fun y36=>
 bind (ZG y36 false 4 (bind (fa 2 y1) fun y37=>
 bind (ld1 y37) fun y38=>
 bind (bop .str .neq y34 y38) fun y39=>
 ret [y34,y37,y38,y39])) (c4 fun _ _ _ q40_3=>
 bind (pick y36 (Value.bool true) q40_3) fun y41=>
 cnd y41
 (ret (.ret (Value.int .i64 11)))
 (ret (.nrm [y1]))))
 (ret (.nrm [y1]))) (c1 fun q42_0=>
 bind (fa 4 q42_0) fun y43=>
 bind (ld1 y43) fun y44=>
 bind (Zx y44) fun y45=>
 bind (bop .int .gtr y45 (Value.int .i64 6)) fun y46=>
 cnd y46
 (ret (Value.int .i64 7))
 (bind (fa 4 q42_0) fun y47=>
 bind (ld1 y47) fun y48=>
 bind (Zx y48) fun y49=>
 jn (Zi (c4 (Zfd.l1 Γ)) [q42_0,y48,y49,(Value.int .i64 0)]) noN (xk 0 (c1 fun q57_0=>
 bind (fa 4 q57_0) fun y58=>
 bind (ld1 y58) fun y59=>
 bind (Zx y59) fun y60=>
 jn (Zi (c4 (Zfd.l2 Γ)) [q57_0,y59,y60,(Value.int .i64 0)]) noN (xk 2 (c0 (ret (Value.int .i64 0))) noX) ret) noX) ret)) noX ret)))))
noncomputable def ZhG.l1 (Γ : Zc) (s0 s1 s10 s11 s12 : Value) : M Out:=
 bind (bop .int .lss s12 s11) fun y2=>
 cnd y2
 (bind (ixa 5 s10 s12) fun y3=>
 bind (ldA 5 y3) fun y4=>
 bind (alc 1 (.agg #[.string ⟨#[]⟩,.string ⟨#[]⟩,.string ⟨#[]⟩,.bool false,.slice none 0 0])) fun y5=>
 bind (stA 5 y5 y4) fun _=>
 bind (ldA 5 y5) fun y6=>
 bind (Γ ZuI [s1,y6]) fun y7=>
 bind (bop .int .neq y7 (Value.int .i64 0)) fun y8=>
 cnd y8
 (ret (.ret y7))
 (bind (bop .int .add s12 (Value.int .i64 1)) fun y9=>
 ret (.nrm [s0,s1,s10,s11,y9])))
 (ret (.ext 0 [s0]))
noncomputable def ZhG.l2 (Γ : Zc) (s0 s23 s24 s25 : Value) : M Out:=
 bind (bop .int .lss s25 s24) fun y13=>
 cnd y13
 (bind (ixa 5 s23 s25) fun y14=>
 bind (ldA 5 y14) fun y15=>
 bind (alc 1 (.agg #[.string ⟨#[]⟩,.string ⟨#[]⟩,.string ⟨#[]⟩,.bool false,.slice none 0 0])) fun y16=>
 bind (stA 5 y16 y15) fun _=>
 bind (bop .int .gtr s25 (Value.int .i64 0)) fun y17=>
 bind (Zg y17 true (ret s0)) fun y18=>
 bind (Zg y17 true (ret s25)) fun y19=>
 bind (Zg y17 true (bop .int .sub y19 (Value.int .i64 1))) fun y20=>
 bind (Zg y17 true (ixa 5 y18 y20)) fun y21=>
 bind (Zg y17 true (fa 0 y21)) fun y22=>
 bind (Zg y17 true (ld1 y22)) fun y23=>
 bind (Zg y17 true (fa 0 y16)) fun y24=>
 bind (Zg y17 true (ld1 y24)) fun y25=>
 bind (Zg y17 true (bop .str .geq y23 y25)) fun y26=>
 bind (pick y17 y26 (Value.bool false)) fun y27=>
 cnd y27
 (ret (.ret (Value.int .i64 9)))
 (bind (bop .int .add s25 (Value.int .i64 1)) fun y28=>
 ret (.nrm [s0,s23,s24,y28])))
 (ret (.ext 2 [s0]))
noncomputable def ZhG (Γ : Zc) (x0 x1 : Value) : M Value:=
 bind (Zx x0) fun y1=>
 jn (Zi (c5 (ZhG.l1 Γ)) [x0,x1,x0,y1,(Value.int .i64 0)]) noN (xk 0 (c1 fun q11_0=>
 bind (Zx q11_0) fun y12=>
 jn (Zi (c4 (ZhG.l2 Γ)) [q11_0,q11_0,y12,(Value.int .i64 0)]) noN (xk 2 (c1 fun q30_0=>
 bind (Zx q30_0) fun y31=>
 bind (bop .int .gtr y31 (Value.int .i64 12)) fun y32=>
 cnd y32
 (ret (Value.int .i64 7))
 (ret (Value.int .i64 0))) noX) ret) noX) ret
noncomputable def Zif (Γ : Zc) (x0 : Value) : M Value:=
 bind (J0 x0) fun y1=>
 bind (bop .int .geq y1 (Value.int .i64 1)) fun y2=>
 bind (ZG y2 true 2 (bind (bop .int .leq y1 (Value.int .i64 12)) fun y3=>
 ret [y1,y3])) (c2 fun _ q4_1=>
 bind (pick y2 q4_1 (Value.bool false)) fun y5=>
 bind (ZG y5 true 2 (bind (Γ Zdk [x0,(Value.string ⟨#[97,98,99,100,101,102,103,104,105,106,107,108,109,110,111,112,113,114,115,116,117,118,119,120,121,122,48,49,50,51,52,53,54,55,56,57,45,46]⟩)]) fun y6=>
 ret [x0,y6])) (c2 fun _ q7_1=>
 bind (pick y5 q7_1 (Value.bool false)) fun y8=>
 bind (ZG y8 true 3 (bind (ixs x0 (Value.int .i64 0)) fun y9=>
 bind (Γ Zao [y9,(Value.string ⟨#[97,98,99,100,101,102,103,104,105,106,107,108,109,110,111,112,113,114,115,116,117,118,119,120,121,122]⟩)]) fun y10=>
 ret [x0,y9,y10])) (c3 fun _ _ q11_2=>
 bind (pick y8 q11_2 (Value.bool false)) fun y12=>
 bind (ZG y12 true 5 (bind (bop .int .sub y1 (Value.int .i64 1)) fun y13=>
 bind (ixs x0 y13) fun y14=>
 bind (Γ Zao [y14,(Value.string ⟨#[97,98,99,100,101,102,103,104,105,106,107,108,109,110,111,112,113,114,115,116,117,118,119,120,121,122,48,49,50,51,52,53,54,55,56,57]⟩)]) fun y15=>
 ret [x0,y1,y13,y14,y15])) (c5 fun _ _ _ _ q16_4=>
 bind (pick y12 q16_4 (Value.bool false)) fun y17=>
 ret y17))))
theorem Zsa : RA1 QP Zif:=ra1 Tryz.func134 (by kernel_rfl) fun _ _=>by kernel_rfl
noncomputable def Zae.l1 (Γ : Zc) (s1 s7 s8 s9 : Value) : M Out:=
 bind (bop .int .lss s9 s8) fun y2=>
 cnd y2
 (bind (ixa 1 s7 s9) fun y3=>
 bind (ld1 y3) fun y4=>
 bind (bop .str .eql y4 s1) fun y5=>
 cnd y5
 (ret (.ret (Value.bool true)))
 (bind (bop .int .add s9 (Value.int .i64 1)) fun y6=>
 ret (.nrm [s1,s7,s8,y6])))
 (ret (.ext 0 []))
noncomputable def Zae (Γ : Zc) (x0 x1 : Value) : M Value:=
 bind (Zx x0) fun y1=>
 jn (Zi (c4 (Zae.l1 Γ)) [x1,x0,y1,(Value.int .i64 0)]) noN (xk 0 (c0 (ret (Value.bool false))) noX) ret
theorem ZtK : RA2 K3 Zae:=ra2 Tryz.func135 (by kernel_rfl) fun _ _ _=>by kernel_rfl
noncomputable def Zcv (Γ : Zc) (x0 x1 x2 : Value) : M Value:=
 bind (Γ QP [x1]) fun y1=>
 bind (uop .not y1) fun y2=>
 cnd y2
 (ret (Value.tuple #[x0,(Value.int .i64 10)]))
 (bind (Γ Zaw [x2]) fun y3=>
 bind (uop .not y3) fun y4=>
 cnd y4
 (ret (Value.tuple #[x0,(Value.int .i64 4)]))
 (bind (Γ WI [x0,x1]) fun y5=>
 bind (bop .int .geq y5 (Value.int .i64 0)) fun y6=>
 cnd y6
 (ret (Value.tuple #[x0,(Value.int .i64 9)]))
 (bind (Zx x0) fun y7=>
 bind (bop .int .geq y7 (Value.int .i64 12)) fun y8=>
 cnd y8
 (ret (Value.tuple #[x0,(Value.int .i64 7)]))
 (bind (bld (.agg #[.string ⟨#[]⟩,.string ⟨#[]⟩,.string ⟨#[]⟩,.bool false,.slice none 0 0]) [(0,1,x1),(1,1,x2)]) fun y9=>
 bind (Γ Zag [x0,y9]) fun y10=>
 ret (Value.tuple #[y10,(Value.int .i64 0)])))))
theorem Zpm : RA3 Za8 Zcv:=ra3 Tryz.func136 (by kernel_rfl) fun _ _ _ _=>by kernel_rfl
noncomputable def ZjN (Γ : Zc) (x0 : Value) : M Value:=
 bind (bop .str .eql x0 (Value.string ⟨#[]⟩)) fun y1=>
 bind (ZG y1 false 3 (bind (J0 x0) fun y2=>
 bind (bop .int .gtr y2 (Value.int .i64 12)) fun y3=>
 ret [x0,y2,y3])) (c3 fun _ _ q4_2=>
 bind (pick y1 (Value.bool true) q4_2) fun y5=>
 bind (ZG y5 false 4 (bind (Γ Wq [x0,(Value.func (.func 191) #[] #[])]) fun y6=>
 bind (uop .not y6) fun y7=>
 ret [x0,(Value.func (.func 191) #[] #[]),y6,y7])) (c4 fun _ _ _ q8_3=>
 bind (pick y5 (Value.bool true) q8_3) fun y9=>
 cnd y9
 (ret (Value.int .i64 4))
 (ret (Value.int .i64 0))))
theorem Zs6 : RA1 WH ZjN:=ra1 Tryz.func137 (by kernel_rfl) fun _ _=>by kernel_rfl
noncomputable def Zbb (Γ : Zc) (x0 x1 : Value) : M Value:=
 bind (Γ QP [x1]) fun y1=>
 bind (uop .not y1) fun y2=>
 cnd y2
 (ret (Value.tuple #[x0,(Value.int .i64 10)]))
 (bind (Γ WI [x0,x1]) fun y3=>
 bind (bop .int .lss y3 (Value.int .i64 0)) fun y4=>
 cnd y4
 (ret (Value.tuple #[x0,(Value.int .i64 8)]))
 (bind (Γ ZbB [x0,x1]) fun y5=>
 ret (Value.tuple #[y5,(Value.int .i64 0)])))
theorem Zp5 : RA2 Za9 Zbb:=ra2 Tryz.func138 (by kernel_rfl) fun _ _ _=>by kernel_rfl
noncomputable def Yh.l1 (Γ : Zc) (s0 s1 s5 s11 s12 s13 : Value) : M Out:=
 bind (bop .int .lss s13 s12) fun y3=>
 cnd y3
 (bind (ixa 1 s11 s13) fun y4=>
 bind (ld1 y4) fun y5=>
 bind (Qe s0) fun y6=>
 bind (fa 0 y6) fun y7=>
 bind (ld1 y7) fun y8=>
 bind (lkp .str (.map none) false y8 y5) fun y9=>
 bind (mde .str y9 s1) fun _=>
 bind (bop .int .add s13 (Value.int .i64 1)) fun y10=>
 ret (.nrm [s0,s1,s5,s11,s12,y10]))
 (ret (.ext 0 [s5]))
noncomputable def Yh (Γ : Zc) (x0 x1 : Value) : M Value:=
 bind (Γ J6 [x0,x1]) fun y1=>
 bind (Zx y1) fun y2=>
 jn (Zi (c6 (Yh.l1 Γ)) [x0,x1,y1,y1,y2,(Value.int .i64 0)]) noN (xk 0 (c1 fun q12_0=>
 bind (Zx q12_0) fun y13=>
 ret y13) noX) ret
theorem ZiT : RA2 Wx Yh:=ra2 Tryz.func139 (by kernel_rfl) fun _ _ _=>by kernel_rfl
noncomputable def ZcA (Γ : Zc) (x0 x1 : Value) : M Value:=
 bind (alc 1 x0) fun y1=>
 bind (alc 1 (.agg #[.string ⟨#[]⟩,.string ⟨#[]⟩,.string ⟨#[]⟩,.bool false,.slice none 0 0])) fun y2=>
 bind (Γ QP [x1]) fun y3=>
 bind (uop .not y3) fun y4=>
 cnd y4
 (bind (bld (.agg #[.string ⟨#[]⟩,.string ⟨#[]⟩,.string ⟨#[]⟩,.bool false,.slice none 0 0]) []) fun y5=>
 bind (stA 5 y2 y5) fun _=>
 bind (ldA 5 y2) fun y6=>
 ret (Value.tuple #[y6,(Value.int .i64 10)]))
 (bind (fa 0 y1) fun y7=>
 bind (ld1 y7) fun y8=>
 bind (Γ WI [y8,x1]) fun y9=>
 bind (bop .int .lss y9 (Value.int .i64 0)) fun y10=>
 cnd y10
 (bind (bld (.agg #[.string ⟨#[]⟩,.string ⟨#[]⟩,.string ⟨#[]⟩,.bool false,.slice none 0 0]) []) fun y11=>
 bind (stA 5 y2 y11) fun _=>
 bind (ldA 5 y2) fun y12=>
 ret (Value.tuple #[y12,(Value.int .i64 8)]))
 (bind (fa 0 y1) fun y13=>
 bind (ld1 y13) fun y14=>
 bind (ixa 5 y14 y9) fun y15=>
 bind (ldA 5 y15) fun y16=>
 bind (stA 5 y2 y16) fun _=>
 bind (ldA 5 y2) fun y17=>
 ret (Value.tuple #[y17,(Value.int .i64 0)])))
theorem ZsH : RA2 Yc ZcA:=ra2 Tryz.func140 (by kernel_rfl) fun _ _ _=>by kernel_rfl
noncomputable def Zig (Γ : Zc) (x0 : Value) : M Value:=
 bind (J0 x0) fun y1=>
 bind (bop .int .geq y1 (Value.int .i64 1)) fun y2=>
 bind (ZG y2 true 3 (bind (J0 x0) fun y3=>
 bind (bop .int .leq y3 (Value.int .i64 12)) fun y4=>
 ret [x0,y3,y4])) (c3 fun _ _ q5_2=>
 bind (pick y2 q5_2 (Value.bool false)) fun y6=>
 bind (ZG y6 true 2 (bind (Γ Zdk [x0,(Value.string ⟨#[48,49,50,51,52,53,54,55,56,57,97,98,99,100,101,102]⟩)]) fun y7=>
 ret [x0,y7])) (c2 fun _ q8_1=>
 bind (pick y6 q8_1 (Value.bool false)) fun y9=>
 ret y9))
theorem Zsf : RA1 Zaw Zig:=ra1 Tryz.func141 (by kernel_rfl) fun _ _=>by kernel_rfl
noncomputable def Zjb (Γ : Zc) (x0 x1 : Value) : M Value:=
 bind (alc 1 x0) fun y1=>
 bind (alc 1 x1) fun y2=>
 bind (alc 1 (.agg #[.slice none 0 0,.slice none 0 0])) fun y3=>
 bind (fa 0 y1) fun y4=>
 bind (ld1 y4) fun y5=>
 bind (ldA 5 y2) fun y6=>
 bind (Γ Zag [y5,y6]) fun y7=>
 bind (fa 0 y1) fun y8=>
 bind (st1 y8 y7) fun _=>
 bind (ldA 2 y1) fun y9=>
 bind (stA 2 y3 y9) fun _=>
 bind (ldA 2 y3) fun y10=>
 ret y10
theorem ZuT : RA2 WM Zjb:=ra2 Tryz.func142 (by kernel_rfl) fun _ _ _=>by kernel_rfl
noncomputable def Q9.l1 (Γ : Zc) (s0 s4 : Value) : M Out:=
 bind (J0 s0) fun y4=>
 bind (bop .int .lss s4 y4) fun y5=>
 bind (ZG y5 true 4 (bind (ixs s0 s4) fun y6=>
 bind (bop .int .neq y6 (Value.int .u8 64)) fun y7=>
 ret [s0,s4,y6,y7])) (c4 fun _ _ _ q8_3=>
 bind (pick y5 q8_3 (Value.bool false)) fun y9=>
 cnd y9
 (bind (bop .int .add s4 (Value.int .i64 1)) fun y10=>
 ret (.nrm [s0,y10]))
 (ret (.ext 0 [s0,s4])))
noncomputable def Q9.l2 (Γ : Zc) (s0 s5 s6 s7 : Value) : M Out:=
 bind (J0 s0) fun y21=>
 bind (bop .int .lss s7 y21) fun y22=>
 cnd y22
 (bind (ixs s0 s7) fun y23=>
 bind (bop .int .eql y23 (Value.int .u8 46)) fun y24=>
 jn (cnd y24
 (bind (bop .int .eql s6 (Value.int .i64 0)) fun y25=>
 cnd y25
 (ret (.ret (Value.tuple #[(Value.string ⟨#[]⟩),(Value.bool false)])))
 (bind (bop .int .add s5 (Value.int .i64 1)) fun y26=>
 ret (.nrm [s0,y26,(Value.int .i64 0),s7])))
 (bind (ixs s0 s7) fun y27=>
 bind (Γ Zao [y27,(Value.string ⟨#[97,98,99,100,101,102,103,104,105,106,107,108,109,110,111,112,113,114,115,116,117,118,119,120,121,122,48,49,50,51,52,53,54,55,56,57]⟩)]) fun y28=>
 bind (uop .not y28) fun y29=>
 cnd y29
 (ret (.ret (Value.tuple #[(Value.string ⟨#[]⟩),(Value.bool false)])))
 (bind (bop .int .add s6 (Value.int .i64 1)) fun y30=>
 ret (.nrm [s0,s5,y30,s7])))) (c4 fun q31_0 q31_1 q31_2 q31_3=>
 bind (bop .int .add q31_3 (Value.int .i64 1)) fun y32=>
 ret (.nrm [q31_0,q31_1,q31_2,y32])) noX Z5)
 (ret (.ext 2 [s0,s5,s6]))
noncomputable def Q9 (Γ : Zc) (x0 : Value) : M Value:=
 bind (J0 x0) fun y1=>
 bind (bop .int .gtr y1 (Value.int .i64 20)) fun y2=>
 cnd y2
 (ret (Value.tuple #[(Value.string ⟨#[]⟩),(Value.bool false)]))
 (bind (Γ ZdQ [x0]) fun y3=>
 jn (Zi (c2 (Q9.l1 Γ)) [y3,(Value.int .i64 0)]) noN (xk 0 (c2 fun q12_0 q12_1=>
 bind (J0 q12_0) fun y13=>
 bind (bop .int .eql q12_1 y13) fun y14=>
 bind (ZG y14 false 5 (bind (sls q12_0 none (some q12_1)) fun y15=>
 bind (Γ QP [y15]) fun y16=>
 bind (uop .not y16) fun y17=>
 ret [q12_0,q12_1,y15,y16,y17])) (c5 fun _ _ _ _ q18_4=>
 bind (pick y14 (Value.bool true) q18_4) fun y19=>
 cnd y19
 (ret (Value.tuple #[(Value.string ⟨#[]⟩),(Value.bool false)]))
 (bind (bop .int .add q12_1 (Value.int .i64 1)) fun y20=>
 jn (Zi (c4 (Q9.l2 Γ)) [q12_0,(Value.int .i64 0),(Value.int .i64 0),y20]) noN (xk 2 (c3 fun q35_0 q35_1 q35_2=>
 bind (bop .int .eql q35_1 (Value.int .i64 0)) fun y36=>
 bind (ZG y36 false 2 (bind (bop .int .eql q35_2 (Value.int .i64 0)) fun y37=>
 ret [q35_2,y37])) (c2 fun _ q38_1=>
 bind (pick y36 (Value.bool true) q38_1) fun y39=>
 cnd y39
 (ret (Value.tuple #[(Value.string ⟨#[]⟩),(Value.bool false)]))
 (ret (Value.tuple #[q35_0,(Value.bool true)])))) noX) ret))) noX) ret)
theorem Zso : RA1 Zby Q9:=ra1 Tryz.func143 (by kernel_rfl) fun _ _=>by kernel_rfl
noncomputable def Zah.l1 (Γ : Zc) (s3 s5 s6 s9 s10 s11 : Value) : M Out:=
 bind (bop .int .lss s11 s10) fun y3=>
 cnd y3
 (bind (ixa 5 s9 s11) fun y4=>
 bind (ldA 5 y4) fun y5=>
 bind (alc 1 (.agg #[.string ⟨#[]⟩,.string ⟨#[]⟩,.string ⟨#[]⟩,.bool false,.slice none 0 0])) fun y6=>
 bind (stA 5 y6 y5) fun _=>
 bind (uop .not s6) fun y7=>
 bind (ZG y7 true 5 (bind (fa 0 s3) fun y8=>
 bind (ld1 y8) fun y9=>
 bind (fa 0 y6) fun y10=>
 bind (ld1 y10) fun y11=>
 bind (bop .str .leq y9 y11) fun y12=>
 ret [y8,y9,y10,y11,y12])) (c5 fun _ _ _ _ q13_4=>
 bind (pick y7 q13_4 (Value.bool false)) fun y14=>
 jn (cnd y14
 (bind (ldA 5 s3) fun y15=>
 bind (bsl 5 1 (.agg #[.string ⟨#[]⟩,.string ⟨#[]⟩,.string ⟨#[]⟩,.bool false,.slice none 0 0]) [(0,5,y15)]) fun y16=>
 bind (app 5 80 s5 y16) fun y17=>
 ret (.nrm [s3,y17,(Value.bool true),y6,s9,s10,s11]))
 (ret (.nrm [s3,s5,s6,y6,s9,s10,s11]))) (c7 fun q18_0 q18_1 q18_2 q18_3 q18_4 q18_5 q18_6=>
 bind (fa 0 q18_3) fun y19=>
 bind (ld1 y19) fun y20=>
 bind (fa 0 q18_0) fun y21=>
 bind (ld1 y21) fun y22=>
 bind (bop .str .neq y20 y22) fun y23=>
 jn (cnd y23
 (bind (ldA 5 q18_3) fun y24=>
 bind (bsl 5 1 (.agg #[.string ⟨#[]⟩,.string ⟨#[]⟩,.string ⟨#[]⟩,.bool false,.slice none 0 0]) [(0,5,y24)]) fun y25=>
 bind (app 5 80 q18_1 y25) fun y26=>
 ret (.nrm [q18_0,y26,q18_2,q18_4,q18_5,q18_6]))
 (ret (.nrm [q18_0,q18_1,q18_2,q18_4,q18_5,q18_6]))) (c6 fun q27_0 q27_1 q27_2 q27_3 q27_4 q27_5=>
 bind (bop .int .add q27_5 (Value.int .i64 1)) fun y28=>
 ret (.nrm [q27_0,q27_1,q27_2,q27_3,q27_4,y28])) noX Z5) noX Z5))
 (ret (.ext 0 [s3,s5,s6]))
noncomputable def Zah (Γ : Zc) (x0 x1 : Value) : M Value:=
 bind (alc 1 x1) fun y1=>
 bind (Zx x0) fun y2=>
 jn (Zi (c6 (Zah.l1 Γ)) [y1,(Value.slice none 0 0),(Value.bool false),x0,y2,(Value.int .i64 0)]) noN (xk 0 (c3 fun q32_0 q32_1 q32_2=>
 bind (uop .not q32_2) fun y33=>
 jn (cnd y33
 (bind (ldA 5 q32_0) fun y34=>
 bind (bsl 5 1 (.agg #[.string ⟨#[]⟩,.string ⟨#[]⟩,.string ⟨#[]⟩,.bool false,.slice none 0 0]) [(0,5,y34)]) fun y35=>
 bind (app 5 80 q32_1 y35) fun y36=>
 ret (.nrm [y36]))
 (ret (.nrm [q32_1]))) (c1 fun q37_0=>
 ret q37_0) noX ret) noX) ret
theorem Zus : RA2 Zag Zah:=ra2 Tryz.func144 (by kernel_rfl) fun _ _ _=>by kernel_rfl
noncomputable def K2.l1 (Γ : Zc) (s1 s5 s8 s9 s10 : Value) : M Out:=
 bind (bop .int .lss s10 s9) fun y2=>
 cnd y2
 (bind (ixa 5 s8 s10) fun y3=>
 bind (ldA 5 y3) fun y4=>
 bind (alc 1 (.agg #[.string ⟨#[]⟩,.string ⟨#[]⟩,.string ⟨#[]⟩,.bool false,.slice none 0 0])) fun y5=>
 bind (stA 5 y5 y4) fun _=>
 bind (fa 0 y5) fun y6=>
 bind (ld1 y6) fun y7=>
 bind (bop .str .neq y7 s1) fun y8=>
 jn (cnd y8
 (bind (ldA 5 y5) fun y9=>
 bind (bsl 5 1 (.agg #[.string ⟨#[]⟩,.string ⟨#[]⟩,.string ⟨#[]⟩,.bool false,.slice none 0 0]) [(0,5,y9)]) fun y10=>
 bind (app 5 80 s5 y10) fun y11=>
 ret (.nrm [s1,y11,s8,s9,s10]))
 (ret (.nrm [s1,s5,s8,s9,s10]))) (c5 fun q12_0 q12_1 q12_2 q12_3 q12_4=>
 bind (bop .int .add q12_4 (Value.int .i64 1)) fun y13=>
 ret (.nrm [q12_0,q12_1,q12_2,q12_3,y13])) noX Z5)
 (ret (.ext 0 [s5]))
noncomputable def K2 (Γ : Zc) (x0 x1 : Value) : M Value:=
 bind (Zx x0) fun y1=>
 jn (Zi (c5 (K2.l1 Γ)) [x1,(Value.slice none 0 0),x0,y1,(Value.int .i64 0)]) noN (xk 0 (c1 fun q16_0=>
 ret q16_0) noX) ret
theorem Zr8 : RA2 ZbB K2:=ra2 Tryz.func145 (by kernel_rfl) fun _ _ _=>by kernel_rfl
noncomputable def Kk (Γ : Zc) (x0 x1 x2 : Value) : M Value:=
 bind (Γ QZ [x2]) fun y1=>
 bind (bop .int .neq y1 (Value.int .i64 0)) fun y2=>
 cnd y2
 (ret y1)
 (bind (Qe x0) fun y3=>
 bind (fa 1 y3) fun y4=>
 bind (ld1 y4) fun y5=>
 bind (lkp .str (.string ⟨#[]⟩) true y5 x1) fun y6=>
 bind (Zo y6 0) fun y7=>
 bind (Zo y6 1) fun y8=>
 bind (Qe x0) fun y9=>
 bind (fa 1 y9) fun y10=>
 bind (ld1 y10) fun y11=>
 bind (lkp .str (.string ⟨#[]⟩) true y11 x2) fun y12=>
 bind (Zo y12 0) fun y13=>
 bind (Zo y12 1) fun y14=>
 bind (uop .not y8) fun y15=>
 cnd y15
 (ret (Value.int .i64 8))
 (bind (ZG y14 true 3 (bind (bop .str .neq x2 x1) fun y16=>
 ret [x2,x1,y16])) (c3 fun _ _ q17_2=>
 bind (pick y14 q17_2 (Value.bool false)) fun y18=>
 cnd y18
 (ret (Value.int .i64 9))
 (bind (Γ JE [x0,x1]) fun y19=>
 bind (Qe x0) fun y20=>
 bind (fa 0 y20) fun y21=>
 bind (ld1 y21) fun y22=>
 bind (Qe x0) fun y23=>
 bind (fa 1 y23) fun y24=>
 bind (ld1 y24) fun y25=>
 bind (men .str (.string ⟨#[]⟩) y22 y7) fun y26=>
 bind (Zo y26 1) fun y27=>
 bind (ens y22 y27 x2) fun _=>
 bind (men .str (.string ⟨#[]⟩) y25 x2) fun y28=>
 bind (Zo y28 1) fun y29=>
 bind (ens y25 y29 y7) fun _=>
 ret (Value.int .i64 0)))))
theorem Zkp : RA3 Wl Kk:=ra3 Tryz.func146 (by kernel_rfl) fun _ _ _ _=>by kernel_rfl
noncomputable def QM.l1 (Γ : Zc) (s0 s1 s2 s26 s27 s28 : Value) : M Out:=
 bind (bop .int .lss s28 s27) fun y10=>
 cnd y10
 (bind (ixa 1 s26 s28) fun y11=>
 bind (ld1 y11) fun y12=>
 bind (Qe s0) fun y13=>
 bind (fa 0 y13) fun y14=>
 bind (ld1 y14) fun y15=>
 bind (lkp .str (.map none) false y15 y12) fun y16=>
 bind (mde .str y16 s1) fun _=>
 bind (Qe s0) fun y17=>
 bind (fa 0 y17) fun y18=>
 bind (ld1 y18) fun y19=>
 bind (lkp .str (.map none) false y19 y12) fun y20=>
 bind (bld (.agg #[]) []) fun y21=>
 bind (mup .str y20 s2 y21) fun _=>
 bind (bop .int .add s28 (Value.int .i64 1)) fun y22=>
 ret (.nrm [s0,s1,s2,s26,s27,y22]))
 (ret (.ext 0 []))
noncomputable def QM (Γ : Zc) (x0 x1 x2 : Value) : M Value:=
 bind (bsl 1 1 (.string ⟨#[]⟩) [(0,1,x2)]) fun y1=>
 bind (Γ ZaP [y1]) fun y2=>
 bind (bop .int .neq y2 (Value.int .i64 0)) fun y3=>
 cnd y3
 (ret y2)
 (bind (bop .str .eql x1 x2) fun y4=>
 cnd y4
 (ret (Value.int .i64 0))
 (bind (Γ J6 [x0,x2]) fun y5=>
 bind (Zx y5) fun y6=>
 bind (bop .int .gtr y6 (Value.int .i64 0)) fun y7=>
 cnd y7
 (ret (Value.int .i64 9))
 (bind (Γ J6 [x0,x1]) fun y8=>
 bind (Zx y8) fun y9=>
 jn (Zi (c6 (QM.l1 Γ)) [x0,x1,x2,y8,y9,(Value.int .i64 0)]) noN (xk 0 (c0 (ret (Value.int .i64 0))) noX) ret)))
theorem ZiS : RA3 Ks QM:=ra3 Tryz.func147 (by kernel_rfl) fun _ _ _ _=>by kernel_rfl
noncomputable def Zbx (Γ : Zc) (x0 x1 : Value) : M Value:=
 bind (alc 1 x0) fun y1=>
 bind (alc 1 (.agg #[.slice none 0 0,.slice none 0 0])) fun y2=>
 bind (Γ QP [x1]) fun y3=>
 bind (uop .not y3) fun y4=>
 cnd y4
 (bind (ldA 2 y1) fun y5=>
 bind (stA 2 y2 y5) fun _=>
 bind (ldA 2 y2) fun y6=>
 ret (Value.tuple #[y6,(Value.int .i64 10)]))
 (bind (fa 0 y1) fun y7=>
 bind (ld1 y7) fun y8=>
 bind (Γ Zad [y8,x1]) fun y9=>
 cnd y9
 (bind (ldA 2 y1) fun y10=>
 bind (stA 2 y2 y10) fun _=>
 bind (ldA 2 y2) fun y11=>
 ret (Value.tuple #[y11,(Value.int .i64 9)]))
 (bind (fa 0 y1) fun y12=>
 bind (ld1 y12) fun y13=>
 bind (Zx y13) fun y14=>
 bind (bop .int .geq y14 (Value.int .i64 6)) fun y15=>
 cnd y15
 (bind (ldA 2 y1) fun y16=>
 bind (stA 2 y2 y16) fun _=>
 bind (ldA 2 y2) fun y17=>
 ret (Value.tuple #[y17,(Value.int .i64 7)]))
 (bind (bsl 1 0 (.string ⟨#[]⟩) []) fun y18=>
 bind (fa 0 y1) fun y19=>
 bind (ld1 y19) fun y20=>
 bind (app 1 16 y18 y20) fun y21=>
 bind (bsl 1 1 (.string ⟨#[]⟩) [(0,1,x1)]) fun y22=>
 bind (app 1 16 y21 y22) fun y23=>
 bind (Γ W4 [y23]) fun y24=>
 bind (fa 0 y1) fun y25=>
 bind (st1 y25 y24) fun _=>
 bind (ldA 2 y1) fun y26=>
 bind (stA 2 y2 y26) fun _=>
 bind (ldA 2 y2) fun y27=>
 ret (Value.tuple #[y27,(Value.int .i64 0)]))))
theorem Zsd : RA2 ZdP Zbx:=ra2 Tryz.func148 (by kernel_rfl) fun _ _ _=>by kernel_rfl
noncomputable def Jh.l1 (Γ : Zc) (s1 s2 s4 s6 s23 s24 s25 : Value) : M Out:=
 bind (bop .int .lss s25 s24) fun y16=>
 cnd y16
 (bind (ixa 1 s23 s25) fun y17=>
 bind (ld1 y17) fun y18=>
 bind (bop .str .neq y18 s1) fun y19=>
 jn (cnd y19
 (bind (bsl 1 1 (.string ⟨#[]⟩) [(0,1,y18)]) fun y20=>
 bind (app 1 16 s6 y20) fun y21=>
 ret (.nrm [s1,s2,s4,y21,s23,s24,s25]))
 (ret (.nrm [s1,s2,s4,s6,s23,s24,s25]))) (c7 fun q22_0 q22_1 q22_2 q22_3 q22_4 q22_5 q22_6=>
 bind (bop .int .add q22_6 (Value.int .i64 1)) fun y23=>
 ret (.nrm [q22_0,q22_1,q22_2,q22_3,q22_4,q22_5,y23])) noX Z5)
 (ret (.ext 0 [s1,s2,s4,s6]))
noncomputable def Jh.l2 (Γ : Zc) (s1 s4 s6 s9 s38 s39 s40 : Value) : M Out:=
 bind (bop .int .lss s40 s39) fun y30=>
 cnd y30
 (bind (ixa 2 s38 s40) fun y31=>
 bind (ldA 2 y31) fun y32=>
 bind (alc 1 (.agg #[.string ⟨#[]⟩,.string ⟨#[]⟩])) fun y33=>
 bind (stA 2 y33 y32) fun _=>
 bind (fa 0 y33) fun y34=>
 bind (ld1 y34) fun y35=>
 bind (bop .str .neq y35 s1) fun y36=>
 jn (cnd y36
 (bind (ldA 2 y33) fun y37=>
 bind (bsl 2 1 (.agg #[.string ⟨#[]⟩,.string ⟨#[]⟩]) [(0,2,y37)]) fun y38=>
 bind (app 2 32 s9 y38) fun y39=>
 ret (.nrm [s1,s4,s6,y39,s38,s39,s40]))
 (ret (.nrm [s1,s4,s6,s9,s38,s39,s40]))) (c7 fun q40_0 q40_1 q40_2 q40_3 q40_4 q40_5 q40_6=>
 bind (bop .int .add q40_6 (Value.int .i64 1)) fun y41=>
 ret (.nrm [q40_0,q40_1,q40_2,q40_3,q40_4,q40_5,y41])) noX Z5)
 (ret (.ext 2 [s4,s6,s9]))
noncomputable def Jh (Γ : Zc) (x0 x1 : Value) : M Value:=
 bind (alc 1 x0) fun y1=>
 bind (alc 1 (.agg #[.slice none 0 0,.slice none 0 0])) fun y2=>
 bind (Γ QP [x1]) fun y3=>
 bind (uop .not y3) fun y4=>
 cnd y4
 (bind (ldA 2 y1) fun y5=>
 bind (stA 2 y2 y5) fun _=>
 bind (ldA 2 y2) fun y6=>
 ret (Value.tuple #[y6,(Value.int .i64 10)]))
 (bind (fa 0 y1) fun y7=>
 bind (ld1 y7) fun y8=>
 bind (Γ Zad [y8,x1]) fun y9=>
 bind (uop .not y9) fun y10=>
 cnd y10
 (bind (ldA 2 y1) fun y11=>
 bind (stA 2 y2 y11) fun _=>
 bind (ldA 2 y2) fun y12=>
 ret (Value.tuple #[y12,(Value.int .i64 8)]))
 (bind (fa 0 y1) fun y13=>
 bind (ld1 y13) fun y14=>
 bind (Zx y14) fun y15=>
 jn (Zi (c7 (Jh.l1 Γ)) [x1,y1,y2,(Value.slice none 0 0),y14,y15,(Value.int .i64 0)]) noN (xk 0 (c4 fun q26_0 q26_1 q26_2 q26_3=>
 bind (fa 1 q26_1) fun y27=>
 bind (ld1 y27) fun y28=>
 bind (Zx y28) fun y29=>
 jn (Zi (c7 (Jh.l2 Γ)) [q26_0,q26_2,q26_3,(Value.slice none 0 0),y28,y29,(Value.int .i64 0)]) noN (xk 2 (c3 fun q44_0 q44_1 q44_2=>
 bind (bld (.agg #[.slice none 0 0,.slice none 0 0]) [(0,1,q44_1),(1,1,q44_2)]) fun y45=>
 bind (stA 2 q44_0 y45) fun _=>
 bind (ldA 2 q44_0) fun y46=>
 ret (Value.tuple #[y46,(Value.int .i64 0)])) noX) ret) noX) ret))
theorem Zsw : RA2 ZdK Jh:=ra2 Tryz.func149 (by kernel_rfl) fun _ _ _=>by kernel_rfl
noncomputable def YF.l1 (Γ : Zc) (s1 s5 s8 s9 s10 : Value) : M Out:=
 bind (bop .int .lss s10 s9) fun y2=>
 cnd y2
 (bind (ixa 1 s8 s10) fun y3=>
 bind (ld1 y3) fun y4=>
 bind (bop .str .neq y4 s1) fun y5=>
 jn (cnd y5
 (bind (bsl 1 1 (.string ⟨#[]⟩) [(0,1,y4)]) fun y6=>
 bind (app 1 16 s5 y6) fun y7=>
 ret (.nrm [s1,y7,s8,s9,s10]))
 (ret (.nrm [s1,s5,s8,s9,s10]))) (c5 fun q8_0 q8_1 q8_2 q8_3 q8_4=>
 bind (bop .int .add q8_4 (Value.int .i64 1)) fun y9=>
 ret (.nrm [q8_0,q8_1,q8_2,q8_3,y9])) noX Z5)
 (ret (.ext 0 [s5]))
noncomputable def YF (Γ : Zc) (x0 x1 : Value) : M Value:=
 bind (Zx x0) fun y1=>
 jn (Zi (c5 (YF.l1 Γ)) [x1,(Value.slice none 0 0),x0,y1,(Value.int .i64 0)]) noN (xk 0 (c1 fun q12_0=>
 ret q12_0) noX) ret
theorem ZnW : RA2 ZaA YF:=ra2 Tryz.func150 (by kernel_rfl) fun _ _ _=>by kernel_rfl
noncomputable def W8 (Γ : Zc) (x0 x1 : Value) : M Value:=
 bind (Γ Yl [x0,x1,(Value.slice none 0 0)]) fun y1=>
 bind (Zo y1 0) fun y2=>
 bind (Zo y1 1) fun y3=>
 bind (bop .int .eql y3 (Value.int .i64 0)) fun y4=>
 jn (cnd y4
 (bind (Qe x0) fun y5=>
 bind (fa 0 y5) fun y6=>
 bind (ld1 y6) fun y7=>
 bind (mde .str y7 x1) fun _=>
 ret (.nrm [y3]))
 (ret (.nrm [y3]))) (c1 fun q8_0=>
 ret q8_0) noX ret
theorem Zkf : RA2 Wi W8:=ra2 Tryz.func151 (by kernel_rfl) fun _ _ _=>by kernel_rfl
noncomputable def Zgp (Γ : Zc) (x0 x1 x2 : Value) : M Value:=
 bind (alc 1 x0) fun y1=>
 bind (alc 1 (.agg #[.string ⟨#[]⟩,.string ⟨#[]⟩,.string ⟨#[]⟩,.bool false,.slice none 0 0])) fun y2=>
 bind (ldA 2 y1) fun y3=>
 bind (Γ Yc [y3,x2]) fun y4=>
 bind (Zo y4 0) fun y5=>
 bind (Zo y4 1) fun y6=>
 bind (alc 1 (.agg #[.string ⟨#[]⟩,.string ⟨#[]⟩,.string ⟨#[]⟩,.bool false,.slice none 0 0])) fun y7=>
 bind (stA 5 y7 y5) fun _=>
 bind (bop .int .eql y6 (Value.int .i64 10)) fun y8=>
 bind (ZG y8 false 3 (bind (Γ QP [x1]) fun y9=>
 bind (uop .not y9) fun y10=>
 ret [x1,y9,y10])) (c3 fun _ _ q11_2=>
 bind (pick y8 (Value.bool true) q11_2) fun y12=>
 cnd y12
 (bind (ldA 5 y7) fun y13=>
 bind (stA 5 y2 y13) fun _=>
 bind (ldA 5 y2) fun y14=>
 ret (Value.tuple #[y14,(Value.int .i64 10)]))
 (bind (bop .int .neq y6 (Value.int .i64 0)) fun y15=>
 bind (ZG y15 false 5 (bind (fa 1 y1) fun y16=>
 bind (ld1 y16) fun y17=>
 bind (Γ K3 [y17,x1]) fun y18=>
 bind (uop .not y18) fun y19=>
 ret [y16,y17,x1,y18,y19])) (c5 fun _ _ _ _ q20_4=>
 bind (pick y15 (Value.bool true) q20_4) fun y21=>
 cnd y21
 (bind (ldA 5 y7) fun y22=>
 bind (stA 5 y2 y22) fun _=>
 bind (ldA 5 y2) fun y23=>
 ret (Value.tuple #[y23,(Value.int .i64 8)]))
 (bind (ldA 5 y7) fun y24=>
 bind (stA 5 y2 y24) fun _=>
 bind (ldA 5 y2) fun y25=>
 ret (Value.tuple #[y25,(Value.int .i64 0)])))))
theorem ZpB : RA3 Zba Zgp:=ra3 Tryz.func152 (by kernel_rfl) fun _ _ _ _=>by kernel_rfl
noncomputable def Jj.l2 (Γ : Zc) (s5 s6 s7 s10 s11 s12 s19 s20 s21 : Value) : M Out:=
 bind (bop .int .lss s21 s20) fun y7=>
 cnd y7
 (bind (ixa 1 s19 s21) fun y8=>
 bind (ld1 y8) fun y9=>
 bind (uop .not s7) fun y10=>
 bind (ZG y10 true 3 (bind (bop .str .lss s5 y9) fun y11=>
 ret [s5,y9,y11])) (c3 fun _ _ q12_2=>
 bind (pick y10 q12_2 (Value.bool false)) fun y13=>
 jn (cnd y13
 (bind (bsl 1 1 (.string ⟨#[]⟩) [(0,1,s5)]) fun y14=>
 bind (app 1 16 s6 y14) fun y15=>
 ret (.nrm [s5,y15,(Value.bool true),y9,s10,s11,s12,s19,s20,s21]))
 (ret (.nrm [s5,s6,s7,y9,s10,s11,s12,s19,s20,s21]))) (c10 fun q16_0 q16_1 q16_2 q16_3 q16_4 q16_5 q16_6 q16_7 q16_8 q16_9=>
 bind (bsl 1 1 (.string ⟨#[]⟩) [(0,1,q16_3)]) fun y17=>
 bind (app 1 16 q16_1 y17) fun y18=>
 bind (bop .int .add q16_9 (Value.int .i64 1)) fun y19=>
 ret (.nrm [q16_0,y18,q16_2,q16_4,q16_5,q16_6,q16_7,q16_8,y19])) noX Z5))
 (ret (.ext 2 [s5,s6,s7,s10,s11,s12]))
noncomputable def Jj.l1 (Γ : Zc) (s3 s10 s11 s12 : Value) : M Out:=
 bind (bop .int .lss s12 s11) fun y2=>
 cnd y2
 (jn (bind (ixa 1 s10 s12) fun y3=>
 bind (ld1 y3) fun y4=>
 bind (Γ Zad [s3,y4]) fun y5=>
 cnd y5
 (ret (.nrm [s3,s10,s11,s12]))
 (bind (Zx s3) fun y6=>
 jn (Zi (c9 (Jj.l2 Γ)) [y4,(Value.slice none 0 0),(Value.bool false),s10,s11,s12,s3,y6,(Value.int .i64 0)]) noN (xk 2 (c6 fun q22_0 q22_1 q22_2 q22_3 q22_4 q22_5=>
 bind (uop .not q22_2) fun y23=>
 jn (cnd y23
 (bind (bsl 1 1 (.string ⟨#[]⟩) [(0,1,q22_0)]) fun y24=>
 bind (app 1 16 q22_1 y24) fun y25=>
 ret (.nrm [y25,q22_3,q22_4,q22_5]))
 (ret (.nrm [q22_1,q22_3,q22_4,q22_5]))) (c4 fun q26_0 q26_1 q26_2 q26_3=>
 ret (.nrm [q26_0,q26_1,q26_2,q26_3])) noX Z5) noX) Z5)) (c4 fun q29_0 q29_1 q29_2 q29_3=>
 bind (bop .int .add q29_3 (Value.int .i64 1)) fun y30=>
 ret (.nrm [q29_0,q29_1,q29_2,y30])) noX Z5)
 (ret (.ext 0 [s3]))
noncomputable def Jj (Γ : Zc) (x0 : Value) : M Value:=
 bind (Zx x0) fun y1=>
 jn (Zi (c4 (Jj.l1 Γ)) [(Value.slice none 0 0),x0,y1,(Value.int .i64 0)]) noN (xk 0 (c1 fun q33_0=>
 ret q33_0) noX) ret
theorem Zo4 : RA1 W4 Jj:=ra1 Tryz.func153 (by kernel_rfl) fun _ _=>by kernel_rfl
noncomputable def ZaX (Γ : Zc) (x0 x1 x2 : Value) : M Value:=
 bind (Γ QZ [x1]) fun y1=>
 bind (bop .int .neq y1 (Value.int .i64 0)) fun y2=>
 cnd y2
 (ret y1)
 (bind (Γ Q4 [x0,x2]) fun y3=>
 bind (Zo y3 0) fun y4=>
 bind (Zo y3 1) fun y5=>
 bind (alc 1 (.agg #[.string ⟨#[]⟩,.bool false])) fun y6=>
 bind (stA 2 y6 y4) fun _=>
 ret y5)
theorem Zl9 : RA3 Wz ZaX:=ra3 Tryz.func154 (by kernel_rfl) fun _ _ _ _=>by kernel_rfl
noncomputable def KQ (Γ : Zc) (x0 x1 x2 : Value) : M Value:=
 bind (bsl 1 1 (.string ⟨#[]⟩) [(0,1,x2)]) fun y1=>
 bind (Γ Yl [x0,x1,y1]) fun y2=>
 bind (Zo y2 0) fun y3=>
 bind (Zo y2 1) fun y4=>
 bind (bop .int .neq y4 (Value.int .i64 0)) fun y5=>
 cnd y5
 (ret y4)
 (bind (lkp .str (.agg #[]) true y3 x2) fun y6=>
 bind (Zo y6 0) fun y7=>
 bind (Zo y6 1) fun y8=>
 bind (alc 1 (.agg #[])) fun y9=>
 bind (stA 0 y9 y7) fun _=>
 bind (uop .not y8) fun y10=>
 cnd y10
 (ret (Value.int .i64 12))
 (bind (mde .str y3 x2) fun _=>
 ret (Value.int .i64 0)))
theorem Zjc : RA3 KX KQ:=ra3 Tryz.func155 (by kernel_rfl) fun _ _ _ _=>by kernel_rfl
noncomputable def Ze7 (Γ : Zc) (x0 : Value) : M Value:=
 bind (Qe x0) fun y1=>
 bind (fa 0 y1) fun y2=>
 bind (ld1 y2) fun y3=>
 bind (Qe x0) fun y4=>
 bind (fa 1 y4) fun y5=>
 bind (ld1 y5) fun y6=>
 bind (Γ QB [y3]) fun y7=>
 bind (ld1 y5) fun u_8=>same u_8 y6 <|
 bind (Γ QB [y6]) fun y9=>
 bind (bld (.agg #[.map none,.map none]) [(0,1,y7),(1,1,y9)]) fun y10=>
 bind (alc 1 y10) fun y11=>
 ret y11
theorem Zna : RA1 Zbv Ze7:=ra1 Tryz.func157 (by kernel_rfl) fun _ _=>by kernel_rfl
noncomputable def ZpJ.l1 (Γ : Zc) (s0 s5 s6 s7 : Value) : M Out:=
 bind (bop .int .lss s7 s6) fun y1=>
 cnd y1
 (bind (bop .int .rem s0 (Value.int .u64 256)) fun y2=>
 bind (cvi .u8 y2) fun y3=>
 bind (bsl 1 1 (.int .u8 0) [(0,1,y3)]) fun y4=>
 bind (b2s y4) fun y5=>
 bind (bop .str .add s5 y5) fun y6=>
 bind (bop .int .quo s0 (Value.int .u64 256)) fun y7=>
 bind (bop .int .add s7 (Value.int .i64 1)) fun y8=>
 ret (.nrm [y7,y6,s6,y8]))
 (ret (.ext 0 [s5]))
noncomputable def ZpJ (Γ : Zc) (x0 x1 : Value) : M Value:=
 jn (Zi (c4 (ZpJ.l1 Γ)) [x0,(Value.string ⟨#[]⟩),x1,(Value.int .i64 0)]) noN (xk 0 (c1 fun q10_0=>
 ret q10_0) noX) ret
noncomputable def ZhU.l1 (Γ : Zc) (s1 s2 s4 s7 s24 s25 : Value) : M Out:=
 bind (bop .int .lss s25 s24) fun y16=>
 cnd y16
 (bind (ldA 2 s2) fun y17=>
 bind (Γ ZoR [y17,s1]) fun y18=>
 bind (Zo y18 0) fun y19=>
 bind (Zo y18 1) fun y20=>
 bind (alc 1 (.agg #[.string ⟨#[]⟩,.int .i64 0])) fun y21=>
 bind (alc 1 (.agg #[.string ⟨#[]⟩,.string ⟨#[]⟩,.string ⟨#[]⟩,.bool false,.slice none 0 0])) fun y22=>
 bind (stA 2 y21 y19) fun _=>
 bind (stA 5 y22 y20) fun _=>
 bind (ldA 2 y21) fun y23=>
 bind (stA 2 s2 y23) fun _=>
 bind (ldA 5 y22) fun y24=>
 bind (bsl 5 1 (.agg #[.string ⟨#[]⟩,.string ⟨#[]⟩,.string ⟨#[]⟩,.bool false,.slice none 0 0]) [(0,5,y24)]) fun y25=>
 bind (app 5 80 s7 y25) fun y26=>
 bind (bop .int .add s25 (Value.int .u64 1)) fun y27=>
 ret (.nrm [s1,s2,s4,y26,s24,y27]))
 (ret (.ext 0 [s1,s2,s4,s7]))
noncomputable def ZhU (Γ : Zc) (x0 x1 : Value) : M Value:=
 bind (alc 1 x0) fun y1=>
 bind (alc 1 (.agg #[.string ⟨#[]⟩,.int .i64 0])) fun y2=>
 bind (ldA 2 y1) fun y3=>
 bind (Γ Zja [y3,(Value.int .i64 2)]) fun y4=>
 bind (Zo y4 0) fun y5=>
 bind (Zo y4 1) fun y6=>
 bind (stA 2 y1 y5) fun _=>
 bind (fa 1 y1) fun y7=>
 bind (ld1 y7) fun y8=>
 bind (bop .int .eql y8 (Value.int .i64 0)) fun y9=>
 bind (ZG y9 true 2 (bind (bop .int .gtr y6 (Value.int .u64 12)) fun y10=>
 ret [y6,y10])) (c2 fun _ q11_1=>
 bind (pick y9 q11_1 (Value.bool false)) fun y12=>
 cnd y12
 (bind (ldA 2 y1) fun y13=>
 bind (Γ Znj [y13,(Value.int .i64 7)]) fun y14=>
 bind (stA 2 y2 y14) fun _=>
 bind (ldA 2 y2) fun y15=>
 ret (Value.tuple #[y15,(Value.slice none 0 0)]))
 (jn (Zi (c6 (ZhU.l1 Γ)) [x1,y1,y2,(Value.slice none 0 0),y6,(Value.int .u64 0)]) noN (xk 0 (c4 fun q29_0 q29_1 q29_2 q29_3=>
 bind (fa 1 q29_1) fun y30=>
 bind (ld1 y30) fun y31=>
 bind (bop .int .eql y31 (Value.int .i64 0)) fun y32=>
 jn (cnd y32
 (bind (ldA 2 q29_1) fun y33=>
 bind (Γ ZrV [q29_3,q29_0]) fun y34=>
 bind (ldA 2 q29_1) fun u_35=>same u_35 y33 <|
 bind (Γ Znj [y33,y34]) fun y36=>
 bind (stA 2 q29_1 y36) fun _=>
 ret (.nrm [q29_1,q29_2,q29_3]))
 (ret (.nrm [q29_1,q29_2,q29_3]))) (c3 fun q37_0 q37_1 q37_2=>
 bind (fa 1 q37_0) fun y38=>
 bind (ld1 y38) fun y39=>
 bind (bop .int .neq y39 (Value.int .i64 0)) fun y40=>
 cnd y40
 (bind (ldA 2 q37_0) fun y41=>
 bind (stA 2 q37_1 y41) fun _=>
 bind (ldA 2 q37_1) fun y42=>
 ret (Value.tuple #[y42,(Value.slice none 0 0)]))
 (bind (ldA 2 q37_0) fun y43=>
 bind (stA 2 q37_1 y43) fun _=>
 bind (ldA 2 q37_1) fun y44=>
 ret (Value.tuple #[y44,q37_2]))) noX ret) noX) ret))
noncomputable def Zd6 (Γ : Zc) (x0 x1 x2 : Value) : M Value:=
 bind (ld1 x1) fun y1=>
 bind (Qe y1) fun y2=>
 bind (fa 0 y2) fun y3=>
 bind (ld1 y3) fun y4=>
 bind (lkp .str (.map none) false y4 x0) fun y5=>
 bind (ld1 x2) fun y6=>
 bind (lkp .str (.agg #[]) true y5 y6) fun y7=>
 bind (Zo y7 0) fun y8=>
 bind (Zo y7 1) fun y9=>
 bind (alc 1 (.agg #[])) fun y10=>
 bind (lkp .str (.agg #[]) true y5 y6) fun u_11=>same u_11 y7 <|
 bind (ld1 x2) fun u_12=>same u_12 y6 <|
 bind (lkp .str (.map none) false y4 x0) fun u_13=>same u_13 y5 <|
 bind (ld1 y3) fun u_14=>same u_14 y4 <|
 bind (ld1 x1) fun u_15=>same u_15 y1 <|
 bind (stA 0 y10 y8) fun _=>
 bind (uop .not y9) fun y16=>
 ret y16
theorem Zk5 : RA3 KM Zd6:=ra3 Tryz.func166 (by kernel_rfl) fun _ _ _ _=>by kernel_rfl
noncomputable def Zau.l1 (Γ : Zc) (s0 s1 s7 s8 : Value) : M Out:=
 bind (bop .int .lss s8 s7) fun y2=>
 cnd y2
 (bind (ixs s0 s8) fun y3=>
 bind (Jv Γ s1 [y3]) fun y4=>
 bind (uop .not y4) fun y5=>
 cnd y5
 (ret (.ret (Value.bool false)))
 (bind (bop .int .add s8 (Value.int .i64 1)) fun y6=>
 ret (.nrm [s0,s1,s7,y6])))
 (ret (.ext 0 []))
noncomputable def Zau (Γ : Zc) (x0 x1 : Value) : M Value:=
 bind (J0 x0) fun y1=>
 jn (Zi (c4 (Zau.l1 Γ)) [x0,x1,y1,(Value.int .i64 0)]) noN (xk 0 (c0 (ret (Value.bool true))) noX) ret
theorem Zvz : RA2 Wq Zau:=ra2 Tryz.func167 (by kernel_rfl) fun _ _ _=>by kernel_rfl
noncomputable def Zi4 (Γ : Zc) (x0 : Value) : M Value:=
 bind (Γ Kb [x0]) fun y1=>
 bind (ZG y1 false 2 (bind (Γ Kx [x0]) fun y2=>
 ret [x0,y2])) (c2 fun _ q3_1=>
 bind (pick y1 (Value.bool true) q3_1) fun y4=>
 bind (ZG y4 false 2 (bind (bop .int .eql x0 (Value.int .u8 45)) fun y5=>
 ret [x0,y5])) (c2 fun _ q6_1=>
 bind (pick y4 (Value.bool true) q6_1) fun y7=>
 bind (ZG y7 false 2 (bind (bop .int .eql x0 (Value.int .u8 46)) fun y8=>
 ret [x0,y8])) (c2 fun _ q9_1=>
 bind (pick y7 (Value.bool true) q9_1) fun y10=>
 ret y10)))
theorem ZuO : RA1 ZeD Zi4:=ra1 Tryz.func168 (by kernel_rfl) fun _ _=>by kernel_rfl
noncomputable def ZL.l1 (Γ : Zc) (s0 s1 s7 s8 : Value) : M Out:=
 bind (bop .int .lss s8 s7) fun y2=>
 cnd y2
 (bind (ixa 1 s0 s8) fun y3=>
 bind (ld1 y3) fun y4=>
 bind (Jv Γ s1 [y4]) fun y5=>
 cnd y5
 (ret (.ret s8))
 (bind (bop .int .add s8 (Value.int .i64 1)) fun y6=>
 ret (.nrm [s0,s1,s7,y6])))
 (ret (.ext 0 []))
noncomputable def ZL (Γ : Zc) (x0 x1 : Value) : M Value:=
 bind (Zx x0) fun y1=>
 jn (Zi (c4 (ZL.l1 Γ)) [x0,x1,y1,(Value.int .i64 0)]) noN (xk 0 (c0 (ret (Value.int .i64 (-1)))) noX) ret
theorem Zey : RA2 Yf ZL:=ra2 Tryz.func169 (by kernel_rfl) fun _ _ _=>by kernel_rfl
noncomputable def YU (Γ : Zc) (x0 : Value) : M Value:=
 bind (alc 1 x0) fun y1=>
 ret (Value.func (.func 202) #[] #[y1])
theorem Zcm : RA1 JV YU:=ra1 Tryz.func171 (by kernel_rfl) fun _ _=>by kernel_rfl
noncomputable def Zgs (Γ : Zc) (x0 x1 : Value) : M Value:=
 bind (Γ Zbr [x0,x1]) fun y1=>
 ret y1
theorem ZpX : RA2 Qv Zgs:=ra2 Tryz.func172 (by kernel_rfl) fun _ _ _=>by kernel_rfl
noncomputable def Jz (Γ : Zc) (x0 : Value) : M Value:=
 bind (alc 1 x0) fun y1=>
 ret (Value.func (.func 204) #[] #[y1])
theorem W9 : RA1 QO Jz:=ra1 Tryz.func174 (by kernel_rfl) fun _ _=>by kernel_rfl
noncomputable def Yd.l1 (Γ : Zc) (s5 s6 s7 : Value) : M Out:=
 bind (bop .int .lss s7 s6) fun y2=>
 cnd y2
 (bind (ixa 1 s5 s7) fun y3=>
 bind (ld1 y3) fun y4=>
 bind (bop .int .neq y4 (Value.int .i64 0)) fun y5=>
 cnd y5
 (ret (.ret y4))
 (bind (bop .int .add s7 (Value.int .i64 1)) fun y6=>
 ret (.nrm [s5,s6,y6])))
 (ret (.ext 0 []))
noncomputable def Yd (Γ : Zc) (x0 : Value) : M Value:=
 bind (Zx x0) fun y1=>
 jn (Zi (c3 (Yd.l1 Γ)) [x0,y1,(Value.int .i64 0)]) noN (xk 0 (c0 (ret (Value.int .i64 0))) noX) ret
theorem ZsA : RA1 WK Yd:=ra1 Tryz.func175 (by kernel_rfl) fun _ _=>by kernel_rfl
noncomputable def Ze5 (Γ : Zc) (x0 : Value) : M Value:=
 bind (bop .str .eql x0 (Value.string ⟨#[]⟩)) fun y1=>
 cnd y1
 (ret (Value.int .i64 0))
 (bind (Γ Zbp [x0]) fun y2=>
 bind (Zo y2 0) fun y3=>
 bind (Zo y2 1) fun y4=>
 bind (bop .int .neq y4 (Value.int .i64 0)) fun y5=>
 bind (ZG y5 false 3 (bind (bop .str .neq y3 x0) fun y6=>
 ret [y3,x0,y6])) (c3 fun _ _ q7_2=>
 bind (pick y5 (Value.bool true) q7_2) fun y8=>
 cnd y8
 (ret (Value.int .i64 11))
 (ret (Value.int .i64 0))))
theorem ZtB : RA1 ZeN Ze5:=ra1 Tryz.func176 (by kernel_rfl) fun _ _=>by kernel_rfl
noncomputable def JG.l1 (Γ : Zc) (s0 s10 s11 s12 : Value) : M Out:=
 bind (bop .int .lss s12 s11) fun y4=>
 cnd y4
 (bind (ixa 1 s10 s12) fun y5=>
 bind (ld1 y5) fun y6=>
 bind (Γ QZ [y6]) fun y7=>
 bind (bop .int .neq y7 (Value.int .i64 0)) fun y8=>
 cnd y8
 (ret (.ret y7))
 (bind (bop .int .add s12 (Value.int .i64 1)) fun y9=>
 ret (.nrm [s0,s10,s11,y9])))
 (ret (.ext 0 [s0]))
noncomputable def JG.l2 (Γ : Zc) (s0 s6 : Value) : M Out:=
 bind (Zx s0) fun y12=>
 bind (bop .int .lss s6 y12) fun y13=>
 cnd y13
 (bind (bop .int .sub s6 (Value.int .i64 1)) fun y14=>
 bind (ixa 1 s0 y14) fun y15=>
 bind (ld1 y15) fun y16=>
 bind (ixa 1 s0 s6) fun y17=>
 bind (ld1 y17) fun y18=>
 bind (bop .str .geq y16 y18) fun y19=>
 cnd y19
 (ret (.ret (Value.int .i64 9)))
 (bind (bop .int .add s6 (Value.int .i64 1)) fun y20=>
 ret (.nrm [s0,y20])))
 (ret (.ext 2 []))
noncomputable def JG (Γ : Zc) (x0 : Value) : M Value:=
 bind (Zx x0) fun y1=>
 bind (bop .int .gtr y1 (Value.int .i64 6)) fun y2=>
 cnd y2
 (ret (Value.int .i64 7))
 (bind (Zx x0) fun y3=>
 jn (Zi (c4 (JG.l1 Γ)) [x0,x0,y3,(Value.int .i64 0)]) noN (xk 0 (c1 fun q11_0=>
 jn (Zi (c2 (JG.l2 Γ)) [q11_0,(Value.int .i64 1)]) noN (xk 2 (c0 (ret (Value.int .i64 0))) noX) ret) noX) ret)
theorem Zrm : RA1 Zdh JG:=ra1 Tryz.func177 (by kernel_rfl) fun _ _=>by kernel_rfl
noncomputable def Zdi (Γ : Zc) (x0 : Value) : M Value:=
 bind (bop .str .eql x0 (Value.string ⟨#[]⟩)) fun y1=>
 bind (ZG y1 false 3 (bind (J0 x0) fun y2=>
 bind (bop .int .gtr y2 (Value.int .i64 12)) fun y3=>
 ret [x0,y2,y3])) (c3 fun _ _ q4_2=>
 bind (pick y1 (Value.bool true) q4_2) fun y5=>
 bind (ZG y5 false 4 (bind (ixs x0 (Value.int .i64 0)) fun y6=>
 bind (Γ Kb [y6]) fun y7=>
 bind (uop .not y7) fun y8=>
 ret [x0,y6,y7,y8])) (c4 fun _ _ _ q9_3=>
 bind (pick y5 (Value.bool true) q9_3) fun y10=>
 bind (ZG y10 false 3 (bind (Γ Wq [x0,(Value.func (.func 168) #[] #[])]) fun y11=>
 bind (uop .not y11) fun y12=>
 ret [x0,y11,y12])) (c3 fun _ _ q13_2=>
 bind (pick y10 (Value.bool true) q13_2) fun y14=>
 cnd y14
 (ret (Value.bool false))
 (bind (J0 x0) fun y15=>
 bind (bop .int .sub y15 (Value.int .i64 1)) fun y16=>
 bind (ixs x0 y16) fun y17=>
 bind (Γ Kb [y17]) fun y18=>
 bind (ZG y18 false 2 (bind (Γ Kx [y17]) fun y19=>
 ret [y17,y19])) (c2 fun _ q20_1=>
 bind (pick y18 (Value.bool true) q20_1) fun y21=>
 ret y21)))))
theorem Zq6 : RA1 ZaJ Zdi:=ra1 Tryz.func178 (by kernel_rfl) fun _ _=>by kernel_rfl
noncomputable def K9.l1 (Γ : Zc) (s6 s7 s8 : Value) : M Out:=
 bind (bop .int .lss s8 s7) fun y2=>
 cnd y2
 (bind (ixa 1 s6 s8) fun y3=>
 bind (ld1 y3) fun y4=>
 bind (Γ QZ [y4]) fun y5=>
 bind (bop .int .neq y5 (Value.int .i64 0)) fun y6=>
 cnd y6
 (ret (.ret y5))
 (bind (bop .int .add s8 (Value.int .i64 1)) fun y7=>
 ret (.nrm [s6,s7,y7])))
 (ret (.ext 0 []))
noncomputable def K9 (Γ : Zc) (x0 : Value) : M Value:=
 bind (Zx x0) fun y1=>
 jn (Zi (c3 (K9.l1 Γ)) [x0,y1,(Value.int .i64 0)]) noN (xk 0 (c0 (ret (Value.int .i64 0))) noX) ret
theorem Zq8 : RA1 ZaP K9:=ra1 Tryz.func179 (by kernel_rfl) fun _ _=>by kernel_rfl
noncomputable def WO.l1 (Γ : Zc) (s3 s8 s9 s10 : Value) : M Out:=
 bind (bop .int .lss s10 s9) fun y3=>
 cnd y3
 (bind (ixa 1 s8 s10) fun y4=>
 bind (ld1 y4) fun y5=>
 bind (bop .int .geq y5 (Value.int .u8 65)) fun y6=>
 bind (ZG y6 true 2 (bind (bop .int .leq y5 (Value.int .u8 90)) fun y7=>
 ret [y5,y7])) (c2 fun _ q8_1=>
 bind (pick y6 q8_1 (Value.bool false)) fun y9=>
 jn (cnd y9
 (bind (bop .int .add y5 (Value.int .u8 97)) fun y10=>
 bind (bop .int .sub y10 (Value.int .u8 65)) fun y11=>
 bind (ixa 1 s3 s10) fun y12=>
 bind (st1 y12 y11) fun _=>
 ret (.nrm [s3,s8,s9,s10]))
 (ret (.nrm [s3,s8,s9,s10]))) (c4 fun q13_0 q13_1 q13_2 q13_3=>
 bind (bop .int .add q13_3 (Value.int .i64 1)) fun y14=>
 ret (.nrm [q13_0,q13_1,q13_2,y14])) noX Z5))
 (ret (.ext 0 [s3]))
noncomputable def WO (Γ : Zc) (x0 : Value) : M Value:=
 bind (s2b x0) fun y1=>
 bind (Zx y1) fun y2=>
 jn (Zi (c4 (WO.l1 Γ)) [y1,y1,y2,(Value.int .i64 0)]) noN (xk 0 (c1 fun q17_0=>
 bind (b2s q17_0) fun y18=>
 ret y18) noX) ret
theorem ZtZ : RA1 ZeH WO:=ra1 Tryz.func180 (by kernel_rfl) fun _ _=>by kernel_rfl
noncomputable def Zht (Γ : Zc) (x0 x1 : Value) : M Value:=
 bind (Γ K8 [x0,x1]) fun y1=>
 bind (Zo y1 0) fun y2=>
 bind (Zo y1 1) fun y3=>
 bind (Zo y1 2) fun y4=>
 ret (Value.tuple #[y2,y3,y4])
theorem ZqK : RA2 ZaQ Zht:=ra2 Tryz.func181 (by kernel_rfl) fun _ _ _=>by kernel_rfl
noncomputable def Zfy (Γ : Zc) (x0 x1 : Value) : M Value:=
 bind (Γ ZbL [x0,x1,(Value.int .i64 0),(Value.int .i64 (-1))]) fun y1=>
 ret y1
theorem Zou : RA2 ZbS Zfy:=ra2 Tryz.func182 (by kernel_rfl) fun _ _ _=>by kernel_rfl
noncomputable def Zib (Γ : Zc) (x0 : Value) : M Value:=
 bind (Γ Kb [x0]) fun y1=>
 bind (ZG y1 false 2 (bind (Γ Kx [x0]) fun y2=>
 ret [x0,y2])) (c2 fun _ q3_1=>
 bind (pick y1 (Value.bool true) q3_1) fun y4=>
 ret y4)
theorem Zsj : RA1 ZdN Zib:=ra1 Tryz.func183 (by kernel_rfl) fun _ _=>by kernel_rfl
noncomputable def ZcX (Γ : Zc) (x0 : Value) : M Value:=
 bind (bop .int .geq x0 (Value.int .u8 97)) fun y1=>
 bind (ZG y1 true 2 (bind (bop .int .leq x0 (Value.int .u8 122)) fun y2=>
 ret [x0,y2])) (c2 fun _ q3_1=>
 bind (pick y1 q3_1 (Value.bool false)) fun y4=>
 ret y4)
theorem ZqD : RA1 Kb ZcX:=ra1 Tryz.func184 (by kernel_rfl) fun _ _=>by kernel_rfl
noncomputable def ZdR (Γ : Zc) (x0 : Value) : M Value:=
 bind (bop .int .geq x0 (Value.int .u8 48)) fun y1=>
 bind (ZG y1 true 2 (bind (bop .int .leq x0 (Value.int .u8 57)) fun y2=>
 ret [x0,y2])) (c2 fun _ q3_1=>
 bind (pick y1 q3_1 (Value.bool false)) fun y4=>
 ret y4)
theorem Zr4 : RA1 Kx ZdR:=ra1 Tryz.func185 (by kernel_rfl) fun _ _=>by kernel_rfl
noncomputable def ZbQ (Γ : Zc) (x0 : Value) : M Value:=
 bind (Γ Jm [x0]) fun y1=>
 bind (Γ QS [y1,(Value.func (.func 172) #[] #[])]) fun y2=>
 ret y2
theorem ZhE : RA1 WX ZbQ:=ra1 Tryz.func186 (by kernel_rfl) fun _ _=>by kernel_rfl
noncomputable def Zab (Γ : Zc) (x0 x1 : Value) : M Value:=
 bind (Qe x0) fun y1=>
 bind (fa 0 y1) fun y2=>
 bind (ld1 y2) fun y3=>
 bind (Zx y3) fun y4=>
 bind (bop .int .gtr x1 y4) fun y5=>
 cnd y5
 (bind (Γ Qk [x0,(Value.int .i64 2)]) fun y6=>
 ret (Value.slice none 0 0))
 (bind (Qe x0) fun y7=>
 bind (fa 0 y7) fun y8=>
 bind (ld1 y8) fun y9=>
 bind (slv 1 y9 none (some x1) none) fun y10=>
 bind (Qe x0) fun y11=>
 bind (fa 0 y11) fun y12=>
 bind (ld1 y12) fun y13=>
 bind (slv 1 y13 (some x1) none none) fun y14=>
 bind (Qe x0) fun y15=>
 bind (fa 0 y15) fun y16=>
 bind (st1 y16 y14) fun _=>
 ret y10)
theorem Zkn : RA2 Kl Zab:=ra2 Tryz.func187 (by kernel_rfl) fun _ _ _=>by kernel_rfl
noncomputable def Zap.l1 (Γ : Zc) (s0 s1 s5 : Value) : M Out:=
 bind (J0 s0) fun y1=>
 bind (bop .int .lss s5 y1) fun y2=>
 cnd y2
 (bind (ixs s0 s5) fun y3=>
 bind (Γ Zao [y3,s1]) fun y4=>
 bind (uop .not y4) fun y5=>
 cnd y5
 (ret (.ret (Value.bool false)))
 (bind (bop .int .add s5 (Value.int .i64 1)) fun y6=>
 ret (.nrm [s0,s1,y6])))
 (ret (.ext 0 []))
noncomputable def Zap (Γ : Zc) (x0 x1 : Value) : M Value:=
 jn (Zi (c3 (Zap.l1 Γ)) [x0,x1,(Value.int .i64 0)]) noN (xk 0 (c0 (ret (Value.bool true))) noX) ret
theorem ZvM : RA2 Zdk Zap:=ra2 Tryz.func188 (by kernel_rfl) fun _ _ _=>by kernel_rfl
noncomputable def Zaq.l1 (Γ : Zc) (s0 s1 s5 : Value) : M Out:=
 bind (J0 s1) fun y1=>
 bind (bop .int .lss s5 y1) fun y2=>
 cnd y2
 (bind (ixs s1 s5) fun y3=>
 bind (bop .int .eql y3 s0) fun y4=>
 cnd y4
 (ret (.ret (Value.bool true)))
 (bind (bop .int .add s5 (Value.int .i64 1)) fun y5=>
 ret (.nrm [s0,s1,y5])))
 (ret (.ext 0 []))
noncomputable def Zaq (Γ : Zc) (x0 x1 : Value) : M Value:=
 jn (Zi (c3 (Zaq.l1 Γ)) [x0,x1,(Value.int .i64 0)]) noN (xk 0 (c0 (ret (Value.bool false))) noX) ret
theorem Zu8 : RA2 Zao Zaq:=ra2 Tryz.func189 (by kernel_rfl) fun _ _ _=>by kernel_rfl
noncomputable def KZ.l1 (Γ : Zc) (s1 s7 s8 s9 : Value) : M Out:=
 bind (bop .int .lss s9 s8) fun y2=>
 cnd y2
 (bind (ixa 5 s7 s9) fun y3=>
 bind (ldA 5 y3) fun y4=>
 bind (alc 1 (.agg #[.string ⟨#[]⟩,.string ⟨#[]⟩,.string ⟨#[]⟩,.bool false,.slice none 0 0])) fun y5=>
 bind (stA 5 y5 y4) fun _=>
 bind (fa 0 y5) fun y6=>
 bind (ld1 y6) fun y7=>
 bind (bop .str .eql y7 s1) fun y8=>
 cnd y8
 (ret (.ret s9))
 (bind (bop .int .add s9 (Value.int .i64 1)) fun y9=>
 ret (.nrm [s1,s7,s8,y9])))
 (ret (.ext 0 []))
noncomputable def KZ (Γ : Zc) (x0 x1 : Value) : M Value:=
 bind (Zx x0) fun y1=>
 jn (Zi (c4 (KZ.l1 Γ)) [x1,x0,y1,(Value.int .i64 0)]) noN (xk 0 (c0 (ret (Value.int .i64 (-1)))) noX) ret
theorem Zsx : RA2 WI KZ:=ra2 Tryz.func190 (by kernel_rfl) fun _ _ _=>by kernel_rfl
noncomputable def ZcF (Γ : Zc) (x0 : Value) : M Value:=
 bind (Γ Kx [x0]) fun y1=>
 bind (ZG y1 false 3 (bind (bop .int .geq x0 (Value.int .u8 97)) fun y2=>
 ret [x0,y2,y2])) (c3 fun _ _ q3_2=>
 bind (ZG q3_2 true 2 (bind (bop .int .leq x0 (Value.int .u8 102)) fun y4=>
 ret [x0,y4])) (c2 fun _ q5_1=>
 bind (ZG y1 false 1 (bind (pick q3_2 q5_1 (Value.bool false)) fun y6=>
 ret [y6])) (c1 fun q7_0=>
 bind (pick y1 (Value.bool true) q7_0) fun y8=>
 ret y8)))
theorem ZsD : RA1 ZdJ ZcF:=ra1 Tryz.func191 (by kernel_rfl) fun _ _=>by kernel_rfl
noncomputable def JR.l2 (Γ : Zc) (s0 s3 s4 s5 s6 s19 : Value) : M Out:=
 bind (bop .int .lss s19 (Value.int .i64 26)) fun y5=>
 cnd y5
 (bind (ixs s0 s5) fun y6=>
 bind (ixs s3 s19) fun y7=>
 bind (bop .int .eql y6 y7) fun y8=>
 jn (cnd y8
 (bind (bop .int .add s19 (Value.int .i64 1)) fun y9=>
 bind (sls (Value.string ⟨#[97,98,99,100,101,102,103,104,105,106,107,108,109,110,111,112,113,114,115,116,117,118,119,120,121,122]⟩) (some s19) (some y9)) fun y10=>
 ret (.nrm [s0,s3,s4,s5,y10,s19]))
 (ret (.nrm [s0,s3,s4,s5,s6,s19]))) (c6 fun q11_0 q11_1 q11_2 q11_3 q11_4 q11_5=>
 bind (bop .int .add q11_5 (Value.int .i64 1)) fun y12=>
 ret (.nrm [q11_0,q11_1,q11_2,q11_3,q11_4,y12])) noX Z5)
 (ret (.ext 2 [s0,s3,s4,s5,s6]))
noncomputable def JR.l1 (Γ : Zc) (s0 s3 s4 s5 : Value) : M Out:=
 bind (J0 s0) fun y1=>
 bind (bop .int .lss s5 y1) fun y2=>
 cnd y2
 (bind (bop .int .add s5 (Value.int .i64 1)) fun y3=>
 bind (sls s0 (some s5) (some y3)) fun y4=>
 jn (Zi (c6 (JR.l2 Γ)) [s0,s3,s4,s5,y4,(Value.int .i64 0)]) noN (xk 2 (c5 fun q15_0 q15_1 q15_2 q15_3 q15_4=>
 bind (bop .str .add q15_2 q15_4) fun y16=>
 bind (bop .int .add q15_3 (Value.int .i64 1)) fun y17=>
 ret (.nrm [q15_0,q15_1,y16,y17])) noX) Z5)
 (ret (.ext 0 [s4]))
noncomputable def JR (Γ : Zc) (x0 : Value) : M Value:=
 jn (Zi (c4 (JR.l1 Γ)) [x0,(Value.string ⟨#[65,66,67,68,69,70,71,72,73,74,75,76,77,78,79,80,81,82,83,84,85,86,87,88,89,90]⟩),(Value.string ⟨#[]⟩),(Value.int .i64 0)]) noN (xk 0 (c1 fun q20_0=>
 ret q20_0) noX) ret
theorem Zsu : RA1 ZdQ JR:=ra1 Tryz.func192 (by kernel_rfl) fun _ _=>by kernel_rfl
noncomputable def Zai.l1 (Γ : Zc) (s1 s7 s8 s9 : Value) : M Out:=
 bind (bop .int .lss s9 s8) fun y2=>
 cnd y2
 (bind (ixa 1 s7 s9) fun y3=>
 bind (ld1 y3) fun y4=>
 bind (bop .str .eql y4 s1) fun y5=>
 cnd y5
 (ret (.ret (Value.bool true)))
 (bind (bop .int .add s9 (Value.int .i64 1)) fun y6=>
 ret (.nrm [s1,s7,s8,y6])))
 (ret (.ext 0 []))
noncomputable def Zai (Γ : Zc) (x0 x1 : Value) : M Value:=
 bind (Zx x0) fun y1=>
 jn (Zi (c4 (Zai.l1 Γ)) [x1,x0,y1,(Value.int .i64 0)]) noN (xk 0 (c0 (ret (Value.bool false))) noX) ret
theorem Zt0 : RA2 Zad Zai:=ra2 Tryz.func193 (by kernel_rfl) fun _ _ _=>by kernel_rfl
noncomputable def WF (Γ : Zc) (x0 x1 : Value) : M Value:=
 bind (Zx x0) fun y1=>
 bind (cvi .u64 y1) fun y2=>
 bind (Γ ZdY [y2]) fun y3=>
 bind (Γ Q2 [x0,(Value.int .i64 0),y1,y3,x1]) fun y4=>
 ret (Value.tuple #[])
theorem ZeF : RA2 WG WF:=ra2 Tryz.func201 (by kernel_rfl) fun _ _ _=>by kernel_rfl
noncomputable def Zdl (Γ : Zc) (x0 x1 : Value) : M Value:=
 bind (Γ KG [x0]) fun y1=>
 bind (Γ KG [x1]) fun y2=>
 cnd y1
 (cnd y2
 (ret (Value.int .i64 0))
 (ret (Value.int .i64 (-1))))
 (cnd y2
 (ret (Value.int .i64 1))
 (bind (bop .str .lss x0 x1) fun y3=>
 cnd y3
 (ret (Value.int .i64 (-1)))
 (bind (bop .str .gtr x0 x1) fun y4=>
 cnd y4
 (ret (Value.int .i64 1))
 (ret (Value.int .i64 0)))))
theorem ZjK : RA2 Zbr Zdl:=ra2 Tryz.func203 (by kernel_rfl) fun _ _ _=>by kernel_rfl
noncomputable def ZaS (Γ : Zc) (x0 x1 : Value) : M Value:=
 bind (Γ Ji [x0,x1]) fun y1=>
 bind (bop .int .geq y1 (Value.int .i64 0)) fun y2=>
 cnd y2
 (bind (sls x0 none (some y1)) fun y3=>
 bind (J0 x1) fun y4=>
 bind (bop .int .add y1 y4) fun y5=>
 bind (sls x0 (some y5) none) fun y6=>
 ret (Value.tuple #[y3,y6,(Value.bool true)]))
 (ret (Value.tuple #[x0,(Value.string ⟨#[]⟩),(Value.bool false)]))
theorem Zgt : RA2 K8 ZaS:=ra2 Tryz.func205 (by kernel_rfl) fun _ _ _=>by kernel_rfl
noncomputable def Yj.l1 (Γ : Zc) (s0 s1 s2 s3 s9 s10 : Value) : M Out:=
 bind (bop .int .lss s10 s3) fun y13=>
 cnd y13
 (bind (Γ ZaB [s0,s1]) fun y14=>
 bind (bop .int .lss y14 (Value.int .i64 0)) fun y15=>
 cnd y15
 (ret (.ext 0 [s0,s9,s10]))
 (bind (bop .int .add y14 s2) fun y16=>
 bind (sls s0 none (some y16)) fun y17=>
 bind (ixa 1 s9 s10) fun y18=>
 bind (st1 y18 y17) fun _=>
 bind (J0 s1) fun y19=>
 bind (bop .int .add y14 y19) fun y20=>
 bind (sls s0 (some y20) none) fun y21=>
 bind (bop .int .add s10 (Value.int .i64 1)) fun y22=>
 ret (.nrm [y21,s1,s2,s3,s9,y22])))
 (ret (.ext 0 [s0,s9,s10]))
noncomputable def Yj (Γ : Zc) (x0 x1 x2 x3 : Value) : M Value:=
 bind (bop .int .eql x3 (Value.int .i64 0)) fun y1=>
 cnd y1
 (ret (Value.slice none 0 0))
 (bind (bop .str .eql x1 (Value.string ⟨#[]⟩)) fun y2=>
 cnd y2
 (bind (Γ Zod [x0,x3]) fun y3=>
 ret y3)
 (bind (bop .int .lss x3 (Value.int .i64 0)) fun y4=>
 jn (cnd y4
 (bind (Γ Zb3 [x0,x1]) fun y5=>
 bind (bop .int .add y5 (Value.int .i64 1)) fun y6=>
 ret (.nrm [x0,x1,x2,y6]))
 (ret (.nrm [x0,x1,x2,x3]))) (c4 fun q7_0 q7_1 q7_2 q7_3=>
 bind (J0 q7_0) fun y8=>
 bind (bop .int .add y8 (Value.int .i64 1)) fun y9=>
 bind (mxi false q7_3 y9) fun y10=>
 bind (mks 1 16 (.string ⟨#[]⟩) y10 y10) fun y11=>
 bind (bop .int .sub y10 (Value.int .i64 1)) fun y12=>
 jn (jn (Zi (c6 (Yj.l1 Γ)) [q7_0,q7_1,q7_2,y12,y11,(Value.int .i64 0)]) noN (xk 0 (c3 fun q24_0 q24_1 q24_2=>
 ret (.nrm [q24_0,q24_1,q24_2])) noX) Z5) (c3 fun q26_0 q26_1 q26_2=>
 bind (ixa 1 q26_1 q26_2) fun y27=>
 bind (st1 y27 q26_0) fun _=>
 bind (bop .int .add q26_2 (Value.int .i64 1)) fun y28=>
 bind (slv 1 q26_1 none (some y28) none) fun y29=>
 ret y29) noX ret) noX ret))
theorem Zkv : RA4 ZbL Yj:=ra4 Tryz.func206 (by kernel_rfl) fun _ _ _ _ _=>by kernel_rfl
noncomputable def Yr (Γ : Zc) (x0 : Value) : M Value:=
 bind (alc 1 x0) fun y1=>
 ret (Value.func (.func 216) #[] #[y1])
theorem ZbI : RA1 Jm Yr:=ra1 Tryz.func207 (by kernel_rfl) fun _ _=>by kernel_rfl
noncomputable abbrev ZbF.o1 (s2 : Value) (st : LoopState) (pd : Option Code) : Ze:=.loop Tryz.f208 Wc 26 [0] (ZB3 Tryz.f208 26) [(2,s2)] st pd
noncomputable def ZbF.r1 (Γ : Zc) (L : Nat) (s2 : Value) (a0 : Value) : M Value:=
 ZAe L (
 bind (ld1 s2) fun y2=>
 bind (bsl 1 1 (.string ⟨#[]⟩) [(0,1,a0)]) fun y3=>
 bind (app 1 16 y2 y3) fun y4=>
 bind (st1 s2 y4) fun _=>
 ZqA L none)
noncomputable def ZbF (Γ : Zc) (x0 x1 : Value) : M Value:=
 bind (alc 1 x0) fun y1=>
 ZlX (ZsV Tryz.prog) Γ x1 Tryz.f208 Wc 26 [0] (ZB3 Tryz.f208 26) [(2,y1)] fun pd_5=>
 (match pd_5 with
 | none=>bind (ld1 y1) fun y6=>
 ret y6
 | some (.exit j_5)=>fail
 | some .ret=>ret (Value.slice none 0 0)
 | _=>fail)
noncomputable def JB.l1 (Γ : Zc) (s0 s1 s2 s3 s4 s10 s11 : Value) : M Out:=
 jn (bind (bop .int .sub s2 s1) fun y1=>
 bind (bop .int .leq y1 (Value.int .i64 12)) fun y2=>
 cnd y2
 (bind (Γ Jo [s0,s1,s2,s4]) fun y3=>
 ret (.ret (Value.tuple #[])))
 (bind (bop .int .eql s3 (Value.int .i64 0)) fun y4=>
 cnd y4
 (bind (Γ Zfi [s0,s1,s2,s4]) fun y5=>
 ret (.ret (Value.tuple #[])))
 (bind (uop .not s10) fun y6=>
 jn (cnd y6
 (bind (Γ Zdy [s0,s1,s2,s4]) fun y7=>
 bind (bop .int .sub s3 (Value.int .i64 1)) fun y8=>
 ret (.nrm [s0,s1,s2,y8,s4,s10,s11,y1]))
 (ret (.nrm [s0,s1,s2,s3,s4,s10,s11,y1]))) (c8 fun q9_0 q9_1 q9_2 q9_3 q9_4 q9_5 q9_6 q9_7=>
 bind (Γ Zeh [q9_0,q9_1,q9_2,q9_4]) fun y10=>
 bind (Zo y10 0) fun y11=>
 bind (Zo y10 1) fun y12=>
 bind (bop .int .eql y12 (Value.int .i64 2)) fun y13=>
 jn (cnd y13
 (bind (Γ ZdI [q9_0,q9_1,q9_2,q9_4]) fun y14=>
 bind (bop .int .sub q9_2 (Value.int .i64 1)) fun y15=>
 bind (bop .int .sub y11 q9_1) fun y16=>
 bind (bop .int .sub y15 y16) fun y17=>
 ret (.nrm [q9_0,q9_1,q9_2,q9_3,q9_4,q9_5,q9_6,q9_7,y17,(Value.int .i64 1)]))
 (ret (.nrm [q9_0,q9_1,q9_2,q9_3,q9_4,q9_5,q9_6,q9_7,y11,y12]))) (c10 fun q18_0 q18_1 q18_2 q18_3 q18_4 q18_5 q18_6 q18_7 q18_8 q18_9=>
 bind (ZG q18_5 true 1 (ret [q18_6])) (c1 fun q19_0=>
 bind (pick q18_5 q19_0 (Value.bool false)) fun y20=>
 bind (ZG y20 true 2 (bind (bop .int .eql q18_9 (Value.int .i64 1)) fun y21=>
 ret [q18_9,y21])) (c2 fun _ q22_1=>
 bind (pick y20 q22_1 (Value.bool false)) fun y23=>
 jn (cnd y23
 (bind (Γ Zb4 [q18_0,q18_1,q18_2,q18_4]) fun y24=>
 cnd y24
 (ret (.ret (Value.tuple #[])))
 (ret (.nrm [q18_0,q18_1,q18_2,q18_3,q18_4,q18_5,q18_6,q18_7,q18_8])))
 (ret (.nrm [q18_0,q18_1,q18_2,q18_3,q18_4,q18_5,q18_6,q18_7,q18_8]))) (c9 fun q25_0 q25_1 q25_2 q25_3 q25_4 q25_5 q25_6 q25_7 q25_8=>
 bind (bop .int .gtr q25_1 (Value.int .i64 0)) fun y26=>
 bind (Zg y26 true (ret q25_4)) fun y27=>
 bind (Zg y26 true (ret q25_0)) fun y28=>
 bind (Zg y26 true (ret q25_1)) fun y29=>
 bind (Zg y26 true (bop .int .sub y29 (Value.int .i64 1))) fun y30=>
 bind (Zg y26 true (ixa 1 y28 y30)) fun y31=>
 bind (Zg y26 true (ld1 y31)) fun y32=>
 bind (Zg y26 true (ret q25_0)) fun y33=>
 bind (Zg y26 true (ret q25_8)) fun y34=>
 bind (Zg y26 true (ixa 1 y33 y34)) fun y35=>
 bind (Zg y26 true (ld1 y35)) fun y36=>
 bind (Zg y26 true (Jv Γ y27 [y32,y36])) fun y37=>
 bind (Zg y26 true (bop .int .lss y37 (Value.int .i64 0))) fun y38=>
 bind (Zg y26 true (uop .not y38)) fun y39=>
 bind (pick y26 y39 (Value.bool false)) fun y40=>
 cnd y40
 (bind (Γ Zdq [q25_0,q25_1,q25_2,q25_8,q25_4]) fun y41=>
 ret (.nrm [q25_0,y41,q25_2,q25_3,q25_4,q25_5,q25_6]))
 (bind (Γ Zfg [q25_0,q25_1,q25_2,q25_8,q25_4]) fun y42=>
 bind (Zo y42 0) fun y43=>
 bind (Zo y42 1) fun y44=>
 bind (bop .int .sub y43 q25_1) fun y45=>
 bind (bop .int .sub q25_2 y43) fun y46=>
 bind (bop .int .quo q25_7 (Value.int .i64 8)) fun y47=>
 bind (bop .int .lss y45 y46) fun y48=>
 jn (cnd y48
 (bind (bop .int .geq y45 y47) fun y49=>
 bind (Γ Q2 [q25_0,q25_1,y43,q25_3,q25_4]) fun y50=>
 bind (bop .int .add y43 (Value.int .i64 1)) fun y51=>
 ret (.nrm [q25_0,y51,q25_2,q25_3,q25_4,y49,y44]))
 (bind (bop .int .geq y46 y47) fun y52=>
 bind (bop .int .add y43 (Value.int .i64 1)) fun y53=>
 bind (Γ Q2 [q25_0,y53,q25_2,q25_3,q25_4]) fun y54=>
 ret (.nrm [q25_0,q25_1,y43,q25_3,q25_4,y52,y44]))) (c7 fun q55_0 q55_1 q55_2 q55_3 q55_4 q55_5 q55_6=>
 ret (.nrm [q55_0,q55_1,q55_2,q55_3,q55_4,q55_5,q55_6])) noX Z5)) noX Z5))) noX Z5) noX Z5))) (c7 fun q60_0 q60_1 q60_2 q60_3 q60_4 q60_5 q60_6=>
 ret (.nrm [q60_0,q60_1,q60_2,q60_3,q60_4,q60_5,q60_6])) noX Z5
noncomputable def JB (Γ : Zc) (x0 x1 x2 x3 x4 : Value) : M Value:=
 jn (Zi (c7 (JB.l1 Γ)) [x0,x1,x2,x3,x4,(Value.bool true),(Value.bool true)]) noN noX ret
theorem Zff : RA5 Q2 JB:=ra5 Tryz.func209 (by kernel_rfl) fun _ _ _ _ _ _=>by kernel_rfl
noncomputable def Zgl (Γ : Zc) (x0 : Value) : M Value:=
 cnd (Value.bool false)
 (bind (cvi .u32 x0) fun y1=>
 bind (Γ Zpu [y1]) fun y2=>
 ret y2)
 (bind (Γ ZcT [x0]) fun y3=>
 ret y3)
theorem Zqh : RA1 ZdY Zgl:=ra1 Tryz.func210 (by kernel_rfl) fun _ _=>by kernel_rfl
noncomputable def Zd5 (Γ : Zc) (x0 : Value) : M Value:=
 bind (bop .str .neq x0 x0) fun y1=>
 ret y1
theorem Zla : RA1 KG Zd5:=ra1 Tryz.func211 (by kernel_rfl) fun _ _=>by kernel_rfl
noncomputable def YB.l1 (Γ : Zc) (s0 s1 s5 s6 s7 s8 s9 s10 : Value) : M Out:=
 bind (bop .int .lss s8 s9) fun y23=>
 cnd y23
 (bind (ixs s0 s8) fun y24=>
 bind (bop .int .neq y24 s6) fun y25=>
 jn (cnd y25
 (bind (bop .int .add s8 (Value.int .i64 1)) fun y26=>
 bind (sls s0 (some y26) (some s9)) fun y27=>
 bind (Γ Ya [y27,s6]) fun y28=>
 bind (bop .int .lss y28 (Value.int .i64 0)) fun y29=>
 cnd y29
 (ret (.ret (Value.int .i64 (-1))))
 (bind (bop .int .add y28 (Value.int .i64 1)) fun y30=>
 bind (bop .int .add s8 y30) fun y31=>
 ret (.nrm [s0,s1,s5,s6,s7,y31,s9,s10])))
 (ret (.nrm [s0,s1,s5,s6,s7,s8,s9,s10]))) (c8 fun q32_0 q32_1 q32_2 q32_3 q32_4 q32_5 q32_6 q32_7=>
 bind (bop .int .add q32_5 (Value.int .i64 1)) fun y33=>
 bind (ixs q32_0 y33) fun y34=>
 bind (bop .int .eql y34 q32_4) fun y35=>
 bind (ZG y35 true 8 (bind (bop .int .add q32_5 q32_2) fun y36=>
 bind (sls q32_0 (some q32_5) (some y36)) fun y37=>
 bind (bop .str .eql y37 q32_1) fun y38=>
 ret [q32_0,q32_5,q32_5,q32_2,y36,y37,q32_1,y38])) (c8 fun _ _ _ _ _ _ _ q39_7=>
 bind (pick y35 q39_7 (Value.bool false)) fun y40=>
 cnd y40
 (ret (.ret q32_5))
 (bind (bop .int .add q32_5 (Value.int .i64 1)) fun y41=>
 bind (bop .int .add q32_7 (Value.int .i64 1)) fun y42=>
 bind (ld1 (Value.pointer (some ⟨0,0,none⟩))) fun y43=>
 bind (bop .int .leq q32_2 y43) fun y44=>
 bind (ZG y44 true 4 (bind (Γ Zhh [y41]) fun y45=>
 bind (bop .int .gtr y42 y45) fun y46=>
 ret [y42,y41,y45,y46])) (c4 fun _ _ _ q47_3=>
 bind (pick y44 q47_3 (Value.bool false)) fun y48=>
 cnd y48
 (bind (sls q32_0 (some y41) none) fun y49=>
 bind (Γ ZbW [y49,q32_1]) fun y50=>
 bind (bop .int .geq y50 (Value.int .i64 0)) fun y51=>
 cnd y51
 (bind (bop .int .add y50 y41) fun y52=>
 ret (.ret y52))
 (ret (.ret (Value.int .i64 (-1)))))
 (bind (ld1 (Value.pointer (some ⟨0,0,none⟩))) fun y53=>
 bind (bop .int .gtr q32_2 y53) fun y54=>
 bind (ZG y54 true 5 (bind (bop .int .shr y41 (Value.int .u64 4)) fun y55=>
 bind (bop .int .add (Value.int .i64 4) y55) fun y56=>
 bind (bop .int .geq y42 y56) fun y57=>
 ret [y42,y41,y55,y56,y57])) (c5 fun _ _ _ _ q58_4=>
 bind (pick y54 q58_4 (Value.bool false)) fun y59=>
 bind (ZG y59 true 3 (bind (bop .int .lss y41 q32_6) fun y60=>
 ret [y41,q32_6,y60])) (c3 fun _ _ q61_2=>
 bind (pick y59 q61_2 (Value.bool false)) fun y62=>
 cnd y62
 (bind (sls q32_0 (some y41) none) fun y63=>
 bind (Γ ZcW [y63,q32_1]) fun y64=>
 bind (bop .int .lss y64 (Value.int .i64 0)) fun y65=>
 cnd y65
 (ret (.ret (Value.int .i64 (-1))))
 (bind (bop .int .add y41 y64) fun y66=>
 ret (.ret y66)))
 (ret (.nrm [q32_0,q32_1,q32_2,q32_3,q32_4,y41,q32_6,y42]))))))))) noX Z5)
 (ret (.ext 1 []))
noncomputable def YB (Γ : Zc) (x0 x1 : Value) : M Value:=
 bind (J0 x1) fun y1=>
 bind (bop .int .eql y1 (Value.int .i64 0)) fun y2=>
 bind (ZG y2 false 3 (bind (bop .str .eql x1 x0) fun y3=>
 ret [x1,x0,y3])) (c3 fun _ _ q4_2=>
 bind (pick y2 (Value.bool true) q4_2) fun y5=>
 cnd y5
 (ret (Value.int .i64 0))
 (bind (bop .int .eql y1 (Value.int .i64 1)) fun y6=>
 cnd y6
 (bind (ixs x1 (Value.int .i64 0)) fun y7=>
 bind (Γ Ya [x0,y7]) fun y8=>
 ret y8)
 (bind (J0 x0) fun y9=>
 bind (bop .int .geq y1 y9) fun y10=>
 cnd y10
 (ret (Value.int .i64 (-1)))
 (bind (ld1 (Value.pointer (some ⟨0,0,none⟩))) fun y11=>
 bind (bop .int .leq y1 y11) fun y12=>
 bind (ZG y12 true 3 (bind (J0 x0) fun y13=>
 bind (bop .int .leq y13 (Value.int .i64 64)) fun y14=>
 ret [x0,y13,y14])) (c3 fun _ _ q15_2=>
 bind (pick y12 q15_2 (Value.bool false)) fun y16=>
 cnd y16
 (bind (Γ ZbW [x0,x1]) fun y17=>
 ret y17)
 (bind (ixs x1 (Value.int .i64 0)) fun y18=>
 bind (ixs x1 (Value.int .i64 1)) fun y19=>
 bind (J0 x0) fun y20=>
 bind (bop .int .sub y20 y1) fun y21=>
 bind (bop .int .add y21 (Value.int .i64 1)) fun y22=>
 jn (Zi (c8 (YB.l1 Γ)) [x0,x1,y1,y18,y19,(Value.int .i64 0),y22,(Value.int .i64 0)]) noN (xk 1 (c0 (ret (Value.int .i64 (-1)))) noX) ret))))))
theorem ZfD : RA2 Ji YB:=ra2 Tryz.func212 (by kernel_rfl) fun _ _ _=>by kernel_rfl
noncomputable def Zhw.l1 (Γ : Zc) (s0 s1 s6 s7 : Value) : M Out:=
 bind (bop .int .sub s1 (Value.int .i64 1)) fun y8=>
 bind (bop .int .lss s7 y8) fun y9=>
 cnd y9
 (bind (Γ ZeC [s0]) fun y10=>
 bind (Zo y10 0) fun y11=>
 bind (Zo y10 1) fun y12=>
 bind (sls s0 none (some y12)) fun y13=>
 bind (ixa 1 s6 s7) fun y14=>
 bind (st1 y14 y13) fun _=>
 bind (sls s0 (some y12) none) fun y15=>
 bind (bop .int .add s7 (Value.int .i64 1)) fun y16=>
 ret (.nrm [y15,s1,s6,y16]))
 (ret (.ext 0 [s0,s1,s6]))
noncomputable def Zhw (Γ : Zc) (x0 x1 : Value) : M Value:=
 bind (Γ Zbf [x0]) fun y1=>
 bind (bop .int .lss x1 (Value.int .i64 0)) fun y2=>
 bind (ZG y2 false 3 (bind (bop .int .gtr x1 y1) fun y3=>
 ret [x1,y1,y3])) (c3 fun _ _ q4_2=>
 bind (pick y2 (Value.bool true) q4_2) fun y5=>
 jn (cnd y5
 (ret (.nrm [x0,y1]))
 (ret (.nrm [x0,x1]))) (c2 fun q6_0 q6_1=>
 bind (mks 1 16 (.string ⟨#[]⟩) q6_1 q6_1) fun y7=>
 jn (Zi (c4 (Zhw.l1 Γ)) [q6_0,q6_1,y7,(Value.int .i64 0)]) noN (xk 0 (c3 fun q18_0 q18_1 q18_2=>
 bind (bop .int .gtr q18_1 (Value.int .i64 0)) fun y19=>
 jn (cnd y19
 (bind (bop .int .sub q18_1 (Value.int .i64 1)) fun y20=>
 bind (ixa 1 q18_2 y20) fun y21=>
 bind (st1 y21 q18_0) fun _=>
 ret (.nrm [q18_2]))
 (ret (.nrm [q18_2]))) (c1 fun q22_0=>
 ret q22_0) noX ret) noX) ret) noX ret)
noncomputable def ZbY.l1 (Γ : Zc) (s0 s1 s5 : Value) : M Out:=
 bind (Γ ZaB [s0,s1]) fun y9=>
 bind (bop .int .eql y9 (Value.int .i64 (-1))) fun y10=>
 cnd y10
 (ret (.ret s5))
 (bind (bop .int .add s5 (Value.int .i64 1)) fun y11=>
 bind (J0 s1) fun y12=>
 bind (bop .int .add y9 y12) fun y13=>
 bind (sls s0 (some y13) none) fun y14=>
 ret (.nrm [y14,s1,y11]))
noncomputable def ZbY (Γ : Zc) (x0 x1 : Value) : M Value:=
 bind (J0 x1) fun y1=>
 bind (bop .int .eql y1 (Value.int .i64 0)) fun y2=>
 cnd y2
 (bind (Γ Zbf [x0]) fun y3=>
 bind (bop .int .add y3 (Value.int .i64 1)) fun y4=>
 ret y4)
 (bind (J0 x1) fun y5=>
 bind (bop .int .eql y5 (Value.int .i64 1)) fun y6=>
 cnd y6
 (bind (ixs x1 (Value.int .i64 0)) fun y7=>
 bind (Γ Ki [x0,y7]) fun y8=>
 ret y8)
 (jn (Zi (c3 (ZbY.l1 Γ)) [x0,x1,(Value.int .i64 0)]) noN noX ret))
theorem ZnT : RA2 Zb3 ZbY:=ra2 Tryz.func214 (by kernel_rfl) fun _ _ _=>by kernel_rfl
noncomputable def Zfz (Γ : Zc) (x0 x1 : Value) : M Value:=
 bind (Γ Ji [x0,x1]) fun y1=>
 ret y1
theorem Zob : RA2 ZaB Zfz:=ra2 Tryz.func215 (by kernel_rfl) fun _ _ _=>by kernel_rfl
noncomputable def Qf.l2 (Γ : Zc) (s0 s1 s2 s3 s8 s9 : Value) : M Out:=
 bind (bop .int .gtr s9 s1) fun y3=>
 bind (Zg y3 true (ret s3)) fun y4=>
 bind (Zg y3 true (ret s0)) fun y5=>
 bind (Zg y3 true (ret s9)) fun y6=>
 bind (Zg y3 true (ixa 1 y5 y6)) fun y7=>
 bind (Zg y3 true (ld1 y7)) fun y8=>
 bind (Zg y3 true (ret s0)) fun y9=>
 bind (Zg y3 true (ret s9)) fun y10=>
 bind (Zg y3 true (bop .int .sub y10 (Value.int .i64 1))) fun y11=>
 bind (Zg y3 true (ixa 1 y9 y11)) fun y12=>
 bind (Zg y3 true (ld1 y12)) fun y13=>
 bind (Zg y3 true (Jv Γ y4 [y8,y13])) fun y14=>
 bind (Zg y3 true (bop .int .lss y14 (Value.int .i64 0))) fun y15=>
 bind (pick y3 y15 (Value.bool false)) fun y16=>
 cnd y16
 (bind (bop .int .sub s9 (Value.int .i64 1)) fun y17=>
 bind (bop .int .sub s9 (Value.int .i64 1)) fun y18=>
 bind (ixa 1 s0 y18) fun y19=>
 bind (ld1 y19) fun y20=>
 bind (ixa 1 s0 s9) fun y21=>
 bind (ld1 y21) fun y22=>
 bind (ixa 1 s0 s9) fun y23=>
 bind (st1 y23 y20) fun _=>
 bind (ixa 1 s0 y17) fun y24=>
 bind (st1 y24 y22) fun _=>
 bind (bop .int .sub s9 (Value.int .i64 1)) fun y25=>
 ret (.nrm [s0,s1,s2,s3,s8,y25]))
 (ret (.ext 2 [s0,s1,s2,s3,s8]))
noncomputable def Qf.l1 (Γ : Zc) (s0 s1 s2 s3 s8 : Value) : M Out:=
 bind (bop .int .lss s8 s2) fun y2=>
 cnd y2
 (jn (Zi (c6 (Qf.l2 Γ)) [s0,s1,s2,s3,s8,s8]) noN (xk 2 (c5 fun q27_0 q27_1 q27_2 q27_3 q27_4=>
 bind (bop .int .add q27_4 (Value.int .i64 1)) fun y28=>
 ret (.nrm [q27_0,q27_1,q27_2,q27_3,y28])) noX) Z5)
 (ret (.ext 0 []))
noncomputable def Qf (Γ : Zc) (x0 x1 x2 x3 : Value) : M Value:=
 bind (bop .int .add x1 (Value.int .i64 1)) fun y1=>
 jn (Zi (c5 (Qf.l1 Γ)) [x0,x1,x2,x3,y1]) noN (xk 0 (c0 (ret (Value.tuple #[]))) noX) ret
theorem Zc3 : RA4 Jo Qf:=ra4 Tryz.func217 (by kernel_rfl) fun _ _ _ _ _=>by kernel_rfl
noncomputable def YY.l1 (Γ : Zc) (s0 s3 s8 s9 s10 s11 : Value) : M Out:=
 bind (bop .int .geq s11 (Value.int .i64 0)) fun y4=>
 cnd y4
 (bind (Γ ZbG [s0,s11,s10,s8,s3]) fun y5=>
 bind (bop .int .sub s11 (Value.int .i64 1)) fun y6=>
 ret (.nrm [s0,s3,s8,s9,s10,y6]))
 (ret (.ext 0 [s0,s3,s8,s9,s10]))
noncomputable def YY.l2 (Γ : Zc) (s0 s3 s8 s9 s12 : Value) : M Out:=
 bind (bop .int .geq s12 (Value.int .i64 0)) fun y10=>
 cnd y10
 (bind (bop .int .add s8 s12) fun y11=>
 bind (bop .int .add s8 s12) fun y12=>
 bind (ixa 1 s0 y12) fun y13=>
 bind (ld1 y13) fun y14=>
 bind (ixa 1 s0 s8) fun y15=>
 bind (ld1 y15) fun y16=>
 bind (ixa 1 s0 s8) fun y17=>
 bind (st1 y17 y14) fun _=>
 bind (ixa 1 s0 y11) fun y18=>
 bind (st1 y18 y16) fun _=>
 bind (Γ ZbG [s0,s9,s12,s8,s3]) fun y19=>
 bind (bop .int .sub s12 (Value.int .i64 1)) fun y20=>
 ret (.nrm [s0,s3,s8,s9,y20]))
 (ret (.ext 2 []))
noncomputable def YY (Γ : Zc) (x0 x1 x2 x3 : Value) : M Value:=
 bind (bop .int .sub x2 x1) fun y1=>
 bind (bop .int .sub y1 (Value.int .i64 1)) fun y2=>
 bind (bop .int .quo y2 (Value.int .i64 2)) fun y3=>
 jn (Zi (c6 (YY.l1 Γ)) [x0,x3,x1,(Value.int .i64 0),y1,y3]) noN (xk 0 (c5 fun q8_0 q8_1 q8_2 q8_3 q8_4=>
 bind (bop .int .sub q8_4 (Value.int .i64 1)) fun y9=>
 jn (Zi (c5 (YY.l2 Γ)) [q8_0,q8_1,q8_2,q8_3,y9]) noN (xk 2 (c0 (ret (Value.tuple #[]))) noX) ret) noX) ret
noncomputable def Zaa.l1 (Γ : Zc) (s0 s1 s8 s9 s10 s11 : Value) : M Out:=
 bind (bop .int .quo s8 (Value.int .i64 4)) fun y10=>
 bind (bop .int .mul y10 (Value.int .i64 2)) fun y11=>
 bind (bop .int .add s1 y11) fun y12=>
 bind (bop .int .add y12 (Value.int .i64 1)) fun y13=>
 bind (bop .int .leq s11 y13) fun y14=>
 cnd y14
 (bind (Γ ZjF [s9]) fun y15=>
 bind (bop .int .sub s10 (Value.int .u64 1)) fun y16=>
 bind (bop .int .and y15 y16) fun y17=>
 bind (cvi .i64 y17) fun y18=>
 bind (bop .int .geq y18 s8) fun y19=>
 jn (cnd y19
 (bind (bop .int .sub y18 s8) fun y20=>
 ret (.nrm [s0,s1,s8,s9,s10,s11,y20]))
 (ret (.nrm [s0,s1,s8,s9,s10,s11,y18]))) (c7 fun q21_0 q21_1 q21_2 q21_3 q21_4 q21_5 q21_6=>
 bind (bop .int .add q21_1 q21_6) fun y22=>
 bind (bop .int .add q21_1 q21_6) fun y23=>
 bind (ixa 1 q21_0 y23) fun y24=>
 bind (ld1 y24) fun y25=>
 bind (ixa 1 q21_0 q21_5) fun y26=>
 bind (ld1 y26) fun y27=>
 bind (ixa 1 q21_0 q21_5) fun y28=>
 bind (st1 y28 y25) fun _=>
 bind (ixa 1 q21_0 y22) fun y29=>
 bind (st1 y29 y27) fun _=>
 bind (bop .int .add q21_5 (Value.int .i64 1)) fun y30=>
 ret (.nrm [q21_0,q21_1,q21_2,q21_3,q21_4,y30])) noX Z5)
 (ret (.ext 0 []))
noncomputable def Zaa (Γ : Zc) (x0 x1 x2 x3 : Value) : M Value:=
 bind (bop .int .sub x2 x1) fun y1=>
 bind (bop .int .geq y1 (Value.int .i64 8)) fun y2=>
 jn (cnd y2
 (bind (cvi .u64 y1) fun y3=>
 bind (alc 1 (.int .u64 0)) fun y4=>
 bind (st1 y4 y3) fun _=>
 bind (Γ Zin [y1]) fun y5=>
 bind (bop .int .quo y1 (Value.int .i64 4)) fun y6=>
 bind (bop .int .mul y6 (Value.int .i64 2)) fun y7=>
 bind (bop .int .add x1 y7) fun y8=>
 bind (bop .int .sub y8 (Value.int .i64 1)) fun y9=>
 jn (Zi (c6 (Zaa.l1 Γ)) [x0,x1,y1,y4,y5,y9]) noN (xk 0 (c0 (ret (.nrm []))) noX) Z5)
 (ret (.nrm []))) (c0 (ret (Value.tuple #[]))) noX ret
noncomputable def Zav.l1 (Γ : Zc) (s0 s8 s9 : Value) : M Out:=
 bind (bop .int .lss s8 s9) fun y2=>
 cnd y2
 (bind (ixa 1 s0 s9) fun y3=>
 bind (ld1 y3) fun y4=>
 bind (ixa 1 s0 s8) fun y5=>
 bind (ld1 y5) fun y6=>
 bind (ixa 1 s0 s8) fun y7=>
 bind (st1 y7 y4) fun _=>
 bind (ixa 1 s0 s9) fun y8=>
 bind (st1 y8 y6) fun _=>
 bind (bop .int .add s8 (Value.int .i64 1)) fun y9=>
 bind (bop .int .sub s9 (Value.int .i64 1)) fun y10=>
 ret (.nrm [s0,y9,y10]))
 (ret (.ext 0 []))
noncomputable def Zav (Γ : Zc) (x0 x1 x2 x3 : Value) : M Value:=
 bind (bop .int .sub x2 (Value.int .i64 1)) fun y1=>
 jn (Zi (c3 (Zav.l1 Γ)) [x0,x1,y1]) noN (xk 0 (c0 (ret (Value.tuple #[]))) noX) ret
noncomputable def ZW.l2 (Γ : Zc) (s0 s1 s2 s3 s9 s10 : Value) : M Out:=
 bind (bop .int .lss s9 s2) fun y3=>
 bind (Zg y3 true (ret s3)) fun y4=>
 bind (Zg y3 true (ret s0)) fun y5=>
 bind (Zg y3 true (ret s9)) fun y6=>
 bind (Zg y3 true (ixa 1 y5 y6)) fun y7=>
 bind (Zg y3 true (ld1 y7)) fun y8=>
 bind (Zg y3 true (ret s0)) fun y9=>
 bind (Zg y3 true (ret s9)) fun y10=>
 bind (Zg y3 true (bop .int .sub y10 (Value.int .i64 1))) fun y11=>
 bind (Zg y3 true (ixa 1 y9 y11)) fun y12=>
 bind (Zg y3 true (ld1 y12)) fun y13=>
 bind (Zg y3 true (Jv Γ y4 [y8,y13])) fun y14=>
 bind (Zg y3 true (bop .int .lss y14 (Value.int .i64 0))) fun y15=>
 bind (Zg y3 true (uop .not y15)) fun y16=>
 bind (pick y3 y16 (Value.bool false)) fun y17=>
 cnd y17
 (bind (bop .int .add s9 (Value.int .i64 1)) fun y18=>
 ret (.nrm [s0,s1,s2,s3,y18,s10]))
 (ret (.ext 2 [s0,s1,s2,s3,s9,s10]))
noncomputable def ZW.l3 (Γ : Zc) (s0 s1 s2 s3 s9 s10 s11 : Value) : M Out:=
 bind (bop .int .geq s11 (Value.int .i64 1)) fun y35=>
 cnd y35
 (bind (ixa 1 s0 s11) fun y36=>
 bind (ld1 y36) fun y37=>
 bind (bop .int .sub s11 (Value.int .i64 1)) fun y38=>
 bind (ixa 1 s0 y38) fun y39=>
 bind (ld1 y39) fun y40=>
 bind (Jv Γ s3 [y37,y40]) fun y41=>
 bind (bop .int .lss y41 (Value.int .i64 0)) fun y42=>
 bind (uop .not y42) fun y43=>
 cnd y43
 (ret (.ext 4 [s0,s1,s2,s3,s9,s10]))
 (bind (bop .int .sub s11 (Value.int .i64 1)) fun y44=>
 bind (bop .int .sub s11 (Value.int .i64 1)) fun y45=>
 bind (ixa 1 s0 y45) fun y46=>
 bind (ld1 y46) fun y47=>
 bind (ixa 1 s0 s11) fun y48=>
 bind (ld1 y48) fun y49=>
 bind (ixa 1 s0 s11) fun y50=>
 bind (st1 y50 y47) fun _=>
 bind (ixa 1 s0 y44) fun y51=>
 bind (st1 y51 y49) fun _=>
 bind (bop .int .sub s11 (Value.int .i64 1)) fun y52=>
 ret (.nrm [s0,s1,s2,s3,s9,s10,y52])))
 (ret (.ext 4 [s0,s1,s2,s3,s9,s10]))
noncomputable def ZW.l4 (Γ : Zc) (s0 s1 s2 s3 s9 s10 s12 : Value) : M Out:=
 bind (bop .int .lss s12 s2) fun y62=>
 cnd y62
 (bind (ixa 1 s0 s12) fun y63=>
 bind (ld1 y63) fun y64=>
 bind (bop .int .sub s12 (Value.int .i64 1)) fun y65=>
 bind (ixa 1 s0 y65) fun y66=>
 bind (ld1 y66) fun y67=>
 bind (Jv Γ s3 [y64,y67]) fun y68=>
 bind (bop .int .lss y68 (Value.int .i64 0)) fun y69=>
 bind (uop .not y69) fun y70=>
 cnd y70
 (ret (.ext 6 [s0,s1,s2,s3,s9,s10]))
 (bind (bop .int .sub s12 (Value.int .i64 1)) fun y71=>
 bind (bop .int .sub s12 (Value.int .i64 1)) fun y72=>
 bind (ixa 1 s0 y72) fun y73=>
 bind (ld1 y73) fun y74=>
 bind (ixa 1 s0 s12) fun y75=>
 bind (ld1 y75) fun y76=>
 bind (ixa 1 s0 s12) fun y77=>
 bind (st1 y77 y74) fun _=>
 bind (ixa 1 s0 y71) fun y78=>
 bind (st1 y78 y76) fun _=>
 bind (bop .int .add s12 (Value.int .i64 1)) fun y79=>
 ret (.nrm [s0,s1,s2,s3,s9,s10,y79])))
 (ret (.ext 6 [s0,s1,s2,s3,s9,s10]))
noncomputable def ZW.l1 (Γ : Zc) (s0 s1 s2 s3 s9 s10 : Value) : M Out:=
 bind (bop .int .lss s10 (Value.int .i64 5)) fun y2=>
 cnd y2
 (jn (Zi (c6 (ZW.l2 Γ)) [s0,s1,s2,s3,s9,s10]) noN (xk 2 (c6 fun q20_0 q20_1 q20_2 q20_3 q20_4 q20_5=>
 bind (bop .int .eql q20_4 q20_2) fun y21=>
 cnd y21
 (ret (.ret (Value.bool true)))
 (bind (bop .int .sub q20_2 q20_1) fun y22=>
 bind (bop .int .lss y22 (Value.int .i64 50)) fun y23=>
 cnd y23
 (ret (.ret (Value.bool false)))
 (bind (bop .int .sub q20_4 (Value.int .i64 1)) fun y24=>
 bind (bop .int .sub q20_4 (Value.int .i64 1)) fun y25=>
 bind (ixa 1 q20_0 y25) fun y26=>
 bind (ld1 y26) fun y27=>
 bind (ixa 1 q20_0 q20_4) fun y28=>
 bind (ld1 y28) fun y29=>
 bind (ixa 1 q20_0 q20_4) fun y30=>
 bind (st1 y30 y27) fun _=>
 bind (ixa 1 q20_0 y24) fun y31=>
 bind (st1 y31 y29) fun _=>
 bind (bop .int .sub q20_4 q20_1) fun y32=>
 bind (bop .int .geq y32 (Value.int .i64 2)) fun y33=>
 jn (cnd y33
 (bind (bop .int .sub q20_4 (Value.int .i64 1)) fun y34=>
 jn (jn (Zi (c7 (ZW.l3 Γ)) [q20_0,q20_1,q20_2,q20_3,q20_4,q20_5,y34]) noN (xk 4 (c6 fun q54_0 q54_1 q54_2 q54_3 q54_4 q54_5=>
 ret (.nrm [q54_0,q54_1,q54_2,q54_3,q54_4,q54_5])) noX) Z5) (c6 fun q56_0 q56_1 q56_2 q56_3 q56_4 q56_5=>
 ret (.nrm [q56_0,q56_1,q56_2,q56_3,q56_4,q56_5])) noX Z5)
 (ret (.nrm [q20_0,q20_1,q20_2,q20_3,q20_4,q20_5]))) (c6 fun q58_0 q58_1 q58_2 q58_3 q58_4 q58_5=>
 bind (bop .int .sub q58_2 q58_4) fun y59=>
 bind (bop .int .geq y59 (Value.int .i64 2)) fun y60=>
 jn (cnd y60
 (bind (bop .int .add q58_4 (Value.int .i64 1)) fun y61=>
 jn (jn (Zi (c7 (ZW.l4 Γ)) [q58_0,q58_1,q58_2,q58_3,q58_4,q58_5,y61]) noN (xk 6 (c6 fun q81_0 q81_1 q81_2 q81_3 q81_4 q81_5=>
 ret (.nrm [q81_0,q81_1,q81_2,q81_3,q81_4,q81_5])) noX) Z5) (c6 fun q83_0 q83_1 q83_2 q83_3 q83_4 q83_5=>
 ret (.nrm [q83_0,q83_1,q83_2,q83_3,q83_4,q83_5])) noX Z5)
 (ret (.nrm [q58_0,q58_1,q58_2,q58_3,q58_4,q58_5]))) (c6 fun q85_0 q85_1 q85_2 q85_3 q85_4 q85_5=>
 bind (bop .int .add q85_5 (Value.int .i64 1)) fun y86=>
 ret (.nrm [q85_0,q85_1,q85_2,q85_3,q85_4,y86])) noX Z5) noX Z5))) noX) Z5)
 (ret (.ext 0 []))
noncomputable def ZW (Γ : Zc) (x0 x1 x2 x3 : Value) : M Value:=
 bind (bop .int .add x1 (Value.int .i64 1)) fun y1=>
 jn (Zi (c6 (ZW.l1 Γ)) [x0,x1,x2,x3,y1,(Value.int .i64 0)]) noN (xk 0 (c0 (ret (Value.bool false))) noX) ret
noncomputable def QN.l2 (Γ : Zc) (s0 s1 s4 s11 s12 : Value) : M Out:=
 bind (bop .int .leq s11 s12) fun y9=>
 bind (Zg y9 true (ret s4)) fun y10=>
 bind (Zg y9 true (ret s0)) fun y11=>
 bind (Zg y9 true (ret s1)) fun y12=>
 bind (Zg y9 true (ixa 1 y11 y12)) fun y13=>
 bind (Zg y9 true (ld1 y13)) fun y14=>
 bind (Zg y9 true (ret s0)) fun y15=>
 bind (Zg y9 true (ret s11)) fun y16=>
 bind (Zg y9 true (ixa 1 y15 y16)) fun y17=>
 bind (Zg y9 true (ld1 y17)) fun y18=>
 bind (Zg y9 true (Jv Γ y10 [y14,y18])) fun y19=>
 bind (Zg y9 true (bop .int .lss y19 (Value.int .i64 0))) fun y20=>
 bind (Zg y9 true (uop .not y20)) fun y21=>
 bind (pick y9 y21 (Value.bool false)) fun y22=>
 cnd y22
 (bind (bop .int .add s11 (Value.int .i64 1)) fun y23=>
 ret (.nrm [s0,s1,s4,y23,s12]))
 (ret (.ext 2 [s0,s1,s4,s11,s12]))
noncomputable def QN.l3 (Γ : Zc) (s0 s1 s4 s11 s12 : Value) : M Out:=
 bind (bop .int .leq s11 s12) fun y26=>
 bind (Zg y26 true (ret s4)) fun y27=>
 bind (Zg y26 true (ret s0)) fun y28=>
 bind (Zg y26 true (ret s1)) fun y29=>
 bind (Zg y26 true (ixa 1 y28 y29)) fun y30=>
 bind (Zg y26 true (ld1 y30)) fun y31=>
 bind (Zg y26 true (ret s0)) fun y32=>
 bind (Zg y26 true (ret s12)) fun y33=>
 bind (Zg y26 true (ixa 1 y32 y33)) fun y34=>
 bind (Zg y26 true (ld1 y34)) fun y35=>
 bind (Zg y26 true (Jv Γ y27 [y31,y35])) fun y36=>
 bind (Zg y26 true (bop .int .lss y36 (Value.int .i64 0))) fun y37=>
 bind (pick y26 y37 (Value.bool false)) fun y38=>
 cnd y38
 (bind (bop .int .sub s12 (Value.int .i64 1)) fun y39=>
 ret (.nrm [s0,s1,s4,s11,y39]))
 (ret (.ext 4 [s0,s1,s4,s11,s12]))
noncomputable def QN.l1 (Γ : Zc) (s0 s1 s4 s11 s12 : Value) : M Out:=
 jn (Zi (c5 (QN.l2 Γ)) [s0,s1,s4,s11,s12]) noN (xk 2 (c5 fun q25_0 q25_1 q25_2 q25_3 q25_4=>
 jn (Zi (c5 (QN.l3 Γ)) [q25_0,q25_1,q25_2,q25_3,q25_4]) noN (xk 4 (c5 fun q41_0 q41_1 q41_2 q41_3 q41_4=>
 bind (bop .int .gtr q41_3 q41_4) fun y42=>
 cnd y42
 (ret (.ext 0 [q41_3]))
 (bind (ixa 1 q41_0 q41_4) fun y43=>
 bind (ld1 y43) fun y44=>
 bind (ixa 1 q41_0 q41_3) fun y45=>
 bind (ld1 y45) fun y46=>
 bind (ixa 1 q41_0 q41_3) fun y47=>
 bind (st1 y47 y44) fun _=>
 bind (ixa 1 q41_0 q41_4) fun y48=>
 bind (st1 y48 y46) fun _=>
 bind (bop .int .add q41_3 (Value.int .i64 1)) fun y49=>
 bind (bop .int .sub q41_4 (Value.int .i64 1)) fun y50=>
 ret (.nrm [q41_0,q41_1,q41_2,y49,y50]))) noX) Z5) noX) Z5
noncomputable def QN (Γ : Zc) (x0 x1 x2 x3 x4 : Value) : M Value:=
 bind (ixa 1 x0 x3) fun y1=>
 bind (ld1 y1) fun y2=>
 bind (ixa 1 x0 x1) fun y3=>
 bind (ld1 y3) fun y4=>
 bind (ixa 1 x0 x1) fun y5=>
 bind (st1 y5 y2) fun _=>
 bind (ixa 1 x0 x3) fun y6=>
 bind (st1 y6 y4) fun _=>
 bind (bop .int .add x1 (Value.int .i64 1)) fun y7=>
 bind (bop .int .sub x2 (Value.int .i64 1)) fun y8=>
 jn (Zi (c5 (QN.l1 Γ)) [x0,x1,x4,y7,y8]) noN (xk 0 (c1 fun q54_0=>
 ret q54_0) noX) ret
noncomputable def Z8.l1 (Γ : Zc) (s0 s1 s4 s12 s13 : Value) : M Out:=
 bind (bop .int .leq s12 s13) fun y9=>
 bind (Zg y9 true (ret s4)) fun y10=>
 bind (Zg y9 true (ret s0)) fun y11=>
 bind (Zg y9 true (ret s12)) fun y12=>
 bind (Zg y9 true (ixa 1 y11 y12)) fun y13=>
 bind (Zg y9 true (ld1 y13)) fun y14=>
 bind (Zg y9 true (ret s0)) fun y15=>
 bind (Zg y9 true (ret s1)) fun y16=>
 bind (Zg y9 true (ixa 1 y15 y16)) fun y17=>
 bind (Zg y9 true (ld1 y17)) fun y18=>
 bind (Zg y9 true (Jv Γ y10 [y14,y18])) fun y19=>
 bind (Zg y9 true (bop .int .lss y19 (Value.int .i64 0))) fun y20=>
 bind (pick y9 y20 (Value.bool false)) fun y21=>
 cnd y21
 (bind (bop .int .add s12 (Value.int .i64 1)) fun y22=>
 ret (.nrm [s0,s1,s4,y22,s13]))
 (ret (.ext 0 [s0,s1,s4,s12,s13]))
noncomputable def Z8.l2 (Γ : Zc) (s0 s1 s4 s12 s13 : Value) : M Out:=
 bind (bop .int .leq s12 s13) fun y25=>
 bind (Zg y25 true (ret s4)) fun y26=>
 bind (Zg y25 true (ret s0)) fun y27=>
 bind (Zg y25 true (ret s13)) fun y28=>
 bind (Zg y25 true (ixa 1 y27 y28)) fun y29=>
 bind (Zg y25 true (ld1 y29)) fun y30=>
 bind (Zg y25 true (ret s0)) fun y31=>
 bind (Zg y25 true (ret s1)) fun y32=>
 bind (Zg y25 true (ixa 1 y31 y32)) fun y33=>
 bind (Zg y25 true (ld1 y33)) fun y34=>
 bind (Zg y25 true (Jv Γ y26 [y30,y34])) fun y35=>
 bind (Zg y25 true (bop .int .lss y35 (Value.int .i64 0))) fun y36=>
 bind (Zg y25 true (uop .not y36)) fun y37=>
 bind (pick y25 y37 (Value.bool false)) fun y38=>
 cnd y38
 (bind (bop .int .sub s13 (Value.int .i64 1)) fun y39=>
 ret (.nrm [s0,s1,s4,s12,y39]))
 (ret (.ext 2 [s0,s1,s4,s12,s13]))
noncomputable def Z8.l4 (Γ : Zc) (s0 s1 s4 s12 s13 : Value) : M Out:=
 bind (bop .int .leq s12 s13) fun y57=>
 bind (Zg y57 true (ret s4)) fun y58=>
 bind (Zg y57 true (ret s0)) fun y59=>
 bind (Zg y57 true (ret s12)) fun y60=>
 bind (Zg y57 true (ixa 1 y59 y60)) fun y61=>
 bind (Zg y57 true (ld1 y61)) fun y62=>
 bind (Zg y57 true (ret s0)) fun y63=>
 bind (Zg y57 true (ret s1)) fun y64=>
 bind (Zg y57 true (ixa 1 y63 y64)) fun y65=>
 bind (Zg y57 true (ld1 y65)) fun y66=>
 bind (Zg y57 true (Jv Γ y58 [y62,y66])) fun y67=>
 bind (Zg y57 true (bop .int .lss y67 (Value.int .i64 0))) fun y68=>
 bind (pick y57 y68 (Value.bool false)) fun y69=>
 cnd y69
 (bind (bop .int .add s12 (Value.int .i64 1)) fun y70=>
 ret (.nrm [s0,s1,s4,y70,s13]))
 (ret (.ext 6 [s0,s1,s4,s12,s13]))
noncomputable def Z8.l5 (Γ : Zc) (s0 s1 s4 s12 s13 : Value) : M Out:=
 bind (bop .int .leq s12 s13) fun y73=>
 bind (Zg y73 true (ret s4)) fun y74=>
 bind (Zg y73 true (ret s0)) fun y75=>
 bind (Zg y73 true (ret s13)) fun y76=>
 bind (Zg y73 true (ixa 1 y75 y76)) fun y77=>
 bind (Zg y73 true (ld1 y77)) fun y78=>
 bind (Zg y73 true (ret s0)) fun y79=>
 bind (Zg y73 true (ret s1)) fun y80=>
 bind (Zg y73 true (ixa 1 y79 y80)) fun y81=>
 bind (Zg y73 true (ld1 y81)) fun y82=>
 bind (Zg y73 true (Jv Γ y74 [y78,y82])) fun y83=>
 bind (Zg y73 true (bop .int .lss y83 (Value.int .i64 0))) fun y84=>
 bind (Zg y73 true (uop .not y84)) fun y85=>
 bind (pick y73 y85 (Value.bool false)) fun y86=>
 cnd y86
 (bind (bop .int .sub s13 (Value.int .i64 1)) fun y87=>
 ret (.nrm [s0,s1,s4,s12,y87]))
 (ret (.ext 8 [s0,s1,s4,s12,s13]))
noncomputable def Z8.l3 (Γ : Zc) (s0 s1 s4 s12 s13 : Value) : M Out:=
 jn (Zi (c5 (Z8.l4 Γ)) [s0,s1,s4,s12,s13]) noN (xk 6 (c5 fun q72_0 q72_1 q72_2 q72_3 q72_4=>
 jn (Zi (c5 (Z8.l5 Γ)) [q72_0,q72_1,q72_2,q72_3,q72_4]) noN (xk 8 (c5 fun q89_0 q89_1 q89_2 q89_3 q89_4=>
 bind (bop .int .gtr q89_3 q89_4) fun y90=>
 cnd y90
 (ret (.ext 4 [q89_0,q89_1,q89_4]))
 (bind (ixa 1 q89_0 q89_4) fun y91=>
 bind (ld1 y91) fun y92=>
 bind (ixa 1 q89_0 q89_3) fun y93=>
 bind (ld1 y93) fun y94=>
 bind (ixa 1 q89_0 q89_3) fun y95=>
 bind (st1 y95 y92) fun _=>
 bind (ixa 1 q89_0 q89_4) fun y96=>
 bind (st1 y96 y94) fun _=>
 bind (bop .int .add q89_3 (Value.int .i64 1)) fun y97=>
 bind (bop .int .sub q89_4 (Value.int .i64 1)) fun y98=>
 ret (.nrm [q89_0,q89_1,q89_2,y97,y98]))) noX) Z5) noX) Z5
noncomputable def Z8 (Γ : Zc) (x0 x1 x2 x3 x4 : Value) : M Value:=
 bind (ixa 1 x0 x3) fun y1=>
 bind (ld1 y1) fun y2=>
 bind (ixa 1 x0 x1) fun y3=>
 bind (ld1 y3) fun y4=>
 bind (ixa 1 x0 x1) fun y5=>
 bind (st1 y5 y2) fun _=>
 bind (ixa 1 x0 x3) fun y6=>
 bind (st1 y6 y4) fun _=>
 bind (bop .int .add x1 (Value.int .i64 1)) fun y7=>
 bind (bop .int .sub x2 (Value.int .i64 1)) fun y8=>
 jn (Zi (c5 (Z8.l1 Γ)) [x0,x1,x4,y7,y8]) noN (xk 0 (c5 fun q24_0 q24_1 q24_2 q24_3 q24_4=>
 jn (Zi (c5 (Z8.l2 Γ)) [q24_0,q24_1,q24_2,q24_3,q24_4]) noN (xk 2 (c5 fun q41_0 q41_1 q41_2 q41_3 q41_4=>
 bind (bop .int .gtr q41_3 q41_4) fun y42=>
 cnd y42
 (bind (ixa 1 q41_0 q41_1) fun y43=>
 bind (ld1 y43) fun y44=>
 bind (ixa 1 q41_0 q41_4) fun y45=>
 bind (ld1 y45) fun y46=>
 bind (ixa 1 q41_0 q41_4) fun y47=>
 bind (st1 y47 y44) fun _=>
 bind (ixa 1 q41_0 q41_1) fun y48=>
 bind (st1 y48 y46) fun _=>
 ret (Value.tuple #[q41_4,(Value.bool true)]))
 (bind (ixa 1 q41_0 q41_4) fun y49=>
 bind (ld1 y49) fun y50=>
 bind (ixa 1 q41_0 q41_3) fun y51=>
 bind (ld1 y51) fun y52=>
 bind (ixa 1 q41_0 q41_3) fun y53=>
 bind (st1 y53 y50) fun _=>
 bind (ixa 1 q41_0 q41_4) fun y54=>
 bind (st1 y54 y52) fun _=>
 bind (bop .int .add q41_3 (Value.int .i64 1)) fun y55=>
 bind (bop .int .sub q41_4 (Value.int .i64 1)) fun y56=>
 jn (Zi (c5 (Z8.l3 Γ)) [q41_0,q41_1,q41_2,y55,y56]) noN (xk 4 (c3 fun q102_0 q102_1 q102_2=>
 bind (ixa 1 q102_0 q102_1) fun y103=>
 bind (ld1 y103) fun y104=>
 bind (ixa 1 q102_0 q102_2) fun y105=>
 bind (ld1 y105) fun y106=>
 bind (ixa 1 q102_0 q102_2) fun y107=>
 bind (st1 y107 y104) fun _=>
 bind (ixa 1 q102_0 q102_1) fun y108=>
 bind (st1 y108 y106) fun _=>
 ret (Value.tuple #[q102_2,(Value.bool false)])) noX) ret)) noX) ret) noX) ret
noncomputable def ZeU (Γ : Zc) (x0 : Value) : M Value:=
 bind (bop .int .geq x0 (Value.int .u64 4294967296)) fun y1=>
 jn (cnd y1
 (bind (bop .int .shr x0 (Value.int .u64 32)) fun y2=>
 ret (.nrm [y2,(Value.int .i64 32)]))
 (ret (.nrm [x0,(Value.int .i64 0)]))) (c2 fun q3_0 q3_1=>
 bind (bop .int .geq q3_0 (Value.int .u64 65536)) fun y4=>
 jn (cnd y4
 (bind (bop .int .shr q3_0 (Value.int .u64 16)) fun y5=>
 bind (bop .int .add q3_1 (Value.int .i64 16)) fun y6=>
 ret (.nrm [y5,y6]))
 (ret (.nrm [q3_0,q3_1]))) (c2 fun q7_0 q7_1=>
 bind (bop .int .geq q7_0 (Value.int .u64 256)) fun y8=>
 jn (cnd y8
 (bind (bop .int .shr q7_0 (Value.int .u64 8)) fun y9=>
 bind (bop .int .add q7_1 (Value.int .i64 8)) fun y10=>
 ret (.nrm [y9,y10]))
 (ret (.nrm [q7_0,q7_1]))) (c2 fun q11_0 q11_1=>
 bind (cvi .u8 q11_0) fun y12=>
 bind (ixs (Value.string ⟨#[0,1,2,2,3,3,3,3,4,4,4,4,4,4,4,4,5,5,5,5,5,5,5,5,5,5,5,5,5,5,5,5,6,6,6,6,6,6,6,6,6,6,6,6,6,6,6,6,6,6,6,6,6,6,6,6,6,6,6,6,6,6,6,6,7,7,7,7,7,7,7,7,7,7,7,7,7,7,7,7,7,7,7,7,7,7,7,7,7,7,7,7,7,7,7,7,7,7,7,7,7,7,7,7,7,7,7,7,7,7,7,7,7,7,7,7,7,7,7,7,7,7,7,7,7,7,7,7,8,8,8,8,8,8,8,8,8,8,8,8,8,8,8,8,8,8,8,8,8,8,8,8,8,8,8,8,8,8,8,8,8,8,8,8,8,8,8,8,8,8,8,8,8,8,8,8,8,8,8,8,8,8,8,8,8,8,8,8,8,8,8,8,8,8,8,8,8,8,8,8,8,8,8,8,8,8,8,8,8,8,8,8,8,8,8,8,8,8,8,8,8,8,8,8,8,8,8,8,8,8,8,8,8,8,8,8,8,8,8,8,8,8,8,8,8,8,8,8,8,8,8,8,8,8,8,8]⟩) y12) fun y13=>
 bind (cvi .i64 y13) fun y14=>
 bind (bop .int .add q11_1 y14) fun y15=>
 ret y15) noX ret) noX ret) noX ret
theorem ZmK : RA1 ZcT ZeU:=ra1 Tryz.func226 (by kernel_rfl) fun _ _=>by kernel_rfl
noncomputable def We (Γ : Zc) (x0 x1 : Value) : M Value:=
 bind (Γ Yx [x0,x1]) fun y1=>
 ret y1
theorem Zed : RA2 Ya We:=ra2 Tryz.func227 (by kernel_rfl) fun _ _ _=>by kernel_rfl
noncomputable def JX.l1 (Γ : Zc) (s0 s1 s5 s6 s7 s8 s9 : Value) : M Out:=
 bind (bop .int .lss s9 s7) fun y5=>
 cnd y5
 (bind (bop .int .mul s8 (Value.int .u32 16777619)) fun y6=>
 bind (ixs s0 s9) fun y7=>
 bind (cvi .u32 y7) fun y8=>
 bind (bop .int .add y6 y8) fun y9=>
 bind (bop .int .add s9 (Value.int .i64 1)) fun y10=>
 ret (.nrm [s0,s1,s5,s6,s7,y9,y10]))
 (ret (.ext 0 [s0,s1,s5,s6,s7,s8]))
noncomputable def JX.l2 (Γ : Zc) (s0 s1 s5 s6 s7 s8 s10 : Value) : M Out:=
 bind (J0 s0) fun y18=>
 bind (bop .int .lss s10 y18) fun y19=>
 cnd y19
 (bind (bop .int .mul s8 (Value.int .u32 16777619)) fun y20=>
 bind (ixs s0 s10) fun y21=>
 bind (cvi .u32 y21) fun y22=>
 bind (bop .int .add y20 y22) fun y23=>
 bind (bop .int .sub s10 s7) fun y24=>
 bind (ixs s0 y24) fun y25=>
 bind (cvi .u32 y25) fun y26=>
 bind (bop .int .mul s6 y26) fun y27=>
 bind (bop .int .sub y23 y27) fun y28=>
 bind (bop .int .add s10 (Value.int .i64 1)) fun y29=>
 bind (bop .int .eql y28 s5) fun y30=>
 bind (ZG y30 true 8 (bind (bop .int .sub y29 s7) fun y31=>
 bind (sls s0 (some y31) (some y29)) fun y32=>
 bind (bop .str .eql y32 s1) fun y33=>
 ret [s0,y29,s7,y31,y29,y32,s1,y33])) (c8 fun _ _ _ _ _ _ _ q34_7=>
 bind (pick y30 q34_7 (Value.bool false)) fun y35=>
 cnd y35
 (bind (bop .int .sub y29 s7) fun y36=>
 ret (.ret y36))
 (ret (.nrm [s0,s1,s5,s6,s7,y28,y29]))))
 (ret (.ext 2 []))
noncomputable def JX (Γ : Zc) (x0 x1 : Value) : M Value:=
 bind (Γ ZeX [x1]) fun y1=>
 bind (Zo y1 0) fun y2=>
 bind (Zo y1 1) fun y3=>
 bind (J0 x1) fun y4=>
 jn (Zi (c7 (JX.l1 Γ)) [x0,x1,y2,y3,y4,(Value.int .u32 0),(Value.int .i64 0)]) noN (xk 0 (c6 fun q12_0 q12_1 q12_2 q12_3 q12_4 q12_5=>
 bind (bop .int .eql q12_5 q12_2) fun y13=>
 bind (ZG y13 true 5 (bind (sls q12_0 none (some q12_4)) fun y14=>
 bind (bop .str .eql y14 q12_1) fun y15=>
 ret [q12_0,q12_4,y14,q12_1,y15])) (c5 fun _ _ _ _ q16_4=>
 bind (pick y13 q16_4 (Value.bool false)) fun y17=>
 cnd y17
 (ret (Value.int .i64 0))
 (jn (Zi (c7 (JX.l2 Γ)) [q12_0,q12_1,q12_2,q12_3,q12_4,q12_5,q12_4]) noN (xk 2 (c0 (ret (Value.int .i64 (-1)))) noX) ret))) noX) ret
noncomputable def ZbD.l1 (Γ : Zc) (s0 s2 s3 s4 s10 : Value) : M Out:=
 bind (bop .int .mul (Value.int .i64 2) s10) fun y1=>
 bind (bop .int .add y1 (Value.int .i64 1)) fun y2=>
 bind (bop .int .geq y2 s2) fun y3=>
 cnd y3
 (ret (.ext 0 []))
 (bind (bop .int .add y2 (Value.int .i64 1)) fun y4=>
 bind (bop .int .lss y4 s2) fun y5=>
 bind (Zg y5 true (ret s4)) fun y6=>
 bind (Zg y5 true (ret s0)) fun y7=>
 bind (Zg y5 true (ret s3)) fun y8=>
 bind (Zg y5 true (ret y2)) fun y9=>
 bind (Zg y5 true (bop .int .add y8 y9)) fun y10=>
 bind (Zg y5 true (ixa 1 y7 y10)) fun y11=>
 bind (Zg y5 true (ld1 y11)) fun y12=>
 bind (Zg y5 true (ret s0)) fun y13=>
 bind (Zg y5 true (ret s3)) fun y14=>
 bind (Zg y5 true (ret y2)) fun y15=>
 bind (Zg y5 true (bop .int .add y14 y15)) fun y16=>
 bind (Zg y5 true (bop .int .add y16 (Value.int .i64 1))) fun y17=>
 bind (Zg y5 true (ixa 1 y13 y17)) fun y18=>
 bind (Zg y5 true (ld1 y18)) fun y19=>
 bind (Zg y5 true (Jv Γ y6 [y12,y19])) fun y20=>
 bind (Zg y5 true (bop .int .lss y20 (Value.int .i64 0))) fun y21=>
 bind (pick y5 y21 (Value.bool false)) fun y22=>
 jn (cnd y22
 (bind (bop .int .add y2 (Value.int .i64 1)) fun y23=>
 ret (.nrm [s0,s2,s3,s4,s10,y23]))
 (ret (.nrm [s0,s2,s3,s4,s10,y2]))) (c6 fun q24_0 q24_1 q24_2 q24_3 q24_4 q24_5=>
 bind (bop .int .add q24_2 q24_4) fun y25=>
 bind (ixa 1 q24_0 y25) fun y26=>
 bind (ld1 y26) fun y27=>
 bind (bop .int .add q24_2 q24_5) fun y28=>
 bind (ixa 1 q24_0 y28) fun y29=>
 bind (ld1 y29) fun y30=>
 bind (Jv Γ q24_3 [y27,y30]) fun y31=>
 bind (bop .int .lss y31 (Value.int .i64 0)) fun y32=>
 bind (uop .not y32) fun y33=>
 cnd y33
 (ret (.ret (Value.tuple #[])))
 (bind (bop .int .add q24_2 q24_4) fun y34=>
 bind (bop .int .add q24_2 q24_5) fun y35=>
 bind (bop .int .add q24_2 q24_5) fun y36=>
 bind (ixa 1 q24_0 y36) fun y37=>
 bind (ld1 y37) fun y38=>
 bind (bop .int .add q24_2 q24_4) fun y39=>
 bind (ixa 1 q24_0 y39) fun y40=>
 bind (ld1 y40) fun y41=>
 bind (ixa 1 q24_0 y34) fun y42=>
 bind (st1 y42 y38) fun _=>
 bind (ixa 1 q24_0 y35) fun y43=>
 bind (st1 y43 y41) fun _=>
 ret (.nrm [q24_0,q24_1,q24_2,q24_3,q24_5]))) noX Z5)
noncomputable def ZbD (Γ : Zc) (x0 x1 x2 x3 x4 : Value) : M Value:=
 jn (Zi (c5 (ZbD.l1 Γ)) [x0,x2,x3,x4,x1]) noN (xk 0 (c0 (ret (Value.tuple #[]))) noX) ret
noncomputable def YP.l1 (Γ : Zc) (s0 s4 s5 : Value) : M Out:=
 bind (J0 s0) fun y1=>
 bind (bop .int .lss s5 y1) fun y2=>
 cnd y2
 (bind (bop .int .mul s4 (Value.int .u32 16777619)) fun y3=>
 bind (ixs s0 s5) fun y4=>
 bind (cvi .u32 y4) fun y5=>
 bind (bop .int .add y3 y5) fun y6=>
 bind (bop .int .add s5 (Value.int .i64 1)) fun y7=>
 ret (.nrm [s0,y6,y7]))
 (ret (.ext 0 [s0,s4]))
noncomputable def YP.l2 (Γ : Zc) (s4 s6 s7 s8 : Value) : M Out:=
 bind (bop .int .gtr s8 (Value.int .i64 0)) fun y11=>
 cnd y11
 (bind (bop .int .and s8 (Value.int .i64 1)) fun y12=>
 bind (bop .int .neq y12 (Value.int .i64 0)) fun y13=>
 jn (cnd y13
 (bind (bop .int .mul s6 s7) fun y14=>
 ret (.nrm [s4,y14,s7,s8]))
 (ret (.nrm [s4,s6,s7,s8]))) (c4 fun q15_0 q15_1 q15_2 q15_3=>
 bind (bop .int .mul q15_2 q15_2) fun y16=>
 bind (bop .int .shr q15_3 (Value.int .u64 1)) fun y17=>
 ret (.nrm [q15_0,q15_1,y16,y17])) noX Z5)
 (ret (.ext 2 [s4,s6]))
noncomputable def YP (Γ : Zc) (x0 : Value) : M Value:=
 jn (Zi (c3 (YP.l1 Γ)) [x0,(Value.int .u32 0),(Value.int .i64 0)]) noN (xk 0 (c2 fun q9_0 q9_1=>
 bind (J0 q9_0) fun y10=>
 jn (Zi (c4 (YP.l2 Γ)) [q9_1,(Value.int .u32 1),(Value.int .u32 16777619),y10]) noN (xk 2 (c2 fun q20_0 q20_1=>
 ret (Value.tuple #[q20_0,q20_1])) noX) ret) noX) ret
end Go.Proofs.YtedkoimihknggaaGreatDoor.A

