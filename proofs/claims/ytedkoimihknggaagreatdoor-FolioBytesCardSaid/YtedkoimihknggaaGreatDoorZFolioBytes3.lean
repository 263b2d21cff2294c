/- What the law FolioBytes needs (part 3). -/
import Derived.Test.YtedkoimihknggaaGreatDoorZFolioBytes2
import Derived.Test.YtedkoimihknggaaGreatDoorProg
import Derived.KernelRfl
namespace Go.Proofs.YtedkoimihknggaaGreatDoor.A
set_option linter.unusedVariables false
set_option maxRecDepth 100000
set_option linter.unusedSimpArgs false
open Go.Proofs Go.Proofs.YtedkoimihknggaaGreatDoor
noncomputable def Zcc.l1 (Γ : Zc) (s3 s4 s5 s21 s22 s23 : Value) : M Out:=
 bind (bop .int .lss s23 s22) fun y10=>
 cnd y10
 (bind (ixa 1 s21 s23) fun y11=>
 bind (ld1 y11) fun y12=>
 bind (Jn Γ s4 [y12,(Value.int .i64 12)]) fun y13=>
 bind (bsl 1 1 (.string ⟨#[]⟩) [(0,1,y13)]) fun y14=>
 bind (app 1 16 s5 y14) fun y15=>
 bind (bop .int .add s23 (Value.int .i64 1)) fun y16=>
 ret (.nrm [s3,s4,y15,s21,s22,y16]))
 (ret (.ext 0 [s3,s4,s5]))
noncomputable def Zcc.l2 (Γ : Zc) (s3 s4 s5 s8 s34 s35 s36 : Value) : M Out:=
 bind (bop .int .lss s36 s35) fun y21=>
 cnd y21
 (bind (ixa 1 s34 s36) fun y22=>
 bind (ld1 y22) fun y23=>
 bind (ld1 s3) fun y24=>
 bind (Jn Γ s4 [y23,(Value.int .i64 12)]) fun y25=>
 bind (ld1 s3) fun u_26=>same u_26 y24 <|
 bind (Jn Γ s4 [y23,(Value.int .i64 12)]) fun y27=>
 bind (ld1 s3) fun u_28=>same u_28 y24 <|
 bind (bop .str .add y27 (Value.string ⟨#[64,98,99,100,46,101,102]⟩)) fun y29=>
 bind (bop .str .add y29 y24) fun y30=>
 bind (bld (.agg #[.string ⟨#[]⟩,.string ⟨#[]⟩,.string ⟨#[]⟩,.bool false,.slice none 0 0]) [(0,1,y25),(1,1,(Value.string ⟨#[48,49,50,51,52,53,54,55,56,57,97,98]⟩)),(2,1,y30),(3,1,(Value.bool true)),(4,1,s5)]) fun y31=>
 bind (bsl 5 1 (.agg #[.string ⟨#[]⟩,.string ⟨#[]⟩,.string ⟨#[]⟩,.bool false,.slice none 0 0]) [(0,5,y31)]) fun y32=>
 bind (app 5 80 s8 y32) fun y33=>
 bind (bop .int .add s36 (Value.int .i64 1)) fun y34=>
 ret (.nrm [s3,s4,s5,y33,s34,s35,y34]))
 (ret (.ext 2 [s5,s8]))
noncomputable def Zcc (Γ : Zc) (x0 : Value) : M Value:=
 bind (Γ WM []) fun y1=>
 bind (uop .not y1) fun y2=>
 cnd y2
 (ret (Value.bool false))
 (bind (bop .int .rem x0 (Value.int .u8 26)) fun y3=>
 bind (bop .int .add (Value.int .u8 97) y3) fun y4=>
 bind (bsl 1 1 (.int .u8 0) [(0,1,y4)]) fun y5=>
 bind (b2s y5) fun y6=>
 bind (alc 1 (.string ⟨#[]⟩)) fun y7=>
 bind (st1 y7 y6) fun _=>
 bind (bsl 1 6 (.string ⟨#[]⟩) [(0,1,(Value.string ⟨#[97,49]⟩)),(1,1,(Value.string ⟨#[98,49]⟩)),(2,1,(Value.string ⟨#[99,49]⟩)),(3,1,(Value.string ⟨#[100,49]⟩)),(4,1,(Value.string ⟨#[101,49]⟩)),(5,1,(Value.string ⟨#[102,49]⟩))]) fun y8=>
 bind (Zw y8) fun y9=>
 jn (Zi (c6 (Zcc.l1 Γ)) [y7,(Value.func (.func 11) #[] #[y7]),(Value.slice none 0 0),y8,y9,(Value.int .i64 0)]) noN (xk 0 (c3 fun q18_0 q18_1 q18_2=>
 bind (bsl 1 12 (.string ⟨#[]⟩) [(0,1,(Value.string ⟨#[97]⟩)),(1,1,(Value.string ⟨#[98]⟩)),(2,1,(Value.string ⟨#[99]⟩)),(3,1,(Value.string ⟨#[100]⟩)),(4,1,(Value.string ⟨#[101]⟩)),(5,1,(Value.string ⟨#[102]⟩)),(6,1,(Value.string ⟨#[103]⟩)),(7,1,(Value.string ⟨#[104]⟩)),(8,1,(Value.string ⟨#[105]⟩)),(9,1,(Value.string ⟨#[106]⟩)),(10,1,(Value.string ⟨#[107]⟩)),(11,1,(Value.string ⟨#[108]⟩))]) fun y19=>
 bind (Zw y19) fun y20=>
 jn (Zi (c7 (Zcc.l2 Γ)) [q18_0,q18_1,q18_2,(Value.slice none 0 0),y19,y20,(Value.int .i64 0)]) noN (xk 2 (c2 fun q36_0 q36_1=>
 bind (Γ Zbt [q36_1,q36_0]) fun y37=>
 bind (Zn y37 0) fun y38=>
 bind (Zn y37 1) fun y39=>
 bind (bop .int .eql y39 (Value.int .i64 0)) fun y40=>
 bind (ZJ y40 true 2 (bind (bop .ptr .neq y38 (Value.pointer none)) fun y41=>
 ret [y38,y41])) (c2 fun _ q42_1=>
 bind (pick y40 q42_1 (Value.bool false)) fun y43=>
 bind (ZJ y43 true 5 (bind (Γ QL [y38]) fun y44=>
 bind (Zw y44) fun y45=>
 bind (Γ Zcx []) fun y46=>
 bind (bop .int .eql y45 y46) fun y47=>
 ret [y38,y44,y45,y46,y47])) (c5 fun _ _ _ _ q48_4=>
 bind (pick y43 q48_4 (Value.bool false)) fun y49=>
 ret y49))) noX) ret) noX) ret)
noncomputable def ZgK.l1 (Γ : Zc) (s5 s6 s9 s11 s63 s64 s65 : Value) : M Out:=
 bind (bop .int .lss s65 s64) fun y44=>
 cnd y44
 (bind (ixa 4 s63 s65) fun y45=>
 bind (ldA 4 y45) fun y46=>
 bind (alc 1 (.agg #[.int .u8 0,.string ⟨#[]⟩,.string ⟨#[]⟩,.bool false])) fun y47=>
 bind (stA 4 y47 y46) fun _=>
 bind (ldA 2 s6) fun y48=>
 bind (ldA 4 y47) fun y49=>
 bind (Γ J0 [s5,y48,y49]) fun y50=>
 bind (Zn y50 0) fun y51=>
 bind (Zn y50 1) fun y52=>
 bind (stA 2 s6 y51) fun _=>
 bind (ldA 2 s11) fun y53=>
 bind (ldA 4 y47) fun y54=>
 bind (Γ J0 [s9,y53,y54]) fun y55=>
 bind (Zn y55 0) fun y56=>
 bind (Zn y55 1) fun y57=>
 bind (stA 2 s11 y56) fun _=>
 bind (uop .not y52) fun y58=>
 bind (Zg y58 false (ret y57)) fun y59=>
 bind (Zg y58 false (uop .not y59)) fun y60=>
 bind (pick y58 (Value.bool true) y60) fun y61=>
 bind (Zg y61 false (ret s5)) fun y62=>
 bind (Zg y61 false (ret s9)) fun y63=>
 bind (Zg y61 false (Γ QL [y62])) fun y64=>
 bind (Zg y61 false (b2s y64)) fun y65=>
 bind (Zg y61 false (Γ QL [y63])) fun y66=>
 bind (Zg y61 false (b2s y64)) fun u_67=>same u_67 y65 <|
 bind (Zg y61 false (b2s y66)) fun y68=>
 bind (Zg y61 false (bop .str .neq y65 y68)) fun y69=>
 bind (pick y61 (Value.bool true) y69) fun y70=>
 cnd y70
 (ret (.ret (Value.bool false)))
 (bind (bop .int .add s65 (Value.int .i64 1)) fun y71=>
 ret (.nrm [s5,s6,s9,s11,s63,s64,y71])))
 (ret (.ext 0 []))
noncomputable def ZgK (Γ : Zc) (x0 x1 : Value) : M Value:=
 bind (Γ WM []) fun y1=>
 bind (uop .not y1) fun y2=>
 bind (ZJ y2 false 3 (bind (Γ Zao [x0]) fun y3=>
 bind (uop .not y3) fun y4=>
 ret [x0,y3,y4])) (c3 fun _ _ q5_2=>
 bind (pick y2 (Value.bool true) q5_2) fun y6=>
 bind (ZJ y6 false 3 (bind (Γ Zao [x1]) fun y7=>
 bind (uop .not y7) fun y8=>
 ret [x1,y7,y8])) (c3 fun _ _ q9_2=>
 bind (pick y6 (Value.bool true) q9_2) fun y10=>
 cnd y10
 (bind (Γ WM []) fun y11=>
 ret y11)
 (bind (Γ Zbc [x0]) fun y12=>
 bind (Zn y12 0) fun y13=>
 bind (Zn y12 1) fun y14=>
 bind (alc 1 (.agg #[.slice none 0 0,.slice none 0 0])) fun y15=>
 bind (stA 2 y15 y14) fun _=>
 bind (Γ Zbc [x1]) fun y16=>
 bind (Zn y16 0) fun y17=>
 bind (Zn y16 1) fun y18=>
 bind (alc 1 (.agg #[.slice none 0 0,.slice none 0 0])) fun y19=>
 bind (stA 2 y19 y18) fun _=>
 bind (ldA 2 y15) fun y20=>
 bind (Γ QL [y13]) fun y21=>
 bind (ldA 2 y15) fun u_22=>same u_22 y20 <|
 bind (b2s y21) fun y23=>
 bind (Γ QL [y17]) fun y24=>
 bind (b2s y21) fun u_25=>same u_25 y23 <|
 bind (ldA 2 y15) fun u_26=>same u_26 y20 <|
 bind (b2s y24) fun y27=>
 bind (bop .str .eql y23 y27) fun y28=>
 bind (Γ ZcE [y17,y20]) fun y29=>
 bind (b2s y24) fun u_30=>same u_30 y27 <|
 bind (b2s y21) fun u_31=>same u_31 y23 <|
 bind (bop .bool .neq y28 y29) fun y32=>
 cnd y32
 (ret (Value.bool false))
 (bind (Γ QL [y13]) fun y33=>
 bind (Γ ZbD [y33]) fun y34=>
 bind (Zn y34 0) fun y35=>
 bind (Zn y34 1) fun y36=>
 bind (bop .int .neq y36 (Value.int .i64 0)) fun y37=>
 bind (ZJ y37 false 2 (bind (bop .ptr .eql y35 (Value.pointer none)) fun y38=>
 ret [y35,y38])) (c2 fun _ q39_1=>
 bind (pick y37 (Value.bool true) q39_1) fun y40=>
 cnd y40
 (ret (Value.bool false))
 (bind (ldA 2 y15) fun y41=>
 bind (alc 1 (.agg #[.slice none 0 0,.slice none 0 0])) fun y42=>
 bind (stA 2 y42 y41) fun _=>
 bind (Zw x1) fun y43=>
 jn (Zi (c7 (ZgK.l1 Γ)) [y13,y15,y35,y42,x1,y43,(Value.int .i64 0)]) noN (xk 0 (c0 (ret (Value.bool true))) noX) ret))))))
noncomputable def W9 (Γ : Zc) (x0 : Value) : M Value:=
 bind (Γ WM []) fun y1=>
 bind (uop .not y1) fun y2=>
 bind (ZJ y2 false 3 (bind (Γ Zao [x0]) fun y3=>
 bind (uop .not y3) fun y4=>
 ret [x0,y3,y4])) (c3 fun _ _ q5_2=>
 bind (pick y2 (Value.bool true) q5_2) fun y6=>
 cnd y6
 (bind (Γ WM []) fun y7=>
 ret y7)
 (bind (Γ Zbc [x0]) fun y8=>
 bind (Zn y8 0) fun y9=>
 bind (Zn y8 1) fun y10=>
 bind (alc 1 (.agg #[.slice none 0 0,.slice none 0 0])) fun y11=>
 bind (stA 2 y11 y10) fun _=>
 bind (Γ QL [y9]) fun y12=>
 bind (Γ ZbD [y12]) fun y13=>
 bind (Zn y13 0) fun y14=>
 bind (Zn y13 1) fun y15=>
 bind (b2s y12) fun y16=>
 bind (ldA 2 y11) fun y17=>
 bind (Γ ZdO [y17]) fun y18=>
 bind (b2s y12) fun u_19=>same u_19 y16 <|
 bind (bop .str .eql y16 y18) fun y20=>
 bind (Zg y20 true (ret y12)) fun y21=>
 bind (Zg y20 true (Zw y21)) fun y22=>
 bind (Zg y20 true (Γ Zcx [])) fun y23=>
 bind (Zg y20 true (bop .int .leq y22 y23)) fun y24=>
 bind (pick y20 y24 (Value.bool false)) fun y25=>
 bind (Zg y25 true (ret y12)) fun y26=>
 bind (Zg y25 true (Γ Zde [y26])) fun y27=>
 bind (Zg y25 true (bop .int .eql y27 (Value.int .i64 2))) fun y28=>
 bind (pick y25 y28 (Value.bool false)) fun y29=>
 bind (Zg y29 true (ret y15)) fun y30=>
 bind (Zg y29 true (bop .int .eql y30 (Value.int .i64 0))) fun y31=>
 bind (pick y29 y31 (Value.bool false)) fun y32=>
 bind (Zg y32 true (ret y14)) fun y33=>
 bind (Zg y32 true (bop .ptr .neq y33 (Value.pointer none))) fun y34=>
 bind (pick y32 y34 (Value.bool false)) fun y35=>
 bind (Zg y35 true (ret y14)) fun y36=>
 bind (Zg y35 true (ldA 2 y11)) fun y37=>
 bind (Zg y35 true (Γ ZcE [y36,y37])) fun y38=>
 bind (pick y35 y38 (Value.bool false)) fun y39=>
 bind (Zg y39 true (Γ QL [(Value.pointer none)])) fun y40=>
 bind (Zg y39 true (Zw y40)) fun y41=>
 bind (Zg y39 true (bop .int .eql y41 (Value.int .i64 0))) fun y42=>
 bind (pick y39 y42 (Value.bool false)) fun y43=>
 ret y43))
theorem Zl5 (Γ : Zc) (x0 : Value) : Zy Tryz.prog Γ Tryz.f6 ZfO [x0]=W9 Γ x0:=by kernel_rfl
theorem Zkx {prim : FuncId→Option (List Value→M Value)} (hp : prim Zaf=none) (n : Nat) (x0 : Value) : run Tryz.prog prim lvs (n+1) Zaf [x0]=W9 (run Tryz.prog prim lvs n) x0:=
 (Zk hp (by kernel_rfl) Tryz.func6 (by kernel_rfl)).trans (Zl5 _ x0)
noncomputable def Zbw.l1 (Γ : Zc) (s1 s2 s3 s9 s48 s49 s50 : Value) : M Out:=
 bind (bop .int .lss s50 s49) fun y22=>
 cnd y22
 (bind (ixa 3 s48 s50) fun y23=>
 bind (ldA 3 y23) fun y24=>
 bind (alc 1 (.agg #[.int .u8 0,.string ⟨#[]⟩,.string ⟨#[]⟩])) fun y25=>
 bind (stA 3 y25 y24) fun _=>
 bind (ldA 3 y25) fun y26=>
 bind (Γ ZrV [s9,y26]) fun y27=>
 bind (bop .int .add s50 (Value.int .i64 1)) fun y28=>
 ret (.nrm [s1,s2,s3,s9,s48,s49,y28]))
 (ret (.ext 0 [s1,s2,s3,s9]))
noncomputable def Zbw.l2 (Γ : Zc) (s2 s3 s9 s13 s72 s73 s74 : Value) : M Out:=
 bind (bop .int .lss s74 s73) fun y41=>
 cnd y41
 (bind (ixa 3 s72 s74) fun y42=>
 bind (ldA 3 y42) fun y43=>
 bind (alc 1 (.agg #[.int .u8 0,.string ⟨#[]⟩,.string ⟨#[]⟩])) fun y44=>
 bind (stA 3 y44 y43) fun _=>
 bind (ldA 3 y44) fun y45=>
 bind (ldA 3 y44) fun y46=>
 bind (Γ ZrV [s9,y45]) fun y47=>
 bind (ldA 3 y44) fun u_48=>same u_48 y46 <|
 bind (Γ ZtI [s13,y46]) fun y49=>
 bind (bop .int .neq y47 y49) fun y50=>
 bind (Zg y50 false (ret s9)) fun y51=>
 bind (Zg y50 false (ret s13)) fun y52=>
 bind (Zg y50 false (Γ ZfE [y51])) fun y53=>
 bind (Zg y50 false (Γ QL [y53])) fun y54=>
 bind (Zg y50 false (b2s y54)) fun y55=>
 bind (Zg y50 false (Γ QL [y52])) fun y56=>
 bind (Zg y50 false (b2s y54)) fun u_57=>same u_57 y55 <|
 bind (Zg y50 false (b2s y56)) fun y58=>
 bind (Zg y50 false (bop .str .neq y55 y58)) fun y59=>
 bind (pick y50 (Value.bool true) y59) fun y60=>
 cnd y60
 (ret (.ret (Value.bool false)))
 (bind (Γ Zor [s9,s2]) fun y61=>
 bind (Zn y61 0) fun y62=>
 bind (Zn y61 1) fun y63=>
 bind (Γ Ww [s13,s2]) fun y64=>
 bind (Zn y64 0) fun y65=>
 bind (Zn y64 1) fun y66=>
 bind (alc 1 (.agg #[.string ⟨#[]⟩,.string ⟨#[]⟩,.string ⟨#[]⟩,.bool false,.slice none 0 0])) fun y67=>
 bind (stA 5 y67 y65) fun _=>
 bind (Γ Zrf [s9,s3]) fun y68=>
 bind (Zn y68 0) fun y69=>
 bind (Zn y68 1) fun y70=>
 bind (Γ Zqr [s13,s3]) fun y71=>
 bind (Zn y71 0) fun y72=>
 bind (Zn y71 1) fun y73=>
 bind (fa 1 y67) fun y74=>
 bind (ld1 y74) fun y75=>
 bind (bop .str .neq y62 y75) fun y76=>
 bind (ZJ y76 false 3 (bind (bop .int .neq y63 y66) fun y77=>
 ret [y63,y66,y77])) (c3 fun _ _ q78_2=>
 bind (pick y76 (Value.bool true) q78_2) fun y79=>
 bind (ZJ y79 false 3 (bind (bop .int .neq y70 y73) fun y80=>
 ret [y70,y73,y80])) (c3 fun _ _ q81_2=>
 bind (pick y79 (Value.bool true) q81_2) fun y82=>
 bind (ZJ y82 false 4 (bind (Γ WB [y69,y72]) fun y83=>
 bind (uop .not y83) fun y84=>
 ret [y69,y72,y83,y84])) (c4 fun _ _ _ q85_3=>
 bind (pick y82 (Value.bool true) q85_3) fun y86=>
 cnd y86
 (ret (.ret (Value.bool false)))
 (bind (bop .int .add s74 (Value.int .i64 1)) fun y87=>
 ret (.nrm [s2,s3,s9,s13,s72,s73,y87])))))))
 (ret (.ext 2 []))
noncomputable def Zbw (Γ : Zc) (x0 x1 x2 x3 : Value) : M Value:=
 bind (Γ Ze6 []) fun y1=>
 bind (uop .not y1) fun y2=>
 bind (ZJ y2 false 3 (bind (Γ Zo6 [x0]) fun y3=>
 bind (uop .not y3) fun y4=>
 ret [x0,y3,y4])) (c3 fun _ _ q5_2=>
 bind (pick y2 (Value.bool true) q5_2) fun y6=>
 bind (ZJ y6 false 3 (bind (Γ Zo6 [x1]) fun y7=>
 bind (uop .not y7) fun y8=>
 ret [x1,y7,y8])) (c3 fun _ _ q9_2=>
 bind (pick y6 (Value.bool true) q9_2) fun y10=>
 bind (ZJ y10 false 3 (bind (JI x2) fun y11=>
 bind (bop .int .gtr y11 (Value.int .i64 50)) fun y12=>
 ret [x2,y11,y12])) (c3 fun _ _ q13_2=>
 bind (pick y10 (Value.bool true) q13_2) fun y14=>
 bind (ZJ y14 false 3 (bind (JI x3) fun y15=>
 bind (bop .int .gtr y15 (Value.int .i64 50)) fun y16=>
 ret [x3,y15,y16])) (c3 fun _ _ q17_2=>
 bind (pick y14 (Value.bool true) q17_2) fun y18=>
 cnd y18
 (bind (Γ Ze6 []) fun y19=>
 ret y19)
 (bind (Γ ZoU []) fun y20=>
 bind (Zw x0) fun y21=>
 jn (Zi (c7 (Zbw.l1 Γ)) [x1,x2,x3,y20,x0,y21,(Value.int .i64 0)]) noN (xk 0 (c4 fun q30_0 q30_1 q30_2 q30_3=>
 bind (Γ ZnN [q30_3]) fun y31=>
 bind (b2s y31) fun y32=>
 bind (Γ ZfE [q30_3]) fun y33=>
 bind (bop .ptr .eql y33 (Value.pointer none)) fun y34=>
 bind (ZJ y34 false 5 (bind (Γ ZnN [q30_3]) fun y35=>
 bind (b2s y35) fun y36=>
 bind (bop .str .neq y36 y32) fun y37=>
 ret [q30_3,y35,y36,y32,y37])) (c5 fun _ _ _ _ q38_4=>
 bind (pick y34 (Value.bool true) q38_4) fun y39=>
 cnd y39
 (ret (Value.bool false))
 (bind (Zw q30_0) fun y40=>
 jn (Zi (c7 (Zbw.l2 Γ)) [q30_1,q30_2,q30_3,y33,q30_0,y40,(Value.int .i64 0)]) noN (xk 2 (c0 (bind (Γ ZfE [(Value.pointer none)]) fun y90=>
 bind (bop .ptr .eql y90 (Value.pointer none)) fun y91=>
 ret y91)) noX) ret))) noX) ret)))))
noncomputable def Zbu.l1 (Γ : Zc) (s3 s4 s23 s24 s25 : Value) : M Out:=
 bind (bop .int .lss s25 s24) fun y11=>
 cnd y11
 (bind (ixa 4 s23 s25) fun y12=>
 bind (ldA 4 y12) fun y13=>
 bind (alc 1 (.agg #[.int .u8 0,.string ⟨#[]⟩,.string ⟨#[]⟩,.bool false])) fun y14=>
 bind (stA 4 y14 y13) fun _=>
 bind (ldA 2 s4) fun y15=>
 bind (ldA 4 y14) fun y16=>
 bind (Γ J0 [s3,y15,y16]) fun y17=>
 bind (Zn y17 0) fun y18=>
 bind (Zn y17 1) fun y19=>
 bind (stA 2 s4 y18) fun _=>
 bind (bop .int .add s25 (Value.int .i64 1)) fun y20=>
 ret (.nrm [s3,s4,s23,s24,y20]))
 (ret (.ext 0 [s3,s4]))
noncomputable def Zbu.l2 (Γ : Zc) (s3 s4 s7 s42 s43 s44 : Value) : M Out:=
 bind (bop .int .lss s44 s43) fun y30=>
 cnd y30
 (bind (ixa 5 s42 s44) fun y31=>
 bind (ldA 5 y31) fun y32=>
 bind (alc 1 (.agg #[.string ⟨#[]⟩,.string ⟨#[]⟩,.string ⟨#[]⟩,.bool false,.slice none 0 0])) fun y33=>
 bind (stA 5 y33 y32) fun _=>
 bind (ZJ s7 true 3 (bind (fa 2 y33) fun y34=>
 bind (ld1 y34) fun y35=>
 bind (bop .str .eql y35 (Value.string ⟨#[]⟩)) fun y36=>
 ret [y34,y35,y36])) (c3 fun _ _ q37_2=>
 bind (pick s7 q37_2 (Value.bool false)) fun y38=>
 bind (ZJ y38 true 3 (bind (fa 3 y33) fun y39=>
 bind (ld1 y39) fun y40=>
 bind (uop .not y40) fun y41=>
 ret [y39,y40,y41])) (c3 fun _ _ q42_2=>
 bind (pick y38 q42_2 (Value.bool false)) fun y43=>
 bind (bop .int .add s44 (Value.int .i64 1)) fun y44=>
 ret (.nrm [s3,s4,y43,s42,s43,y44]))))
 (ret (.ext 2 [s3,s4,s7]))
noncomputable def Zbu (Γ : Zc) (x0 : Value) : M Value:=
 bind (Γ Ze6 []) fun y1=>
 bind (uop .not y1) fun y2=>
 bind (ZJ y2 false 3 (bind (Γ Zao [x0]) fun y3=>
 bind (uop .not y3) fun y4=>
 ret [x0,y3,y4])) (c3 fun _ _ q5_2=>
 bind (pick y2 (Value.bool true) q5_2) fun y6=>
 cnd y6
 (bind (Γ Ze6 []) fun y7=>
 ret y7)
 (bind (Γ K3 []) fun y8=>
 bind (alc 1 (.agg #[.slice none 0 0,.slice none 0 0])) fun y9=>
 bind (Zw x0) fun y10=>
 jn (Zi (c5 (Zbu.l1 Γ)) [y8,y9,x0,y10,(Value.int .i64 0)]) noN (xk 0 (c2 fun q22_0 q22_1=>
 bind (fa 1 q22_1) fun y23=>
 bind (ld1 y23) fun y24=>
 bind (Zw y24) fun y25=>
 bind (bop .int .eql y25 (Value.int .i64 0)) fun y26=>
 bind (fa 0 q22_1) fun y27=>
 bind (ld1 y27) fun y28=>
 bind (Zw y28) fun y29=>
 jn (Zi (c6 (Zbu.l2 Γ)) [q22_0,q22_1,y26,y28,y29,(Value.int .i64 0)]) noN (xk 2 (c3 fun q46_0 q46_1 q46_2=>
 bind (Γ Zj4 [q46_0]) fun y47=>
 bind (Zn y47 0) fun y48=>
 bind (Zn y47 1) fun y49=>
 bind (uop .not q46_2) fun y50=>
 cnd y50
 (bind (bop .int .eql y49 (Value.int .i64 12)) fun y51=>
 bind (ZJ y51 true 2 (bind (bop .ptr .eql y48 (Value.pointer none)) fun y52=>
 ret [y48,y52])) (c2 fun _ q53_1=>
 bind (pick y51 q53_1 (Value.bool false)) fun y54=>
 ret y54))
 (bind (bop .int .neq y49 (Value.int .i64 0)) fun y55=>
 bind (Zg y55 false (ret y48)) fun y56=>
 bind (Zg y55 false (bop .ptr .eql y56 (Value.pointer none))) fun y57=>
 bind (pick y55 (Value.bool true) y57) fun y58=>
 bind (Zg y58 false (ret y48)) fun y59=>
 bind (Zg y58 false (ret q46_0)) fun y60=>
 bind (Zg y58 false (Γ ZfE [y59])) fun y61=>
 bind (Zg y58 false (Γ QL [y61])) fun y62=>
 bind (Zg y58 false (b2s y62)) fun y63=>
 bind (Zg y58 false (Γ QL [y60])) fun y64=>
 bind (Zg y58 false (b2s y62)) fun u_65=>same u_65 y63 <|
 bind (Zg y58 false (b2s y64)) fun y66=>
 bind (Zg y58 false (bop .str .neq y63 y66)) fun y67=>
 bind (pick y58 (Value.bool true) y67) fun y68=>
 cnd y68
 (ret (Value.bool false))
 (bind (Γ Zj4 [(Value.pointer none)]) fun y69=>
 bind (Zn y69 0) fun y70=>
 bind (Zn y69 1) fun y71=>
 bind (bop .int .eql y71 (Value.int .i64 12)) fun y72=>
 bind (Zg y72 true (ret y70)) fun y73=>
 bind (Zg y72 true (bop .ptr .eql y73 (Value.pointer none))) fun y74=>
 bind (pick y72 y74 (Value.bool false)) fun y75=>
 bind (Zg y75 true (ret y48)) fun y76=>
 bind (Zg y75 true (fa 0 q46_1)) fun y77=>
 bind (Zg y75 true (ld1 y77)) fun y78=>
 bind (Zg y75 true (Γ Zgj [y76])) fun y79=>
 bind (Zg y75 true (ld1 y77)) fun u_80=>same u_80 y78 <|
 bind (Zg y75 true (Γ KD [y79,y78])) fun y81=>
 bind (pick y75 y81 (Value.bool false)) fun y82=>
 ret y82))) noX) ret) noX) ret))
noncomputable def Zhu (Γ : Zc) : M Value:=
 bind (Γ K3 []) fun y1=>
 bind (Γ QL [y1]) fun y2=>
 bind (b2s y2) fun y3=>
 bind (bop .str .eql y3 (Value.string ⟨#[2,0,0,0,0]⟩)) fun y4=>
 ret y4
theorem Zso (Γ : Zc) : Zy Tryz.prog Γ Tryz.f10 Zj1 []=Zhu Γ :=by kernel_rfl
theorem Zqo {prim : FuncId→Option (List Value→M Value)} (hp : prim WM=none) (n : Nat) : run Tryz.prog prim lvs (n+1) WM []=Zhu (run Tryz.prog prim lvs n) :=
 (Zk hp (by kernel_rfl) Tryz.func10 (by kernel_rfl)).trans (Zso _ )
noncomputable def ZgA.l1 (Γ : Zc) (s0 s1 s2 : Value) : M Out:=
 bind (JI s0) fun y1=>
 bind (bop .int .lss y1 s1) fun y2=>
 cnd y2
 (bind (ld1 s2) fun y3=>
 bind (bop .str .add s0 y3) fun y4=>
 ret (.nrm [y4,s1,s2]))
 (ret (.ext 0 [s0]))
noncomputable def ZgA (Γ : Zc) (x0 x1 x2 : Value) : M Value:=
 jn (Zi (c3 (ZgA.l1 Γ)) [x0,x1,x2]) noN (xk 0 (c1 fun q6_0=>
 ret q6_0) noX) ret
noncomputable def QQ.l1 (Γ : Zc) (s0 s7 s23 s24 s25 : Value) : M Out:=
 bind (bop .int .lss s25 s24) fun y5=>
 cnd y5
 (bind (ixa 1 s23 s25) fun y6=>
 bind (ld1 y6) fun y7=>
 bind (Qa s7) fun y8=>
 bind (fa 2 y8) fun y9=>
 bind (ld1 y9) fun y10=>
 bind (Γ Yh [y10,y7]) fun y11=>
 bind (bop .int .add s25 (Value.int .i64 1)) fun y12=>
 ret (.nrm [s0,s7,s23,s24,y12]))
 (ret (.ext 0 [s0,s7]))
noncomputable def QQ.l3 (Γ : Zc) (s7 s11 s36 s37 s38 s54 s55 s56 : Value) : M Out:=
 bind (bop .int .lss s56 s55) fun y33=>
 cnd y33
 (bind (ixa 1 s54 s56) fun y34=>
 bind (ld1 y34) fun y35=>
 bind (Qa s7) fun y36=>
 bind (fa 2 y36) fun y37=>
 bind (ld1 y37) fun y38=>
 bind (fa 0 s11) fun y39=>
 bind (ld1 y39) fun y40=>
 bind (Γ YD [y38,y35,y40]) fun y41=>
 bind (bop .int .neq y41 (Value.int .i64 0)) fun y42=>
 cnd y42
 (ret (.ret (Value.tuple #[(Value.pointer none),y41])))
 (bind (bop .int .add s56 (Value.int .i64 1)) fun y43=>
 ret (.nrm [s7,s11,s36,s37,s38,s54,s55,y43])))
 (ret (.ext 4 [s7,s11,s36,s37,s38]))
noncomputable def QQ.l2 (Γ : Zc) (s7 s36 s37 s38 : Value) : M Out:=
 bind (bop .int .lss s38 s37) fun y16=>
 cnd y16
 (bind (ixa 5 s36 s38) fun y17=>
 bind (ldA 5 y17) fun y18=>
 bind (alc 1 (.agg #[.string ⟨#[]⟩,.string ⟨#[]⟩,.string ⟨#[]⟩,.bool false,.slice none 0 0])) fun y19=>
 bind (stA 5 y19 y18) fun _=>
 bind (Qa s7) fun y20=>
 bind (fa 0 y20) fun y21=>
 bind (ld1 y21) fun y22=>
 bind (fa 0 y19) fun y23=>
 bind (ld1 y23) fun y24=>
 bind (fa 1 y19) fun y25=>
 bind (ld1 y25) fun y26=>
 bind (fa 3 y19) fun y27=>
 bind (ld1 y27) fun y28=>
 bind (bld (.agg #[.string ⟨#[]⟩,.bool false]) [(0,1,y26),(1,1,y28)]) fun y29=>
 bind (mup .str y22 y24 y29) fun _=>
 bind (fa 4 y19) fun y30=>
 bind (ld1 y30) fun y31=>
 bind (Zw y31) fun y32=>
 jn (Zi (c8 (QQ.l3 Γ)) [s7,y19,s36,s37,s38,y31,y32,(Value.int .i64 0)]) noN (xk 4 (c5 fun q45_0 q45_1 q45_2 q45_3 q45_4=>
 bind (Qa q45_0) fun y46=>
 bind (fa 1 y46) fun y47=>
 bind (ld1 y47) fun y48=>
 bind (fa 0 q45_1) fun y49=>
 bind (ld1 y49) fun y50=>
 bind (fa 2 q45_1) fun y51=>
 bind (ld1 y51) fun y52=>
 bind (Γ Ke [y48,y50,y52]) fun y53=>
 bind (bop .int .neq y53 (Value.int .i64 0)) fun y54=>
 cnd y54
 (ret (.ret (Value.tuple #[(Value.pointer none),y53])))
 (bind (bop .int .add q45_4 (Value.int .i64 1)) fun y55=>
 ret (.nrm [q45_0,q45_2,q45_3,y55]))) noX) ZW)
 (ret (.ext 2 [s7]))
noncomputable def QQ (Γ : Zc) (x0 x1 : Value) : M Value:=
 bind (Γ Zc6 [x0,x1]) fun y1=>
 bind (bop .int .neq y1 (Value.int .i64 0)) fun y2=>
 cnd y2
 (ret (Value.tuple #[(Value.pointer none),y1]))
 (bind (Γ K3 []) fun y3=>
 bind (Zw x1) fun y4=>
 jn (Zi (c5 (QQ.l1 Γ)) [x0,y3,x1,y4,(Value.int .i64 0)]) noN (xk 0 (c2 fun q14_0 q14_1=>
 bind (Zw q14_0) fun y15=>
 jn (Zi (c4 (QQ.l2 Γ)) [q14_1,q14_0,y15,(Value.int .i64 0)]) noN (xk 2 (c1 fun q58_0=>
 ret (Value.tuple #[q58_0,(Value.int .i64 0)])) noX) ret) noX) ret)
theorem Zwu (Γ : Zc) (x0 x1 : Value) : Zy Tryz.prog Γ Tryz.f12 Zpy [x0,x1]=QQ Γ x0 x1:=by kernel_rfl
theorem Zu6 {prim : FuncId→Option (List Value→M Value)} (hp : prim Zbt=none) (n : Nat) (x0 x1 : Value) : run Tryz.prog prim lvs (n+1) Zbt [x0,x1]=QQ (run Tryz.prog prim lvs n) x0 x1:=
 (Zk hp (by kernel_rfl) Tryz.func12 (by kernel_rfl)).trans (Zwu _ x0 x1)
noncomputable def K4.l1 (Γ : Zc) (s3 s19 s20 s21 : Value) : M Out:=
 bind (bop .int .lss s21 s20) fun y12=>
 cnd y12
 (bind (ixa 5 s19 s21) fun y13=>
 bind (ldA 5 y13) fun y14=>
 bind (alc 1 (.agg #[.string ⟨#[]⟩,.string ⟨#[]⟩,.string ⟨#[]⟩,.bool false,.slice none 0 0])) fun y15=>
 bind (stA 5 y15 y14) fun _=>
 bind (ldA 5 y15) fun y16=>
 bind (Γ ZfZ [s3,(Value.int .i64 2),y16]) fun y17=>
 bind (bop .int .add s21 (Value.int .i64 1)) fun y18=>
 ret (.nrm [s3,s19,s20,y18]))
 (ret (.ext 0 [s3]))
noncomputable def K4 (Γ : Zc) (x0 : Value) : M Value:=
 bind (bop .ptr .eql x0 (Value.pointer none)) fun y1=>
 cnd y1
 (ret (Value.slice none 0 0))
 (bind (bld (.agg #[.slice none 0 0]) []) fun y2=>
 bind (alc 1 y2) fun y3=>
 bind (Γ JK [y3,(Value.int .u8 2)]) fun y4=>
 bind (Γ KG [x0]) fun y5=>
 bind (Γ KO [y4,y5]) fun y6=>
 bind (Γ W8 [x0]) fun y7=>
 bind (cvi .u16 y7) fun y8=>
 bind (Γ Yw [y6,y8]) fun y9=>
 bind (Γ Zbd [x0]) fun y10=>
 bind (Zw y10) fun y11=>
 jn (Zi (c4 (K4.l1 Γ)) [y9,y10,y11,(Value.int .i64 0)]) noN (xk 0 (c1 fun q20_0=>
 bind (Γ KR [q20_0]) fun y21=>
 ret y21) noX) ret)
theorem ZrX (Γ : Zc) (x0 : Value) : Zy Tryz.prog Γ Tryz.f13 Zj8 [x0]=K4 Γ x0:=by kernel_rfl
theorem ZiF {prim : FuncId→Option (List Value→M Value)} (hp : prim QL=none) (n : Nat) (x0 : Value) : run Tryz.prog prim lvs (n+1) QL [x0]=K4 (run Tryz.prog prim lvs n) x0:=
 (Zk hp (by kernel_rfl) Tryz.func13 (by kernel_rfl)).trans (ZrX _ x0)
noncomputable def Zig (Γ : Zc) : M Value:=
 ret (Value.int .i64 1733)
theorem ZtV (Γ : Zc) : Zy Tryz.prog Γ Tryz.f14 ZlR []=Zig Γ :=by kernel_rfl
theorem Zr2 {prim : FuncId→Option (List Value→M Value)} (hp : prim Zcx=none) (n : Nat) : run Tryz.prog prim lvs (n+1) Zcx []=Zig (run Tryz.prog prim lvs n) :=
 (Zk hp (by kernel_rfl) Tryz.func14 (by kernel_rfl)).trans (ZtV _ )
noncomputable def KY.l1 (Γ : Zc) (s4 s6 s8 s32 s33 : Value) : M Out:=
 bind (bop .int .lss s33 s32) fun y14=>
 cnd y14
 (bind (Γ Zdh [s4,(Value.int .i64 2)]) fun y15=>
 bind (bsl 5 1 (.agg #[.string ⟨#[]⟩,.string ⟨#[]⟩,.string ⟨#[]⟩,.bool false,.slice none 0 0]) [(0,5,y15)]) fun y16=>
 bind (app 5 80 s8 y16) fun y17=>
 bind (bop .int .add s33 (Value.int .i64 1)) fun y18=>
 ret (.nrm [s4,s6,y17,s32,y18]))
 (ret (.ext 0 [s4,s6,s8]))
noncomputable def KY (Γ : Zc) (x0 : Value) : M Value:=
 bind (Γ Zet [x0]) fun y1=>
 bind (Γ Kj [y1]) fun y2=>
 bind (Γ QK [y1]) fun y3=>
 bind (bop .int .eql y3 (Value.int .i64 0)) fun y4=>
 bind (ZJ y4 true 2 (bind (bop .int .neq y2 (Value.int .u8 2)) fun y5=>
 ret [y2,y5])) (c2 fun _ q6_1=>
 bind (pick y4 q6_1 (Value.bool false)) fun y7=>
 cnd y7
 (ret (Value.tuple #[(Value.pointer none),(Value.int .i64 6)]))
 (bind (Γ KH [y1,(Value.int .i64 6),(Value.int .i64 12)]) fun y8=>
 bind (Γ KM [y1]) fun y9=>
 bind (cvi .i64 y9) fun y10=>
 bind (bop .int .gtr y10 (Value.int .i64 12)) fun y11=>
 jn (cnd y11
 (bind (Γ Z5 [y1,(Value.int .i64 7)]) fun y12=>
 ret (.nrm [y1,y8,(Value.int .i64 0)]))
 (ret (.nrm [y1,y8,y10]))) (c3 fun q13_0 q13_1 q13_2=>
 jn (Zi (c5 (KY.l1 Γ)) [q13_0,q13_1,(Value.slice none 0 0),q13_2,(Value.int .i64 0)]) noN (xk 0 (c3 fun q20_0 q20_1 q20_2=>
 bind (Γ QK [q20_0]) fun y21=>
 bind (bop .int .neq y21 (Value.int .i64 0)) fun y22=>
 cnd y22
 (ret (Value.tuple #[(Value.pointer none),y21]))
 (bind (Γ Zbt [q20_2,q20_1]) fun y23=>
 bind (Zn y23 0) fun y24=>
 bind (Zn y23 1) fun y25=>
 bind (bop .int .eql y25 (Value.int .i64 0)) fun y26=>
 jn (cnd y26
 (bind (Γ KI [q20_0]) fun y27=>
 ret (.nrm [y24,y27]))
 (ret (.nrm [y24,y25]))) (c2 fun q28_0 q28_1=>
 bind (bop .int .neq q28_1 (Value.int .i64 0)) fun y29=>
 cnd y29
 (ret (Value.tuple #[(Value.pointer none),q28_1]))
 (ret (Value.tuple #[q28_0,(Value.int .i64 0)]))) noX ret)) noX) ret) noX ret))
theorem Zuz (Γ : Zc) (x0 : Value) : Zy Tryz.prog Γ Tryz.f15 Zmi [x0]=KY Γ x0:=by kernel_rfl
theorem Zkb {prim : FuncId→Option (List Value→M Value)} (hp : prim ZbD=none) (n : Nat) (x0 : Value) : run Tryz.prog prim lvs (n+1) ZbD [x0]=KY (run Tryz.prog prim lvs n) x0:=
 (Zk hp (by kernel_rfl) Tryz.func15 (by kernel_rfl)).trans (Zuz _ x0)
noncomputable def Znw.l1 (Γ : Zc) (s2 s4 s5 s6 s8 s45 s46 : Value) : M Out:=
 bind (bop .int .lss s46 s45) fun y37=>
 cnd y37
 (bind (ldA 2 s5) fun y38=>
 bind (Γ ZpM [y38,(Value.int .i64 2)]) fun y39=>
 bind (Zn y39 0) fun y40=>
 bind (Zn y39 1) fun y41=>
 bind (alc 1 (.agg #[.string ⟨#[]⟩,.int .i64 0])) fun y42=>
 bind (alc 1 (.agg #[.string ⟨#[]⟩,.string ⟨#[]⟩,.string ⟨#[]⟩,.bool false,.slice none 0 0])) fun y43=>
 bind (stA 2 y42 y40) fun _=>
 bind (stA 5 y43 y41) fun _=>
 bind (ldA 2 y42) fun y44=>
 bind (stA 2 s5 y44) fun _=>
 bind (ldA 5 y43) fun y45=>
 bind (bsl 5 1 (.agg #[.string ⟨#[]⟩,.string ⟨#[]⟩,.string ⟨#[]⟩,.bool false,.slice none 0 0]) [(0,5,y45)]) fun y46=>
 bind (app 5 80 s8 y46) fun y47=>
 bind (bop .int .add s46 (Value.int .u64 1)) fun y48=>
 ret (.nrm [s2,s4,s5,s6,y47,s45,y48]))
 (ret (.ext 0 [s2,s4,s5,s6,s8]))
noncomputable def Znw (Γ : Zc) (x0 : Value) : M Value:=
 bind (alc 1 (.agg #[.slice none 0 0,.slice none 0 0])) fun y1=>
 bind (bld (.agg #[.slice none 0 0,.slice none 0 0]) []) fun y2=>
 bind (alc 1 (.agg #[.slice none 0 0,.slice none 0 0])) fun y3=>
 bind (stA 2 y3 y2) fun _=>
 bind (bop .str .eql x0 (Value.string ⟨#[]⟩)) fun y4=>
 cnd y4
 (bind (ldA 2 y3) fun y5=>
 bind (stA 2 y1 y5) fun _=>
 bind (ldA 2 y1) fun y6=>
 ret (Value.tuple #[y6,(Value.int .i64 2)]))
 (bind (ixs x0 (Value.int .i64 0)) fun y7=>
 bind (bop .int .neq y7 (Value.int .u8 2)) fun y8=>
 cnd y8
 (bind (ldA 2 y3) fun y9=>
 bind (stA 2 y1 y9) fun _=>
 bind (ldA 2 y1) fun y10=>
 ret (Value.tuple #[y10,(Value.int .i64 6)]))
 (bind (sls x0 (some (Value.int .i64 1)) none) fun y11=>
 bind (bld (.agg #[.string ⟨#[]⟩,.int .i64 0]) [(0,1,y11)]) fun y12=>
 bind (Γ Zsk [y12,(Value.int .i64 6),(Value.int .i64 12)]) fun y13=>
 bind (Zn y13 0) fun y14=>
 bind (Zn y13 1) fun y15=>
 bind (alc 1 (.agg #[.string ⟨#[]⟩,.int .i64 0])) fun y16=>
 bind (stA 2 y16 y14) fun _=>
 bind (ldA 2 y16) fun y17=>
 bind (Γ ZjC [y17,(Value.int .i64 2)]) fun y18=>
 bind (Zn y18 0) fun y19=>
 bind (Zn y18 1) fun y20=>
 bind (stA 2 y16 y19) fun _=>
 bind (fa 1 y16) fun y21=>
 bind (ld1 y21) fun y22=>
 bind (bop .int .eql y22 (Value.int .i64 0)) fun y23=>
 bind (ZJ y23 true 2 (bind (bop .int .gtr y20 (Value.int .u64 12)) fun y24=>
 ret [y20,y24])) (c2 fun _ q25_1=>
 bind (pick y23 q25_1 (Value.bool false)) fun y26=>
 jn (cnd y26
 (bind (fa 1 y16) fun y27=>
 bind (st1 y27 (Value.int .i64 7)) fun _=>
 ret (.nrm [y1,y3,y16,y15,y20]))
 (ret (.nrm [y1,y3,y16,y15,y20]))) (c5 fun q28_0 q28_1 q28_2 q28_3 q28_4=>
 bind (fa 1 q28_2) fun y29=>
 bind (ld1 y29) fun y30=>
 bind (bop .int .neq y30 (Value.int .i64 0)) fun y31=>
 cnd y31
 (bind (ldA 2 q28_1) fun y32=>
 bind (fa 1 q28_2) fun y33=>
 bind (ld1 y33) fun y34=>
 bind (stA 2 q28_0 y32) fun _=>
 bind (ld1 y33) fun u_35=>same u_35 y34 <|
 bind (ldA 2 q28_0) fun y36=>
 ret (Value.tuple #[y36,y34]))
 (jn (Zi (c7 (Znw.l1 Γ)) [q28_0,q28_1,q28_2,q28_3,(Value.slice none 0 0),q28_4,(Value.int .u64 0)]) noN (xk 0 (c5 fun q50_0 q50_1 q50_2 q50_3 q50_4=>
 bind (fa 1 q50_2) fun y51=>
 bind (ld1 y51) fun y52=>
 bind (bop .int .eql y52 (Value.int .i64 0)) fun y53=>
 jn (cnd y53
 (bind (Γ ZyJ [q50_4,q50_3]) fun y54=>
 bind (fa 1 q50_2) fun y55=>
 bind (st1 y55 y54) fun _=>
 ret (.nrm [q50_0,q50_1,q50_2,q50_3,q50_4]))
 (ret (.nrm [q50_0,q50_1,q50_2,q50_3,q50_4]))) (c5 fun q56_0 q56_1 q56_2 q56_3 q56_4=>
 bind (fa 1 q56_2) fun y57=>
 bind (ld1 y57) fun y58=>
 bind (bop .int .eql y58 (Value.int .i64 0)) fun y59=>
 bind (ZJ y59 true 3 (bind (fa 0 q56_2) fun y60=>
 bind (ld1 y60) fun y61=>
 bind (bop .str .neq y61 (Value.string ⟨#[]⟩)) fun y62=>
 ret [y60,y61,y62])) (c3 fun _ _ q63_2=>
 bind (pick y59 q63_2 (Value.bool false)) fun y64=>
 jn (cnd y64
 (bind (fa 1 q56_2) fun y65=>
 bind (st1 y65 (Value.int .i64 3)) fun _=>
 ret (.nrm [q56_0,q56_1,q56_2,q56_3,q56_4]))
 (ret (.nrm [q56_0,q56_1,q56_2,q56_3,q56_4]))) (c5 fun q66_0 q66_1 q66_2 q66_3 q66_4=>
 bind (fa 1 q66_2) fun y67=>
 bind (ld1 y67) fun y68=>
 bind (bop .int .neq y68 (Value.int .i64 0)) fun y69=>
 cnd y69
 (bind (ldA 2 q66_1) fun y70=>
 bind (fa 1 q66_2) fun y71=>
 bind (ld1 y71) fun y72=>
 bind (stA 2 q66_0 y70) fun _=>
 bind (ld1 y71) fun u_73=>same u_73 y72 <|
 bind (ldA 2 q66_0) fun y74=>
 ret (Value.tuple #[y74,y72]))
 (bind (bld (.agg #[.slice none 0 0,.slice none 0 0]) [(0,1,q66_4),(1,1,q66_3)]) fun y75=>
 bind (stA 2 q66_0 y75) fun _=>
 bind (ldA 2 q66_0) fun y76=>
 ret (Value.tuple #[y76,(Value.int .i64 0)]))) noX ret)) noX ret) noX) ret)) noX ret)))
noncomputable def Ziq (Γ : Zc) (x0 x1 : Value) : M Value:=
 bind (alc 1 x1) fun y1=>
 bind (fa 0 y1) fun y2=>
 bind (ld1 y2) fun y3=>
 bind (Zw y3) fun y4=>
 bind (Γ W8 [x0]) fun y5=>
 bind (ld1 y2) fun u_6=>same u_6 y3 <|
 bind (bop .int .eql y5 y4) fun y7=>
 bind (Zg y7 true (ret x0)) fun y8=>
 bind (Zg y7 true (fa 0 y1)) fun y9=>
 bind (Zg y7 true (ld1 y9)) fun y10=>
 bind (Zg y7 true (Γ Zbd [y8])) fun y11=>
 bind (Zg y7 true (ld1 y9)) fun u_12=>same u_12 y10 <|
 bind (Zg y7 true (Γ KD [y11,y10])) fun y13=>
 bind (pick y7 y13 (Value.bool false)) fun y14=>
 bind (Zg y14 true (ret x0)) fun y15=>
 bind (Zg y14 true (fa 1 y1)) fun y16=>
 bind (Zg y14 true (ld1 y16)) fun y17=>
 bind (Zg y14 true (Γ KG [y15])) fun y18=>
 bind (Zg y14 true (ld1 y16)) fun u_19=>same u_19 y17 <|
 bind (Zg y14 true (Γ WB [y18,y17])) fun y20=>
 bind (pick y14 y20 (Value.bool false)) fun y21=>
 ret y21
theorem ZsZ (Γ : Zc) (x0 x1 : Value) : Zy Tryz.prog Γ Tryz.f17 Zk9 [x0,x1]=Ziq Γ x0 x1:=by kernel_rfl
theorem Zsu {prim : FuncId→Option (List Value→M Value)} (hp : prim ZcE=none) (n : Nat) (x0 x1 : Value) : run Tryz.prog prim lvs (n+1) ZcE [x0,x1]=Ziq (run Tryz.prog prim lvs n) x0 x1:=
 (Zk hp (by kernel_rfl) Tryz.func17 (by kernel_rfl)).trans (ZsZ _ x0 x1)
noncomputable def WI.l1 (Γ : Zc) (s0 s5 s6 s7 : Value) : M Out:=
 bind (bop .int .lss s7 s6) fun y2=>
 cnd y2
 (bind (ixa 4 s5 s7) fun y3=>
 bind (ldA 4 y3) fun y4=>
 bind (alc 1 (.agg #[.int .u8 0,.string ⟨#[]⟩,.string ⟨#[]⟩,.bool false])) fun y5=>
 bind (stA 4 y5 y4) fun _=>
 bind (fa 1 y5) fun y6=>
 bind (ld1 y6) fun y7=>
 bind (JI y7) fun y8=>
 bind (bop .int .gtr y8 (Value.int .i64 50)) fun y9=>
 bind (ZJ y9 false 4 (bind (fa 2 y5) fun y10=>
 bind (ld1 y10) fun y11=>
 bind (JI y11) fun y12=>
 bind (bop .int .gtr y12 (Value.int .i64 50)) fun y13=>
 ret [y10,y11,y12,y13])) (c4 fun _ _ _ q14_3=>
 bind (pick y9 (Value.bool true) q14_3) fun y15=>
 cnd y15
 (ret (.ret (Value.bool false)))
 (bind (bop .int .add s7 (Value.int .i64 1)) fun y16=>
 ret (.nrm [s0,s5,s6,y16]))))
 (ret (.ext 0 [s0]))
noncomputable def WI (Γ : Zc) (x0 : Value) : M Value:=
 bind (Zw x0) fun y1=>
 jn (Zi (c4 (WI.l1 Γ)) [x0,x0,y1,(Value.int .i64 0)]) noN (xk 0 (c1 fun q18_0=>
 bind (Zw q18_0) fun y19=>
 bind (bop .int .leq y19 (Value.int .i64 60)) fun y20=>
 ret y20) noX) ret
theorem Zvl (Γ : Zc) (x0 : Value) : Zy Tryz.prog Γ Tryz.f18 Znu [x0]=WI Γ x0:=by kernel_rfl
theorem Zut {prim : FuncId→Option (List Value→M Value)} (hp : prim Zao=none) (n : Nat) (x0 : Value) : run Tryz.prog prim lvs (n+1) Zao [x0]=WI (run Tryz.prog prim lvs n) x0:=
 (Zk hp (by kernel_rfl) Tryz.func18 (by kernel_rfl)).trans (Zvl _ x0)
noncomputable def Ky.l1 (Γ : Zc) (s3 s4 s5 s9 s10 s11 : Value) : M Out:=
 bind (bop .int .lss s11 s10) fun y5=>
 cnd y5
 (bind (ixa 4 s9 s11) fun y6=>
 bind (ldA 4 y6) fun y7=>
 bind (alc 1 (.agg #[.int .u8 0,.string ⟨#[]⟩,.string ⟨#[]⟩,.bool false])) fun y8=>
 bind (stA 4 y8 y7) fun _=>
 bind (ldA 2 s5) fun y9=>
 bind (ldA 4 y8) fun y10=>
 bind (Γ J0 [s4,y9,y10]) fun y11=>
 bind (Zn y11 0) fun y12=>
 bind (Zn y11 1) fun y13=>
 bind (stA 2 s5 y12) fun _=>
 bind (bop .int .add s11 (Value.int .i64 1)) fun y14=>
 ret (.nrm [s3,s4,s5,s9,s10,y14]))
 (ret (.ext 0 [s3,s4,s5]))
noncomputable def Ky (Γ : Zc) (x0 : Value) : M Value:=
 bind (alc 1 (.agg #[.slice none 0 0,.slice none 0 0])) fun y1=>
 bind (Γ K3 []) fun y2=>
 bind (alc 1 (.agg #[.slice none 0 0,.slice none 0 0])) fun y3=>
 bind (Zw x0) fun y4=>
 jn (Zi (c6 (Ky.l1 Γ)) [y1,y2,y3,x0,y4,(Value.int .i64 0)]) noN (xk 0 (c3 fun q16_0 q16_1 q16_2=>
 bind (ldA 2 q16_2) fun y17=>
 bind (stA 2 q16_0 y17) fun _=>
 bind (ldA 2 q16_0) fun y18=>
 ret (Value.tuple #[q16_1,y18])) noX) ret
theorem Zrh (Γ : Zc) (x0 : Value) : Zy Tryz.prog Γ Tryz.f19 ZiE [x0]=Ky Γ x0:=by kernel_rfl
theorem ZpD {prim : FuncId→Option (List Value→M Value)} (hp : prim Zbc=none) (n : Nat) (x0 : Value) : run Tryz.prog prim lvs (n+1) Zbc [x0]=Ky (run Tryz.prog prim lvs n) x0:=
 (Zk hp (by kernel_rfl) Tryz.func19 (by kernel_rfl)).trans (Zrh _ x0)
noncomputable def KP (Γ : Zc) (x0 x1 x2 : Value) : M Value:=
 bind (alc 1 x1) fun y1=>
 bind (alc 1 x2) fun y2=>
 bind (alc 1 (.agg #[.slice none 0 0,.slice none 0 0])) fun y3=>
 bind (fa 0 y2) fun y4=>
 bind (ld1 y4) fun y5=>
 bind (bop .int .rem y5 (Value.int .u8 11)) fun y6=>
 bind (bop .int .eql y6 (Value.int .u8 0)) fun y7=>
 jn (cnd y7
 (bind (ldA 2 y1) fun y8=>
 bind (fa 1 y2) fun y9=>
 bind (ld1 y9) fun y10=>
 bind (fa 2 y2) fun y11=>
 bind (ld1 y11) fun y12=>
 bind (Γ Zcn [y8,y10,y12]) fun y13=>
 bind (Zn y13 0) fun y14=>
 bind (Zn y13 1) fun y15=>
 bind (stA 2 y1 y14) fun _=>
 bind (fa 1 y2) fun y16=>
 bind (ld1 y16) fun y17=>
 bind (fa 2 y2) fun y18=>
 bind (ld1 y18) fun y19=>
 bind (Γ Y6 [x0,y17,y19]) fun y20=>
 ret (.nrm [y1,y3,y20,y15]))
 (bind (bop .int .eql y6 (Value.int .u8 1)) fun y21=>
 jn (cnd y21
 (bind (ldA 2 y1) fun y22=>
 bind (fa 1 y2) fun y23=>
 bind (ld1 y23) fun y24=>
 bind (Γ Zcu [y22,y24]) fun y25=>
 bind (Zn y25 0) fun y26=>
 bind (Zn y25 1) fun y27=>
 bind (stA 2 y1 y26) fun _=>
 bind (fa 1 y2) fun y28=>
 bind (ld1 y28) fun y29=>
 bind (Γ YW [x0,y29]) fun y30=>
 ret (.nrm [y1,y3,y30,y27]))
 (bind (bop .int .eql y6 (Value.int .u8 2)) fun y31=>
 jn (cnd y31
 (bind (ldA 2 y1) fun y32=>
 bind (fa 1 y2) fun y33=>
 bind (ld1 y33) fun y34=>
 bind (fa 2 y2) fun y35=>
 bind (ld1 y35) fun y36=>
 bind (Γ ZaI [y32,y34,y36]) fun y37=>
 bind (Zn y37 0) fun y38=>
 bind (Zn y37 1) fun y39=>
 bind (stA 2 y1 y38) fun _=>
 bind (fa 1 y2) fun y40=>
 bind (ld1 y40) fun y41=>
 bind (fa 2 y2) fun y42=>
 bind (ld1 y42) fun y43=>
 bind (Γ Wi [x0,y41,y43]) fun y44=>
 ret (.nrm [y1,y3,y44,y39]))
 (bind (bop .int .eql y6 (Value.int .u8 3)) fun y45=>
 jn (cnd y45
 (bind (ldA 2 y1) fun y46=>
 bind (fa 1 y2) fun y47=>
 bind (ld1 y47) fun y48=>
 bind (fa 2 y2) fun y49=>
 bind (ld1 y49) fun y50=>
 bind (Γ ZaF [y46,y48,y50]) fun y51=>
 bind (Zn y51 0) fun y52=>
 bind (Zn y51 1) fun y53=>
 bind (stA 2 y1 y52) fun _=>
 bind (fa 1 y2) fun y54=>
 bind (ld1 y54) fun y55=>
 bind (fa 2 y2) fun y56=>
 bind (ld1 y56) fun y57=>
 bind (Γ YF [x0,y55,y57]) fun y58=>
 ret (.nrm [y1,y3,y58,y53]))
 (bind (bop .int .eql y6 (Value.int .u8 4)) fun y59=>
 jn (cnd y59
 (bind (ldA 2 y1) fun y60=>
 bind (fa 1 y2) fun y61=>
 bind (ld1 y61) fun y62=>
 bind (fa 3 y2) fun y63=>
 bind (ld1 y63) fun y64=>
 bind (Γ ZaL [y60,y62,y64]) fun y65=>
 bind (Zn y65 0) fun y66=>
 bind (Zn y65 1) fun y67=>
 bind (stA 2 y1 y66) fun _=>
 bind (fa 1 y2) fun y68=>
 bind (ld1 y68) fun y69=>
 bind (fa 3 y2) fun y70=>
 bind (ld1 y70) fun y71=>
 bind (Γ Wj [x0,y69,y71]) fun y72=>
 ret (.nrm [y1,y3,y72,y67]))
 (bind (bop .int .eql y6 (Value.int .u8 5)) fun y73=>
 jn (cnd y73
 (bind (ldA 2 y1) fun y74=>
 bind (fa 1 y2) fun y75=>
 bind (ld1 y75) fun y76=>
 bind (fa 2 y2) fun y77=>
 bind (ld1 y77) fun y78=>
 bind (Γ Zba [y74,y76,y78]) fun y79=>
 bind (Zn y79 0) fun y80=>
 bind (Zn y79 1) fun y81=>
 bind (stA 2 y1 y80) fun _=>
 bind (fa 1 y2) fun y82=>
 bind (ld1 y82) fun y83=>
 bind (fa 2 y2) fun y84=>
 bind (ld1 y84) fun y85=>
 bind (Γ WA [x0,y83,y85]) fun y86=>
 ret (.nrm [y1,y3,y86,y81]))
 (bind (bop .int .eql y6 (Value.int .u8 6)) fun y87=>
 jn (cnd y87
 (bind (ldA 2 y1) fun y88=>
 bind (fa 1 y2) fun y89=>
 bind (ld1 y89) fun y90=>
 bind (Γ ZaP [y88,y90]) fun y91=>
 bind (Zn y91 0) fun y92=>
 bind (Zn y91 1) fun y93=>
 bind (stA 2 y1 y92) fun _=>
 bind (fa 1 y2) fun y94=>
 bind (ld1 y94) fun y95=>
 bind (Γ Wt [x0,y95]) fun y96=>
 ret (.nrm [y1,y3,y96,y93]))
 (bind (bop .int .eql y6 (Value.int .u8 7)) fun y97=>
 jn (cnd y97
 (bind (ldA 2 y1) fun y98=>
 bind (fa 1 y2) fun y99=>
 bind (ld1 y99) fun y100=>
 bind (Γ Wy [y98,y100]) fun y101=>
 bind (Zn y101 0) fun y102=>
 bind (Zn y101 1) fun y103=>
 bind (stA 2 y1 y102) fun _=>
 bind (fa 1 y2) fun y104=>
 bind (ld1 y104) fun y105=>
 bind (Γ YJ [x0,y105]) fun y106=>
 ret (.nrm [y1,y3,y106,y103]))
 (bind (bop .int .eql y6 (Value.int .u8 8)) fun y107=>
 jn (cnd y107
 (bind (ldA 2 y1) fun y108=>
 bind (fa 1 y2) fun y109=>
 bind (ld1 y109) fun y110=>
 bind (fa 2 y2) fun y111=>
 bind (ld1 y111) fun y112=>
 bind (Γ Zcy [y108,y110,y112]) fun y113=>
 bind (Zn y113 0) fun y114=>
 bind (Zn y113 1) fun y115=>
 bind (stA 2 y1 y114) fun _=>
 bind (fa 1 y2) fun y116=>
 bind (ld1 y116) fun y117=>
 bind (fa 2 y2) fun y118=>
 bind (ld1 y118) fun y119=>
 bind (Γ ZaD [x0,y117,y119]) fun y120=>
 ret (.nrm [y1,y3,y120,y115]))
 (bind (bop .int .eql y6 (Value.int .u8 9)) fun y121=>
 jn (cnd y121
 (bind (ldA 2 y1) fun y122=>
 bind (fa 1 y2) fun y123=>
 bind (ld1 y123) fun y124=>
 bind (fa 2 y2) fun y125=>
 bind (ld1 y125) fun y126=>
 bind (Γ ZbY [y122,y124,y126]) fun y127=>
 bind (Zn y127 0) fun y128=>
 bind (Zn y127 1) fun y129=>
 bind (stA 2 y1 y128) fun _=>
 bind (fa 1 y2) fun y130=>
 bind (ld1 y130) fun y131=>
 bind (fa 2 y2) fun y132=>
 bind (ld1 y132) fun y133=>
 bind (Γ WZ [x0,y131,y133]) fun y134=>
 ret (.nrm [y1,y3,y134,y129]))
 (bind (Γ ZbT [x0]) fun y135=>
 bind (fa 1 y2) fun y136=>
 bind (ld1 y136) fun y137=>
 bind (Γ Y6 [y135,y137,(Value.string ⟨#[49]⟩)]) fun y138=>
 bind (Γ YW [y135,(Value.string ⟨#[97,110,110]⟩)]) fun y139=>
 bind (Γ YJ [y135,(Value.string ⟨#[100,101,118]⟩)]) fun y140=>
 bind (Γ YF [y135,(Value.string ⟨#[98,111,98]⟩),(Value.string ⟨#[113,64,113,46,113]⟩)]) fun y141=>
 ret (.nrm [y1,y3,(Value.int .i64 0),(Value.int .i64 0)]))) (c4 fun q142_0 q142_1 q142_2 q142_3=>
 ret (.nrm [q142_0,q142_1,q142_2,q142_3])) noX ZW)) (c4 fun q144_0 q144_1 q144_2 q144_3=>
 ret (.nrm [q144_0,q144_1,q144_2,q144_3])) noX ZW)) (c4 fun q146_0 q146_1 q146_2 q146_3=>
 ret (.nrm [q146_0,q146_1,q146_2,q146_3])) noX ZW)) (c4 fun q148_0 q148_1 q148_2 q148_3=>
 ret (.nrm [q148_0,q148_1,q148_2,q148_3])) noX ZW)) (c4 fun q150_0 q150_1 q150_2 q150_3=>
 ret (.nrm [q150_0,q150_1,q150_2,q150_3])) noX ZW)) (c4 fun q152_0 q152_1 q152_2 q152_3=>
 ret (.nrm [q152_0,q152_1,q152_2,q152_3])) noX ZW)) (c4 fun q154_0 q154_1 q154_2 q154_3=>
 ret (.nrm [q154_0,q154_1,q154_2,q154_3])) noX ZW)) (c4 fun q156_0 q156_1 q156_2 q156_3=>
 ret (.nrm [q156_0,q156_1,q156_2,q156_3])) noX ZW)) (c4 fun q158_0 q158_1 q158_2 q158_3=>
 ret (.nrm [q158_0,q158_1,q158_2,q158_3])) noX ZW)) (c4 fun q160_0 q160_1 q160_2 q160_3=>
 bind (ldA 2 q160_0) fun y161=>
 bind (bop .int .eql q160_2 q160_3) fun y162=>
 bind (stA 2 q160_1 y161) fun _=>
 bind (ldA 2 q160_1) fun y163=>
 ret (Value.tuple #[y163,y162])) noX ret
theorem ZwF (Γ : Zc) (x0 x1 x2 : Value) : Zy Tryz.prog Γ Tryz.f20 Zqd [x0,x1,x2]=KP Γ x0 x1 x2:=by kernel_rfl
theorem Kt {prim : FuncId→Option (List Value→M Value)} (hp : prim J0=none) (n : Nat) (x0 x1 x2 : Value) : run Tryz.prog prim lvs (n+1) J0 [x0,x1,x2]=KP (run Tryz.prog prim lvs n) x0 x1 x2:=
 (Zk hp (by kernel_rfl) Tryz.func20 (by kernel_rfl)).trans (ZwF _ x0 x1 x2)
noncomputable def Zil (Γ : Zc) (x0 : Value) : M Value:=
 bind (alc 1 x0) fun y1=>
 bind (fa 1 y1) fun y2=>
 bind (ld1 y2) fun y3=>
 bind (fa 0 y1) fun y4=>
 bind (ld1 y4) fun y5=>
 bind (Γ Zdp [y3]) fun y6=>
 bind (ld1 y4) fun u_7=>same u_7 y5 <|
 bind (bop .str .add (Value.string ⟨#[2]⟩) y6) fun y8=>
 bind (Γ ZeF [(Value.int .i64 2),y5]) fun y9=>
 bind (bop .str .add y8 y9) fun y10=>
 ret y10
theorem ZuR (Γ : Zc) (x0 : Value) : Zy Tryz.prog Γ Tryz.f21 Zln [x0]=Zil Γ x0:=by kernel_rfl
theorem ZsF {prim : FuncId→Option (List Value→M Value)} (hp : prim ZdO=none) (n : Nat) (x0 : Value) : run Tryz.prog prim lvs (n+1) ZdO [x0]=Zil (run Tryz.prog prim lvs n) x0:=
 (Zk hp (by kernel_rfl) Tryz.func21 (by kernel_rfl)).trans (ZuR _ x0)
noncomputable def Zhx (Γ : Zc) (x0 : Value) : M Value:=
 bind (Zw x0) fun y1=>
 bind (bop .int .gtr y1 (Value.int .i64 0)) fun y2=>
 bind (ZJ y2 true 5 (bind (ixa 1 x0 (Value.int .i64 0)) fun y3=>
 bind (ld1 y3) fun y4=>
 bind (bop .int .eql y4 (Value.int .u8 1)) fun y5=>
 ret [x0,y3,y4,y5,y5])) (c5 fun _ _ _ _ q6_4=>
 bind (ZJ q6_4 false 4 (bind (ixa 1 x0 (Value.int .i64 0)) fun y7=>
 bind (ld1 y7) fun y8=>
 bind (bop .int .eql y8 (Value.int .u8 2)) fun y9=>
 ret [x0,y7,y8,y9])) (c4 fun _ _ _ q10_3=>
 bind (ZJ y2 true 1 (bind (pick q6_4 (Value.bool true) q10_3) fun y11=>
 ret [y11])) (c1 fun q12_0=>
 bind (pick y2 q12_0 (Value.bool false)) fun y13=>
 cnd y13
 (bind (ixa 1 x0 (Value.int .i64 0)) fun y14=>
 bind (ld1 y14) fun y15=>
 bind (cvi .i64 y15) fun y16=>
 ret y16)
 (ret (Value.int .i64 0)))))
theorem ZrZ (Γ : Zc) (x0 : Value) : Zy Tryz.prog Γ Tryz.f22 Zj5 [x0]=Zhx Γ x0:=by kernel_rfl
theorem ZqB {prim : FuncId→Option (List Value→M Value)} (hp : prim Zde=none) (n : Nat) (x0 : Value) : run Tryz.prog prim lvs (n+1) Zde [x0]=Zhx (run Tryz.prog prim lvs n) x0:=
 (Zk hp (by kernel_rfl) Tryz.func22 (by kernel_rfl)).trans (ZrZ _ x0)
noncomputable def Zo0.l1 (Γ : Zc) (s0 s5 s6 s7 : Value) : M Out:=
 bind (bop .int .lss s7 s6) fun y2=>
 cnd y2
 (bind (ixa 3 s5 s7) fun y3=>
 bind (ldA 3 y3) fun y4=>
 bind (alc 1 (.agg #[.int .u8 0,.string ⟨#[]⟩,.string ⟨#[]⟩])) fun y5=>
 bind (stA 3 y5 y4) fun _=>
 bind (fa 1 y5) fun y6=>
 bind (ld1 y6) fun y7=>
 bind (JI y7) fun y8=>
 bind (bop .int .gtr y8 (Value.int .i64 50)) fun y9=>
 bind (ZJ y9 false 4 (bind (fa 2 y5) fun y10=>
 bind (ld1 y10) fun y11=>
 bind (JI y11) fun y12=>
 bind (bop .int .gtr y12 (Value.int .i64 50)) fun y13=>
 ret [y10,y11,y12,y13])) (c4 fun _ _ _ q14_3=>
 bind (pick y9 (Value.bool true) q14_3) fun y15=>
 cnd y15
 (ret (.ret (Value.bool false)))
 (bind (bop .int .add s7 (Value.int .i64 1)) fun y16=>
 ret (.nrm [s0,s5,s6,y16]))))
 (ret (.ext 0 [s0]))
noncomputable def Zo0 (Γ : Zc) (x0 : Value) : M Value:=
 bind (Zw x0) fun y1=>
 jn (Zi (c4 (Zo0.l1 Γ)) [x0,x0,y1,(Value.int .i64 0)]) noN (xk 0 (c1 fun q18_0=>
 bind (Zw q18_0) fun y19=>
 bind (bop .int .leq y19 (Value.int .i64 60)) fun y20=>
 ret y20) noX) ret
noncomputable def Znp.l1 (Γ : Zc) (s3 s16 s17 s18 : Value) : M Out:=
 bind (bop .int .lss s18 s17) fun y10=>
 cnd y10
 (bind (ixa 5 s16 s18) fun y11=>
 bind (ldA 5 y11) fun y12=>
 bind (alc 1 (.agg #[.string ⟨#[]⟩,.string ⟨#[]⟩,.string ⟨#[]⟩,.bool false,.slice none 0 0])) fun y13=>
 bind (stA 5 y13 y12) fun _=>
 bind (ldA 5 y13) fun y14=>
 bind (Γ ZfZ [s3,(Value.int .i64 1),y14]) fun y15=>
 bind (bop .int .add s18 (Value.int .i64 1)) fun y16=>
 ret (.nrm [s3,s16,s17,y16]))
 (ret (.ext 0 [s3]))
noncomputable def Znp (Γ : Zc) (x0 : Value) : M Value:=
 bind (bop .ptr .eql x0 (Value.pointer none)) fun y1=>
 cnd y1
 (ret (Value.slice none 0 0))
 (bind (bld (.agg #[.slice none 0 0]) []) fun y2=>
 bind (alc 1 y2) fun y3=>
 bind (Γ JK [y3,(Value.int .u8 1)]) fun y4=>
 bind (Γ Zsn [x0]) fun y5=>
 bind (cvi .u16 y5) fun y6=>
 bind (Γ Yw [y4,y6]) fun y7=>
 bind (Γ Zgj [x0]) fun y8=>
 bind (Zw y8) fun y9=>
 jn (Zi (c4 (Znp.l1 Γ)) [y7,y8,y9,(Value.int .i64 0)]) noN (xk 0 (c1 fun q18_0=>
 bind (Γ KR [q18_0]) fun y19=>
 ret y19) noX) ret)
noncomputable def ZnH.l1 (Γ : Zc) (s3 s11 s12 s13 : Value) : M Out:=
 bind (bop .int .lss s13 s12) fun y4=>
 cnd y4
 (bind (ixa 5 s11 s13) fun y5=>
 bind (ldA 5 y5) fun y6=>
 bind (alc 1 (.agg #[.string ⟨#[]⟩,.string ⟨#[]⟩,.string ⟨#[]⟩,.bool false,.slice none 0 0])) fun y7=>
 bind (stA 5 y7 y6) fun _=>
 bind (ldA 5 y7) fun y8=>
 bind (Γ ZzK [y8]) fun y9=>
 bind (bsl 5 1 (.agg #[.string ⟨#[]⟩,.string ⟨#[]⟩,.string ⟨#[]⟩,.bool false,.slice none 0 0]) [(0,5,y9)]) fun y10=>
 bind (app 5 80 s3 y10) fun y11=>
 bind (bop .int .add s13 (Value.int .i64 1)) fun y12=>
 ret (.nrm [y11,s11,s12,y12]))
 (ret (.ext 0 [s3]))
noncomputable def ZnH (Γ : Zc) (x0 : Value) : M Value:=
 bind (bop .ptr .eql x0 (Value.pointer none)) fun y1=>
 cnd y1
 (ret (Value.pointer none))
 (bind (Γ Zgj [x0]) fun y2=>
 bind (Zw y2) fun y3=>
 jn (Zi (c4 (ZnH.l1 Γ)) [(Value.slice none 0 0),y2,y3,(Value.int .i64 0)]) noN (xk 0 (c1 fun q14_0=>
 bind (Γ Zbt [q14_0,(Value.slice none 0 0)]) fun y15=>
 bind (Zn y15 0) fun y16=>
 bind (Zn y15 1) fun y17=>
 ret y16) noX) ret)
noncomputable def ZaN (Γ : Zc) (x0 x1 : Value) : M Value:=
 bind (alc 1 (.agg #[.string ⟨#[]⟩,.string ⟨#[]⟩,.string ⟨#[]⟩,.bool false,.slice none 0 0])) fun y1=>
 bind (Γ QT [x0,x1]) fun y2=>
 bind (Zn y2 0) fun y3=>
 bind (Zn y2 1) fun y4=>
 bind (alc 1 (.agg #[.string ⟨#[]⟩,.bool false])) fun y5=>
 bind (stA 2 y5 y3) fun _=>
 bind (bop .int .neq y4 (Value.int .i64 0)) fun y6=>
 cnd y6
 (bind (bld (.agg #[.string ⟨#[]⟩,.string ⟨#[]⟩,.string ⟨#[]⟩,.bool false,.slice none 0 0]) []) fun y7=>
 bind (stA 5 y1 y7) fun _=>
 bind (ldA 5 y1) fun y8=>
 ret (Value.tuple #[y8,y4]))
 (bind (Qa x0) fun y9=>
 bind (fa 1 y9) fun y10=>
 bind (ld1 y10) fun y11=>
 bind (Γ Zcp [y11,x1]) fun y12=>
 bind (Zn y12 0) fun y13=>
 bind (Zn y12 1) fun y14=>
 bind (fa 0 y5) fun y15=>
 bind (ld1 y15) fun y16=>
 bind (fa 1 y5) fun y17=>
 bind (ld1 y17) fun y18=>
 bind (Qa x0) fun y19=>
 bind (fa 2 y19) fun y20=>
 bind (ld1 y20) fun y21=>
 bind (Γ JT [y21,x1]) fun y22=>
 bind (ld1 y17) fun u_23=>same u_23 y18 <|
 bind (ld1 y15) fun u_24=>same u_24 y16 <|
 bind (bld (.agg #[.string ⟨#[]⟩,.string ⟨#[]⟩,.string ⟨#[]⟩,.bool false,.slice none 0 0]) [(0,1,x1),(1,1,y16),(2,1,y13),(3,1,y18),(4,1,y22)]) fun y25=>
 bind (stA 5 y1 y25) fun _=>
 bind (ldA 5 y1) fun y26=>
 ret (Value.tuple #[y26,(Value.int .i64 0)]))
theorem ZmR (Γ : Zc) (x0 x1 : Value) : Zy Tryz.prog Γ Tryz.f33 ZgO [x0,x1]=ZaN Γ x0 x1:=by kernel_rfl
theorem ZkP {prim : FuncId→Option (List Value→M Value)} (hp : prim Ww=none) (n : Nat) (x0 x1 : Value) : run Tryz.prog prim lvs (n+1) Ww [x0,x1]=ZaN (run Tryz.prog prim lvs n) x0 x1:=
 (Zk hp (by kernel_rfl) Tryz.func33 (by kernel_rfl)).trans (ZmR _ x0 x1)
noncomputable def Yv.l1 (Γ : Zc) (s0 s1 s12 s13 : Value) : M Out:=
 bind (bop .int .lss s13 s12) fun y5=>
 cnd y5
 (bind (ixa 1 s0 s13) fun y6=>
 bind (ld1 y6) fun y7=>
 bind (ixa 1 s1 s13) fun y8=>
 bind (ld1 y8) fun y9=>
 bind (bop .str .neq y7 y9) fun y10=>
 cnd y10
 (ret (.ret (Value.bool false)))
 (bind (bop .int .add s13 (Value.int .i64 1)) fun y11=>
 ret (.nrm [s0,s1,s12,y11])))
 (ret (.ext 0 []))
noncomputable def Yv (Γ : Zc) (x0 x1 : Value) : M Value:=
 bind (Zw x0) fun y1=>
 bind (Zw x1) fun y2=>
 bind (bop .int .neq y1 y2) fun y3=>
 cnd y3
 (ret (Value.bool false))
 (bind (Zw x0) fun y4=>
 jn (Zi (c4 (Yv.l1 Γ)) [x0,x1,y4,(Value.int .i64 0)]) noN (xk 0 (c0 (ret (Value.bool true))) noX) ret)
theorem Zm3 (Γ : Zc) (x0 x1 : Value) : Zy Tryz.prog Γ Tryz.f36 ZgP [x0,x1]=Yv Γ x0 x1:=by kernel_rfl
theorem Zl6 {prim : FuncId→Option (List Value→M Value)} (hp : prim WB=none) (n : Nat) (x0 x1 : Value) : run Tryz.prog prim lvs (n+1) WB [x0,x1]=Yv (run Tryz.prog prim lvs n) x0 x1:=
 (Zk hp (by kernel_rfl) Tryz.func36 (by kernel_rfl)).trans (Zm3 _ x0 x1)
noncomputable def Zjx (Γ : Zc) : M Value:=
 bind (mkm) fun y1=>
 bind (Γ Zh2 []) fun y2=>
 bind (Γ ZgR []) fun y3=>
 bind (bld (.agg #[.map none,.pointer none,.pointer none]) [(0,1,y1),(1,1,y2),(2,1,y3)]) fun y4=>
 bind (alc 1 y4) fun y5=>
 ret y5
theorem ZvG (Γ : Zc) : Zy Tryz.prog Γ Tryz.f37 ZnG []=Zjx Γ :=by kernel_rfl
theorem Zus {prim : FuncId→Option (List Value→M Value)} (hp : prim K3=none) (n : Nat) : run Tryz.prog prim lvs (n+1) K3 []=Zjx (run Tryz.prog prim lvs n) :=
 (Zk hp (by kernel_rfl) Tryz.func37 (by kernel_rfl)).trans (ZvG _ )
noncomputable def Jf.l1 (Γ : Zc) (s0 s1 s12 s13 : Value) : M Out:=
 bind (bop .int .lss s13 s12) fun y5=>
 cnd y5
 (bind (ixa 5 s0 s13) fun y6=>
 bind (ldA 5 y6) fun y7=>
 bind (ixa 5 s1 s13) fun y8=>
 bind (ldA 5 y8) fun y9=>
 bind (Γ ZfM [y7,y9]) fun y10=>
 bind (uop .not y10) fun y11=>
 cnd y11
 (ret (.ret (Value.bool false)))
 (bind (bop .int .add s13 (Value.int .i64 1)) fun y12=>
 ret (.nrm [s0,s1,s12,y12])))
 (ret (.ext 0 []))
noncomputable def Jf (Γ : Zc) (x0 x1 : Value) : M Value:=
 bind (Zw x0) fun y1=>
 bind (Zw x1) fun y2=>
 bind (bop .int .neq y1 y2) fun y3=>
 cnd y3
 (ret (Value.bool false))
 (bind (Zw x0) fun y4=>
 jn (Zi (c4 (Jf.l1 Γ)) [x0,x1,y4,(Value.int .i64 0)]) noN (xk 0 (c0 (ret (Value.bool true))) noX) ret)
theorem Znh (Γ : Zc) (x0 x1 : Value) : Zy Tryz.prog Γ Tryz.f39 Zgy [x0,x1]=Jf Γ x0 x1:=by kernel_rfl
theorem ZlJ {prim : FuncId→Option (List Value→M Value)} (hp : prim KD=none) (n : Nat) (x0 x1 : Value) : run Tryz.prog prim lvs (n+1) KD [x0,x1]=Jf (run Tryz.prog prim lvs n) x0 x1:=
 (Zk hp (by kernel_rfl) Tryz.func39 (by kernel_rfl)).trans (Znh _ x0 x1)
noncomputable def Zkd.l1 (Γ : Zc) (s0 s3 s7 s8 s9 : Value) : M Out:=
 bind (bop .int .lss s9 s8) fun y3=>
 cnd y3
 (bind (ixa 1 s7 s9) fun y4=>
 bind (ld1 y4) fun y5=>
 bind (Qa s0) fun y6=>
 bind (fa 0 y6) fun y7=>
 bind (ld1 y7) fun y8=>
 bind (lkp .str (.string ⟨#[]⟩) false y8 y5) fun y9=>
 bind (bld (.agg #[.string ⟨#[]⟩,.string ⟨#[]⟩,.string ⟨#[]⟩,.bool false,.slice none 0 0]) [(0,1,y5),(1,1,y9)]) fun y10=>
 bind (bsl 5 1 (.agg #[.string ⟨#[]⟩,.string ⟨#[]⟩,.string ⟨#[]⟩,.bool false,.slice none 0 0]) [(0,5,y10)]) fun y11=>
 bind (app 5 80 s3 y11) fun y12=>
 bind (bop .int .add s9 (Value.int .i64 1)) fun y13=>
 ret (.nrm [s0,y12,s7,s8,y13]))
 (ret (.ext 0 [s3]))
noncomputable def Zkd (Γ : Zc) (x0 : Value) : M Value:=
 bind (Γ ZoM [x0]) fun y1=>
 bind (Zw y1) fun y2=>
 jn (Zi (c5 (Zkd.l1 Γ)) [x0,(Value.slice none 0 0),y1,y2,(Value.int .i64 0)]) noN (xk 0 (c1 fun q15_0=>
 ret q15_0) noX) ret
noncomputable def Q2.l1 (Γ : Zc) (s1 s5 s13 s14 s15 : Value) : M Out:=
 bind (bop .int .lss s15 s14) fun y2=>
 cnd y2
 (bind (ixa 5 s13 s15) fun y3=>
 bind (ldA 5 y3) fun y4=>
 bind (alc 1 (.agg #[.string ⟨#[]⟩,.string ⟨#[]⟩,.string ⟨#[]⟩,.bool false,.slice none 0 0])) fun y5=>
 bind (stA 5 y5 y4) fun _=>
 bind (ldA 5 y5) fun y6=>
 bind (Γ WK [(Value.int .i64 2),y6]) fun y7=>
 bind (bop .int .neq y7 (Value.int .i64 0)) fun y8=>
 cnd y8
 (ret (.ret y7))
 (bind (fa 0 y5) fun y9=>
 bind (ld1 y9) fun y10=>
 bind (bsl 1 1 (.string ⟨#[]⟩) [(0,1,y10)]) fun y11=>
 bind (app 1 16 s5 y11) fun y12=>
 bind (bop .int .add s15 (Value.int .i64 1)) fun y13=>
 ret (.nrm [s1,y12,s13,s14,y13])))
 (ret (.ext 0 [s1,s5]))
noncomputable def Q2.l2 (Γ : Zc) (s1 s35 s36 s37 : Value) : M Out:=
 bind (bop .int .lss s37 s36) fun y19=>
 cnd y19
 (bind (ixa 1 s35 s37) fun y20=>
 bind (ld1 y20) fun y21=>
 bind (Γ Q9 [y21]) fun y22=>
 bind (bop .int .neq y22 (Value.int .i64 0)) fun y23=>
 cnd y23
 (ret (.ret y22))
 (bind (bop .int .add s37 (Value.int .i64 1)) fun y24=>
 ret (.nrm [s1,s35,s36,y24])))
 (ret (.ext 2 [s1]))
noncomputable def Q2 (Γ : Zc) (x0 x1 : Value) : M Value:=
 bind (Zw x0) fun y1=>
 jn (Zi (c5 (Q2.l1 Γ)) [x1,(Value.slice none 0 0),x0,y1,(Value.int .i64 0)]) noN (xk 0 (c2 fun q15_0 q15_1=>
 bind (Γ KX [q15_1,(Value.int .i64 12)]) fun y16=>
 bind (bop .int .neq y16 (Value.int .i64 0)) fun y17=>
 cnd y17
 (ret y16)
 (bind (Zw q15_0) fun y18=>
 jn (Zi (c4 (Q2.l2 Γ)) [q15_0,q15_0,y18,(Value.int .i64 0)]) noN (xk 2 (c1 fun q26_0=>
 bind (Γ KX [q26_0,(Value.int .i64 6)]) fun y27=>
 ret y27) noX) ret)) noX) ret
theorem ZsH (Γ : Zc) (x0 x1 : Value) : Zy Tryz.prog Γ Tryz.f41 Zkh [x0,x1]=Q2 Γ x0 x1:=by kernel_rfl
theorem Zqx {prim : FuncId→Option (List Value→M Value)} (hp : prim Zc6=none) (n : Nat) (x0 x1 : Value) : run Tryz.prog prim lvs (n+1) Zc6 [x0,x1]=Q2 (run Tryz.prog prim lvs n) x0 x1:=
 (Zk hp (by kernel_rfl) Tryz.func41 (by kernel_rfl)).trans (ZsH _ x0 x1)
noncomputable def YE (Γ : Zc) (x0 x1 : Value) : M Value:=
 bind (Γ Ye [x0,x1,(Value.slice none 0 0)]) fun y1=>
 bind (Zn y1 0) fun y2=>
 bind (Zn y1 1) fun y3=>
 bind (bop .int .eql y3 (Value.int .i64 0)) fun y4=>
 cnd y4
 (ret (Value.int .i64 9))
 (bind (bop .int .neq y3 (Value.int .i64 8)) fun y5=>
 cnd y5
 (ret y3)
 (bind (Qa x0) fun y6=>
 bind (fa 0 y6) fun y7=>
 bind (ld1 y7) fun y8=>
 bind (lenM y8) fun y9=>
 bind (bop .int .geq y9 (Value.int .i64 6)) fun y10=>
 cnd y10
 (ret (Value.int .i64 7))
 (bind (Qa x0) fun y11=>
 bind (fa 0 y11) fun y12=>
 bind (ld1 y12) fun y13=>
 bind (mkm) fun y14=>
 bind (mup .str y13 x1 y14) fun _=>
 ret (Value.int .i64 0))))
theorem Zma (Γ : Zc) (x0 x1 : Value) : Zy Tryz.prog Γ Tryz.f42 ZfY [x0,x1]=YE Γ x0 x1:=by kernel_rfl
theorem Zkm {prim : FuncId→Option (List Value→M Value)} (hp : prim Yh=none) (n : Nat) (x0 x1 : Value) : run Tryz.prog prim lvs (n+1) Yh [x0,x1]=YE (run Tryz.prog prim lvs n) x0 x1:=
 (Zk hp (by kernel_rfl) Tryz.func42 (by kernel_rfl)).trans (Zma _ x0 x1)
noncomputable def Wl (Γ : Zc) (x0 x1 x2 : Value) : M Value:=
 bind (bsl 1 1 (.string ⟨#[]⟩) [(0,1,x2)]) fun y1=>
 bind (Γ Ye [x0,x1,y1]) fun y2=>
 bind (Zn y2 0) fun y3=>
 bind (Zn y2 1) fun y4=>
 bind (bop .int .neq y4 (Value.int .i64 0)) fun y5=>
 cnd y5
 (ret y4)
 (bind (lkp .str (.agg #[]) true y3 x2) fun y6=>
 bind (Zn y6 0) fun y7=>
 bind (Zn y6 1) fun y8=>
 bind (alc 1 (.agg #[])) fun y9=>
 bind (stA 0 y9 y7) fun _=>
 cnd y8
 (ret (Value.int .i64 9))
 (bind (bld (.agg #[]) []) fun y10=>
 bind (mup .str y3 x2 y10) fun _=>
 ret (Value.int .i64 0)))
theorem ZkX (Γ : Zc) (x0 x1 x2 : Value) : Zy Tryz.prog Γ Tryz.f43 ZfS [x0,x1,x2]=Wl Γ x0 x1 x2:=by kernel_rfl
theorem Zko {prim : FuncId→Option (List Value→M Value)} (hp : prim YD=none) (n : Nat) (x0 x1 x2 : Value) : run Tryz.prog prim lvs (n+1) YD [x0,x1,x2]=Wl (run Tryz.prog prim lvs n) x0 x1 x2:=
 (Zk hp (by kernel_rfl) Tryz.func43 (by kernel_rfl)).trans (ZkX _ x0 x1 x2)
noncomputable def KV (Γ : Zc) (x0 x1 x2 : Value) : M Value:=
 bind (Γ Q9 [x1]) fun y1=>
 bind (bop .int .neq y1 (Value.int .i64 0)) fun y2=>
 cnd y2
 (ret y1)
 (bind (bop .str .eql x2 (Value.string ⟨#[]⟩)) fun y3=>
 cnd y3
 (bind (Γ Jv [x0,x1]) fun y4=>
 ret (Value.int .i64 0))
 (bind (Γ Zbl [x2]) fun y5=>
 bind (Zn y5 0) fun y6=>
 bind (Zn y5 1) fun y7=>
 bind (bop .int .neq y7 (Value.int .i64 0)) fun y8=>
 cnd y8
 (ret y7)
 (bind (Qa x0) fun y9=>
 bind (fa 0 y9) fun y10=>
 bind (ld1 y10) fun y11=>
 bind (lkp .str (.string ⟨#[]⟩) true y11 y6) fun y12=>
 bind (Zn y12 0) fun y13=>
 bind (Zn y12 1) fun y14=>
 bind (ZJ y14 true 3 (bind (bop .str .neq y13 x1) fun y15=>
 ret [y13,x1,y15])) (c3 fun _ _ q16_2=>
 bind (pick y14 q16_2 (Value.bool false)) fun y17=>
 cnd y17
 (ret (Value.int .i64 9))
 (bind (Γ Jv [x0,x1]) fun y18=>
 bind (Qa x0) fun y19=>
 bind (fa 0 y19) fun y20=>
 bind (ld1 y20) fun y21=>
 bind (Qa x0) fun y22=>
 bind (fa 1 y22) fun y23=>
 bind (ld1 y23) fun y24=>
 bind (men .str (.string ⟨#[]⟩) y21 y6) fun y25=>
 bind (Zn y25 1) fun y26=>
 bind (ens y21 y26 x1) fun _=>
 bind (men .str (.string ⟨#[]⟩) y24 x1) fun y27=>
 bind (Zn y27 1) fun y28=>
 bind (ens y24 y28 y6) fun _=>
 ret (Value.int .i64 0))))))
theorem ZpJ (Γ : Zc) (x0 x1 x2 : Value) : Zy Tryz.prog Γ Tryz.f44 ZhK [x0,x1,x2]=KV Γ x0 x1 x2:=by kernel_rfl
theorem Zov {prim : FuncId→Option (List Value→M Value)} (hp : prim Ke=none) (n : Nat) (x0 x1 x2 : Value) : run Tryz.prog prim lvs (n+1) Ke [x0,x1,x2]=KV (run Tryz.prog prim lvs n) x0 x1 x2:=
 (Zk hp (by kernel_rfl) Tryz.func44 (by kernel_rfl)).trans (ZpJ _ x0 x1 x2)
noncomputable def ZdB (Γ : Zc) (x0 x1 : Value) : M Value:=
 bind (cvi .u64 x1) fun y1=>
 bind (Γ KK [x0,y1,(Value.int .i64 1)]) fun y2=>
 ret y2
theorem ZlE (Γ : Zc) (x0 x1 : Value) : Zy Tryz.prog Γ Tryz.f45 Zf8 [x0,x1]=ZdB Γ x0 x1:=by kernel_rfl
theorem ZkB {prim : FuncId→Option (List Value→M Value)} (hp : prim JK=none) (n : Nat) (x0 x1 : Value) : run Tryz.prog prim lvs (n+1) JK [x0,x1]=ZdB (run Tryz.prog prim lvs n) x0 x1:=
 (Zk hp (by kernel_rfl) Tryz.func45 (by kernel_rfl)).trans (ZlE _ x0 x1)
noncomputable def YY.l1 (Γ : Zc) (s0 s17 s18 s19 : Value) : M Out:=
 bind (bop .int .lss s19 s18) fun y8=>
 cnd y8
 (bind (ixa 1 s17 s19) fun y9=>
 bind (ld1 y9) fun y10=>
 bind (Γ JN [s0,y10]) fun y11=>
 bind (bop .int .add s19 (Value.int .i64 1)) fun y12=>
 ret (.nrm [s0,s17,s18,y12]))
 (ret (.ext 0 [s0]))
noncomputable def YY (Γ : Zc) (x0 x1 : Value) : M Value:=
 bind (Zw x1) fun y1=>
 bind (mxi false y1 (Value.int .i64 65535)) fun y2=>
 bind (slv 1 x1 none (some y2) none) fun y3=>
 bind (Zw y3) fun y4=>
 bind (cvi .u16 y4) fun y5=>
 bind (Γ Yw [x0,y5]) fun y6=>
 bind (Zw y3) fun y7=>
 jn (Zi (c4 (YY.l1 Γ)) [x0,y3,y7,(Value.int .i64 0)]) noN (xk 0 (c1 fun q14_0=>
 ret q14_0) noX) ret
theorem Zng (Γ : Zc) (x0 x1 : Value) : Zy Tryz.prog Γ Tryz.f46 Zgw [x0,x1]=YY Γ x0 x1:=by kernel_rfl
theorem Zlg {prim : FuncId→Option (List Value→M Value)} (hp : prim KO=none) (n : Nat) (x0 x1 : Value) : run Tryz.prog prim lvs (n+1) KO [x0,x1]=YY (run Tryz.prog prim lvs n) x0 x1:=
 (Zk hp (by kernel_rfl) Tryz.func46 (by kernel_rfl)).trans (Zng _ x0 x1)
noncomputable def Zea (Γ : Zc) (x0 : Value) : M Value:=
 bind (Qa x0) fun y1=>
 bind (fa 2 y1) fun y2=>
 bind (ld1 y2) fun y3=>
 bind (Γ KE [y3]) fun y4=>
 ret y4
theorem Zm0 (Γ : Zc) (x0 : Value) : Zy Tryz.prog Γ Tryz.f47 ZgE [x0]=Zea Γ x0:=by kernel_rfl
theorem Zls {prim : FuncId→Option (List Value→M Value)} (hp : prim KG=none) (n : Nat) (x0 : Value) : run Tryz.prog prim lvs (n+1) KG [x0]=Zea (run Tryz.prog prim lvs n) x0:=
 (Zk hp (by kernel_rfl) Tryz.func47 (by kernel_rfl)).trans (Zm0 _ x0)
noncomputable def Zec (Γ : Zc) (x0 x1 : Value) : M Value:=
 bind (cvi .u64 x1) fun y1=>
 bind (Γ KK [x0,y1,(Value.int .i64 2)]) fun y2=>
 ret y2
theorem ZmV (Γ : Zc) (x0 x1 : Value) : Zy Tryz.prog Γ Tryz.f48 ZgJ [x0,x1]=Zec Γ x0 x1:=by kernel_rfl
theorem Zla {prim : FuncId→Option (List Value→M Value)} (hp : prim Yw=none) (n : Nat) (x0 x1 : Value) : run Tryz.prog prim lvs (n+1) Yw [x0,x1]=Zec (run Tryz.prog prim lvs n) x0 x1:=
 (Zk hp (by kernel_rfl) Tryz.func48 (by kernel_rfl)).trans (ZmV _ x0 x1)
noncomputable def Zgi (Γ : Zc) (x0 : Value) : M Value:=
 bind (Qa x0) fun y1=>
 bind (fa 0 y1) fun y2=>
 bind (ld1 y2) fun y3=>
 bind (lenM y3) fun y4=>
 ret y4
theorem ZqX (Γ : Zc) (x0 : Value) : Zy Tryz.prog Γ Tryz.f49 Zi0 [x0]=Zgi Γ x0:=by kernel_rfl
theorem Zqa {prim : FuncId→Option (List Value→M Value)} (hp : prim W8=none) (n : Nat) (x0 : Value) : run Tryz.prog prim lvs (n+1) W8 [x0]=Zgi (run Tryz.prog prim lvs n) x0:=
 (Zk hp (by kernel_rfl) Tryz.func49 (by kernel_rfl)).trans (ZqX _ x0)
noncomputable def KB.l1 (Γ : Zc) (s0 s3 s9 s10 s11 : Value) : M Out:=
 bind (bop .int .lss s11 s10) fun y3=>
 cnd y3
 (bind (ixa 1 s9 s11) fun y4=>
 bind (ld1 y4) fun y5=>
 bind (Γ Ww [s0,y5]) fun y6=>
 bind (Zn y6 0) fun y7=>
 bind (Zn y6 1) fun y8=>
 bind (alc 1 (.agg #[.string ⟨#[]⟩,.string ⟨#[]⟩,.string ⟨#[]⟩,.bool false,.slice none 0 0])) fun y9=>
 bind (stA 5 y9 y7) fun _=>
 bind (ldA 5 y9) fun y10=>
 bind (bsl 5 1 (.agg #[.string ⟨#[]⟩,.string ⟨#[]⟩,.string ⟨#[]⟩,.bool false,.slice none 0 0]) [(0,5,y10)]) fun y11=>
 bind (app 5 80 s3 y11) fun y12=>
 bind (bop .int .add s11 (Value.int .i64 1)) fun y13=>
 ret (.nrm [s0,y12,s9,s10,y13]))
 (ret (.ext 0 [s3]))
noncomputable def KB (Γ : Zc) (x0 : Value) : M Value:=
 bind (Γ Zbr [x0]) fun y1=>
 bind (Zw y1) fun y2=>
 jn (Zi (c5 (KB.l1 Γ)) [x0,(Value.slice none 0 0),y1,y2,(Value.int .i64 0)]) noN (xk 0 (c1 fun q15_0=>
 ret q15_0) noX) ret
theorem Zrj (Γ : Zc) (x0 : Value) : Zy Tryz.prog Γ Tryz.f50 ZiI [x0]=KB Γ x0:=by kernel_rfl
theorem Zpt {prim : FuncId→Option (List Value→M Value)} (hp : prim Zbd=none) (n : Nat) (x0 : Value) : run Tryz.prog prim lvs (n+1) Zbd [x0]=KB (run Tryz.prog prim lvs n) x0:=
 (Zk hp (by kernel_rfl) Tryz.func50 (by kernel_rfl)).trans (Zrj _ x0)
noncomputable def Zk3 (Γ : Zc) (x0 x1 x2 : Value) : M Value:=
 bind (alc 1 x2) fun y1=>
 bind (ldA 5 y1) fun y2=>
 bind (Γ WK [x1,y2]) fun y3=>
 bind (bop .int .neq y3 (Value.int .i64 0)) fun y4=>
 cnd y4
 (ret (Value.bool false))
 (bind (fa 0 y1) fun y5=>
 bind (ld1 y5) fun y6=>
 bind (fa 1 y1) fun y7=>
 bind (ld1 y7) fun y8=>
 bind (Γ JN [x0,y6]) fun y9=>
 bind (ld1 y7) fun u_10=>same u_10 y8 <|
 bind (Γ JN [y9,y8]) fun y11=>
 bind (bop .int .eql x1 (Value.int .i64 2)) fun y12=>
 jn (cnd y12
 (bind (fa 2 y1) fun y13=>
 bind (ld1 y13) fun y14=>
 bind (fa 3 y1) fun y15=>
 bind (ld1 y15) fun y16=>
 bind (fa 4 y1) fun y17=>
 bind (ld1 y17) fun y18=>
 bind (Γ JN [x0,y14]) fun y19=>
 bind (ld1 y17) fun u_20=>same u_20 y18 <|
 bind (ld1 y15) fun u_21=>same u_21 y16 <|
 bind (Γ WV [y19,y16]) fun y22=>
 bind (ld1 y17) fun u_23=>same u_23 y18 <|
 bind (Γ KO [y22,y18]) fun y24=>
 ret (.nrm []))
 (ret (.nrm []))) (c0 (ret (Value.bool true))) noX ret)
theorem ZwR (Γ : Zc) (x0 x1 x2 : Value) : Zy Tryz.prog Γ Tryz.f51 ZpS [x0,x1,x2]=Zk3 Γ x0 x1 x2:=by kernel_rfl
theorem Zvq {prim : FuncId→Option (List Value→M Value)} (hp : prim ZfZ=none) (n : Nat) (x0 x1 x2 : Value) : run Tryz.prog prim lvs (n+1) ZfZ [x0,x1,x2]=Zk3 (run Tryz.prog prim lvs n) x0 x1 x2:=
 (Zk hp (by kernel_rfl) Tryz.func51 (by kernel_rfl)).trans (ZwR _ x0 x1 x2)
noncomputable def Zc8 (Γ : Zc) (x0 : Value) : M Value:=
 bind (Qa x0) fun y1=>
 bind (fa 0 y1) fun y2=>
 bind (ld1 y2) fun y3=>
 bind (Γ Zdi [y3]) fun y4=>
 ret y4
theorem ZkG (Γ : Zc) (x0 : Value) : Zy Tryz.prog Γ Tryz.f52 Zfm [x0]=Zc8 Γ x0:=by kernel_rfl
theorem Zi8 {prim : FuncId→Option (List Value→M Value)} (hp : prim KR=none) (n : Nat) (x0 : Value) : run Tryz.prog prim lvs (n+1) KR [x0]=Zc8 (run Tryz.prog prim lvs n) x0:=
 (Zk hp (by kernel_rfl) Tryz.func52 (by kernel_rfl)).trans (ZkG _ x0)
noncomputable def Zld (Γ : Zc) (x0 : Value) : M Value:=
 bind (Γ Zdi [x0]) fun y1=>
 bind (bld (.agg #[.slice none 0 0,.int .i64 0]) [(0,1,y1)]) fun y2=>
 bind (alc 1 y2) fun y3=>
 ret y3
theorem ZwA (Γ : Zc) (x0 : Value) : Zy Tryz.prog Γ Tryz.f53 Zp1 [x0]=Zld Γ x0:=by kernel_rfl
theorem Zvs {prim : FuncId→Option (List Value→M Value)} (hp : prim Zet=none) (n : Nat) (x0 : Value) : run Tryz.prog prim lvs (n+1) Zet [x0]=Zld (run Tryz.prog prim lvs n) x0:=
 (Zk hp (by kernel_rfl) Tryz.func53 (by kernel_rfl)).trans (ZwA _ x0)
noncomputable def ZdC (Γ : Zc) (x0 : Value) : M Value:=
 bind (Γ KN [x0,(Value.int .i64 1)]) fun y1=>
 bind (cvi .u8 y1) fun y2=>
 ret y2
theorem ZlL (Γ : Zc) (x0 : Value) : Zy Tryz.prog Γ Tryz.f54 ZfU [x0]=ZdC Γ x0:=by kernel_rfl
theorem Zkl {prim : FuncId→Option (List Value→M Value)} (hp : prim Kj=none) (n : Nat) (x0 : Value) : run Tryz.prog prim lvs (n+1) Kj [x0]=ZdC (run Tryz.prog prim lvs n) x0:=
 (Zk hp (by kernel_rfl) Tryz.func54 (by kernel_rfl)).trans (ZlL _ x0)
noncomputable def Zef (Γ : Zc) (x0 : Value) : M Value:=
 bind (Qa x0) fun y1=>
 bind (fa 1 y1) fun y2=>
 bind (ld1 y2) fun y3=>
 ret y3
theorem Zm8 (Γ : Zc) (x0 : Value) : Zy Tryz.prog Γ Tryz.f55 ZgH [x0]=Zef Γ x0:=by kernel_rfl
theorem Zli {prim : FuncId→Option (List Value→M Value)} (hp : prim QK=none) (n : Nat) (x0 : Value) : run Tryz.prog prim lvs (n+1) QK [x0]=Zef (run Tryz.prog prim lvs n) x0:=
 (Zk hp (by kernel_rfl) Tryz.func55 (by kernel_rfl)).trans (Zm8 _ x0)
noncomputable def Ys.l1 (Γ : Zc) (s0 s2 s7 s10 s11 : Value) : M Out:=
 bind (bop .int .lss s11 s10) fun y2=>
 cnd y2
 (bind (Γ JL [s0,s2]) fun y3=>
 bind (bsl 1 1 (.string ⟨#[]⟩) [(0,1,y3)]) fun y4=>
 bind (app 1 16 s7 y4) fun y5=>
 bind (bop .int .add s11 (Value.int .i64 1)) fun y6=>
 ret (.nrm [s0,s2,y5,s10,y6]))
 (ret (.ext 0 [s0,s7]))
noncomputable def Ys (Γ : Zc) (x0 x1 x2 : Value) : M Value:=
 bind (Γ YZ [x0,x1]) fun y1=>
 jn (Zi (c5 (Ys.l1 Γ)) [x0,x2,(Value.slice none 0 0),y1,(Value.int .i64 0)]) noN (xk 0 (c2 fun q8_0 q8_1=>
 bind (Qa q8_0) fun y9=>
 bind (fa 1 y9) fun y10=>
 bind (ld1 y10) fun y11=>
 bind (bop .int .neq y11 (Value.int .i64 0)) fun y12=>
 cnd y12
 (ret (Value.slice none 0 0))
 (ret q8_1)) noX) ret
theorem ZmS (Γ : Zc) (x0 x1 x2 : Value) : Zy Tryz.prog Γ Tryz.f56 Zgv [x0,x1,x2]=Ys Γ x0 x1 x2:=by kernel_rfl
theorem Zga {prim : FuncId→Option (List Value→M Value)} (hp : prim KH=none) (n : Nat) (x0 x1 x2 : Value) : run Tryz.prog prim lvs (n+1) KH [x0,x1,x2]=Ys (run Tryz.prog prim lvs n) x0 x1 x2:=
 (Zk hp (by kernel_rfl) Tryz.func56 (by kernel_rfl)).trans (ZmS _ x0 x1 x2)
noncomputable def Zeh (Γ : Zc) (x0 : Value) : M Value:=
 bind (Γ KN [x0,(Value.int .i64 2)]) fun y1=>
 bind (cvi .u16 y1) fun y2=>
 ret y2
theorem ZmX (Γ : Zc) (x0 : Value) : Zy Tryz.prog Γ Tryz.f57 ZgI [x0]=Zeh Γ x0:=by kernel_rfl
theorem Zml {prim : FuncId→Option (List Value→M Value)} (hp : prim KM=none) (n : Nat) (x0 : Value) : run Tryz.prog prim lvs (n+1) KM [x0]=Zeh (run Tryz.prog prim lvs n) x0:=
 (Zk hp (by kernel_rfl) Tryz.func57 (by kernel_rfl)).trans (ZmX _ x0)
noncomputable def Wk (Γ : Zc) (x0 x1 : Value) : M Value:=
 bind (Qa x0) fun y1=>
 bind (fa 1 y1) fun y2=>
 bind (ld1 y2) fun y3=>
 bind (bop .int .eql y3 (Value.int .i64 0)) fun y4=>
 bind (ZJ y4 true 2 (bind (bop .int .neq x1 (Value.int .i64 0)) fun y5=>
 ret [x1,y5])) (c2 fun _ q6_1=>
 bind (pick y4 q6_1 (Value.bool false)) fun y7=>
 jn (cnd y7
 (bind (Qa x0) fun y8=>
 bind (fa 0 y8) fun y9=>
 bind (st1 y9 (Value.slice none 0 0)) fun _=>
 bind (Qa x0) fun y10=>
 bind (fa 1 y10) fun y11=>
 bind (st1 y11 x1) fun _=>
 ret (.nrm []))
 (ret (.nrm []))) (c0 (ret (Value.tuple #[]))) noX ret)
theorem Zmj (Γ : Zc) (x0 x1 : Value) : Zy Tryz.prog Γ Tryz.f58 ZfX [x0,x1]=Wk Γ x0 x1:=by kernel_rfl
theorem Zkr {prim : FuncId→Option (List Value→M Value)} (hp : prim Z5=none) (n : Nat) (x0 x1 : Value) : run Tryz.prog prim lvs (n+1) Z5 [x0,x1]=Wk (run Tryz.prog prim lvs n) x0 x1:=
 (Zk hp (by kernel_rfl) Tryz.func58 (by kernel_rfl)).trans (Zmj _ x0 x1)
noncomputable def Zh0 (Γ : Zc) (x0 x1 : Value) : M Value:=
 bind (alc 1 (.agg #[.string ⟨#[]⟩,.string ⟨#[]⟩,.string ⟨#[]⟩,.bool false,.slice none 0 0])) fun y1=>
 bind (bop .int .neq x1 (Value.int .i64 1)) fun y2=>
 bind (ZJ y2 true 2 (bind (bop .int .neq x1 (Value.int .i64 2)) fun y3=>
 ret [x1,y3])) (c2 fun _ q4_1=>
 bind (pick y2 q4_1 (Value.bool false)) fun y5=>
 cnd y5
 (bind (Γ Z5 [x0,(Value.int .i64 6)]) fun y6=>
 bind (bld (.agg #[.string ⟨#[]⟩,.string ⟨#[]⟩,.string ⟨#[]⟩,.bool false,.slice none 0 0]) []) fun y7=>
 bind (stA 5 y1 y7) fun _=>
 bind (ldA 5 y1) fun y8=>
 ret y8)
 (bind (Γ JL [x0,(Value.int .i64 65535)]) fun y9=>
 bind (Γ JL [x0,(Value.int .i64 65535)]) fun y10=>
 bind (bld (.agg #[.string ⟨#[]⟩,.string ⟨#[]⟩,.string ⟨#[]⟩,.bool false,.slice none 0 0]) [(0,1,y9),(1,1,y10)]) fun y11=>
 bind (alc 1 (.agg #[.string ⟨#[]⟩,.string ⟨#[]⟩,.string ⟨#[]⟩,.bool false,.slice none 0 0])) fun y12=>
 bind (stA 5 y12 y11) fun _=>
 bind (bop .int .eql x1 (Value.int .i64 2)) fun y13=>
 jn (cnd y13
 (bind (Γ JL [x0,(Value.int .i64 65535)]) fun y14=>
 bind (Γ WW [x0]) fun y15=>
 bind (Γ KH [x0,(Value.int .i64 65535),(Value.int .i64 65535)]) fun y16=>
 bind (fa 2 y12) fun y17=>
 bind (st1 y17 y14) fun _=>
 bind (fa 3 y12) fun y18=>
 bind (st1 y18 y15) fun _=>
 bind (fa 4 y12) fun y19=>
 bind (st1 y19 y16) fun _=>
 ret (.nrm [x0,x1,y1,y12]))
 (ret (.nrm [x0,x1,y1,y12]))) (c4 fun q20_0 q20_1 q20_2 q20_3=>
 bind (Γ QK [q20_0]) fun y21=>
 bind (bop .int .eql y21 (Value.int .i64 0)) fun y22=>
 jn (cnd y22
 (bind (ldA 5 q20_3) fun y23=>
 bind (Γ WK [q20_1,y23]) fun y24=>
 bind (Γ Z5 [q20_0,y24]) fun y25=>
 ret (.nrm [q20_0,q20_2,q20_3]))
 (ret (.nrm [q20_0,q20_2,q20_3]))) (c3 fun q26_0 q26_1 q26_2=>
 bind (Γ QK [q26_0]) fun y27=>
 bind (bop .int .neq y27 (Value.int .i64 0)) fun y28=>
 cnd y28
 (bind (bld (.agg #[.string ⟨#[]⟩,.string ⟨#[]⟩,.string ⟨#[]⟩,.bool false,.slice none 0 0]) []) fun y29=>
 bind (stA 5 q26_1 y29) fun _=>
 bind (ldA 5 q26_1) fun y30=>
 ret y30)
 (bind (ldA 5 q26_2) fun y31=>
 bind (stA 5 q26_1 y31) fun _=>
 bind (ldA 5 q26_1) fun y32=>
 ret y32)) noX ret) noX ret))
theorem Zw8 (Γ : Zc) (x0 x1 : Value) : Zy Tryz.prog Γ Tryz.f59 Zp3 [x0,x1]=Zh0 Γ x0 x1:=by kernel_rfl
theorem Znm {prim : FuncId→Option (List Value→M Value)} (hp : prim Zdh=none) (n : Nat) (x0 x1 : Value) : run Tryz.prog prim lvs (n+1) Zdh [x0,x1]=Zh0 (run Tryz.prog prim lvs n) x0 x1:=
 (Zk hp (by kernel_rfl) Tryz.func59 (by kernel_rfl)).trans (Zw8 _ x0 x1)
noncomputable def Zeg (Γ : Zc) (x0 : Value) : M Value:=
 bind (Qa x0) fun y1=>
 bind (fa 1 y1) fun y2=>
 bind (ld1 y2) fun y3=>
 bind (bop .int .eql y3 (Value.int .i64 0)) fun y4=>
 bind (ZJ y4 true 6 (bind (Qa x0) fun y5=>
 bind (fa 0 y5) fun y6=>
 bind (ld1 y6) fun y7=>
 bind (Zw y7) fun y8=>
 bind (bop .int .gtr y8 (Value.int .i64 0)) fun y9=>
 ret [x0,y5,y6,y7,y8,y9])) (c6 fun _ _ _ _ _ q10_5=>
 bind (pick y4 q10_5 (Value.bool false)) fun y11=>
 cnd y11
 (ret (Value.int .i64 3))
 (bind (Qa x0) fun y12=>
 bind (fa 1 y12) fun y13=>
 bind (ld1 y13) fun y14=>
 ret y14))
theorem Zm6 (Γ : Zc) (x0 : Value) : Zy Tryz.prog Γ Tryz.f60 ZgG [x0]=Zeg Γ x0:=by kernel_rfl
theorem Zlc {prim : FuncId→Option (List Value→M Value)} (hp : prim KI=none) (n : Nat) (x0 : Value) : run Tryz.prog prim lvs (n+1) KI [x0]=Zeg (run Tryz.prog prim lvs n) x0:=
 (Zk hp (by kernel_rfl) Tryz.func60 (by kernel_rfl)).trans (Zm6 _ x0)
noncomputable def Zke.l1 (Γ : Zc) (s2 s6 s8 s10 s29 s30 : Value) : M Out:=
 bind (bop .int .lss s30 s29) fun y18=>
 cnd y18
 (bind (ldA 2 s8) fun y19=>
 bind (Γ Zqv [y19,s2]) fun y20=>
 bind (Zn y20 0) fun y21=>
 bind (Zn y20 1) fun y22=>
 bind (alc 1 (.agg #[.string ⟨#[]⟩,.int .i64 0])) fun y23=>
 bind (stA 2 y23 y21) fun _=>
 bind (ldA 2 y23) fun y24=>
 bind (stA 2 s8 y24) fun _=>
 bind (fa 1 s8) fun y25=>
 bind (ld1 y25) fun y26=>
 bind (bop .int .neq y26 (Value.int .i64 0)) fun y27=>
 cnd y27
 (bind (ldA 2 s8) fun y28=>
 bind (stA 2 s6 y28) fun _=>
 bind (ldA 2 s6) fun y29=>
 ret (.ret (Value.tuple #[y29,(Value.slice none 0 0)])))
 (bind (bsl 1 1 (.string ⟨#[]⟩) [(0,1,y22)]) fun y30=>
 bind (app 1 16 s10 y30) fun y31=>
 bind (bop .int .add s30 (Value.int .u64 1)) fun y32=>
 ret (.nrm [s2,s6,s8,y31,s29,y32])))
 (ret (.ext 0 [s6,s8,s10]))
noncomputable def Zke (Γ : Zc) (x0 x1 x2 : Value) : M Value:=
 bind (alc 1 x0) fun y1=>
 bind (alc 1 (.agg #[.string ⟨#[]⟩,.int .i64 0])) fun y2=>
 bind (ldA 2 y1) fun y3=>
 bind (Γ ZjC [y3,(Value.int .i64 2)]) fun y4=>
 bind (Zn y4 0) fun y5=>
 bind (Zn y4 1) fun y6=>
 bind (alc 1 (.agg #[.string ⟨#[]⟩,.int .i64 0])) fun y7=>
 bind (stA 2 y7 y5) fun _=>
 bind (fa 1 y7) fun y8=>
 bind (ld1 y8) fun y9=>
 bind (bop .int .eql y9 (Value.int .i64 0)) fun y10=>
 bind (ZJ y10 true 5 (bind (cvi .i64 y6) fun y11=>
 bind (mxi true (Value.int .i64 0) x1) fun y12=>
 bind (bop .int .gtr y11 y12) fun y13=>
 ret [y6,y11,x1,y12,y13])) (c5 fun _ _ _ _ q14_4=>
 bind (pick y10 q14_4 (Value.bool false)) fun y15=>
 cnd y15
 (bind (bld (.agg #[.string ⟨#[]⟩,.int .i64 0]) [(1,1,(Value.int .i64 3))]) fun y16=>
 bind (stA 2 y2 y16) fun _=>
 bind (ldA 2 y2) fun y17=>
 ret (Value.tuple #[y17,(Value.slice none 0 0)]))
 (jn (Zi (c6 (Zke.l1 Γ)) [x2,y2,y7,(Value.slice none 0 0),y6,(Value.int .u64 0)]) noN (xk 0 (c3 fun q34_0 q34_1 q34_2=>
 bind (ldA 2 q34_1) fun y35=>
 bind (stA 2 q34_0 y35) fun _=>
 bind (ldA 2 q34_0) fun y36=>
 ret (Value.tuple #[y36,q34_2])) noX) ret))
noncomputable def Zaz.l1 (Γ : Zc) (s0 s1 s21 s22 s23 : Value) : M Out:=
 bind (bop .int .lss s23 s22) fun y4=>
 cnd y4
 (bind (ixa 1 s21 s23) fun y5=>
 bind (ld1 y5) fun y6=>
 bind (Γ QI [y6]) fun y7=>
 bind (uop .not y7) fun y8=>
 cnd y8
 (ret (.ret (Value.int .i64 10)))
 (bind (bop .int .add s23 (Value.int .i64 1)) fun y9=>
 ret (.nrm [s0,s1,s21,s22,y9])))
 (ret (.ext 0 [s0,s1]))
noncomputable def Zaz.l2 (Γ : Zc) (s0 s1 s31 s32 s33 : Value) : M Out:=
 bind (bop .int .lss s33 s32) fun y13=>
 cnd y13
 (bind (ixa 1 s31 s33) fun y14=>
 bind (ld1 y14) fun y15=>
 bind (bop .int .gtr s33 (Value.int .i64 0)) fun y16=>
 bind (ZJ y16 true 7 (bind (bop .int .sub s33 (Value.int .i64 1)) fun y17=>
 bind (ixa 1 s1 y17) fun y18=>
 bind (ld1 y18) fun y19=>
 bind (bop .str .geq y19 y15) fun y20=>
 ret [s1,s33,y17,y18,y19,y15,y20])) (c7 fun _ _ _ _ _ _ q21_6=>
 bind (pick y16 q21_6 (Value.bool false)) fun y22=>
 cnd y22
 (ret (.ret (Value.int .i64 9)))
 (bind (bop .int .add s33 (Value.int .i64 1)) fun y23=>
 ret (.nrm [s0,s1,s31,s32,y23]))))
 (ret (.ext 2 [s0,s1]))
noncomputable def Zaz.l4 (Γ : Zc) (s0 s1 s10 s11 s53 s54 s55 s61 s62 s63 : Value) : M Out:=
 bind (bop .int .lss s63 s62) fun y36=>
 cnd y36
 (bind (ixa 1 s61 s63) fun y37=>
 bind (ld1 y37) fun y38=>
 bind (Γ K7 [s1,y38]) fun y39=>
 bind (uop .not y39) fun y40=>
 cnd y40
 (ret (.ret (Value.int .i64 8)))
 (bind (bop .int .add s63 (Value.int .i64 1)) fun y41=>
 ret (.nrm [s0,s1,s10,s11,s53,s54,s55,s61,s62,y41])))
 (ret (.ext 6 [s0,s1,s10,s11,s53,s54,s55]))
noncomputable def Zaz.l5 (Γ : Zc) (s0 s1 s11 s53 s54 s55 s74 s75 s76 : Value) : M Out:=
 bind (bop .int .lss s76 s75) fun y46=>
 cnd y46
 (bind (ixa 5 s74 s76) fun y47=>
 bind (ldA 5 y47) fun y48=>
 bind (alc 1 (.agg #[.string ⟨#[]⟩,.string ⟨#[]⟩,.string ⟨#[]⟩,.bool false,.slice none 0 0])) fun y49=>
 bind (stA 5 y49 y48) fun _=>
 bind (fa 2 s11) fun y50=>
 bind (ld1 y50) fun y51=>
 bind (bop .str .neq y51 (Value.string ⟨#[]⟩)) fun y52=>
 bind (ZJ y52 true 5 (bind (fa 2 s11) fun y53=>
 bind (ld1 y53) fun y54=>
 bind (fa 2 y49) fun y55=>
 bind (ld1 y55) fun y56=>
 bind (bop .str .eql y54 y56) fun y57=>
 ret [y53,y54,y55,y56,y57])) (c5 fun _ _ _ _ q58_4=>
 bind (pick y52 q58_4 (Value.bool false)) fun y59=>
 cnd y59
 (ret (.ret (Value.int .i64 9)))
 (bind (bop .int .add s76 (Value.int .i64 1)) fun y60=>
 ret (.nrm [s0,s1,s11,s53,s54,s55,s74,s75,y60]))))
 (ret (.ext 8 [s0,s1,s53,s54,s55]))
noncomputable def Zaz.l3 (Γ : Zc) (s0 s1 s53 s54 s55 : Value) : M Out:=
 bind (bop .int .lss s55 s54) fun y29=>
 cnd y29
 (bind (ixa 5 s53 s55) fun y30=>
 bind (ldA 5 y30) fun y31=>
 bind (alc 1 (.agg #[.string ⟨#[]⟩,.string ⟨#[]⟩,.string ⟨#[]⟩,.bool false,.slice none 0 0])) fun y32=>
 bind (stA 5 y32 y31) fun _=>
 bind (fa 4 y32) fun y33=>
 bind (ld1 y33) fun y34=>
 bind (Zw y34) fun y35=>
 jn (Zi (c10 (Zaz.l4 Γ)) [s0,s1,s55,y32,s53,s54,s55,y34,y35,(Value.int .i64 0)]) noN (xk 6 (c7 fun q43_0 q43_1 q43_2 q43_3 q43_4 q43_5 q43_6=>
 bind (slv 5 q43_0 none (some q43_2) none) fun y44=>
 bind (Zw y44) fun y45=>
 jn (Zi (c9 (Zaz.l5 Γ)) [q43_0,q43_1,q43_3,q43_4,q43_5,q43_6,y44,y45,(Value.int .i64 0)]) noN (xk 8 (c5 fun q62_0 q62_1 q62_2 q62_3 q62_4=>
 bind (bop .int .add q62_4 (Value.int .i64 1)) fun y63=>
 ret (.nrm [q62_0,q62_1,q62_2,q62_3,y63])) noX) ZW) noX) ZW)
 (ret (.ext 4 []))
noncomputable def Zaz (Γ : Zc) (x0 x1 : Value) : M Value:=
 bind (Γ ZrQ [x0,(Value.int .i64 2)]) fun y1=>
 bind (bop .int .neq y1 (Value.int .i64 0)) fun y2=>
 cnd y2
 (ret y1)
 (bind (Zw x1) fun y3=>
 jn (Zi (c5 (Zaz.l1 Γ)) [x0,x1,x1,y3,(Value.int .i64 0)]) noN (xk 0 (c2 fun q11_0 q11_1=>
 bind (Zw q11_1) fun y12=>
 jn (Zi (c5 (Zaz.l2 Γ)) [q11_0,q11_1,q11_1,y12,(Value.int .i64 0)]) noN (xk 2 (c2 fun q25_0 q25_1=>
 bind (Zw q25_1) fun y26=>
 bind (bop .int .gtr y26 (Value.int .i64 6)) fun y27=>
 cnd y27
 (ret (Value.int .i64 7))
 (bind (Zw q25_0) fun y28=>
 jn (Zi (c5 (Zaz.l3 Γ)) [q25_0,q25_1,q25_0,y28,(Value.int .i64 0)]) noN (xk 4 (c0 (ret (Value.int .i64 0))) noX) ret)) noX) ret) noX) ret)
noncomputable def Zgt (Γ : Zc) (x0 x1 x2 : Value) : M Value:=
 bind (alc 1 x0) fun y1=>
 bind (alc 1 (.agg #[.slice none 0 0,.slice none 0 0])) fun y2=>
 bind (fa 0 y1) fun y3=>
 bind (ld1 y3) fun y4=>
 bind (Γ Za7 [y4,x1,x2]) fun y5=>
 bind (Zn y5 0) fun y6=>
 bind (Zn y5 1) fun y7=>
 bind (fa 0 y1) fun y8=>
 bind (st1 y8 y6) fun _=>
 bind (ldA 2 y1) fun y9=>
 bind (stA 2 y2 y9) fun _=>
 bind (ldA 2 y2) fun y10=>
 ret (Value.tuple #[y10,y7])
theorem Zrl (Γ : Zc) (x0 x1 x2 : Value) : Zy Tryz.prog Γ Tryz.f65 ZiG [x0,x1,x2]=Zgt Γ x0 x1 x2:=by kernel_rfl
theorem Zqj {prim : FuncId→Option (List Value→M Value)} (hp : prim Zcn=none) (n : Nat) (x0 x1 x2 : Value) : run Tryz.prog prim lvs (n+1) Zcn [x0,x1,x2]=Zgt (run Tryz.prog prim lvs n) x0 x1 x2:=
 (Zk hp (by kernel_rfl) Tryz.func65 (by kernel_rfl)).trans (Zrl _ x0 x1 x2)
noncomputable def ZaR (Γ : Zc) (x0 x1 x2 : Value) : M Value:=
 bind (Γ QT [x0,x1]) fun y1=>
 bind (Zn y1 0) fun y2=>
 bind (Zn y1 1) fun y3=>
 bind (alc 1 (.agg #[.string ⟨#[]⟩,.bool false])) fun y4=>
 bind (stA 2 y4 y2) fun _=>
 bind (bop .int .eql y3 (Value.int .i64 10)) fun y5=>
 cnd y5
 (ret y3)
 (bind (Γ Zbm [x2]) fun y6=>
 bind (bop .int .neq y6 (Value.int .i64 0)) fun y7=>
 cnd y7
 (ret (Value.int .i64 4))
 (bind (bop .int .eql y3 (Value.int .i64 0)) fun y8=>
 cnd y8
 (ret (Value.int .i64 9))
 (bind (Qa x0) fun y9=>
 bind (fa 0 y9) fun y10=>
 bind (ld1 y10) fun y11=>
 bind (lenM y11) fun y12=>
 bind (bop .int .geq y12 (Value.int .i64 12)) fun y13=>
 cnd y13
 (ret (Value.int .i64 7))
 (bind (Qa x0) fun y14=>
 bind (fa 0 y14) fun y15=>
 bind (ld1 y15) fun y16=>
 bind (bld (.agg #[.string ⟨#[]⟩,.bool false]) [(0,1,x2)]) fun y17=>
 bind (mup .str y16 x1 y17) fun _=>
 ret (Value.int .i64 0)))))
theorem Znb (Γ : Zc) (x0 x1 x2 : Value) : Zy Tryz.prog Γ Tryz.f66 ZgD [x0,x1,x2]=ZaR Γ x0 x1 x2:=by kernel_rfl
theorem ZlU {prim : FuncId→Option (List Value→M Value)} (hp : prim Y6=none) (n : Nat) (x0 x1 x2 : Value) : run Tryz.prog prim lvs (n+1) Y6 [x0,x1,x2]=ZaR (run Tryz.prog prim lvs n) x0 x1 x2:=
 (Zk hp (by kernel_rfl) Tryz.func66 (by kernel_rfl)).trans (Znb _ x0 x1 x2)
noncomputable def Zgr (Γ : Zc) (x0 x1 : Value) : M Value:=
 bind (alc 1 x0) fun y1=>
 bind (alc 1 (.agg #[.slice none 0 0,.slice none 0 0])) fun y2=>
 bind (fa 0 y1) fun y3=>
 bind (ld1 y3) fun y4=>
 bind (Γ Zbf [y4,x1]) fun y5=>
 bind (Zn y5 0) fun y6=>
 bind (Zn y5 1) fun y7=>
 bind (fa 0 y1) fun y8=>
 bind (st1 y8 y6) fun _=>
 bind (ldA 2 y1) fun y9=>
 bind (stA 2 y2 y9) fun _=>
 bind (ldA 2 y2) fun y10=>
 ret (Value.tuple #[y10,y7])
theorem ZqH (Γ : Zc) (x0 x1 : Value) : Zy Tryz.prog Γ Tryz.f67 ZiC [x0,x1]=Zgr Γ x0 x1:=by kernel_rfl
theorem ZoV {prim : FuncId→Option (List Value→M Value)} (hp : prim Zcu=none) (n : Nat) (x0 x1 : Value) : run Tryz.prog prim lvs (n+1) Zcu [x0,x1]=Zgr (run Tryz.prog prim lvs n) x0 x1:=
 (Zk hp (by kernel_rfl) Tryz.func67 (by kernel_rfl)).trans (ZqH _ x0 x1)
noncomputable def ZaO (Γ : Zc) (x0 x1 : Value) : M Value:=
 bind (Γ QT [x0,x1]) fun y1=>
 bind (Zn y1 0) fun y2=>
 bind (Zn y1 1) fun y3=>
 bind (alc 1 (.agg #[.string ⟨#[]⟩,.bool false])) fun y4=>
 bind (stA 2 y4 y2) fun _=>
 bind (bop .int .neq y3 (Value.int .i64 0)) fun y5=>
 cnd y5
 (ret y3)
 (bind (Qa x0) fun y6=>
 bind (fa 0 y6) fun y7=>
 bind (ld1 y7) fun y8=>
 bind (mde .str y8 x1) fun _=>
 bind (Qa x0) fun y9=>
 bind (fa 1 y9) fun y10=>
 bind (ld1 y10) fun y11=>
 bind (Γ Jv [y11,x1]) fun y12=>
 bind (Qa x0) fun y13=>
 bind (fa 2 y13) fun y14=>
 bind (ld1 y14) fun y15=>
 bind (Γ Wu [y15,x1]) fun y16=>
 ret (Value.int .i64 0))
theorem ZmW (Γ : Zc) (x0 x1 : Value) : Zy Tryz.prog Γ Tryz.f68 ZgM [x0,x1]=ZaO Γ x0 x1:=by kernel_rfl
theorem Zmf {prim : FuncId→Option (List Value→M Value)} (hp : prim YW=none) (n : Nat) (x0 x1 : Value) : run Tryz.prog prim lvs (n+1) YW [x0,x1]=ZaO (run Tryz.prog prim lvs n) x0 x1:=
 (Zk hp (by kernel_rfl) Tryz.func68 (by kernel_rfl)).trans (ZmW _ x0 x1)
noncomputable def ZbR (Γ : Zc) (x0 x1 x2 : Value) : M Value:=
 bind (alc 1 x0) fun y1=>
 bind (alc 1 (.agg #[.slice none 0 0,.slice none 0 0])) fun y2=>
 bind (ldA 2 y1) fun y3=>
 bind (Γ J5 [y3,x1]) fun y4=>
 bind (Zn y4 0) fun y5=>
 bind (Zn y4 1) fun y6=>
 bind (alc 1 (.agg #[.string ⟨#[]⟩,.string ⟨#[]⟩,.string ⟨#[]⟩,.bool false,.slice none 0 0])) fun y7=>
 bind (stA 5 y7 y5) fun _=>
 bind (bop .int .eql y6 (Value.int .i64 10)) fun y8=>
 cnd y8
 (bind (ldA 2 y1) fun y9=>
 bind (stA 2 y2 y9) fun _=>
 bind (ldA 2 y2) fun y10=>
 ret (Value.tuple #[y10,y6]))
 (bind (Γ ZaA [x2]) fun y11=>
 bind (uop .not y11) fun y12=>
 cnd y12
 (bind (ldA 2 y1) fun y13=>
 bind (stA 2 y2 y13) fun _=>
 bind (ldA 2 y2) fun y14=>
 ret (Value.tuple #[y14,(Value.int .i64 4)]))
 (bind (bop .int .neq y6 (Value.int .i64 0)) fun y15=>
 cnd y15
 (bind (ldA 2 y1) fun y16=>
 bind (stA 2 y2 y16) fun _=>
 bind (ldA 2 y2) fun y17=>
 ret (Value.tuple #[y17,y6]))
 (bind (fa 3 y7) fun y18=>
 bind (ld1 y18) fun y19=>
 cnd y19
 (bind (ldA 2 y1) fun y20=>
 bind (stA 2 y2 y20) fun _=>
 bind (ldA 2 y2) fun y21=>
 ret (Value.tuple #[y21,(Value.int .i64 12)]))
 (bind (fa 1 y7) fun y22=>
 bind (st1 y22 x2) fun _=>
 bind (ldA 2 y1) fun y23=>
 bind (ldA 5 y7) fun y24=>
 bind (Γ WG [y23,y24]) fun y25=>
 bind (stA 2 y2 y25) fun _=>
 bind (ldA 2 y2) fun y26=>
 ret (Value.tuple #[y26,(Value.int .i64 0)])))))
theorem ZpL (Γ : Zc) (x0 x1 x2 : Value) : Zy Tryz.prog Γ Tryz.f69 ZhF [x0,x1,x2]=ZbR Γ x0 x1 x2:=by kernel_rfl
theorem Zod {prim : FuncId→Option (List Value→M Value)} (hp : prim ZaI=none) (n : Nat) (x0 x1 x2 : Value) : run Tryz.prog prim lvs (n+1) ZaI [x0,x1,x2]=ZbR (run Tryz.prog prim lvs n) x0 x1 x2:=
 (Zk hp (by kernel_rfl) Tryz.func69 (by kernel_rfl)).trans (ZpL _ x0 x1 x2)
noncomputable def Zaa (Γ : Zc) (x0 x1 x2 : Value) : M Value:=
 bind (Γ QT [x0,x1]) fun y1=>
 bind (Zn y1 0) fun y2=>
 bind (Zn y1 1) fun y3=>
 bind (alc 1 (.agg #[.string ⟨#[]⟩,.bool false])) fun y4=>
 bind (stA 2 y4 y2) fun _=>
 bind (bop .int .eql y3 (Value.int .i64 10)) fun y5=>
 cnd y5
 (ret y3)
 (bind (Γ Zbm [x2]) fun y6=>
 bind (bop .int .neq y6 (Value.int .i64 0)) fun y7=>
 cnd y7
 (ret (Value.int .i64 4))
 (bind (bop .int .neq y3 (Value.int .i64 0)) fun y8=>
 cnd y8
 (ret y3)
 (bind (fa 1 y4) fun y9=>
 bind (ld1 y9) fun y10=>
 cnd y10
 (ret (Value.int .i64 12))
 (bind (fa 0 y4) fun y11=>
 bind (st1 y11 x2) fun _=>
 bind (Qa x0) fun y12=>
 bind (fa 0 y12) fun y13=>
 bind (ld1 y13) fun y14=>
 bind (ldA 2 y4) fun y15=>
 bind (mup .str y14 x1 y15) fun _=>
 ret (Value.int .i64 0)))))
theorem Zl7 (Γ : Zc) (x0 x1 x2 : Value) : Zy Tryz.prog Γ Tryz.f70 Zf9 [x0,x1,x2]=Zaa Γ x0 x1 x2:=by kernel_rfl
theorem Zkj {prim : FuncId→Option (List Value→M Value)} (hp : prim Wi=none) (n : Nat) (x0 x1 x2 : Value) : run Tryz.prog prim lvs (n+1) Wi [x0,x1,x2]=Zaa (run Tryz.prog prim lvs n) x0 x1 x2:=
 (Zk hp (by kernel_rfl) Tryz.func70 (by kernel_rfl)).trans (Zl7 _ x0 x1 x2)
noncomputable def Qu.l1 (Γ : Zc) (s1 s3 s6 s8 s10 s41 s42 s43 : Value) : M Out:=
 bind (bop .int .lss s43 s42) fun y26=>
 cnd y26
 (bind (ixa 5 s41 s43) fun y27=>
 bind (ldA 5 y27) fun y28=>
 bind (alc 1 (.agg #[.string ⟨#[]⟩,.string ⟨#[]⟩,.string ⟨#[]⟩,.bool false,.slice none 0 0])) fun y29=>
 bind (stA 5 y29 y28) fun _=>
 bind (bop .str .neq s10 (Value.string ⟨#[]⟩)) fun y30=>
 bind (ZJ y30 true 4 (bind (fa 2 y29) fun y31=>
 bind (ld1 y31) fun y32=>
 bind (bop .str .eql y32 s10) fun y33=>
 ret [y31,y32,s10,y33])) (c4 fun _ _ _ q34_3=>
 bind (pick y30 q34_3 (Value.bool false)) fun y35=>
 bind (ZJ y35 true 4 (bind (fa 0 y29) fun y36=>
 bind (ld1 y36) fun y37=>
 bind (bop .str .neq y37 s1) fun y38=>
 ret [y36,y37,s1,y38])) (c4 fun _ _ _ q39_3=>
 bind (pick y35 q39_3 (Value.bool false)) fun y40=>
 cnd y40
 (bind (ldA 2 s3) fun y41=>
 bind (stA 2 s6 y41) fun _=>
 bind (ldA 2 s6) fun y42=>
 ret (.ret (Value.tuple #[y42,(Value.int .i64 9)])))
 (bind (bop .int .add s43 (Value.int .i64 1)) fun y43=>
 ret (.nrm [s1,s3,s6,s8,s10,s41,s42,y43])))))
 (ret (.ext 0 [s3,s6,s8,s10]))
noncomputable def Qu (Γ : Zc) (x0 x1 x2 : Value) : M Value:=
 bind (alc 1 x0) fun y1=>
 bind (alc 1 (.agg #[.slice none 0 0,.slice none 0 0])) fun y2=>
 bind (ldA 2 y1) fun y3=>
 bind (Γ J5 [y3,x1]) fun y4=>
 bind (Zn y4 0) fun y5=>
 bind (Zn y4 1) fun y6=>
 bind (alc 1 (.agg #[.string ⟨#[]⟩,.string ⟨#[]⟩,.string ⟨#[]⟩,.bool false,.slice none 0 0])) fun y7=>
 bind (stA 5 y7 y5) fun _=>
 bind (Γ ZbA [x2]) fun y8=>
 bind (Zn y8 0) fun y9=>
 bind (Zn y8 1) fun y10=>
 bind (bop .int .eql y6 (Value.int .i64 10)) fun y11=>
 cnd y11
 (bind (ldA 2 y1) fun y12=>
 bind (stA 2 y2 y12) fun _=>
 bind (ldA 2 y2) fun y13=>
 ret (Value.tuple #[y13,y6]))
 (bind (bop .str .neq x2 (Value.string ⟨#[]⟩)) fun y14=>
 bind (ZJ y14 true 2 (bind (uop .not y10) fun y15=>
 ret [y10,y15])) (c2 fun _ q16_1=>
 bind (pick y14 q16_1 (Value.bool false)) fun y17=>
 cnd y17
 (bind (ldA 2 y1) fun y18=>
 bind (stA 2 y2 y18) fun _=>
 bind (ldA 2 y2) fun y19=>
 ret (Value.tuple #[y19,(Value.int .i64 11)]))
 (bind (bop .int .neq y6 (Value.int .i64 0)) fun y20=>
 cnd y20
 (bind (ldA 2 y1) fun y21=>
 bind (stA 2 y2 y21) fun _=>
 bind (ldA 2 y2) fun y22=>
 ret (Value.tuple #[y22,y6]))
 (bind (fa 0 y1) fun y23=>
 bind (ld1 y23) fun y24=>
 bind (Zw y24) fun y25=>
 jn (Zi (c8 (Qu.l1 Γ)) [x1,y1,y2,y7,y9,y24,y25,(Value.int .i64 0)]) noN (xk 0 (c4 fun q45_0 q45_1 q45_2 q45_3=>
 bind (fa 2 q45_2) fun y46=>
 bind (st1 y46 q45_3) fun _=>
 bind (ldA 2 q45_0) fun y47=>
 bind (ldA 5 q45_2) fun y48=>
 bind (Γ WG [y47,y48]) fun y49=>
 bind (stA 2 q45_1 y49) fun _=>
 bind (ldA 2 q45_1) fun y50=>
 ret (Value.tuple #[y50,(Value.int .i64 0)])) noX) ret))))
theorem ZpX (Γ : Zc) (x0 x1 x2 : Value) : Zy Tryz.prog Γ Tryz.f71 ZhJ [x0,x1,x2]=Qu Γ x0 x1 x2:=by kernel_rfl
theorem ZnY {prim : FuncId→Option (List Value→M Value)} (hp : prim ZaF=none) (n : Nat) (x0 x1 x2 : Value) : run Tryz.prog prim lvs (n+1) ZaF [x0,x1,x2]=Qu (run Tryz.prog prim lvs n) x0 x1 x2:=
 (Zk hp (by kernel_rfl) Tryz.func71 (by kernel_rfl)).trans (ZpX _ x0 x1 x2)
noncomputable def Kk (Γ : Zc) (x0 x1 x2 : Value) : M Value:=
 bind (Γ QT [x0,x1]) fun y1=>
 bind (Zn y1 0) fun y2=>
 bind (Zn y1 1) fun y3=>
 bind (alc 1 (.agg #[.string ⟨#[]⟩,.bool false])) fun y4=>
 bind (stA 2 y4 y2) fun _=>
 bind (Γ Zbl [x2]) fun y5=>
 bind (Zn y5 0) fun y6=>
 bind (Zn y5 1) fun y7=>
 bind (bop .int .eql y3 (Value.int .i64 10)) fun y8=>
 cnd y8
 (ret y3)
 (bind (bop .str .neq x2 (Value.string ⟨#[]⟩)) fun y9=>
 bind (ZJ y9 true 2 (bind (bop .int .neq y7 (Value.int .i64 0)) fun y10=>
 ret [y7,y10])) (c2 fun _ q11_1=>
 bind (pick y9 q11_1 (Value.bool false)) fun y12=>
 cnd y12
 (ret y7)
 (bind (bop .int .neq y3 (Value.int .i64 0)) fun y13=>
 cnd y13
 (ret y3)
 (bind (Qa x0) fun y14=>
 bind (fa 1 y14) fun y15=>
 bind (ld1 y15) fun y16=>
 bind (Γ Ke [y16,x1,x2]) fun y17=>
 ret y17))))
theorem ZkV (Γ : Zc) (x0 x1 x2 : Value) : Zy Tryz.prog Γ Tryz.f72 Zf1 [x0,x1,x2]=Kk Γ x0 x1 x2:=by kernel_rfl
theorem Zkw {prim : FuncId→Option (List Value→M Value)} (hp : prim YF=none) (n : Nat) (x0 x1 x2 : Value) : run Tryz.prog prim lvs (n+1) YF [x0,x1,x2]=Kk (run Tryz.prog prim lvs n) x0 x1 x2:=
 (Zk hp (by kernel_rfl) Tryz.func72 (by kernel_rfl)).trans (ZkV _ x0 x1 x2)
noncomputable def ZaE (Γ : Zc) (x0 x1 x2 : Value) : M Value:=
 bind (alc 1 x0) fun y1=>
 bind (alc 1 (.agg #[.slice none 0 0,.slice none 0 0])) fun y2=>
 bind (ldA 2 y1) fun y3=>
 bind (Γ J5 [y3,x1]) fun y4=>
 bind (Zn y4 0) fun y5=>
 bind (Zn y4 1) fun y6=>
 bind (alc 1 (.agg #[.string ⟨#[]⟩,.string ⟨#[]⟩,.string ⟨#[]⟩,.bool false,.slice none 0 0])) fun y7=>
 bind (stA 5 y7 y5) fun _=>
 bind (bop .int .neq y6 (Value.int .i64 0)) fun y8=>
 cnd y8
 (bind (ldA 2 y1) fun y9=>
 bind (stA 2 y2 y9) fun _=>
 bind (ldA 2 y2) fun y10=>
 ret (Value.tuple #[y10,y6]))
 (bind (fa 3 y7) fun y11=>
 bind (ld1 y11) fun y12=>
 bind (bop .bool .eql y12 x2) fun y13=>
 cnd y13
 (bind (ldA 2 y1) fun y14=>
 bind (stA 2 y2 y14) fun _=>
 bind (ldA 2 y2) fun y15=>
 ret (Value.tuple #[y15,(Value.int .i64 12)]))
 (bind (fa 3 y7) fun y16=>
 bind (st1 y16 x2) fun _=>
 bind (ldA 2 y1) fun y17=>
 bind (ldA 5 y7) fun y18=>
 bind (Γ WG [y17,y18]) fun y19=>
 bind (stA 2 y2 y19) fun _=>
 bind (ldA 2 y2) fun y20=>
 ret (Value.tuple #[y20,(Value.int .i64 0)])))
theorem Zp8 (Γ : Zc) (x0 x1 x2 : Value) : Zy Tryz.prog Γ Tryz.f73 Zh9 [x0,x1,x2]=ZaE Γ x0 x1 x2:=by kernel_rfl
theorem Zos {prim : FuncId→Option (List Value→M Value)} (hp : prim ZaL=none) (n : Nat) (x0 x1 x2 : Value) : run Tryz.prog prim lvs (n+1) ZaL [x0,x1,x2]=ZaE (run Tryz.prog prim lvs n) x0 x1 x2:=
 (Zk hp (by kernel_rfl) Tryz.func73 (by kernel_rfl)).trans (Zp8 _ x0 x1 x2)
noncomputable def Wg (Γ : Zc) (x0 x1 x2 : Value) : M Value:=
 bind (Γ QT [x0,x1]) fun y1=>
 bind (Zn y1 0) fun y2=>
 bind (Zn y1 1) fun y3=>
 bind (alc 1 (.agg #[.string ⟨#[]⟩,.bool false])) fun y4=>
 bind (stA 2 y4 y2) fun _=>
 bind (bop .int .neq y3 (Value.int .i64 0)) fun y5=>
 cnd y5
 (ret y3)
 (bind (fa 1 y4) fun y6=>
 bind (ld1 y6) fun y7=>
 bind (bop .bool .eql y7 x2) fun y8=>
 cnd y8
 (ret (Value.int .i64 12))
 (bind (fa 1 y4) fun y9=>
 bind (st1 y9 x2) fun _=>
 bind (Qa x0) fun y10=>
 bind (fa 0 y10) fun y11=>
 bind (ld1 y11) fun y12=>
 bind (ldA 2 y4) fun y13=>
 bind (mup .str y12 x1 y13) fun _=>
 ret (Value.int .i64 0)))
theorem Zlv (Γ : Zc) (x0 x1 x2 : Value) : Zy Tryz.prog Γ Tryz.f74 Zf2 [x0,x1,x2]=Wg Γ x0 x1 x2:=by kernel_rfl
theorem Zki {prim : FuncId→Option (List Value→M Value)} (hp : prim Wj=none) (n : Nat) (x0 x1 x2 : Value) : run Tryz.prog prim lvs (n+1) Wj [x0,x1,x2]=Wg (run Tryz.prog prim lvs n) x0 x1 x2:=
 (Zk hp (by kernel_rfl) Tryz.func74 (by kernel_rfl)).trans (Zlv _ x0 x1 x2)
noncomputable def Zcw (Γ : Zc) (x0 x1 x2 : Value) : M Value:=
 bind (alc 1 x0) fun y1=>
 bind (alc 1 (.agg #[.slice none 0 0,.slice none 0 0])) fun y2=>
 bind (ldA 2 y1) fun y3=>
 bind (Γ J5 [y3,x1]) fun y4=>
 bind (Zn y4 0) fun y5=>
 bind (Zn y4 1) fun y6=>
 bind (alc 1 (.agg #[.string ⟨#[]⟩,.string ⟨#[]⟩,.string ⟨#[]⟩,.bool false,.slice none 0 0])) fun y7=>
 bind (stA 5 y7 y5) fun _=>
 bind (ldA 2 y1) fun y8=>
 bind (Γ J5 [y8,x2]) fun y9=>
 bind (Zn y9 0) fun y10=>
 bind (Zn y9 1) fun y11=>
 bind (alc 1 (.agg #[.string ⟨#[]⟩,.string ⟨#[]⟩,.string ⟨#[]⟩,.bool false,.slice none 0 0])) fun y12=>
 bind (stA 5 y12 y10) fun _=>
 bind (bop .int .eql y6 (Value.int .i64 10)) fun y13=>
 bind (ZJ y13 false 2 (bind (bop .int .eql y11 (Value.int .i64 10)) fun y14=>
 ret [y11,y14])) (c2 fun _ q15_1=>
 bind (pick y13 (Value.bool true) q15_1) fun y16=>
 cnd y16
 (bind (ldA 2 y1) fun y17=>
 bind (stA 2 y2 y17) fun _=>
 bind (ldA 2 y2) fun y18=>
 ret (Value.tuple #[y18,(Value.int .i64 10)]))
 (bind (bop .int .neq y6 (Value.int .i64 0)) fun y19=>
 cnd y19
 (bind (ldA 2 y1) fun y20=>
 bind (stA 2 y2 y20) fun _=>
 bind (ldA 2 y2) fun y21=>
 ret (Value.tuple #[y21,y6]))
 (bind (bop .int .eql y11 (Value.int .i64 0)) fun y22=>
 cnd y22
 (bind (ldA 2 y1) fun y23=>
 bind (stA 2 y2 y23) fun _=>
 bind (ldA 2 y2) fun y24=>
 ret (Value.tuple #[y24,(Value.int .i64 9)]))
 (bind (fa 0 y7) fun y25=>
 bind (st1 y25 x2) fun _=>
 bind (fa 0 y1) fun y26=>
 bind (ld1 y26) fun y27=>
 bind (ldA 5 y7) fun y28=>
 bind (Γ ZbC [y27,x1]) fun y29=>
 bind (ldA 5 y7) fun u_30=>same u_30 y28 <|
 bind (Γ Zak [y29,y28]) fun y31=>
 bind (fa 0 y1) fun y32=>
 bind (st1 y32 y31) fun _=>
 bind (ldA 2 y1) fun y33=>
 bind (stA 2 y2 y33) fun _=>
 bind (ldA 2 y2) fun y34=>
 ret (Value.tuple #[y34,(Value.int .i64 0)])))))
theorem ZqU (Γ : Zc) (x0 x1 x2 : Value) : Zy Tryz.prog Γ Tryz.f75 ZiK [x0,x1,x2]=Zcw Γ x0 x1 x2:=by kernel_rfl
theorem Zpw {prim : FuncId→Option (List Value→M Value)} (hp : prim Zba=none) (n : Nat) (x0 x1 x2 : Value) : run Tryz.prog prim lvs (n+1) Zba [x0,x1,x2]=Zcw (run Tryz.prog prim lvs n) x0 x1 x2:=
 (Zk hp (by kernel_rfl) Tryz.func75 (by kernel_rfl)).trans (ZqU _ x0 x1 x2)
noncomputable def ZaS (Γ : Zc) (x0 x1 x2 : Value) : M Value:=
 bind (Γ QT [x0,x1]) fun y1=>
 bind (Zn y1 0) fun y2=>
 bind (Zn y1 1) fun y3=>
 bind (alc 1 (.agg #[.string ⟨#[]⟩,.bool false])) fun y4=>
 bind (stA 2 y4 y2) fun _=>
 bind (Γ QT [x0,x2]) fun y5=>
 bind (Zn y5 0) fun y6=>
 bind (Zn y5 1) fun y7=>
 bind (alc 1 (.agg #[.string ⟨#[]⟩,.bool false])) fun y8=>
 bind (stA 2 y8 y6) fun _=>
 bind (bop .int .eql y3 (Value.int .i64 10)) fun y9=>
 bind (ZJ y9 false 2 (bind (bop .int .eql y7 (Value.int .i64 10)) fun y10=>
 ret [y7,y10])) (c2 fun _ q11_1=>
 bind (pick y9 (Value.bool true) q11_1) fun y12=>
 cnd y12
 (ret (Value.int .i64 10))
 (bind (bop .int .neq y3 (Value.int .i64 0)) fun y13=>
 cnd y13
 (ret y3)
 (bind (bop .int .eql y7 (Value.int .i64 0)) fun y14=>
 cnd y14
 (ret (Value.int .i64 9))
 (bind (Qa x0) fun y15=>
 bind (fa 0 y15) fun y16=>
 bind (ld1 y16) fun y17=>
 bind (mde .str y17 x1) fun _=>
 bind (Qa x0) fun y18=>
 bind (fa 0 y18) fun y19=>
 bind (ld1 y19) fun y20=>
 bind (ldA 2 y4) fun y21=>
 bind (mup .str y20 x2 y21) fun _=>
 bind (Qa x0) fun y22=>
 bind (fa 1 y22) fun y23=>
 bind (ld1 y23) fun y24=>
 bind (Γ Wo [y24,x1,x2]) fun y25=>
 bind (Qa x0) fun y26=>
 bind (fa 2 y26) fun y27=>
 bind (ld1 y27) fun y28=>
 bind (Γ Ko [y28,x1,x2]) fun y29=>
 ret (Value.int .i64 0)))))
theorem Znj (Γ : Zc) (x0 x1 x2 : Value) : Zy Tryz.prog Γ Tryz.f76 ZgQ [x0,x1,x2]=ZaS Γ x0 x1 x2:=by kernel_rfl
theorem ZlI {prim : FuncId→Option (List Value→M Value)} (hp : prim WA=none) (n : Nat) (x0 x1 x2 : Value) : run Tryz.prog prim lvs (n+1) WA [x0,x1,x2]=ZaS (run Tryz.prog prim lvs n) x0 x1 x2:=
 (Zk hp (by kernel_rfl) Tryz.func76 (by kernel_rfl)).trans (Znj _ x0 x1 x2)
noncomputable def Zei (Γ : Zc) (x0 x1 : Value) : M Value:=
 bind (alc 1 x0) fun y1=>
 bind (alc 1 (.agg #[.slice none 0 0,.slice none 0 0])) fun y2=>
 bind (fa 1 y1) fun y3=>
 bind (ld1 y3) fun y4=>
 bind (bld (.agg #[.slice none 0 0,.slice none 0 0]) [(0,1,y4)]) fun y5=>
 bind (Γ ZdT [y5,x1]) fun y6=>
 bind (Zn y6 0) fun y7=>
 bind (Zn y6 1) fun y8=>
 bind (alc 1 (.agg #[.slice none 0 0,.slice none 0 0])) fun y9=>
 bind (stA 2 y9 y7) fun _=>
 bind (fa 0 y9) fun y10=>
 bind (ld1 y10) fun y11=>
 bind (fa 1 y1) fun y12=>
 bind (st1 y12 y11) fun _=>
 bind (ldA 2 y1) fun y13=>
 bind (stA 2 y2 y13) fun _=>
 bind (ldA 2 y2) fun y14=>
 ret (Value.tuple #[y14,y8])
theorem Znc (Γ : Zc) (x0 x1 : Value) : Zy Tryz.prog Γ Tryz.f77 ZgL [x0,x1]=Zei Γ x0 x1:=by kernel_rfl
theorem Zmk {prim : FuncId→Option (List Value→M Value)} (hp : prim ZaP=none) (n : Nat) (x0 x1 : Value) : run Tryz.prog prim lvs (n+1) ZaP [x0,x1]=Zei (run Tryz.prog prim lvs n) x0 x1:=
 (Zk hp (by kernel_rfl) Tryz.func77 (by kernel_rfl)).trans (Znc _ x0 x1)
noncomputable def ZcI (Γ : Zc) (x0 x1 : Value) : M Value:=
 bind (Qa x0) fun y1=>
 bind (fa 2 y1) fun y2=>
 bind (ld1 y2) fun y3=>
 bind (Γ Yh [y3,x1]) fun y4=>
 ret y4
theorem Zjz (Γ : Zc) (x0 x1 : Value) : Zy Tryz.prog Γ Tryz.f78 ZeJ [x0,x1]=ZcI Γ x0 x1:=by kernel_rfl
theorem ZiM {prim : FuncId→Option (List Value→M Value)} (hp : prim Wt=none) (n : Nat) (x0 x1 : Value) : run Tryz.prog prim lvs (n+1) Wt [x0,x1]=ZcI (run Tryz.prog prim lvs n) x0 x1:=
 (Zk hp (by kernel_rfl) Tryz.func78 (by kernel_rfl)).trans (Zjz _ x0 x1)
noncomputable def JA.l1 (Γ : Zc) (s1 s2 s4 s8 s27 s28 s29 : Value) : M Out:=
 bind (bop .int .lss s29 s28) fun y19=>
 cnd y19
 (bind (ixa 5 s27 s29) fun y20=>
 bind (ldA 5 y20) fun y21=>
 bind (alc 1 (.agg #[.string ⟨#[]⟩,.string ⟨#[]⟩,.string ⟨#[]⟩,.bool false,.slice none 0 0])) fun y22=>
 bind (stA 5 y22 y21) fun _=>
 bind (fa 4 y22) fun y23=>
 bind (ld1 y23) fun y24=>
 bind (Γ ZaK [y24,s1]) fun y25=>
 bind (fa 4 y22) fun y26=>
 bind (st1 y26 y25) fun _=>
 bind (ldA 5 y22) fun y27=>
 bind (bsl 5 1 (.agg #[.string ⟨#[]⟩,.string ⟨#[]⟩,.string ⟨#[]⟩,.bool false,.slice none 0 0]) [(0,5,y27)]) fun y28=>
 bind (app 5 80 s8 y28) fun y29=>
 bind (bop .int .add s29 (Value.int .i64 1)) fun y30=>
 ret (.nrm [s1,s2,s4,y29,s27,s28,y30]))
 (ret (.ext 0 [s2,s4,s8]))
noncomputable def JA (Γ : Zc) (x0 x1 : Value) : M Value:=
 bind (alc 1 x0) fun y1=>
 bind (alc 1 (.agg #[.slice none 0 0,.slice none 0 0])) fun y2=>
 bind (fa 1 y1) fun y3=>
 bind (ld1 y3) fun y4=>
 bind (bld (.agg #[.slice none 0 0,.slice none 0 0]) [(0,1,y4)]) fun y5=>
 bind (Γ ZdS [y5,x1]) fun y6=>
 bind (Zn y6 0) fun y7=>
 bind (Zn y6 1) fun y8=>
 bind (alc 1 (.agg #[.slice none 0 0,.slice none 0 0])) fun y9=>
 bind (stA 2 y9 y7) fun _=>
 bind (bop .int .neq y8 (Value.int .i64 0)) fun y10=>
 cnd y10
 (bind (ldA 2 y1) fun y11=>
 bind (stA 2 y2 y11) fun _=>
 bind (ldA 2 y2) fun y12=>
 ret (Value.tuple #[y12,y8]))
 (bind (fa 0 y9) fun y13=>
 bind (ld1 y13) fun y14=>
 bind (fa 1 y1) fun y15=>
 bind (st1 y15 y14) fun _=>
 bind (fa 0 y1) fun y16=>
 bind (ld1 y16) fun y17=>
 bind (Zw y17) fun y18=>
 jn (Zi (c7 (JA.l1 Γ)) [x1,y1,y2,(Value.slice none 0 0),y17,y18,(Value.int .i64 0)]) noN (xk 0 (c3 fun q32_0 q32_1 q32_2=>
 bind (fa 0 q32_0) fun y33=>
 bind (st1 y33 q32_2) fun _=>
 bind (ldA 2 q32_0) fun y34=>
 bind (stA 2 q32_1 y34) fun _=>
 bind (ldA 2 q32_1) fun y35=>
 ret (Value.tuple #[y35,(Value.int .i64 0)])) noX) ret)
theorem Zne (Γ : Zc) (x0 x1 : Value) : Zy Tryz.prog Γ Tryz.f79 ZgC [x0,x1]=JA Γ x0 x1:=by kernel_rfl
theorem ZkU {prim : FuncId→Option (List Value→M Value)} (hp : prim Wy=none) (n : Nat) (x0 x1 : Value) : run Tryz.prog prim lvs (n+1) Wy [x0,x1]=JA (run Tryz.prog prim lvs n) x0 x1:=
 (Zk hp (by kernel_rfl) Tryz.func79 (by kernel_rfl)).trans (Zne _ x0 x1)
noncomputable def ZcL (Γ : Zc) (x0 x1 : Value) : M Value:=
 bind (Qa x0) fun y1=>
 bind (fa 2 y1) fun y2=>
 bind (ld1 y2) fun y3=>
 bind (Γ Wn [y3,x1]) fun y4=>
 ret y4
theorem Zjg (Γ : Zc) (x0 x1 : Value) : Zy Tryz.prog Γ Tryz.f80 ZeK [x0,x1]=ZcL Γ x0 x1:=by kernel_rfl
theorem ZiW {prim : FuncId→Option (List Value→M Value)} (hp : prim YJ=none) (n : Nat) (x0 x1 : Value) : run Tryz.prog prim lvs (n+1) YJ [x0,x1]=ZcL (run Tryz.prog prim lvs n) x0 x1:=
 (Zk hp (by kernel_rfl) Tryz.func80 (by kernel_rfl)).trans (Zjg _ x0 x1)
noncomputable def ZcD (Γ : Zc) (x0 x1 x2 : Value) : M Value:=
 bind (alc 1 x0) fun y1=>
 bind (alc 1 (.agg #[.slice none 0 0,.slice none 0 0])) fun y2=>
 bind (ldA 2 y1) fun y3=>
 bind (Γ Zbe [y3,x1,x2]) fun y4=>
 bind (Zn y4 0) fun y5=>
 bind (Zn y4 1) fun y6=>
 bind (alc 1 (.agg #[.string ⟨#[]⟩,.string ⟨#[]⟩,.string ⟨#[]⟩,.bool false,.slice none 0 0])) fun y7=>
 bind (stA 5 y7 y5) fun _=>
 bind (bop .int .neq y6 (Value.int .i64 0)) fun y8=>
 cnd y8
 (bind (ldA 2 y1) fun y9=>
 bind (stA 2 y2 y9) fun _=>
 bind (ldA 2 y2) fun y10=>
 ret (Value.tuple #[y10,y6]))
 (bind (fa 4 y7) fun y11=>
 bind (ld1 y11) fun y12=>
 bind (Γ K7 [y12,x1]) fun y13=>
 cnd y13
 (bind (ldA 2 y1) fun y14=>
 bind (stA 2 y2 y14) fun _=>
 bind (ldA 2 y2) fun y15=>
 ret (Value.tuple #[y15,(Value.int .i64 9)]))
 (bind (bsl 1 0 (.string ⟨#[]⟩) []) fun y16=>
 bind (fa 4 y7) fun y17=>
 bind (ld1 y17) fun y18=>
 bind (app 1 16 y16 y18) fun y19=>
 bind (bsl 1 1 (.string ⟨#[]⟩) [(0,1,x1)]) fun y20=>
 bind (app 1 16 y19 y20) fun y21=>
 bind (Γ W5 [y21]) fun y22=>
 bind (fa 4 y7) fun y23=>
 bind (st1 y23 y22) fun _=>
 bind (ldA 2 y1) fun y24=>
 bind (ldA 5 y7) fun y25=>
 bind (Γ WG [y24,y25]) fun y26=>
 bind (stA 2 y2 y26) fun _=>
 bind (ldA 2 y2) fun y27=>
 ret (Value.tuple #[y27,(Value.int .i64 0)])))
theorem ZuO (Γ : Zc) (x0 x1 x2 : Value) : Zy Tryz.prog Γ Tryz.f81 ZlO [x0,x1,x2]=ZcD Γ x0 x1 x2:=by kernel_rfl
theorem Zse {prim : FuncId→Option (List Value→M Value)} (hp : prim Zcy=none) (n : Nat) (x0 x1 x2 : Value) : run Tryz.prog prim lvs (n+1) Zcy [x0,x1,x2]=ZcD (run Tryz.prog prim lvs n) x0 x1 x2:=
 (Zk hp (by kernel_rfl) Tryz.func81 (by kernel_rfl)).trans (ZuO _ x0 x1 x2)
noncomputable def Zb2 (Γ : Zc) (x0 x1 x2 : Value) : M Value:=
 bind (Γ WD [x0,x1,x2]) fun y1=>
 bind (bop .int .neq y1 (Value.int .i64 0)) fun y2=>
 cnd y2
 (ret y1)
 (bind (Qa x0) fun y3=>
 bind (fa 2 y3) fun y4=>
 bind (ld1 y4) fun y5=>
 bind (Γ YD [y5,x1,x2]) fun y6=>
 ret y6)
theorem ZpN (Γ : Zc) (x0 x1 x2 : Value) : Zy Tryz.prog Γ Tryz.f82 ZhZ [x0,x1,x2]=Zb2 Γ x0 x1 x2:=by kernel_rfl
theorem Zox {prim : FuncId→Option (List Value→M Value)} (hp : prim ZaD=none) (n : Nat) (x0 x1 x2 : Value) : run Tryz.prog prim lvs (n+1) ZaD [x0,x1,x2]=Zb2 (run Tryz.prog prim lvs n) x0 x1 x2:=
 (Zk hp (by kernel_rfl) Tryz.func82 (by kernel_rfl)).trans (ZpN _ x0 x1 x2)
noncomputable def ZbX (Γ : Zc) (x0 x1 x2 : Value) : M Value:=
 bind (alc 1 x0) fun y1=>
 bind (alc 1 (.agg #[.slice none 0 0,.slice none 0 0])) fun y2=>
 bind (ldA 2 y1) fun y3=>
 bind (Γ Zbe [y3,x1,x2]) fun y4=>
 bind (Zn y4 0) fun y5=>
 bind (Zn y4 1) fun y6=>
 bind (alc 1 (.agg #[.string ⟨#[]⟩,.string ⟨#[]⟩,.string ⟨#[]⟩,.bool false,.slice none 0 0])) fun y7=>
 bind (stA 5 y7 y5) fun _=>
 bind (bop .int .neq y6 (Value.int .i64 0)) fun y8=>
 cnd y8
 (bind (ldA 2 y1) fun y9=>
 bind (stA 2 y2 y9) fun _=>
 bind (ldA 2 y2) fun y10=>
 ret (Value.tuple #[y10,y6]))
 (bind (fa 4 y7) fun y11=>
 bind (ld1 y11) fun y12=>
 bind (Γ K7 [y12,x1]) fun y13=>
 bind (uop .not y13) fun y14=>
 cnd y14
 (bind (ldA 2 y1) fun y15=>
 bind (stA 2 y2 y15) fun _=>
 bind (ldA 2 y2) fun y16=>
 ret (Value.tuple #[y16,(Value.int .i64 12)]))
 (bind (fa 4 y7) fun y17=>
 bind (ld1 y17) fun y18=>
 bind (Γ ZaK [y18,x1]) fun y19=>
 bind (fa 4 y7) fun y20=>
 bind (st1 y20 y19) fun _=>
 bind (ldA 2 y1) fun y21=>
 bind (ldA 5 y7) fun y22=>
 bind (Γ WG [y21,y22]) fun y23=>
 bind (stA 2 y2 y23) fun _=>
 bind (ldA 2 y2) fun y24=>
 ret (Value.tuple #[y24,(Value.int .i64 0)])))
theorem Zr6 (Γ : Zc) (x0 x1 x2 : Value) : Zy Tryz.prog Γ Tryz.f83 Zj0 [x0,x1,x2]=ZbX Γ x0 x1 x2:=by kernel_rfl
theorem Zre {prim : FuncId→Option (List Value→M Value)} (hp : prim ZbY=none) (n : Nat) (x0 x1 x2 : Value) : run Tryz.prog prim lvs (n+1) ZbY [x0,x1,x2]=ZbX (run Tryz.prog prim lvs n) x0 x1 x2:=
 (Zk hp (by kernel_rfl) Tryz.func83 (by kernel_rfl)).trans (Zr6 _ x0 x1 x2)
noncomputable def Zbj (Γ : Zc) (x0 x1 x2 : Value) : M Value:=
 bind (Γ WD [x0,x1,x2]) fun y1=>
 bind (bop .int .neq y1 (Value.int .i64 0)) fun y2=>
 cnd y2
 (ret y1)
 (bind (Qa x0) fun y3=>
 bind (fa 2 y3) fun y4=>
 bind (ld1 y4) fun y5=>
 bind (Γ KT [y5,x1,x2]) fun y6=>
 ret y6)
theorem Zog (Γ : Zc) (x0 x1 x2 : Value) : Zy Tryz.prog Γ Tryz.f84 ZhC [x0,x1,x2]=Zbj Γ x0 x1 x2:=by kernel_rfl
theorem Zna {prim : FuncId→Option (List Value→M Value)} (hp : prim WZ=none) (n : Nat) (x0 x1 x2 : Value) : run Tryz.prog prim lvs (n+1) WZ [x0,x1,x2]=Zbj (run Tryz.prog prim lvs n) x0 x1 x2:=
 (Zk hp (by kernel_rfl) Tryz.func84 (by kernel_rfl)).trans (Zog _ x0 x1 x2)
noncomputable def ZfC (Γ : Zc) (x0 : Value) : M Value:=
 bind (Qa x0) fun y1=>
 bind (fa 0 y1) fun y2=>
 bind (ld1 y2) fun y3=>
 bind (Qa x0) fun y4=>
 bind (fa 1 y4) fun y5=>
 bind (ld1 y5) fun y6=>
 bind (Qa x0) fun y7=>
 bind (fa 2 y7) fun y8=>
 bind (ld1 y8) fun y9=>
 bind (Γ Jq [y3]) fun y10=>
 bind (ld1 y8) fun u_11=>same u_11 y9 <|
 bind (ld1 y5) fun u_12=>same u_12 y6 <|
 bind (Γ Zbn [y6]) fun y13=>
 bind (ld1 y8) fun u_14=>same u_14 y9 <|
 bind (Γ Zag [y9]) fun y15=>
 bind (bld (.agg #[.map none,.pointer none,.pointer none]) [(0,1,y10),(1,1,y13),(2,1,y15)]) fun y16=>
 bind (alc 1 y16) fun y17=>
 ret y17
theorem ZoO (Γ : Zc) (x0 : Value) : Zy Tryz.prog Γ Tryz.f85 ZhL [x0]=ZfC Γ x0:=by kernel_rfl
theorem Zoh {prim : FuncId→Option (List Value→M Value)} (hp : prim ZbT=none) (n : Nat) (x0 : Value) : run Tryz.prog prim lvs (n+1) ZbT [x0]=ZfC (run Tryz.prog prim lvs n) x0:=
 (Zk hp (by kernel_rfl) Tryz.func85 (by kernel_rfl)).trans (ZoO _ x0)
noncomputable def Zby.l1 (Γ : Zc) (s3 s10 s11 s12 : Value) : M Out:=
 bind (bop .int .lss s12 s11) fun y5=>
 cnd y5
 (bind (ixa 1 s10 s12) fun y6=>
 bind (ld1 y6) fun y7=>
 bind (Γ K1 [y7]) fun y8=>
 bind (bop .str .add s3 y8) fun y9=>
 bind (bop .int .add s12 (Value.int .i64 1)) fun y10=>
 ret (.nrm [y9,s10,s11,y10]))
 (ret (.ext 0 [s3]))
noncomputable def Zby (Γ : Zc) (x0 : Value) : M Value:=
 bind (Zw x0) fun y1=>
 bind (cvi .u64 y1) fun y2=>
 bind (Γ Zal [y2,(Value.int .i64 2)]) fun y3=>
 bind (Zw x0) fun y4=>
 jn (Zi (c4 (Zby.l1 Γ)) [y3,x0,y4,(Value.int .i64 0)]) noN (xk 0 (c1 fun q12_0=>
 ret q12_0) noX) ret
theorem ZuX (Γ : Zc) (x0 : Value) : Zy Tryz.prog Γ Tryz.f86 Znr [x0]=Zby Γ x0:=by kernel_rfl
theorem Ztn {prim : FuncId→Option (List Value→M Value)} (hp : prim Zdp=none) (n : Nat) (x0 : Value) : run Tryz.prog prim lvs (n+1) Zdp [x0]=Zby (run Tryz.prog prim lvs n) x0:=
 (Zk hp (by kernel_rfl) Tryz.func86 (by kernel_rfl)).trans (ZuX _ x0)
noncomputable def WS.l1 (Γ : Zc) (s0 s5 s12 s13 s14 : Value) : M Out:=
 bind (bop .int .lss s14 s13) fun y5=>
 cnd y5
 (bind (ixa 5 s12 s14) fun y6=>
 bind (ldA 5 y6) fun y7=>
 bind (alc 1 (.agg #[.string ⟨#[]⟩,.string ⟨#[]⟩,.string ⟨#[]⟩,.bool false,.slice none 0 0])) fun y8=>
 bind (stA 5 y8 y7) fun _=>
 bind (ldA 5 y8) fun y9=>
 bind (Γ ZfI [s0,y9]) fun y10=>
 bind (bop .str .add s5 y10) fun y11=>
 bind (bop .int .add s14 (Value.int .i64 1)) fun y12=>
 ret (.nrm [s0,y11,s12,s13,y12]))
 (ret (.ext 0 [s5]))
noncomputable def WS (Γ : Zc) (x0 x1 : Value) : M Value:=
 bind (Zw x1) fun y1=>
 bind (cvi .u64 y1) fun y2=>
 bind (Γ Zal [y2,(Value.int .i64 2)]) fun y3=>
 bind (Zw x1) fun y4=>
 jn (Zi (c5 (WS.l1 Γ)) [x0,y3,x1,y4,(Value.int .i64 0)]) noN (xk 0 (c1 fun q14_0=>
 ret q14_0) noX) ret
theorem ZsE (Γ : Zc) (x0 x1 : Value) : Zy Tryz.prog Γ Tryz.f87 ZjX [x0,x1]=WS Γ x0 x1:=by kernel_rfl
theorem ZqI {prim : FuncId→Option (List Value→M Value)} (hp : prim ZeF=none) (n : Nat) (x0 x1 : Value) : run Tryz.prog prim lvs (n+1) ZeF [x0,x1]=WS (run Tryz.prog prim lvs n) x0 x1:=
 (Zk hp (by kernel_rfl) Tryz.func87 (by kernel_rfl)).trans (ZsE _ x0 x1)
noncomputable def ZeQ (Γ : Zc) (x0 : Value) : M Value:=
 bind (bop .slc .eql x0 (Value.slice none 0 0)) fun y1=>
 cnd y1
 (ret (Value.slice none 0 0))
 (bind (bsl 1 0 (.int .u8 0) []) fun y2=>
 bind (app 1 1 y2 x0) fun y3=>
 ret y3)
theorem Zsw (Γ : Zc) (x0 : Value) : Zy Tryz.prog Γ Tryz.f88 Zkf [x0]=ZeQ Γ x0:=by kernel_rfl
theorem ZqO {prim : FuncId→Option (List Value→M Value)} (hp : prim Zdi=none) (n : Nat) (x0 : Value) : run Tryz.prog prim lvs (n+1) Zdi [x0]=ZeQ (run Tryz.prog prim lvs n) x0:=
 (Zk hp (by kernel_rfl) Tryz.func88 (by kernel_rfl)).trans (Zsw _ x0)
noncomputable def ZpQ.l1 (Γ : Zc) (s4 s7 s29 s30 : Value) : M Out:=
 bind (bop .int .lss s30 s29) fun y13=>
 cnd y13
 (bind (Γ Zdh [s4,(Value.int .i64 1)]) fun y14=>
 bind (bsl 5 1 (.agg #[.string ⟨#[]⟩,.string ⟨#[]⟩,.string ⟨#[]⟩,.bool false,.slice none 0 0]) [(0,5,y14)]) fun y15=>
 bind (app 5 80 s7 y15) fun y16=>
 bind (bop .int .add s30 (Value.int .i64 1)) fun y17=>
 ret (.nrm [s4,y16,s29,y17]))
 (ret (.ext 0 [s4,s7]))
noncomputable def ZpQ (Γ : Zc) (x0 : Value) : M Value:=
 bind (Γ Zet [x0]) fun y1=>
 bind (Γ Kj [y1]) fun y2=>
 bind (Γ QK [y1]) fun y3=>
 bind (bop .int .eql y3 (Value.int .i64 0)) fun y4=>
 bind (ZJ y4 true 2 (bind (bop .int .neq y2 (Value.int .u8 1)) fun y5=>
 ret [y2,y5])) (c2 fun _ q6_1=>
 bind (pick y4 q6_1 (Value.bool false)) fun y7=>
 cnd y7
 (ret (Value.tuple #[(Value.pointer none),(Value.int .i64 6)]))
 (bind (Γ KM [y1]) fun y8=>
 bind (cvi .i64 y8) fun y9=>
 bind (bop .int .gtr y9 (Value.int .i64 12)) fun y10=>
 jn (cnd y10
 (bind (Γ Z5 [y1,(Value.int .i64 7)]) fun y11=>
 ret (.nrm [y1,(Value.int .i64 0)]))
 (ret (.nrm [y1,y9]))) (c2 fun q12_0 q12_1=>
 jn (Zi (c4 (ZpQ.l1 Γ)) [q12_0,(Value.slice none 0 0),q12_1,(Value.int .i64 0)]) noN (xk 0 (c2 fun q19_0 q19_1=>
 bind (Γ QK [q19_0]) fun y20=>
 bind (bop .int .neq y20 (Value.int .i64 0)) fun y21=>
 cnd y21
 (ret (Value.tuple #[(Value.pointer none),y20]))
 (bind (Γ Zyg [q19_1]) fun y22=>
 bind (Zn y22 0) fun y23=>
 bind (Zn y22 1) fun y24=>
 bind (bop .int .eql y24 (Value.int .i64 0)) fun y25=>
 jn (cnd y25
 (bind (Γ KI [q19_0]) fun y26=>
 ret (.nrm [y23,y26]))
 (ret (.nrm [y23,y24]))) (c2 fun q27_0 q27_1=>
 bind (bop .int .neq q27_1 (Value.int .i64 0)) fun y28=>
 cnd y28
 (ret (Value.tuple #[(Value.pointer none),q27_1]))
 (ret (Value.tuple #[q27_0,(Value.int .i64 0)]))) noX ret)) noX) ret) noX ret))
noncomputable def ZrC.l1 (Γ : Zc) (s2 s3 s6 s7 s8 : Value) : M Out:=
 bind (bop .int .lss s8 s7) fun y3=>
 cnd y3
 (bind (ixa 5 s6 s8) fun y4=>
 bind (ldA 5 y4) fun y5=>
 bind (alc 1 (.agg #[.string ⟨#[]⟩,.string ⟨#[]⟩,.string ⟨#[]⟩,.bool false,.slice none 0 0])) fun y6=>
 bind (stA 5 y6 y5) fun _=>
 bind (fa 0 y6) fun y7=>
 bind (ld1 y7) fun y8=>
 bind (fa 1 y6) fun y9=>
 bind (ld1 y9) fun y10=>
 bind (bld (.agg #[.string ⟨#[]⟩,.string ⟨#[]⟩,.string ⟨#[]⟩,.bool false,.slice none 0 0]) [(0,1,y8),(1,1,y10)]) fun y11=>
 bind (bsl 5 1 (.agg #[.string ⟨#[]⟩,.string ⟨#[]⟩,.string ⟨#[]⟩,.bool false,.slice none 0 0]) [(0,5,y11)]) fun y12=>
 bind (app 5 80 s3 y12) fun y13=>
 bind (bop .int .add s8 (Value.int .i64 1)) fun y14=>
 ret (.nrm [s2,y13,s6,s7,y14]))
 (ret (.ext 0 [s2,s3]))
noncomputable def ZrC (Γ : Zc) (x0 : Value) : M Value:=
 bind (alc 1 (.agg #[.slice none 0 0,.slice none 0 0])) fun y1=>
 bind (Zw x0) fun y2=>
 jn (Zi (c5 (ZrC.l1 Γ)) [y1,(Value.slice none 0 0),x0,y2,(Value.int .i64 0)]) noN (xk 0 (c2 fun q16_0 q16_1=>
 bind (bld (.agg #[.slice none 0 0,.slice none 0 0]) [(0,1,q16_1)]) fun y17=>
 bind (stA 2 q16_0 y17) fun _=>
 bind (ldA 2 q16_0) fun y18=>
 ret y18) noX) ret
noncomputable def Zmc.l1 (Γ : Zc) (s5 s10 s11 s12 : Value) : M Out:=
 bind (bop .int .lss s12 s11) fun y3=>
 cnd y3
 (bind (ixa 1 s10 s12) fun y4=>
 bind (ld1 y4) fun y5=>
 bind (bop .int .eql s5 (Value.int .i64 0)) fun y6=>
 jn (cnd y6
 (bind (Jn Γ y5 []) fun y7=>
 ret (.nrm [y7,s10,s11,s12]))
 (ret (.nrm [s5,s10,s11,s12]))) (c4 fun q8_0 q8_1 q8_2 q8_3=>
 bind (bop .int .add q8_3 (Value.int .i64 1)) fun y9=>
 ret (.nrm [q8_0,q8_1,q8_2,y9])) noX ZW)
 (ret (.ext 0 [s5]))
noncomputable def Zmc (Γ : Zc) (x0 x1 : Value) : M Value:=
 bind (Γ Q9 [x0]) fun y1=>
 bind (Zw x1) fun y2=>
 jn (Zi (c4 (Zmc.l1 Γ)) [y1,x1,y2,(Value.int .i64 0)]) noN (xk 0 (c1 fun q12_0=>
 ret q12_0) noX) ret
noncomputable def ZaH (Γ : Zc) (x0 x1 : Value) : M Value:=
 bind (alc 1 (.agg #[.string ⟨#[]⟩,.bool false])) fun y1=>
 bind (Γ Q9 [x1]) fun y2=>
 bind (bop .int .neq y2 (Value.int .i64 0)) fun y3=>
 cnd y3
 (bind (bld (.agg #[.string ⟨#[]⟩,.bool false]) []) fun y4=>
 bind (stA 2 y1 y4) fun _=>
 bind (ldA 2 y1) fun y5=>
 ret (Value.tuple #[y5,y2]))
 (bind (Qa x0) fun y6=>
 bind (fa 0 y6) fun y7=>
 bind (ld1 y7) fun y8=>
 bind (lkp .str (.agg #[.string ⟨#[]⟩,.bool false]) true y8 x1) fun y9=>
 bind (Zn y9 0) fun y10=>
 bind (Zn y9 1) fun y11=>
 bind (alc 1 (.agg #[.string ⟨#[]⟩,.bool false])) fun y12=>
 bind (stA 2 y12 y10) fun _=>
 bind (uop .not y11) fun y13=>
 cnd y13
 (bind (bld (.agg #[.string ⟨#[]⟩,.bool false]) []) fun y14=>
 bind (stA 2 y1 y14) fun _=>
 bind (ldA 2 y1) fun y15=>
 ret (Value.tuple #[y15,(Value.int .i64 8)]))
 (bind (ldA 2 y12) fun y16=>
 bind (stA 2 y1 y16) fun _=>
 bind (ldA 2 y1) fun y17=>
 ret (Value.tuple #[y17,(Value.int .i64 0)])))
theorem Zo9 (Γ : Zc) (x0 x1 : Value) : Zy Tryz.prog Γ Tryz.f99 Zh3 [x0,x1]=ZaH Γ x0 x1:=by kernel_rfl
theorem Zoq {prim : FuncId→Option (List Value→M Value)} (hp : prim QT=none) (n : Nat) (x0 x1 : Value) : run Tryz.prog prim lvs (n+1) QT [x0,x1]=ZaH (run Tryz.prog prim lvs n) x0 x1:=
 (Zk hp (by kernel_rfl) Tryz.func99 (by kernel_rfl)).trans (Zo9 _ x0 x1)
noncomputable def Zgo (Γ : Zc) (x0 x1 : Value) : M Value:=
 bind (Qa x0) fun y1=>
 bind (fa 1 y1) fun y2=>
 bind (ld1 y2) fun y3=>
 bind (lkp .str (.string ⟨#[]⟩) true y3 x1) fun y4=>
 bind (Zn y4 0) fun y5=>
 bind (Zn y4 1) fun y6=>
 ret (Value.tuple #[y5,y6])
theorem ZqK (Γ : Zc) (x0 x1 : Value) : Zy Tryz.prog Γ Tryz.f100 ZiP [x0,x1]=Zgo Γ x0 x1:=by kernel_rfl
theorem Zqb {prim : FuncId→Option (List Value→M Value)} (hp : prim Zcp=none) (n : Nat) (x0 x1 : Value) : run Tryz.prog prim lvs (n+1) Zcp [x0,x1]=Zgo (run Tryz.prog prim lvs n) x0 x1:=
 (Zk hp (by kernel_rfl) Tryz.func100 (by kernel_rfl)).trans (ZqK _ x0 x1)
noncomputable def ZeV (Γ : Zc) (x0 x1 : Value) : M Value:=
 bind (alc 1 x0) fun y1=>
 bind (alc 1 x1) fun y2=>
 bind (ld1 y1) fun y3=>
 bind (Γ KE [y3]) fun y4=>
 bind (Γ Ja [y4,(Value.func (.func 166) #[] #[y1,y2])]) fun y5=>
 ret y5
theorem ZnR (Γ : Zc) (x0 x1 : Value) : Zy Tryz.prog Γ Tryz.f101 Zhv [x0,x1]=ZeV Γ x0 x1:=by kernel_rfl
theorem Zm2 {prim : FuncId→Option (List Value→M Value)} (hp : prim JT=none) (n : Nat) (x0 x1 : Value) : run Tryz.prog prim lvs (n+1) JT [x0,x1]=ZeV (run Tryz.prog prim lvs n) x0 x1:=
 (Zk hp (by kernel_rfl) Tryz.func101 (by kernel_rfl)).trans (ZnR _ x0 x1)
noncomputable def ZZ.l1 (Γ : Zc) (s0 s1 s5 s6 : Value) : M Out:=
 bind (Zw s0) fun y4=>
 bind (bop .int .lss s6 y4) fun y5=>
 cnd y5
 (bind (ixa 1 s0 s6) fun y6=>
 bind (ld1 y6) fun y7=>
 bind (Jn Γ s1 [y7]) fun y8=>
 bind (uop .not y8) fun y9=>
 jn (cnd y9
 (bind (ixa 1 s0 s5) fun y10=>
 bind (st1 y10 y7) fun _=>
 bind (bop .int .add s5 (Value.int .i64 1)) fun y11=>
 ret (.nrm [s0,s1,y11,s6]))
 (ret (.nrm [s0,s1,s5,s6]))) (c4 fun q12_0 q12_1 q12_2 q12_3=>
 bind (bop .int .add q12_3 (Value.int .i64 1)) fun y13=>
 ret (.nrm [q12_0,q12_1,q12_2,y13])) noX ZW)
 (ret (.ext 0 [s0,s5]))
noncomputable def ZZ (Γ : Zc) (x0 x1 : Value) : M Value:=
 bind (Γ Ya [x0,x1]) fun y1=>
 bind (bop .int .eql y1 (Value.int .i64 (-1))) fun y2=>
 cnd y2
 (ret x0)
 (bind (bop .int .add y1 (Value.int .i64 1)) fun y3=>
 jn (Zi (c4 (ZZ.l1 Γ)) [x0,x1,y1,y3]) noN (xk 0 (c2 fun q16_0 q16_1=>
 bind (slv 1 q16_0 (some q16_1) none none) fun y17=>
 bind (clr (.string ⟨#[]⟩) 1 y17) fun _=>
 bind (slv 1 q16_0 none (some q16_1) none) fun y18=>
 ret y18) noX) ret)
theorem Zex (Γ : Zc) (x0 x1 : Value) : Zy Tryz.prog Γ Tryz.f103 Za4 [x0,x1]=ZZ Γ x0 x1:=by kernel_rfl
theorem Zd4 {prim : FuncId→Option (List Value→M Value)} (hp : prim Ja=none) (n : Nat) (x0 x1 : Value) : run Tryz.prog prim lvs (n+1) Ja [x0,x1]=ZZ (run Tryz.prog prim lvs n) x0 x1:=
 (Zk hp (by kernel_rfl) Tryz.func103 (by kernel_rfl)).trans (Zex _ x0 x1)
noncomputable def ZeL (Γ : Zc) (x0 : Value) : M Value:=
 bind (Qa x0) fun y1=>
 bind (fa 0 y1) fun y2=>
 bind (ld1 y2) fun y3=>
 bind (Γ QF [y3]) fun y4=>
 bind (Γ Yj [y4,(Value.func (.func 172) #[] #[])]) fun y5=>
 ret y5
theorem Zow (Γ : Zc) (x0 : Value) : Zy Tryz.prog Γ Tryz.f107 ZhB [x0]=ZeL Γ x0:=by kernel_rfl
theorem ZmT {prim : FuncId→Option (List Value→M Value)} (hp : prim Zbr=none) (n : Nat) (x0 : Value) : run Tryz.prog prim lvs (n+1) Zbr [x0]=ZeL (run Tryz.prog prim lvs n) x0:=
 (Zk hp (by kernel_rfl) Tryz.func107 (by kernel_rfl)).trans (Zow _ x0)
noncomputable def ZkS (Γ : Zc) : M Value:=
 bind (mkm) fun y1=>
 bind (mkm) fun y2=>
 bind (bld (.agg #[.map none,.map none]) [(0,1,y1),(1,1,y2)]) fun y3=>
 bind (alc 1 y3) fun y4=>
 ret y4
theorem ZwL (Γ : Zc) : Zy Tryz.prog Γ Tryz.f109 Zp0 []=ZkS Γ :=by kernel_rfl
theorem Zvo {prim : FuncId→Option (List Value→M Value)} (hp : prim Zh2=none) (n : Nat) : run Tryz.prog prim lvs (n+1) Zh2 []=ZkS (run Tryz.prog prim lvs n) :=
 (Zk hp (by kernel_rfl) Tryz.func109 (by kernel_rfl)).trans (ZwL _ )
noncomputable def ZjP (Γ : Zc) : M Value:=
 bind (mkm) fun y1=>
 bind (bld (.agg #[.map none]) [(0,1,y1)]) fun y2=>
 bind (alc 1 y2) fun y3=>
 ret y3
theorem ZvC (Γ : Zc) : Zy Tryz.prog Γ Tryz.f110 Znn []=ZjP Γ :=by kernel_rfl
theorem Zti {prim : FuncId→Option (List Value→M Value)} (hp : prim ZgR=none) (n : Nat) : run Tryz.prog prim lvs (n+1) ZgR []=ZjP (run Tryz.prog prim lvs n) :=
 (Zk hp (by kernel_rfl) Tryz.func110 (by kernel_rfl)).trans (ZvC _ )
noncomputable def ZhM.l1 (Γ : Zc) (s0 s4 s11 s12 s13 : Value) : M Out:=
 bind (bop .int .lss s13 s12) fun y3=>
 cnd y3
 (bind (ixa 5 s11 s13) fun y4=>
 bind (ldA 5 y4) fun y5=>
 bind (alc 1 (.agg #[.string ⟨#[]⟩,.string ⟨#[]⟩,.string ⟨#[]⟩,.bool false,.slice none 0 0])) fun y6=>
 bind (stA 5 y6 y5) fun _=>
 bind (ldA 5 y6) fun y7=>
 bind (Γ WK [(Value.int .i64 1),y7]) fun y8=>
 bind (bop .int .neq y8 (Value.int .i64 0)) fun y9=>
 cnd y9
 (ret (.ret (Value.tuple #[(Value.pointer none),y8])))
 (bind (bop .int .add s13 (Value.int .i64 1)) fun y10=>
 ret (.nrm [s0,s4,s11,s12,y10])))
 (ret (.ext 0 [s0,s4]))
noncomputable def ZhM.l2 (Γ : Zc) (s0 s4 s23 s24 s25 : Value) : M Out:=
 bind (bop .int .lss s25 s24) fun y14=>
 cnd y14
 (bind (ixa 5 s23 s25) fun y15=>
 bind (ldA 5 y15) fun y16=>
 bind (alc 1 (.agg #[.string ⟨#[]⟩,.string ⟨#[]⟩,.string ⟨#[]⟩,.bool false,.slice none 0 0])) fun y17=>
 bind (stA 5 y17 y16) fun _=>
 bind (bop .int .gtr s25 (Value.int .i64 0)) fun y18=>
 bind (Zg y18 true (ret s0)) fun y19=>
 bind (Zg y18 true (ret s25)) fun y20=>
 bind (Zg y18 true (bop .int .sub y20 (Value.int .i64 1))) fun y21=>
 bind (Zg y18 true (ixa 5 y19 y21)) fun y22=>
 bind (Zg y18 true (fa 0 y22)) fun y23=>
 bind (Zg y18 true (ld1 y23)) fun y24=>
 bind (Zg y18 true (fa 0 y17)) fun y25=>
 bind (Zg y18 true (ld1 y25)) fun y26=>
 bind (Zg y18 true (Γ JR [y24,y26])) fun y27=>
 bind (Zg y18 true (bop .int .geq y27 (Value.int .i64 0))) fun y28=>
 bind (pick y18 y28 (Value.bool false)) fun y29=>
 cnd y29
 (ret (.ret (Value.tuple #[(Value.pointer none),(Value.int .i64 9)])))
 (bind (Qa s4) fun y30=>
 bind (fa 0 y30) fun y31=>
 bind (ld1 y31) fun y32=>
 bind (fa 0 y17) fun y33=>
 bind (ld1 y33) fun y34=>
 bind (fa 1 y17) fun y35=>
 bind (ld1 y35) fun y36=>
 bind (mup .str y32 y34 y36) fun _=>
 bind (bop .int .add s25 (Value.int .i64 1)) fun y37=>
 ret (.nrm [s0,s4,s23,s24,y37])))
 (ret (.ext 2 [s0,s4]))
noncomputable def ZhM (Γ : Zc) (x0 : Value) : M Value:=
 bind (Γ ZoU []) fun y1=>
 bind (Zw x0) fun y2=>
 jn (Zi (c5 (ZhM.l1 Γ)) [x0,y1,x0,y2,(Value.int .i64 0)]) noN (xk 0 (c2 fun q12_0 q12_1=>
 bind (Zw q12_0) fun y13=>
 jn (Zi (c5 (ZhM.l2 Γ)) [q12_0,q12_1,q12_0,y13,(Value.int .i64 0)]) noN (xk 2 (c2 fun q39_0 q39_1=>
 bind (Zw q39_0) fun y40=>
 bind (bop .int .gtr y40 (Value.int .i64 12)) fun y41=>
 cnd y41
 (ret (Value.tuple #[(Value.pointer none),(Value.int .i64 7)]))
 (ret (Value.tuple #[q39_1,(Value.int .i64 0)]))) noX) ret) noX) ret
noncomputable def K0.l1 (Γ : Zc) (s2 s3 s43 s44 : Value) : M Out:=
 bind (bop .int .lss s44 s43) fun y41=>
 cnd y41
 (bind (fa 4 s2) fun y42=>
 bind (ld1 y42) fun y43=>
 bind (ixa 1 y43 s44) fun y44=>
 bind (ld1 y44) fun y45=>
 bind (fa 4 s3) fun y46=>
 bind (ld1 y46) fun y47=>
 bind (ixa 1 y47 s44) fun y48=>
 bind (ld1 y48) fun y49=>
 bind (bop .str .neq y45 y49) fun y50=>
 cnd y50
 (ret (.ret (Value.bool false)))
 (bind (bop .int .add s44 (Value.int .i64 1)) fun y51=>
 ret (.nrm [s2,s3,s43,y51])))
 (ret (.ext 0 []))
noncomputable def K0 (Γ : Zc) (x0 x1 : Value) : M Value:=
 bind (alc 1 x0) fun y1=>
 bind (alc 1 x1) fun y2=>
 bind (fa 0 y1) fun y3=>
 bind (ld1 y3) fun y4=>
 bind (fa 0 y2) fun y5=>
 bind (ld1 y5) fun y6=>
 bind (bop .str .neq y4 y6) fun y7=>
 bind (ZJ y7 false 5 (bind (fa 1 y1) fun y8=>
 bind (ld1 y8) fun y9=>
 bind (fa 1 y2) fun y10=>
 bind (ld1 y10) fun y11=>
 bind (bop .str .neq y9 y11) fun y12=>
 ret [y8,y9,y10,y11,y12])) (c5 fun _ _ _ _ q13_4=>
 bind (pick y7 (Value.bool true) q13_4) fun y14=>
 bind (ZJ y14 false 5 (bind (fa 2 y1) fun y15=>
 bind (ld1 y15) fun y16=>
 bind (fa 2 y2) fun y17=>
 bind (ld1 y17) fun y18=>
 bind (bop .str .neq y16 y18) fun y19=>
 ret [y15,y16,y17,y18,y19])) (c5 fun _ _ _ _ q20_4=>
 bind (pick y14 (Value.bool true) q20_4) fun y21=>
 bind (ZJ y21 false 5 (bind (fa 3 y1) fun y22=>
 bind (ld1 y22) fun y23=>
 bind (fa 3 y2) fun y24=>
 bind (ld1 y24) fun y25=>
 bind (bop .bool .neq y23 y25) fun y26=>
 ret [y22,y23,y24,y25,y26])) (c5 fun _ _ _ _ q27_4=>
 bind (pick y21 (Value.bool true) q27_4) fun y28=>
 bind (ZJ y28 false 7 (bind (fa 4 y1) fun y29=>
 bind (ld1 y29) fun y30=>
 bind (Zw y30) fun y31=>
 bind (fa 4 y2) fun y32=>
 bind (ld1 y32) fun y33=>
 bind (Zw y33) fun y34=>
 bind (bop .int .neq y31 y34) fun y35=>
 ret [y29,y30,y31,y32,y33,y34,y35])) (c7 fun _ _ _ _ _ _ q36_6=>
 bind (pick y28 (Value.bool true) q36_6) fun y37=>
 cnd y37
 (ret (Value.bool false))
 (bind (fa 4 y1) fun y38=>
 bind (ld1 y38) fun y39=>
 bind (Zw y39) fun y40=>
 jn (Zi (c4 (K0.l1 Γ)) [y1,y2,y40,(Value.int .i64 0)]) noN (xk 0 (c0 (ret (Value.bool true))) noX) ret)))))
theorem ZsW (Γ : Zc) (x0 x1 : Value) : Zy Tryz.prog Γ Tryz.f112 ZlD [x0,x1]=K0 Γ x0 x1:=by kernel_rfl
theorem ZsD {prim : FuncId→Option (List Value→M Value)} (hp : prim ZfM=none) (n : Nat) (x0 x1 : Value) : run Tryz.prog prim lvs (n+1) ZfM [x0,x1]=K0 (run Tryz.prog prim lvs n) x0 x1:=
 (Zk hp (by kernel_rfl) Tryz.func112 (by kernel_rfl)).trans (ZsW _ x0 x1)
noncomputable def ZcC (Γ : Zc) (x0 x1 : Value) : M Value:=
 bind (alc 1 x1) fun y1=>
 bind (bop .int .neq x0 (Value.int .i64 1)) fun y2=>
 bind (ZJ y2 true 2 (bind (bop .int .neq x0 (Value.int .i64 2)) fun y3=>
 ret [x0,y3])) (c2 fun _ q4_1=>
 bind (pick y2 q4_1 (Value.bool false)) fun y5=>
 cnd y5
 (ret (Value.int .i64 6))
 (bind (fa 0 y1) fun y6=>
 bind (ld1 y6) fun y7=>
 bind (fa 1 y1) fun y8=>
 bind (ld1 y8) fun y9=>
 bind (Γ Q9 [y7]) fun y10=>
 bind (ld1 y8) fun u_11=>same u_11 y9 <|
 bind (Γ Zbm [y9]) fun y12=>
 bind (bsl 1 2 (.int .i64 0) [(0,1,y10),(1,1,y12)]) fun y13=>
 bind (Γ ZbE [y13]) fun y14=>
 bind (bop .int .neq y14 (Value.int .i64 0)) fun y15=>
 cnd y15
 (ret y14)
 (bind (bop .int .eql x0 (Value.int .i64 2)) fun y16=>
 cnd y16
 (bind (fa 2 y1) fun y17=>
 bind (ld1 y17) fun y18=>
 bind (fa 4 y1) fun y19=>
 bind (ld1 y19) fun y20=>
 bind (Γ ZeW [y18]) fun y21=>
 bind (ld1 y19) fun u_22=>same u_22 y20 <|
 bind (Γ Zdj [y20]) fun y23=>
 bind (bsl 1 2 (.int .i64 0) [(0,1,y21),(1,1,y23)]) fun y24=>
 bind (Γ ZbE [y24]) fun y25=>
 ret y25)
 (bind (fa 2 y1) fun y26=>
 bind (ld1 y26) fun y27=>
 bind (bop .str .neq y27 (Value.string ⟨#[]⟩)) fun y28=>
 bind (ZJ y28 false 2 (bind (fa 3 y1) fun y29=>
 bind (ld1 y29) fun y30=>
 ret [y29,y30])) (c2 fun _ q31_1=>
 bind (pick y28 (Value.bool true) q31_1) fun y32=>
 bind (ZJ y32 false 4 (bind (fa 4 y1) fun y33=>
 bind (ld1 y33) fun y34=>
 bind (Zw y34) fun y35=>
 bind (bop .int .gtr y35 (Value.int .i64 0)) fun y36=>
 ret [y33,y34,y35,y36])) (c4 fun _ _ _ q37_3=>
 bind (pick y32 (Value.bool true) q37_3) fun y38=>
 cnd y38
 (ret (Value.int .i64 12))
 (ret (Value.int .i64 0))))))))
theorem Ztp (Γ : Zc) (x0 x1 : Value) : Zy Tryz.prog Γ Tryz.f113 Zl0 [x0,x1]=ZcC Γ x0 x1:=by kernel_rfl
theorem ZrY {prim : FuncId→Option (List Value→M Value)} (hp : prim WK=none) (n : Nat) (x0 x1 : Value) : run Tryz.prog prim lvs (n+1) WK [x0,x1]=ZcC (run Tryz.prog prim lvs n) x0 x1:=
 (Zk hp (by kernel_rfl) Tryz.func113 (by kernel_rfl)).trans (Ztp _ x0 x1)
noncomputable def WJ.l1 (Γ : Zc) (s0 s1 s5 : Value) : M Out:=
 bind (Zw s0) fun y1=>
 bind (bop .int .lss s5 y1) fun y2=>
 cnd y2
 (bind (bop .int .sub s5 (Value.int .i64 1)) fun y3=>
 bind (ixa 1 s0 y3) fun y4=>
 bind (ld1 y4) fun y5=>
 bind (ixa 1 s0 s5) fun y6=>
 bind (ld1 y6) fun y7=>
 bind (Γ JR [y5,y7]) fun y8=>
 bind (bop .int .geq y8 (Value.int .i64 0)) fun y9=>
 cnd y9
 (ret (.ret (Value.int .i64 9)))
 (bind (bop .int .add s5 (Value.int .i64 1)) fun y10=>
 ret (.nrm [s0,s1,y10])))
 (ret (.ext 0 [s0,s1]))
noncomputable def WJ (Γ : Zc) (x0 x1 : Value) : M Value:=
 jn (Zi (c3 (WJ.l1 Γ)) [x0,x1,(Value.int .i64 1)]) noN (xk 0 (c2 fun q12_0 q12_1=>
 bind (Zw q12_0) fun y13=>
 bind (bop .int .gtr y13 q12_1) fun y14=>
 cnd y14
 (ret (Value.int .i64 7))
 (ret (Value.int .i64 0))) noX) ret
theorem Zt5 (Γ : Zc) (x0 x1 : Value) : Zy Tryz.prog Γ Tryz.f114 ZkN [x0,x1]=WJ Γ x0 x1:=by kernel_rfl
theorem Zsd {prim : FuncId→Option (List Value→M Value)} (hp : prim KX=none) (n : Nat) (x0 x1 : Value) : run Tryz.prog prim lvs (n+1) KX [x0,x1]=WJ (run Tryz.prog prim lvs n) x0 x1:=
 (Zk hp (by kernel_rfl) Tryz.func114 (by kernel_rfl)).trans (Zt5 _ x0 x1)
noncomputable def Zjr (Γ : Zc) (x0 : Value) : M Value:=
 bind (Γ ZaQ [x0]) fun y1=>
 bind (uop .not y1) fun y2=>
 cnd y2
 (ret (Value.int .i64 10))
 (ret (Value.int .i64 0))
theorem Zvj (Γ : Zc) (x0 : Value) : Zy Tryz.prog Γ Tryz.f115 ZnL [x0]=Zjr Γ x0:=by kernel_rfl
theorem Ztf {prim : FuncId→Option (List Value→M Value)} (hp : prim Q9=none) (n : Nat) (x0 : Value) : run Tryz.prog prim lvs (n+1) Q9 [x0]=Zjr (run Tryz.prog prim lvs n) x0:=
 (Zk hp (by kernel_rfl) Tryz.func115 (by kernel_rfl)).trans (Zvj _ x0)
noncomputable def ZdF (Γ : Zc) (x0 x1 x2 : Value) : M Value:=
 bind (bsl 1 1 (.string ⟨#[]⟩) [(0,1,x1)]) fun y1=>
 bind (app 1 16 y1 x2) fun y2=>
 bind (Γ ZaW [y2]) fun y3=>
 bind (bop .int .neq y3 (Value.int .i64 0)) fun y4=>
 cnd y4
 (ret (Value.tuple #[(Value.map none),y3]))
 (bind (Qa x0) fun y5=>
 bind (fa 0 y5) fun y6=>
 bind (ld1 y6) fun y7=>
 bind (lkp .str (.map none) true y7 x1) fun y8=>
 bind (Zn y8 0) fun y9=>
 bind (Zn y8 1) fun y10=>
 bind (uop .not y10) fun y11=>
 cnd y11
 (ret (Value.tuple #[(Value.map none),(Value.int .i64 8)]))
 (ret (Value.tuple #[y9,(Value.int .i64 0)])))
theorem ZlY (Γ : Zc) (x0 x1 x2 : Value) : Zy Tryz.prog Γ Tryz.f116 ZfQ [x0,x1,x2]=ZdF Γ x0 x1 x2:=by kernel_rfl
theorem Zky {prim : FuncId→Option (List Value→M Value)} (hp : prim Ye=none) (n : Nat) (x0 x1 x2 : Value) : run Tryz.prog prim lvs (n+1) Ye [x0,x1,x2]=ZdF (run Tryz.prog prim lvs n) x0 x1 x2:=
 (Zk hp (by kernel_rfl) Tryz.func116 (by kernel_rfl)).trans (ZlY _ x0 x1 x2)
noncomputable def Zbi (Γ : Zc) (x0 x1 : Value) : M Value:=
 bind (Qa x0) fun y1=>
 bind (fa 1 y1) fun y2=>
 bind (ld1 y2) fun y3=>
 bind (lkp .str (.string ⟨#[]⟩) true y3 x1) fun y4=>
 bind (Zn y4 0) fun y5=>
 bind (Zn y4 1) fun y6=>
 jn (cnd y6
 (bind (Qa x0) fun y7=>
 bind (fa 0 y7) fun y8=>
 bind (ld1 y8) fun y9=>
 bind (mde .str y9 y5) fun _=>
 bind (Qa x0) fun y10=>
 bind (fa 1 y10) fun y11=>
 bind (ld1 y11) fun y12=>
 bind (mde .str y12 x1) fun _=>
 ret (.nrm [y6]))
 (ret (.nrm [y6]))) (c1 fun q13_0=>
 ret q13_0) noX ret
theorem ZnW (Γ : Zc) (x0 x1 : Value) : Zy Tryz.prog Γ Tryz.f117 Zhy [x0,x1]=Zbi Γ x0 x1:=by kernel_rfl
theorem ZmO {prim : FuncId→Option (List Value→M Value)} (hp : prim Jv=none) (n : Nat) (x0 x1 : Value) : run Tryz.prog prim lvs (n+1) Jv [x0,x1]=Zbi (run Tryz.prog prim lvs n) x0 x1:=
 (Zk hp (by kernel_rfl) Tryz.func117 (by kernel_rfl)).trans (ZnW _ x0 x1)
noncomputable def KA.l1 (Γ : Zc) (s0 s35 s36 s37 : Value) : M Out:=
 bind (bop .int .lss s37 s36) fun y19=>
 cnd y19
 (bind (ixa 1 s35 s37) fun y20=>
 bind (ld1 y20) fun y21=>
 bind (bop .str .eql y21 (Value.string ⟨#[]⟩)) fun y22=>
 bind (ZJ y22 false 3 (bind (Γ Wp [y21,(Value.func (.func 183) #[] #[])]) fun y23=>
 bind (uop .not y23) fun y24=>
 ret [y21,y23,y24])) (c3 fun _ _ q25_2=>
 bind (pick y22 (Value.bool true) q25_2) fun y26=>
 cnd y26
 (ret (.ret (Value.tuple #[(Value.string ⟨#[]⟩),(Value.int .i64 11)])))
 (bind (bop .int .add s37 (Value.int .i64 1)) fun y27=>
 ret (.nrm [s0,s35,s36,y27]))))
 (ret (.ext 0 [s0]))
noncomputable def KA (Γ : Zc) (x0 : Value) : M Value:=
 bind (JI x0) fun y1=>
 bind (bop .int .gtr y1 (Value.int .i64 20)) fun y2=>
 cnd y2
 (ret (Value.tuple #[(Value.string ⟨#[]⟩),(Value.int .i64 11)]))
 (bind (Γ ZeD [x0]) fun y3=>
 bind (Γ ZaY [y3,(Value.string ⟨#[64]⟩)]) fun y4=>
 bind (Zn y4 0) fun y5=>
 bind (Zn y4 1) fun y6=>
 bind (Zn y4 2) fun y7=>
 bind (Γ ZbS [y6,(Value.string ⟨#[46]⟩)]) fun y8=>
 bind (uop .not y7) fun y9=>
 bind (ZJ y9 false 3 (bind (Γ ZaQ [y5]) fun y10=>
 bind (uop .not y10) fun y11=>
 ret [y5,y10,y11])) (c3 fun _ _ q12_2=>
 bind (pick y9 (Value.bool true) q12_2) fun y13=>
 bind (ZJ y13 false 3 (bind (Zw y8) fun y14=>
 bind (bop .int .lss y14 (Value.int .i64 2)) fun y15=>
 ret [y8,y14,y15])) (c3 fun _ _ q16_2=>
 bind (pick y13 (Value.bool true) q16_2) fun y17=>
 cnd y17
 (ret (Value.tuple #[(Value.string ⟨#[]⟩),(Value.int .i64 11)]))
 (bind (Zw y8) fun y18=>
 jn (Zi (c4 (KA.l1 Γ)) [y3,y8,y18,(Value.int .i64 0)]) noN (xk 0 (c1 fun q29_0=>
 ret (Value.tuple #[q29_0,(Value.int .i64 0)])) noX) ret))))
theorem Zu2 (Γ : Zc) (x0 : Value) : Zy Tryz.prog Γ Tryz.f118 ZnO [x0]=KA Γ x0:=by kernel_rfl
theorem ZuJ {prim : FuncId→Option (List Value→M Value)} (hp : prim Zbl=none) (n : Nat) (x0 : Value) : run Tryz.prog prim lvs (n+1) Zbl [x0]=KA (run Tryz.prog prim lvs n) x0:=
 (Zk hp (by kernel_rfl) Tryz.func118 (by kernel_rfl)).trans (Zu2 _ x0)
noncomputable def Yr.l1 (Γ : Zc) (s0 s1 s7 s8 : Value) : M Out:=
 bind (bop .int .lss s8 s7) fun y1=>
 cnd y1
 (bind (Qa s0) fun y2=>
 bind (fa 0 y2) fun y3=>
 bind (ld1 y3) fun y4=>
 bind (cvi .u8 s1) fun y5=>
 bind (bsl 1 1 (.int .u8 0) [(0,1,y5)]) fun y6=>
 bind (app 1 1 y4 y6) fun y7=>
 bind (Qa s0) fun y8=>
 bind (fa 0 y8) fun y9=>
 bind (st1 y9 y7) fun _=>
 bind (bop .int .shr s1 (Value.int .u64 8)) fun y10=>
 bind (bop .int .add s8 (Value.int .i64 1)) fun y11=>
 ret (.nrm [s0,y10,s7,y11]))
 (ret (.ext 0 [s0]))
noncomputable def Yr (Γ : Zc) (x0 x1 x2 : Value) : M Value:=
 jn (Zi (c4 (Yr.l1 Γ)) [x0,x1,x2,(Value.int .i64 0)]) noN (xk 0 (c1 fun q13_0=>
 ret q13_0) noX) ret
theorem Znf (Γ : Zc) (x0 x1 x2 : Value) : Zy Tryz.prog Γ Tryz.f119 ZgF [x0,x1,x2]=Yr Γ x0 x1 x2:=by kernel_rfl
theorem ZlV {prim : FuncId→Option (List Value→M Value)} (hp : prim KK=none) (n : Nat) (x0 x1 x2 : Value) : run Tryz.prog prim lvs (n+1) KK [x0,x1,x2]=Yr (run Tryz.prog prim lvs n) x0 x1 x2:=
 (Zk hp (by kernel_rfl) Tryz.func119 (by kernel_rfl)).trans (Znf _ x0 x1 x2)
noncomputable def ZdH (Γ : Zc) (x0 x1 : Value) : M Value:=
 bind (JI x1) fun y1=>
 bind (mxi false y1 (Value.int .i64 65535)) fun y2=>
 bind (sls x1 none (some y2)) fun y3=>
 bind (JI y3) fun y4=>
 bind (cvi .u16 y4) fun y5=>
 bind (Γ Yw [x0,y5]) fun y6=>
 bind (Qa x0) fun y7=>
 bind (fa 0 y7) fun y8=>
 bind (ld1 y8) fun y9=>
 bind (app 1 1 y9 y3) fun y10=>
 bind (Qa x0) fun y11=>
 bind (fa 0 y11) fun y12=>
 bind (st1 y12 y10) fun _=>
 ret x0
theorem ZlZ (Γ : Zc) (x0 x1 : Value) : Zy Tryz.prog Γ Tryz.f120 Zge [x0,x1]=ZdH Γ x0 x1:=by kernel_rfl
theorem Zkt {prim : FuncId→Option (List Value→M Value)} (hp : prim JN=none) (n : Nat) (x0 x1 : Value) : run Tryz.prog prim lvs (n+1) JN [x0,x1]=ZdH (run Tryz.prog prim lvs n) x0 x1:=
 (Zk hp (by kernel_rfl) Tryz.func120 (by kernel_rfl)).trans (ZlZ _ x0 x1)
noncomputable def Zee (Γ : Zc) (x0 : Value) : M Value:=
 bind (Qa x0) fun y1=>
 bind (fa 0 y1) fun y2=>
 bind (ld1 y2) fun y3=>
 bind (Γ WY [y3]) fun y4=>
 ret y4
theorem Zm4 (Γ : Zc) (x0 : Value) : Zy Tryz.prog Γ Tryz.f121 ZgN [x0]=Zee Γ x0:=by kernel_rfl
theorem Zlr {prim : FuncId→Option (List Value→M Value)} (hp : prim KE=none) (n : Nat) (x0 : Value) : run Tryz.prog prim lvs (n+1) KE [x0]=Zee (run Tryz.prog prim lvs n) x0:=
 (Zk hp (by kernel_rfl) Tryz.func121 (by kernel_rfl)).trans (Zm4 _ x0)
noncomputable def Zdn (Γ : Zc) (x0 x1 : Value) : M Value:=
 cnd x1
 (bind (Γ JK [x0,(Value.int .u8 1)]) fun y1=>
 ret y1)
 (bind (Γ JK [x0,(Value.int .u8 0)]) fun y2=>
 ret y2)
theorem Zks (Γ : Zc) (x0 x1 : Value) : Zy Tryz.prog Γ Tryz.f122 Zfk [x0,x1]=Zdn Γ x0 x1:=by kernel_rfl
theorem Zjd {prim : FuncId→Option (List Value→M Value)} (hp : prim WV=none) (n : Nat) (x0 x1 : Value) : run Tryz.prog prim lvs (n+1) WV [x0,x1]=Zdn (run Tryz.prog prim lvs n) x0 x1:=
 (Zk hp (by kernel_rfl) Tryz.func122 (by kernel_rfl)).trans (Zks _ x0 x1)
noncomputable def Yt.l1 (Γ : Zc) (s5 s10 s11 s12 : Value) : M Out:=
 bind (bop .int .lss s12 s11) fun y3=>
 cnd y3
 (bind (ixa 1 s10 s12) fun y4=>
 bind (ld1 y4) fun y5=>
 bind (cvi .u64 y5) fun y6=>
 bind (bop .int .mul (Value.int .i64 8) s12) fun y7=>
 bind (bop .int .shl y6 y7) fun y8=>
 bind (bop .int .or s5 y8) fun y9=>
 bind (bop .int .add s12 (Value.int .i64 1)) fun y10=>
 ret (.nrm [y9,s10,s11,y10]))
 (ret (.ext 0 [s5]))
noncomputable def Yt (Γ : Zc) (x0 x1 : Value) : M Value:=
 bind (Γ Ki [x0,x1]) fun y1=>
 bind (Zw y1) fun y2=>
 jn (Zi (c4 (Yt.l1 Γ)) [(Value.int .u64 0),y1,y2,(Value.int .i64 0)]) noN (xk 0 (c1 fun q12_0=>
 ret q12_0) noX) ret
theorem Zm9 (Γ : Zc) (x0 x1 : Value) : Zy Tryz.prog Γ Tryz.f123 Zgx [x0,x1]=Yt Γ x0 x1:=by kernel_rfl
theorem Zlk {prim : FuncId→Option (List Value→M Value)} (hp : prim KN=none) (n : Nat) (x0 x1 : Value) : run Tryz.prog prim lvs (n+1) KN [x0,x1]=Yt (run Tryz.prog prim lvs n) x0 x1:=
 (Zk hp (by kernel_rfl) Tryz.func123 (by kernel_rfl)).trans (Zm9 _ x0 x1)
noncomputable def WP (Γ : Zc) (x0 x1 : Value) : M Value:=
 bind (Γ KM [x0]) fun y1=>
 bind (cvi .i64 y1) fun y2=>
 bind (mxi true (Value.int .i64 0) x1) fun y3=>
 bind (bop .int .gtr y2 y3) fun y4=>
 cnd y4
 (bind (Γ Z5 [x0,(Value.int .i64 3)]) fun y5=>
 ret (Value.int .i64 0))
 (ret y2)
theorem Zkz (Γ : Zc) (x0 x1 : Value) : Zy Tryz.prog Γ Tryz.f124 Zfl [x0,x1]=WP Γ x0 x1:=by kernel_rfl
theorem ZjR {prim : FuncId→Option (List Value→M Value)} (hp : prim YZ=none) (n : Nat) (x0 x1 : Value) : run Tryz.prog prim lvs (n+1) YZ [x0,x1]=WP (run Tryz.prog prim lvs n) x0 x1:=
 (Zk hp (by kernel_rfl) Tryz.func124 (by kernel_rfl)).trans (Zkz _ x0 x1)
noncomputable def ZdA (Γ : Zc) (x0 x1 : Value) : M Value:=
 bind (Γ YZ [x0,x1]) fun y1=>
 bind (Γ Ki [x0,y1]) fun y2=>
 bind (b2s y2) fun y3=>
 ret y3
theorem ZlP (Γ : Zc) (x0 x1 : Value) : Zy Tryz.prog Γ Tryz.f125 Zgc [x0,x1]=ZdA Γ x0 x1:=by kernel_rfl
theorem ZkF {prim : FuncId→Option (List Value→M Value)} (hp : prim JL=none) (n : Nat) (x0 x1 : Value) : run Tryz.prog prim lvs (n+1) JL [x0,x1]=ZdA (run Tryz.prog prim lvs n) x0 x1:=
 (Zk hp (by kernel_rfl) Tryz.func125 (by kernel_rfl)).trans (ZlP _ x0 x1)
noncomputable def Zbh (Γ : Zc) (x0 : Value) : M Value:=
 bind (Γ Kj [x0]) fun y1=>
 bind (bop .int .gtr y1 (Value.int .u8 1)) fun y2=>
 jn (cnd y2
 (bind (Γ Z5 [x0,(Value.int .i64 4)]) fun y3=>
 ret (.nrm [y1]))
 (ret (.nrm [y1]))) (c1 fun q4_0=>
 bind (bop .int .eql q4_0 (Value.int .u8 1)) fun y5=>
 ret y5) noX ret
theorem Zkq (Γ : Zc) (x0 : Value) : Zy Tryz.prog Γ Tryz.f126 Zfj [x0]=Zbh Γ x0:=by kernel_rfl
theorem Ze7 {prim : FuncId→Option (List Value→M Value)} (hp : prim WW=none) (n : Nat) (x0 : Value) : run Tryz.prog prim lvs (n+1) WW [x0]=Zbh (run Tryz.prog prim lvs n) x0:=
 (Zk hp (by kernel_rfl) Tryz.func126 (by kernel_rfl)).trans (Zkq _ x0)
noncomputable def ZkT.l1 (Γ : Zc) (s0 s3 s4 : Value) : M Out:=
 bind (bop .int .geq s4 (Value.int .i64 0)) fun y3=>
 cnd y3
 (bind (bop .int .mul s3 (Value.int .u64 256)) fun y4=>
 bind (ixs s0 s4) fun y5=>
 bind (cvi .u64 y5) fun y6=>
 bind (bop .int .add y4 y6) fun y7=>
 bind (bop .int .sub s4 (Value.int .i64 1)) fun y8=>
 ret (.nrm [s0,y7,y8]))
 (ret (.ext 0 [s3]))
noncomputable def ZkT (Γ : Zc) (x0 : Value) : M Value:=
 bind (JI x0) fun y1=>
 bind (bop .int .sub y1 (Value.int .i64 1)) fun y2=>
 jn (Zi (c3 (ZkT.l1 Γ)) [x0,(Value.int .u64 0),y2]) noN (xk 0 (c1 fun q10_0=>
 ret q10_0) noX) ret
noncomputable def ZeT.l1 (Γ : Zc) (s3 s62 s63 s64 : Value) : M Out:=
 bind (bop .int .lss s64 s63) fun y50=>
 cnd y50
 (bind (ixa 1 s62 s64) fun y51=>
 bind (ld1 y51) fun y52=>
 bind (Γ QI [y52]) fun y53=>
 bind (uop .not y53) fun y54=>
 cnd y54
 (ret (.ret (Value.int .i64 10)))
 (bind (bop .int .add s64 (Value.int .i64 1)) fun y55=>
 ret (.nrm [s3,s62,s63,y55])))
 (ret (.ext 0 [s3]))
noncomputable def ZeT.l2 (Γ : Zc) (s3 s73 s74 s75 : Value) : M Out:=
 bind (bop .int .lss s75 s74) fun y61=>
 cnd y61
 (bind (ixa 1 s73 s75) fun y62=>
 bind (ld1 y62) fun y63=>
 bind (bop .int .gtr s75 (Value.int .i64 0)) fun y64=>
 bind (ZJ y64 true 8 (bind (fa 4 s3) fun y65=>
 bind (ld1 y65) fun y66=>
 bind (bop .int .sub s75 (Value.int .i64 1)) fun y67=>
 bind (ixa 1 y66 y67) fun y68=>
 bind (ld1 y68) fun y69=>
 bind (bop .str .leq y63 y69) fun y70=>
 ret [y63,y65,y66,s75,y67,y68,y69,y70])) (c8 fun _ _ _ _ _ _ _ q71_7=>
 bind (pick y64 q71_7 (Value.bool false)) fun y72=>
 cnd y72
 (ret (.ret (Value.int .i64 9)))
 (bind (bop .int .add s75 (Value.int .i64 1)) fun y73=>
 ret (.nrm [s3,s73,s74,y73]))))
 (ret (.ext 2 []))
noncomputable def ZeT (Γ : Zc) (x0 x1 : Value) : M Value:=
 bind (alc 1 x1) fun y1=>
 bind (bop .int .lss x0 (Value.int .i64 1)) fun y2=>
 bind (ZJ y2 false 2 (bind (bop .int .gtr x0 (Value.int .i64 2)) fun y3=>
 ret [x0,y3])) (c2 fun _ q4_1=>
 bind (pick y2 (Value.bool true) q4_1) fun y5=>
 cnd y5
 (ret (Value.int .i64 6))
 (bind (fa 0 y1) fun y6=>
 bind (ld1 y6) fun y7=>
 bind (Γ QI [y7]) fun y8=>
 bind (uop .not y8) fun y9=>
 cnd y9
 (ret (Value.int .i64 10))
 (bind (fa 1 y1) fun y10=>
 bind (ld1 y10) fun y11=>
 bind (Γ ZaA [y11]) fun y12=>
 bind (uop .not y12) fun y13=>
 cnd y13
 (ret (Value.int .i64 4))
 (bind (bop .int .eql x0 (Value.int .i64 1)) fun y14=>
 cnd y14
 (bind (fa 2 y1) fun y15=>
 bind (ld1 y15) fun y16=>
 bind (bop .str .neq y16 (Value.string ⟨#[]⟩)) fun y17=>
 bind (ZJ y17 false 2 (bind (fa 3 y1) fun y18=>
 bind (ld1 y18) fun y19=>
 ret [y18,y19])) (c2 fun _ q20_1=>
 bind (pick y17 (Value.bool true) q20_1) fun y21=>
 bind (ZJ y21 false 4 (bind (fa 4 y1) fun y22=>
 bind (ld1 y22) fun y23=>
 bind (Zw y23) fun y24=>
 bind (bop .int .gtr y24 (Value.int .i64 0)) fun y25=>
 ret [y22,y23,y24,y25])) (c4 fun _ _ _ q26_3=>
 bind (pick y21 (Value.bool true) q26_3) fun y27=>
 cnd y27
 (ret (Value.int .i64 12))
 (ret (Value.int .i64 0)))))
 (bind (fa 2 y1) fun y28=>
 bind (ld1 y28) fun y29=>
 bind (bop .str .neq y29 (Value.string ⟨#[]⟩)) fun y30=>
 jn (cnd y30
 (bind (fa 2 y1) fun y31=>
 bind (ld1 y31) fun y32=>
 bind (Γ ZbA [y32]) fun y33=>
 bind (Zn y33 0) fun y34=>
 bind (Zn y33 1) fun y35=>
 bind (uop .not y35) fun y36=>
 bind (ZJ y36 false 4 (bind (fa 2 y1) fun y37=>
 bind (ld1 y37) fun y38=>
 bind (bop .str .neq y34 y38) fun y39=>
 ret [y34,y37,y38,y39])) (c4 fun _ _ _ q40_3=>
 bind (pick y36 (Value.bool true) q40_3) fun y41=>
 cnd y41
 (ret (.ret (Value.int .i64 11)))
 (ret (.nrm [y1]))))
 (ret (.nrm [y1]))) (c1 fun q42_0=>
 bind (fa 4 q42_0) fun y43=>
 bind (ld1 y43) fun y44=>
 bind (Zw y44) fun y45=>
 bind (bop .int .gtr y45 (Value.int .i64 6)) fun y46=>
 cnd y46
 (ret (Value.int .i64 7))
 (bind (fa 4 q42_0) fun y47=>
 bind (ld1 y47) fun y48=>
 bind (Zw y48) fun y49=>
 jn (Zi (c4 (ZeT.l1 Γ)) [q42_0,y48,y49,(Value.int .i64 0)]) noN (xk 0 (c1 fun q57_0=>
 bind (fa 4 q57_0) fun y58=>
 bind (ld1 y58) fun y59=>
 bind (Zw y59) fun y60=>
 jn (Zi (c4 (ZeT.l2 Γ)) [q57_0,y59,y60,(Value.int .i64 0)]) noN (xk 2 (c0 (ret (Value.int .i64 0))) noX) ret) noX) ret)) noX ret)))))
noncomputable def ZhR.l1 (Γ : Zc) (s0 s1 s10 s11 s12 : Value) : M Out:=
 bind (bop .int .lss s12 s11) fun y2=>
 cnd y2
 (bind (ixa 5 s10 s12) fun y3=>
 bind (ldA 5 y3) fun y4=>
 bind (alc 1 (.agg #[.string ⟨#[]⟩,.string ⟨#[]⟩,.string ⟨#[]⟩,.bool false,.slice none 0 0])) fun y5=>
 bind (stA 5 y5 y4) fun _=>
 bind (ldA 5 y5) fun y6=>
 bind (Γ ZuA [s1,y6]) fun y7=>
 bind (bop .int .neq y7 (Value.int .i64 0)) fun y8=>
 cnd y8
 (ret (.ret y7))
 (bind (bop .int .add s12 (Value.int .i64 1)) fun y9=>
 ret (.nrm [s0,s1,s10,s11,y9])))
 (ret (.ext 0 [s0]))
noncomputable def ZhR.l2 (Γ : Zc) (s0 s23 s24 s25 : Value) : M Out:=
 bind (bop .int .lss s25 s24) fun y13=>
 cnd y13
 (bind (ixa 5 s23 s25) fun y14=>
 bind (ldA 5 y14) fun y15=>
 bind (alc 1 (.agg #[.string ⟨#[]⟩,.string ⟨#[]⟩,.string ⟨#[]⟩,.bool false,.slice none 0 0])) fun y16=>
 bind (stA 5 y16 y15) fun _=>
 bind (bop .int .gtr s25 (Value.int .i64 0)) fun y17=>
 bind (Zg y17 true (ret s0)) fun y18=>
 bind (Zg y17 true (ret s25)) fun y19=>
 bind (Zg y17 true (bop .int .sub y19 (Value.int .i64 1))) fun y20=>
 bind (Zg y17 true (ixa 5 y18 y20)) fun y21=>
 bind (Zg y17 true (fa 0 y21)) fun y22=>
 bind (Zg y17 true (ld1 y22)) fun y23=>
 bind (Zg y17 true (fa 0 y16)) fun y24=>
 bind (Zg y17 true (ld1 y24)) fun y25=>
 bind (Zg y17 true (bop .str .geq y23 y25)) fun y26=>
 bind (pick y17 y26 (Value.bool false)) fun y27=>
 cnd y27
 (ret (.ret (Value.int .i64 9)))
 (bind (bop .int .add s25 (Value.int .i64 1)) fun y28=>
 ret (.nrm [s0,s23,s24,y28])))
 (ret (.ext 2 [s0]))
noncomputable def ZhR (Γ : Zc) (x0 x1 : Value) : M Value:=
 bind (Zw x0) fun y1=>
 jn (Zi (c5 (ZhR.l1 Γ)) [x0,x1,x0,y1,(Value.int .i64 0)]) noN (xk 0 (c1 fun q11_0=>
 bind (Zw q11_0) fun y12=>
 jn (Zi (c4 (ZhR.l2 Γ)) [q11_0,q11_0,y12,(Value.int .i64 0)]) noN (xk 2 (c1 fun q30_0=>
 bind (Zw q30_0) fun y31=>
 bind (bop .int .gtr y31 (Value.int .i64 12)) fun y32=>
 cnd y32
 (ret (Value.int .i64 7))
 (ret (Value.int .i64 0))) noX) ret) noX) ret
noncomputable def Zik (Γ : Zc) (x0 : Value) : M Value:=
 bind (JI x0) fun y1=>
 bind (bop .int .geq y1 (Value.int .i64 1)) fun y2=>
 bind (ZJ y2 true 2 (bind (bop .int .leq y1 (Value.int .i64 12)) fun y3=>
 ret [y1,y3])) (c2 fun _ q4_1=>
 bind (pick y2 q4_1 (Value.bool false)) fun y5=>
 bind (ZJ y5 true 2 (bind (Γ Zc0 [x0,(Value.string ⟨#[97,98,99,100,101,102,103,104,105,106,107,108,109,110,111,112,113,114,115,116,117,118,119,120,121,122,48,49,50,51,52,53,54,55,56,57,45,46]⟩)]) fun y6=>
 ret [x0,y6])) (c2 fun _ q7_1=>
 bind (pick y5 q7_1 (Value.bool false)) fun y8=>
 bind (ZJ y8 true 3 (bind (ixs x0 (Value.int .i64 0)) fun y9=>
 bind (Γ ZaB [y9,(Value.string ⟨#[97,98,99,100,101,102,103,104,105,106,107,108,109,110,111,112,113,114,115,116,117,118,119,120,121,122]⟩)]) fun y10=>
 ret [x0,y9,y10])) (c3 fun _ _ q11_2=>
 bind (pick y8 q11_2 (Value.bool false)) fun y12=>
 bind (ZJ y12 true 5 (bind (bop .int .sub y1 (Value.int .i64 1)) fun y13=>
 bind (ixs x0 y13) fun y14=>
 bind (Γ ZaB [y14,(Value.string ⟨#[97,98,99,100,101,102,103,104,105,106,107,108,109,110,111,112,113,114,115,116,117,118,119,120,121,122,48,49,50,51,52,53,54,55,56,57]⟩)]) fun y15=>
 ret [x0,y1,y13,y14,y15])) (c5 fun _ _ _ _ q16_4=>
 bind (pick y12 q16_4 (Value.bool false)) fun y17=>
 ret y17))))
theorem Ztq (Γ : Zc) (x0 : Value) : Zy Tryz.prog Γ Tryz.f134 ZlF [x0]=Zik Γ x0:=by kernel_rfl
theorem Zsi {prim : FuncId→Option (List Value→M Value)} (hp : prim QI=none) (n : Nat) (x0 : Value) : run Tryz.prog prim lvs (n+1) QI [x0]=Zik (run Tryz.prog prim lvs n) x0:=
 (Zk hp (by kernel_rfl) Tryz.func134 (by kernel_rfl)).trans (Ztq _ x0)
noncomputable def Zas.l1 (Γ : Zc) (s1 s7 s8 s9 : Value) : M Out:=
 bind (bop .int .lss s9 s8) fun y2=>
 cnd y2
 (bind (ixa 1 s7 s9) fun y3=>
 bind (ld1 y3) fun y4=>
 bind (bop .str .eql y4 s1) fun y5=>
 cnd y5
 (ret (.ret (Value.bool true)))
 (bind (bop .int .add s9 (Value.int .i64 1)) fun y6=>
 ret (.nrm [s1,s7,s8,y6])))
 (ret (.ext 0 []))
noncomputable def Zas (Γ : Zc) (x0 x1 : Value) : M Value:=
 bind (Zw x0) fun y1=>
 jn (Zi (c4 (Zas.l1 Γ)) [x1,x0,y1,(Value.int .i64 0)]) noN (xk 0 (c0 (ret (Value.bool false))) noX) ret
theorem Zve (Γ : Zc) (x0 x1 : Value) : Zy Tryz.prog Γ Tryz.f135 Zny [x0,x1]=Zas Γ x0 x1:=by kernel_rfl
theorem Zuq {prim : FuncId→Option (List Value→M Value)} (hp : prim K7=none) (n : Nat) (x0 x1 : Value) : run Tryz.prog prim lvs (n+1) K7 [x0,x1]=Zas (run Tryz.prog prim lvs n) x0 x1:=
 (Zk hp (by kernel_rfl) Tryz.func135 (by kernel_rfl)).trans (Zve _ x0 x1)
noncomputable def Zcr (Γ : Zc) (x0 x1 x2 : Value) : M Value:=
 bind (Γ QI [x1]) fun y1=>
 bind (uop .not y1) fun y2=>
 cnd y2
 (ret (Value.tuple #[x0,(Value.int .i64 10)]))
 (bind (Γ ZaA [x2]) fun y3=>
 bind (uop .not y3) fun y4=>
 cnd y4
 (ret (Value.tuple #[x0,(Value.int .i64 4)]))
 (bind (Γ WL [x0,x1]) fun y5=>
 bind (bop .int .geq y5 (Value.int .i64 0)) fun y6=>
 cnd y6
 (ret (Value.tuple #[x0,(Value.int .i64 9)]))
 (bind (Zw x0) fun y7=>
 bind (bop .int .geq y7 (Value.int .i64 12)) fun y8=>
 cnd y8
 (ret (Value.tuple #[x0,(Value.int .i64 7)]))
 (bind (bld (.agg #[.string ⟨#[]⟩,.string ⟨#[]⟩,.string ⟨#[]⟩,.bool false,.slice none 0 0]) [(0,1,x1),(1,1,x2)]) fun y9=>
 bind (Γ Zak [x0,y9]) fun y10=>
 ret (Value.tuple #[y10,(Value.int .i64 0)])))))
theorem ZqR (Γ : Zc) (x0 x1 x2 : Value) : Zy Tryz.prog Γ Tryz.f136 ZiV [x0,x1,x2]=Zcr Γ x0 x1 x2:=by kernel_rfl
theorem Zpk {prim : FuncId→Option (List Value→M Value)} (hp : prim Za7=none) (n : Nat) (x0 x1 x2 : Value) : run Tryz.prog prim lvs (n+1) Za7 [x0,x1,x2]=Zcr (run Tryz.prog prim lvs n) x0 x1 x2:=
 (Zk hp (by kernel_rfl) Tryz.func136 (by kernel_rfl)).trans (ZqR _ x0 x1 x2)
noncomputable def Zju (Γ : Zc) (x0 : Value) : M Value:=
 bind (bop .str .eql x0 (Value.string ⟨#[]⟩)) fun y1=>
 bind (ZJ y1 false 3 (bind (JI x0) fun y2=>
 bind (bop .int .gtr y2 (Value.int .i64 12)) fun y3=>
 ret [x0,y2,y3])) (c3 fun _ _ q4_2=>
 bind (pick y1 (Value.bool true) q4_2) fun y5=>
 bind (ZJ y5 false 4 (bind (Γ Wp [x0,(Value.func (.func 191) #[] #[])]) fun y6=>
 bind (uop .not y6) fun y7=>
 ret [x0,(Value.func (.func 191) #[] #[]),y6,y7])) (c4 fun _ _ _ q8_3=>
 bind (pick y5 (Value.bool true) q8_3) fun y9=>
 cnd y9
 (ret (Value.int .i64 4))
 (ret (Value.int .i64 0))))
theorem Zvw (Γ : Zc) (x0 : Value) : Zy Tryz.prog Γ Tryz.f137 ZnA [x0]=Zju Γ x0:=by kernel_rfl
theorem Zuf {prim : FuncId→Option (List Value→M Value)} (hp : prim Zbm=none) (n : Nat) (x0 : Value) : run Tryz.prog prim lvs (n+1) Zbm [x0]=Zju (run Tryz.prog prim lvs n) x0:=
 (Zk hp (by kernel_rfl) Tryz.func137 (by kernel_rfl)).trans (Zvw _ x0)
noncomputable def Za9 (Γ : Zc) (x0 x1 : Value) : M Value:=
 bind (Γ QI [x1]) fun y1=>
 bind (uop .not y1) fun y2=>
 cnd y2
 (ret (Value.tuple #[x0,(Value.int .i64 10)]))
 (bind (Γ WL [x0,x1]) fun y3=>
 bind (bop .int .lss y3 (Value.int .i64 0)) fun y4=>
 cnd y4
 (ret (Value.tuple #[x0,(Value.int .i64 8)]))
 (bind (Γ ZbC [x0,x1]) fun y5=>
 ret (Value.tuple #[y5,(Value.int .i64 0)])))
theorem ZqV (Γ : Zc) (x0 x1 : Value) : Zy Tryz.prog Γ Tryz.f138 ZiH [x0,x1]=Za9 Γ x0 x1:=by kernel_rfl
theorem ZpY {prim : FuncId→Option (List Value→M Value)} (hp : prim Zbf=none) (n : Nat) (x0 x1 : Value) : run Tryz.prog prim lvs (n+1) Zbf [x0,x1]=Za9 (run Tryz.prog prim lvs n) x0 x1:=
 (Zk hp (by kernel_rfl) Tryz.func138 (by kernel_rfl)).trans (ZqV _ x0 x1)
noncomputable def Yd.l1 (Γ : Zc) (s0 s1 s5 s11 s12 s13 : Value) : M Out:=
 bind (bop .int .lss s13 s12) fun y3=>
 cnd y3
 (bind (ixa 1 s11 s13) fun y4=>
 bind (ld1 y4) fun y5=>
 bind (Qa s0) fun y6=>
 bind (fa 0 y6) fun y7=>
 bind (ld1 y7) fun y8=>
 bind (lkp .str (.map none) false y8 y5) fun y9=>
 bind (mde .str y9 s1) fun _=>
 bind (bop .int .add s13 (Value.int .i64 1)) fun y10=>
 ret (.nrm [s0,s1,s5,s11,s12,y10]))
 (ret (.ext 0 [s5]))
noncomputable def Yd (Γ : Zc) (x0 x1 : Value) : M Value:=
 bind (Γ JT [x0,x1]) fun y1=>
 bind (Zw y1) fun y2=>
 jn (Zi (c6 (Yd.l1 Γ)) [x0,x1,y1,y1,y2,(Value.int .i64 0)]) noN (xk 0 (c1 fun q12_0=>
 bind (Zw q12_0) fun y13=>
 ret y13) noX) ret
theorem Zi9 (Γ : Zc) (x0 x1 : Value) : Zy Tryz.prog Γ Tryz.f139 Ze3 [x0,x1]=Yd Γ x0 x1:=by kernel_rfl
theorem ZiR {prim : FuncId→Option (List Value→M Value)} (hp : prim Wu=none) (n : Nat) (x0 x1 : Value) : run Tryz.prog prim lvs (n+1) Wu [x0,x1]=Yd (run Tryz.prog prim lvs n) x0 x1:=
 (Zk hp (by kernel_rfl) Tryz.func139 (by kernel_rfl)).trans (Zi9 _ x0 x1)
noncomputable def ZcB (Γ : Zc) (x0 x1 : Value) : M Value:=
 bind (alc 1 x0) fun y1=>
 bind (alc 1 (.agg #[.string ⟨#[]⟩,.string ⟨#[]⟩,.string ⟨#[]⟩,.bool false,.slice none 0 0])) fun y2=>
 bind (Γ QI [x1]) fun y3=>
 bind (uop .not y3) fun y4=>
 cnd y4
 (bind (bld (.agg #[.string ⟨#[]⟩,.string ⟨#[]⟩,.string ⟨#[]⟩,.bool false,.slice none 0 0]) []) fun y5=>
 bind (stA 5 y2 y5) fun _=>
 bind (ldA 5 y2) fun y6=>
 ret (Value.tuple #[y6,(Value.int .i64 10)]))
 (bind (fa 0 y1) fun y7=>
 bind (ld1 y7) fun y8=>
 bind (Γ WL [y8,x1]) fun y9=>
 bind (bop .int .lss y9 (Value.int .i64 0)) fun y10=>
 cnd y10
 (bind (bld (.agg #[.string ⟨#[]⟩,.string ⟨#[]⟩,.string ⟨#[]⟩,.bool false,.slice none 0 0]) []) fun y11=>
 bind (stA 5 y2 y11) fun _=>
 bind (ldA 5 y2) fun y12=>
 ret (Value.tuple #[y12,(Value.int .i64 8)]))
 (bind (fa 0 y1) fun y13=>
 bind (ld1 y13) fun y14=>
 bind (ixa 5 y14 y9) fun y15=>
 bind (ldA 5 y15) fun y16=>
 bind (stA 5 y2 y16) fun _=>
 bind (ldA 5 y2) fun y17=>
 ret (Value.tuple #[y17,(Value.int .i64 0)])))
theorem Zs3 (Γ : Zc) (x0 x1 : Value) : Zy Tryz.prog Γ Tryz.f140 ZkO [x0,x1]=ZcB Γ x0 x1:=by kernel_rfl
theorem Zsp {prim : FuncId→Option (List Value→M Value)} (hp : prim J5=none) (n : Nat) (x0 x1 : Value) : run Tryz.prog prim lvs (n+1) J5 [x0,x1]=ZcB (run Tryz.prog prim lvs n) x0 x1:=
 (Zk hp (by kernel_rfl) Tryz.func140 (by kernel_rfl)).trans (Zs3 _ x0 x1)
noncomputable def Zib (Γ : Zc) (x0 : Value) : M Value:=
 bind (JI x0) fun y1=>
 bind (bop .int .geq y1 (Value.int .i64 1)) fun y2=>
 bind (ZJ y2 true 3 (bind (JI x0) fun y3=>
 bind (bop .int .leq y3 (Value.int .i64 12)) fun y4=>
 ret [x0,y3,y4])) (c3 fun _ _ q5_2=>
 bind (pick y2 q5_2 (Value.bool false)) fun y6=>
 bind (ZJ y6 true 2 (bind (Γ Zc0 [x0,(Value.string ⟨#[48,49,50,51,52,53,54,55,56,57,97,98,99,100,101,102]⟩)]) fun y7=>
 ret [x0,y7])) (c2 fun _ q8_1=>
 bind (pick y6 q8_1 (Value.bool false)) fun y9=>
 ret y9))
theorem Zs7 (Γ : Zc) (x0 : Value) : Zy Tryz.prog Γ Tryz.f141 Zmg [x0]=Zib Γ x0:=by kernel_rfl
theorem Zsx {prim : FuncId→Option (List Value→M Value)} (hp : prim ZaA=none) (n : Nat) (x0 : Value) : run Tryz.prog prim lvs (n+1) ZaA [x0]=Zib (run Tryz.prog prim lvs n) x0:=
 (Zk hp (by kernel_rfl) Tryz.func141 (by kernel_rfl)).trans (Zs7 _ x0)
noncomputable def ZjM (Γ : Zc) (x0 x1 : Value) : M Value:=
 bind (alc 1 x0) fun y1=>
 bind (alc 1 x1) fun y2=>
 bind (alc 1 (.agg #[.slice none 0 0,.slice none 0 0])) fun y3=>
 bind (fa 0 y1) fun y4=>
 bind (ld1 y4) fun y5=>
 bind (ldA 5 y2) fun y6=>
 bind (Γ Zak [y5,y6]) fun y7=>
 bind (fa 0 y1) fun y8=>
 bind (st1 y8 y7) fun _=>
 bind (ldA 2 y1) fun y9=>
 bind (stA 2 y3 y9) fun _=>
 bind (ldA 2 y3) fun y10=>
 ret y10
theorem Zvc (Γ : Zc) (x0 x1 : Value) : Zy Tryz.prog Γ Tryz.f142 ZnF [x0,x1]=ZjM Γ x0 x1:=by kernel_rfl
theorem Zuo {prim : FuncId→Option (List Value→M Value)} (hp : prim WG=none) (n : Nat) (x0 x1 : Value) : run Tryz.prog prim lvs (n+1) WG [x0,x1]=ZjM (run Tryz.prog prim lvs n) x0 x1:=
 (Zk hp (by kernel_rfl) Tryz.func142 (by kernel_rfl)).trans (Zvc _ x0 x1)
noncomputable def Q0.l1 (Γ : Zc) (s0 s4 : Value) : M Out:=
 bind (JI s0) fun y4=>
 bind (bop .int .lss s4 y4) fun y5=>
 bind (ZJ y5 true 4 (bind (ixs s0 s4) fun y6=>
 bind (bop .int .neq y6 (Value.int .u8 64)) fun y7=>
 ret [s0,s4,y6,y7])) (c4 fun _ _ _ q8_3=>
 bind (pick y5 q8_3 (Value.bool false)) fun y9=>
 cnd y9
 (bind (bop .int .add s4 (Value.int .i64 1)) fun y10=>
 ret (.nrm [s0,y10]))
 (ret (.ext 0 [s0,s4])))
noncomputable def Q0.l2 (Γ : Zc) (s0 s5 s6 s7 : Value) : M Out:=
 bind (JI s0) fun y21=>
 bind (bop .int .lss s7 y21) fun y22=>
 cnd y22
 (bind (ixs s0 s7) fun y23=>
 bind (bop .int .eql y23 (Value.int .u8 46)) fun y24=>
 jn (cnd y24
 (bind (bop .int .eql s6 (Value.int .i64 0)) fun y25=>
 cnd y25
 (ret (.ret (Value.tuple #[(Value.string ⟨#[]⟩),(Value.bool false)])))
 (bind (bop .int .add s5 (Value.int .i64 1)) fun y26=>
 ret (.nrm [s0,y26,(Value.int .i64 0),s7])))
 (bind (ixs s0 s7) fun y27=>
 bind (Γ ZaB [y27,(Value.string ⟨#[97,98,99,100,101,102,103,104,105,106,107,108,109,110,111,112,113,114,115,116,117,118,119,120,121,122,48,49,50,51,52,53,54,55,56,57]⟩)]) fun y28=>
 bind (uop .not y28) fun y29=>
 cnd y29
 (ret (.ret (Value.tuple #[(Value.string ⟨#[]⟩),(Value.bool false)])))
 (bind (bop .int .add s6 (Value.int .i64 1)) fun y30=>
 ret (.nrm [s0,s5,y30,s7])))) (c4 fun q31_0 q31_1 q31_2 q31_3=>
 bind (bop .int .add q31_3 (Value.int .i64 1)) fun y32=>
 ret (.nrm [q31_0,q31_1,q31_2,y32])) noX ZW)
 (ret (.ext 2 [s0,s5,s6]))
noncomputable def Q0 (Γ : Zc) (x0 : Value) : M Value:=
 bind (JI x0) fun y1=>
 bind (bop .int .gtr y1 (Value.int .i64 20)) fun y2=>
 cnd y2
 (ret (Value.tuple #[(Value.string ⟨#[]⟩),(Value.bool false)]))
 (bind (Γ ZdU [x0]) fun y3=>
 jn (Zi (c2 (Q0.l1 Γ)) [y3,(Value.int .i64 0)]) noN (xk 0 (c2 fun q12_0 q12_1=>
 bind (JI q12_0) fun y13=>
 bind (bop .int .eql q12_1 y13) fun y14=>
 bind (ZJ y14 false 5 (bind (sls q12_0 none (some q12_1)) fun y15=>
 bind (Γ QI [y15]) fun y16=>
 bind (uop .not y16) fun y17=>
 ret [q12_0,q12_1,y15,y16,y17])) (c5 fun _ _ _ _ q18_4=>
 bind (pick y14 (Value.bool true) q18_4) fun y19=>
 cnd y19
 (ret (Value.tuple #[(Value.string ⟨#[]⟩),(Value.bool false)]))
 (bind (bop .int .add q12_1 (Value.int .i64 1)) fun y20=>
 jn (Zi (c4 (Q0.l2 Γ)) [q12_0,(Value.int .i64 0),(Value.int .i64 0),y20]) noN (xk 2 (c3 fun q35_0 q35_1 q35_2=>
 bind (bop .int .eql q35_1 (Value.int .i64 0)) fun y36=>
 bind (ZJ y36 false 2 (bind (bop .int .eql q35_2 (Value.int .i64 0)) fun y37=>
 ret [q35_2,y37])) (c2 fun _ q38_1=>
 bind (pick y36 (Value.bool true) q38_1) fun y39=>
 cnd y39
 (ret (Value.tuple #[(Value.string ⟨#[]⟩),(Value.bool false)]))
 (ret (Value.tuple #[q35_0,(Value.bool true)])))) noX) ret))) noX) ret)
theorem ZuU (Γ : Zc) (x0 : Value) : Zy Tryz.prog Γ Tryz.f143 ZlT [x0]=Q0 Γ x0:=by kernel_rfl
theorem Zr5 {prim : FuncId→Option (List Value→M Value)} (hp : prim ZbA=none) (n : Nat) (x0 : Value) : run Tryz.prog prim lvs (n+1) ZbA [x0]=Q0 (run Tryz.prog prim lvs n) x0:=
 (Zk hp (by kernel_rfl) Tryz.func143 (by kernel_rfl)).trans (ZuU _ x0)
noncomputable def Zaj.l1 (Γ : Zc) (s3 s5 s6 s9 s10 s11 : Value) : M Out:=
 bind (bop .int .lss s11 s10) fun y3=>
 cnd y3
 (bind (ixa 5 s9 s11) fun y4=>
 bind (ldA 5 y4) fun y5=>
 bind (alc 1 (.agg #[.string ⟨#[]⟩,.string ⟨#[]⟩,.string ⟨#[]⟩,.bool false,.slice none 0 0])) fun y6=>
 bind (stA 5 y6 y5) fun _=>
 bind (uop .not s6) fun y7=>
 bind (ZJ y7 true 5 (bind (fa 0 s3) fun y8=>
 bind (ld1 y8) fun y9=>
 bind (fa 0 y6) fun y10=>
 bind (ld1 y10) fun y11=>
 bind (bop .str .leq y9 y11) fun y12=>
 ret [y8,y9,y10,y11,y12])) (c5 fun _ _ _ _ q13_4=>
 bind (pick y7 q13_4 (Value.bool false)) fun y14=>
 jn (cnd y14
 (bind (ldA 5 s3) fun y15=>
 bind (bsl 5 1 (.agg #[.string ⟨#[]⟩,.string ⟨#[]⟩,.string ⟨#[]⟩,.bool false,.slice none 0 0]) [(0,5,y15)]) fun y16=>
 bind (app 5 80 s5 y16) fun y17=>
 ret (.nrm [s3,y17,(Value.bool true),y6,s9,s10,s11]))
 (ret (.nrm [s3,s5,s6,y6,s9,s10,s11]))) (c7 fun q18_0 q18_1 q18_2 q18_3 q18_4 q18_5 q18_6=>
 bind (fa 0 q18_3) fun y19=>
 bind (ld1 y19) fun y20=>
 bind (fa 0 q18_0) fun y21=>
 bind (ld1 y21) fun y22=>
 bind (bop .str .neq y20 y22) fun y23=>
 jn (cnd y23
 (bind (ldA 5 q18_3) fun y24=>
 bind (bsl 5 1 (.agg #[.string ⟨#[]⟩,.string ⟨#[]⟩,.string ⟨#[]⟩,.bool false,.slice none 0 0]) [(0,5,y24)]) fun y25=>
 bind (app 5 80 q18_1 y25) fun y26=>
 ret (.nrm [q18_0,y26,q18_2,q18_4,q18_5,q18_6]))
 (ret (.nrm [q18_0,q18_1,q18_2,q18_4,q18_5,q18_6]))) (c6 fun q27_0 q27_1 q27_2 q27_3 q27_4 q27_5=>
 bind (bop .int .add q27_5 (Value.int .i64 1)) fun y28=>
 ret (.nrm [q27_0,q27_1,q27_2,q27_3,q27_4,y28])) noX ZW) noX ZW))
 (ret (.ext 0 [s3,s5,s6]))
noncomputable def Zaj (Γ : Zc) (x0 x1 : Value) : M Value:=
 bind (alc 1 x1) fun y1=>
 bind (Zw x0) fun y2=>
 jn (Zi (c6 (Zaj.l1 Γ)) [y1,(Value.slice none 0 0),(Value.bool false),x0,y2,(Value.int .i64 0)]) noN (xk 0 (c3 fun q32_0 q32_1 q32_2=>
 bind (uop .not q32_2) fun y33=>
 jn (cnd y33
 (bind (ldA 5 q32_0) fun y34=>
 bind (bsl 5 1 (.agg #[.string ⟨#[]⟩,.string ⟨#[]⟩,.string ⟨#[]⟩,.bool false,.slice none 0 0]) [(0,5,y34)]) fun y35=>
 bind (app 5 80 q32_1 y35) fun y36=>
 ret (.nrm [y36]))
 (ret (.nrm [q32_1]))) (c1 fun q37_0=>
 ret q37_0) noX ret) noX) ret
theorem Zu3 (Γ : Zc) (x0 x1 : Value) : Zy Tryz.prog Γ Tryz.f144 Znl [x0,x1]=Zaj Γ x0 x1:=by kernel_rfl
theorem Zuy {prim : FuncId→Option (List Value→M Value)} (hp : prim Zak=none) (n : Nat) (x0 x1 : Value) : run Tryz.prog prim lvs (n+1) Zak [x0,x1]=Zaj (run Tryz.prog prim lvs n) x0 x1:=
 (Zk hp (by kernel_rfl) Tryz.func144 (by kernel_rfl)).trans (Zu3 _ x0 x1)
noncomputable def K2.l1 (Γ : Zc) (s1 s5 s8 s9 s10 : Value) : M Out:=
 bind (bop .int .lss s10 s9) fun y2=>
 cnd y2
 (bind (ixa 5 s8 s10) fun y3=>
 bind (ldA 5 y3) fun y4=>
 bind (alc 1 (.agg #[.string ⟨#[]⟩,.string ⟨#[]⟩,.string ⟨#[]⟩,.bool false,.slice none 0 0])) fun y5=>
 bind (stA 5 y5 y4) fun _=>
 bind (fa 0 y5) fun y6=>
 bind (ld1 y6) fun y7=>
 bind (bop .str .neq y7 s1) fun y8=>
 jn (cnd y8
 (bind (ldA 5 y5) fun y9=>
 bind (bsl 5 1 (.agg #[.string ⟨#[]⟩,.string ⟨#[]⟩,.string ⟨#[]⟩,.bool false,.slice none 0 0]) [(0,5,y9)]) fun y10=>
 bind (app 5 80 s5 y10) fun y11=>
 ret (.nrm [s1,y11,s8,s9,s10]))
 (ret (.nrm [s1,s5,s8,s9,s10]))) (c5 fun q12_0 q12_1 q12_2 q12_3 q12_4=>
 bind (bop .int .add q12_4 (Value.int .i64 1)) fun y13=>
 ret (.nrm [q12_0,q12_1,q12_2,q12_3,y13])) noX ZW)
 (ret (.ext 0 [s5]))
noncomputable def K2 (Γ : Zc) (x0 x1 : Value) : M Value:=
 bind (Zw x0) fun y1=>
 jn (Zi (c5 (K2.l1 Γ)) [x1,(Value.slice none 0 0),x0,y1,(Value.int .i64 0)]) noN (xk 0 (c1 fun q16_0=>
 ret q16_0) noX) ret
theorem Zs4 (Γ : Zc) (x0 x1 : Value) : Zy Tryz.prog Γ Tryz.f145 Zl2 [x0,x1]=K2 Γ x0 x1:=by kernel_rfl
theorem Zsb {prim : FuncId→Option (List Value→M Value)} (hp : prim ZbC=none) (n : Nat) (x0 x1 : Value) : run Tryz.prog prim lvs (n+1) ZbC [x0,x1]=K2 (run Tryz.prog prim lvs n) x0 x1:=
 (Zk hp (by kernel_rfl) Tryz.func145 (by kernel_rfl)).trans (Zs4 _ x0 x1)
noncomputable def Kg (Γ : Zc) (x0 x1 x2 : Value) : M Value:=
 bind (Γ Q9 [x2]) fun y1=>
 bind (bop .int .neq y1 (Value.int .i64 0)) fun y2=>
 cnd y2
 (ret y1)
 (bind (Qa x0) fun y3=>
 bind (fa 1 y3) fun y4=>
 bind (ld1 y4) fun y5=>
 bind (lkp .str (.string ⟨#[]⟩) true y5 x1) fun y6=>
 bind (Zn y6 0) fun y7=>
 bind (Zn y6 1) fun y8=>
 bind (Qa x0) fun y9=>
 bind (fa 1 y9) fun y10=>
 bind (ld1 y10) fun y11=>
 bind (lkp .str (.string ⟨#[]⟩) true y11 x2) fun y12=>
 bind (Zn y12 0) fun y13=>
 bind (Zn y12 1) fun y14=>
 bind (uop .not y8) fun y15=>
 cnd y15
 (ret (Value.int .i64 8))
 (bind (ZJ y14 true 3 (bind (bop .str .neq x2 x1) fun y16=>
 ret [x2,x1,y16])) (c3 fun _ _ q17_2=>
 bind (pick y14 q17_2 (Value.bool false)) fun y18=>
 cnd y18
 (ret (Value.int .i64 9))
 (bind (Γ Jv [x0,x1]) fun y19=>
 bind (Qa x0) fun y20=>
 bind (fa 0 y20) fun y21=>
 bind (ld1 y21) fun y22=>
 bind (Qa x0) fun y23=>
 bind (fa 1 y23) fun y24=>
 bind (ld1 y24) fun y25=>
 bind (men .str (.string ⟨#[]⟩) y22 y7) fun y26=>
 bind (Zn y26 1) fun y27=>
 bind (ens y22 y27 x2) fun _=>
 bind (men .str (.string ⟨#[]⟩) y25 x2) fun y28=>
 bind (Zn y28 1) fun y29=>
 bind (ens y25 y29 y7) fun _=>
 ret (Value.int .i64 0)))))
theorem Zlw (Γ : Zc) (x0 x1 x2 : Value) : Zy Tryz.prog Γ Tryz.f146 Zf7 [x0,x1,x2]=Kg Γ x0 x1 x2:=by kernel_rfl
theorem ZkE {prim : FuncId→Option (List Value→M Value)} (hp : prim Wo=none) (n : Nat) (x0 x1 x2 : Value) : run Tryz.prog prim lvs (n+1) Wo [x0,x1,x2]=Kg (run Tryz.prog prim lvs n) x0 x1 x2:=
 (Zk hp (by kernel_rfl) Tryz.func146 (by kernel_rfl)).trans (Zlw _ x0 x1 x2)
noncomputable def QE.l1 (Γ : Zc) (s0 s1 s2 s26 s27 s28 : Value) : M Out:=
 bind (bop .int .lss s28 s27) fun y10=>
 cnd y10
 (bind (ixa 1 s26 s28) fun y11=>
 bind (ld1 y11) fun y12=>
 bind (Qa s0) fun y13=>
 bind (fa 0 y13) fun y14=>
 bind (ld1 y14) fun y15=>
 bind (lkp .str (.map none) false y15 y12) fun y16=>
 bind (mde .str y16 s1) fun _=>
 bind (Qa s0) fun y17=>
 bind (fa 0 y17) fun y18=>
 bind (ld1 y18) fun y19=>
 bind (lkp .str (.map none) false y19 y12) fun y20=>
 bind (bld (.agg #[]) []) fun y21=>
 bind (mup .str y20 s2 y21) fun _=>
 bind (bop .int .add s28 (Value.int .i64 1)) fun y22=>
 ret (.nrm [s0,s1,s2,s26,s27,y22]))
 (ret (.ext 0 []))
noncomputable def QE (Γ : Zc) (x0 x1 x2 : Value) : M Value:=
 bind (bsl 1 1 (.string ⟨#[]⟩) [(0,1,x2)]) fun y1=>
 bind (Γ ZaW [y1]) fun y2=>
 bind (bop .int .neq y2 (Value.int .i64 0)) fun y3=>
 cnd y3
 (ret y2)
 (bind (bop .str .eql x1 x2) fun y4=>
 cnd y4
 (ret (Value.int .i64 0))
 (bind (Γ JT [x0,x2]) fun y5=>
 bind (Zw y5) fun y6=>
 bind (bop .int .gtr y6 (Value.int .i64 0)) fun y7=>
 cnd y7
 (ret (Value.int .i64 9))
 (bind (Γ JT [x0,x1]) fun y8=>
 bind (Zw y8) fun y9=>
 jn (Zi (c6 (QE.l1 Γ)) [x0,x1,x2,y8,y9,(Value.int .i64 0)]) noN (xk 0 (c0 (ret (Value.int .i64 0))) noX) ret)))
theorem Zjb (Γ : Zc) (x0 x1 x2 : Value) : Zy Tryz.prog Γ Tryz.f147 ZeE [x0,x1,x2]=QE Γ x0 x1 x2:=by kernel_rfl
theorem ZiL {prim : FuncId→Option (List Value→M Value)} (hp : prim Ko=none) (n : Nat) (x0 x1 x2 : Value) : run Tryz.prog prim lvs (n+1) Ko [x0,x1,x2]=QE (run Tryz.prog prim lvs n) x0 x1 x2:=
 (Zk hp (by kernel_rfl) Tryz.func147 (by kernel_rfl)).trans (Zjb _ x0 x1 x2)
noncomputable def ZbG (Γ : Zc) (x0 x1 : Value) : M Value:=
 bind (alc 1 x0) fun y1=>
 bind (alc 1 (.agg #[.slice none 0 0,.slice none 0 0])) fun y2=>
 bind (Γ QI [x1]) fun y3=>
 bind (uop .not y3) fun y4=>
 cnd y4
 (bind (ldA 2 y1) fun y5=>
 bind (stA 2 y2 y5) fun _=>
 bind (ldA 2 y2) fun y6=>
 ret (Value.tuple #[y6,(Value.int .i64 10)]))
 (bind (fa 0 y1) fun y7=>
 bind (ld1 y7) fun y8=>
 bind (Γ Zan [y8,x1]) fun y9=>
 cnd y9
 (bind (ldA 2 y1) fun y10=>
 bind (stA 2 y2 y10) fun _=>
 bind (ldA 2 y2) fun y11=>
 ret (Value.tuple #[y11,(Value.int .i64 9)]))
 (bind (fa 0 y1) fun y12=>
 bind (ld1 y12) fun y13=>
 bind (Zw y13) fun y14=>
 bind (bop .int .geq y14 (Value.int .i64 6)) fun y15=>
 cnd y15
 (bind (ldA 2 y1) fun y16=>
 bind (stA 2 y2 y16) fun _=>
 bind (ldA 2 y2) fun y17=>
 ret (Value.tuple #[y17,(Value.int .i64 7)]))
 (bind (bsl 1 0 (.string ⟨#[]⟩) []) fun y18=>
 bind (fa 0 y1) fun y19=>
 bind (ld1 y19) fun y20=>
 bind (app 1 16 y18 y20) fun y21=>
 bind (bsl 1 1 (.string ⟨#[]⟩) [(0,1,x1)]) fun y22=>
 bind (app 1 16 y21 y22) fun y23=>
 bind (Γ W5 [y23]) fun y24=>
 bind (fa 0 y1) fun y25=>
 bind (st1 y25 y24) fun _=>
 bind (ldA 2 y1) fun y26=>
 bind (stA 2 y2 y26) fun _=>
 bind (ldA 2 y2) fun y27=>
 ret (Value.tuple #[y27,(Value.int .i64 0)]))))
theorem ZtK (Γ : Zc) (x0 x1 : Value) : Zy Tryz.prog Γ Tryz.f148 Zms [x0,x1]=ZbG Γ x0 x1:=by kernel_rfl
theorem Zsf {prim : FuncId→Option (List Value→M Value)} (hp : prim ZdT=none) (n : Nat) (x0 x1 : Value) : run Tryz.prog prim lvs (n+1) ZdT [x0,x1]=ZbG (run Tryz.prog prim lvs n) x0 x1:=
 (Zk hp (by kernel_rfl) Tryz.func148 (by kernel_rfl)).trans (ZtK _ x0 x1)
noncomputable def Je.l1 (Γ : Zc) (s1 s2 s4 s6 s23 s24 s25 : Value) : M Out:=
 bind (bop .int .lss s25 s24) fun y16=>
 cnd y16
 (bind (ixa 1 s23 s25) fun y17=>
 bind (ld1 y17) fun y18=>
 bind (bop .str .neq y18 s1) fun y19=>
 jn (cnd y19
 (bind (bsl 1 1 (.string ⟨#[]⟩) [(0,1,y18)]) fun y20=>
 bind (app 1 16 s6 y20) fun y21=>
 ret (.nrm [s1,s2,s4,y21,s23,s24,s25]))
 (ret (.nrm [s1,s2,s4,s6,s23,s24,s25]))) (c7 fun q22_0 q22_1 q22_2 q22_3 q22_4 q22_5 q22_6=>
 bind (bop .int .add q22_6 (Value.int .i64 1)) fun y23=>
 ret (.nrm [q22_0,q22_1,q22_2,q22_3,q22_4,q22_5,y23])) noX ZW)
 (ret (.ext 0 [s1,s2,s4,s6]))
noncomputable def Je.l2 (Γ : Zc) (s1 s4 s6 s9 s38 s39 s40 : Value) : M Out:=
 bind (bop .int .lss s40 s39) fun y30=>
 cnd y30
 (bind (ixa 2 s38 s40) fun y31=>
 bind (ldA 2 y31) fun y32=>
 bind (alc 1 (.agg #[.string ⟨#[]⟩,.string ⟨#[]⟩])) fun y33=>
 bind (stA 2 y33 y32) fun _=>
 bind (fa 0 y33) fun y34=>
 bind (ld1 y34) fun y35=>
 bind (bop .str .neq y35 s1) fun y36=>
 jn (cnd y36
 (bind (ldA 2 y33) fun y37=>
 bind (bsl 2 1 (.agg #[.string ⟨#[]⟩,.string ⟨#[]⟩]) [(0,2,y37)]) fun y38=>
 bind (app 2 32 s9 y38) fun y39=>
 ret (.nrm [s1,s4,s6,y39,s38,s39,s40]))
 (ret (.nrm [s1,s4,s6,s9,s38,s39,s40]))) (c7 fun q40_0 q40_1 q40_2 q40_3 q40_4 q40_5 q40_6=>
 bind (bop .int .add q40_6 (Value.int .i64 1)) fun y41=>
 ret (.nrm [q40_0,q40_1,q40_2,q40_3,q40_4,q40_5,y41])) noX ZW)
 (ret (.ext 2 [s4,s6,s9]))
noncomputable def Je (Γ : Zc) (x0 x1 : Value) : M Value:=
 bind (alc 1 x0) fun y1=>
 bind (alc 1 (.agg #[.slice none 0 0,.slice none 0 0])) fun y2=>
 bind (Γ QI [x1]) fun y3=>
 bind (uop .not y3) fun y4=>
 cnd y4
 (bind (ldA 2 y1) fun y5=>
 bind (stA 2 y2 y5) fun _=>
 bind (ldA 2 y2) fun y6=>
 ret (Value.tuple #[y6,(Value.int .i64 10)]))
 (bind (fa 0 y1) fun y7=>
 bind (ld1 y7) fun y8=>
 bind (Γ Zan [y8,x1]) fun y9=>
 bind (uop .not y9) fun y10=>
 cnd y10
 (bind (ldA 2 y1) fun y11=>
 bind (stA 2 y2 y11) fun _=>
 bind (ldA 2 y2) fun y12=>
 ret (Value.tuple #[y12,(Value.int .i64 8)]))
 (bind (fa 0 y1) fun y13=>
 bind (ld1 y13) fun y14=>
 bind (Zw y14) fun y15=>
 jn (Zi (c7 (Je.l1 Γ)) [x1,y1,y2,(Value.slice none 0 0),y14,y15,(Value.int .i64 0)]) noN (xk 0 (c4 fun q26_0 q26_1 q26_2 q26_3=>
 bind (fa 1 q26_1) fun y27=>
 bind (ld1 y27) fun y28=>
 bind (Zw y28) fun y29=>
 jn (Zi (c7 (Je.l2 Γ)) [q26_0,q26_2,q26_3,(Value.slice none 0 0),y28,y29,(Value.int .i64 0)]) noN (xk 2 (c3 fun q44_0 q44_1 q44_2=>
 bind (bld (.agg #[.slice none 0 0,.slice none 0 0]) [(0,1,q44_1),(1,1,q44_2)]) fun y45=>
 bind (stA 2 q44_0 y45) fun _=>
 bind (ldA 2 q44_0) fun y46=>
 ret (Value.tuple #[y46,(Value.int .i64 0)])) noX) ret) noX) ret))
theorem ZsX (Γ : Zc) (x0 x1 : Value) : Zy Tryz.prog Γ Tryz.f149 Zlp [x0,x1]=Je Γ x0 x1:=by kernel_rfl
theorem Zr7 {prim : FuncId→Option (List Value→M Value)} (hp : prim ZdS=none) (n : Nat) (x0 x1 : Value) : run Tryz.prog prim lvs (n+1) ZdS [x0,x1]=Je (run Tryz.prog prim lvs n) x0 x1:=
 (Zk hp (by kernel_rfl) Tryz.func149 (by kernel_rfl)).trans (ZsX _ x0 x1)
noncomputable def YB.l1 (Γ : Zc) (s1 s5 s8 s9 s10 : Value) : M Out:=
 bind (bop .int .lss s10 s9) fun y2=>
 cnd y2
 (bind (ixa 1 s8 s10) fun y3=>
 bind (ld1 y3) fun y4=>
 bind (bop .str .neq y4 s1) fun y5=>
 jn (cnd y5
 (bind (bsl 1 1 (.string ⟨#[]⟩) [(0,1,y4)]) fun y6=>
 bind (app 1 16 s5 y6) fun y7=>
 ret (.nrm [s1,y7,s8,s9,s10]))
 (ret (.nrm [s1,s5,s8,s9,s10]))) (c5 fun q8_0 q8_1 q8_2 q8_3 q8_4=>
 bind (bop .int .add q8_4 (Value.int .i64 1)) fun y9=>
 ret (.nrm [q8_0,q8_1,q8_2,q8_3,y9])) noX ZW)
 (ret (.ext 0 [s5]))
noncomputable def YB (Γ : Zc) (x0 x1 : Value) : M Value:=
 bind (Zw x0) fun y1=>
 jn (Zi (c5 (YB.l1 Γ)) [x1,(Value.slice none 0 0),x0,y1,(Value.int .i64 0)]) noN (xk 0 (c1 fun q12_0=>
 ret q12_0) noX) ret
theorem ZoP (Γ : Zc) (x0 x1 : Value) : Zy Tryz.prog Γ Tryz.f150 ZhO [x0,x1]=YB Γ x0 x1:=by kernel_rfl
theorem Zn1 {prim : FuncId→Option (List Value→M Value)} (hp : prim ZaK=none) (n : Nat) (x0 x1 : Value) : run Tryz.prog prim lvs (n+1) ZaK [x0,x1]=YB (run Tryz.prog prim lvs n) x0 x1:=
 (Zk hp (by kernel_rfl) Tryz.func150 (by kernel_rfl)).trans (ZoP _ x0 x1)
noncomputable def Zae (Γ : Zc) (x0 x1 : Value) : M Value:=
 bind (Γ Ye [x0,x1,(Value.slice none 0 0)]) fun y1=>
 bind (Zn y1 0) fun y2=>
 bind (Zn y1 1) fun y3=>
 bind (bop .int .eql y3 (Value.int .i64 0)) fun y4=>
 jn (cnd y4
 (bind (Qa x0) fun y5=>
 bind (fa 0 y5) fun y6=>
 bind (ld1 y6) fun y7=>
 bind (mde .str y7 x1) fun _=>
 ret (.nrm [y3]))
 (ret (.nrm [y3]))) (c1 fun q8_0=>
 ret q8_0) noX ret
theorem Zlb (Γ : Zc) (x0 x1 : Value) : Zy Tryz.prog Γ Tryz.f151 Zf3 [x0,x1]=Zae Γ x0 x1:=by kernel_rfl
theorem ZkD {prim : FuncId→Option (List Value→M Value)} (hp : prim Wn=none) (n : Nat) (x0 x1 : Value) : run Tryz.prog prim lvs (n+1) Wn [x0,x1]=Zae (run Tryz.prog prim lvs n) x0 x1:=
 (Zk hp (by kernel_rfl) Tryz.func151 (by kernel_rfl)).trans (Zlb _ x0 x1)
noncomputable def Zgk (Γ : Zc) (x0 x1 x2 : Value) : M Value:=
 bind (alc 1 x0) fun y1=>
 bind (alc 1 (.agg #[.string ⟨#[]⟩,.string ⟨#[]⟩,.string ⟨#[]⟩,.bool false,.slice none 0 0])) fun y2=>
 bind (ldA 2 y1) fun y3=>
 bind (Γ J5 [y3,x2]) fun y4=>
 bind (Zn y4 0) fun y5=>
 bind (Zn y4 1) fun y6=>
 bind (alc 1 (.agg #[.string ⟨#[]⟩,.string ⟨#[]⟩,.string ⟨#[]⟩,.bool false,.slice none 0 0])) fun y7=>
 bind (stA 5 y7 y5) fun _=>
 bind (bop .int .eql y6 (Value.int .i64 10)) fun y8=>
 bind (ZJ y8 false 3 (bind (Γ QI [x1]) fun y9=>
 bind (uop .not y9) fun y10=>
 ret [x1,y9,y10])) (c3 fun _ _ q11_2=>
 bind (pick y8 (Value.bool true) q11_2) fun y12=>
 cnd y12
 (bind (ldA 5 y7) fun y13=>
 bind (stA 5 y2 y13) fun _=>
 bind (ldA 5 y2) fun y14=>
 ret (Value.tuple #[y14,(Value.int .i64 10)]))
 (bind (bop .int .neq y6 (Value.int .i64 0)) fun y15=>
 bind (ZJ y15 false 5 (bind (fa 1 y1) fun y16=>
 bind (ld1 y16) fun y17=>
 bind (Γ K7 [y17,x1]) fun y18=>
 bind (uop .not y18) fun y19=>
 ret [y16,y17,x1,y18,y19])) (c5 fun _ _ _ _ q20_4=>
 bind (pick y15 (Value.bool true) q20_4) fun y21=>
 cnd y21
 (bind (ldA 5 y7) fun y22=>
 bind (stA 5 y2 y22) fun _=>
 bind (ldA 5 y2) fun y23=>
 ret (Value.tuple #[y23,(Value.int .i64 8)]))
 (bind (ldA 5 y7) fun y24=>
 bind (stA 5 y2 y24) fun _=>
 bind (ldA 5 y2) fun y25=>
 ret (Value.tuple #[y25,(Value.int .i64 0)])))))
theorem Zq2 (Γ : Zc) (x0 x1 x2 : Value) : Zy Tryz.prog Γ Tryz.f152 ZiY [x0,x1,x2]=Zgk Γ x0 x1 x2:=by kernel_rfl
theorem Zph {prim : FuncId→Option (List Value→M Value)} (hp : prim Zbe=none) (n : Nat) (x0 x1 x2 : Value) : run Tryz.prog prim lvs (n+1) Zbe [x0,x1,x2]=Zgk (run Tryz.prog prim lvs n) x0 x1 x2:=
 (Zk hp (by kernel_rfl) Tryz.func152 (by kernel_rfl)).trans (Zq2 _ x0 x1 x2)
noncomputable def Jh.l2 (Γ : Zc) (s5 s6 s7 s10 s11 s12 s19 s20 s21 : Value) : M Out:=
 bind (bop .int .lss s21 s20) fun y7=>
 cnd y7
 (bind (ixa 1 s19 s21) fun y8=>
 bind (ld1 y8) fun y9=>
 bind (uop .not s7) fun y10=>
 bind (ZJ y10 true 3 (bind (bop .str .lss s5 y9) fun y11=>
 ret [s5,y9,y11])) (c3 fun _ _ q12_2=>
 bind (pick y10 q12_2 (Value.bool false)) fun y13=>
 jn (cnd y13
 (bind (bsl 1 1 (.string ⟨#[]⟩) [(0,1,s5)]) fun y14=>
 bind (app 1 16 s6 y14) fun y15=>
 ret (.nrm [s5,y15,(Value.bool true),y9,s10,s11,s12,s19,s20,s21]))
 (ret (.nrm [s5,s6,s7,y9,s10,s11,s12,s19,s20,s21]))) (c10 fun q16_0 q16_1 q16_2 q16_3 q16_4 q16_5 q16_6 q16_7 q16_8 q16_9=>
 bind (bsl 1 1 (.string ⟨#[]⟩) [(0,1,q16_3)]) fun y17=>
 bind (app 1 16 q16_1 y17) fun y18=>
 bind (bop .int .add q16_9 (Value.int .i64 1)) fun y19=>
 ret (.nrm [q16_0,y18,q16_2,q16_4,q16_5,q16_6,q16_7,q16_8,y19])) noX ZW))
 (ret (.ext 2 [s5,s6,s7,s10,s11,s12]))
noncomputable def Jh.l1 (Γ : Zc) (s3 s10 s11 s12 : Value) : M Out:=
 bind (bop .int .lss s12 s11) fun y2=>
 cnd y2
 (jn (bind (ixa 1 s10 s12) fun y3=>
 bind (ld1 y3) fun y4=>
 bind (Γ Zan [s3,y4]) fun y5=>
 cnd y5
 (ret (.nrm [s3,s10,s11,s12]))
 (bind (Zw s3) fun y6=>
 jn (Zi (c9 (Jh.l2 Γ)) [y4,(Value.slice none 0 0),(Value.bool false),s10,s11,s12,s3,y6,(Value.int .i64 0)]) noN (xk 2 (c6 fun q22_0 q22_1 q22_2 q22_3 q22_4 q22_5=>
 bind (uop .not q22_2) fun y23=>
 jn (cnd y23
 (bind (bsl 1 1 (.string ⟨#[]⟩) [(0,1,q22_0)]) fun y24=>
 bind (app 1 16 q22_1 y24) fun y25=>
 ret (.nrm [y25,q22_3,q22_4,q22_5]))
 (ret (.nrm [q22_1,q22_3,q22_4,q22_5]))) (c4 fun q26_0 q26_1 q26_2 q26_3=>
 ret (.nrm [q26_0,q26_1,q26_2,q26_3])) noX ZW) noX) ZW)) (c4 fun q29_0 q29_1 q29_2 q29_3=>
 bind (bop .int .add q29_3 (Value.int .i64 1)) fun y30=>
 ret (.nrm [q29_0,q29_1,q29_2,y30])) noX ZW)
 (ret (.ext 0 [s3]))
noncomputable def Jh (Γ : Zc) (x0 : Value) : M Value:=
 bind (Zw x0) fun y1=>
 jn (Zi (c4 (Jh.l1 Γ)) [(Value.slice none 0 0),x0,y1,(Value.int .i64 0)]) noN (xk 0 (c1 fun q33_0=>
 ret q33_0) noX) ret
theorem Zqz (Γ : Zc) (x0 : Value) : Zy Tryz.prog Γ Tryz.f153 ZiO [x0]=Jh Γ x0:=by kernel_rfl
theorem ZpI {prim : FuncId→Option (List Value→M Value)} (hp : prim W5=none) (n : Nat) (x0 : Value) : run Tryz.prog prim lvs (n+1) W5 [x0]=Jh (run Tryz.prog prim lvs n) x0:=
 (Zk hp (by kernel_rfl) Tryz.func153 (by kernel_rfl)).trans (Zqz _ x0)
noncomputable def ZaT (Γ : Zc) (x0 x1 x2 : Value) : M Value:=
 bind (Γ Q9 [x1]) fun y1=>
 bind (bop .int .neq y1 (Value.int .i64 0)) fun y2=>
 cnd y2
 (ret y1)
 (bind (Γ QT [x0,x2]) fun y3=>
 bind (Zn y3 0) fun y4=>
 bind (Zn y3 1) fun y5=>
 bind (alc 1 (.agg #[.string ⟨#[]⟩,.bool false])) fun y6=>
 bind (stA 2 y6 y4) fun _=>
 ret y5)
theorem ZmZ (Γ : Zc) (x0 x1 x2 : Value) : Zy Tryz.prog Γ Tryz.f154 ZgB [x0,x1,x2]=ZaT Γ x0 x1 x2:=by kernel_rfl
theorem Zmb {prim : FuncId→Option (List Value→M Value)} (hp : prim WD=none) (n : Nat) (x0 x1 x2 : Value) : run Tryz.prog prim lvs (n+1) WD [x0,x1,x2]=ZaT (run Tryz.prog prim lvs n) x0 x1 x2:=
 (Zk hp (by kernel_rfl) Tryz.func154 (by kernel_rfl)).trans (ZmZ _ x0 x1 x2)
noncomputable def KS (Γ : Zc) (x0 x1 x2 : Value) : M Value:=
 bind (bsl 1 1 (.string ⟨#[]⟩) [(0,1,x2)]) fun y1=>
 bind (Γ Ye [x0,x1,y1]) fun y2=>
 bind (Zn y2 0) fun y3=>
 bind (Zn y2 1) fun y4=>
 bind (bop .int .neq y4 (Value.int .i64 0)) fun y5=>
 cnd y5
 (ret y4)
 (bind (lkp .str (.agg #[]) true y3 x2) fun y6=>
 bind (Zn y6 0) fun y7=>
 bind (Zn y6 1) fun y8=>
 bind (alc 1 (.agg #[])) fun y9=>
 bind (stA 0 y9 y7) fun _=>
 bind (uop .not y8) fun y10=>
 cnd y10
 (ret (Value.int .i64 12))
 (bind (mde .str y3 x2) fun _=>
 ret (Value.int .i64 0)))
theorem Zku (Γ : Zc) (x0 x1 x2 : Value) : Zy Tryz.prog Γ Tryz.f155 Zfi [x0,x1,x2]=KS Γ x0 x1 x2:=by kernel_rfl
theorem Zjm {prim : FuncId→Option (List Value→M Value)} (hp : prim KT=none) (n : Nat) (x0 x1 x2 : Value) : run Tryz.prog prim lvs (n+1) KT [x0,x1,x2]=KS (run Tryz.prog prim lvs n) x0 x1 x2:=
 (Zk hp (by kernel_rfl) Tryz.func155 (by kernel_rfl)).trans (Zku _ x0 x1 x2)
noncomputable def Zfd (Γ : Zc) (x0 : Value) : M Value:=
 bind (Qa x0) fun y1=>
 bind (fa 0 y1) fun y2=>
 bind (ld1 y2) fun y3=>
 bind (Qa x0) fun y4=>
 bind (fa 1 y4) fun y5=>
 bind (ld1 y5) fun y6=>
 bind (Γ Qs [y3]) fun y7=>
 bind (ld1 y5) fun u_8=>same u_8 y6 <|
 bind (Γ Qs [y6]) fun y9=>
 bind (bld (.agg #[.map none,.map none]) [(0,1,y7),(1,1,y9)]) fun y10=>
 bind (alc 1 y10) fun y11=>
 ret y11
theorem Zn5 (Γ : Zc) (x0 : Value) : Zy Tryz.prog Γ Tryz.f157 Zhl [x0]=Zfd Γ x0:=by kernel_rfl
theorem ZmU {prim : FuncId→Option (List Value→M Value)} (hp : prim Zbn=none) (n : Nat) (x0 : Value) : run Tryz.prog prim lvs (n+1) Zbn [x0]=Zfd (run Tryz.prog prim lvs n) x0:=
 (Zk hp (by kernel_rfl) Tryz.func157 (by kernel_rfl)).trans (Zn5 _ x0)
noncomputable def Zah.l1 (Γ : Zc) (s0 s5 s6 s7 : Value) : M Out:=
 bind (bop .int .lss s7 s6) fun y1=>
 cnd y1
 (bind (bop .int .rem s0 (Value.int .u64 256)) fun y2=>
 bind (cvi .u8 y2) fun y3=>
 bind (bsl 1 1 (.int .u8 0) [(0,1,y3)]) fun y4=>
 bind (b2s y4) fun y5=>
 bind (bop .str .add s5 y5) fun y6=>
 bind (bop .int .quo s0 (Value.int .u64 256)) fun y7=>
 bind (bop .int .add s7 (Value.int .i64 1)) fun y8=>
 ret (.nrm [y7,y6,s6,y8]))
 (ret (.ext 0 [s5]))
noncomputable def Zah (Γ : Zc) (x0 x1 : Value) : M Value:=
 jn (Zi (c4 (Zah.l1 Γ)) [x0,(Value.string ⟨#[]⟩),x1,(Value.int .i64 0)]) noN (xk 0 (c1 fun q10_0=>
 ret q10_0) noX) ret
theorem Zvp (Γ : Zc) (x0 x1 : Value) : Zy Tryz.prog Γ Tryz.f159 Znq [x0,x1]=Zah Γ x0 x1:=by kernel_rfl
theorem ZtS {prim : FuncId→Option (List Value→M Value)} (hp : prim Zal=none) (n : Nat) (x0 x1 : Value) : run Tryz.prog prim lvs (n+1) Zal [x0,x1]=Zah (run Tryz.prog prim lvs n) x0 x1:=
 (Zk hp (by kernel_rfl) Tryz.func159 (by kernel_rfl)).trans (Zvp _ x0 x1)
noncomputable def Zit (Γ : Zc) (x0 : Value) : M Value:=
 bind (JI x0) fun y1=>
 bind (cvi .u64 y1) fun y2=>
 bind (Γ Zal [y2,(Value.int .i64 2)]) fun y3=>
 bind (bop .str .add y3 x0) fun y4=>
 ret y4
theorem ZuL (Γ : Zc) (x0 : Value) : Zy Tryz.prog Γ Tryz.f160 Zk6 [x0]=Zit Γ x0:=by kernel_rfl
theorem ZsG {prim : FuncId→Option (List Value→M Value)} (hp : prim K1=none) (n : Nat) (x0 : Value) : run Tryz.prog prim lvs (n+1) K1 [x0]=Zit (run Tryz.prog prim lvs n) x0:=
 (Zk hp (by kernel_rfl) Tryz.func160 (by kernel_rfl)).trans (ZuL _ x0)
noncomputable def Zip (Γ : Zc) (x0 x1 : Value) : M Value:=
 bind (alc 1 x1) fun y1=>
 bind (fa 0 y1) fun y2=>
 bind (ld1 y2) fun y3=>
 bind (fa 1 y1) fun y4=>
 bind (ld1 y4) fun y5=>
 bind (Γ K1 [y3]) fun y6=>
 bind (ld1 y4) fun u_7=>same u_7 y5 <|
 bind (Γ K1 [y5]) fun y8=>
 bind (bop .str .add y6 y8) fun y9=>
 bind (bop .int .eql x0 (Value.int .i64 2)) fun y10=>
 jn (cnd y10
 (bind (fa 2 y1) fun y11=>
 bind (ld1 y11) fun y12=>
 bind (fa 3 y1) fun y13=>
 bind (ld1 y13) fun y14=>
 bind (fa 4 y1) fun y15=>
 bind (ld1 y15) fun y16=>
 bind (Γ K1 [y12]) fun y17=>
 bind (ld1 y15) fun u_18=>same u_18 y16 <|
 bind (ld1 y13) fun u_19=>same u_19 y14 <|
 bind (bop .str .add y9 y17) fun y20=>
 bind (Γ Zdk [y14]) fun y21=>
 bind (ld1 y15) fun u_22=>same u_22 y16 <|
 bind (bop .str .add y20 y21) fun y23=>
 bind (Γ Zdp [y16]) fun y24=>
 bind (bop .str .add y23 y24) fun y25=>
 ret (.nrm [y25]))
 (ret (.nrm [y9]))) (c1 fun q26_0=>
 ret q26_0) noX ret
theorem ZuP (Γ : Zc) (x0 x1 : Value) : Zy Tryz.prog Γ Tryz.f161 Zly [x0,x1]=Zip Γ x0 x1:=by kernel_rfl
theorem Zsh {prim : FuncId→Option (List Value→M Value)} (hp : prim ZfI=none) (n : Nat) (x0 x1 : Value) : run Tryz.prog prim lvs (n+1) ZfI [x0,x1]=Zip (run Tryz.prog prim lvs n) x0 x1:=
 (Zk hp (by kernel_rfl) Tryz.func161 (by kernel_rfl)).trans (ZuP _ x0 x1)
noncomputable def ZhI.l1 (Γ : Zc) (s1 s2 s4 s7 s24 s25 : Value) : M Out:=
 bind (bop .int .lss s25 s24) fun y16=>
 cnd y16
 (bind (ldA 2 s2) fun y17=>
 bind (Γ ZpM [y17,s1]) fun y18=>
 bind (Zn y18 0) fun y19=>
 bind (Zn y18 1) fun y20=>
 bind (alc 1 (.agg #[.string ⟨#[]⟩,.int .i64 0])) fun y21=>
 bind (alc 1 (.agg #[.string ⟨#[]⟩,.string ⟨#[]⟩,.string ⟨#[]⟩,.bool false,.slice none 0 0])) fun y22=>
 bind (stA 2 y21 y19) fun _=>
 bind (stA 5 y22 y20) fun _=>
 bind (ldA 2 y21) fun y23=>
 bind (stA 2 s2 y23) fun _=>
 bind (ldA 5 y22) fun y24=>
 bind (bsl 5 1 (.agg #[.string ⟨#[]⟩,.string ⟨#[]⟩,.string ⟨#[]⟩,.bool false,.slice none 0 0]) [(0,5,y24)]) fun y25=>
 bind (app 5 80 s7 y25) fun y26=>
 bind (bop .int .add s25 (Value.int .u64 1)) fun y27=>
 ret (.nrm [s1,s2,s4,y26,s24,y27]))
 (ret (.ext 0 [s1,s2,s4,s7]))
noncomputable def ZhI (Γ : Zc) (x0 x1 : Value) : M Value:=
 bind (alc 1 x0) fun y1=>
 bind (alc 1 (.agg #[.string ⟨#[]⟩,.int .i64 0])) fun y2=>
 bind (ldA 2 y1) fun y3=>
 bind (Γ ZjC [y3,(Value.int .i64 2)]) fun y4=>
 bind (Zn y4 0) fun y5=>
 bind (Zn y4 1) fun y6=>
 bind (stA 2 y1 y5) fun _=>
 bind (fa 1 y1) fun y7=>
 bind (ld1 y7) fun y8=>
 bind (bop .int .eql y8 (Value.int .i64 0)) fun y9=>
 bind (ZJ y9 true 2 (bind (bop .int .gtr y6 (Value.int .u64 12)) fun y10=>
 ret [y6,y10])) (c2 fun _ q11_1=>
 bind (pick y9 q11_1 (Value.bool false)) fun y12=>
 cnd y12
 (bind (ldA 2 y1) fun y13=>
 bind (Γ ZnK [y13,(Value.int .i64 7)]) fun y14=>
 bind (stA 2 y2 y14) fun _=>
 bind (ldA 2 y2) fun y15=>
 ret (Value.tuple #[y15,(Value.slice none 0 0)]))
 (jn (Zi (c6 (ZhI.l1 Γ)) [x1,y1,y2,(Value.slice none 0 0),y6,(Value.int .u64 0)]) noN (xk 0 (c4 fun q29_0 q29_1 q29_2 q29_3=>
 bind (fa 1 q29_1) fun y30=>
 bind (ld1 y30) fun y31=>
 bind (bop .int .eql y31 (Value.int .i64 0)) fun y32=>
 jn (cnd y32
 (bind (ldA 2 q29_1) fun y33=>
 bind (Γ ZrQ [q29_3,q29_0]) fun y34=>
 bind (ldA 2 q29_1) fun u_35=>same u_35 y33 <|
 bind (Γ ZnK [y33,y34]) fun y36=>
 bind (stA 2 q29_1 y36) fun _=>
 ret (.nrm [q29_1,q29_2,q29_3]))
 (ret (.nrm [q29_1,q29_2,q29_3]))) (c3 fun q37_0 q37_1 q37_2=>
 bind (fa 1 q37_0) fun y38=>
 bind (ld1 y38) fun y39=>
 bind (bop .int .neq y39 (Value.int .i64 0)) fun y40=>
 cnd y40
 (bind (ldA 2 q37_0) fun y41=>
 bind (stA 2 q37_1 y41) fun _=>
 bind (ldA 2 q37_1) fun y42=>
 ret (Value.tuple #[y42,(Value.slice none 0 0)]))
 (bind (ldA 2 q37_0) fun y43=>
 bind (stA 2 q37_1 y43) fun _=>
 bind (ldA 2 q37_1) fun y44=>
 ret (Value.tuple #[y44,q37_2]))) noX ret) noX) ret))
noncomputable def Zd9 (Γ : Zc) (x0 x1 x2 : Value) : M Value:=
 bind (ld1 x1) fun y1=>
 bind (Qa y1) fun y2=>
 bind (fa 0 y2) fun y3=>
 bind (ld1 y3) fun y4=>
 bind (lkp .str (.map none) false y4 x0) fun y5=>
 bind (ld1 x2) fun y6=>
 bind (lkp .str (.agg #[]) true y5 y6) fun y7=>
 bind (Zn y7 0) fun y8=>
 bind (Zn y7 1) fun y9=>
 bind (alc 1 (.agg #[])) fun y10=>
 bind (lkp .str (.agg #[]) true y5 y6) fun u_11=>same u_11 y7 <|
 bind (ld1 x2) fun u_12=>same u_12 y6 <|
 bind (lkp .str (.map none) false y4 x0) fun u_13=>same u_13 y5 <|
 bind (ld1 y3) fun u_14=>same u_14 y4 <|
 bind (ld1 x1) fun u_15=>same u_15 y1 <|
 bind (stA 0 y10 y8) fun _=>
 bind (uop .not y9) fun y16=>
 ret y16
theorem ZmP (Γ : Zc) (x0 x1 x2 : Value) : Zy Tryz.prog Γ Tryz.f166 Zgu [x0,x1,x2]=Zd9 Γ x0 x1 x2:=by kernel_rfl
theorem ZkY {prim : FuncId→Option (List Value→M Value)} (hp : prim KL=none) (n : Nat) (x0 x1 x2 : Value) : run Tryz.prog prim lvs (n+1) KL [x0,x1,x2]=Zd9 (run Tryz.prog prim lvs n) x0 x1 x2:=
 (Zk hp (by kernel_rfl) Tryz.func166 (by kernel_rfl)).trans (ZmP _ x0 x1 x2)
noncomputable def Zaw.l1 (Γ : Zc) (s0 s1 s7 s8 : Value) : M Out:=
 bind (bop .int .lss s8 s7) fun y2=>
 cnd y2
 (bind (ixs s0 s8) fun y3=>
 bind (Jn Γ s1 [y3]) fun y4=>
 bind (uop .not y4) fun y5=>
 cnd y5
 (ret (.ret (Value.bool false)))
 (bind (bop .int .add s8 (Value.int .i64 1)) fun y6=>
 ret (.nrm [s0,s1,s7,y6])))
 (ret (.ext 0 []))
noncomputable def Zaw (Γ : Zc) (x0 x1 : Value) : M Value:=
 bind (JI x0) fun y1=>
 jn (Zi (c4 (Zaw.l1 Γ)) [x0,x1,y1,(Value.int .i64 0)]) noN (xk 0 (c0 (ret (Value.bool true))) noX) ret
theorem ZwT (Γ : Zc) (x0 x1 : Value) : Zy Tryz.prog Γ Tryz.f167 Zpo [x0,x1]=Zaw Γ x0 x1:=by kernel_rfl
theorem Zvn {prim : FuncId→Option (List Value→M Value)} (hp : prim Wp=none) (n : Nat) (x0 x1 : Value) : run Tryz.prog prim lvs (n+1) Wp [x0,x1]=Zaw (run Tryz.prog prim lvs n) x0 x1:=
 (Zk hp (by kernel_rfl) Tryz.func167 (by kernel_rfl)).trans (ZwT _ x0 x1)
noncomputable def Zjh (Γ : Zc) (x0 : Value) : M Value:=
 bind (Γ YX [x0]) fun y1=>
 bind (ZJ y1 false 2 (bind (Γ Ku [x0]) fun y2=>
 ret [x0,y2])) (c2 fun _ q3_1=>
 bind (pick y1 (Value.bool true) q3_1) fun y4=>
 bind (ZJ y4 false 2 (bind (bop .int .eql x0 (Value.int .u8 45)) fun y5=>
 ret [x0,y5])) (c2 fun _ q6_1=>
 bind (pick y4 (Value.bool true) q6_1) fun y7=>
 bind (ZJ y7 false 2 (bind (bop .int .eql x0 (Value.int .u8 46)) fun y8=>
 ret [x0,y8])) (c2 fun _ q9_1=>
 bind (pick y7 (Value.bool true) q9_1) fun y10=>
 ret y10)))
theorem Zvf (Γ : Zc) (x0 : Value) : Zy Tryz.prog Γ Tryz.f168 ZnQ [x0]=Zjh Γ x0:=by kernel_rfl
theorem Ztd {prim : FuncId→Option (List Value→M Value)} (hp : prim Ze9=none) (n : Nat) (x0 : Value) : run Tryz.prog prim lvs (n+1) Ze9 [x0]=Zjh (run Tryz.prog prim lvs n) x0:=
 (Zk hp (by kernel_rfl) Tryz.func168 (by kernel_rfl)).trans (Zvf _ x0)
noncomputable def ZK.l1 (Γ : Zc) (s0 s1 s7 s8 : Value) : M Out:=
 bind (bop .int .lss s8 s7) fun y2=>
 cnd y2
 (bind (ixa 1 s0 s8) fun y3=>
 bind (ld1 y3) fun y4=>
 bind (Jn Γ s1 [y4]) fun y5=>
 cnd y5
 (ret (.ret s8))
 (bind (bop .int .add s8 (Value.int .i64 1)) fun y6=>
 ret (.nrm [s0,s1,s7,y6])))
 (ret (.ext 0 []))
noncomputable def ZK (Γ : Zc) (x0 x1 : Value) : M Value:=
 bind (Zw x0) fun y1=>
 jn (Zi (c4 (ZK.l1 Γ)) [x0,x1,y1,(Value.int .i64 0)]) noN (xk 0 (c0 (ret (Value.int .i64 (-1)))) noX) ret
theorem Ze2 (Γ : Zc) (x0 x1 : Value) : Zy Tryz.prog Γ Tryz.f169 Zbg [x0,x1]=ZK Γ x0 x1:=by kernel_rfl
theorem ZeA {prim : FuncId→Option (List Value→M Value)} (hp : prim Ya=none) (n : Nat) (x0 x1 : Value) : run Tryz.prog prim lvs (n+1) Ya [x0,x1]=ZK (run Tryz.prog prim lvs n) x0 x1:=
 (Zk hp (by kernel_rfl) Tryz.func169 (by kernel_rfl)).trans (Ze2 _ x0 x1)
noncomputable def Zgn (Γ : Zc) (x0 x1 : Value) : M Value:=
 bind (Γ Zbv [x0,x1]) fun y1=>
 ret y1
theorem ZqS (Γ : Zc) (x0 x1 : Value) : Zy Tryz.prog Γ Tryz.f172 ZiT [x0,x1]=Zgn Γ x0 x1:=by kernel_rfl
theorem Zpp {prim : FuncId→Option (List Value→M Value)} (hp : prim JR=none) (n : Nat) (x0 x1 : Value) : run Tryz.prog prim lvs (n+1) JR [x0,x1]=Zgn (run Tryz.prog prim lvs n) x0 x1:=
 (Zk hp (by kernel_rfl) Tryz.func172 (by kernel_rfl)).trans (ZqS _ x0 x1)
noncomputable def Jr (Γ : Zc) (x0 : Value) : M Value:=
 bind (alc 1 x0) fun y1=>
 ret (Value.func (.func 204) #[] #[y1])
theorem Zat (Γ : Zc) (x0 : Value) : Zy Tryz.prog Γ Tryz.f174 YN [x0]=Jr Γ x0:=by kernel_rfl
theorem Zac {prim : FuncId→Option (List Value→M Value)} (hp : prim QF=none) (n : Nat) (x0 : Value) : run Tryz.prog prim lvs (n+1) QF [x0]=Jr (run Tryz.prog prim lvs n) x0:=
 (Zk hp (by kernel_rfl) Tryz.func174 (by kernel_rfl)).trans (Zat _ x0)
noncomputable def J3.l1 (Γ : Zc) (s5 s6 s7 : Value) : M Out:=
 bind (bop .int .lss s7 s6) fun y2=>
 cnd y2
 (bind (ixa 1 s5 s7) fun y3=>
 bind (ld1 y3) fun y4=>
 bind (bop .int .neq y4 (Value.int .i64 0)) fun y5=>
 cnd y5
 (ret (.ret y4))
 (bind (bop .int .add s7 (Value.int .i64 1)) fun y6=>
 ret (.nrm [s5,s6,y6])))
 (ret (.ext 0 []))
noncomputable def J3 (Γ : Zc) (x0 : Value) : M Value:=
 bind (Zw x0) fun y1=>
 jn (Zi (c3 (J3.l1 Γ)) [x0,y1,(Value.int .i64 0)]) noN (xk 0 (c0 (ret (Value.int .i64 0))) noX) ret
theorem Ztr (Γ : Zc) (x0 : Value) : Zy Tryz.prog Γ Tryz.f175 ZlN [x0]=J3 Γ x0:=by kernel_rfl
theorem Zr3 {prim : FuncId→Option (List Value→M Value)} (hp : prim ZbE=none) (n : Nat) (x0 : Value) : run Tryz.prog prim lvs (n+1) ZbE [x0]=J3 (run Tryz.prog prim lvs n) x0:=
 (Zk hp (by kernel_rfl) Tryz.func175 (by kernel_rfl)).trans (Ztr _ x0)
noncomputable def ZeX (Γ : Zc) (x0 : Value) : M Value:=
 bind (bop .str .eql x0 (Value.string ⟨#[]⟩)) fun y1=>
 cnd y1
 (ret (Value.int .i64 0))
 (bind (Γ Zbl [x0]) fun y2=>
 bind (Zn y2 0) fun y3=>
 bind (Zn y2 1) fun y4=>
 bind (bop .int .neq y4 (Value.int .i64 0)) fun y5=>
 bind (ZJ y5 false 3 (bind (bop .str .neq y3 x0) fun y6=>
 ret [y3,x0,y6])) (c3 fun _ _ q7_2=>
 bind (pick y5 (Value.bool true) q7_2) fun y8=>
 cnd y8
 (ret (Value.int .i64 11))
 (ret (Value.int .i64 0))))
theorem Zvy (Γ : Zc) (x0 : Value) : Zy Tryz.prog Γ Tryz.f176 Znv [x0]=ZeX Γ x0:=by kernel_rfl
theorem ZtW {prim : FuncId→Option (List Value→M Value)} (hp : prim ZeW=none) (n : Nat) (x0 : Value) : run Tryz.prog prim lvs (n+1) ZeW [x0]=ZeX (run Tryz.prog prim lvs n) x0:=
 (Zk hp (by kernel_rfl) Tryz.func176 (by kernel_rfl)).trans (Zvy _ x0)
noncomputable def Jy.l1 (Γ : Zc) (s0 s10 s11 s12 : Value) : M Out:=
 bind (bop .int .lss s12 s11) fun y4=>
 cnd y4
 (bind (ixa 1 s10 s12) fun y5=>
 bind (ld1 y5) fun y6=>
 bind (Γ Q9 [y6]) fun y7=>
 bind (bop .int .neq y7 (Value.int .i64 0)) fun y8=>
 cnd y8
 (ret (.ret y7))
 (bind (bop .int .add s12 (Value.int .i64 1)) fun y9=>
 ret (.nrm [s0,s10,s11,y9])))
 (ret (.ext 0 [s0]))
noncomputable def Jy.l2 (Γ : Zc) (s0 s6 : Value) : M Out:=
 bind (Zw s0) fun y12=>
 bind (bop .int .lss s6 y12) fun y13=>
 cnd y13
 (bind (bop .int .sub s6 (Value.int .i64 1)) fun y14=>
 bind (ixa 1 s0 y14) fun y15=>
 bind (ld1 y15) fun y16=>
 bind (ixa 1 s0 s6) fun y17=>
 bind (ld1 y17) fun y18=>
 bind (bop .str .geq y16 y18) fun y19=>
 cnd y19
 (ret (.ret (Value.int .i64 9)))
 (bind (bop .int .add s6 (Value.int .i64 1)) fun y20=>
 ret (.nrm [s0,y20])))
 (ret (.ext 2 []))
noncomputable def Jy (Γ : Zc) (x0 : Value) : M Value:=
 bind (Zw x0) fun y1=>
 bind (bop .int .gtr y1 (Value.int .i64 6)) fun y2=>
 cnd y2
 (ret (Value.int .i64 7))
 (bind (Zw x0) fun y3=>
 jn (Zi (c4 (Jy.l1 Γ)) [x0,x0,y3,(Value.int .i64 0)]) noN (xk 0 (c1 fun q11_0=>
 jn (Zi (c2 (Jy.l2 Γ)) [q11_0,(Value.int .i64 1)]) noN (xk 2 (c0 (ret (Value.int .i64 0))) noX) ret) noX) ret)
theorem Zss (Γ : Zc) (x0 : Value) : Zy Tryz.prog Γ Tryz.f177 Zkg [x0]=Jy Γ x0:=by kernel_rfl
theorem Zrb {prim : FuncId→Option (List Value→M Value)} (hp : prim Zdj=none) (n : Nat) (x0 : Value) : run Tryz.prog prim lvs (n+1) Zdj [x0]=Jy (run Tryz.prog prim lvs n) x0:=
 (Zk hp (by kernel_rfl) Tryz.func177 (by kernel_rfl)).trans (Zss _ x0)
noncomputable def Zdo (Γ : Zc) (x0 : Value) : M Value:=
 bind (bop .str .eql x0 (Value.string ⟨#[]⟩)) fun y1=>
 bind (ZJ y1 false 3 (bind (JI x0) fun y2=>
 bind (bop .int .gtr y2 (Value.int .i64 12)) fun y3=>
 ret [x0,y2,y3])) (c3 fun _ _ q4_2=>
 bind (pick y1 (Value.bool true) q4_2) fun y5=>
 bind (ZJ y5 false 4 (bind (ixs x0 (Value.int .i64 0)) fun y6=>
 bind (Γ YX [y6]) fun y7=>
 bind (uop .not y7) fun y8=>
 ret [x0,y6,y7,y8])) (c4 fun _ _ _ q9_3=>
 bind (pick y5 (Value.bool true) q9_3) fun y10=>
 bind (ZJ y10 false 3 (bind (Γ Wp [x0,(Value.func (.func 168) #[] #[])]) fun y11=>
 bind (uop .not y11) fun y12=>
 ret [x0,y11,y12])) (c3 fun _ _ q13_2=>
 bind (pick y10 (Value.bool true) q13_2) fun y14=>
 cnd y14
 (ret (Value.bool false))
 (bind (JI x0) fun y15=>
 bind (bop .int .sub y15 (Value.int .i64 1)) fun y16=>
 bind (ixs x0 y16) fun y17=>
 bind (Γ YX [y17]) fun y18=>
 bind (ZJ y18 false 2 (bind (Γ Ku [y17]) fun y19=>
 ret [y17,y19])) (c2 fun _ q20_1=>
 bind (pick y18 (Value.bool true) q20_1) fun y21=>
 ret y21)))))
theorem Zsa (Γ : Zc) (x0 : Value) : Zy Tryz.prog Γ Tryz.f178 ZjZ [x0]=Zdo Γ x0:=by kernel_rfl
theorem Zqy {prim : FuncId→Option (List Value→M Value)} (hp : prim ZaQ=none) (n : Nat) (x0 : Value) : run Tryz.prog prim lvs (n+1) ZaQ [x0]=Zdo (run Tryz.prog prim lvs n) x0:=
 (Zk hp (by kernel_rfl) Tryz.func178 (by kernel_rfl)).trans (Zsa _ x0)
noncomputable def K8.l1 (Γ : Zc) (s6 s7 s8 : Value) : M Out:=
 bind (bop .int .lss s8 s7) fun y2=>
 cnd y2
 (bind (ixa 1 s6 s8) fun y3=>
 bind (ld1 y3) fun y4=>
 bind (Γ Q9 [y4]) fun y5=>
 bind (bop .int .neq y5 (Value.int .i64 0)) fun y6=>
 cnd y6
 (ret (.ret y5))
 (bind (bop .int .add s8 (Value.int .i64 1)) fun y7=>
 ret (.nrm [s6,s7,y7])))
 (ret (.ext 0 []))
noncomputable def K8 (Γ : Zc) (x0 : Value) : M Value:=
 bind (Zw x0) fun y1=>
 jn (Zi (c3 (K8.l1 Γ)) [x0,y1,(Value.int .i64 0)]) noN (xk 0 (c0 (ret (Value.int .i64 0))) noX) ret
theorem Zsr (Γ : Zc) (x0 : Value) : Zy Tryz.prog Γ Tryz.f179 Zj9 [x0]=K8 Γ x0:=by kernel_rfl
theorem Zq7 {prim : FuncId→Option (List Value→M Value)} (hp : prim ZaW=none) (n : Nat) (x0 : Value) : run Tryz.prog prim lvs (n+1) ZaW [x0]=K8 (run Tryz.prog prim lvs n) x0:=
 (Zk hp (by kernel_rfl) Tryz.func179 (by kernel_rfl)).trans (Zsr _ x0)
noncomputable def WH.l1 (Γ : Zc) (s3 s8 s9 s10 : Value) : M Out:=
 bind (bop .int .lss s10 s9) fun y3=>
 cnd y3
 (bind (ixa 1 s8 s10) fun y4=>
 bind (ld1 y4) fun y5=>
 bind (bop .int .geq y5 (Value.int .u8 65)) fun y6=>
 bind (ZJ y6 true 2 (bind (bop .int .leq y5 (Value.int .u8 90)) fun y7=>
 ret [y5,y7])) (c2 fun _ q8_1=>
 bind (pick y6 q8_1 (Value.bool false)) fun y9=>
 jn (cnd y9
 (bind (bop .int .add y5 (Value.int .u8 97)) fun y10=>
 bind (bop .int .sub y10 (Value.int .u8 65)) fun y11=>
 bind (ixa 1 s3 s10) fun y12=>
 bind (st1 y12 y11) fun _=>
 ret (.nrm [s3,s8,s9,s10]))
 (ret (.nrm [s3,s8,s9,s10]))) (c4 fun q13_0 q13_1 q13_2 q13_3=>
 bind (bop .int .add q13_3 (Value.int .i64 1)) fun y14=>
 ret (.nrm [q13_0,q13_1,q13_2,y14])) noX ZW))
 (ret (.ext 0 [s3]))
noncomputable def WH (Γ : Zc) (x0 : Value) : M Value:=
 bind (s2b x0) fun y1=>
 bind (Zw y1) fun y2=>
 jn (Zi (c4 (WH.l1 Γ)) [y1,y1,y2,(Value.int .i64 0)]) noN (xk 0 (c1 fun q17_0=>
 bind (b2s q17_0) fun y18=>
 ret y18) noX) ret
theorem Zvg (Γ : Zc) (x0 : Value) : Zy Tryz.prog Γ Tryz.f180 Znt [x0]=WH Γ x0:=by kernel_rfl
theorem Zt4 {prim : FuncId→Option (List Value→M Value)} (hp : prim ZeD=none) (n : Nat) (x0 : Value) : run Tryz.prog prim lvs (n+1) ZeD [x0]=WH (run Tryz.prog prim lvs n) x0:=
 (Zk hp (by kernel_rfl) Tryz.func180 (by kernel_rfl)).trans (Zvg _ x0)
noncomputable def Zhg (Γ : Zc) (x0 x1 : Value) : M Value:=
 bind (Γ We [x0,x1]) fun y1=>
 bind (Zn y1 0) fun y2=>
 bind (Zn y1 1) fun y3=>
 bind (Zn y1 2) fun y4=>
 ret (Value.tuple #[y2,y3,y4])
theorem ZsA (Γ : Zc) (x0 x1 : Value) : Zy Tryz.prog Γ Tryz.f181 Zj3 [x0,x1]=Zhg Γ x0 x1:=by kernel_rfl
theorem Zri {prim : FuncId→Option (List Value→M Value)} (hp : prim ZaY=none) (n : Nat) (x0 x1 : Value) : run Tryz.prog prim lvs (n+1) ZaY [x0,x1]=Zhg (run Tryz.prog prim lvs n) x0 x1:=
 (Zk hp (by kernel_rfl) Tryz.func181 (by kernel_rfl)).trans (ZsA _ x0 x1)
noncomputable def Zfq (Γ : Zc) (x0 x1 : Value) : M Value:=
 bind (Γ ZbN [x0,x1,(Value.int .i64 0),(Value.int .i64 (-1))]) fun y1=>
 ret y1
theorem Zo1 (Γ : Zc) (x0 x1 : Value) : Zy Tryz.prog Γ Tryz.f182 Zh1 [x0,x1]=Zfq Γ x0 x1:=by kernel_rfl
theorem Zoi {prim : FuncId→Option (List Value→M Value)} (hp : prim ZbS=none) (n : Nat) (x0 x1 : Value) : run Tryz.prog prim lvs (n+1) ZbS [x0,x1]=Zfq (run Tryz.prog prim lvs n) x0 x1:=
 (Zk hp (by kernel_rfl) Tryz.func182 (by kernel_rfl)).trans (Zo1 _ x0 x1)
noncomputable def Zih (Γ : Zc) (x0 : Value) : M Value:=
 bind (Γ YX [x0]) fun y1=>
 bind (ZJ y1 false 2 (bind (Γ Ku [x0]) fun y2=>
 ret [x0,y2])) (c2 fun _ q3_1=>
 bind (pick y1 (Value.bool true) q3_1) fun y4=>
 ret y4)
theorem ZtJ (Γ : Zc) (x0 : Value) : Zy Tryz.prog Γ Tryz.f183 ZkK [x0]=Zih Γ x0:=by kernel_rfl
theorem Zsc {prim : FuncId→Option (List Value→M Value)} (hp : prim ZdX=none) (n : Nat) (x0 : Value) : run Tryz.prog prim lvs (n+1) ZdX [x0]=Zih (run Tryz.prog prim lvs n) x0:=
 (Zk hp (by kernel_rfl) Tryz.func183 (by kernel_rfl)).trans (ZtJ _ x0)
noncomputable def Zdl (Γ : Zc) (x0 : Value) : M Value:=
 bind (bop .int .geq x0 (Value.int .u8 97)) fun y1=>
 bind (ZJ y1 true 2 (bind (bop .int .leq x0 (Value.int .u8 122)) fun y2=>
 ret [x0,y2])) (c2 fun _ q3_1=>
 bind (pick y1 q3_1 (Value.bool false)) fun y4=>
 ret y4)
theorem Zr1 (Γ : Zc) (x0 : Value) : Zy Tryz.prog Γ Tryz.f184 ZjY [x0]=Zdl Γ x0:=by kernel_rfl
theorem Zq4 {prim : FuncId→Option (List Value→M Value)} (hp : prim YX=none) (n : Nat) (x0 : Value) : run Tryz.prog prim lvs (n+1) YX [x0]=Zdl (run Tryz.prog prim lvs n) x0:=
 (Zk hp (by kernel_rfl) Tryz.func184 (by kernel_rfl)).trans (Zr1 _ x0)
noncomputable def ZdN (Γ : Zc) (x0 : Value) : M Value:=
 bind (bop .int .geq x0 (Value.int .u8 48)) fun y1=>
 bind (ZJ y1 true 2 (bind (bop .int .leq x0 (Value.int .u8 57)) fun y2=>
 ret [x0,y2])) (c2 fun _ q3_1=>
 bind (pick y1 q3_1 (Value.bool false)) fun y4=>
 ret y4)
theorem Ztc (Γ : Zc) (x0 : Value) : Zy Tryz.prog Γ Tryz.f185 Zk8 [x0]=ZdN Γ x0:=by kernel_rfl
theorem Zsj {prim : FuncId→Option (List Value→M Value)} (hp : prim Ku=none) (n : Nat) (x0 : Value) : run Tryz.prog prim lvs (n+1) Ku [x0]=ZdN (run Tryz.prog prim lvs n) x0:=
 (Zk hp (by kernel_rfl) Tryz.func185 (by kernel_rfl)).trans (Ztc _ x0)
noncomputable def Zb3 (Γ : Zc) (x0 : Value) : M Value:=
 bind (Γ Ji [x0]) fun y1=>
 bind (Γ Yj [y1,(Value.func (.func 172) #[] #[])]) fun y2=>
 ret y2
theorem Zir (Γ : Zc) (x0 : Value) : Zy Tryz.prog Γ Tryz.f186 ZdR [x0]=Zb3 Γ x0:=by kernel_rfl
theorem ZhD {prim : FuncId→Option (List Value→M Value)} (hp : prim WY=none) (n : Nat) (x0 : Value) : run Tryz.prog prim lvs (n+1) WY [x0]=Zb3 (run Tryz.prog prim lvs n) x0:=
 (Zk hp (by kernel_rfl) Tryz.func186 (by kernel_rfl)).trans (Zir _ x0)
noncomputable def Zab (Γ : Zc) (x0 x1 : Value) : M Value:=
 bind (Qa x0) fun y1=>
 bind (fa 0 y1) fun y2=>
 bind (ld1 y2) fun y3=>
 bind (Zw y3) fun y4=>
 bind (bop .int .gtr x1 y4) fun y5=>
 cnd y5
 (bind (Γ Z5 [x0,(Value.int .i64 2)]) fun y6=>
 ret (Value.slice none 0 0))
 (bind (Qa x0) fun y7=>
 bind (fa 0 y7) fun y8=>
 bind (ld1 y8) fun y9=>
 bind (slv 1 y9 none (some x1) none) fun y10=>
 bind (Qa x0) fun y11=>
 bind (fa 0 y11) fun y12=>
 bind (ld1 y12) fun y13=>
 bind (slv 1 y13 (some x1) none none) fun y14=>
 bind (Qa x0) fun y15=>
 bind (fa 0 y15) fun y16=>
 bind (st1 y16 y14) fun _=>
 ret y10)
theorem Zmt (Γ : Zc) (x0 x1 : Value) : Zy Tryz.prog Γ Tryz.f187 ZfR [x0,x1]=Zab Γ x0 x1:=by kernel_rfl
theorem Zkv {prim : FuncId→Option (List Value→M Value)} (hp : prim Ki=none) (n : Nat) (x0 x1 : Value) : run Tryz.prog prim lvs (n+1) Ki [x0,x1]=Zab (run Tryz.prog prim lvs n) x0 x1:=
 (Zk hp (by kernel_rfl) Tryz.func187 (by kernel_rfl)).trans (Zmt _ x0 x1)
noncomputable def Zau.l1 (Γ : Zc) (s0 s1 s5 : Value) : M Out:=
 bind (JI s0) fun y1=>
 bind (bop .int .lss s5 y1) fun y2=>
 cnd y2
 (bind (ixs s0 s5) fun y3=>
 bind (Γ ZaB [y3,s1]) fun y4=>
 bind (uop .not y4) fun y5=>
 cnd y5
 (ret (.ret (Value.bool false)))
 (bind (bop .int .add s5 (Value.int .i64 1)) fun y6=>
 ret (.nrm [s0,s1,y6])))
 (ret (.ext 0 []))
noncomputable def Zau (Γ : Zc) (x0 x1 : Value) : M Value:=
 jn (Zi (c3 (Zau.l1 Γ)) [x0,x1,(Value.int .i64 0)]) noN (xk 0 (c0 (ret (Value.bool true))) noX) ret
theorem ZwK (Γ : Zc) (x0 x1 : Value) : Zy Tryz.prog Γ Tryz.f188 ZpG [x0,x1]=Zau Γ x0 x1:=by kernel_rfl
theorem ZvE {prim : FuncId→Option (List Value→M Value)} (hp : prim Zc0=none) (n : Nat) (x0 x1 : Value) : run Tryz.prog prim lvs (n+1) Zc0 [x0,x1]=Zau (run Tryz.prog prim lvs n) x0 x1:=
 (Zk hp (by kernel_rfl) Tryz.func188 (by kernel_rfl)).trans (ZwK _ x0 x1)
noncomputable def Zav.l1 (Γ : Zc) (s0 s1 s5 : Value) : M Out:=
 bind (JI s1) fun y1=>
 bind (bop .int .lss s5 y1) fun y2=>
 cnd y2
 (bind (ixs s1 s5) fun y3=>
 bind (bop .int .eql y3 s0) fun y4=>
 cnd y4
 (ret (.ret (Value.bool true)))
 (bind (bop .int .add s5 (Value.int .i64 1)) fun y5=>
 ret (.nrm [s0,s1,y5])))
 (ret (.ext 0 []))
noncomputable def Zav (Γ : Zc) (x0 x1 : Value) : M Value:=
 jn (Zi (c3 (Zav.l1 Γ)) [x0,x1,(Value.int .i64 0)]) noN (xk 0 (c0 (ret (Value.bool false))) noX) ret
theorem Zxg (Γ : Zc) (x0 x1 : Value) : Zy Tryz.prog Γ Tryz.f189 ZpP [x0,x1]=Zav Γ x0 x1:=by kernel_rfl
theorem Zu8 {prim : FuncId→Option (List Value→M Value)} (hp : prim ZaB=none) (n : Nat) (x0 x1 : Value) : run Tryz.prog prim lvs (n+1) ZaB [x0,x1]=Zav (run Tryz.prog prim lvs n) x0 x1:=
 (Zk hp (by kernel_rfl) Tryz.func189 (by kernel_rfl)).trans (Zxg _ x0 x1)
noncomputable def KZ.l1 (Γ : Zc) (s1 s7 s8 s9 : Value) : M Out:=
 bind (bop .int .lss s9 s8) fun y2=>
 cnd y2
 (bind (ixa 5 s7 s9) fun y3=>
 bind (ldA 5 y3) fun y4=>
 bind (alc 1 (.agg #[.string ⟨#[]⟩,.string ⟨#[]⟩,.string ⟨#[]⟩,.bool false,.slice none 0 0])) fun y5=>
 bind (stA 5 y5 y4) fun _=>
 bind (fa 0 y5) fun y6=>
 bind (ld1 y6) fun y7=>
 bind (bop .str .eql y7 s1) fun y8=>
 cnd y8
 (ret (.ret s9))
 (bind (bop .int .add s9 (Value.int .i64 1)) fun y9=>
 ret (.nrm [s1,s7,s8,y9])))
 (ret (.ext 0 []))
noncomputable def KZ (Γ : Zc) (x0 x1 : Value) : M Value:=
 bind (Zw x0) fun y1=>
 jn (Zi (c4 (KZ.l1 Γ)) [x1,x0,y1,(Value.int .i64 0)]) noN (xk 0 (c0 (ret (Value.int .i64 (-1)))) noX) ret
theorem Ztb (Γ : Zc) (x0 x1 : Value) : Zy Tryz.prog Γ Tryz.f190 Zl4 [x0,x1]=KZ Γ x0 x1:=by kernel_rfl
theorem ZsB {prim : FuncId→Option (List Value→M Value)} (hp : prim WL=none) (n : Nat) (x0 x1 : Value) : run Tryz.prog prim lvs (n+1) WL [x0,x1]=KZ (run Tryz.prog prim lvs n) x0 x1:=
 (Zk hp (by kernel_rfl) Tryz.func190 (by kernel_rfl)).trans (Ztb _ x0 x1)
noncomputable def ZcA (Γ : Zc) (x0 : Value) : M Value:=
 bind (Γ Ku [x0]) fun y1=>
 bind (ZJ y1 false 3 (bind (bop .int .geq x0 (Value.int .u8 97)) fun y2=>
 ret [x0,y2,y2])) (c3 fun _ _ q3_2=>
 bind (ZJ q3_2 true 2 (bind (bop .int .leq x0 (Value.int .u8 102)) fun y4=>
 ret [x0,y4])) (c2 fun _ q5_1=>
 bind (ZJ y1 false 1 (bind (pick q3_2 q5_1 (Value.bool false)) fun y6=>
 ret [y6])) (c1 fun q7_0=>
 bind (pick y1 (Value.bool true) q7_0) fun y8=>
 ret y8)))
theorem Zua (Γ : Zc) (x0 : Value) : Zy Tryz.prog Γ Tryz.f191 ZlW [x0]=ZcA Γ x0:=by kernel_rfl
theorem ZsC {prim : FuncId→Option (List Value→M Value)} (hp : prim ZdK=none) (n : Nat) (x0 : Value) : run Tryz.prog prim lvs (n+1) ZdK [x0]=ZcA (run Tryz.prog prim lvs n) x0:=
 (Zk hp (by kernel_rfl) Tryz.func191 (by kernel_rfl)).trans (Zua _ x0)
noncomputable def JM.l2 (Γ : Zc) (s0 s3 s4 s5 s6 s19 : Value) : M Out:=
 bind (bop .int .lss s19 (Value.int .i64 26)) fun y5=>
 cnd y5
 (bind (ixs s0 s5) fun y6=>
 bind (ixs s3 s19) fun y7=>
 bind (bop .int .eql y6 y7) fun y8=>
 jn (cnd y8
 (bind (bop .int .add s19 (Value.int .i64 1)) fun y9=>
 bind (sls (Value.string ⟨#[97,98,99,100,101,102,103,104,105,106,107,108,109,110,111,112,113,114,115,116,117,118,119,120,121,122]⟩) (some s19) (some y9)) fun y10=>
 ret (.nrm [s0,s3,s4,s5,y10,s19]))
 (ret (.nrm [s0,s3,s4,s5,s6,s19]))) (c6 fun q11_0 q11_1 q11_2 q11_3 q11_4 q11_5=>
 bind (bop .int .add q11_5 (Value.int .i64 1)) fun y12=>
 ret (.nrm [q11_0,q11_1,q11_2,q11_3,q11_4,y12])) noX ZW)
 (ret (.ext 2 [s0,s3,s4,s5,s6]))
noncomputable def JM.l1 (Γ : Zc) (s0 s3 s4 s5 : Value) : M Out:=
 bind (JI s0) fun y1=>
 bind (bop .int .lss s5 y1) fun y2=>
 cnd y2
 (bind (bop .int .add s5 (Value.int .i64 1)) fun y3=>
 bind (sls s0 (some s5) (some y3)) fun y4=>
 jn (Zi (c6 (JM.l2 Γ)) [s0,s3,s4,s5,y4,(Value.int .i64 0)]) noN (xk 2 (c5 fun q15_0 q15_1 q15_2 q15_3 q15_4=>
 bind (bop .str .add q15_2 q15_4) fun y16=>
 bind (bop .int .add q15_3 (Value.int .i64 1)) fun y17=>
 ret (.nrm [q15_0,q15_1,y16,y17])) noX) ZW)
 (ret (.ext 0 [s4]))
noncomputable def JM (Γ : Zc) (x0 : Value) : M Value:=
 jn (Zi (c4 (JM.l1 Γ)) [x0,(Value.string ⟨#[65,66,67,68,69,70,71,72,73,74,75,76,77,78,79,80,81,82,83,84,85,86,87,88,89,90]⟩),(Value.string ⟨#[]⟩),(Value.int .i64 0)]) noN (xk 0 (c1 fun q20_0=>
 ret q20_0) noX) ret
theorem ZuW (Γ : Zc) (x0 : Value) : Zy Tryz.prog Γ Tryz.f192 Zk7 [x0]=JM Γ x0:=by kernel_rfl
theorem Zsv {prim : FuncId→Option (List Value→M Value)} (hp : prim ZdU=none) (n : Nat) (x0 : Value) : run Tryz.prog prim lvs (n+1) ZdU [x0]=JM (run Tryz.prog prim lvs n) x0:=
 (Zk hp (by kernel_rfl) Tryz.func192 (by kernel_rfl)).trans (ZuW _ x0)
noncomputable def Zam.l1 (Γ : Zc) (s1 s7 s8 s9 : Value) : M Out:=
 bind (bop .int .lss s9 s8) fun y2=>
 cnd y2
 (bind (ixa 1 s7 s9) fun y3=>
 bind (ld1 y3) fun y4=>
 bind (bop .str .eql y4 s1) fun y5=>
 cnd y5
 (ret (.ret (Value.bool true)))
 (bind (bop .int .add s9 (Value.int .i64 1)) fun y6=>
 ret (.nrm [s1,s7,s8,y6])))
 (ret (.ext 0 []))
noncomputable def Zam (Γ : Zc) (x0 x1 : Value) : M Value:=
 bind (Zw x0) fun y1=>
 jn (Zi (c4 (Zam.l1 Γ)) [x1,x0,y1,(Value.int .i64 0)]) noN (xk 0 (c0 (ret (Value.bool false))) noX) ret
theorem Zu4 (Γ : Zc) (x0 x1 : Value) : Zy Tryz.prog Γ Tryz.f193 Zno [x0,x1]=Zam Γ x0 x1:=by kernel_rfl
theorem Zuj {prim : FuncId→Option (List Value→M Value)} (hp : prim Zan=none) (n : Nat) (x0 x1 : Value) : run Tryz.prog prim lvs (n+1) Zan [x0,x1]=Zam (run Tryz.prog prim lvs n) x0 x1:=
 (Zk hp (by kernel_rfl) Tryz.func193 (by kernel_rfl)).trans (Zu4 _ x0 x1)
noncomputable def Zhq (Γ : Zc) (x0 : Value) : M Value:=
 cnd x0
 (ret (Value.string ⟨#[1]⟩))
 (ret (Value.string ⟨#[0]⟩))
theorem Zsg (Γ : Zc) (x0 : Value) : Zy Tryz.prog Γ Tryz.f197 Zkc [x0]=Zhq Γ x0:=by kernel_rfl
theorem Zqq {prim : FuncId→Option (List Value→M Value)} (hp : prim Zdk=none) (n : Nat) (x0 : Value) : run Tryz.prog prim lvs (n+1) Zdk [x0]=Zhq (run Tryz.prog prim lvs n) x0:=
 (Zk hp (by kernel_rfl) Tryz.func197 (by kernel_rfl)).trans (Zsg _ x0)
noncomputable def Wx (Γ : Zc) (x0 x1 : Value) : M Value:=
 bind (Zw x0) fun y1=>
 bind (cvi .u64 y1) fun y2=>
 bind (Γ ZdZ [y2]) fun y3=>
 bind (Γ QU [x0,(Value.int .i64 0),y1,y3,x1]) fun y4=>
 ret (Value.tuple #[])
theorem Zff (Γ : Zc) (x0 x1 : Value) : Zy Tryz.prog Γ Tryz.f201 ZbL [x0,x1]=Wx Γ x0 x1:=by kernel_rfl
theorem Ze0 {prim : FuncId→Option (List Value→M Value)} (hp : prim WE=none) (n : Nat) (x0 x1 : Value) : run Tryz.prog prim lvs (n+1) WE [x0,x1]=Wx (run Tryz.prog prim lvs n) x0 x1:=
 (Zk hp (by kernel_rfl) Tryz.func201 (by kernel_rfl)).trans (Zff _ x0 x1)
noncomputable def Zdb (Γ : Zc) (x0 x1 : Value) : M Value:=
 bind (Γ KF [x0]) fun y1=>
 bind (Γ KF [x1]) fun y2=>
 cnd y1
 (cnd y2
 (ret (Value.int .i64 0))
 (ret (Value.int .i64 (-1))))
 (cnd y2
 (ret (Value.int .i64 1))
 (bind (bop .str .lss x0 x1) fun y3=>
 cnd y3
 (ret (Value.int .i64 (-1)))
 (bind (bop .str .gtr x0 x1) fun y4=>
 cnd y4
 (ret (Value.int .i64 1))
 (ret (Value.int .i64 0)))))
theorem Zkp (Γ : Zc) (x0 x1 : Value) : Zy Tryz.prog Γ Tryz.f203 Zfn [x0,x1]=Zdb Γ x0 x1:=by kernel_rfl
theorem Zja {prim : FuncId→Option (List Value→M Value)} (hp : prim Zbv=none) (n : Nat) (x0 x1 : Value) : run Tryz.prog prim lvs (n+1) Zbv [x0,x1]=Zdb (run Tryz.prog prim lvs n) x0 x1:=
 (Zk hp (by kernel_rfl) Tryz.func203 (by kernel_rfl)).trans (Zkp _ x0 x1)
noncomputable def ZaZ (Γ : Zc) (x0 x1 : Value) : M Value:=
 bind (Γ Jg [x0,x1]) fun y1=>
 bind (bop .int .geq y1 (Value.int .i64 0)) fun y2=>
 cnd y2
 (bind (sls x0 none (some y1)) fun y3=>
 bind (JI x1) fun y4=>
 bind (bop .int .add y1 y4) fun y5=>
 bind (sls x0 (some y5) none) fun y6=>
 ret (Value.tuple #[y3,y6,(Value.bool true)]))
 (ret (Value.tuple #[x0,(Value.string ⟨#[]⟩),(Value.bool false)]))
theorem Zg3 (Γ : Zc) (x0 x1 : Value) : Zy Tryz.prog Γ Tryz.f205 ZcU [x0,x1]=ZaZ Γ x0 x1:=by kernel_rfl
theorem Zgm {prim : FuncId→Option (List Value→M Value)} (hp : prim We=none) (n : Nat) (x0 x1 : Value) : run Tryz.prog prim lvs (n+1) We [x0,x1]=ZaZ (run Tryz.prog prim lvs n) x0 x1:=
 (Zk hp (by kernel_rfl) Tryz.func205 (by kernel_rfl)).trans (Zg3 _ x0 x1)
noncomputable def Yg.l1 (Γ : Zc) (s0 s1 s2 s3 s9 s10 : Value) : M Out:=
 bind (bop .int .lss s10 s3) fun y13=>
 cnd y13
 (bind (Γ ZaM [s0,s1]) fun y14=>
 bind (bop .int .lss y14 (Value.int .i64 0)) fun y15=>
 cnd y15
 (ret (.ext 0 [s0,s9,s10]))
 (bind (bop .int .add y14 s2) fun y16=>
 bind (sls s0 none (some y16)) fun y17=>
 bind (ixa 1 s9 s10) fun y18=>
 bind (st1 y18 y17) fun _=>
 bind (JI s1) fun y19=>
 bind (bop .int .add y14 y19) fun y20=>
 bind (sls s0 (some y20) none) fun y21=>
 bind (bop .int .add s10 (Value.int .i64 1)) fun y22=>
 ret (.nrm [y21,s1,s2,s3,s9,y22])))
 (ret (.ext 0 [s0,s9,s10]))
noncomputable def Yg (Γ : Zc) (x0 x1 x2 x3 : Value) : M Value:=
 bind (bop .int .eql x3 (Value.int .i64 0)) fun y1=>
 cnd y1
 (ret (Value.slice none 0 0))
 (bind (bop .str .eql x1 (Value.string ⟨#[]⟩)) fun y2=>
 cnd y2
 (bind (Γ Zoa [x0,x3]) fun y3=>
 ret y3)
 (bind (bop .int .lss x3 (Value.int .i64 0)) fun y4=>
 jn (cnd y4
 (bind (Γ ZbU [x0,x1]) fun y5=>
 bind (bop .int .add y5 (Value.int .i64 1)) fun y6=>
 ret (.nrm [x0,x1,x2,y6]))
 (ret (.nrm [x0,x1,x2,x3]))) (c4 fun q7_0 q7_1 q7_2 q7_3=>
 bind (JI q7_0) fun y8=>
 bind (bop .int .add y8 (Value.int .i64 1)) fun y9=>
 bind (mxi false q7_3 y9) fun y10=>
 bind (mks 1 16 (.string ⟨#[]⟩) y10 y10) fun y11=>
 bind (bop .int .sub y10 (Value.int .i64 1)) fun y12=>
 jn (jn (Zi (c6 (Yg.l1 Γ)) [q7_0,q7_1,q7_2,y12,y11,(Value.int .i64 0)]) noN (xk 0 (c3 fun q24_0 q24_1 q24_2=>
 ret (.nrm [q24_0,q24_1,q24_2])) noX) ZW) (c3 fun q26_0 q26_1 q26_2=>
 bind (ixa 1 q26_1 q26_2) fun y27=>
 bind (st1 y27 q26_0) fun _=>
 bind (bop .int .add q26_2 (Value.int .i64 1)) fun y28=>
 bind (slv 1 q26_1 none (some y28) none) fun y29=>
 ret y29) noX ret) noX ret))
theorem Zmu (Γ : Zc) (x0 x1 x2 x3 : Value) : Zy Tryz.prog Γ Tryz.f206 ZfT [x0,x1,x2,x3]=Yg Γ x0 x1 x2 x3:=by kernel_rfl
theorem ZkC {prim : FuncId→Option (List Value→M Value)} (hp : prim ZbN=none) (n : Nat) (x0 x1 x2 x3 : Value) : run Tryz.prog prim lvs (n+1) ZbN [x0,x1,x2,x3]=Yg (run Tryz.prog prim lvs n) x0 x1 x2 x3:=
 (Zk hp (by kernel_rfl) Tryz.func206 (by kernel_rfl)).trans (Zmu _ x0 x1 x2 x3)
noncomputable def Yp (Γ : Zc) (x0 : Value) : M Value:=
 bind (alc 1 x0) fun y1=>
 ret (Value.func (.func 216) #[] #[y1])
theorem ZbV (Γ : Zc) (x0 : Value) : Zy Tryz.prog Γ Tryz.f207 KQ [x0]=Yp Γ x0:=by kernel_rfl
theorem ZbM {prim : FuncId→Option (List Value→M Value)} (hp : prim Ji=none) (n : Nat) (x0 : Value) : run Tryz.prog prim lvs (n+1) Ji [x0]=Yp (run Tryz.prog prim lvs n) x0:=
 (Zk hp (by kernel_rfl) Tryz.func207 (by kernel_rfl)).trans (ZbV _ x0)
noncomputable abbrev ZbJ.o1 (s2 : Value) (st : LoopState) (pd : Option Code) : Ze:=.loop Tryz.f208 K6 26 [0] (ZCi Tryz.f208 26) [(2,s2)] st pd
noncomputable def ZbJ.r1 (Γ : Zc) (L : Nat) (s2 : Value) (a0 : Value) : M Value:=
 ZAj L (
 bind (ld1 s2) fun y2=>
 bind (bsl 1 1 (.string ⟨#[]⟩) [(0,1,a0)]) fun y3=>
 bind (app 1 16 y2 y3) fun y4=>
 bind (st1 s2 y4) fun _=>
 ZqP L none)
noncomputable def ZbJ (Γ : Zc) (x0 x1 : Value) : M Value:=
 bind (alc 1 x0) fun y1=>
 ZkJ (ZsI Tryz.prog) Γ x1 Tryz.f208 K6 26 [0] (ZCi Tryz.f208 26) [(2,y1)] fun pd_5=>
 (match pd_5 with
 | none=>bind (ld1 y1) fun y6=>
 ret y6
 | some (.exit j_5)=>fail
 | some .ret=>ret (Value.slice none 0 0)
 | _=>fail)
noncomputable def Ju.l1 (Γ : Zc) (s0 s1 s2 s3 s4 s10 s11 : Value) : M Out:=
 jn (bind (bop .int .sub s2 s1) fun y1=>
 bind (bop .int .leq y1 (Value.int .i64 12)) fun y2=>
 cnd y2
 (bind (Γ Jj [s0,s1,s2,s4]) fun y3=>
 ret (.ret (Value.tuple #[])))
 (bind (bop .int .eql s3 (Value.int .i64 0)) fun y4=>
 cnd y4
 (bind (Γ Zfh [s0,s1,s2,s4]) fun y5=>
 ret (.ret (Value.tuple #[])))
 (bind (uop .not s10) fun y6=>
 jn (cnd y6
 (bind (Γ ZdJ [s0,s1,s2,s4]) fun y7=>
 bind (bop .int .sub s3 (Value.int .i64 1)) fun y8=>
 ret (.nrm [s0,s1,s2,y8,s4,s10,s11,y1]))
 (ret (.nrm [s0,s1,s2,s3,s4,s10,s11,y1]))) (c8 fun q9_0 q9_1 q9_2 q9_3 q9_4 q9_5 q9_6 q9_7=>
 bind (Γ Zd8 [q9_0,q9_1,q9_2,q9_4]) fun y10=>
 bind (Zn y10 0) fun y11=>
 bind (Zn y10 1) fun y12=>
 bind (bop .int .eql y12 (Value.int .i64 2)) fun y13=>
 jn (cnd y13
 (bind (Γ ZdM [q9_0,q9_1,q9_2,q9_4]) fun y14=>
 bind (bop .int .sub q9_2 (Value.int .i64 1)) fun y15=>
 bind (bop .int .sub y11 q9_1) fun y16=>
 bind (bop .int .sub y15 y16) fun y17=>
 ret (.nrm [q9_0,q9_1,q9_2,q9_3,q9_4,q9_5,q9_6,q9_7,y17,(Value.int .i64 1)]))
 (ret (.nrm [q9_0,q9_1,q9_2,q9_3,q9_4,q9_5,q9_6,q9_7,y11,y12]))) (c10 fun q18_0 q18_1 q18_2 q18_3 q18_4 q18_5 q18_6 q18_7 q18_8 q18_9=>
 bind (ZJ q18_5 true 1 (ret [q18_6])) (c1 fun q19_0=>
 bind (pick q18_5 q19_0 (Value.bool false)) fun y20=>
 bind (ZJ y20 true 2 (bind (bop .int .eql q18_9 (Value.int .i64 1)) fun y21=>
 ret [q18_9,y21])) (c2 fun _ q22_1=>
 bind (pick y20 q22_1 (Value.bool false)) fun y23=>
 jn (cnd y23
 (bind (Γ Zb6 [q18_0,q18_1,q18_2,q18_4]) fun y24=>
 cnd y24
 (ret (.ret (Value.tuple #[])))
 (ret (.nrm [q18_0,q18_1,q18_2,q18_3,q18_4,q18_5,q18_6,q18_7,q18_8])))
 (ret (.nrm [q18_0,q18_1,q18_2,q18_3,q18_4,q18_5,q18_6,q18_7,q18_8]))) (c9 fun q25_0 q25_1 q25_2 q25_3 q25_4 q25_5 q25_6 q25_7 q25_8=>
 bind (bop .int .gtr q25_1 (Value.int .i64 0)) fun y26=>
 bind (Zg y26 true (ret q25_4)) fun y27=>
 bind (Zg y26 true (ret q25_0)) fun y28=>
 bind (Zg y26 true (ret q25_1)) fun y29=>
 bind (Zg y26 true (bop .int .sub y29 (Value.int .i64 1))) fun y30=>
 bind (Zg y26 true (ixa 1 y28 y30)) fun y31=>
 bind (Zg y26 true (ld1 y31)) fun y32=>
 bind (Zg y26 true (ret q25_0)) fun y33=>
 bind (Zg y26 true (ret q25_8)) fun y34=>
 bind (Zg y26 true (ixa 1 y33 y34)) fun y35=>
 bind (Zg y26 true (ld1 y35)) fun y36=>
 bind (Zg y26 true (Jn Γ y27 [y32,y36])) fun y37=>
 bind (Zg y26 true (bop .int .lss y37 (Value.int .i64 0))) fun y38=>
 bind (Zg y26 true (uop .not y38)) fun y39=>
 bind (pick y26 y39 (Value.bool false)) fun y40=>
 cnd y40
 (bind (Γ Zdt [q25_0,q25_1,q25_2,q25_8,q25_4]) fun y41=>
 ret (.nrm [q25_0,y41,q25_2,q25_3,q25_4,q25_5,q25_6]))
 (bind (Γ Zfe [q25_0,q25_1,q25_2,q25_8,q25_4]) fun y42=>
 bind (Zn y42 0) fun y43=>
 bind (Zn y42 1) fun y44=>
 bind (bop .int .sub y43 q25_1) fun y45=>
 bind (bop .int .sub q25_2 y43) fun y46=>
 bind (bop .int .quo q25_7 (Value.int .i64 8)) fun y47=>
 bind (bop .int .lss y45 y46) fun y48=>
 jn (cnd y48
 (bind (bop .int .geq y45 y47) fun y49=>
 bind (Γ QU [q25_0,q25_1,y43,q25_3,q25_4]) fun y50=>
 bind (bop .int .add y43 (Value.int .i64 1)) fun y51=>
 ret (.nrm [q25_0,y51,q25_2,q25_3,q25_4,y49,y44]))
 (bind (bop .int .geq y46 y47) fun y52=>
 bind (bop .int .add y43 (Value.int .i64 1)) fun y53=>
 bind (Γ QU [q25_0,y53,q25_2,q25_3,q25_4]) fun y54=>
 ret (.nrm [q25_0,q25_1,y43,q25_3,q25_4,y52,y44]))) (c7 fun q55_0 q55_1 q55_2 q55_3 q55_4 q55_5 q55_6=>
 ret (.nrm [q55_0,q55_1,q55_2,q55_3,q55_4,q55_5,q55_6])) noX ZW)) noX ZW))) noX ZW) noX ZW))) (c7 fun q60_0 q60_1 q60_2 q60_3 q60_4 q60_5 q60_6=>
 ret (.nrm [q60_0,q60_1,q60_2,q60_3,q60_4,q60_5,q60_6])) noX ZW
noncomputable def Ju (Γ : Zc) (x0 x1 x2 x3 x4 : Value) : M Value:=
 jn (Zi (c7 (Ju.l1 Γ)) [x0,x1,x2,x3,x4,(Value.bool true),(Value.bool true)]) noN noX ret
theorem Zfg (Γ : Zc) (x0 x1 x2 x3 x4 : Value) : Zy Tryz.prog Γ Tryz.f209 ZbK [x0,x1,x2,x3,x4]=Ju Γ x0 x1 x2 x3 x4:=by kernel_rfl
theorem Ze4 {prim : FuncId→Option (List Value→M Value)} (hp : prim QU=none) (n : Nat) (x0 x1 x2 x3 x4 : Value) : run Tryz.prog prim lvs (n+1) QU [x0,x1,x2,x3,x4]=Ju (run Tryz.prog prim lvs n) x0 x1 x2 x3 x4:=
 (Zk hp (by kernel_rfl) Tryz.func209 (by kernel_rfl)).trans (Zfg _ x0 x1 x2 x3 x4)
noncomputable def Zgl (Γ : Zc) (x0 : Value) : M Value:=
 cnd (Value.bool false)
 (bind (cvi .u32 x0) fun y1=>
 bind (Γ Zpn [y1]) fun y2=>
 ret y2)
 (bind (Γ ZcT [x0]) fun y3=>
 ret y3)
theorem ZqA (Γ : Zc) (x0 : Value) : Zy Tryz.prog Γ Tryz.f210 ZiZ [x0]=Zgl Γ x0:=by kernel_rfl
theorem Zo8 {prim : FuncId→Option (List Value→M Value)} (hp : prim ZdZ=none) (n : Nat) (x0 : Value) : run Tryz.prog prim lvs (n+1) ZdZ [x0]=Zgl (run Tryz.prog prim lvs n) x0:=
 (Zk hp (by kernel_rfl) Tryz.func210 (by kernel_rfl)).trans (ZqA _ x0)
noncomputable def Zeb (Γ : Zc) (x0 : Value) : M Value:=
 bind (bop .str .neq x0 x0) fun y1=>
 ret y1
theorem Zm1 (Γ : Zc) (x0 : Value) : Zy Tryz.prog Γ Tryz.f211 Zgz [x0]=Zeb Γ x0:=by kernel_rfl
theorem Zk5 {prim : FuncId→Option (List Value→M Value)} (hp : prim KF=none) (n : Nat) (x0 : Value) : run Tryz.prog prim lvs (n+1) KF [x0]=Zeb (run Tryz.prog prim lvs n) x0:=
 (Zk hp (by kernel_rfl) Tryz.func211 (by kernel_rfl)).trans (Zm1 _ x0)
noncomputable def Yx.l1 (Γ : Zc) (s0 s1 s5 s6 s7 s8 s9 s10 : Value) : M Out:=
 bind (bop .int .lss s8 s9) fun y23=>
 cnd y23
 (bind (ixs s0 s8) fun y24=>
 bind (bop .int .neq y24 s6) fun y25=>
 jn (cnd y25
 (bind (bop .int .add s8 (Value.int .i64 1)) fun y26=>
 bind (sls s0 (some y26) (some s9)) fun y27=>
 bind (Γ JW [y27,s6]) fun y28=>
 bind (bop .int .lss y28 (Value.int .i64 0)) fun y29=>
 cnd y29
 (ret (.ret (Value.int .i64 (-1))))
 (bind (bop .int .add y28 (Value.int .i64 1)) fun y30=>
 bind (bop .int .add s8 y30) fun y31=>
 ret (.nrm [s0,s1,s5,s6,s7,y31,s9,s10])))
 (ret (.nrm [s0,s1,s5,s6,s7,s8,s9,s10]))) (c8 fun q32_0 q32_1 q32_2 q32_3 q32_4 q32_5 q32_6 q32_7=>
 bind (bop .int .add q32_5 (Value.int .i64 1)) fun y33=>
 bind (ixs q32_0 y33) fun y34=>
 bind (bop .int .eql y34 q32_4) fun y35=>
 bind (ZJ y35 true 8 (bind (bop .int .add q32_5 q32_2) fun y36=>
 bind (sls q32_0 (some q32_5) (some y36)) fun y37=>
 bind (bop .str .eql y37 q32_1) fun y38=>
 ret [q32_0,q32_5,q32_5,q32_2,y36,y37,q32_1,y38])) (c8 fun _ _ _ _ _ _ _ q39_7=>
 bind (pick y35 q39_7 (Value.bool false)) fun y40=>
 cnd y40
 (ret (.ret q32_5))
 (bind (bop .int .add q32_5 (Value.int .i64 1)) fun y41=>
 bind (bop .int .add q32_7 (Value.int .i64 1)) fun y42=>
 bind (ld1 (Value.pointer (some ⟨0,0,none⟩))) fun y43=>
 bind (bop .int .leq q32_2 y43) fun y44=>
 bind (ZJ y44 true 4 (bind (Γ Zhz [y41]) fun y45=>
 bind (bop .int .gtr y42 y45) fun y46=>
 ret [y42,y41,y45,y46])) (c4 fun _ _ _ q47_3=>
 bind (pick y44 q47_3 (Value.bool false)) fun y48=>
 cnd y48
 (bind (sls q32_0 (some y41) none) fun y49=>
 bind (Γ ZbW [y49,q32_1]) fun y50=>
 bind (bop .int .geq y50 (Value.int .i64 0)) fun y51=>
 cnd y51
 (bind (bop .int .add y50 y41) fun y52=>
 ret (.ret y52))
 (ret (.ret (Value.int .i64 (-1)))))
 (bind (ld1 (Value.pointer (some ⟨0,0,none⟩))) fun y53=>
 bind (bop .int .gtr q32_2 y53) fun y54=>
 bind (ZJ y54 true 5 (bind (bop .int .shr y41 (Value.int .u64 4)) fun y55=>
 bind (bop .int .add (Value.int .i64 4) y55) fun y56=>
 bind (bop .int .geq y42 y56) fun y57=>
 ret [y42,y41,y55,y56,y57])) (c5 fun _ _ _ _ q58_4=>
 bind (pick y54 q58_4 (Value.bool false)) fun y59=>
 bind (ZJ y59 true 3 (bind (bop .int .lss y41 q32_6) fun y60=>
 ret [y41,q32_6,y60])) (c3 fun _ _ q61_2=>
 bind (pick y59 q61_2 (Value.bool false)) fun y62=>
 cnd y62
 (bind (sls q32_0 (some y41) none) fun y63=>
 bind (Γ ZcV [y63,q32_1]) fun y64=>
 bind (bop .int .lss y64 (Value.int .i64 0)) fun y65=>
 cnd y65
 (ret (.ret (Value.int .i64 (-1))))
 (bind (bop .int .add y41 y64) fun y66=>
 ret (.ret y66)))
 (ret (.nrm [q32_0,q32_1,q32_2,q32_3,q32_4,y41,q32_6,y42]))))))))) noX ZW)
 (ret (.ext 1 []))
noncomputable def Yx (Γ : Zc) (x0 x1 : Value) : M Value:=
 bind (JI x1) fun y1=>
 bind (bop .int .eql y1 (Value.int .i64 0)) fun y2=>
 bind (ZJ y2 false 3 (bind (bop .str .eql x1 x0) fun y3=>
 ret [x1,x0,y3])) (c3 fun _ _ q4_2=>
 bind (pick y2 (Value.bool true) q4_2) fun y5=>
 cnd y5
 (ret (Value.int .i64 0))
 (bind (bop .int .eql y1 (Value.int .i64 1)) fun y6=>
 cnd y6
 (bind (ixs x1 (Value.int .i64 0)) fun y7=>
 bind (Γ JW [x0,y7]) fun y8=>
 ret y8)
 (bind (JI x0) fun y9=>
 bind (bop .int .geq y1 y9) fun y10=>
 cnd y10
 (ret (Value.int .i64 (-1)))
 (bind (ld1 (Value.pointer (some ⟨0,0,none⟩))) fun y11=>
 bind (bop .int .leq y1 y11) fun y12=>
 bind (ZJ y12 true 3 (bind (JI x0) fun y13=>
 bind (bop .int .leq y13 (Value.int .i64 64)) fun y14=>
 ret [x0,y13,y14])) (c3 fun _ _ q15_2=>
 bind (pick y12 q15_2 (Value.bool false)) fun y16=>
 cnd y16
 (bind (Γ ZbW [x0,x1]) fun y17=>
 ret y17)
 (bind (ixs x1 (Value.int .i64 0)) fun y18=>
 bind (ixs x1 (Value.int .i64 1)) fun y19=>
 bind (JI x0) fun y20=>
 bind (bop .int .sub y20 y1) fun y21=>
 bind (bop .int .add y21 (Value.int .i64 1)) fun y22=>
 jn (Zi (c8 (Yx.l1 Γ)) [x0,x1,y1,y18,y19,(Value.int .i64 0),y22,(Value.int .i64 0)]) noN (xk 1 (c0 (ret (Value.int .i64 (-1)))) noX) ret))))))
theorem Zf6 (Γ : Zc) (x0 x1 : Value) : Zy Tryz.prog Γ Tryz.f212 Zb7 [x0,x1]=Yx Γ x0 x1:=by kernel_rfl
theorem Zfy {prim : FuncId→Option (List Value→M Value)} (hp : prim Jg=none) (n : Nat) (x0 x1 : Value) : run Tryz.prog prim lvs (n+1) Jg [x0,x1]=Yx (run Tryz.prog prim lvs n) x0 x1:=
 (Zk hp (by kernel_rfl) Tryz.func212 (by kernel_rfl)).trans (Zf6 _ x0 x1)
noncomputable def Zhn.l1 (Γ : Zc) (s0 s1 s6 s7 : Value) : M Out:=
 bind (bop .int .sub s1 (Value.int .i64 1)) fun y8=>
 bind (bop .int .lss s7 y8) fun y9=>
 cnd y9
 (bind (Γ Zey [s0]) fun y10=>
 bind (Zn y10 0) fun y11=>
 bind (Zn y10 1) fun y12=>
 bind (sls s0 none (some y12)) fun y13=>
 bind (ixa 1 s6 s7) fun y14=>
 bind (st1 y14 y13) fun _=>
 bind (sls s0 (some y12) none) fun y15=>
 bind (bop .int .add s7 (Value.int .i64 1)) fun y16=>
 ret (.nrm [y15,s1,s6,y16]))
 (ret (.ext 0 [s0,s1,s6]))
noncomputable def Zhn (Γ : Zc) (x0 x1 : Value) : M Value:=
 bind (Γ Zbp [x0]) fun y1=>
 bind (bop .int .lss x1 (Value.int .i64 0)) fun y2=>
 bind (ZJ y2 false 3 (bind (bop .int .gtr x1 y1) fun y3=>
 ret [x1,y1,y3])) (c3 fun _ _ q4_2=>
 bind (pick y2 (Value.bool true) q4_2) fun y5=>
 jn (cnd y5
 (ret (.nrm [x0,y1]))
 (ret (.nrm [x0,x1]))) (c2 fun q6_0 q6_1=>
 bind (mks 1 16 (.string ⟨#[]⟩) q6_1 q6_1) fun y7=>
 jn (Zi (c4 (Zhn.l1 Γ)) [q6_0,q6_1,y7,(Value.int .i64 0)]) noN (xk 0 (c3 fun q18_0 q18_1 q18_2=>
 bind (bop .int .gtr q18_1 (Value.int .i64 0)) fun y19=>
 jn (cnd y19
 (bind (bop .int .sub q18_1 (Value.int .i64 1)) fun y20=>
 bind (ixa 1 q18_2 y20) fun y21=>
 bind (st1 y21 q18_0) fun _=>
 ret (.nrm [q18_2]))
 (ret (.nrm [q18_2]))) (c1 fun q22_0=>
 ret q22_0) noX ret) noX) ret) noX ret)
noncomputable def Zb5.l1 (Γ : Zc) (s0 s1 s5 : Value) : M Out:=
 bind (Γ ZaM [s0,s1]) fun y9=>
 bind (bop .int .eql y9 (Value.int .i64 (-1))) fun y10=>
 cnd y10
 (ret (.ret s5))
 (bind (bop .int .add s5 (Value.int .i64 1)) fun y11=>
 bind (JI s1) fun y12=>
 bind (bop .int .add y9 y12) fun y13=>
 bind (sls s0 (some y13) none) fun y14=>
 ret (.nrm [y14,s1,y11]))
noncomputable def Zb5 (Γ : Zc) (x0 x1 : Value) : M Value:=
 bind (JI x1) fun y1=>
 bind (bop .int .eql y1 (Value.int .i64 0)) fun y2=>
 cnd y2
 (bind (Γ Zbp [x0]) fun y3=>
 bind (bop .int .add y3 (Value.int .i64 1)) fun y4=>
 ret y4)
 (bind (JI x1) fun y5=>
 bind (bop .int .eql y5 (Value.int .i64 1)) fun y6=>
 cnd y6
 (bind (ixs x1 (Value.int .i64 0)) fun y7=>
 bind (Γ Kd [x0,y7]) fun y8=>
 ret y8)
 (jn (Zi (c3 (Zb5.l1 Γ)) [x0,x1,(Value.int .i64 0)]) noN noX ret))
theorem ZpZ (Γ : Zc) (x0 x1 : Value) : Zy Tryz.prog Γ Tryz.f214 ZhX [x0,x1]=Zb5 Γ x0 x1:=by kernel_rfl
theorem Zn6 {prim : FuncId→Option (List Value→M Value)} (hp : prim ZbU=none) (n : Nat) (x0 x1 : Value) : run Tryz.prog prim lvs (n+1) ZbU [x0,x1]=Zb5 (run Tryz.prog prim lvs n) x0 x1:=
 (Zk hp (by kernel_rfl) Tryz.func214 (by kernel_rfl)).trans (ZpZ _ x0 x1)
noncomputable def Zfz (Γ : Zc) (x0 x1 : Value) : M Value:=
 bind (Γ Jg [x0,x1]) fun y1=>
 ret y1
theorem Zpm (Γ : Zc) (x0 x1 : Value) : Zy Tryz.prog Γ Tryz.f215 ZhV [x0,x1]=Zfz Γ x0 x1:=by kernel_rfl
theorem ZoG {prim : FuncId→Option (List Value→M Value)} (hp : prim ZaM=none) (n : Nat) (x0 x1 : Value) : run Tryz.prog prim lvs (n+1) ZaM [x0,x1]=Zfz (run Tryz.prog prim lvs n) x0 x1:=
 (Zk hp (by kernel_rfl) Tryz.func215 (by kernel_rfl)).trans (Zpm _ x0 x1)
noncomputable def Qb.l2 (Γ : Zc) (s0 s1 s2 s3 s8 s9 : Value) : M Out:=
 bind (bop .int .gtr s9 s1) fun y3=>
 bind (Zg y3 true (ret s3)) fun y4=>
 bind (Zg y3 true (ret s0)) fun y5=>
 bind (Zg y3 true (ret s9)) fun y6=>
 bind (Zg y3 true (ixa 1 y5 y6)) fun y7=>
 bind (Zg y3 true (ld1 y7)) fun y8=>
 bind (Zg y3 true (ret s0)) fun y9=>
 bind (Zg y3 true (ret s9)) fun y10=>
 bind (Zg y3 true (bop .int .sub y10 (Value.int .i64 1))) fun y11=>
 bind (Zg y3 true (ixa 1 y9 y11)) fun y12=>
 bind (Zg y3 true (ld1 y12)) fun y13=>
 bind (Zg y3 true (Jn Γ y4 [y8,y13])) fun y14=>
 bind (Zg y3 true (bop .int .lss y14 (Value.int .i64 0))) fun y15=>
 bind (pick y3 y15 (Value.bool false)) fun y16=>
 cnd y16
 (bind (bop .int .sub s9 (Value.int .i64 1)) fun y17=>
 bind (bop .int .sub s9 (Value.int .i64 1)) fun y18=>
 bind (ixa 1 s0 y18) fun y19=>
 bind (ld1 y19) fun y20=>
 bind (ixa 1 s0 s9) fun y21=>
 bind (ld1 y21) fun y22=>
 bind (ixa 1 s0 s9) fun y23=>
 bind (st1 y23 y20) fun _=>
 bind (ixa 1 s0 y17) fun y24=>
 bind (st1 y24 y22) fun _=>
 bind (bop .int .sub s9 (Value.int .i64 1)) fun y25=>
 ret (.nrm [s0,s1,s2,s3,s8,y25]))
 (ret (.ext 2 [s0,s1,s2,s3,s8]))
noncomputable def Qb.l1 (Γ : Zc) (s0 s1 s2 s3 s8 : Value) : M Out:=
 bind (bop .int .lss s8 s2) fun y2=>
 cnd y2
 (jn (Zi (c6 (Qb.l2 Γ)) [s0,s1,s2,s3,s8,s8]) noN (xk 2 (c5 fun q27_0 q27_1 q27_2 q27_3 q27_4=>
 bind (bop .int .add q27_4 (Value.int .i64 1)) fun y28=>
 ret (.nrm [q27_0,q27_1,q27_2,q27_3,y28])) noX) ZW)
 (ret (.ext 0 []))
noncomputable def Qb (Γ : Zc) (x0 x1 x2 x3 : Value) : M Value:=
 bind (bop .int .add x1 (Value.int .i64 1)) fun y1=>
 jn (Zi (c5 (Qb.l1 Γ)) [x0,x1,x2,x3,y1]) noN (xk 0 (c0 (ret (Value.tuple #[]))) noX) ret
theorem Zdq (Γ : Zc) (x0 x1 x2 x3 : Value) : Zy Tryz.prog Γ Tryz.f217 WX [x0,x1,x2,x3]=Qb Γ x0 x1 x2 x3:=by kernel_rfl
theorem ZcX {prim : FuncId→Option (List Value→M Value)} (hp : prim Jj=none) (n : Nat) (x0 x1 x2 x3 : Value) : run Tryz.prog prim lvs (n+1) Jj [x0,x1,x2,x3]=Qb (run Tryz.prog prim lvs n) x0 x1 x2 x3:=
 (Zk hp (by kernel_rfl) Tryz.func217 (by kernel_rfl)).trans (Zdq _ x0 x1 x2 x3)
noncomputable def YV.l1 (Γ : Zc) (s0 s3 s8 s9 s10 s11 : Value) : M Out:=
 bind (bop .int .geq s11 (Value.int .i64 0)) fun y4=>
 cnd y4
 (bind (Γ ZbH [s0,s11,s10,s8,s3]) fun y5=>
 bind (bop .int .sub s11 (Value.int .i64 1)) fun y6=>
 ret (.nrm [s0,s3,s8,s9,s10,y6]))
 (ret (.ext 0 [s0,s3,s8,s9,s10]))
noncomputable def YV.l2 (Γ : Zc) (s0 s3 s8 s9 s12 : Value) : M Out:=
 bind (bop .int .geq s12 (Value.int .i64 0)) fun y10=>
 cnd y10
 (bind (bop .int .add s8 s12) fun y11=>
 bind (bop .int .add s8 s12) fun y12=>
 bind (ixa 1 s0 y12) fun y13=>
 bind (ld1 y13) fun y14=>
 bind (ixa 1 s0 s8) fun y15=>
 bind (ld1 y15) fun y16=>
 bind (ixa 1 s0 s8) fun y17=>
 bind (st1 y17 y14) fun _=>
 bind (ixa 1 s0 y11) fun y18=>
 bind (st1 y18 y16) fun _=>
 bind (Γ ZbH [s0,s9,s12,s8,s3]) fun y19=>
 bind (bop .int .sub s12 (Value.int .i64 1)) fun y20=>
 ret (.nrm [s0,s3,s8,s9,y20]))
 (ret (.ext 2 []))
noncomputable def YV (Γ : Zc) (x0 x1 x2 x3 : Value) : M Value:=
 bind (bop .int .sub x2 x1) fun y1=>
 bind (bop .int .sub y1 (Value.int .i64 1)) fun y2=>
 bind (bop .int .quo y2 (Value.int .i64 2)) fun y3=>
 jn (Zi (c6 (YV.l1 Γ)) [x0,x3,x1,(Value.int .i64 0),y1,y3]) noN (xk 0 (c5 fun q8_0 q8_1 q8_2 q8_3 q8_4=>
 bind (bop .int .sub q8_4 (Value.int .i64 1)) fun y9=>
 jn (Zi (c5 (YV.l2 Γ)) [q8_0,q8_1,q8_2,q8_3,y9]) noN (xk 2 (c0 (ret (Value.tuple #[]))) noX) ret) noX) ret
noncomputable def Zad.l1 (Γ : Zc) (s0 s1 s8 s9 s10 s11 : Value) : M Out:=
 bind (bop .int .quo s8 (Value.int .i64 4)) fun y10=>
 bind (bop .int .mul y10 (Value.int .i64 2)) fun y11=>
 bind (bop .int .add s1 y11) fun y12=>
 bind (bop .int .add y12 (Value.int .i64 1)) fun y13=>
 bind (bop .int .leq s11 y13) fun y14=>
 cnd y14
 (bind (Γ ZjS [s9]) fun y15=>
 bind (bop .int .sub s10 (Value.int .u64 1)) fun y16=>
 bind (bop .int .and y15 y16) fun y17=>
 bind (cvi .i64 y17) fun y18=>
 bind (bop .int .geq y18 s8) fun y19=>
 jn (cnd y19
 (bind (bop .int .sub y18 s8) fun y20=>
 ret (.nrm [s0,s1,s8,s9,s10,s11,y20]))
 (ret (.nrm [s0,s1,s8,s9,s10,s11,y18]))) (c7 fun q21_0 q21_1 q21_2 q21_3 q21_4 q21_5 q21_6=>
 bind (bop .int .add q21_1 q21_6) fun y22=>
 bind (bop .int .add q21_1 q21_6) fun y23=>
 bind (ixa 1 q21_0 y23) fun y24=>
 bind (ld1 y24) fun y25=>
 bind (ixa 1 q21_0 q21_5) fun y26=>
 bind (ld1 y26) fun y27=>
 bind (ixa 1 q21_0 q21_5) fun y28=>
 bind (st1 y28 y25) fun _=>
 bind (ixa 1 q21_0 y22) fun y29=>
 bind (st1 y29 y27) fun _=>
 bind (bop .int .add q21_5 (Value.int .i64 1)) fun y30=>
 ret (.nrm [q21_0,q21_1,q21_2,q21_3,q21_4,y30])) noX ZW)
 (ret (.ext 0 []))
noncomputable def Zad (Γ : Zc) (x0 x1 x2 x3 : Value) : M Value:=
 bind (bop .int .sub x2 x1) fun y1=>
 bind (bop .int .geq y1 (Value.int .i64 8)) fun y2=>
 jn (cnd y2
 (bind (cvi .u64 y1) fun y3=>
 bind (alc 1 (.int .u64 0)) fun y4=>
 bind (st1 y4 y3) fun _=>
 bind (Γ Zie [y1]) fun y5=>
 bind (bop .int .quo y1 (Value.int .i64 4)) fun y6=>
 bind (bop .int .mul y6 (Value.int .i64 2)) fun y7=>
 bind (bop .int .add x1 y7) fun y8=>
 bind (bop .int .sub y8 (Value.int .i64 1)) fun y9=>
 jn (Zi (c6 (Zad.l1 Γ)) [x0,x1,y1,y4,y5,y9]) noN (xk 0 (c0 (ret (.nrm []))) noX) ZW)
 (ret (.nrm []))) (c0 (ret (Value.tuple #[]))) noX ret
noncomputable def Zay.l1 (Γ : Zc) (s0 s8 s9 : Value) : M Out:=
 bind (bop .int .lss s8 s9) fun y2=>
 cnd y2
 (bind (ixa 1 s0 s9) fun y3=>
 bind (ld1 y3) fun y4=>
 bind (ixa 1 s0 s8) fun y5=>
 bind (ld1 y5) fun y6=>
 bind (ixa 1 s0 s8) fun y7=>
 bind (st1 y7 y4) fun _=>
 bind (ixa 1 s0 s9) fun y8=>
 bind (st1 y8 y6) fun _=>
 bind (bop .int .add s8 (Value.int .i64 1)) fun y9=>
 bind (bop .int .sub s9 (Value.int .i64 1)) fun y10=>
 ret (.nrm [s0,y9,y10]))
 (ret (.ext 0 []))
noncomputable def Zay (Γ : Zc) (x0 x1 x2 x3 : Value) : M Value:=
 bind (bop .int .sub x2 (Value.int .i64 1)) fun y1=>
 jn (Zi (c3 (Zay.l1 Γ)) [x0,x1,y1]) noN (xk 0 (c0 (ret (Value.tuple #[]))) noX) ret
noncomputable def ZS.l2 (Γ : Zc) (s0 s1 s2 s3 s9 s10 : Value) : M Out:=
 bind (bop .int .lss s9 s2) fun y3=>
 bind (Zg y3 true (ret s3)) fun y4=>
 bind (Zg y3 true (ret s0)) fun y5=>
 bind (Zg y3 true (ret s9)) fun y6=>
 bind (Zg y3 true (ixa 1 y5 y6)) fun y7=>
 bind (Zg y3 true (ld1 y7)) fun y8=>
 bind (Zg y3 true (ret s0)) fun y9=>
 bind (Zg y3 true (ret s9)) fun y10=>
 bind (Zg y3 true (bop .int .sub y10 (Value.int .i64 1))) fun y11=>
 bind (Zg y3 true (ixa 1 y9 y11)) fun y12=>
 bind (Zg y3 true (ld1 y12)) fun y13=>
 bind (Zg y3 true (Jn Γ y4 [y8,y13])) fun y14=>
 bind (Zg y3 true (bop .int .lss y14 (Value.int .i64 0))) fun y15=>
 bind (Zg y3 true (uop .not y15)) fun y16=>
 bind (pick y3 y16 (Value.bool false)) fun y17=>
 cnd y17
 (bind (bop .int .add s9 (Value.int .i64 1)) fun y18=>
 ret (.nrm [s0,s1,s2,s3,y18,s10]))
 (ret (.ext 2 [s0,s1,s2,s3,s9,s10]))
noncomputable def ZS.l3 (Γ : Zc) (s0 s1 s2 s3 s9 s10 s11 : Value) : M Out:=
 bind (bop .int .geq s11 (Value.int .i64 1)) fun y35=>
 cnd y35
 (bind (ixa 1 s0 s11) fun y36=>
 bind (ld1 y36) fun y37=>
 bind (bop .int .sub s11 (Value.int .i64 1)) fun y38=>
 bind (ixa 1 s0 y38) fun y39=>
 bind (ld1 y39) fun y40=>
 bind (Jn Γ s3 [y37,y40]) fun y41=>
 bind (bop .int .lss y41 (Value.int .i64 0)) fun y42=>
 bind (uop .not y42) fun y43=>
 cnd y43
 (ret (.ext 4 [s0,s1,s2,s3,s9,s10]))
 (bind (bop .int .sub s11 (Value.int .i64 1)) fun y44=>
 bind (bop .int .sub s11 (Value.int .i64 1)) fun y45=>
 bind (ixa 1 s0 y45) fun y46=>
 bind (ld1 y46) fun y47=>
 bind (ixa 1 s0 s11) fun y48=>
 bind (ld1 y48) fun y49=>
 bind (ixa 1 s0 s11) fun y50=>
 bind (st1 y50 y47) fun _=>
 bind (ixa 1 s0 y44) fun y51=>
 bind (st1 y51 y49) fun _=>
 bind (bop .int .sub s11 (Value.int .i64 1)) fun y52=>
 ret (.nrm [s0,s1,s2,s3,s9,s10,y52])))
 (ret (.ext 4 [s0,s1,s2,s3,s9,s10]))
noncomputable def ZS.l4 (Γ : Zc) (s0 s1 s2 s3 s9 s10 s12 : Value) : M Out:=
 bind (bop .int .lss s12 s2) fun y62=>
 cnd y62
 (bind (ixa 1 s0 s12) fun y63=>
 bind (ld1 y63) fun y64=>
 bind (bop .int .sub s12 (Value.int .i64 1)) fun y65=>
 bind (ixa 1 s0 y65) fun y66=>
 bind (ld1 y66) fun y67=>
 bind (Jn Γ s3 [y64,y67]) fun y68=>
 bind (bop .int .lss y68 (Value.int .i64 0)) fun y69=>
 bind (uop .not y69) fun y70=>
 cnd y70
 (ret (.ext 6 [s0,s1,s2,s3,s9,s10]))
 (bind (bop .int .sub s12 (Value.int .i64 1)) fun y71=>
 bind (bop .int .sub s12 (Value.int .i64 1)) fun y72=>
 bind (ixa 1 s0 y72) fun y73=>
 bind (ld1 y73) fun y74=>
 bind (ixa 1 s0 s12) fun y75=>
 bind (ld1 y75) fun y76=>
 bind (ixa 1 s0 s12) fun y77=>
 bind (st1 y77 y74) fun _=>
 bind (ixa 1 s0 y71) fun y78=>
 bind (st1 y78 y76) fun _=>
 bind (bop .int .add s12 (Value.int .i64 1)) fun y79=>
 ret (.nrm [s0,s1,s2,s3,s9,s10,y79])))
 (ret (.ext 6 [s0,s1,s2,s3,s9,s10]))
noncomputable def ZS.l1 (Γ : Zc) (s0 s1 s2 s3 s9 s10 : Value) : M Out:=
 bind (bop .int .lss s10 (Value.int .i64 5)) fun y2=>
 cnd y2
 (jn (Zi (c6 (ZS.l2 Γ)) [s0,s1,s2,s3,s9,s10]) noN (xk 2 (c6 fun q20_0 q20_1 q20_2 q20_3 q20_4 q20_5=>
 bind (bop .int .eql q20_4 q20_2) fun y21=>
 cnd y21
 (ret (.ret (Value.bool true)))
 (bind (bop .int .sub q20_2 q20_1) fun y22=>
 bind (bop .int .lss y22 (Value.int .i64 50)) fun y23=>
 cnd y23
 (ret (.ret (Value.bool false)))
 (bind (bop .int .sub q20_4 (Value.int .i64 1)) fun y24=>
 bind (bop .int .sub q20_4 (Value.int .i64 1)) fun y25=>
 bind (ixa 1 q20_0 y25) fun y26=>
 bind (ld1 y26) fun y27=>
 bind (ixa 1 q20_0 q20_4) fun y28=>
 bind (ld1 y28) fun y29=>
 bind (ixa 1 q20_0 q20_4) fun y30=>
 bind (st1 y30 y27) fun _=>
 bind (ixa 1 q20_0 y24) fun y31=>
 bind (st1 y31 y29) fun _=>
 bind (bop .int .sub q20_4 q20_1) fun y32=>
 bind (bop .int .geq y32 (Value.int .i64 2)) fun y33=>
 jn (cnd y33
 (bind (bop .int .sub q20_4 (Value.int .i64 1)) fun y34=>
 jn (jn (Zi (c7 (ZS.l3 Γ)) [q20_0,q20_1,q20_2,q20_3,q20_4,q20_5,y34]) noN (xk 4 (c6 fun q54_0 q54_1 q54_2 q54_3 q54_4 q54_5=>
 ret (.nrm [q54_0,q54_1,q54_2,q54_3,q54_4,q54_5])) noX) ZW) (c6 fun q56_0 q56_1 q56_2 q56_3 q56_4 q56_5=>
 ret (.nrm [q56_0,q56_1,q56_2,q56_3,q56_4,q56_5])) noX ZW)
 (ret (.nrm [q20_0,q20_1,q20_2,q20_3,q20_4,q20_5]))) (c6 fun q58_0 q58_1 q58_2 q58_3 q58_4 q58_5=>
 bind (bop .int .sub q58_2 q58_4) fun y59=>
 bind (bop .int .geq y59 (Value.int .i64 2)) fun y60=>
 jn (cnd y60
 (bind (bop .int .add q58_4 (Value.int .i64 1)) fun y61=>
 jn (jn (Zi (c7 (ZS.l4 Γ)) [q58_0,q58_1,q58_2,q58_3,q58_4,q58_5,y61]) noN (xk 6 (c6 fun q81_0 q81_1 q81_2 q81_3 q81_4 q81_5=>
 ret (.nrm [q81_0,q81_1,q81_2,q81_3,q81_4,q81_5])) noX) ZW) (c6 fun q83_0 q83_1 q83_2 q83_3 q83_4 q83_5=>
 ret (.nrm [q83_0,q83_1,q83_2,q83_3,q83_4,q83_5])) noX ZW)
 (ret (.nrm [q58_0,q58_1,q58_2,q58_3,q58_4,q58_5]))) (c6 fun q85_0 q85_1 q85_2 q85_3 q85_4 q85_5=>
 bind (bop .int .add q85_5 (Value.int .i64 1)) fun y86=>
 ret (.nrm [q85_0,q85_1,q85_2,q85_3,q85_4,y86])) noX ZW) noX ZW))) noX) ZW)
 (ret (.ext 0 []))
noncomputable def ZS (Γ : Zc) (x0 x1 x2 x3 : Value) : M Value:=
 bind (bop .int .add x1 (Value.int .i64 1)) fun y1=>
 jn (Zi (c6 (ZS.l1 Γ)) [x0,x1,x2,x3,y1,(Value.int .i64 0)]) noN (xk 0 (c0 (ret (Value.bool false))) noX) ret
noncomputable def QH.l2 (Γ : Zc) (s0 s1 s4 s11 s12 : Value) : M Out:=
 bind (bop .int .leq s11 s12) fun y9=>
 bind (Zg y9 true (ret s4)) fun y10=>
 bind (Zg y9 true (ret s0)) fun y11=>
 bind (Zg y9 true (ret s1)) fun y12=>
 bind (Zg y9 true (ixa 1 y11 y12)) fun y13=>
 bind (Zg y9 true (ld1 y13)) fun y14=>
 bind (Zg y9 true (ret s0)) fun y15=>
 bind (Zg y9 true (ret s11)) fun y16=>
 bind (Zg y9 true (ixa 1 y15 y16)) fun y17=>
 bind (Zg y9 true (ld1 y17)) fun y18=>
 bind (Zg y9 true (Jn Γ y10 [y14,y18])) fun y19=>
 bind (Zg y9 true (bop .int .lss y19 (Value.int .i64 0))) fun y20=>
 bind (Zg y9 true (uop .not y20)) fun y21=>
 bind (pick y9 y21 (Value.bool false)) fun y22=>
 cnd y22
 (bind (bop .int .add s11 (Value.int .i64 1)) fun y23=>
 ret (.nrm [s0,s1,s4,y23,s12]))
 (ret (.ext 2 [s0,s1,s4,s11,s12]))
noncomputable def QH.l3 (Γ : Zc) (s0 s1 s4 s11 s12 : Value) : M Out:=
 bind (bop .int .leq s11 s12) fun y26=>
 bind (Zg y26 true (ret s4)) fun y27=>
 bind (Zg y26 true (ret s0)) fun y28=>
 bind (Zg y26 true (ret s1)) fun y29=>
 bind (Zg y26 true (ixa 1 y28 y29)) fun y30=>
 bind (Zg y26 true (ld1 y30)) fun y31=>
 bind (Zg y26 true (ret s0)) fun y32=>
 bind (Zg y26 true (ret s12)) fun y33=>
 bind (Zg y26 true (ixa 1 y32 y33)) fun y34=>
 bind (Zg y26 true (ld1 y34)) fun y35=>
 bind (Zg y26 true (Jn Γ y27 [y31,y35])) fun y36=>
 bind (Zg y26 true (bop .int .lss y36 (Value.int .i64 0))) fun y37=>
 bind (pick y26 y37 (Value.bool false)) fun y38=>
 cnd y38
 (bind (bop .int .sub s12 (Value.int .i64 1)) fun y39=>
 ret (.nrm [s0,s1,s4,s11,y39]))
 (ret (.ext 4 [s0,s1,s4,s11,s12]))
noncomputable def QH.l1 (Γ : Zc) (s0 s1 s4 s11 s12 : Value) : M Out:=
 jn (Zi (c5 (QH.l2 Γ)) [s0,s1,s4,s11,s12]) noN (xk 2 (c5 fun q25_0 q25_1 q25_2 q25_3 q25_4=>
 jn (Zi (c5 (QH.l3 Γ)) [q25_0,q25_1,q25_2,q25_3,q25_4]) noN (xk 4 (c5 fun q41_0 q41_1 q41_2 q41_3 q41_4=>
 bind (bop .int .gtr q41_3 q41_4) fun y42=>
 cnd y42
 (ret (.ext 0 [q41_3]))
 (bind (ixa 1 q41_0 q41_4) fun y43=>
 bind (ld1 y43) fun y44=>
 bind (ixa 1 q41_0 q41_3) fun y45=>
 bind (ld1 y45) fun y46=>
 bind (ixa 1 q41_0 q41_3) fun y47=>
 bind (st1 y47 y44) fun _=>
 bind (ixa 1 q41_0 q41_4) fun y48=>
 bind (st1 y48 y46) fun _=>
 bind (bop .int .add q41_3 (Value.int .i64 1)) fun y49=>
 bind (bop .int .sub q41_4 (Value.int .i64 1)) fun y50=>
 ret (.nrm [q41_0,q41_1,q41_2,y49,y50]))) noX) ZW) noX) ZW
noncomputable def QH (Γ : Zc) (x0 x1 x2 x3 x4 : Value) : M Value:=
 bind (ixa 1 x0 x3) fun y1=>
 bind (ld1 y1) fun y2=>
 bind (ixa 1 x0 x1) fun y3=>
 bind (ld1 y3) fun y4=>
 bind (ixa 1 x0 x1) fun y5=>
 bind (st1 y5 y2) fun _=>
 bind (ixa 1 x0 x3) fun y6=>
 bind (st1 y6 y4) fun _=>
 bind (bop .int .add x1 (Value.int .i64 1)) fun y7=>
 bind (bop .int .sub x2 (Value.int .i64 1)) fun y8=>
 jn (Zi (c5 (QH.l1 Γ)) [x0,x1,x4,y7,y8]) noN (xk 0 (c1 fun q54_0=>
 ret q54_0) noX) ret
noncomputable def Z0.l1 (Γ : Zc) (s0 s1 s4 s12 s13 : Value) : M Out:=
 bind (bop .int .leq s12 s13) fun y9=>
 bind (Zg y9 true (ret s4)) fun y10=>
 bind (Zg y9 true (ret s0)) fun y11=>
 bind (Zg y9 true (ret s12)) fun y12=>
 bind (Zg y9 true (ixa 1 y11 y12)) fun y13=>
 bind (Zg y9 true (ld1 y13)) fun y14=>
 bind (Zg y9 true (ret s0)) fun y15=>
 bind (Zg y9 true (ret s1)) fun y16=>
 bind (Zg y9 true (ixa 1 y15 y16)) fun y17=>
 bind (Zg y9 true (ld1 y17)) fun y18=>
 bind (Zg y9 true (Jn Γ y10 [y14,y18])) fun y19=>
 bind (Zg y9 true (bop .int .lss y19 (Value.int .i64 0))) fun y20=>
 bind (pick y9 y20 (Value.bool false)) fun y21=>
 cnd y21
 (bind (bop .int .add s12 (Value.int .i64 1)) fun y22=>
 ret (.nrm [s0,s1,s4,y22,s13]))
 (ret (.ext 0 [s0,s1,s4,s12,s13]))
noncomputable def Z0.l2 (Γ : Zc) (s0 s1 s4 s12 s13 : Value) : M Out:=
 bind (bop .int .leq s12 s13) fun y25=>
 bind (Zg y25 true (ret s4)) fun y26=>
 bind (Zg y25 true (ret s0)) fun y27=>
 bind (Zg y25 true (ret s13)) fun y28=>
 bind (Zg y25 true (ixa 1 y27 y28)) fun y29=>
 bind (Zg y25 true (ld1 y29)) fun y30=>
 bind (Zg y25 true (ret s0)) fun y31=>
 bind (Zg y25 true (ret s1)) fun y32=>
 bind (Zg y25 true (ixa 1 y31 y32)) fun y33=>
 bind (Zg y25 true (ld1 y33)) fun y34=>
 bind (Zg y25 true (Jn Γ y26 [y30,y34])) fun y35=>
 bind (Zg y25 true (bop .int .lss y35 (Value.int .i64 0))) fun y36=>
 bind (Zg y25 true (uop .not y36)) fun y37=>
 bind (pick y25 y37 (Value.bool false)) fun y38=>
 cnd y38
 (bind (bop .int .sub s13 (Value.int .i64 1)) fun y39=>
 ret (.nrm [s0,s1,s4,s12,y39]))
 (ret (.ext 2 [s0,s1,s4,s12,s13]))
noncomputable def Z0.l4 (Γ : Zc) (s0 s1 s4 s12 s13 : Value) : M Out:=
 bind (bop .int .leq s12 s13) fun y57=>
 bind (Zg y57 true (ret s4)) fun y58=>
 bind (Zg y57 true (ret s0)) fun y59=>
 bind (Zg y57 true (ret s12)) fun y60=>
 bind (Zg y57 true (ixa 1 y59 y60)) fun y61=>
 bind (Zg y57 true (ld1 y61)) fun y62=>
 bind (Zg y57 true (ret s0)) fun y63=>
 bind (Zg y57 true (ret s1)) fun y64=>
 bind (Zg y57 true (ixa 1 y63 y64)) fun y65=>
 bind (Zg y57 true (ld1 y65)) fun y66=>
 bind (Zg y57 true (Jn Γ y58 [y62,y66])) fun y67=>
 bind (Zg y57 true (bop .int .lss y67 (Value.int .i64 0))) fun y68=>
 bind (pick y57 y68 (Value.bool false)) fun y69=>
 cnd y69
 (bind (bop .int .add s12 (Value.int .i64 1)) fun y70=>
 ret (.nrm [s0,s1,s4,y70,s13]))
 (ret (.ext 6 [s0,s1,s4,s12,s13]))
noncomputable def Z0.l5 (Γ : Zc) (s0 s1 s4 s12 s13 : Value) : M Out:=
 bind (bop .int .leq s12 s13) fun y73=>
 bind (Zg y73 true (ret s4)) fun y74=>
 bind (Zg y73 true (ret s0)) fun y75=>
 bind (Zg y73 true (ret s13)) fun y76=>
 bind (Zg y73 true (ixa 1 y75 y76)) fun y77=>
 bind (Zg y73 true (ld1 y77)) fun y78=>
 bind (Zg y73 true (ret s0)) fun y79=>
 bind (Zg y73 true (ret s1)) fun y80=>
 bind (Zg y73 true (ixa 1 y79 y80)) fun y81=>
 bind (Zg y73 true (ld1 y81)) fun y82=>
 bind (Zg y73 true (Jn Γ y74 [y78,y82])) fun y83=>
 bind (Zg y73 true (bop .int .lss y83 (Value.int .i64 0))) fun y84=>
 bind (Zg y73 true (uop .not y84)) fun y85=>
 bind (pick y73 y85 (Value.bool false)) fun y86=>
 cnd y86
 (bind (bop .int .sub s13 (Value.int .i64 1)) fun y87=>
 ret (.nrm [s0,s1,s4,s12,y87]))
 (ret (.ext 8 [s0,s1,s4,s12,s13]))
noncomputable def Z0.l3 (Γ : Zc) (s0 s1 s4 s12 s13 : Value) : M Out:=
 jn (Zi (c5 (Z0.l4 Γ)) [s0,s1,s4,s12,s13]) noN (xk 6 (c5 fun q72_0 q72_1 q72_2 q72_3 q72_4=>
 jn (Zi (c5 (Z0.l5 Γ)) [q72_0,q72_1,q72_2,q72_3,q72_4]) noN (xk 8 (c5 fun q89_0 q89_1 q89_2 q89_3 q89_4=>
 bind (bop .int .gtr q89_3 q89_4) fun y90=>
 cnd y90
 (ret (.ext 4 [q89_0,q89_1,q89_4]))
 (bind (ixa 1 q89_0 q89_4) fun y91=>
 bind (ld1 y91) fun y92=>
 bind (ixa 1 q89_0 q89_3) fun y93=>
 bind (ld1 y93) fun y94=>
 bind (ixa 1 q89_0 q89_3) fun y95=>
 bind (st1 y95 y92) fun _=>
 bind (ixa 1 q89_0 q89_4) fun y96=>
 bind (st1 y96 y94) fun _=>
 bind (bop .int .add q89_3 (Value.int .i64 1)) fun y97=>
 bind (bop .int .sub q89_4 (Value.int .i64 1)) fun y98=>
 ret (.nrm [q89_0,q89_1,q89_2,y97,y98]))) noX) ZW) noX) ZW
noncomputable def Z0 (Γ : Zc) (x0 x1 x2 x3 x4 : Value) : M Value:=
 bind (ixa 1 x0 x3) fun y1=>
 bind (ld1 y1) fun y2=>
 bind (ixa 1 x0 x1) fun y3=>
 bind (ld1 y3) fun y4=>
 bind (ixa 1 x0 x1) fun y5=>
 bind (st1 y5 y2) fun _=>
 bind (ixa 1 x0 x3) fun y6=>
 bind (st1 y6 y4) fun _=>
 bind (bop .int .add x1 (Value.int .i64 1)) fun y7=>
 bind (bop .int .sub x2 (Value.int .i64 1)) fun y8=>
 jn (Zi (c5 (Z0.l1 Γ)) [x0,x1,x4,y7,y8]) noN (xk 0 (c5 fun q24_0 q24_1 q24_2 q24_3 q24_4=>
 jn (Zi (c5 (Z0.l2 Γ)) [q24_0,q24_1,q24_2,q24_3,q24_4]) noN (xk 2 (c5 fun q41_0 q41_1 q41_2 q41_3 q41_4=>
 bind (bop .int .gtr q41_3 q41_4) fun y42=>
 cnd y42
 (bind (ixa 1 q41_0 q41_1) fun y43=>
 bind (ld1 y43) fun y44=>
 bind (ixa 1 q41_0 q41_4) fun y45=>
 bind (ld1 y45) fun y46=>
 bind (ixa 1 q41_0 q41_4) fun y47=>
 bind (st1 y47 y44) fun _=>
 bind (ixa 1 q41_0 q41_1) fun y48=>
 bind (st1 y48 y46) fun _=>
 ret (Value.tuple #[q41_4,(Value.bool true)]))
 (bind (ixa 1 q41_0 q41_4) fun y49=>
 bind (ld1 y49) fun y50=>
 bind (ixa 1 q41_0 q41_3) fun y51=>
 bind (ld1 y51) fun y52=>
 bind (ixa 1 q41_0 q41_3) fun y53=>
 bind (st1 y53 y50) fun _=>
 bind (ixa 1 q41_0 q41_4) fun y54=>
 bind (st1 y54 y52) fun _=>
 bind (bop .int .add q41_3 (Value.int .i64 1)) fun y55=>
 bind (bop .int .sub q41_4 (Value.int .i64 1)) fun y56=>
 jn (Zi (c5 (Z0.l3 Γ)) [q41_0,q41_1,q41_2,y55,y56]) noN (xk 4 (c3 fun q102_0 q102_1 q102_2=>
 bind (ixa 1 q102_0 q102_1) fun y103=>
 bind (ld1 y103) fun y104=>
 bind (ixa 1 q102_0 q102_2) fun y105=>
 bind (ld1 y105) fun y106=>
 bind (ixa 1 q102_0 q102_2) fun y107=>
 bind (st1 y107 y104) fun _=>
 bind (ixa 1 q102_0 q102_1) fun y108=>
 bind (st1 y108 y106) fun _=>
 ret (Value.tuple #[q102_2,(Value.bool false)])) noX) ret)) noX) ret) noX) ret
noncomputable def ZeY (Γ : Zc) (x0 : Value) : M Value:=
 bind (bop .int .geq x0 (Value.int .u64 4294967296)) fun y1=>
 jn (cnd y1
 (bind (bop .int .shr x0 (Value.int .u64 32)) fun y2=>
 ret (.nrm [y2,(Value.int .i64 32)]))
 (ret (.nrm [x0,(Value.int .i64 0)]))) (c2 fun q3_0 q3_1=>
 bind (bop .int .geq q3_0 (Value.int .u64 65536)) fun y4=>
 jn (cnd y4
 (bind (bop .int .shr q3_0 (Value.int .u64 16)) fun y5=>
 bind (bop .int .add q3_1 (Value.int .i64 16)) fun y6=>
 ret (.nrm [y5,y6]))
 (ret (.nrm [q3_0,q3_1]))) (c2 fun q7_0 q7_1=>
 bind (bop .int .geq q7_0 (Value.int .u64 256)) fun y8=>
 jn (cnd y8
 (bind (bop .int .shr q7_0 (Value.int .u64 8)) fun y9=>
 bind (bop .int .add q7_1 (Value.int .i64 8)) fun y10=>
 ret (.nrm [y9,y10]))
 (ret (.nrm [q7_0,q7_1]))) (c2 fun q11_0 q11_1=>
 bind (cvi .u8 q11_0) fun y12=>
 bind (ixs (Value.string ⟨#[0,1,2,2,3,3,3,3,4,4,4,4,4,4,4,4,5,5,5,5,5,5,5,5,5,5,5,5,5,5,5,5,6,6,6,6,6,6,6,6,6,6,6,6,6,6,6,6,6,6,6,6,6,6,6,6,6,6,6,6,6,6,6,6,7,7,7,7,7,7,7,7,7,7,7,7,7,7,7,7,7,7,7,7,7,7,7,7,7,7,7,7,7,7,7,7,7,7,7,7,7,7,7,7,7,7,7,7,7,7,7,7,7,7,7,7,7,7,7,7,7,7,7,7,7,7,7,7,8,8,8,8,8,8,8,8,8,8,8,8,8,8,8,8,8,8,8,8,8,8,8,8,8,8,8,8,8,8,8,8,8,8,8,8,8,8,8,8,8,8,8,8,8,8,8,8,8,8,8,8,8,8,8,8,8,8,8,8,8,8,8,8,8,8,8,8,8,8,8,8,8,8,8,8,8,8,8,8,8,8,8,8,8,8,8,8,8,8,8,8,8,8,8,8,8,8,8,8,8,8,8,8,8,8,8,8,8,8,8,8,8,8,8,8,8,8,8,8,8,8,8,8,8,8,8,8]⟩) y12) fun y13=>
 bind (cvi .i64 y13) fun y14=>
 bind (bop .int .add q11_1 y14) fun y15=>
 ret y15) noX ret) noX ret) noX ret
theorem ZoB (Γ : Zc) (x0 : Value) : Zy Tryz.prog Γ Tryz.f226 Zht [x0]=ZeY Γ x0:=by kernel_rfl
theorem ZmN {prim : FuncId→Option (List Value→M Value)} (hp : prim ZcT=none) (n : Nat) (x0 : Value) : run Tryz.prog prim lvs (n+1) ZcT [x0]=ZeY (run Tryz.prog prim lvs n) x0:=
 (Zk hp (by kernel_rfl) Tryz.func226 (by kernel_rfl)).trans (ZoB _ x0)
noncomputable def Wa (Γ : Zc) (x0 x1 : Value) : M Value:=
 bind (Γ Yu [x0,x1]) fun y1=>
 ret y1
theorem ZeB (Γ : Zc) (x0 x1 : Value) : Zy Tryz.prog Γ Tryz.f227 Za5 [x0,x1]=Wa Γ x0 x1:=by kernel_rfl
theorem Zed {prim : FuncId→Option (List Value→M Value)} (hp : prim JW=none) (n : Nat) (x0 x1 : Value) : run Tryz.prog prim lvs (n+1) JW [x0,x1]=Wa (run Tryz.prog prim lvs n) x0 x1:=
 (Zk hp (by kernel_rfl) Tryz.func227 (by kernel_rfl)).trans (ZeB _ x0 x1)
noncomputable def JP.l1 (Γ : Zc) (s0 s1 s5 s6 s7 s8 s9 : Value) : M Out:=
 bind (bop .int .lss s9 s7) fun y5=>
 cnd y5
 (bind (bop .int .mul s8 (Value.int .u32 16777619)) fun y6=>
 bind (ixs s0 s9) fun y7=>
 bind (cvi .u32 y7) fun y8=>
 bind (bop .int .add y6 y8) fun y9=>
 bind (bop .int .add s9 (Value.int .i64 1)) fun y10=>
 ret (.nrm [s0,s1,s5,s6,s7,y9,y10]))
 (ret (.ext 0 [s0,s1,s5,s6,s7,s8]))
noncomputable def JP.l2 (Γ : Zc) (s0 s1 s5 s6 s7 s8 s10 : Value) : M Out:=
 bind (JI s0) fun y18=>
 bind (bop .int .lss s10 y18) fun y19=>
 cnd y19
 (bind (bop .int .mul s8 (Value.int .u32 16777619)) fun y20=>
 bind (ixs s0 s10) fun y21=>
 bind (cvi .u32 y21) fun y22=>
 bind (bop .int .add y20 y22) fun y23=>
 bind (bop .int .sub s10 s7) fun y24=>
 bind (ixs s0 y24) fun y25=>
 bind (cvi .u32 y25) fun y26=>
 bind (bop .int .mul s6 y26) fun y27=>
 bind (bop .int .sub y23 y27) fun y28=>
 bind (bop .int .add s10 (Value.int .i64 1)) fun y29=>
 bind (bop .int .eql y28 s5) fun y30=>
 bind (ZJ y30 true 8 (bind (bop .int .sub y29 s7) fun y31=>
 bind (sls s0 (some y31) (some y29)) fun y32=>
 bind (bop .str .eql y32 s1) fun y33=>
 ret [s0,y29,s7,y31,y29,y32,s1,y33])) (c8 fun _ _ _ _ _ _ _ q34_7=>
 bind (pick y30 q34_7 (Value.bool false)) fun y35=>
 cnd y35
 (bind (bop .int .sub y29 s7) fun y36=>
 ret (.ret y36))
 (ret (.nrm [s0,s1,s5,s6,s7,y28,y29]))))
 (ret (.ext 2 []))
noncomputable def JP (Γ : Zc) (x0 x1 : Value) : M Value:=
 bind (Γ ZeR [x1]) fun y1=>
 bind (Zn y1 0) fun y2=>
 bind (Zn y1 1) fun y3=>
 bind (JI x1) fun y4=>
 jn (Zi (c7 (JP.l1 Γ)) [x0,x1,y2,y3,y4,(Value.int .u32 0),(Value.int .i64 0)]) noN (xk 0 (c6 fun q12_0 q12_1 q12_2 q12_3 q12_4 q12_5=>
 bind (bop .int .eql q12_5 q12_2) fun y13=>
 bind (ZJ y13 true 5 (bind (sls q12_0 none (some q12_4)) fun y14=>
 bind (bop .str .eql y14 q12_1) fun y15=>
 ret [q12_0,q12_4,y14,q12_1,y15])) (c5 fun _ _ _ _ q16_4=>
 bind (pick y13 q16_4 (Value.bool false)) fun y17=>
 cnd y17
 (ret (Value.int .i64 0))
 (jn (Zi (c7 (JP.l2 Γ)) [q12_0,q12_1,q12_2,q12_3,q12_4,q12_5,q12_4]) noN (xk 2 (c0 (ret (Value.int .i64 (-1)))) noX) ret))) noX) ret
noncomputable def ZbI.l1 (Γ : Zc) (s0 s2 s3 s4 s10 : Value) : M Out:=
 bind (bop .int .mul (Value.int .i64 2) s10) fun y1=>
 bind (bop .int .add y1 (Value.int .i64 1)) fun y2=>
 bind (bop .int .geq y2 s2) fun y3=>
 cnd y3
 (ret (.ext 0 []))
 (bind (bop .int .add y2 (Value.int .i64 1)) fun y4=>
 bind (bop .int .lss y4 s2) fun y5=>
 bind (Zg y5 true (ret s4)) fun y6=>
 bind (Zg y5 true (ret s0)) fun y7=>
 bind (Zg y5 true (ret s3)) fun y8=>
 bind (Zg y5 true (ret y2)) fun y9=>
 bind (Zg y5 true (bop .int .add y8 y9)) fun y10=>
 bind (Zg y5 true (ixa 1 y7 y10)) fun y11=>
 bind (Zg y5 true (ld1 y11)) fun y12=>
 bind (Zg y5 true (ret s0)) fun y13=>
 bind (Zg y5 true (ret s3)) fun y14=>
 bind (Zg y5 true (ret y2)) fun y15=>
 bind (Zg y5 true (bop .int .add y14 y15)) fun y16=>
 bind (Zg y5 true (bop .int .add y16 (Value.int .i64 1))) fun y17=>
 bind (Zg y5 true (ixa 1 y13 y17)) fun y18=>
 bind (Zg y5 true (ld1 y18)) fun y19=>
 bind (Zg y5 true (Jn Γ y6 [y12,y19])) fun y20=>
 bind (Zg y5 true (bop .int .lss y20 (Value.int .i64 0))) fun y21=>
 bind (pick y5 y21 (Value.bool false)) fun y22=>
 jn (cnd y22
 (bind (bop .int .add y2 (Value.int .i64 1)) fun y23=>
 ret (.nrm [s0,s2,s3,s4,s10,y23]))
 (ret (.nrm [s0,s2,s3,s4,s10,y2]))) (c6 fun q24_0 q24_1 q24_2 q24_3 q24_4 q24_5=>
 bind (bop .int .add q24_2 q24_4) fun y25=>
 bind (ixa 1 q24_0 y25) fun y26=>
 bind (ld1 y26) fun y27=>
 bind (bop .int .add q24_2 q24_5) fun y28=>
 bind (ixa 1 q24_0 y28) fun y29=>
 bind (ld1 y29) fun y30=>
 bind (Jn Γ q24_3 [y27,y30]) fun y31=>
 bind (bop .int .lss y31 (Value.int .i64 0)) fun y32=>
 bind (uop .not y32) fun y33=>
 cnd y33
 (ret (.ret (Value.tuple #[])))
 (bind (bop .int .add q24_2 q24_4) fun y34=>
 bind (bop .int .add q24_2 q24_5) fun y35=>
 bind (bop .int .add q24_2 q24_5) fun y36=>
 bind (ixa 1 q24_0 y36) fun y37=>
 bind (ld1 y37) fun y38=>
 bind (bop .int .add q24_2 q24_4) fun y39=>
 bind (ixa 1 q24_0 y39) fun y40=>
 bind (ld1 y40) fun y41=>
 bind (ixa 1 q24_0 y34) fun y42=>
 bind (st1 y42 y38) fun _=>
 bind (ixa 1 q24_0 y35) fun y43=>
 bind (st1 y43 y41) fun _=>
 ret (.nrm [q24_0,q24_1,q24_2,q24_3,q24_5]))) noX ZW)
noncomputable def ZbI (Γ : Zc) (x0 x1 x2 x3 x4 : Value) : M Value:=
 jn (Zi (c5 (ZbI.l1 Γ)) [x0,x2,x3,x4,x1]) noN (xk 0 (c0 (ret (Value.tuple #[]))) noX) ret
noncomputable def YM.l1 (Γ : Zc) (s0 s4 s5 : Value) : M Out:=
 bind (JI s0) fun y1=>
 bind (bop .int .lss s5 y1) fun y2=>
 cnd y2
 (bind (bop .int .mul s4 (Value.int .u32 16777619)) fun y3=>
 bind (ixs s0 s5) fun y4=>
 bind (cvi .u32 y4) fun y5=>
 bind (bop .int .add y3 y5) fun y6=>
 bind (bop .int .add s5 (Value.int .i64 1)) fun y7=>
 ret (.nrm [s0,y6,y7]))
 (ret (.ext 0 [s0,s4]))
noncomputable def YM.l2 (Γ : Zc) (s4 s6 s7 s8 : Value) : M Out:=
 bind (bop .int .gtr s8 (Value.int .i64 0)) fun y11=>
 cnd y11
 (bind (bop .int .and s8 (Value.int .i64 1)) fun y12=>
 bind (bop .int .neq y12 (Value.int .i64 0)) fun y13=>
 jn (cnd y13
 (bind (bop .int .mul s6 s7) fun y14=>
 ret (.nrm [s4,y14,s7,s8]))
 (ret (.nrm [s4,s6,s7,s8]))) (c4 fun q15_0 q15_1 q15_2 q15_3=>
 bind (bop .int .mul q15_2 q15_2) fun y16=>
 bind (bop .int .shr q15_3 (Value.int .u64 1)) fun y17=>
 ret (.nrm [q15_0,q15_1,y16,y17])) noX ZW)
 (ret (.ext 2 [s4,s6]))
noncomputable def YM (Γ : Zc) (x0 : Value) : M Value:=
 jn (Zi (c3 (YM.l1 Γ)) [x0,(Value.int .u32 0),(Value.int .i64 0)]) noN (xk 0 (c2 fun q9_0 q9_1=>
 bind (JI q9_0) fun y10=>
 jn (Zi (c4 (YM.l2 Γ)) [q9_1,(Value.int .u32 1),(Value.int .u32 16777619),y10]) noN (xk 2 (c2 fun q20_0 q20_1=>
 ret (Value.tuple #[q20_0,q20_1])) noX) ret) noX) ret
end Go.Proofs.YtedkoimihknggaaGreatDoor.A

