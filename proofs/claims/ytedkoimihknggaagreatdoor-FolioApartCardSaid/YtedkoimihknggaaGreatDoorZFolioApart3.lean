/- What the law FolioApart needs (part 3). -/
import Derived.Test.YtedkoimihknggaaGreatDoorZFolioApart2
import Derived.Test.YtedkoimihknggaaGreatDoorProg
import Derived.KernelRfl
namespace Go.Proofs.YtedkoimihknggaaGreatDoor.A
set_option linter.unusedVariables false
set_option maxRecDepth 100000
set_option linter.unusedSimpArgs false
open Go.Proofs Go.Proofs.YtedkoimihknggaaGreatDoor
noncomputable def Zck.l1 (Γ : Zc) (s3 s4 s5 s21 s22 s23 : Value) : M Out:=
 bind (bop .int .lss s23 s22) fun y10=>
 cnd y10
 (bind (ixa 1 s21 s23) fun y11=>
 bind (ld1 y11) fun y12=>
 bind (Jr Γ s4 [y12,(Value.int .i64 12)]) fun y13=>
 bind (bsl 1 1 (.string ⟨#[]⟩) [(0,1,y13)]) fun y14=>
 bind (app 1 16 s5 y14) fun y15=>
 bind (bop .int .add s23 (Value.int .i64 1)) fun y16=>
 ret (.nrm [s3,s4,y15,s21,s22,y16]))
 (ret (.ext 0 [s3,s4,s5]))
noncomputable def Zck.l2 (Γ : Zc) (s3 s4 s5 s8 s34 s35 s36 : Value) : M Out:=
 bind (bop .int .lss s36 s35) fun y21=>
 cnd y21
 (bind (ixa 1 s34 s36) fun y22=>
 bind (ld1 y22) fun y23=>
 bind (ld1 s3) fun y24=>
 bind (Jr Γ s4 [y23,(Value.int .i64 12)]) fun y25=>
 bind (ld1 s3) fun u_26=>same u_26 y24 <|
 bind (Jr Γ s4 [y23,(Value.int .i64 12)]) fun y27=>
 bind (ld1 s3) fun u_28=>same u_28 y24 <|
 bind (bop .str .add y27 (Value.string ⟨#[64,98,99,100,46,101,102]⟩)) fun y29=>
 bind (bop .str .add y29 y24) fun y30=>
 bind (bld (.agg #[.string ⟨#[]⟩,.string ⟨#[]⟩,.string ⟨#[]⟩,.bool false,.slice none 0 0]) [(0,1,y25),(1,1,(Value.string ⟨#[48,49,50,51,52,53,54,55,56,57,97,98]⟩)),(2,1,y30),(3,1,(Value.bool true)),(4,1,s5)]) fun y31=>
 bind (bsl 5 1 (.agg #[.string ⟨#[]⟩,.string ⟨#[]⟩,.string ⟨#[]⟩,.bool false,.slice none 0 0]) [(0,5,y31)]) fun y32=>
 bind (app 5 80 s8 y32) fun y33=>
 bind (bop .int .add s36 (Value.int .i64 1)) fun y34=>
 ret (.nrm [s3,s4,s5,y33,s34,s35,y34]))
 (ret (.ext 2 [s5,s8]))
noncomputable def Zck (Γ : Zc) (x0 : Value) : M Value:=
 bind (Γ Zb7 []) fun y1=>
 bind (uop .not y1) fun y2=>
 cnd y2
 (ret (Value.bool false))
 (bind (bop .int .rem x0 (Value.int .u8 26)) fun y3=>
 bind (bop .int .add (Value.int .u8 97) y3) fun y4=>
 bind (bsl 1 1 (.int .u8 0) [(0,1,y4)]) fun y5=>
 bind (b2s y5) fun y6=>
 bind (alc 1 (.string ⟨#[]⟩)) fun y7=>
 bind (st1 y7 y6) fun _=>
 bind (bsl 1 6 (.string ⟨#[]⟩) [(0,1,(Value.string ⟨#[97,49]⟩)),(1,1,(Value.string ⟨#[98,49]⟩)),(2,1,(Value.string ⟨#[99,49]⟩)),(3,1,(Value.string ⟨#[100,49]⟩)),(4,1,(Value.string ⟨#[101,49]⟩)),(5,1,(Value.string ⟨#[102,49]⟩))]) fun y8=>
 bind (Zy y8) fun y9=>
 jn (Zi (c6 (Zck.l1 Γ)) [y7,(Value.func (.func 11) #[] #[y7]),(Value.slice none 0 0),y8,y9,(Value.int .i64 0)]) noN (xk 0 (c3 fun q18_0 q18_1 q18_2=>
 bind (bsl 1 12 (.string ⟨#[]⟩) [(0,1,(Value.string ⟨#[97]⟩)),(1,1,(Value.string ⟨#[98]⟩)),(2,1,(Value.string ⟨#[99]⟩)),(3,1,(Value.string ⟨#[100]⟩)),(4,1,(Value.string ⟨#[101]⟩)),(5,1,(Value.string ⟨#[102]⟩)),(6,1,(Value.string ⟨#[103]⟩)),(7,1,(Value.string ⟨#[104]⟩)),(8,1,(Value.string ⟨#[105]⟩)),(9,1,(Value.string ⟨#[106]⟩)),(10,1,(Value.string ⟨#[107]⟩)),(11,1,(Value.string ⟨#[108]⟩))]) fun y19=>
 bind (Zy y19) fun y20=>
 jn (Zi (c7 (Zck.l2 Γ)) [q18_0,q18_1,q18_2,(Value.slice none 0 0),y19,y20,(Value.int .i64 0)]) noN (xk 2 (c2 fun q36_0 q36_1=>
 bind (Γ Zbf [q36_1,q36_0]) fun y37=>
 bind (Zm y37 0) fun y38=>
 bind (Zm y37 1) fun y39=>
 bind (bop .int .eql y39 (Value.int .i64 0)) fun y40=>
 bind (ZH y40 true 2 (bind (bop .ptr .neq y38 (Value.pointer none)) fun y41=>
 ret [y38,y41])) (c2 fun _ q42_1=>
 bind (pick y40 q42_1 (Value.bool false)) fun y43=>
 bind (ZH y43 true 5 (bind (Γ QO [y38]) fun y44=>
 bind (Zy y44) fun y45=>
 bind (Γ ZuD []) fun y46=>
 bind (bop .int .eql y45 y46) fun y47=>
 ret [y38,y44,y45,y46,y47])) (c5 fun _ _ _ _ q48_4=>
 bind (pick y43 q48_4 (Value.bool false)) fun y49=>
 ret y49))) noX) ret) noX) ret)
noncomputable def QQ.l1 (Γ : Zc) (s5 s6 s9 s11 s63 s64 s65 : Value) : M Out:=
 bind (bop .int .lss s65 s64) fun y44=>
 cnd y44
 (bind (ixa 4 s63 s65) fun y45=>
 bind (ldA 4 y45) fun y46=>
 bind (alc 1 (.agg #[.int .u8 0,.string ⟨#[]⟩,.string ⟨#[]⟩,.bool false])) fun y47=>
 bind (stA 4 y47 y46) fun _=>
 bind (ldA 2 s6) fun y48=>
 bind (ldA 4 y47) fun y49=>
 bind (Γ Jh [s5,y48,y49]) fun y50=>
 bind (Zm y50 0) fun y51=>
 bind (Zm y50 1) fun y52=>
 bind (stA 2 s6 y51) fun _=>
 bind (ldA 2 s11) fun y53=>
 bind (ldA 4 y47) fun y54=>
 bind (Γ Jh [s9,y53,y54]) fun y55=>
 bind (Zm y55 0) fun y56=>
 bind (Zm y55 1) fun y57=>
 bind (stA 2 s11 y56) fun _=>
 bind (uop .not y52) fun y58=>
 bind (Zh y58 false (ret y57)) fun y59=>
 bind (Zh y58 false (uop .not y59)) fun y60=>
 bind (pick y58 (Value.bool true) y60) fun y61=>
 bind (Zh y61 false (ret s5)) fun y62=>
 bind (Zh y61 false (ret s9)) fun y63=>
 bind (Zh y61 false (Γ QO [y62])) fun y64=>
 bind (Zh y61 false (b2s y64)) fun y65=>
 bind (Zh y61 false (Γ QO [y63])) fun y66=>
 bind (Zh y61 false (b2s y64)) fun u_67=>same u_67 y65 <|
 bind (Zh y61 false (b2s y66)) fun y68=>
 bind (Zh y61 false (bop .str .neq y65 y68)) fun y69=>
 bind (pick y61 (Value.bool true) y69) fun y70=>
 cnd y70
 (ret (.ret (Value.bool false)))
 (bind (bop .int .add s65 (Value.int .i64 1)) fun y71=>
 ret (.nrm [s5,s6,s9,s11,s63,s64,y71])))
 (ret (.ext 0 []))
noncomputable def QQ (Γ : Zc) (x0 x1 : Value) : M Value:=
 bind (Γ Zb7 []) fun y1=>
 bind (uop .not y1) fun y2=>
 bind (ZH y2 false 3 (bind (Γ WJ [x0]) fun y3=>
 bind (uop .not y3) fun y4=>
 ret [x0,y3,y4])) (c3 fun _ _ q5_2=>
 bind (pick y2 (Value.bool true) q5_2) fun y6=>
 bind (ZH y6 false 3 (bind (Γ WJ [x1]) fun y7=>
 bind (uop .not y7) fun y8=>
 ret [x1,y7,y8])) (c3 fun _ _ q9_2=>
 bind (pick y6 (Value.bool true) q9_2) fun y10=>
 cnd y10
 (bind (Γ Zb7 []) fun y11=>
 ret y11)
 (bind (Γ Zcv [x0]) fun y12=>
 bind (Zm y12 0) fun y13=>
 bind (Zm y12 1) fun y14=>
 bind (alc 1 (.agg #[.slice none 0 0,.slice none 0 0])) fun y15=>
 bind (stA 2 y15 y14) fun _=>
 bind (Γ Zcv [x1]) fun y16=>
 bind (Zm y16 0) fun y17=>
 bind (Zm y16 1) fun y18=>
 bind (alc 1 (.agg #[.slice none 0 0,.slice none 0 0])) fun y19=>
 bind (stA 2 y19 y18) fun _=>
 bind (ldA 2 y15) fun y20=>
 bind (Γ QO [y13]) fun y21=>
 bind (ldA 2 y15) fun u_22=>same u_22 y20 <|
 bind (b2s y21) fun y23=>
 bind (Γ QO [y17]) fun y24=>
 bind (b2s y21) fun u_25=>same u_25 y23 <|
 bind (ldA 2 y15) fun u_26=>same u_26 y20 <|
 bind (b2s y24) fun y27=>
 bind (bop .str .eql y23 y27) fun y28=>
 bind (Γ ZdL [y17,y20]) fun y29=>
 bind (b2s y24) fun u_30=>same u_30 y27 <|
 bind (b2s y21) fun u_31=>same u_31 y23 <|
 bind (bop .bool .neq y28 y29) fun y32=>
 cnd y32
 (ret (Value.bool false))
 (bind (Γ QO [y13]) fun y33=>
 bind (Γ ZcD [y33]) fun y34=>
 bind (Zm y34 0) fun y35=>
 bind (Zm y34 1) fun y36=>
 bind (bop .int .neq y36 (Value.int .i64 0)) fun y37=>
 bind (ZH y37 false 2 (bind (bop .ptr .eql y35 (Value.pointer none)) fun y38=>
 ret [y35,y38])) (c2 fun _ q39_1=>
 bind (pick y37 (Value.bool true) q39_1) fun y40=>
 cnd y40
 (ret (Value.bool false))
 (bind (ldA 2 y15) fun y41=>
 bind (alc 1 (.agg #[.slice none 0 0,.slice none 0 0])) fun y42=>
 bind (stA 2 y42 y41) fun _=>
 bind (Zy x1) fun y43=>
 jn (Zi (c7 (QQ.l1 Γ)) [y13,y15,y35,y42,x1,y43,(Value.int .i64 0)]) noN (xk 0 (c0 (ret (Value.bool true))) noX) ret))))))
theorem ZlM (Γ : Zc) (x0 x1 : Value) : Zz Tryz.prog Γ Tryz.f5 ZfP [x0,x1]=QQ Γ x0 x1:=by kernel_rfl
theorem Zkq {prim : FuncId→Option (List Value→M Value)} (hp : prim Zaf=none) (n : Nat) (x0 x1 : Value) : run Tryz.prog prim lvs (n+1) Zaf [x0,x1]=QQ (run Tryz.prog prim lvs n) x0 x1:=
 (Zl hp (by kernel_rfl) Tryz.func5 (by kernel_rfl)).trans (ZlM _ x0 x1)
noncomputable def Zbt.l1 (Γ : Zc) (s1 s2 s3 s9 s48 s49 s50 : Value) : M Out:=
 bind (bop .int .lss s50 s49) fun y22=>
 cnd y22
 (bind (ixa 3 s48 s50) fun y23=>
 bind (ldA 3 y23) fun y24=>
 bind (alc 1 (.agg #[.int .u8 0,.string ⟨#[]⟩,.string ⟨#[]⟩])) fun y25=>
 bind (stA 3 y25 y24) fun _=>
 bind (ldA 3 y25) fun y26=>
 bind (Γ Zrs [s9,y26]) fun y27=>
 bind (bop .int .add s50 (Value.int .i64 1)) fun y28=>
 ret (.nrm [s1,s2,s3,s9,s48,s49,y28]))
 (ret (.ext 0 [s1,s2,s3,s9]))
noncomputable def Zbt.l2 (Γ : Zc) (s2 s3 s9 s13 s72 s73 s74 : Value) : M Out:=
 bind (bop .int .lss s74 s73) fun y41=>
 cnd y41
 (bind (ixa 3 s72 s74) fun y42=>
 bind (ldA 3 y42) fun y43=>
 bind (alc 1 (.agg #[.int .u8 0,.string ⟨#[]⟩,.string ⟨#[]⟩])) fun y44=>
 bind (stA 3 y44 y43) fun _=>
 bind (ldA 3 y44) fun y45=>
 bind (ldA 3 y44) fun y46=>
 bind (Γ Zrs [s9,y45]) fun y47=>
 bind (ldA 3 y44) fun u_48=>same u_48 y46 <|
 bind (Γ ZtU [s13,y46]) fun y49=>
 bind (bop .int .neq y47 y49) fun y50=>
 bind (Zh y50 false (ret s9)) fun y51=>
 bind (Zh y50 false (ret s13)) fun y52=>
 bind (Zh y50 false (Γ ZfG [y51])) fun y53=>
 bind (Zh y50 false (Γ QO [y53])) fun y54=>
 bind (Zh y50 false (b2s y54)) fun y55=>
 bind (Zh y50 false (Γ QO [y52])) fun y56=>
 bind (Zh y50 false (b2s y54)) fun u_57=>same u_57 y55 <|
 bind (Zh y50 false (b2s y56)) fun y58=>
 bind (Zh y50 false (bop .str .neq y55 y58)) fun y59=>
 bind (pick y50 (Value.bool true) y59) fun y60=>
 cnd y60
 (ret (.ret (Value.bool false)))
 (bind (Γ ZnC [s9,s2]) fun y61=>
 bind (Zm y61 0) fun y62=>
 bind (Zm y61 1) fun y63=>
 bind (Γ WE [s13,s2]) fun y64=>
 bind (Zm y64 0) fun y65=>
 bind (Zm y64 1) fun y66=>
 bind (alc 1 (.agg #[.string ⟨#[]⟩,.string ⟨#[]⟩,.string ⟨#[]⟩,.bool false,.slice none 0 0])) fun y67=>
 bind (stA 5 y67 y65) fun _=>
 bind (Γ ZqB [s9,s3]) fun y68=>
 bind (Zm y68 0) fun y69=>
 bind (Zm y68 1) fun y70=>
 bind (Γ ZqO [s13,s3]) fun y71=>
 bind (Zm y71 0) fun y72=>
 bind (Zm y71 1) fun y73=>
 bind (fa 1 y67) fun y74=>
 bind (ld1 y74) fun y75=>
 bind (bop .str .neq y62 y75) fun y76=>
 bind (ZH y76 false 3 (bind (bop .int .neq y63 y66) fun y77=>
 ret [y63,y66,y77])) (c3 fun _ _ q78_2=>
 bind (pick y76 (Value.bool true) q78_2) fun y79=>
 bind (ZH y79 false 3 (bind (bop .int .neq y70 y73) fun y80=>
 ret [y70,y73,y80])) (c3 fun _ _ q81_2=>
 bind (pick y79 (Value.bool true) q81_2) fun y82=>
 bind (ZH y82 false 4 (bind (Γ WG [y69,y72]) fun y83=>
 bind (uop .not y83) fun y84=>
 ret [y69,y72,y83,y84])) (c4 fun _ _ _ q85_3=>
 bind (pick y82 (Value.bool true) q85_3) fun y86=>
 cnd y86
 (ret (.ret (Value.bool false)))
 (bind (bop .int .add s74 (Value.int .i64 1)) fun y87=>
 ret (.nrm [s2,s3,s9,s13,s72,s73,y87])))))))
 (ret (.ext 2 []))
noncomputable def Zbt (Γ : Zc) (x0 x1 x2 x3 : Value) : M Value:=
 bind (Γ Zey []) fun y1=>
 bind (uop .not y1) fun y2=>
 bind (ZH y2 false 3 (bind (Γ Zow [x0]) fun y3=>
 bind (uop .not y3) fun y4=>
 ret [x0,y3,y4])) (c3 fun _ _ q5_2=>
 bind (pick y2 (Value.bool true) q5_2) fun y6=>
 bind (ZH y6 false 3 (bind (Γ Zow [x1]) fun y7=>
 bind (uop .not y7) fun y8=>
 ret [x1,y7,y8])) (c3 fun _ _ q9_2=>
 bind (pick y6 (Value.bool true) q9_2) fun y10=>
 bind (ZH y10 false 3 (bind (JV x2) fun y11=>
 bind (bop .int .gtr y11 (Value.int .i64 50)) fun y12=>
 ret [x2,y11,y12])) (c3 fun _ _ q13_2=>
 bind (pick y10 (Value.bool true) q13_2) fun y14=>
 bind (ZH y14 false 3 (bind (JV x3) fun y15=>
 bind (bop .int .gtr y15 (Value.int .i64 50)) fun y16=>
 ret [x3,y15,y16])) (c3 fun _ _ q17_2=>
 bind (pick y14 (Value.bool true) q17_2) fun y18=>
 cnd y18
 (bind (Γ Zey []) fun y19=>
 ret y19)
 (bind (Γ Zp3 []) fun y20=>
 bind (Zy x0) fun y21=>
 jn (Zi (c7 (Zbt.l1 Γ)) [x1,x2,x3,y20,x0,y21,(Value.int .i64 0)]) noN (xk 0 (c4 fun q30_0 q30_1 q30_2 q30_3=>
 bind (Γ Znn [q30_3]) fun y31=>
 bind (b2s y31) fun y32=>
 bind (Γ ZfG [q30_3]) fun y33=>
 bind (bop .ptr .eql y33 (Value.pointer none)) fun y34=>
 bind (ZH y34 false 5 (bind (Γ Znn [q30_3]) fun y35=>
 bind (b2s y35) fun y36=>
 bind (bop .str .neq y36 y32) fun y37=>
 ret [q30_3,y35,y36,y32,y37])) (c5 fun _ _ _ _ q38_4=>
 bind (pick y34 (Value.bool true) q38_4) fun y39=>
 cnd y39
 (ret (Value.bool false))
 (bind (Zy q30_0) fun y40=>
 jn (Zi (c7 (Zbt.l2 Γ)) [q30_1,q30_2,q30_3,y33,q30_0,y40,(Value.int .i64 0)]) noN (xk 2 (c0 (bind (Γ ZfG [(Value.pointer none)]) fun y90=>
 bind (bop .ptr .eql y90 (Value.pointer none)) fun y91=>
 ret y91)) noX) ret))) noX) ret)))))
noncomputable def Zbk.l1 (Γ : Zc) (s3 s4 s23 s24 s25 : Value) : M Out:=
 bind (bop .int .lss s25 s24) fun y11=>
 cnd y11
 (bind (ixa 4 s23 s25) fun y12=>
 bind (ldA 4 y12) fun y13=>
 bind (alc 1 (.agg #[.int .u8 0,.string ⟨#[]⟩,.string ⟨#[]⟩,.bool false])) fun y14=>
 bind (stA 4 y14 y13) fun _=>
 bind (ldA 2 s4) fun y15=>
 bind (ldA 4 y14) fun y16=>
 bind (Γ Jh [s3,y15,y16]) fun y17=>
 bind (Zm y17 0) fun y18=>
 bind (Zm y17 1) fun y19=>
 bind (stA 2 s4 y18) fun _=>
 bind (bop .int .add s25 (Value.int .i64 1)) fun y20=>
 ret (.nrm [s3,s4,s23,s24,y20]))
 (ret (.ext 0 [s3,s4]))
noncomputable def Zbk.l2 (Γ : Zc) (s3 s4 s7 s42 s43 s44 : Value) : M Out:=
 bind (bop .int .lss s44 s43) fun y30=>
 cnd y30
 (bind (ixa 5 s42 s44) fun y31=>
 bind (ldA 5 y31) fun y32=>
 bind (alc 1 (.agg #[.string ⟨#[]⟩,.string ⟨#[]⟩,.string ⟨#[]⟩,.bool false,.slice none 0 0])) fun y33=>
 bind (stA 5 y33 y32) fun _=>
 bind (ZH s7 true 3 (bind (fa 2 y33) fun y34=>
 bind (ld1 y34) fun y35=>
 bind (bop .str .eql y35 (Value.string ⟨#[]⟩)) fun y36=>
 ret [y34,y35,y36])) (c3 fun _ _ q37_2=>
 bind (pick s7 q37_2 (Value.bool false)) fun y38=>
 bind (ZH y38 true 3 (bind (fa 3 y33) fun y39=>
 bind (ld1 y39) fun y40=>
 bind (uop .not y40) fun y41=>
 ret [y39,y40,y41])) (c3 fun _ _ q42_2=>
 bind (pick y38 q42_2 (Value.bool false)) fun y43=>
 bind (bop .int .add s44 (Value.int .i64 1)) fun y44=>
 ret (.nrm [s3,s4,y43,s42,s43,y44]))))
 (ret (.ext 2 [s3,s4,s7]))
noncomputable def Zbk (Γ : Zc) (x0 : Value) : M Value:=
 bind (Γ Zey []) fun y1=>
 bind (uop .not y1) fun y2=>
 bind (ZH y2 false 3 (bind (Γ WJ [x0]) fun y3=>
 bind (uop .not y3) fun y4=>
 ret [x0,y3,y4])) (c3 fun _ _ q5_2=>
 bind (pick y2 (Value.bool true) q5_2) fun y6=>
 cnd y6
 (bind (Γ Zey []) fun y7=>
 ret y7)
 (bind (Γ Wj []) fun y8=>
 bind (alc 1 (.agg #[.slice none 0 0,.slice none 0 0])) fun y9=>
 bind (Zy x0) fun y10=>
 jn (Zi (c5 (Zbk.l1 Γ)) [y8,y9,x0,y10,(Value.int .i64 0)]) noN (xk 0 (c2 fun q22_0 q22_1=>
 bind (fa 1 q22_1) fun y23=>
 bind (ld1 y23) fun y24=>
 bind (Zy y24) fun y25=>
 bind (bop .int .eql y25 (Value.int .i64 0)) fun y26=>
 bind (fa 0 q22_1) fun y27=>
 bind (ld1 y27) fun y28=>
 bind (Zy y28) fun y29=>
 jn (Zi (c6 (Zbk.l2 Γ)) [q22_0,q22_1,y26,y28,y29,(Value.int .i64 0)]) noN (xk 2 (c3 fun q46_0 q46_1 q46_2=>
 bind (Γ Zj1 [q46_0]) fun y47=>
 bind (Zm y47 0) fun y48=>
 bind (Zm y47 1) fun y49=>
 bind (uop .not q46_2) fun y50=>
 cnd y50
 (bind (bop .int .eql y49 (Value.int .i64 12)) fun y51=>
 bind (ZH y51 true 2 (bind (bop .ptr .eql y48 (Value.pointer none)) fun y52=>
 ret [y48,y52])) (c2 fun _ q53_1=>
 bind (pick y51 q53_1 (Value.bool false)) fun y54=>
 ret y54))
 (bind (bop .int .neq y49 (Value.int .i64 0)) fun y55=>
 bind (Zh y55 false (ret y48)) fun y56=>
 bind (Zh y55 false (bop .ptr .eql y56 (Value.pointer none))) fun y57=>
 bind (pick y55 (Value.bool true) y57) fun y58=>
 bind (Zh y58 false (ret y48)) fun y59=>
 bind (Zh y58 false (ret q46_0)) fun y60=>
 bind (Zh y58 false (Γ ZfG [y59])) fun y61=>
 bind (Zh y58 false (Γ QO [y61])) fun y62=>
 bind (Zh y58 false (b2s y62)) fun y63=>
 bind (Zh y58 false (Γ QO [y60])) fun y64=>
 bind (Zh y58 false (b2s y62)) fun u_65=>same u_65 y63 <|
 bind (Zh y58 false (b2s y64)) fun y66=>
 bind (Zh y58 false (bop .str .neq y63 y66)) fun y67=>
 bind (pick y58 (Value.bool true) y67) fun y68=>
 cnd y68
 (ret (Value.bool false))
 (bind (Γ Zj1 [(Value.pointer none)]) fun y69=>
 bind (Zm y69 0) fun y70=>
 bind (Zm y69 1) fun y71=>
 bind (bop .int .eql y71 (Value.int .i64 12)) fun y72=>
 bind (Zh y72 true (ret y70)) fun y73=>
 bind (Zh y72 true (bop .ptr .eql y73 (Value.pointer none))) fun y74=>
 bind (pick y72 y74 (Value.bool false)) fun y75=>
 bind (Zh y75 true (ret y48)) fun y76=>
 bind (Zh y75 true (fa 0 q46_1)) fun y77=>
 bind (Zh y75 true (ld1 y77)) fun y78=>
 bind (Zh y75 true (Γ Zge [y76])) fun y79=>
 bind (Zh y75 true (ld1 y77)) fun u_80=>same u_80 y78 <|
 bind (Zh y75 true (Γ KN [y79,y78])) fun y81=>
 bind (pick y75 y81 (Value.bool false)) fun y82=>
 ret y82))) noX) ret) noX) ret))
noncomputable def Zhe (Γ : Zc) : M Value:=
 bind (Γ Wj []) fun y1=>
 bind (Γ QO [y1]) fun y2=>
 bind (b2s y2) fun y3=>
 bind (bop .str .eql y3 (Value.string ⟨#[2,0,0,0,0]⟩)) fun y4=>
 ret y4
theorem Zr5 (Γ : Zc) : Zz Tryz.prog Γ Tryz.f10 ZjS []=Zhe Γ :=by kernel_rfl
theorem ZqF {prim : FuncId→Option (List Value→M Value)} (hp : prim Zb7=none) (n : Nat) : run Tryz.prog prim lvs (n+1) Zb7 []=Zhe (run Tryz.prog prim lvs n) :=
 (Zl hp (by kernel_rfl) Tryz.func10 (by kernel_rfl)).trans (Zr5 _ )
noncomputable def Zgt.l1 (Γ : Zc) (s0 s1 s2 : Value) : M Out:=
 bind (JV s0) fun y1=>
 bind (bop .int .lss y1 s1) fun y2=>
 cnd y2
 (bind (ld1 s2) fun y3=>
 bind (bop .str .add s0 y3) fun y4=>
 ret (.nrm [y4,s1,s2]))
 (ret (.ext 0 [s0]))
noncomputable def Zgt (Γ : Zc) (x0 x1 x2 : Value) : M Value:=
 jn (Zi (c3 (Zgt.l1 Γ)) [x0,x1,x2]) noN (xk 0 (c1 fun q6_0=>
 ret q6_0) noX) ret
noncomputable def QV.l1 (Γ : Zc) (s0 s7 s23 s24 s25 : Value) : M Out:=
 bind (bop .int .lss s25 s24) fun y5=>
 cnd y5
 (bind (ixa 1 s23 s25) fun y6=>
 bind (ld1 y6) fun y7=>
 bind (Qc s7) fun y8=>
 bind (fa 2 y8) fun y9=>
 bind (ld1 y9) fun y10=>
 bind (Γ Yk [y10,y7]) fun y11=>
 bind (bop .int .add s25 (Value.int .i64 1)) fun y12=>
 ret (.nrm [s0,s7,s23,s24,y12]))
 (ret (.ext 0 [s0,s7]))
noncomputable def QV.l3 (Γ : Zc) (s7 s11 s36 s37 s38 s54 s55 s56 : Value) : M Out:=
 bind (bop .int .lss s56 s55) fun y33=>
 cnd y33
 (bind (ixa 1 s54 s56) fun y34=>
 bind (ld1 y34) fun y35=>
 bind (Qc s7) fun y36=>
 bind (fa 2 y36) fun y37=>
 bind (ld1 y37) fun y38=>
 bind (fa 0 s11) fun y39=>
 bind (ld1 y39) fun y40=>
 bind (Γ YJ [y38,y35,y40]) fun y41=>
 bind (bop .int .neq y41 (Value.int .i64 0)) fun y42=>
 cnd y42
 (ret (.ret (Value.tuple #[(Value.pointer none),y41])))
 (bind (bop .int .add s56 (Value.int .i64 1)) fun y43=>
 ret (.nrm [s7,s11,s36,s37,s38,s54,s55,y43])))
 (ret (.ext 4 [s7,s11,s36,s37,s38]))
noncomputable def QV.l2 (Γ : Zc) (s7 s36 s37 s38 : Value) : M Out:=
 bind (bop .int .lss s38 s37) fun y16=>
 cnd y16
 (bind (ixa 5 s36 s38) fun y17=>
 bind (ldA 5 y17) fun y18=>
 bind (alc 1 (.agg #[.string ⟨#[]⟩,.string ⟨#[]⟩,.string ⟨#[]⟩,.bool false,.slice none 0 0])) fun y19=>
 bind (stA 5 y19 y18) fun _=>
 bind (Qc s7) fun y20=>
 bind (fa 0 y20) fun y21=>
 bind (ld1 y21) fun y22=>
 bind (fa 0 y19) fun y23=>
 bind (ld1 y23) fun y24=>
 bind (fa 1 y19) fun y25=>
 bind (ld1 y25) fun y26=>
 bind (fa 3 y19) fun y27=>
 bind (ld1 y27) fun y28=>
 bind (bld (.agg #[.string ⟨#[]⟩,.bool false]) [(0,1,y26),(1,1,y28)]) fun y29=>
 bind (mup .str y22 y24 y29) fun _=>
 bind (fa 4 y19) fun y30=>
 bind (ld1 y30) fun y31=>
 bind (Zy y31) fun y32=>
 jn (Zi (c8 (QV.l3 Γ)) [s7,y19,s36,s37,s38,y31,y32,(Value.int .i64 0)]) noN (xk 4 (c5 fun q45_0 q45_1 q45_2 q45_3 q45_4=>
 bind (Qc q45_0) fun y46=>
 bind (fa 1 y46) fun y47=>
 bind (ld1 y47) fun y48=>
 bind (fa 0 q45_1) fun y49=>
 bind (ld1 y49) fun y50=>
 bind (fa 2 q45_1) fun y51=>
 bind (ld1 y51) fun y52=>
 bind (Γ Kf [y48,y50,y52]) fun y53=>
 bind (bop .int .neq y53 (Value.int .i64 0)) fun y54=>
 cnd y54
 (ret (.ret (Value.tuple #[(Value.pointer none),y53])))
 (bind (bop .int .add q45_4 (Value.int .i64 1)) fun y55=>
 ret (.nrm [q45_0,q45_2,q45_3,y55]))) noX) ZX)
 (ret (.ext 2 [s7]))
noncomputable def QV (Γ : Zc) (x0 x1 : Value) : M Value:=
 bind (Γ Zc9 [x0,x1]) fun y1=>
 bind (bop .int .neq y1 (Value.int .i64 0)) fun y2=>
 cnd y2
 (ret (Value.tuple #[(Value.pointer none),y1]))
 (bind (Γ Wj []) fun y3=>
 bind (Zy x1) fun y4=>
 jn (Zi (c5 (QV.l1 Γ)) [x0,y3,x1,y4,(Value.int .i64 0)]) noN (xk 0 (c2 fun q14_0 q14_1=>
 bind (Zy q14_0) fun y15=>
 jn (Zi (c4 (QV.l2 Γ)) [q14_1,q14_0,y15,(Value.int .i64 0)]) noN (xk 2 (c1 fun q58_0=>
 ret (Value.tuple #[q58_0,(Value.int .i64 0)])) noX) ret) noX) ret)
theorem Zwx (Γ : Zc) (x0 x1 : Value) : Zz Tryz.prog Γ Tryz.f12 Zp4 [x0,x1]=QV Γ x0 x1:=by kernel_rfl
theorem ZuZ {prim : FuncId→Option (List Value→M Value)} (hp : prim Zbf=none) (n : Nat) (x0 x1 : Value) : run Tryz.prog prim lvs (n+1) Zbf [x0,x1]=QV (run Tryz.prog prim lvs n) x0 x1:=
 (Zl hp (by kernel_rfl) Tryz.func12 (by kernel_rfl)).trans (Zwx _ x0 x1)
noncomputable def WX.l1 (Γ : Zc) (s3 s19 s20 s21 : Value) : M Out:=
 bind (bop .int .lss s21 s20) fun y12=>
 cnd y12
 (bind (ixa 5 s19 s21) fun y13=>
 bind (ldA 5 y13) fun y14=>
 bind (alc 1 (.agg #[.string ⟨#[]⟩,.string ⟨#[]⟩,.string ⟨#[]⟩,.bool false,.slice none 0 0])) fun y15=>
 bind (stA 5 y15 y14) fun _=>
 bind (ldA 5 y15) fun y16=>
 bind (Γ ZfX [s3,(Value.int .i64 2),y16]) fun y17=>
 bind (bop .int .add s21 (Value.int .i64 1)) fun y18=>
 ret (.nrm [s3,s19,s20,y18]))
 (ret (.ext 0 [s3]))
noncomputable def WX (Γ : Zc) (x0 : Value) : M Value:=
 bind (bop .ptr .eql x0 (Value.pointer none)) fun y1=>
 cnd y1
 (ret (Value.slice none 0 0))
 (bind (bld (.agg #[.slice none 0 0]) []) fun y2=>
 bind (alc 1 y2) fun y3=>
 bind (Γ JP [y3,(Value.int .u8 2)]) fun y4=>
 bind (Γ KI [x0]) fun y5=>
 bind (Γ KP [y4,y5]) fun y6=>
 bind (Γ W6 [x0]) fun y7=>
 bind (cvi .u16 y7) fun y8=>
 bind (Γ Yx [y6,y8]) fun y9=>
 bind (Γ Zbc [x0]) fun y10=>
 bind (Zy y10) fun y11=>
 jn (Zi (c4 (WX.l1 Γ)) [y9,y10,y11,(Value.int .i64 0)]) noN (xk 0 (c1 fun q20_0=>
 bind (Γ K2 [q20_0]) fun y21=>
 ret y21) noX) ret)
theorem ZrM (Γ : Zc) (x0 : Value) : Zz Tryz.prog Γ Tryz.f13 ZjR [x0]=WX Γ x0:=by kernel_rfl
theorem ZqQ {prim : FuncId→Option (List Value→M Value)} (hp : prim QO=none) (n : Nat) (x0 : Value) : run Tryz.prog prim lvs (n+1) QO [x0]=WX (run Tryz.prog prim lvs n) x0:=
 (Zl hp (by kernel_rfl) Tryz.func13 (by kernel_rfl)).trans (ZrM _ x0)
noncomputable def K9.l1 (Γ : Zc) (s4 s6 s8 s32 s33 : Value) : M Out:=
 bind (bop .int .lss s33 s32) fun y14=>
 cnd y14
 (bind (Γ ZcY [s4,(Value.int .i64 2)]) fun y15=>
 bind (bsl 5 1 (.agg #[.string ⟨#[]⟩,.string ⟨#[]⟩,.string ⟨#[]⟩,.bool false,.slice none 0 0]) [(0,5,y15)]) fun y16=>
 bind (app 5 80 s8 y16) fun y17=>
 bind (bop .int .add s33 (Value.int .i64 1)) fun y18=>
 ret (.nrm [s4,s6,y17,s32,y18]))
 (ret (.ext 0 [s4,s6,s8]))
noncomputable def K9 (Γ : Zc) (x0 : Value) : M Value:=
 bind (Γ Zep [x0]) fun y1=>
 bind (Γ Ko [y1]) fun y2=>
 bind (Γ QM [y1]) fun y3=>
 bind (bop .int .eql y3 (Value.int .i64 0)) fun y4=>
 bind (ZH y4 true 2 (bind (bop .int .neq y2 (Value.int .u8 2)) fun y5=>
 ret [y2,y5])) (c2 fun _ q6_1=>
 bind (pick y4 q6_1 (Value.bool false)) fun y7=>
 cnd y7
 (ret (Value.tuple #[(Value.pointer none),(Value.int .i64 6)]))
 (bind (Γ KK [y1,(Value.int .i64 6),(Value.int .i64 12)]) fun y8=>
 bind (Γ KJ [y1]) fun y9=>
 bind (cvi .i64 y9) fun y10=>
 bind (bop .int .gtr y10 (Value.int .i64 12)) fun y11=>
 jn (cnd y11
 (bind (Γ Z6 [y1,(Value.int .i64 7)]) fun y12=>
 ret (.nrm [y1,y8,(Value.int .i64 0)]))
 (ret (.nrm [y1,y8,y10]))) (c3 fun q13_0 q13_1 q13_2=>
 jn (Zi (c5 (K9.l1 Γ)) [q13_0,q13_1,(Value.slice none 0 0),q13_2,(Value.int .i64 0)]) noN (xk 0 (c3 fun q20_0 q20_1 q20_2=>
 bind (Γ QM [q20_0]) fun y21=>
 bind (bop .int .neq y21 (Value.int .i64 0)) fun y22=>
 cnd y22
 (ret (Value.tuple #[(Value.pointer none),y21]))
 (bind (Γ Zbf [q20_2,q20_1]) fun y23=>
 bind (Zm y23 0) fun y24=>
 bind (Zm y23 1) fun y25=>
 bind (bop .int .eql y25 (Value.int .i64 0)) fun y26=>
 jn (cnd y26
 (bind (Γ KM [q20_0]) fun y27=>
 ret (.nrm [y24,y27]))
 (ret (.nrm [y24,y25]))) (c2 fun q28_0 q28_1=>
 bind (bop .int .neq q28_1 (Value.int .i64 0)) fun y29=>
 cnd y29
 (ret (Value.tuple #[(Value.pointer none),q28_1]))
 (ret (Value.tuple #[q28_0,(Value.int .i64 0)]))) noX ret)) noX) ret) noX ret))
theorem ZsS (Γ : Zc) (x0 : Value) : Zz Tryz.prog Γ Tryz.f15 Zlq [x0]=K9 Γ x0:=by kernel_rfl
theorem ZjN {prim : FuncId→Option (List Value→M Value)} (hp : prim ZcD=none) (n : Nat) (x0 : Value) : run Tryz.prog prim lvs (n+1) ZcD [x0]=K9 (run Tryz.prog prim lvs n) x0:=
 (Zl hp (by kernel_rfl) Tryz.func15 (by kernel_rfl)).trans (ZsS _ x0)
noncomputable def Zm7.l1 (Γ : Zc) (s2 s4 s5 s6 s8 s45 s46 : Value) : M Out:=
 bind (bop .int .lss s46 s45) fun y37=>
 cnd y37
 (bind (ldA 2 s5) fun y38=>
 bind (Γ ZpY [y38,(Value.int .i64 2)]) fun y39=>
 bind (Zm y39 0) fun y40=>
 bind (Zm y39 1) fun y41=>
 bind (alc 1 (.agg #[.string ⟨#[]⟩,.int .i64 0])) fun y42=>
 bind (alc 1 (.agg #[.string ⟨#[]⟩,.string ⟨#[]⟩,.string ⟨#[]⟩,.bool false,.slice none 0 0])) fun y43=>
 bind (stA 2 y42 y40) fun _=>
 bind (stA 5 y43 y41) fun _=>
 bind (ldA 2 y42) fun y44=>
 bind (stA 2 s5 y44) fun _=>
 bind (ldA 5 y43) fun y45=>
 bind (bsl 5 1 (.agg #[.string ⟨#[]⟩,.string ⟨#[]⟩,.string ⟨#[]⟩,.bool false,.slice none 0 0]) [(0,5,y45)]) fun y46=>
 bind (app 5 80 s8 y46) fun y47=>
 bind (bop .int .add s46 (Value.int .u64 1)) fun y48=>
 ret (.nrm [s2,s4,s5,s6,y47,s45,y48]))
 (ret (.ext 0 [s2,s4,s5,s6,s8]))
noncomputable def Zm7 (Γ : Zc) (x0 : Value) : M Value:=
 bind (alc 1 (.agg #[.slice none 0 0,.slice none 0 0])) fun y1=>
 bind (bld (.agg #[.slice none 0 0,.slice none 0 0]) []) fun y2=>
 bind (alc 1 (.agg #[.slice none 0 0,.slice none 0 0])) fun y3=>
 bind (stA 2 y3 y2) fun _=>
 bind (bop .str .eql x0 (Value.string ⟨#[]⟩)) fun y4=>
 cnd y4
 (bind (ldA 2 y3) fun y5=>
 bind (stA 2 y1 y5) fun _=>
 bind (ldA 2 y1) fun y6=>
 ret (Value.tuple #[y6,(Value.int .i64 2)]))
 (bind (ixs x0 (Value.int .i64 0)) fun y7=>
 bind (bop .int .neq y7 (Value.int .u8 2)) fun y8=>
 cnd y8
 (bind (ldA 2 y3) fun y9=>
 bind (stA 2 y1 y9) fun _=>
 bind (ldA 2 y1) fun y10=>
 ret (Value.tuple #[y10,(Value.int .i64 6)]))
 (bind (sls x0 (some (Value.int .i64 1)) none) fun y11=>
 bind (bld (.agg #[.string ⟨#[]⟩,.int .i64 0]) [(0,1,y11)]) fun y12=>
 bind (Γ Zsc [y12,(Value.int .i64 6),(Value.int .i64 12)]) fun y13=>
 bind (Zm y13 0) fun y14=>
 bind (Zm y13 1) fun y15=>
 bind (alc 1 (.agg #[.string ⟨#[]⟩,.int .i64 0])) fun y16=>
 bind (stA 2 y16 y14) fun _=>
 bind (ldA 2 y16) fun y17=>
 bind (Γ Zjg [y17,(Value.int .i64 2)]) fun y18=>
 bind (Zm y18 0) fun y19=>
 bind (Zm y18 1) fun y20=>
 bind (stA 2 y16 y19) fun _=>
 bind (fa 1 y16) fun y21=>
 bind (ld1 y21) fun y22=>
 bind (bop .int .eql y22 (Value.int .i64 0)) fun y23=>
 bind (ZH y23 true 2 (bind (bop .int .gtr y20 (Value.int .u64 12)) fun y24=>
 ret [y20,y24])) (c2 fun _ q25_1=>
 bind (pick y23 q25_1 (Value.bool false)) fun y26=>
 jn (cnd y26
 (bind (fa 1 y16) fun y27=>
 bind (st1 y27 (Value.int .i64 7)) fun _=>
 ret (.nrm [y1,y3,y16,y15,y20]))
 (ret (.nrm [y1,y3,y16,y15,y20]))) (c5 fun q28_0 q28_1 q28_2 q28_3 q28_4=>
 bind (fa 1 q28_2) fun y29=>
 bind (ld1 y29) fun y30=>
 bind (bop .int .neq y30 (Value.int .i64 0)) fun y31=>
 cnd y31
 (bind (ldA 2 q28_1) fun y32=>
 bind (fa 1 q28_2) fun y33=>
 bind (ld1 y33) fun y34=>
 bind (stA 2 q28_0 y32) fun _=>
 bind (ld1 y33) fun u_35=>same u_35 y34 <|
 bind (ldA 2 q28_0) fun y36=>
 ret (Value.tuple #[y36,y34]))
 (jn (Zi (c7 (Zm7.l1 Γ)) [q28_0,q28_1,q28_2,q28_3,(Value.slice none 0 0),q28_4,(Value.int .u64 0)]) noN (xk 0 (c5 fun q50_0 q50_1 q50_2 q50_3 q50_4=>
 bind (fa 1 q50_2) fun y51=>
 bind (ld1 y51) fun y52=>
 bind (bop .int .eql y52 (Value.int .i64 0)) fun y53=>
 jn (cnd y53
 (bind (Γ Zyl [q50_4,q50_3]) fun y54=>
 bind (fa 1 q50_2) fun y55=>
 bind (st1 y55 y54) fun _=>
 ret (.nrm [q50_0,q50_1,q50_2,q50_3,q50_4]))
 (ret (.nrm [q50_0,q50_1,q50_2,q50_3,q50_4]))) (c5 fun q56_0 q56_1 q56_2 q56_3 q56_4=>
 bind (fa 1 q56_2) fun y57=>
 bind (ld1 y57) fun y58=>
 bind (bop .int .eql y58 (Value.int .i64 0)) fun y59=>
 bind (ZH y59 true 3 (bind (fa 0 q56_2) fun y60=>
 bind (ld1 y60) fun y61=>
 bind (bop .str .neq y61 (Value.string ⟨#[]⟩)) fun y62=>
 ret [y60,y61,y62])) (c3 fun _ _ q63_2=>
 bind (pick y59 q63_2 (Value.bool false)) fun y64=>
 jn (cnd y64
 (bind (fa 1 q56_2) fun y65=>
 bind (st1 y65 (Value.int .i64 3)) fun _=>
 ret (.nrm [q56_0,q56_1,q56_2,q56_3,q56_4]))
 (ret (.nrm [q56_0,q56_1,q56_2,q56_3,q56_4]))) (c5 fun q66_0 q66_1 q66_2 q66_3 q66_4=>
 bind (fa 1 q66_2) fun y67=>
 bind (ld1 y67) fun y68=>
 bind (bop .int .neq y68 (Value.int .i64 0)) fun y69=>
 cnd y69
 (bind (ldA 2 q66_1) fun y70=>
 bind (fa 1 q66_2) fun y71=>
 bind (ld1 y71) fun y72=>
 bind (stA 2 q66_0 y70) fun _=>
 bind (ld1 y71) fun u_73=>same u_73 y72 <|
 bind (ldA 2 q66_0) fun y74=>
 ret (Value.tuple #[y74,y72]))
 (bind (bld (.agg #[.slice none 0 0,.slice none 0 0]) [(0,1,q66_4),(1,1,q66_3)]) fun y75=>
 bind (stA 2 q66_0 y75) fun _=>
 bind (ldA 2 q66_0) fun y76=>
 ret (Value.tuple #[y76,(Value.int .i64 0)]))) noX ret)) noX ret) noX) ret)) noX ret)))
noncomputable def ZdC (Γ : Zc) (x0 x1 : Value) : M Value:=
 bind (alc 1 x1) fun y1=>
 bind (fa 0 y1) fun y2=>
 bind (ld1 y2) fun y3=>
 bind (Zy y3) fun y4=>
 bind (Γ W6 [x0]) fun y5=>
 bind (ld1 y2) fun u_6=>same u_6 y3 <|
 bind (bop .int .eql y5 y4) fun y7=>
 bind (Zh y7 true (ret x0)) fun y8=>
 bind (Zh y7 true (fa 0 y1)) fun y9=>
 bind (Zh y7 true (ld1 y9)) fun y10=>
 bind (Zh y7 true (Γ Zbc [y8])) fun y11=>
 bind (Zh y7 true (ld1 y9)) fun u_12=>same u_12 y10 <|
 bind (Zh y7 true (Γ KN [y11,y10])) fun y13=>
 bind (pick y7 y13 (Value.bool false)) fun y14=>
 bind (Zh y14 true (ret x0)) fun y15=>
 bind (Zh y14 true (fa 1 y1)) fun y16=>
 bind (Zh y14 true (ld1 y16)) fun y17=>
 bind (Zh y14 true (Γ KI [y15])) fun y18=>
 bind (Zh y14 true (ld1 y16)) fun u_19=>same u_19 y17 <|
 bind (Zh y14 true (Γ WG [y18,y17])) fun y20=>
 bind (pick y14 y20 (Value.bool false)) fun y21=>
 ret y21
theorem ZsD (Γ : Zc) (x0 x1 : Value) : Zz Tryz.prog Γ Tryz.f17 Zl1 [x0,x1]=ZdC Γ x0 x1:=by kernel_rfl
theorem Zgo {prim : FuncId→Option (List Value→M Value)} (hp : prim ZdL=none) (n : Nat) (x0 x1 : Value) : run Tryz.prog prim lvs (n+1) ZdL [x0,x1]=ZdC (run Tryz.prog prim lvs n) x0 x1:=
 (Zl hp (by kernel_rfl) Tryz.func17 (by kernel_rfl)).trans (ZsD _ x0 x1)
noncomputable def WR.l1 (Γ : Zc) (s0 s5 s6 s7 : Value) : M Out:=
 bind (bop .int .lss s7 s6) fun y2=>
 cnd y2
 (bind (ixa 4 s5 s7) fun y3=>
 bind (ldA 4 y3) fun y4=>
 bind (alc 1 (.agg #[.int .u8 0,.string ⟨#[]⟩,.string ⟨#[]⟩,.bool false])) fun y5=>
 bind (stA 4 y5 y4) fun _=>
 bind (fa 1 y5) fun y6=>
 bind (ld1 y6) fun y7=>
 bind (JV y7) fun y8=>
 bind (bop .int .gtr y8 (Value.int .i64 50)) fun y9=>
 bind (ZH y9 false 4 (bind (fa 2 y5) fun y10=>
 bind (ld1 y10) fun y11=>
 bind (JV y11) fun y12=>
 bind (bop .int .gtr y12 (Value.int .i64 50)) fun y13=>
 ret [y10,y11,y12,y13])) (c4 fun _ _ _ q14_3=>
 bind (pick y9 (Value.bool true) q14_3) fun y15=>
 cnd y15
 (ret (.ret (Value.bool false)))
 (bind (bop .int .add s7 (Value.int .i64 1)) fun y16=>
 ret (.nrm [s0,s5,s6,y16]))))
 (ret (.ext 0 [s0]))
noncomputable def WR (Γ : Zc) (x0 : Value) : M Value:=
 bind (Zy x0) fun y1=>
 jn (Zi (c4 (WR.l1 Γ)) [x0,x0,y1,(Value.int .i64 0)]) noN (xk 0 (c1 fun q18_0=>
 bind (Zy q18_0) fun y19=>
 bind (bop .int .leq y19 (Value.int .i64 60)) fun y20=>
 ret y20) noX) ret
theorem Zu8 (Γ : Zc) (x0 : Value) : Zz Tryz.prog Γ Tryz.f18 Znk [x0]=WR Γ x0:=by kernel_rfl
theorem ZsU {prim : FuncId→Option (List Value→M Value)} (hp : prim WJ=none) (n : Nat) (x0 : Value) : run Tryz.prog prim lvs (n+1) WJ [x0]=WR (run Tryz.prog prim lvs n) x0:=
 (Zl hp (by kernel_rfl) Tryz.func18 (by kernel_rfl)).trans (Zu8 _ x0)
noncomputable def KD.l1 (Γ : Zc) (s3 s4 s5 s9 s10 s11 : Value) : M Out:=
 bind (bop .int .lss s11 s10) fun y5=>
 cnd y5
 (bind (ixa 4 s9 s11) fun y6=>
 bind (ldA 4 y6) fun y7=>
 bind (alc 1 (.agg #[.int .u8 0,.string ⟨#[]⟩,.string ⟨#[]⟩,.bool false])) fun y8=>
 bind (stA 4 y8 y7) fun _=>
 bind (ldA 2 s5) fun y9=>
 bind (ldA 4 y8) fun y10=>
 bind (Γ Jh [s4,y9,y10]) fun y11=>
 bind (Zm y11 0) fun y12=>
 bind (Zm y11 1) fun y13=>
 bind (stA 2 s5 y12) fun _=>
 bind (bop .int .add s11 (Value.int .i64 1)) fun y14=>
 ret (.nrm [s3,s4,s5,s9,s10,y14]))
 (ret (.ext 0 [s3,s4,s5]))
noncomputable def KD (Γ : Zc) (x0 : Value) : M Value:=
 bind (alc 1 (.agg #[.slice none 0 0,.slice none 0 0])) fun y1=>
 bind (Γ Wj []) fun y2=>
 bind (alc 1 (.agg #[.slice none 0 0,.slice none 0 0])) fun y3=>
 bind (Zy x0) fun y4=>
 jn (Zi (c6 (KD.l1 Γ)) [y1,y2,y3,x0,y4,(Value.int .i64 0)]) noN (xk 0 (c3 fun q16_0 q16_1 q16_2=>
 bind (ldA 2 q16_2) fun y17=>
 bind (stA 2 q16_0 y17) fun _=>
 bind (ldA 2 q16_0) fun y18=>
 ret (Value.tuple #[q16_1,y18])) noX) ret
theorem Zqy (Γ : Zc) (x0 : Value) : Zz Tryz.prog Γ Tryz.f19 ZiB [x0]=KD Γ x0:=by kernel_rfl
theorem ZpH {prim : FuncId→Option (List Value→M Value)} (hp : prim Zcv=none) (n : Nat) (x0 : Value) : run Tryz.prog prim lvs (n+1) Zcv [x0]=KD (run Tryz.prog prim lvs n) x0:=
 (Zl hp (by kernel_rfl) Tryz.func19 (by kernel_rfl)).trans (Zqy _ x0)
noncomputable def K3 (Γ : Zc) (x0 x1 x2 : Value) : M Value:=
 bind (alc 1 x1) fun y1=>
 bind (alc 1 x2) fun y2=>
 bind (alc 1 (.agg #[.slice none 0 0,.slice none 0 0])) fun y3=>
 bind (fa 0 y2) fun y4=>
 bind (ld1 y4) fun y5=>
 bind (bop .int .rem y5 (Value.int .u8 11)) fun y6=>
 bind (bop .int .eql y6 (Value.int .u8 0)) fun y7=>
 jn (cnd y7
 (bind (ldA 2 y1) fun y8=>
 bind (fa 1 y2) fun y9=>
 bind (ld1 y9) fun y10=>
 bind (fa 2 y2) fun y11=>
 bind (ld1 y11) fun y12=>
 bind (Γ Zcp [y8,y10,y12]) fun y13=>
 bind (Zm y13 0) fun y14=>
 bind (Zm y13 1) fun y15=>
 bind (stA 2 y1 y14) fun _=>
 bind (fa 1 y2) fun y16=>
 bind (ld1 y16) fun y17=>
 bind (fa 2 y2) fun y18=>
 bind (ld1 y18) fun y19=>
 bind (Γ Y8 [x0,y17,y19]) fun y20=>
 ret (.nrm [y1,y3,y20,y15]))
 (bind (bop .int .eql y6 (Value.int .u8 1)) fun y21=>
 jn (cnd y21
 (bind (ldA 2 y1) fun y22=>
 bind (fa 1 y2) fun y23=>
 bind (ld1 y23) fun y24=>
 bind (Γ Zcm [y22,y24]) fun y25=>
 bind (Zm y25 0) fun y26=>
 bind (Zm y25 1) fun y27=>
 bind (stA 2 y1 y26) fun _=>
 bind (fa 1 y2) fun y28=>
 bind (ld1 y28) fun y29=>
 bind (Γ Ka [x0,y29]) fun y30=>
 ret (.nrm [y1,y3,y30,y27]))
 (bind (bop .int .eql y6 (Value.int .u8 2)) fun y31=>
 jn (cnd y31
 (bind (ldA 2 y1) fun y32=>
 bind (fa 1 y2) fun y33=>
 bind (ld1 y33) fun y34=>
 bind (fa 2 y2) fun y35=>
 bind (ld1 y35) fun y36=>
 bind (Γ ZaC [y32,y34,y36]) fun y37=>
 bind (Zm y37 0) fun y38=>
 bind (Zm y37 1) fun y39=>
 bind (stA 2 y1 y38) fun _=>
 bind (fa 1 y2) fun y40=>
 bind (ld1 y40) fun y41=>
 bind (fa 2 y2) fun y42=>
 bind (ld1 y42) fun y43=>
 bind (Γ Wq [x0,y41,y43]) fun y44=>
 ret (.nrm [y1,y3,y44,y39]))
 (bind (bop .int .eql y6 (Value.int .u8 3)) fun y45=>
 jn (cnd y45
 (bind (ldA 2 y1) fun y46=>
 bind (fa 1 y2) fun y47=>
 bind (ld1 y47) fun y48=>
 bind (fa 2 y2) fun y49=>
 bind (ld1 y49) fun y50=>
 bind (Γ ZaL [y46,y48,y50]) fun y51=>
 bind (Zm y51 0) fun y52=>
 bind (Zm y51 1) fun y53=>
 bind (stA 2 y1 y52) fun _=>
 bind (fa 1 y2) fun y54=>
 bind (ld1 y54) fun y55=>
 bind (fa 2 y2) fun y56=>
 bind (ld1 y56) fun y57=>
 bind (Γ YH [x0,y55,y57]) fun y58=>
 ret (.nrm [y1,y3,y58,y53]))
 (bind (bop .int .eql y6 (Value.int .u8 4)) fun y59=>
 jn (cnd y59
 (bind (ldA 2 y1) fun y60=>
 bind (fa 1 y2) fun y61=>
 bind (ld1 y61) fun y62=>
 bind (fa 3 y2) fun y63=>
 bind (ld1 y63) fun y64=>
 bind (Γ ZaK [y60,y62,y64]) fun y65=>
 bind (Zm y65 0) fun y66=>
 bind (Zm y65 1) fun y67=>
 bind (stA 2 y1 y66) fun _=>
 bind (fa 1 y2) fun y68=>
 bind (ld1 y68) fun y69=>
 bind (fa 3 y2) fun y70=>
 bind (ld1 y70) fun y71=>
 bind (Γ Wo [x0,y69,y71]) fun y72=>
 ret (.nrm [y1,y3,y72,y67]))
 (bind (bop .int .eql y6 (Value.int .u8 5)) fun y73=>
 jn (cnd y73
 (bind (ldA 2 y1) fun y74=>
 bind (fa 1 y2) fun y75=>
 bind (ld1 y75) fun y76=>
 bind (fa 2 y2) fun y77=>
 bind (ld1 y77) fun y78=>
 bind (Γ Za7 [y74,y76,y78]) fun y79=>
 bind (Zm y79 0) fun y80=>
 bind (Zm y79 1) fun y81=>
 bind (stA 2 y1 y80) fun _=>
 bind (fa 1 y2) fun y82=>
 bind (ld1 y82) fun y83=>
 bind (fa 2 y2) fun y84=>
 bind (ld1 y84) fun y85=>
 bind (Γ WC [x0,y83,y85]) fun y86=>
 ret (.nrm [y1,y3,y86,y81]))
 (bind (bop .int .eql y6 (Value.int .u8 6)) fun y87=>
 jn (cnd y87
 (bind (ldA 2 y1) fun y88=>
 bind (fa 1 y2) fun y89=>
 bind (ld1 y89) fun y90=>
 bind (Γ ZaO [y88,y90]) fun y91=>
 bind (Zm y91 0) fun y92=>
 bind (Zm y91 1) fun y93=>
 bind (stA 2 y1 y92) fun _=>
 bind (fa 1 y2) fun y94=>
 bind (ld1 y94) fun y95=>
 bind (Γ Wy [x0,y95]) fun y96=>
 ret (.nrm [y1,y3,y96,y93]))
 (bind (bop .int .eql y6 (Value.int .u8 7)) fun y97=>
 jn (cnd y97
 (bind (ldA 2 y1) fun y98=>
 bind (fa 1 y2) fun y99=>
 bind (ld1 y99) fun y100=>
 bind (Γ WI [y98,y100]) fun y101=>
 bind (Zm y101 0) fun y102=>
 bind (Zm y101 1) fun y103=>
 bind (stA 2 y1 y102) fun _=>
 bind (fa 1 y2) fun y104=>
 bind (ld1 y104) fun y105=>
 bind (Γ YL [x0,y105]) fun y106=>
 ret (.nrm [y1,y3,y106,y103]))
 (bind (bop .int .eql y6 (Value.int .u8 8)) fun y107=>
 jn (cnd y107
 (bind (ldA 2 y1) fun y108=>
 bind (fa 1 y2) fun y109=>
 bind (ld1 y109) fun y110=>
 bind (fa 2 y2) fun y111=>
 bind (ld1 y111) fun y112=>
 bind (Γ Zcw [y108,y110,y112]) fun y113=>
 bind (Zm y113 0) fun y114=>
 bind (Zm y113 1) fun y115=>
 bind (stA 2 y1 y114) fun _=>
 bind (fa 1 y2) fun y116=>
 bind (ld1 y116) fun y117=>
 bind (fa 2 y2) fun y118=>
 bind (ld1 y118) fun y119=>
 bind (Γ ZaG [x0,y117,y119]) fun y120=>
 ret (.nrm [y1,y3,y120,y115]))
 (bind (bop .int .eql y6 (Value.int .u8 9)) fun y121=>
 jn (cnd y121
 (bind (ldA 2 y1) fun y122=>
 bind (fa 1 y2) fun y123=>
 bind (ld1 y123) fun y124=>
 bind (fa 2 y2) fun y125=>
 bind (ld1 y125) fun y126=>
 bind (Γ Zb2 [y122,y124,y126]) fun y127=>
 bind (Zm y127 0) fun y128=>
 bind (Zm y127 1) fun y129=>
 bind (stA 2 y1 y128) fun _=>
 bind (fa 1 y2) fun y130=>
 bind (ld1 y130) fun y131=>
 bind (fa 2 y2) fun y132=>
 bind (ld1 y132) fun y133=>
 bind (Γ W1 [x0,y131,y133]) fun y134=>
 ret (.nrm [y1,y3,y134,y129]))
 (bind (Γ ZbX [x0]) fun y135=>
 bind (fa 1 y2) fun y136=>
 bind (ld1 y136) fun y137=>
 bind (Γ Y8 [y135,y137,(Value.string ⟨#[49]⟩)]) fun y138=>
 bind (Γ Ka [y135,(Value.string ⟨#[97,110,110]⟩)]) fun y139=>
 bind (Γ YL [y135,(Value.string ⟨#[100,101,118]⟩)]) fun y140=>
 bind (Γ YH [y135,(Value.string ⟨#[98,111,98]⟩),(Value.string ⟨#[113,64,113,46,113]⟩)]) fun y141=>
 ret (.nrm [y1,y3,(Value.int .i64 0),(Value.int .i64 0)]))) (c4 fun q142_0 q142_1 q142_2 q142_3=>
 ret (.nrm [q142_0,q142_1,q142_2,q142_3])) noX ZX)) (c4 fun q144_0 q144_1 q144_2 q144_3=>
 ret (.nrm [q144_0,q144_1,q144_2,q144_3])) noX ZX)) (c4 fun q146_0 q146_1 q146_2 q146_3=>
 ret (.nrm [q146_0,q146_1,q146_2,q146_3])) noX ZX)) (c4 fun q148_0 q148_1 q148_2 q148_3=>
 ret (.nrm [q148_0,q148_1,q148_2,q148_3])) noX ZX)) (c4 fun q150_0 q150_1 q150_2 q150_3=>
 ret (.nrm [q150_0,q150_1,q150_2,q150_3])) noX ZX)) (c4 fun q152_0 q152_1 q152_2 q152_3=>
 ret (.nrm [q152_0,q152_1,q152_2,q152_3])) noX ZX)) (c4 fun q154_0 q154_1 q154_2 q154_3=>
 ret (.nrm [q154_0,q154_1,q154_2,q154_3])) noX ZX)) (c4 fun q156_0 q156_1 q156_2 q156_3=>
 ret (.nrm [q156_0,q156_1,q156_2,q156_3])) noX ZX)) (c4 fun q158_0 q158_1 q158_2 q158_3=>
 ret (.nrm [q158_0,q158_1,q158_2,q158_3])) noX ZX)) (c4 fun q160_0 q160_1 q160_2 q160_3=>
 bind (ldA 2 q160_0) fun y161=>
 bind (bop .int .eql q160_2 q160_3) fun y162=>
 bind (stA 2 q160_1 y161) fun _=>
 bind (ldA 2 q160_1) fun y163=>
 ret (Value.tuple #[y163,y162])) noX ret
theorem ZwX (Γ : Zc) (x0 x1 x2 : Value) : Zz Tryz.prog Γ Tryz.f20 ZpG [x0,x1,x2]=K3 Γ x0 x1 x2:=by kernel_rfl
theorem KA {prim : FuncId→Option (List Value→M Value)} (hp : prim Jh=none) (n : Nat) (x0 x1 x2 : Value) : run Tryz.prog prim lvs (n+1) Jh [x0,x1,x2]=K3 (run Tryz.prog prim lvs n) x0 x1 x2:=
 (Zl hp (by kernel_rfl) Tryz.func20 (by kernel_rfl)).trans (ZwX _ x0 x1 x2)
noncomputable def ZpV.l1 (Γ : Zc) (s0 s5 s6 s7 : Value) : M Out:=
 bind (bop .int .lss s7 s6) fun y2=>
 cnd y2
 (bind (ixa 3 s5 s7) fun y3=>
 bind (ldA 3 y3) fun y4=>
 bind (alc 1 (.agg #[.int .u8 0,.string ⟨#[]⟩,.string ⟨#[]⟩])) fun y5=>
 bind (stA 3 y5 y4) fun _=>
 bind (fa 1 y5) fun y6=>
 bind (ld1 y6) fun y7=>
 bind (JV y7) fun y8=>
 bind (bop .int .gtr y8 (Value.int .i64 50)) fun y9=>
 bind (ZH y9 false 4 (bind (fa 2 y5) fun y10=>
 bind (ld1 y10) fun y11=>
 bind (JV y11) fun y12=>
 bind (bop .int .gtr y12 (Value.int .i64 50)) fun y13=>
 ret [y10,y11,y12,y13])) (c4 fun _ _ _ q14_3=>
 bind (pick y9 (Value.bool true) q14_3) fun y15=>
 cnd y15
 (ret (.ret (Value.bool false)))
 (bind (bop .int .add s7 (Value.int .i64 1)) fun y16=>
 ret (.nrm [s0,s5,s6,y16]))))
 (ret (.ext 0 [s0]))
noncomputable def ZpV (Γ : Zc) (x0 : Value) : M Value:=
 bind (Zy x0) fun y1=>
 jn (Zi (c4 (ZpV.l1 Γ)) [x0,x0,y1,(Value.int .i64 0)]) noN (xk 0 (c1 fun q18_0=>
 bind (Zy q18_0) fun y19=>
 bind (bop .int .leq y19 (Value.int .i64 60)) fun y20=>
 ret y20) noX) ret
noncomputable def Zne.l1 (Γ : Zc) (s3 s16 s17 s18 : Value) : M Out:=
 bind (bop .int .lss s18 s17) fun y10=>
 cnd y10
 (bind (ixa 5 s16 s18) fun y11=>
 bind (ldA 5 y11) fun y12=>
 bind (alc 1 (.agg #[.string ⟨#[]⟩,.string ⟨#[]⟩,.string ⟨#[]⟩,.bool false,.slice none 0 0])) fun y13=>
 bind (stA 5 y13 y12) fun _=>
 bind (ldA 5 y13) fun y14=>
 bind (Γ ZfX [s3,(Value.int .i64 1),y14]) fun y15=>
 bind (bop .int .add s18 (Value.int .i64 1)) fun y16=>
 ret (.nrm [s3,s16,s17,y16]))
 (ret (.ext 0 [s3]))
noncomputable def Zne (Γ : Zc) (x0 : Value) : M Value:=
 bind (bop .ptr .eql x0 (Value.pointer none)) fun y1=>
 cnd y1
 (ret (Value.slice none 0 0))
 (bind (bld (.agg #[.slice none 0 0]) []) fun y2=>
 bind (alc 1 y2) fun y3=>
 bind (Γ JP [y3,(Value.int .u8 1)]) fun y4=>
 bind (Γ ZrU [x0]) fun y5=>
 bind (cvi .u16 y5) fun y6=>
 bind (Γ Yx [y4,y6]) fun y7=>
 bind (Γ Zge [x0]) fun y8=>
 bind (Zy y8) fun y9=>
 jn (Zi (c4 (Zne.l1 Γ)) [y7,y8,y9,(Value.int .i64 0)]) noN (xk 0 (c1 fun q18_0=>
 bind (Γ K2 [q18_0]) fun y19=>
 ret y19) noX) ret)
noncomputable def Zm5.l1 (Γ : Zc) (s3 s11 s12 s13 : Value) : M Out:=
 bind (bop .int .lss s13 s12) fun y4=>
 cnd y4
 (bind (ixa 5 s11 s13) fun y5=>
 bind (ldA 5 y5) fun y6=>
 bind (alc 1 (.agg #[.string ⟨#[]⟩,.string ⟨#[]⟩,.string ⟨#[]⟩,.bool false,.slice none 0 0])) fun y7=>
 bind (stA 5 y7 y6) fun _=>
 bind (ldA 5 y7) fun y8=>
 bind (Γ Zzx [y8]) fun y9=>
 bind (bsl 5 1 (.agg #[.string ⟨#[]⟩,.string ⟨#[]⟩,.string ⟨#[]⟩,.bool false,.slice none 0 0]) [(0,5,y9)]) fun y10=>
 bind (app 5 80 s3 y10) fun y11=>
 bind (bop .int .add s13 (Value.int .i64 1)) fun y12=>
 ret (.nrm [y11,s11,s12,y12]))
 (ret (.ext 0 [s3]))
noncomputable def Zm5 (Γ : Zc) (x0 : Value) : M Value:=
 bind (bop .ptr .eql x0 (Value.pointer none)) fun y1=>
 cnd y1
 (ret (Value.pointer none))
 (bind (Γ Zge [x0]) fun y2=>
 bind (Zy y2) fun y3=>
 jn (Zi (c4 (Zm5.l1 Γ)) [(Value.slice none 0 0),y2,y3,(Value.int .i64 0)]) noN (xk 0 (c1 fun q14_0=>
 bind (Γ Zbf [q14_0,(Value.slice none 0 0)]) fun y15=>
 bind (Zm y15 0) fun y16=>
 bind (Zm y15 1) fun y17=>
 ret y16) noX) ret)
noncomputable def ZaW (Γ : Zc) (x0 x1 : Value) : M Value:=
 bind (alc 1 (.agg #[.string ⟨#[]⟩,.string ⟨#[]⟩,.string ⟨#[]⟩,.bool false,.slice none 0 0])) fun y1=>
 bind (Γ QY [x0,x1]) fun y2=>
 bind (Zm y2 0) fun y3=>
 bind (Zm y2 1) fun y4=>
 bind (alc 1 (.agg #[.string ⟨#[]⟩,.bool false])) fun y5=>
 bind (stA 2 y5 y3) fun _=>
 bind (bop .int .neq y4 (Value.int .i64 0)) fun y6=>
 cnd y6
 (bind (bld (.agg #[.string ⟨#[]⟩,.string ⟨#[]⟩,.string ⟨#[]⟩,.bool false,.slice none 0 0]) []) fun y7=>
 bind (stA 5 y1 y7) fun _=>
 bind (ldA 5 y1) fun y8=>
 ret (Value.tuple #[y8,y4]))
 (bind (Qc x0) fun y9=>
 bind (fa 1 y9) fun y10=>
 bind (ld1 y10) fun y11=>
 bind (Γ Zct [y11,x1]) fun y12=>
 bind (Zm y12 0) fun y13=>
 bind (Zm y12 1) fun y14=>
 bind (fa 0 y5) fun y15=>
 bind (ld1 y15) fun y16=>
 bind (fa 1 y5) fun y17=>
 bind (ld1 y17) fun y18=>
 bind (Qc x0) fun y19=>
 bind (fa 2 y19) fun y20=>
 bind (ld1 y20) fun y21=>
 bind (Γ J4 [y21,x1]) fun y22=>
 bind (ld1 y17) fun u_23=>same u_23 y18 <|
 bind (ld1 y15) fun u_24=>same u_24 y16 <|
 bind (bld (.agg #[.string ⟨#[]⟩,.string ⟨#[]⟩,.string ⟨#[]⟩,.bool false,.slice none 0 0]) [(0,1,x1),(1,1,y16),(2,1,y13),(3,1,y18),(4,1,y22)]) fun y25=>
 bind (stA 5 y1 y25) fun _=>
 bind (ldA 5 y1) fun y26=>
 ret (Value.tuple #[y26,(Value.int .i64 0)]))
theorem ZmZ (Γ : Zc) (x0 x1 : Value) : Zz Tryz.prog Γ Tryz.f33 Zgq [x0,x1]=ZaW Γ x0 x1:=by kernel_rfl
theorem Zk8 {prim : FuncId→Option (List Value→M Value)} (hp : prim WE=none) (n : Nat) (x0 x1 : Value) : run Tryz.prog prim lvs (n+1) WE [x0,x1]=ZaW (run Tryz.prog prim lvs n) x0 x1:=
 (Zl hp (by kernel_rfl) Tryz.func33 (by kernel_rfl)).trans (ZmZ _ x0 x1)
noncomputable def Ya.l1 (Γ : Zc) (s0 s1 s12 s13 : Value) : M Out:=
 bind (bop .int .lss s13 s12) fun y5=>
 cnd y5
 (bind (ixa 1 s0 s13) fun y6=>
 bind (ld1 y6) fun y7=>
 bind (ixa 1 s1 s13) fun y8=>
 bind (ld1 y8) fun y9=>
 bind (bop .str .neq y7 y9) fun y10=>
 cnd y10
 (ret (.ret (Value.bool false)))
 (bind (bop .int .add s13 (Value.int .i64 1)) fun y11=>
 ret (.nrm [s0,s1,s12,y11])))
 (ret (.ext 0 []))
noncomputable def Ya (Γ : Zc) (x0 x1 : Value) : M Value:=
 bind (Zy x0) fun y1=>
 bind (Zy x1) fun y2=>
 bind (bop .int .neq y1 y2) fun y3=>
 cnd y3
 (ret (Value.bool false))
 (bind (Zy x0) fun y4=>
 jn (Zi (c4 (Ya.l1 Γ)) [x0,x1,y4,(Value.int .i64 0)]) noN (xk 0 (c0 (ret (Value.bool true))) noX) ret)
theorem ZmY (Γ : Zc) (x0 x1 : Value) : Zz Tryz.prog Γ Tryz.f36 ZgD [x0,x1]=Ya Γ x0 x1:=by kernel_rfl
theorem Zl3 {prim : FuncId→Option (List Value→M Value)} (hp : prim WG=none) (n : Nat) (x0 x1 : Value) : run Tryz.prog prim lvs (n+1) WG [x0,x1]=Ya (run Tryz.prog prim lvs n) x0 x1:=
 (Zl hp (by kernel_rfl) Tryz.func36 (by kernel_rfl)).trans (ZmY _ x0 x1)
noncomputable def Zjd (Γ : Zc) : M Value:=
 bind (mkm) fun y1=>
 bind (Γ ZhO []) fun y2=>
 bind (Γ ZgN []) fun y3=>
 bind (bld (.agg #[.map none,.pointer none,.pointer none]) [(0,1,y1),(1,1,y2),(2,1,y3)]) fun y4=>
 bind (alc 1 y4) fun y5=>
 ret y5
theorem Zu5 (Γ : Zc) : Zz Tryz.prog Γ Tryz.f37 Znw []=Zjd Γ :=by kernel_rfl
theorem ZuB {prim : FuncId→Option (List Value→M Value)} (hp : prim Wj=none) (n : Nat) : run Tryz.prog prim lvs (n+1) Wj []=Zjd (run Tryz.prog prim lvs n) :=
 (Zl hp (by kernel_rfl) Tryz.func37 (by kernel_rfl)).trans (Zu5 _ )
noncomputable def Jf.l1 (Γ : Zc) (s0 s1 s12 s13 : Value) : M Out:=
 bind (bop .int .lss s13 s12) fun y5=>
 cnd y5
 (bind (ixa 5 s0 s13) fun y6=>
 bind (ldA 5 y6) fun y7=>
 bind (ixa 5 s1 s13) fun y8=>
 bind (ldA 5 y8) fun y9=>
 bind (Γ ZfC [y7,y9]) fun y10=>
 bind (uop .not y10) fun y11=>
 cnd y11
 (ret (.ret (Value.bool false)))
 (bind (bop .int .add s13 (Value.int .i64 1)) fun y12=>
 ret (.nrm [s0,s1,s12,y12])))
 (ret (.ext 0 []))
noncomputable def Jf (Γ : Zc) (x0 x1 : Value) : M Value:=
 bind (Zy x0) fun y1=>
 bind (Zy x1) fun y2=>
 bind (bop .int .neq y1 y2) fun y3=>
 cnd y3
 (ret (Value.bool false))
 (bind (Zy x0) fun y4=>
 jn (Zi (c4 (Jf.l1 Γ)) [x0,x1,y4,(Value.int .i64 0)]) noN (xk 0 (c0 (ret (Value.bool true))) noX) ret)
theorem ZmG (Γ : Zc) (x0 x1 : Value) : Zz Tryz.prog Γ Tryz.f39 Zgv [x0,x1]=Jf Γ x0 x1:=by kernel_rfl
theorem Zkv {prim : FuncId→Option (List Value→M Value)} (hp : prim KN=none) (n : Nat) (x0 x1 : Value) : run Tryz.prog prim lvs (n+1) KN [x0,x1]=Jf (run Tryz.prog prim lvs n) x0 x1:=
 (Zl hp (by kernel_rfl) Tryz.func39 (by kernel_rfl)).trans (ZmG _ x0 x1)
noncomputable def ZjL.l1 (Γ : Zc) (s0 s3 s7 s8 s9 : Value) : M Out:=
 bind (bop .int .lss s9 s8) fun y3=>
 cnd y3
 (bind (ixa 1 s7 s9) fun y4=>
 bind (ld1 y4) fun y5=>
 bind (Qc s0) fun y6=>
 bind (fa 0 y6) fun y7=>
 bind (ld1 y7) fun y8=>
 bind (lkp .str (.string ⟨#[]⟩) false y8 y5) fun y9=>
 bind (bld (.agg #[.string ⟨#[]⟩,.string ⟨#[]⟩,.string ⟨#[]⟩,.bool false,.slice none 0 0]) [(0,1,y5),(1,1,y9)]) fun y10=>
 bind (bsl 5 1 (.agg #[.string ⟨#[]⟩,.string ⟨#[]⟩,.string ⟨#[]⟩,.bool false,.slice none 0 0]) [(0,5,y10)]) fun y11=>
 bind (app 5 80 s3 y11) fun y12=>
 bind (bop .int .add s9 (Value.int .i64 1)) fun y13=>
 ret (.nrm [s0,y12,s7,s8,y13]))
 (ret (.ext 0 [s3]))
noncomputable def ZjL (Γ : Zc) (x0 : Value) : M Value:=
 bind (Γ Zpf [x0]) fun y1=>
 bind (Zy y1) fun y2=>
 jn (Zi (c5 (ZjL.l1 Γ)) [x0,(Value.slice none 0 0),y1,y2,(Value.int .i64 0)]) noN (xk 0 (c1 fun q15_0=>
 ret q15_0) noX) ret
noncomputable def Q7.l1 (Γ : Zc) (s1 s5 s13 s14 s15 : Value) : M Out:=
 bind (bop .int .lss s15 s14) fun y2=>
 cnd y2
 (bind (ixa 5 s13 s15) fun y3=>
 bind (ldA 5 y3) fun y4=>
 bind (alc 1 (.agg #[.string ⟨#[]⟩,.string ⟨#[]⟩,.string ⟨#[]⟩,.bool false,.slice none 0 0])) fun y5=>
 bind (stA 5 y5 y4) fun _=>
 bind (ldA 5 y5) fun y6=>
 bind (Γ WQ [(Value.int .i64 2),y6]) fun y7=>
 bind (bop .int .neq y7 (Value.int .i64 0)) fun y8=>
 cnd y8
 (ret (.ret y7))
 (bind (fa 0 y5) fun y9=>
 bind (ld1 y9) fun y10=>
 bind (bsl 1 1 (.string ⟨#[]⟩) [(0,1,y10)]) fun y11=>
 bind (app 1 16 s5 y11) fun y12=>
 bind (bop .int .add s15 (Value.int .i64 1)) fun y13=>
 ret (.nrm [s1,y12,s13,s14,y13])))
 (ret (.ext 0 [s1,s5]))
noncomputable def Q7.l2 (Γ : Zc) (s1 s35 s36 s37 : Value) : M Out:=
 bind (bop .int .lss s37 s36) fun y19=>
 cnd y19
 (bind (ixa 1 s35 s37) fun y20=>
 bind (ld1 y20) fun y21=>
 bind (Γ Q9 [y21]) fun y22=>
 bind (bop .int .neq y22 (Value.int .i64 0)) fun y23=>
 cnd y23
 (ret (.ret y22))
 (bind (bop .int .add s37 (Value.int .i64 1)) fun y24=>
 ret (.nrm [s1,s35,s36,y24])))
 (ret (.ext 2 [s1]))
noncomputable def Q7 (Γ : Zc) (x0 x1 : Value) : M Value:=
 bind (Zy x0) fun y1=>
 jn (Zi (c5 (Q7.l1 Γ)) [x1,(Value.slice none 0 0),x0,y1,(Value.int .i64 0)]) noN (xk 0 (c2 fun q15_0 q15_1=>
 bind (Γ K6 [q15_1,(Value.int .i64 12)]) fun y16=>
 bind (bop .int .neq y16 (Value.int .i64 0)) fun y17=>
 cnd y17
 (ret y16)
 (bind (Zy q15_0) fun y18=>
 jn (Zi (c4 (Q7.l2 Γ)) [q15_0,q15_0,y18,(Value.int .i64 0)]) noN (xk 2 (c1 fun q26_0=>
 bind (Γ K6 [q26_0,(Value.int .i64 6)]) fun y27=>
 ret y27) noX) ret)) noX) ret
theorem Zr3 (Γ : Zc) (x0 x1 : Value) : Zz Tryz.prog Γ Tryz.f41 ZjX [x0,x1]=Q7 Γ x0 x1:=by kernel_rfl
theorem Zqj {prim : FuncId→Option (List Value→M Value)} (hp : prim Zc9=none) (n : Nat) (x0 x1 : Value) : run Tryz.prog prim lvs (n+1) Zc9 [x0,x1]=Q7 (run Tryz.prog prim lvs n) x0 x1:=
 (Zl hp (by kernel_rfl) Tryz.func41 (by kernel_rfl)).trans (Zr3 _ x0 x1)
noncomputable def YI (Γ : Zc) (x0 x1 : Value) : M Value:=
 bind (Γ Yo [x0,x1,(Value.slice none 0 0)]) fun y1=>
 bind (Zm y1 0) fun y2=>
 bind (Zm y1 1) fun y3=>
 bind (bop .int .eql y3 (Value.int .i64 0)) fun y4=>
 cnd y4
 (ret (Value.int .i64 9))
 (bind (bop .int .neq y3 (Value.int .i64 8)) fun y5=>
 cnd y5
 (ret y3)
 (bind (Qc x0) fun y6=>
 bind (fa 0 y6) fun y7=>
 bind (ld1 y7) fun y8=>
 bind (lenM y8) fun y9=>
 bind (bop .int .geq y9 (Value.int .i64 6)) fun y10=>
 cnd y10
 (ret (Value.int .i64 7))
 (bind (Qc x0) fun y11=>
 bind (fa 0 y11) fun y12=>
 bind (ld1 y12) fun y13=>
 bind (mkm) fun y14=>
 bind (mup .str y13 x1 y14) fun _=>
 ret (Value.int .i64 0))))
theorem Zla (Γ : Zc) (x0 x1 : Value) : Zz Tryz.prog Γ Tryz.f42 ZfK [x0,x1]=YI Γ x0 x1:=by kernel_rfl
theorem Zkj {prim : FuncId→Option (List Value→M Value)} (hp : prim Yk=none) (n : Nat) (x0 x1 : Value) : run Tryz.prog prim lvs (n+1) Yk [x0,x1]=YI (run Tryz.prog prim lvs n) x0 x1:=
 (Zl hp (by kernel_rfl) Tryz.func42 (by kernel_rfl)).trans (Zla _ x0 x1)
noncomputable def Wr (Γ : Zc) (x0 x1 x2 : Value) : M Value:=
 bind (bsl 1 1 (.string ⟨#[]⟩) [(0,1,x2)]) fun y1=>
 bind (Γ Yo [x0,x1,y1]) fun y2=>
 bind (Zm y2 0) fun y3=>
 bind (Zm y2 1) fun y4=>
 bind (bop .int .neq y4 (Value.int .i64 0)) fun y5=>
 cnd y5
 (ret y4)
 (bind (lkp .str (.agg #[]) true y3 x2) fun y6=>
 bind (Zm y6 0) fun y7=>
 bind (Zm y6 1) fun y8=>
 bind (alc 1 (.agg #[])) fun y9=>
 bind (stA 0 y9 y7) fun _=>
 cnd y8
 (ret (Value.int .i64 9))
 (bind (bld (.agg #[]) []) fun y10=>
 bind (mup .str y3 x2 y10) fun _=>
 ret (Value.int .i64 0)))
theorem Zmd (Γ : Zc) (x0 x1 x2 : Value) : Zz Tryz.prog Γ Tryz.f43 Zf3 [x0,x1,x2]=Wr Γ x0 x1 x2:=by kernel_rfl
theorem Zj5 {prim : FuncId→Option (List Value→M Value)} (hp : prim YJ=none) (n : Nat) (x0 x1 x2 : Value) : run Tryz.prog prim lvs (n+1) YJ [x0,x1,x2]=Wr (run Tryz.prog prim lvs n) x0 x1 x2:=
 (Zl hp (by kernel_rfl) Tryz.func43 (by kernel_rfl)).trans (Zmd _ x0 x1 x2)
noncomputable def K1 (Γ : Zc) (x0 x1 x2 : Value) : M Value:=
 bind (Γ Q9 [x1]) fun y1=>
 bind (bop .int .neq y1 (Value.int .i64 0)) fun y2=>
 cnd y2
 (ret y1)
 (bind (bop .str .eql x2 (Value.string ⟨#[]⟩)) fun y3=>
 cnd y3
 (bind (Γ Jz [x0,x1]) fun y4=>
 ret (Value.int .i64 0))
 (bind (Γ Zbu [x2]) fun y5=>
 bind (Zm y5 0) fun y6=>
 bind (Zm y5 1) fun y7=>
 bind (bop .int .neq y7 (Value.int .i64 0)) fun y8=>
 cnd y8
 (ret y7)
 (bind (Qc x0) fun y9=>
 bind (fa 0 y9) fun y10=>
 bind (ld1 y10) fun y11=>
 bind (lkp .str (.string ⟨#[]⟩) true y11 y6) fun y12=>
 bind (Zm y12 0) fun y13=>
 bind (Zm y12 1) fun y14=>
 bind (ZH y14 true 3 (bind (bop .str .neq y13 x1) fun y15=>
 ret [y13,x1,y15])) (c3 fun _ _ q16_2=>
 bind (pick y14 q16_2 (Value.bool false)) fun y17=>
 cnd y17
 (ret (Value.int .i64 9))
 (bind (Γ Jz [x0,x1]) fun y18=>
 bind (Qc x0) fun y19=>
 bind (fa 0 y19) fun y20=>
 bind (ld1 y20) fun y21=>
 bind (Qc x0) fun y22=>
 bind (fa 1 y22) fun y23=>
 bind (ld1 y23) fun y24=>
 bind (men .str (.string ⟨#[]⟩) y21 y6) fun y25=>
 bind (Zm y25 1) fun y26=>
 bind (ens y21 y26 x1) fun _=>
 bind (men .str (.string ⟨#[]⟩) y24 x1) fun y27=>
 bind (Zm y27 1) fun y28=>
 bind (ens y24 y28 y6) fun _=>
 ret (Value.int .i64 0))))))
theorem ZoR (Γ : Zc) (x0 x1 x2 : Value) : Zz Tryz.prog Γ Tryz.f44 ZhM [x0,x1,x2]=K1 Γ x0 x1 x2:=by kernel_rfl
theorem Zoo {prim : FuncId→Option (List Value→M Value)} (hp : prim Kf=none) (n : Nat) (x0 x1 x2 : Value) : run Tryz.prog prim lvs (n+1) Kf [x0,x1,x2]=K1 (run Tryz.prog prim lvs n) x0 x1 x2:=
 (Zl hp (by kernel_rfl) Tryz.func44 (by kernel_rfl)).trans (ZoR _ x0 x1 x2)
noncomputable def Zdy (Γ : Zc) (x0 x1 : Value) : M Value:=
 bind (cvi .u64 x1) fun y1=>
 bind (Γ KR [x0,y1,(Value.int .i64 1)]) fun y2=>
 ret y2
theorem Zlc (Γ : Zc) (x0 x1 : Value) : Zz Tryz.prog Γ Tryz.f45 ZfN [x0,x1]=Zdy Γ x0 x1:=by kernel_rfl
theorem Zkg {prim : FuncId→Option (List Value→M Value)} (hp : prim JP=none) (n : Nat) (x0 x1 : Value) : run Tryz.prog prim lvs (n+1) JP [x0,x1]=Zdy (run Tryz.prog prim lvs n) x0 x1:=
 (Zl hp (by kernel_rfl) Tryz.func45 (by kernel_rfl)).trans (Zlc _ x0 x1)
noncomputable def Kd.l1 (Γ : Zc) (s0 s17 s18 s19 : Value) : M Out:=
 bind (bop .int .lss s19 s18) fun y8=>
 cnd y8
 (bind (ixa 1 s17 s19) fun y9=>
 bind (ld1 y9) fun y10=>
 bind (Γ JN [s0,y10]) fun y11=>
 bind (bop .int .add s19 (Value.int .i64 1)) fun y12=>
 ret (.nrm [s0,s17,s18,y12]))
 (ret (.ext 0 [s0]))
noncomputable def Kd (Γ : Zc) (x0 x1 : Value) : M Value:=
 bind (Zy x1) fun y1=>
 bind (mxi false y1 (Value.int .i64 65535)) fun y2=>
 bind (slv 1 x1 none (some y2) none) fun y3=>
 bind (Zy y3) fun y4=>
 bind (cvi .u16 y4) fun y5=>
 bind (Γ Yx [x0,y5]) fun y6=>
 bind (Zy y3) fun y7=>
 jn (Zi (c4 (Kd.l1 Γ)) [x0,y3,y7,(Value.int .i64 0)]) noN (xk 0 (c1 fun q14_0=>
 ret q14_0) noX) ret
theorem ZmM (Γ : Zc) (x0 x1 : Value) : Zz Tryz.prog Γ Tryz.f46 Zgr [x0,x1]=Kd Γ x0 x1:=by kernel_rfl
theorem ZlJ {prim : FuncId→Option (List Value→M Value)} (hp : prim KP=none) (n : Nat) (x0 x1 : Value) : run Tryz.prog prim lvs (n+1) KP [x0,x1]=Kd (run Tryz.prog prim lvs n) x0 x1:=
 (Zl hp (by kernel_rfl) Tryz.func46 (by kernel_rfl)).trans (ZmM _ x0 x1)
noncomputable def Zeb (Γ : Zc) (x0 : Value) : M Value:=
 bind (Qc x0) fun y1=>
 bind (fa 2 y1) fun y2=>
 bind (ld1 y2) fun y3=>
 bind (Γ KS [y3]) fun y4=>
 ret y4
theorem Zmv (Γ : Zc) (x0 : Value) : Zz Tryz.prog Γ Tryz.f47 ZgE [x0]=Zeb Γ x0:=by kernel_rfl
theorem Zl6 {prim : FuncId→Option (List Value→M Value)} (hp : prim KI=none) (n : Nat) (x0 : Value) : run Tryz.prog prim lvs (n+1) KI [x0]=Zeb (run Tryz.prog prim lvs n) x0:=
 (Zl hp (by kernel_rfl) Tryz.func47 (by kernel_rfl)).trans (Zmv _ x0)
noncomputable def Zd4 (Γ : Zc) (x0 x1 : Value) : M Value:=
 bind (cvi .u64 x1) fun y1=>
 bind (Γ KR [x0,y1,(Value.int .i64 2)]) fun y2=>
 ret y2
theorem ZmN (Γ : Zc) (x0 x1 : Value) : Zz Tryz.prog Γ Tryz.f48 ZgG [x0,x1]=Zd4 Γ x0 x1:=by kernel_rfl
theorem ZkW {prim : FuncId→Option (List Value→M Value)} (hp : prim Yx=none) (n : Nat) (x0 x1 : Value) : run Tryz.prog prim lvs (n+1) Yx [x0,x1]=Zd4 (run Tryz.prog prim lvs n) x0 x1:=
 (Zl hp (by kernel_rfl) Tryz.func48 (by kernel_rfl)).trans (ZmN _ x0 x1)
noncomputable def Zgi (Γ : Zc) (x0 : Value) : M Value:=
 bind (Qc x0) fun y1=>
 bind (fa 0 y1) fun y2=>
 bind (ld1 y2) fun y3=>
 bind (lenM y3) fun y4=>
 ret y4
theorem ZqH (Γ : Zc) (x0 : Value) : Zz Tryz.prog Γ Tryz.f49 ZiF [x0]=Zgi Γ x0:=by kernel_rfl
theorem Zoz {prim : FuncId→Option (List Value→M Value)} (hp : prim W6=none) (n : Nat) (x0 : Value) : run Tryz.prog prim lvs (n+1) W6 [x0]=Zgi (run Tryz.prog prim lvs n) x0:=
 (Zl hp (by kernel_rfl) Tryz.func49 (by kernel_rfl)).trans (ZqH _ x0)
noncomputable def KF.l1 (Γ : Zc) (s0 s3 s9 s10 s11 : Value) : M Out:=
 bind (bop .int .lss s11 s10) fun y3=>
 cnd y3
 (bind (ixa 1 s9 s11) fun y4=>
 bind (ld1 y4) fun y5=>
 bind (Γ WE [s0,y5]) fun y6=>
 bind (Zm y6 0) fun y7=>
 bind (Zm y6 1) fun y8=>
 bind (alc 1 (.agg #[.string ⟨#[]⟩,.string ⟨#[]⟩,.string ⟨#[]⟩,.bool false,.slice none 0 0])) fun y9=>
 bind (stA 5 y9 y7) fun _=>
 bind (ldA 5 y9) fun y10=>
 bind (bsl 5 1 (.agg #[.string ⟨#[]⟩,.string ⟨#[]⟩,.string ⟨#[]⟩,.bool false,.slice none 0 0]) [(0,5,y10)]) fun y11=>
 bind (app 5 80 s3 y11) fun y12=>
 bind (bop .int .add s11 (Value.int .i64 1)) fun y13=>
 ret (.nrm [s0,y12,s9,s10,y13]))
 (ret (.ext 0 [s3]))
noncomputable def KF (Γ : Zc) (x0 : Value) : M Value:=
 bind (Γ Zbj [x0]) fun y1=>
 bind (Zy y1) fun y2=>
 jn (Zi (c5 (KF.l1 Γ)) [x0,(Value.slice none 0 0),y1,y2,(Value.int .i64 0)]) noN (xk 0 (c1 fun q15_0=>
 ret q15_0) noX) ret
theorem ZqR (Γ : Zc) (x0 : Value) : Zz Tryz.prog Γ Tryz.f50 ZiA [x0]=KF Γ x0:=by kernel_rfl
theorem Zpj {prim : FuncId→Option (List Value→M Value)} (hp : prim Zbc=none) (n : Nat) (x0 : Value) : run Tryz.prog prim lvs (n+1) Zbc [x0]=KF (run Tryz.prog prim lvs n) x0:=
 (Zl hp (by kernel_rfl) Tryz.func50 (by kernel_rfl)).trans (ZqR _ x0)
noncomputable def ZkR (Γ : Zc) (x0 x1 x2 : Value) : M Value:=
 bind (alc 1 x2) fun y1=>
 bind (ldA 5 y1) fun y2=>
 bind (Γ WQ [x1,y2]) fun y3=>
 bind (bop .int .neq y3 (Value.int .i64 0)) fun y4=>
 cnd y4
 (ret (Value.bool false))
 (bind (fa 0 y1) fun y5=>
 bind (ld1 y5) fun y6=>
 bind (fa 1 y1) fun y7=>
 bind (ld1 y7) fun y8=>
 bind (Γ JN [x0,y6]) fun y9=>
 bind (ld1 y7) fun u_10=>same u_10 y8 <|
 bind (Γ JN [y9,y8]) fun y11=>
 bind (bop .int .eql x1 (Value.int .i64 2)) fun y12=>
 jn (cnd y12
 (bind (fa 2 y1) fun y13=>
 bind (ld1 y13) fun y14=>
 bind (fa 3 y1) fun y15=>
 bind (ld1 y15) fun y16=>
 bind (fa 4 y1) fun y17=>
 bind (ld1 y17) fun y18=>
 bind (Γ JN [x0,y14]) fun y19=>
 bind (ld1 y17) fun u_20=>same u_20 y18 <|
 bind (ld1 y15) fun u_21=>same u_21 y16 <|
 bind (Γ WY [y19,y16]) fun y22=>
 bind (ld1 y17) fun u_23=>same u_23 y18 <|
 bind (Γ KP [y22,y18]) fun y24=>
 ret (.nrm []))
 (ret (.nrm []))) (c0 (ret (Value.bool true))) noX ret)
theorem Zw0 (Γ : Zc) (x0 x1 x2 : Value) : Zz Tryz.prog Γ Tryz.f51 ZoH [x0,x1,x2]=ZkR Γ x0 x1 x2:=by kernel_rfl
theorem ZuJ {prim : FuncId→Option (List Value→M Value)} (hp : prim ZfX=none) (n : Nat) (x0 x1 x2 : Value) : run Tryz.prog prim lvs (n+1) ZfX [x0,x1,x2]=ZkR (run Tryz.prog prim lvs n) x0 x1 x2:=
 (Zl hp (by kernel_rfl) Tryz.func51 (by kernel_rfl)).trans (Zw0 _ x0 x1 x2)
noncomputable def ZcS (Γ : Zc) (x0 : Value) : M Value:=
 bind (Qc x0) fun y1=>
 bind (fa 0 y1) fun y2=>
 bind (ld1 y2) fun y3=>
 bind (Γ Zc2 [y3]) fun y4=>
 ret y4
theorem Zka (Γ : Zc) (x0 : Value) : Zz Tryz.prog Γ Tryz.f52 Zfi [x0]=ZcS Γ x0:=by kernel_rfl
theorem Zi0 {prim : FuncId→Option (List Value→M Value)} (hp : prim K2=none) (n : Nat) (x0 : Value) : run Tryz.prog prim lvs (n+1) K2 [x0]=ZcS (run Tryz.prog prim lvs n) x0:=
 (Zl hp (by kernel_rfl) Tryz.func52 (by kernel_rfl)).trans (Zka _ x0)
noncomputable def ZkH (Γ : Zc) (x0 : Value) : M Value:=
 bind (Γ Zc2 [x0]) fun y1=>
 bind (bld (.agg #[.slice none 0 0,.int .i64 0]) [(0,1,y1)]) fun y2=>
 bind (alc 1 y2) fun y3=>
 ret y3
theorem Zxe (Γ : Zc) (x0 : Value) : Zz Tryz.prog Γ Tryz.f53 ZoB [x0]=ZkH Γ x0:=by kernel_rfl
theorem Zvl {prim : FuncId→Option (List Value→M Value)} (hp : prim Zep=none) (n : Nat) (x0 : Value) : run Tryz.prog prim lvs (n+1) Zep [x0]=ZkH (run Tryz.prog prim lvs n) x0:=
 (Zl hp (by kernel_rfl) Tryz.func53 (by kernel_rfl)).trans (Zxe _ x0)
noncomputable def Zdu (Γ : Zc) (x0 : Value) : M Value:=
 bind (Γ KH [x0,(Value.int .i64 1)]) fun y1=>
 bind (cvi .u8 y1) fun y2=>
 ret y2
theorem ZlG (Γ : Zc) (x0 : Value) : Zz Tryz.prog Γ Tryz.f54 Zf8 [x0]=Zdu Γ x0:=by kernel_rfl
theorem Zke {prim : FuncId→Option (List Value→M Value)} (hp : prim Ko=none) (n : Nat) (x0 : Value) : run Tryz.prog prim lvs (n+1) Ko [x0]=Zdu (run Tryz.prog prim lvs n) x0:=
 (Zl hp (by kernel_rfl) Tryz.func54 (by kernel_rfl)).trans (ZlG _ x0)
noncomputable def Zea (Γ : Zc) (x0 : Value) : M Value:=
 bind (Qc x0) fun y1=>
 bind (fa 1 y1) fun y2=>
 bind (ld1 y2) fun y3=>
 ret y3
theorem ZmP (Γ : Zc) (x0 : Value) : Zz Tryz.prog Γ Tryz.f55 ZgK [x0]=Zea Γ x0:=by kernel_rfl
theorem ZkU {prim : FuncId→Option (List Value→M Value)} (hp : prim QM=none) (n : Nat) (x0 : Value) : run Tryz.prog prim lvs (n+1) QM [x0]=Zea (run Tryz.prog prim lvs n) x0:=
 (Zl hp (by kernel_rfl) Tryz.func55 (by kernel_rfl)).trans (ZmP _ x0)
noncomputable def Yz.l1 (Γ : Zc) (s0 s2 s7 s10 s11 : Value) : M Out:=
 bind (bop .int .lss s11 s10) fun y2=>
 cnd y2
 (bind (Γ JM [s0,s2]) fun y3=>
 bind (bsl 1 1 (.string ⟨#[]⟩) [(0,1,y3)]) fun y4=>
 bind (app 1 16 s7 y4) fun y5=>
 bind (bop .int .add s11 (Value.int .i64 1)) fun y6=>
 ret (.nrm [s0,s2,y5,s10,y6]))
 (ret (.ext 0 [s0,s7]))
noncomputable def Yz (Γ : Zc) (x0 x1 x2 : Value) : M Value:=
 bind (Γ Kc [x0,x1]) fun y1=>
 jn (Zi (c5 (Yz.l1 Γ)) [x0,x2,(Value.slice none 0 0),y1,(Value.int .i64 0)]) noN (xk 0 (c2 fun q8_0 q8_1=>
 bind (Qc q8_0) fun y9=>
 bind (fa 1 y9) fun y10=>
 bind (ld1 y10) fun y11=>
 bind (bop .int .neq y11 (Value.int .i64 0)) fun y12=>
 cnd y12
 (ret (Value.slice none 0 0))
 (ret q8_1)) noX) ret
theorem ZmI (Γ : Zc) (x0 x1 x2 : Value) : Zz Tryz.prog Γ Tryz.f56 ZgC [x0,x1,x2]=Yz Γ x0 x1 x2:=by kernel_rfl
theorem Zf1 {prim : FuncId→Option (List Value→M Value)} (hp : prim KK=none) (n : Nat) (x0 x1 x2 : Value) : run Tryz.prog prim lvs (n+1) KK [x0,x1,x2]=Yz (run Tryz.prog prim lvs n) x0 x1 x2:=
 (Zl hp (by kernel_rfl) Tryz.func56 (by kernel_rfl)).trans (ZmI _ x0 x1 x2)
noncomputable def Zec (Γ : Zc) (x0 : Value) : M Value:=
 bind (Γ KH [x0,(Value.int .i64 2)]) fun y1=>
 bind (cvi .u16 y1) fun y2=>
 ret y2
theorem ZmR (Γ : Zc) (x0 : Value) : Zz Tryz.prog Γ Tryz.f57 ZgF [x0]=Zec Γ x0:=by kernel_rfl
theorem ZkN {prim : FuncId→Option (List Value→M Value)} (hp : prim KJ=none) (n : Nat) (x0 : Value) : run Tryz.prog prim lvs (n+1) KJ [x0]=Zec (run Tryz.prog prim lvs n) x0:=
 (Zl hp (by kernel_rfl) Tryz.func57 (by kernel_rfl)).trans (ZmR _ x0)
noncomputable def Ws (Γ : Zc) (x0 x1 : Value) : M Value:=
 bind (Qc x0) fun y1=>
 bind (fa 1 y1) fun y2=>
 bind (ld1 y2) fun y3=>
 bind (bop .int .eql y3 (Value.int .i64 0)) fun y4=>
 bind (ZH y4 true 2 (bind (bop .int .neq x1 (Value.int .i64 0)) fun y5=>
 ret [x1,y5])) (c2 fun _ q6_1=>
 bind (pick y4 q6_1 (Value.bool false)) fun y7=>
 jn (cnd y7
 (bind (Qc x0) fun y8=>
 bind (fa 0 y8) fun y9=>
 bind (st1 y9 (Value.slice none 0 0)) fun _=>
 bind (Qc x0) fun y10=>
 bind (fa 1 y10) fun y11=>
 bind (st1 y11 x1) fun _=>
 ret (.nrm []))
 (ret (.nrm []))) (c0 (ret (Value.tuple #[]))) noX ret)
theorem ZkD (Γ : Zc) (x0 x1 : Value) : Zz Tryz.prog Γ Tryz.f58 ZfL [x0,x1]=Ws Γ x0 x1:=by kernel_rfl
theorem Zkb {prim : FuncId→Option (List Value→M Value)} (hp : prim Z6=none) (n : Nat) (x0 x1 : Value) : run Tryz.prog prim lvs (n+1) Z6 [x0,x1]=Ws (run Tryz.prog prim lvs n) x0 x1:=
 (Zl hp (by kernel_rfl) Tryz.func58 (by kernel_rfl)).trans (ZkD _ x0 x1)
noncomputable def ZhU (Γ : Zc) (x0 x1 : Value) : M Value:=
 bind (alc 1 (.agg #[.string ⟨#[]⟩,.string ⟨#[]⟩,.string ⟨#[]⟩,.bool false,.slice none 0 0])) fun y1=>
 bind (bop .int .neq x1 (Value.int .i64 1)) fun y2=>
 bind (ZH y2 true 2 (bind (bop .int .neq x1 (Value.int .i64 2)) fun y3=>
 ret [x1,y3])) (c2 fun _ q4_1=>
 bind (pick y2 q4_1 (Value.bool false)) fun y5=>
 cnd y5
 (bind (Γ Z6 [x0,(Value.int .i64 6)]) fun y6=>
 bind (bld (.agg #[.string ⟨#[]⟩,.string ⟨#[]⟩,.string ⟨#[]⟩,.bool false,.slice none 0 0]) []) fun y7=>
 bind (stA 5 y1 y7) fun _=>
 bind (ldA 5 y1) fun y8=>
 ret y8)
 (bind (Γ JM [x0,(Value.int .i64 65535)]) fun y9=>
 bind (Γ JM [x0,(Value.int .i64 65535)]) fun y10=>
 bind (bld (.agg #[.string ⟨#[]⟩,.string ⟨#[]⟩,.string ⟨#[]⟩,.bool false,.slice none 0 0]) [(0,1,y9),(1,1,y10)]) fun y11=>
 bind (alc 1 (.agg #[.string ⟨#[]⟩,.string ⟨#[]⟩,.string ⟨#[]⟩,.bool false,.slice none 0 0])) fun y12=>
 bind (stA 5 y12 y11) fun _=>
 bind (bop .int .eql x1 (Value.int .i64 2)) fun y13=>
 jn (cnd y13
 (bind (Γ JM [x0,(Value.int .i64 65535)]) fun y14=>
 bind (Γ WU [x0]) fun y15=>
 bind (Γ KK [x0,(Value.int .i64 65535),(Value.int .i64 65535)]) fun y16=>
 bind (fa 2 y12) fun y17=>
 bind (st1 y17 y14) fun _=>
 bind (fa 3 y12) fun y18=>
 bind (st1 y18 y15) fun _=>
 bind (fa 4 y12) fun y19=>
 bind (st1 y19 y16) fun _=>
 ret (.nrm [x0,x1,y1,y12]))
 (ret (.nrm [x0,x1,y1,y12]))) (c4 fun q20_0 q20_1 q20_2 q20_3=>
 bind (Γ QM [q20_0]) fun y21=>
 bind (bop .int .eql y21 (Value.int .i64 0)) fun y22=>
 jn (cnd y22
 (bind (ldA 5 q20_3) fun y23=>
 bind (Γ WQ [q20_1,y23]) fun y24=>
 bind (Γ Z6 [q20_0,y24]) fun y25=>
 ret (.nrm [q20_0,q20_2,q20_3]))
 (ret (.nrm [q20_0,q20_2,q20_3]))) (c3 fun q26_0 q26_1 q26_2=>
 bind (Γ QM [q26_0]) fun y27=>
 bind (bop .int .neq y27 (Value.int .i64 0)) fun y28=>
 cnd y28
 (bind (bld (.agg #[.string ⟨#[]⟩,.string ⟨#[]⟩,.string ⟨#[]⟩,.bool false,.slice none 0 0]) []) fun y29=>
 bind (stA 5 q26_1 y29) fun _=>
 bind (ldA 5 q26_1) fun y30=>
 ret y30)
 (bind (ldA 5 q26_2) fun y31=>
 bind (stA 5 q26_1 y31) fun _=>
 bind (ldA 5 q26_1) fun y32=>
 ret y32)) noX ret) noX ret))
theorem Zwv (Γ : Zc) (x0 x1 : Value) : Zz Tryz.prog Γ Tryz.f59 ZpD [x0,x1]=ZhU Γ x0 x1:=by kernel_rfl
theorem Zni {prim : FuncId→Option (List Value→M Value)} (hp : prim ZcY=none) (n : Nat) (x0 x1 : Value) : run Tryz.prog prim lvs (n+1) ZcY [x0,x1]=ZhU (run Tryz.prog prim lvs n) x0 x1:=
 (Zl hp (by kernel_rfl) Tryz.func59 (by kernel_rfl)).trans (Zwv _ x0 x1)
noncomputable def Zd6 (Γ : Zc) (x0 : Value) : M Value:=
 bind (Qc x0) fun y1=>
 bind (fa 1 y1) fun y2=>
 bind (ld1 y2) fun y3=>
 bind (bop .int .eql y3 (Value.int .i64 0)) fun y4=>
 bind (ZH y4 true 6 (bind (Qc x0) fun y5=>
 bind (fa 0 y5) fun y6=>
 bind (ld1 y6) fun y7=>
 bind (Zy y7) fun y8=>
 bind (bop .int .gtr y8 (Value.int .i64 0)) fun y9=>
 ret [x0,y5,y6,y7,y8,y9])) (c6 fun _ _ _ _ _ q10_5=>
 bind (pick y4 q10_5 (Value.bool false)) fun y11=>
 cnd y11
 (ret (Value.int .i64 3))
 (bind (Qc x0) fun y12=>
 bind (fa 1 y12) fun y13=>
 bind (ld1 y13) fun y14=>
 ret y14))
theorem ZmT (Γ : Zc) (x0 : Value) : Zz Tryz.prog Γ Tryz.f60 Zgx [x0]=Zd6 Γ x0:=by kernel_rfl
theorem Zl2 {prim : FuncId→Option (List Value→M Value)} (hp : prim KM=none) (n : Nat) (x0 : Value) : run Tryz.prog prim lvs (n+1) KM [x0]=Zd6 (run Tryz.prog prim lvs n) x0:=
 (Zl hp (by kernel_rfl) Tryz.func60 (by kernel_rfl)).trans (ZmT _ x0)
noncomputable def Zj0.l1 (Γ : Zc) (s2 s6 s8 s10 s29 s30 : Value) : M Out:=
 bind (bop .int .lss s30 s29) fun y18=>
 cnd y18
 (bind (ldA 2 s8) fun y19=>
 bind (Γ ZqC [y19,s2]) fun y20=>
 bind (Zm y20 0) fun y21=>
 bind (Zm y20 1) fun y22=>
 bind (alc 1 (.agg #[.string ⟨#[]⟩,.int .i64 0])) fun y23=>
 bind (stA 2 y23 y21) fun _=>
 bind (ldA 2 y23) fun y24=>
 bind (stA 2 s8 y24) fun _=>
 bind (fa 1 s8) fun y25=>
 bind (ld1 y25) fun y26=>
 bind (bop .int .neq y26 (Value.int .i64 0)) fun y27=>
 cnd y27
 (bind (ldA 2 s8) fun y28=>
 bind (stA 2 s6 y28) fun _=>
 bind (ldA 2 s6) fun y29=>
 ret (.ret (Value.tuple #[y29,(Value.slice none 0 0)])))
 (bind (bsl 1 1 (.string ⟨#[]⟩) [(0,1,y22)]) fun y30=>
 bind (app 1 16 s10 y30) fun y31=>
 bind (bop .int .add s30 (Value.int .u64 1)) fun y32=>
 ret (.nrm [s2,s6,s8,y31,s29,y32])))
 (ret (.ext 0 [s6,s8,s10]))
noncomputable def Zj0 (Γ : Zc) (x0 x1 x2 : Value) : M Value:=
 bind (alc 1 x0) fun y1=>
 bind (alc 1 (.agg #[.string ⟨#[]⟩,.int .i64 0])) fun y2=>
 bind (ldA 2 y1) fun y3=>
 bind (Γ Zjg [y3,(Value.int .i64 2)]) fun y4=>
 bind (Zm y4 0) fun y5=>
 bind (Zm y4 1) fun y6=>
 bind (alc 1 (.agg #[.string ⟨#[]⟩,.int .i64 0])) fun y7=>
 bind (stA 2 y7 y5) fun _=>
 bind (fa 1 y7) fun y8=>
 bind (ld1 y8) fun y9=>
 bind (bop .int .eql y9 (Value.int .i64 0)) fun y10=>
 bind (ZH y10 true 5 (bind (cvi .i64 y6) fun y11=>
 bind (mxi true (Value.int .i64 0) x1) fun y12=>
 bind (bop .int .gtr y11 y12) fun y13=>
 ret [y6,y11,x1,y12,y13])) (c5 fun _ _ _ _ q14_4=>
 bind (pick y10 q14_4 (Value.bool false)) fun y15=>
 cnd y15
 (bind (bld (.agg #[.string ⟨#[]⟩,.int .i64 0]) [(1,1,(Value.int .i64 3))]) fun y16=>
 bind (stA 2 y2 y16) fun _=>
 bind (ldA 2 y2) fun y17=>
 ret (Value.tuple #[y17,(Value.slice none 0 0)]))
 (jn (Zi (c6 (Zj0.l1 Γ)) [x2,y2,y7,(Value.slice none 0 0),y6,(Value.int .u64 0)]) noN (xk 0 (c3 fun q34_0 q34_1 q34_2=>
 bind (ldA 2 q34_1) fun y35=>
 bind (stA 2 q34_0 y35) fun _=>
 bind (ldA 2 q34_0) fun y36=>
 ret (Value.tuple #[y36,q34_2])) noX) ret))
noncomputable def Zaw.l1 (Γ : Zc) (s0 s1 s21 s22 s23 : Value) : M Out:=
 bind (bop .int .lss s23 s22) fun y4=>
 cnd y4
 (bind (ixa 1 s21 s23) fun y5=>
 bind (ld1 y5) fun y6=>
 bind (Γ QL [y6]) fun y7=>
 bind (uop .not y7) fun y8=>
 cnd y8
 (ret (.ret (Value.int .i64 10)))
 (bind (bop .int .add s23 (Value.int .i64 1)) fun y9=>
 ret (.nrm [s0,s1,s21,s22,y9])))
 (ret (.ext 0 [s0,s1]))
noncomputable def Zaw.l2 (Γ : Zc) (s0 s1 s31 s32 s33 : Value) : M Out:=
 bind (bop .int .lss s33 s32) fun y13=>
 cnd y13
 (bind (ixa 1 s31 s33) fun y14=>
 bind (ld1 y14) fun y15=>
 bind (bop .int .gtr s33 (Value.int .i64 0)) fun y16=>
 bind (ZH y16 true 7 (bind (bop .int .sub s33 (Value.int .i64 1)) fun y17=>
 bind (ixa 1 s1 y17) fun y18=>
 bind (ld1 y18) fun y19=>
 bind (bop .str .geq y19 y15) fun y20=>
 ret [s1,s33,y17,y18,y19,y15,y20])) (c7 fun _ _ _ _ _ _ q21_6=>
 bind (pick y16 q21_6 (Value.bool false)) fun y22=>
 cnd y22
 (ret (.ret (Value.int .i64 9)))
 (bind (bop .int .add s33 (Value.int .i64 1)) fun y23=>
 ret (.nrm [s0,s1,s31,s32,y23]))))
 (ret (.ext 2 [s0,s1]))
noncomputable def Zaw.l4 (Γ : Zc) (s0 s1 s10 s11 s53 s54 s55 s61 s62 s63 : Value) : M Out:=
 bind (bop .int .lss s63 s62) fun y36=>
 cnd y36
 (bind (ixa 1 s61 s63) fun y37=>
 bind (ld1 y37) fun y38=>
 bind (Γ Wa [s1,y38]) fun y39=>
 bind (uop .not y39) fun y40=>
 cnd y40
 (ret (.ret (Value.int .i64 8)))
 (bind (bop .int .add s63 (Value.int .i64 1)) fun y41=>
 ret (.nrm [s0,s1,s10,s11,s53,s54,s55,s61,s62,y41])))
 (ret (.ext 6 [s0,s1,s10,s11,s53,s54,s55]))
noncomputable def Zaw.l5 (Γ : Zc) (s0 s1 s11 s53 s54 s55 s74 s75 s76 : Value) : M Out:=
 bind (bop .int .lss s76 s75) fun y46=>
 cnd y46
 (bind (ixa 5 s74 s76) fun y47=>
 bind (ldA 5 y47) fun y48=>
 bind (alc 1 (.agg #[.string ⟨#[]⟩,.string ⟨#[]⟩,.string ⟨#[]⟩,.bool false,.slice none 0 0])) fun y49=>
 bind (stA 5 y49 y48) fun _=>
 bind (fa 2 s11) fun y50=>
 bind (ld1 y50) fun y51=>
 bind (bop .str .neq y51 (Value.string ⟨#[]⟩)) fun y52=>
 bind (ZH y52 true 5 (bind (fa 2 s11) fun y53=>
 bind (ld1 y53) fun y54=>
 bind (fa 2 y49) fun y55=>
 bind (ld1 y55) fun y56=>
 bind (bop .str .eql y54 y56) fun y57=>
 ret [y53,y54,y55,y56,y57])) (c5 fun _ _ _ _ q58_4=>
 bind (pick y52 q58_4 (Value.bool false)) fun y59=>
 cnd y59
 (ret (.ret (Value.int .i64 9)))
 (bind (bop .int .add s76 (Value.int .i64 1)) fun y60=>
 ret (.nrm [s0,s1,s11,s53,s54,s55,s74,s75,y60]))))
 (ret (.ext 8 [s0,s1,s53,s54,s55]))
noncomputable def Zaw.l3 (Γ : Zc) (s0 s1 s53 s54 s55 : Value) : M Out:=
 bind (bop .int .lss s55 s54) fun y29=>
 cnd y29
 (bind (ixa 5 s53 s55) fun y30=>
 bind (ldA 5 y30) fun y31=>
 bind (alc 1 (.agg #[.string ⟨#[]⟩,.string ⟨#[]⟩,.string ⟨#[]⟩,.bool false,.slice none 0 0])) fun y32=>
 bind (stA 5 y32 y31) fun _=>
 bind (fa 4 y32) fun y33=>
 bind (ld1 y33) fun y34=>
 bind (Zy y34) fun y35=>
 jn (Zi (c10 (Zaw.l4 Γ)) [s0,s1,s55,y32,s53,s54,s55,y34,y35,(Value.int .i64 0)]) noN (xk 6 (c7 fun q43_0 q43_1 q43_2 q43_3 q43_4 q43_5 q43_6=>
 bind (slv 5 q43_0 none (some q43_2) none) fun y44=>
 bind (Zy y44) fun y45=>
 jn (Zi (c9 (Zaw.l5 Γ)) [q43_0,q43_1,q43_3,q43_4,q43_5,q43_6,y44,y45,(Value.int .i64 0)]) noN (xk 8 (c5 fun q62_0 q62_1 q62_2 q62_3 q62_4=>
 bind (bop .int .add q62_4 (Value.int .i64 1)) fun y63=>
 ret (.nrm [q62_0,q62_1,q62_2,q62_3,y63])) noX) ZX) noX) ZX)
 (ret (.ext 4 []))
noncomputable def Zaw (Γ : Zc) (x0 x1 : Value) : M Value:=
 bind (Γ Zrk [x0,(Value.int .i64 2)]) fun y1=>
 bind (bop .int .neq y1 (Value.int .i64 0)) fun y2=>
 cnd y2
 (ret y1)
 (bind (Zy x1) fun y3=>
 jn (Zi (c5 (Zaw.l1 Γ)) [x0,x1,x1,y3,(Value.int .i64 0)]) noN (xk 0 (c2 fun q11_0 q11_1=>
 bind (Zy q11_1) fun y12=>
 jn (Zi (c5 (Zaw.l2 Γ)) [q11_0,q11_1,q11_1,y12,(Value.int .i64 0)]) noN (xk 2 (c2 fun q25_0 q25_1=>
 bind (Zy q25_1) fun y26=>
 bind (bop .int .gtr y26 (Value.int .i64 6)) fun y27=>
 cnd y27
 (ret (Value.int .i64 7))
 (bind (Zy q25_0) fun y28=>
 jn (Zi (c5 (Zaw.l3 Γ)) [q25_0,q25_1,q25_0,y28,(Value.int .i64 0)]) noN (xk 4 (c0 (ret (Value.int .i64 0))) noX) ret)) noX) ret) noX) ret)
noncomputable def Zgh (Γ : Zc) (x0 x1 x2 : Value) : M Value:=
 bind (alc 1 x0) fun y1=>
 bind (alc 1 (.agg #[.slice none 0 0,.slice none 0 0])) fun y2=>
 bind (fa 0 y1) fun y3=>
 bind (ld1 y3) fun y4=>
 bind (Γ Za9 [y4,x1,x2]) fun y5=>
 bind (Zm y5 0) fun y6=>
 bind (Zm y5 1) fun y7=>
 bind (fa 0 y1) fun y8=>
 bind (st1 y8 y6) fun _=>
 bind (ldA 2 y1) fun y9=>
 bind (stA 2 y2 y9) fun _=>
 bind (ldA 2 y2) fun y10=>
 ret (Value.tuple #[y10,y7])
theorem Zqu (Γ : Zc) (x0 x1 x2 : Value) : Zz Tryz.prog Γ Tryz.f65 Ziv [x0,x1,x2]=Zgh Γ x0 x1 x2:=by kernel_rfl
theorem ZoV {prim : FuncId→Option (List Value→M Value)} (hp : prim Zcp=none) (n : Nat) (x0 x1 x2 : Value) : run Tryz.prog prim lvs (n+1) Zcp [x0,x1,x2]=Zgh (run Tryz.prog prim lvs n) x0 x1 x2:=
 (Zl hp (by kernel_rfl) Tryz.func65 (by kernel_rfl)).trans (Zqu _ x0 x1 x2)
noncomputable def Za1 (Γ : Zc) (x0 x1 x2 : Value) : M Value:=
 bind (Γ QY [x0,x1]) fun y1=>
 bind (Zm y1 0) fun y2=>
 bind (Zm y1 1) fun y3=>
 bind (alc 1 (.agg #[.string ⟨#[]⟩,.bool false])) fun y4=>
 bind (stA 2 y4 y2) fun _=>
 bind (bop .int .eql y3 (Value.int .i64 10)) fun y5=>
 cnd y5
 (ret y3)
 (bind (Γ Zbi [x2]) fun y6=>
 bind (bop .int .neq y6 (Value.int .i64 0)) fun y7=>
 cnd y7
 (ret (Value.int .i64 4))
 (bind (bop .int .eql y3 (Value.int .i64 0)) fun y8=>
 cnd y8
 (ret (Value.int .i64 9))
 (bind (Qc x0) fun y9=>
 bind (fa 0 y9) fun y10=>
 bind (ld1 y10) fun y11=>
 bind (lenM y11) fun y12=>
 bind (bop .int .geq y12 (Value.int .i64 12)) fun y13=>
 cnd y13
 (ret (Value.int .i64 7))
 (bind (Qc x0) fun y14=>
 bind (fa 0 y14) fun y15=>
 bind (ld1 y15) fun y16=>
 bind (bld (.agg #[.string ⟨#[]⟩,.bool false]) [(0,1,x2)]) fun y17=>
 bind (mup .str y16 x1 y17) fun _=>
 ret (Value.int .i64 0)))))
theorem ZmF (Γ : Zc) (x0 x1 x2 : Value) : Zz Tryz.prog Γ Tryz.f66 Zgu [x0,x1,x2]=Za1 Γ x0 x1 x2:=by kernel_rfl
theorem Zlz {prim : FuncId→Option (List Value→M Value)} (hp : prim Y8=none) (n : Nat) (x0 x1 x2 : Value) : run Tryz.prog prim lvs (n+1) Y8 [x0,x1,x2]=Za1 (run Tryz.prog prim lvs n) x0 x1 x2:=
 (Zl hp (by kernel_rfl) Tryz.func66 (by kernel_rfl)).trans (ZmF _ x0 x1 x2)
noncomputable def Zgc (Γ : Zc) (x0 x1 : Value) : M Value:=
 bind (alc 1 x0) fun y1=>
 bind (alc 1 (.agg #[.slice none 0 0,.slice none 0 0])) fun y2=>
 bind (fa 0 y1) fun y3=>
 bind (ld1 y3) fun y4=>
 bind (Γ Za8 [y4,x1]) fun y5=>
 bind (Zm y5 0) fun y6=>
 bind (Zm y5 1) fun y7=>
 bind (fa 0 y1) fun y8=>
 bind (st1 y8 y6) fun _=>
 bind (ldA 2 y1) fun y9=>
 bind (stA 2 y2 y9) fun _=>
 bind (ldA 2 y2) fun y10=>
 ret (Value.tuple #[y10,y7])
theorem ZqA (Γ : Zc) (x0 x1 : Value) : Zz Tryz.prog Γ Tryz.f67 ZiH [x0,x1]=Zgc Γ x0 x1:=by kernel_rfl
theorem Zpo {prim : FuncId→Option (List Value→M Value)} (hp : prim Zcm=none) (n : Nat) (x0 x1 : Value) : run Tryz.prog prim lvs (n+1) Zcm [x0,x1]=Zgc (run Tryz.prog prim lvs n) x0 x1:=
 (Zl hp (by kernel_rfl) Tryz.func67 (by kernel_rfl)).trans (ZqA _ x0 x1)
noncomputable def ZaM (Γ : Zc) (x0 x1 : Value) : M Value:=
 bind (Γ QY [x0,x1]) fun y1=>
 bind (Zm y1 0) fun y2=>
 bind (Zm y1 1) fun y3=>
 bind (alc 1 (.agg #[.string ⟨#[]⟩,.bool false])) fun y4=>
 bind (stA 2 y4 y2) fun _=>
 bind (bop .int .neq y3 (Value.int .i64 0)) fun y5=>
 cnd y5
 (ret y3)
 (bind (Qc x0) fun y6=>
 bind (fa 0 y6) fun y7=>
 bind (ld1 y7) fun y8=>
 bind (mde .str y8 x1) fun _=>
 bind (Qc x0) fun y9=>
 bind (fa 1 y9) fun y10=>
 bind (ld1 y10) fun y11=>
 bind (Γ Jz [y11,x1]) fun y12=>
 bind (Qc x0) fun y13=>
 bind (fa 2 y13) fun y14=>
 bind (ld1 y14) fun y15=>
 bind (Γ Wx [y15,x1]) fun y16=>
 ret (Value.int .i64 0))
theorem ZmX (Γ : Zc) (x0 x1 : Value) : Zz Tryz.prog Γ Tryz.f68 ZgJ [x0,x1]=ZaM Γ x0 x1:=by kernel_rfl
theorem ZkG {prim : FuncId→Option (List Value→M Value)} (hp : prim Ka=none) (n : Nat) (x0 x1 : Value) : run Tryz.prog prim lvs (n+1) Ka [x0,x1]=ZaM (run Tryz.prog prim lvs n) x0 x1:=
 (Zl hp (by kernel_rfl) Tryz.func68 (by kernel_rfl)).trans (ZmX _ x0 x1)
noncomputable def ZbT (Γ : Zc) (x0 x1 x2 : Value) : M Value:=
 bind (alc 1 x0) fun y1=>
 bind (alc 1 (.agg #[.slice none 0 0,.slice none 0 0])) fun y2=>
 bind (ldA 2 y1) fun y3=>
 bind (Γ J7 [y3,x1]) fun y4=>
 bind (Zm y4 0) fun y5=>
 bind (Zm y4 1) fun y6=>
 bind (alc 1 (.agg #[.string ⟨#[]⟩,.string ⟨#[]⟩,.string ⟨#[]⟩,.bool false,.slice none 0 0])) fun y7=>
 bind (stA 5 y7 y5) fun _=>
 bind (bop .int .eql y6 (Value.int .i64 10)) fun y8=>
 cnd y8
 (bind (ldA 2 y1) fun y9=>
 bind (stA 2 y2 y9) fun _=>
 bind (ldA 2 y2) fun y10=>
 ret (Value.tuple #[y10,y6]))
 (bind (Γ Zaz [x2]) fun y11=>
 bind (uop .not y11) fun y12=>
 cnd y12
 (bind (ldA 2 y1) fun y13=>
 bind (stA 2 y2 y13) fun _=>
 bind (ldA 2 y2) fun y14=>
 ret (Value.tuple #[y14,(Value.int .i64 4)]))
 (bind (bop .int .neq y6 (Value.int .i64 0)) fun y15=>
 cnd y15
 (bind (ldA 2 y1) fun y16=>
 bind (stA 2 y2 y16) fun _=>
 bind (ldA 2 y2) fun y17=>
 ret (Value.tuple #[y17,y6]))
 (bind (fa 3 y7) fun y18=>
 bind (ld1 y18) fun y19=>
 cnd y19
 (bind (ldA 2 y1) fun y20=>
 bind (stA 2 y2 y20) fun _=>
 bind (ldA 2 y2) fun y21=>
 ret (Value.tuple #[y21,(Value.int .i64 12)]))
 (bind (fa 1 y7) fun y22=>
 bind (st1 y22 x2) fun _=>
 bind (ldA 2 y1) fun y23=>
 bind (ldA 5 y7) fun y24=>
 bind (Γ WN [y23,y24]) fun y25=>
 bind (stA 2 y2 y25) fun _=>
 bind (ldA 2 y2) fun y26=>
 ret (Value.tuple #[y26,(Value.int .i64 0)])))))
theorem Zox (Γ : Zc) (x0 x1 x2 : Value) : Zz Tryz.prog Γ Tryz.f69 Zhz [x0,x1,x2]=ZbT Γ x0 x1 x2:=by kernel_rfl
theorem ZnQ {prim : FuncId→Option (List Value→M Value)} (hp : prim ZaC=none) (n : Nat) (x0 x1 x2 : Value) : run Tryz.prog prim lvs (n+1) ZaC [x0,x1,x2]=ZbT (run Tryz.prog prim lvs n) x0 x1 x2:=
 (Zl hp (by kernel_rfl) Tryz.func69 (by kernel_rfl)).trans (Zox _ x0 x1 x2)
noncomputable def Zai (Γ : Zc) (x0 x1 x2 : Value) : M Value:=
 bind (Γ QY [x0,x1]) fun y1=>
 bind (Zm y1 0) fun y2=>
 bind (Zm y1 1) fun y3=>
 bind (alc 1 (.agg #[.string ⟨#[]⟩,.bool false])) fun y4=>
 bind (stA 2 y4 y2) fun _=>
 bind (bop .int .eql y3 (Value.int .i64 10)) fun y5=>
 cnd y5
 (ret y3)
 (bind (Γ Zbi [x2]) fun y6=>
 bind (bop .int .neq y6 (Value.int .i64 0)) fun y7=>
 cnd y7
 (ret (Value.int .i64 4))
 (bind (bop .int .neq y3 (Value.int .i64 0)) fun y8=>
 cnd y8
 (ret y3)
 (bind (fa 1 y4) fun y9=>
 bind (ld1 y9) fun y10=>
 cnd y10
 (ret (Value.int .i64 12))
 (bind (fa 0 y4) fun y11=>
 bind (st1 y11 x2) fun _=>
 bind (Qc x0) fun y12=>
 bind (fa 0 y12) fun y13=>
 bind (ld1 y13) fun y14=>
 bind (ldA 2 y4) fun y15=>
 bind (mup .str y14 x1 y15) fun _=>
 ret (Value.int .i64 0)))))
theorem Zku (Γ : Zc) (x0 x1 x2 : Value) : Zz Tryz.prog Γ Tryz.f70 ZfU [x0,x1,x2]=Zai Γ x0 x1 x2:=by kernel_rfl
theorem Zko {prim : FuncId→Option (List Value→M Value)} (hp : prim Wq=none) (n : Nat) (x0 x1 x2 : Value) : run Tryz.prog prim lvs (n+1) Wq [x0,x1,x2]=Zai (run Tryz.prog prim lvs n) x0 x1 x2:=
 (Zl hp (by kernel_rfl) Tryz.func70 (by kernel_rfl)).trans (Zku _ x0 x1 x2)
noncomputable def Qv.l1 (Γ : Zc) (s1 s3 s6 s8 s10 s41 s42 s43 : Value) : M Out:=
 bind (bop .int .lss s43 s42) fun y26=>
 cnd y26
 (bind (ixa 5 s41 s43) fun y27=>
 bind (ldA 5 y27) fun y28=>
 bind (alc 1 (.agg #[.string ⟨#[]⟩,.string ⟨#[]⟩,.string ⟨#[]⟩,.bool false,.slice none 0 0])) fun y29=>
 bind (stA 5 y29 y28) fun _=>
 bind (bop .str .neq s10 (Value.string ⟨#[]⟩)) fun y30=>
 bind (ZH y30 true 4 (bind (fa 2 y29) fun y31=>
 bind (ld1 y31) fun y32=>
 bind (bop .str .eql y32 s10) fun y33=>
 ret [y31,y32,s10,y33])) (c4 fun _ _ _ q34_3=>
 bind (pick y30 q34_3 (Value.bool false)) fun y35=>
 bind (ZH y35 true 4 (bind (fa 0 y29) fun y36=>
 bind (ld1 y36) fun y37=>
 bind (bop .str .neq y37 s1) fun y38=>
 ret [y36,y37,s1,y38])) (c4 fun _ _ _ q39_3=>
 bind (pick y35 q39_3 (Value.bool false)) fun y40=>
 cnd y40
 (bind (ldA 2 s3) fun y41=>
 bind (stA 2 s6 y41) fun _=>
 bind (ldA 2 s6) fun y42=>
 ret (.ret (Value.tuple #[y42,(Value.int .i64 9)])))
 (bind (bop .int .add s43 (Value.int .i64 1)) fun y43=>
 ret (.nrm [s1,s3,s6,s8,s10,s41,s42,y43])))))
 (ret (.ext 0 [s3,s6,s8,s10]))
noncomputable def Qv (Γ : Zc) (x0 x1 x2 : Value) : M Value:=
 bind (alc 1 x0) fun y1=>
 bind (alc 1 (.agg #[.slice none 0 0,.slice none 0 0])) fun y2=>
 bind (ldA 2 y1) fun y3=>
 bind (Γ J7 [y3,x1]) fun y4=>
 bind (Zm y4 0) fun y5=>
 bind (Zm y4 1) fun y6=>
 bind (alc 1 (.agg #[.string ⟨#[]⟩,.string ⟨#[]⟩,.string ⟨#[]⟩,.bool false,.slice none 0 0])) fun y7=>
 bind (stA 5 y7 y5) fun _=>
 bind (Γ ZbD [x2]) fun y8=>
 bind (Zm y8 0) fun y9=>
 bind (Zm y8 1) fun y10=>
 bind (bop .int .eql y6 (Value.int .i64 10)) fun y11=>
 cnd y11
 (bind (ldA 2 y1) fun y12=>
 bind (stA 2 y2 y12) fun _=>
 bind (ldA 2 y2) fun y13=>
 ret (Value.tuple #[y13,y6]))
 (bind (bop .str .neq x2 (Value.string ⟨#[]⟩)) fun y14=>
 bind (ZH y14 true 2 (bind (uop .not y10) fun y15=>
 ret [y10,y15])) (c2 fun _ q16_1=>
 bind (pick y14 q16_1 (Value.bool false)) fun y17=>
 cnd y17
 (bind (ldA 2 y1) fun y18=>
 bind (stA 2 y2 y18) fun _=>
 bind (ldA 2 y2) fun y19=>
 ret (Value.tuple #[y19,(Value.int .i64 11)]))
 (bind (bop .int .neq y6 (Value.int .i64 0)) fun y20=>
 cnd y20
 (bind (ldA 2 y1) fun y21=>
 bind (stA 2 y2 y21) fun _=>
 bind (ldA 2 y2) fun y22=>
 ret (Value.tuple #[y22,y6]))
 (bind (fa 0 y1) fun y23=>
 bind (ld1 y23) fun y24=>
 bind (Zy y24) fun y25=>
 jn (Zi (c8 (Qv.l1 Γ)) [x1,y1,y2,y7,y9,y24,y25,(Value.int .i64 0)]) noN (xk 0 (c4 fun q45_0 q45_1 q45_2 q45_3=>
 bind (fa 2 q45_2) fun y46=>
 bind (st1 y46 q45_3) fun _=>
 bind (ldA 2 q45_0) fun y47=>
 bind (ldA 5 q45_2) fun y48=>
 bind (Γ WN [y47,y48]) fun y49=>
 bind (stA 2 q45_1 y49) fun _=>
 bind (ldA 2 q45_1) fun y50=>
 ret (Value.tuple #[y50,(Value.int .i64 0)])) noX) ret))))
theorem ZpX (Γ : Zc) (x0 x1 x2 : Value) : Zz Tryz.prog Γ Tryz.f71 Zh2 [x0,x1,x2]=Qv Γ x0 x1 x2:=by kernel_rfl
theorem Zob {prim : FuncId→Option (List Value→M Value)} (hp : prim ZaL=none) (n : Nat) (x0 x1 x2 : Value) : run Tryz.prog prim lvs (n+1) ZaL [x0,x1,x2]=Qv (run Tryz.prog prim lvs n) x0 x1 x2:=
 (Zl hp (by kernel_rfl) Tryz.func71 (by kernel_rfl)).trans (ZpX _ x0 x1 x2)
noncomputable def Kn (Γ : Zc) (x0 x1 x2 : Value) : M Value:=
 bind (Γ QY [x0,x1]) fun y1=>
 bind (Zm y1 0) fun y2=>
 bind (Zm y1 1) fun y3=>
 bind (alc 1 (.agg #[.string ⟨#[]⟩,.bool false])) fun y4=>
 bind (stA 2 y4 y2) fun _=>
 bind (Γ Zbu [x2]) fun y5=>
 bind (Zm y5 0) fun y6=>
 bind (Zm y5 1) fun y7=>
 bind (bop .int .eql y3 (Value.int .i64 10)) fun y8=>
 cnd y8
 (ret y3)
 (bind (bop .str .neq x2 (Value.string ⟨#[]⟩)) fun y9=>
 bind (ZH y9 true 2 (bind (bop .int .neq y7 (Value.int .i64 0)) fun y10=>
 ret [y7,y10])) (c2 fun _ q11_1=>
 bind (pick y9 q11_1 (Value.bool false)) fun y12=>
 cnd y12
 (ret y7)
 (bind (bop .int .neq y3 (Value.int .i64 0)) fun y13=>
 cnd y13
 (ret y3)
 (bind (Qc x0) fun y14=>
 bind (fa 1 y14) fun y15=>
 bind (ld1 y15) fun y16=>
 bind (Γ Kf [y16,x1,x2]) fun y17=>
 ret y17))))
theorem ZlB (Γ : Zc) (x0 x1 x2 : Value) : Zz Tryz.prog Γ Tryz.f72 ZfI [x0,x1,x2]=Kn Γ x0 x1 x2:=by kernel_rfl
theorem Zj7 {prim : FuncId→Option (List Value→M Value)} (hp : prim YH=none) (n : Nat) (x0 x1 x2 : Value) : run Tryz.prog prim lvs (n+1) YH [x0,x1,x2]=Kn (run Tryz.prog prim lvs n) x0 x1 x2:=
 (Zl hp (by kernel_rfl) Tryz.func72 (by kernel_rfl)).trans (ZlB _ x0 x1 x2)
noncomputable def ZaE (Γ : Zc) (x0 x1 x2 : Value) : M Value:=
 bind (alc 1 x0) fun y1=>
 bind (alc 1 (.agg #[.slice none 0 0,.slice none 0 0])) fun y2=>
 bind (ldA 2 y1) fun y3=>
 bind (Γ J7 [y3,x1]) fun y4=>
 bind (Zm y4 0) fun y5=>
 bind (Zm y4 1) fun y6=>
 bind (alc 1 (.agg #[.string ⟨#[]⟩,.string ⟨#[]⟩,.string ⟨#[]⟩,.bool false,.slice none 0 0])) fun y7=>
 bind (stA 5 y7 y5) fun _=>
 bind (bop .int .neq y6 (Value.int .i64 0)) fun y8=>
 cnd y8
 (bind (ldA 2 y1) fun y9=>
 bind (stA 2 y2 y9) fun _=>
 bind (ldA 2 y2) fun y10=>
 ret (Value.tuple #[y10,y6]))
 (bind (fa 3 y7) fun y11=>
 bind (ld1 y11) fun y12=>
 bind (bop .bool .eql y12 x2) fun y13=>
 cnd y13
 (bind (ldA 2 y1) fun y14=>
 bind (stA 2 y2 y14) fun _=>
 bind (ldA 2 y2) fun y15=>
 ret (Value.tuple #[y15,(Value.int .i64 12)]))
 (bind (fa 3 y7) fun y16=>
 bind (st1 y16 x2) fun _=>
 bind (ldA 2 y1) fun y17=>
 bind (ldA 5 y7) fun y18=>
 bind (Γ WN [y17,y18]) fun y19=>
 bind (stA 2 y2 y19) fun _=>
 bind (ldA 2 y2) fun y20=>
 ret (Value.tuple #[y20,(Value.int .i64 0)])))
theorem ZoT (Γ : Zc) (x0 x1 x2 : Value) : Zz Tryz.prog Γ Tryz.f73 ZhX [x0,x1,x2]=ZaE Γ x0 x1 x2:=by kernel_rfl
theorem ZnO {prim : FuncId→Option (List Value→M Value)} (hp : prim ZaK=none) (n : Nat) (x0 x1 x2 : Value) : run Tryz.prog prim lvs (n+1) ZaK [x0,x1,x2]=ZaE (run Tryz.prog prim lvs n) x0 x1 x2:=
 (Zl hp (by kernel_rfl) Tryz.func73 (by kernel_rfl)).trans (ZoT _ x0 x1 x2)
noncomputable def Wl (Γ : Zc) (x0 x1 x2 : Value) : M Value:=
 bind (Γ QY [x0,x1]) fun y1=>
 bind (Zm y1 0) fun y2=>
 bind (Zm y1 1) fun y3=>
 bind (alc 1 (.agg #[.string ⟨#[]⟩,.bool false])) fun y4=>
 bind (stA 2 y4 y2) fun _=>
 bind (bop .int .neq y3 (Value.int .i64 0)) fun y5=>
 cnd y5
 (ret y3)
 (bind (fa 1 y4) fun y6=>
 bind (ld1 y6) fun y7=>
 bind (bop .bool .eql y7 x2) fun y8=>
 cnd y8
 (ret (Value.int .i64 12))
 (bind (fa 1 y4) fun y9=>
 bind (st1 y9 x2) fun _=>
 bind (Qc x0) fun y10=>
 bind (fa 0 y10) fun y11=>
 bind (ld1 y11) fun y12=>
 bind (ldA 2 y4) fun y13=>
 bind (mup .str y12 x1 y13) fun _=>
 ret (Value.int .i64 0)))
theorem ZkA (Γ : Zc) (x0 x1 x2 : Value) : Zz Tryz.prog Γ Tryz.f74 Zf5 [x0,x1,x2]=Wl Γ x0 x1 x2:=by kernel_rfl
theorem Zki {prim : FuncId→Option (List Value→M Value)} (hp : prim Wo=none) (n : Nat) (x0 x1 x2 : Value) : run Tryz.prog prim lvs (n+1) Wo [x0,x1,x2]=Wl (run Tryz.prog prim lvs n) x0 x1 x2:=
 (Zl hp (by kernel_rfl) Tryz.func74 (by kernel_rfl)).trans (ZkA _ x0 x1 x2)
noncomputable def Zcs (Γ : Zc) (x0 x1 x2 : Value) : M Value:=
 bind (alc 1 x0) fun y1=>
 bind (alc 1 (.agg #[.slice none 0 0,.slice none 0 0])) fun y2=>
 bind (ldA 2 y1) fun y3=>
 bind (Γ J7 [y3,x1]) fun y4=>
 bind (Zm y4 0) fun y5=>
 bind (Zm y4 1) fun y6=>
 bind (alc 1 (.agg #[.string ⟨#[]⟩,.string ⟨#[]⟩,.string ⟨#[]⟩,.bool false,.slice none 0 0])) fun y7=>
 bind (stA 5 y7 y5) fun _=>
 bind (ldA 2 y1) fun y8=>
 bind (Γ J7 [y8,x2]) fun y9=>
 bind (Zm y9 0) fun y10=>
 bind (Zm y9 1) fun y11=>
 bind (alc 1 (.agg #[.string ⟨#[]⟩,.string ⟨#[]⟩,.string ⟨#[]⟩,.bool false,.slice none 0 0])) fun y12=>
 bind (stA 5 y12 y10) fun _=>
 bind (bop .int .eql y6 (Value.int .i64 10)) fun y13=>
 bind (ZH y13 false 2 (bind (bop .int .eql y11 (Value.int .i64 10)) fun y14=>
 ret [y11,y14])) (c2 fun _ q15_1=>
 bind (pick y13 (Value.bool true) q15_1) fun y16=>
 cnd y16
 (bind (ldA 2 y1) fun y17=>
 bind (stA 2 y2 y17) fun _=>
 bind (ldA 2 y2) fun y18=>
 ret (Value.tuple #[y18,(Value.int .i64 10)]))
 (bind (bop .int .neq y6 (Value.int .i64 0)) fun y19=>
 cnd y19
 (bind (ldA 2 y1) fun y20=>
 bind (stA 2 y2 y20) fun _=>
 bind (ldA 2 y2) fun y21=>
 ret (Value.tuple #[y21,y6]))
 (bind (bop .int .eql y11 (Value.int .i64 0)) fun y22=>
 cnd y22
 (bind (ldA 2 y1) fun y23=>
 bind (stA 2 y2 y23) fun _=>
 bind (ldA 2 y2) fun y24=>
 ret (Value.tuple #[y24,(Value.int .i64 9)]))
 (bind (fa 0 y7) fun y25=>
 bind (st1 y25 x2) fun _=>
 bind (fa 0 y1) fun y26=>
 bind (ld1 y26) fun y27=>
 bind (ldA 5 y7) fun y28=>
 bind (Γ ZbC [y27,x1]) fun y29=>
 bind (ldA 5 y7) fun u_30=>same u_30 y28 <|
 bind (Γ Zat [y29,y28]) fun y31=>
 bind (fa 0 y1) fun y32=>
 bind (st1 y32 y31) fun _=>
 bind (ldA 2 y1) fun y33=>
 bind (stA 2 y2 y33) fun _=>
 bind (ldA 2 y2) fun y34=>
 ret (Value.tuple #[y34,(Value.int .i64 0)])))))
theorem Zqf (Γ : Zc) (x0 x1 x2 : Value) : Zz Tryz.prog Γ Tryz.f75 ZiN [x0,x1,x2]=Zcs Γ x0 x1 x2:=by kernel_rfl
theorem Zpy {prim : FuncId→Option (List Value→M Value)} (hp : prim Za7=none) (n : Nat) (x0 x1 x2 : Value) : run Tryz.prog prim lvs (n+1) Za7 [x0,x1,x2]=Zcs (run Tryz.prog prim lvs n) x0 x1 x2:=
 (Zl hp (by kernel_rfl) Tryz.func75 (by kernel_rfl)).trans (Zqf _ x0 x1 x2)
noncomputable def ZaN (Γ : Zc) (x0 x1 x2 : Value) : M Value:=
 bind (Γ QY [x0,x1]) fun y1=>
 bind (Zm y1 0) fun y2=>
 bind (Zm y1 1) fun y3=>
 bind (alc 1 (.agg #[.string ⟨#[]⟩,.bool false])) fun y4=>
 bind (stA 2 y4 y2) fun _=>
 bind (Γ QY [x0,x2]) fun y5=>
 bind (Zm y5 0) fun y6=>
 bind (Zm y5 1) fun y7=>
 bind (alc 1 (.agg #[.string ⟨#[]⟩,.bool false])) fun y8=>
 bind (stA 2 y8 y6) fun _=>
 bind (bop .int .eql y3 (Value.int .i64 10)) fun y9=>
 bind (ZH y9 false 2 (bind (bop .int .eql y7 (Value.int .i64 10)) fun y10=>
 ret [y7,y10])) (c2 fun _ q11_1=>
 bind (pick y9 (Value.bool true) q11_1) fun y12=>
 cnd y12
 (ret (Value.int .i64 10))
 (bind (bop .int .neq y3 (Value.int .i64 0)) fun y13=>
 cnd y13
 (ret y3)
 (bind (bop .int .eql y7 (Value.int .i64 0)) fun y14=>
 cnd y14
 (ret (Value.int .i64 9))
 (bind (Qc x0) fun y15=>
 bind (fa 0 y15) fun y16=>
 bind (ld1 y16) fun y17=>
 bind (mde .str y17 x1) fun _=>
 bind (Qc x0) fun y18=>
 bind (fa 0 y18) fun y19=>
 bind (ld1 y19) fun y20=>
 bind (ldA 2 y4) fun y21=>
 bind (mup .str y20 x2 y21) fun _=>
 bind (Qc x0) fun y22=>
 bind (fa 1 y22) fun y23=>
 bind (ld1 y23) fun y24=>
 bind (Γ Wm [y24,x1,x2]) fun y25=>
 bind (Qc x0) fun y26=>
 bind (fa 2 y26) fun y27=>
 bind (ld1 y27) fun y28=>
 bind (Γ Kx [y28,x1,x2]) fun y29=>
 ret (Value.int .i64 0)))))
theorem ZmV (Γ : Zc) (x0 x1 x2 : Value) : Zz Tryz.prog Γ Tryz.f76 Zgy [x0,x1,x2]=ZaN Γ x0 x1 x2:=by kernel_rfl
theorem Zme {prim : FuncId→Option (List Value→M Value)} (hp : prim WC=none) (n : Nat) (x0 x1 x2 : Value) : run Tryz.prog prim lvs (n+1) WC [x0,x1,x2]=ZaN (run Tryz.prog prim lvs n) x0 x1 x2:=
 (Zl hp (by kernel_rfl) Tryz.func76 (by kernel_rfl)).trans (ZmV _ x0 x1 x2)
noncomputable def Zd7 (Γ : Zc) (x0 x1 : Value) : M Value:=
 bind (alc 1 x0) fun y1=>
 bind (alc 1 (.agg #[.slice none 0 0,.slice none 0 0])) fun y2=>
 bind (fa 1 y1) fun y3=>
 bind (ld1 y3) fun y4=>
 bind (bld (.agg #[.slice none 0 0,.slice none 0 0]) [(0,1,y4)]) fun y5=>
 bind (Γ ZdE [y5,x1]) fun y6=>
 bind (Zm y6 0) fun y7=>
 bind (Zm y6 1) fun y8=>
 bind (alc 1 (.agg #[.slice none 0 0,.slice none 0 0])) fun y9=>
 bind (stA 2 y9 y7) fun _=>
 bind (fa 0 y9) fun y10=>
 bind (ld1 y10) fun y11=>
 bind (fa 1 y1) fun y12=>
 bind (st1 y12 y11) fun _=>
 bind (ldA 2 y1) fun y13=>
 bind (stA 2 y2 y13) fun _=>
 bind (ldA 2 y2) fun y14=>
 ret (Value.tuple #[y14,y8])
theorem ZmC (Γ : Zc) (x0 x1 : Value) : Zz Tryz.prog Γ Tryz.f77 Zgs [x0,x1]=Zd7 Γ x0 x1:=by kernel_rfl
theorem Zlx {prim : FuncId→Option (List Value→M Value)} (hp : prim ZaO=none) (n : Nat) (x0 x1 : Value) : run Tryz.prog prim lvs (n+1) ZaO [x0,x1]=Zd7 (run Tryz.prog prim lvs n) x0 x1:=
 (Zl hp (by kernel_rfl) Tryz.func77 (by kernel_rfl)).trans (ZmC _ x0 x1)
noncomputable def ZcK (Γ : Zc) (x0 x1 : Value) : M Value:=
 bind (Qc x0) fun y1=>
 bind (fa 2 y1) fun y2=>
 bind (ld1 y2) fun y3=>
 bind (Γ Yk [y3,x1]) fun y4=>
 ret y4
theorem Zjn (Γ : Zc) (x0 x1 : Value) : Zz Tryz.prog Γ Tryz.f78 Zez [x0,x1]=ZcK Γ x0 x1:=by kernel_rfl
theorem Zio {prim : FuncId→Option (List Value→M Value)} (hp : prim Wy=none) (n : Nat) (x0 x1 : Value) : run Tryz.prog prim lvs (n+1) Wy [x0,x1]=ZcK (run Tryz.prog prim lvs n) x0 x1:=
 (Zl hp (by kernel_rfl) Tryz.func78 (by kernel_rfl)).trans (Zjn _ x0 x1)
noncomputable def JD.l1 (Γ : Zc) (s1 s2 s4 s8 s27 s28 s29 : Value) : M Out:=
 bind (bop .int .lss s29 s28) fun y19=>
 cnd y19
 (bind (ixa 5 s27 s29) fun y20=>
 bind (ldA 5 y20) fun y21=>
 bind (alc 1 (.agg #[.string ⟨#[]⟩,.string ⟨#[]⟩,.string ⟨#[]⟩,.bool false,.slice none 0 0])) fun y22=>
 bind (stA 5 y22 y21) fun _=>
 bind (fa 4 y22) fun y23=>
 bind (ld1 y23) fun y24=>
 bind (Γ ZaF [y24,s1]) fun y25=>
 bind (fa 4 y22) fun y26=>
 bind (st1 y26 y25) fun _=>
 bind (ldA 5 y22) fun y27=>
 bind (bsl 5 1 (.agg #[.string ⟨#[]⟩,.string ⟨#[]⟩,.string ⟨#[]⟩,.bool false,.slice none 0 0]) [(0,5,y27)]) fun y28=>
 bind (app 5 80 s8 y28) fun y29=>
 bind (bop .int .add s29 (Value.int .i64 1)) fun y30=>
 ret (.nrm [s1,s2,s4,y29,s27,s28,y30]))
 (ret (.ext 0 [s2,s4,s8]))
noncomputable def JD (Γ : Zc) (x0 x1 : Value) : M Value:=
 bind (alc 1 x0) fun y1=>
 bind (alc 1 (.agg #[.slice none 0 0,.slice none 0 0])) fun y2=>
 bind (fa 1 y1) fun y3=>
 bind (ld1 y3) fun y4=>
 bind (bld (.agg #[.slice none 0 0,.slice none 0 0]) [(0,1,y4)]) fun y5=>
 bind (Γ ZdF [y5,x1]) fun y6=>
 bind (Zm y6 0) fun y7=>
 bind (Zm y6 1) fun y8=>
 bind (alc 1 (.agg #[.slice none 0 0,.slice none 0 0])) fun y9=>
 bind (stA 2 y9 y7) fun _=>
 bind (bop .int .neq y8 (Value.int .i64 0)) fun y10=>
 cnd y10
 (bind (ldA 2 y1) fun y11=>
 bind (stA 2 y2 y11) fun _=>
 bind (ldA 2 y2) fun y12=>
 ret (Value.tuple #[y12,y8]))
 (bind (fa 0 y9) fun y13=>
 bind (ld1 y13) fun y14=>
 bind (fa 1 y1) fun y15=>
 bind (st1 y15 y14) fun _=>
 bind (fa 0 y1) fun y16=>
 bind (ld1 y16) fun y17=>
 bind (Zy y17) fun y18=>
 jn (Zi (c7 (JD.l1 Γ)) [x1,y1,y2,(Value.slice none 0 0),y17,y18,(Value.int .i64 0)]) noN (xk 0 (c3 fun q32_0 q32_1 q32_2=>
 bind (fa 0 q32_0) fun y33=>
 bind (st1 y33 q32_2) fun _=>
 bind (ldA 2 q32_0) fun y34=>
 bind (stA 2 q32_1 y34) fun _=>
 bind (ldA 2 q32_1) fun y35=>
 ret (Value.tuple #[y35,(Value.int .i64 0)])) noX) ret)
theorem ZmJ (Γ : Zc) (x0 x1 : Value) : Zz Tryz.prog Γ Tryz.f79 Zgz [x0,x1]=JD Γ x0 x1:=by kernel_rfl
theorem ZlW {prim : FuncId→Option (List Value→M Value)} (hp : prim WI=none) (n : Nat) (x0 x1 : Value) : run Tryz.prog prim lvs (n+1) WI [x0,x1]=JD (run Tryz.prog prim lvs n) x0 x1:=
 (Zl hp (by kernel_rfl) Tryz.func79 (by kernel_rfl)).trans (ZmJ _ x0 x1)
noncomputable def ZcJ (Γ : Zc) (x0 x1 : Value) : M Value:=
 bind (Qc x0) fun y1=>
 bind (fa 2 y1) fun y2=>
 bind (ld1 y2) fun y3=>
 bind (Γ Wp [y3,x1]) fun y4=>
 ret y4
theorem Zjc (Γ : Zc) (x0 x1 : Value) : Zz Tryz.prog Γ Tryz.f80 ZeY [x0,x1]=ZcJ Γ x0 x1:=by kernel_rfl
theorem Ziy {prim : FuncId→Option (List Value→M Value)} (hp : prim YL=none) (n : Nat) (x0 x1 : Value) : run Tryz.prog prim lvs (n+1) YL [x0,x1]=ZcJ (run Tryz.prog prim lvs n) x0 x1:=
 (Zl hp (by kernel_rfl) Tryz.func80 (by kernel_rfl)).trans (Zjc _ x0 x1)
noncomputable def Zcz (Γ : Zc) (x0 x1 x2 : Value) : M Value:=
 bind (alc 1 x0) fun y1=>
 bind (alc 1 (.agg #[.slice none 0 0,.slice none 0 0])) fun y2=>
 bind (ldA 2 y1) fun y3=>
 bind (Γ Zbd [y3,x1,x2]) fun y4=>
 bind (Zm y4 0) fun y5=>
 bind (Zm y4 1) fun y6=>
 bind (alc 1 (.agg #[.string ⟨#[]⟩,.string ⟨#[]⟩,.string ⟨#[]⟩,.bool false,.slice none 0 0])) fun y7=>
 bind (stA 5 y7 y5) fun _=>
 bind (bop .int .neq y6 (Value.int .i64 0)) fun y8=>
 cnd y8
 (bind (ldA 2 y1) fun y9=>
 bind (stA 2 y2 y9) fun _=>
 bind (ldA 2 y2) fun y10=>
 ret (Value.tuple #[y10,y6]))
 (bind (fa 4 y7) fun y11=>
 bind (ld1 y11) fun y12=>
 bind (Γ Wa [y12,x1]) fun y13=>
 cnd y13
 (bind (ldA 2 y1) fun y14=>
 bind (stA 2 y2 y14) fun _=>
 bind (ldA 2 y2) fun y15=>
 ret (Value.tuple #[y15,(Value.int .i64 9)]))
 (bind (bsl 1 0 (.string ⟨#[]⟩) []) fun y16=>
 bind (fa 4 y7) fun y17=>
 bind (ld1 y17) fun y18=>
 bind (app 1 16 y16 y18) fun y19=>
 bind (bsl 1 1 (.string ⟨#[]⟩) [(0,1,x1)]) fun y20=>
 bind (app 1 16 y19 y20) fun y21=>
 bind (Γ W8 [y21]) fun y22=>
 bind (fa 4 y7) fun y23=>
 bind (st1 y23 y22) fun _=>
 bind (ldA 2 y1) fun y24=>
 bind (ldA 5 y7) fun y25=>
 bind (Γ WN [y24,y25]) fun y26=>
 bind (stA 2 y2 y26) fun _=>
 bind (ldA 2 y2) fun y27=>
 ret (Value.tuple #[y27,(Value.int .i64 0)])))
theorem Zuy (Γ : Zc) (x0 x1 x2 : Value) : Zz Tryz.prog Γ Tryz.f81 Zlf [x0,x1,x2]=Zcz Γ x0 x1 x2:=by kernel_rfl
theorem Zsd {prim : FuncId→Option (List Value→M Value)} (hp : prim Zcw=none) (n : Nat) (x0 x1 x2 : Value) : run Tryz.prog prim lvs (n+1) Zcw [x0,x1,x2]=Zcz (run Tryz.prog prim lvs n) x0 x1 x2:=
 (Zl hp (by kernel_rfl) Tryz.func81 (by kernel_rfl)).trans (Zuy _ x0 x1 x2)
noncomputable def Zb3 (Γ : Zc) (x0 x1 x2 : Value) : M Value:=
 bind (Γ WF [x0,x1,x2]) fun y1=>
 bind (bop .int .neq y1 (Value.int .i64 0)) fun y2=>
 cnd y2
 (ret y1)
 (bind (Qc x0) fun y3=>
 bind (fa 2 y3) fun y4=>
 bind (ld1 y4) fun y5=>
 bind (Γ YJ [y5,x1,x2]) fun y6=>
 ret y6)
theorem ZpP (Γ : Zc) (x0 x1 x2 : Value) : Zz Tryz.prog Γ Tryz.f82 ZhN [x0,x1,x2]=Zb3 Γ x0 x1 x2:=by kernel_rfl
theorem Zoa {prim : FuncId→Option (List Value→M Value)} (hp : prim ZaG=none) (n : Nat) (x0 x1 x2 : Value) : run Tryz.prog prim lvs (n+1) ZaG [x0,x1,x2]=Zb3 (run Tryz.prog prim lvs n) x0 x1 x2:=
 (Zl hp (by kernel_rfl) Tryz.func82 (by kernel_rfl)).trans (ZpP _ x0 x1 x2)
noncomputable def ZbR (Γ : Zc) (x0 x1 x2 : Value) : M Value:=
 bind (alc 1 x0) fun y1=>
 bind (alc 1 (.agg #[.slice none 0 0,.slice none 0 0])) fun y2=>
 bind (ldA 2 y1) fun y3=>
 bind (Γ Zbd [y3,x1,x2]) fun y4=>
 bind (Zm y4 0) fun y5=>
 bind (Zm y4 1) fun y6=>
 bind (alc 1 (.agg #[.string ⟨#[]⟩,.string ⟨#[]⟩,.string ⟨#[]⟩,.bool false,.slice none 0 0])) fun y7=>
 bind (stA 5 y7 y5) fun _=>
 bind (bop .int .neq y6 (Value.int .i64 0)) fun y8=>
 cnd y8
 (bind (ldA 2 y1) fun y9=>
 bind (stA 2 y2 y9) fun _=>
 bind (ldA 2 y2) fun y10=>
 ret (Value.tuple #[y10,y6]))
 (bind (fa 4 y7) fun y11=>
 bind (ld1 y11) fun y12=>
 bind (Γ Wa [y12,x1]) fun y13=>
 bind (uop .not y13) fun y14=>
 cnd y14
 (bind (ldA 2 y1) fun y15=>
 bind (stA 2 y2 y15) fun _=>
 bind (ldA 2 y2) fun y16=>
 ret (Value.tuple #[y16,(Value.int .i64 12)]))
 (bind (fa 4 y7) fun y17=>
 bind (ld1 y17) fun y18=>
 bind (Γ ZaF [y18,x1]) fun y19=>
 bind (fa 4 y7) fun y20=>
 bind (st1 y20 y19) fun _=>
 bind (ldA 2 y1) fun y21=>
 bind (ldA 5 y7) fun y22=>
 bind (Γ WN [y21,y22]) fun y23=>
 bind (stA 2 y2 y23) fun _=>
 bind (ldA 2 y2) fun y24=>
 ret (Value.tuple #[y24,(Value.int .i64 0)])))
theorem Zr6 (Γ : Zc) (x0 x1 x2 : Value) : Zz Tryz.prog Γ Tryz.f83 ZjV [x0,x1,x2]=ZbR Γ x0 x1 x2:=by kernel_rfl
theorem ZqY {prim : FuncId→Option (List Value→M Value)} (hp : prim Zb2=none) (n : Nat) (x0 x1 x2 : Value) : run Tryz.prog prim lvs (n+1) Zb2 [x0,x1,x2]=ZbR (run Tryz.prog prim lvs n) x0 x1 x2:=
 (Zl hp (by kernel_rfl) Tryz.func83 (by kernel_rfl)).trans (Zr6 _ x0 x1 x2)
noncomputable def Zbm (Γ : Zc) (x0 x1 x2 : Value) : M Value:=
 bind (Γ WF [x0,x1,x2]) fun y1=>
 bind (bop .int .neq y1 (Value.int .i64 0)) fun y2=>
 cnd y2
 (ret y1)
 (bind (Qc x0) fun y3=>
 bind (fa 2 y3) fun y4=>
 bind (ld1 y4) fun y5=>
 bind (Γ K0 [y5,x1,x2]) fun y6=>
 ret y6)
theorem ZnI (Γ : Zc) (x0 x1 x2 : Value) : Zz Tryz.prog Γ Tryz.f84 Zhk [x0,x1,x2]=Zbm Γ x0 x1 x2:=by kernel_rfl
theorem Zmx {prim : FuncId→Option (List Value→M Value)} (hp : prim W1=none) (n : Nat) (x0 x1 x2 : Value) : run Tryz.prog prim lvs (n+1) W1 [x0,x1,x2]=Zbm (run Tryz.prog prim lvs n) x0 x1 x2:=
 (Zl hp (by kernel_rfl) Tryz.func84 (by kernel_rfl)).trans (ZnI _ x0 x1 x2)
noncomputable def Zfy (Γ : Zc) (x0 : Value) : M Value:=
 bind (Qc x0) fun y1=>
 bind (fa 0 y1) fun y2=>
 bind (ld1 y2) fun y3=>
 bind (Qc x0) fun y4=>
 bind (fa 1 y4) fun y5=>
 bind (ld1 y5) fun y6=>
 bind (Qc x0) fun y7=>
 bind (fa 2 y7) fun y8=>
 bind (ld1 y8) fun y9=>
 bind (Γ Ju [y3]) fun y10=>
 bind (ld1 y8) fun u_11=>same u_11 y9 <|
 bind (ld1 y5) fun u_12=>same u_12 y6 <|
 bind (Γ Zbg [y6]) fun y13=>
 bind (ld1 y8) fun u_14=>same u_14 y9 <|
 bind (Γ Zad [y9]) fun y15=>
 bind (bld (.agg #[.map none,.pointer none,.pointer none]) [(0,1,y10),(1,1,y13),(2,1,y15)]) fun y16=>
 bind (alc 1 y16) fun y17=>
 ret y17
theorem ZoK (Γ : Zc) (x0 : Value) : Zz Tryz.prog Γ Tryz.f85 ZhG [x0]=Zfy Γ x0:=by kernel_rfl
theorem ZnK {prim : FuncId→Option (List Value→M Value)} (hp : prim ZbX=none) (n : Nat) (x0 : Value) : run Tryz.prog prim lvs (n+1) ZbX [x0]=Zfy (run Tryz.prog prim lvs n) x0:=
 (Zl hp (by kernel_rfl) Tryz.func85 (by kernel_rfl)).trans (ZoK _ x0)
noncomputable def ZpT.l1 (Γ : Zc) (s3 s10 s11 s12 : Value) : M Out:=
 bind (bop .int .lss s12 s11) fun y5=>
 cnd y5
 (bind (ixa 1 s10 s12) fun y6=>
 bind (ld1 y6) fun y7=>
 bind (Γ ZuW [y7]) fun y8=>
 bind (bop .str .add s3 y8) fun y9=>
 bind (bop .int .add s12 (Value.int .i64 1)) fun y10=>
 ret (.nrm [y9,s10,s11,y10]))
 (ret (.ext 0 [s3]))
noncomputable def ZpT (Γ : Zc) (x0 : Value) : M Value:=
 bind (Zy x0) fun y1=>
 bind (cvi .u64 y1) fun y2=>
 bind (Γ ZoX [y2,(Value.int .i64 2)]) fun y3=>
 bind (Zy x0) fun y4=>
 jn (Zi (c4 (ZpT.l1 Γ)) [y3,x0,y4,(Value.int .i64 0)]) noN (xk 0 (c1 fun q12_0=>
 ret q12_0) noX) ret
noncomputable def ZkC.l1 (Γ : Zc) (s0 s5 s12 s13 s14 : Value) : M Out:=
 bind (bop .int .lss s14 s13) fun y5=>
 cnd y5
 (bind (ixa 5 s12 s14) fun y6=>
 bind (ldA 5 y6) fun y7=>
 bind (alc 1 (.agg #[.string ⟨#[]⟩,.string ⟨#[]⟩,.string ⟨#[]⟩,.bool false,.slice none 0 0])) fun y8=>
 bind (stA 5 y8 y7) fun _=>
 bind (ldA 5 y8) fun y9=>
 bind (Γ ZuO [s0,y9]) fun y10=>
 bind (bop .str .add s5 y10) fun y11=>
 bind (bop .int .add s14 (Value.int .i64 1)) fun y12=>
 ret (.nrm [s0,y11,s12,s13,y12]))
 (ret (.ext 0 [s5]))
noncomputable def ZkC (Γ : Zc) (x0 x1 : Value) : M Value:=
 bind (Zy x1) fun y1=>
 bind (cvi .u64 y1) fun y2=>
 bind (Γ ZoX [y2,(Value.int .i64 2)]) fun y3=>
 bind (Zy x1) fun y4=>
 jn (Zi (c5 (ZkC.l1 Γ)) [x0,y3,x1,y4,(Value.int .i64 0)]) noN (xk 0 (c1 fun q14_0=>
 ret q14_0) noX) ret
noncomputable def ZeA (Γ : Zc) (x0 : Value) : M Value:=
 bind (bop .slc .eql x0 (Value.slice none 0 0)) fun y1=>
 cnd y1
 (ret (Value.slice none 0 0))
 (bind (bsl 1 0 (.int .u8 0) []) fun y2=>
 bind (app 1 1 y2 x0) fun y3=>
 ret y3)
theorem ZrL (Γ : Zc) (x0 : Value) : Zz Tryz.prog Γ Tryz.f88 ZjT [x0]=ZeA Γ x0:=by kernel_rfl
theorem Zqs {prim : FuncId→Option (List Value→M Value)} (hp : prim Zc2=none) (n : Nat) (x0 : Value) : run Tryz.prog prim lvs (n+1) Zc2 [x0]=ZeA (run Tryz.prog prim lvs n) x0:=
 (Zl hp (by kernel_rfl) Tryz.func88 (by kernel_rfl)).trans (ZrL _ x0)
noncomputable def ZoU.l1 (Γ : Zc) (s4 s7 s29 s30 : Value) : M Out:=
 bind (bop .int .lss s30 s29) fun y13=>
 cnd y13
 (bind (Γ ZcY [s4,(Value.int .i64 1)]) fun y14=>
 bind (bsl 5 1 (.agg #[.string ⟨#[]⟩,.string ⟨#[]⟩,.string ⟨#[]⟩,.bool false,.slice none 0 0]) [(0,5,y14)]) fun y15=>
 bind (app 5 80 s7 y15) fun y16=>
 bind (bop .int .add s30 (Value.int .i64 1)) fun y17=>
 ret (.nrm [s4,y16,s29,y17]))
 (ret (.ext 0 [s4,s7]))
noncomputable def ZoU (Γ : Zc) (x0 : Value) : M Value:=
 bind (Γ Zep [x0]) fun y1=>
 bind (Γ Ko [y1]) fun y2=>
 bind (Γ QM [y1]) fun y3=>
 bind (bop .int .eql y3 (Value.int .i64 0)) fun y4=>
 bind (ZH y4 true 2 (bind (bop .int .neq y2 (Value.int .u8 1)) fun y5=>
 ret [y2,y5])) (c2 fun _ q6_1=>
 bind (pick y4 q6_1 (Value.bool false)) fun y7=>
 cnd y7
 (ret (Value.tuple #[(Value.pointer none),(Value.int .i64 6)]))
 (bind (Γ KJ [y1]) fun y8=>
 bind (cvi .i64 y8) fun y9=>
 bind (bop .int .gtr y9 (Value.int .i64 12)) fun y10=>
 jn (cnd y10
 (bind (Γ Z6 [y1,(Value.int .i64 7)]) fun y11=>
 ret (.nrm [y1,(Value.int .i64 0)]))
 (ret (.nrm [y1,y9]))) (c2 fun q12_0 q12_1=>
 jn (Zi (c4 (ZoU.l1 Γ)) [q12_0,(Value.slice none 0 0),q12_1,(Value.int .i64 0)]) noN (xk 0 (c2 fun q19_0 q19_1=>
 bind (Γ QM [q19_0]) fun y20=>
 bind (bop .int .neq y20 (Value.int .i64 0)) fun y21=>
 cnd y21
 (ret (Value.tuple #[(Value.pointer none),y20]))
 (bind (Γ Zyz [q19_1]) fun y22=>
 bind (Zm y22 0) fun y23=>
 bind (Zm y22 1) fun y24=>
 bind (bop .int .eql y24 (Value.int .i64 0)) fun y25=>
 jn (cnd y25
 (bind (Γ KM [q19_0]) fun y26=>
 ret (.nrm [y23,y26]))
 (ret (.nrm [y23,y24]))) (c2 fun q27_0 q27_1=>
 bind (bop .int .neq q27_1 (Value.int .i64 0)) fun y28=>
 cnd y28
 (ret (Value.tuple #[(Value.pointer none),q27_1]))
 (ret (Value.tuple #[q27_0,(Value.int .i64 0)]))) noX ret)) noX) ret) noX ret))
noncomputable def ZrD.l1 (Γ : Zc) (s2 s3 s6 s7 s8 : Value) : M Out:=
 bind (bop .int .lss s8 s7) fun y3=>
 cnd y3
 (bind (ixa 5 s6 s8) fun y4=>
 bind (ldA 5 y4) fun y5=>
 bind (alc 1 (.agg #[.string ⟨#[]⟩,.string ⟨#[]⟩,.string ⟨#[]⟩,.bool false,.slice none 0 0])) fun y6=>
 bind (stA 5 y6 y5) fun _=>
 bind (fa 0 y6) fun y7=>
 bind (ld1 y7) fun y8=>
 bind (fa 1 y6) fun y9=>
 bind (ld1 y9) fun y10=>
 bind (bld (.agg #[.string ⟨#[]⟩,.string ⟨#[]⟩,.string ⟨#[]⟩,.bool false,.slice none 0 0]) [(0,1,y8),(1,1,y10)]) fun y11=>
 bind (bsl 5 1 (.agg #[.string ⟨#[]⟩,.string ⟨#[]⟩,.string ⟨#[]⟩,.bool false,.slice none 0 0]) [(0,5,y11)]) fun y12=>
 bind (app 5 80 s3 y12) fun y13=>
 bind (bop .int .add s8 (Value.int .i64 1)) fun y14=>
 ret (.nrm [s2,y13,s6,s7,y14]))
 (ret (.ext 0 [s2,s3]))
noncomputable def ZrD (Γ : Zc) (x0 : Value) : M Value:=
 bind (alc 1 (.agg #[.slice none 0 0,.slice none 0 0])) fun y1=>
 bind (Zy x0) fun y2=>
 jn (Zi (c5 (ZrD.l1 Γ)) [y1,(Value.slice none 0 0),x0,y2,(Value.int .i64 0)]) noN (xk 0 (c2 fun q16_0 q16_1=>
 bind (bld (.agg #[.slice none 0 0,.slice none 0 0]) [(0,1,q16_1)]) fun y17=>
 bind (stA 2 q16_0 y17) fun _=>
 bind (ldA 2 q16_0) fun y18=>
 ret y18) noX) ret
noncomputable def ZlR.l1 (Γ : Zc) (s5 s10 s11 s12 : Value) : M Out:=
 bind (bop .int .lss s12 s11) fun y3=>
 cnd y3
 (bind (ixa 1 s10 s12) fun y4=>
 bind (ld1 y4) fun y5=>
 bind (bop .int .eql s5 (Value.int .i64 0)) fun y6=>
 jn (cnd y6
 (bind (Jr Γ y5 []) fun y7=>
 ret (.nrm [y7,s10,s11,s12]))
 (ret (.nrm [s5,s10,s11,s12]))) (c4 fun q8_0 q8_1 q8_2 q8_3=>
 bind (bop .int .add q8_3 (Value.int .i64 1)) fun y9=>
 ret (.nrm [q8_0,q8_1,q8_2,y9])) noX ZX)
 (ret (.ext 0 [s5]))
noncomputable def ZlR (Γ : Zc) (x0 x1 : Value) : M Value:=
 bind (Γ Q9 [x0]) fun y1=>
 bind (Zy x1) fun y2=>
 jn (Zi (c4 (ZlR.l1 Γ)) [y1,x1,y2,(Value.int .i64 0)]) noN (xk 0 (c1 fun q12_0=>
 ret q12_0) noX) ret
noncomputable def ZaI (Γ : Zc) (x0 x1 : Value) : M Value:=
 bind (alc 1 (.agg #[.string ⟨#[]⟩,.bool false])) fun y1=>
 bind (Γ Q9 [x1]) fun y2=>
 bind (bop .int .neq y2 (Value.int .i64 0)) fun y3=>
 cnd y3
 (bind (bld (.agg #[.string ⟨#[]⟩,.bool false]) []) fun y4=>
 bind (stA 2 y1 y4) fun _=>
 bind (ldA 2 y1) fun y5=>
 ret (Value.tuple #[y5,y2]))
 (bind (Qc x0) fun y6=>
 bind (fa 0 y6) fun y7=>
 bind (ld1 y7) fun y8=>
 bind (lkp .str (.agg #[.string ⟨#[]⟩,.bool false]) true y8 x1) fun y9=>
 bind (Zm y9 0) fun y10=>
 bind (Zm y9 1) fun y11=>
 bind (alc 1 (.agg #[.string ⟨#[]⟩,.bool false])) fun y12=>
 bind (stA 2 y12 y10) fun _=>
 bind (uop .not y11) fun y13=>
 cnd y13
 (bind (bld (.agg #[.string ⟨#[]⟩,.bool false]) []) fun y14=>
 bind (stA 2 y1 y14) fun _=>
 bind (ldA 2 y1) fun y15=>
 ret (Value.tuple #[y15,(Value.int .i64 8)]))
 (bind (ldA 2 y12) fun y16=>
 bind (stA 2 y1 y16) fun _=>
 bind (ldA 2 y1) fun y17=>
 ret (Value.tuple #[y17,(Value.int .i64 0)])))
theorem ZpA (Γ : Zc) (x0 x1 : Value) : Zz Tryz.prog Γ Tryz.f99 ZhT [x0,x1]=ZaI Γ x0 x1:=by kernel_rfl
theorem Zoh {prim : FuncId→Option (List Value→M Value)} (hp : prim QY=none) (n : Nat) (x0 x1 : Value) : run Tryz.prog prim lvs (n+1) QY [x0,x1]=ZaI (run Tryz.prog prim lvs n) x0 x1:=
 (Zl hp (by kernel_rfl) Tryz.func99 (by kernel_rfl)).trans (ZpA _ x0 x1)
noncomputable def Zgd (Γ : Zc) (x0 x1 : Value) : M Value:=
 bind (Qc x0) fun y1=>
 bind (fa 1 y1) fun y2=>
 bind (ld1 y2) fun y3=>
 bind (lkp .str (.string ⟨#[]⟩) true y3 x1) fun y4=>
 bind (Zm y4 0) fun y5=>
 bind (Zm y4 1) fun y6=>
 ret (Value.tuple #[y5,y6])
theorem ZqL (Γ : Zc) (x0 x1 : Value) : Zz Tryz.prog Γ Tryz.f100 ZiJ [x0,x1]=Zgd Γ x0 x1:=by kernel_rfl
theorem Zoy {prim : FuncId→Option (List Value→M Value)} (hp : prim Zct=none) (n : Nat) (x0 x1 : Value) : run Tryz.prog prim lvs (n+1) Zct [x0,x1]=Zgd (run Tryz.prog prim lvs n) x0 x1:=
 (Zl hp (by kernel_rfl) Tryz.func100 (by kernel_rfl)).trans (ZqL _ x0 x1)
noncomputable def ZeC (Γ : Zc) (x0 x1 : Value) : M Value:=
 bind (alc 1 x0) fun y1=>
 bind (alc 1 x1) fun y2=>
 bind (ld1 y1) fun y3=>
 bind (Γ KS [y3]) fun y4=>
 bind (Γ Jb [y4,(Value.func (.func 166) #[] #[y1,y2])]) fun y5=>
 ret y5
theorem Zon (Γ : Zc) (x0 x1 : Value) : Zz Tryz.prog Γ Tryz.f101 Zg3 [x0,x1]=ZeC Γ x0 x1:=by kernel_rfl
theorem ZmK {prim : FuncId→Option (List Value→M Value)} (hp : prim J4=none) (n : Nat) (x0 x1 : Value) : run Tryz.prog prim lvs (n+1) J4 [x0,x1]=ZeC (run Tryz.prog prim lvs n) x0 x1:=
 (Zl hp (by kernel_rfl) Tryz.func101 (by kernel_rfl)).trans (Zon _ x0 x1)
noncomputable def Z3.l1 (Γ : Zc) (s0 s1 s5 s6 : Value) : M Out:=
 bind (Zy s0) fun y4=>
 bind (bop .int .lss s6 y4) fun y5=>
 cnd y5
 (bind (ixa 1 s0 s6) fun y6=>
 bind (ld1 y6) fun y7=>
 bind (Jr Γ s1 [y7]) fun y8=>
 bind (uop .not y8) fun y9=>
 jn (cnd y9
 (bind (ixa 1 s0 s5) fun y10=>
 bind (st1 y10 y7) fun _=>
 bind (bop .int .add s5 (Value.int .i64 1)) fun y11=>
 ret (.nrm [s0,s1,y11,s6]))
 (ret (.nrm [s0,s1,s5,s6]))) (c4 fun q12_0 q12_1 q12_2 q12_3=>
 bind (bop .int .add q12_3 (Value.int .i64 1)) fun y13=>
 ret (.nrm [q12_0,q12_1,q12_2,y13])) noX ZX)
 (ret (.ext 0 [s0,s5]))
noncomputable def Z3 (Γ : Zc) (x0 x1 : Value) : M Value:=
 bind (Γ Yi [x0,x1]) fun y1=>
 bind (bop .int .eql y1 (Value.int .i64 (-1))) fun y2=>
 cnd y2
 (ret x0)
 (bind (bop .int .add y1 (Value.int .i64 1)) fun y3=>
 jn (Zi (c4 (Z3.l1 Γ)) [x0,x1,y1,y3]) noN (xk 0 (c2 fun q16_0 q16_1=>
 bind (slv 1 q16_0 (some q16_1) none none) fun y17=>
 bind (clr (.string ⟨#[]⟩) 1 y17) fun _=>
 bind (slv 1 q16_0 none (some q16_1) none) fun y18=>
 ret y18) noX) ret)
theorem Zew (Γ : Zc) (x0 x1 : Value) : Zz Tryz.prog Γ Tryz.f103 Za5 [x0,x1]=Z3 Γ x0 x1:=by kernel_rfl
theorem ZdT {prim : FuncId→Option (List Value→M Value)} (hp : prim Jb=none) (n : Nat) (x0 x1 : Value) : run Tryz.prog prim lvs (n+1) Jb [x0,x1]=Z3 (run Tryz.prog prim lvs n) x0 x1:=
 (Zl hp (by kernel_rfl) Tryz.func103 (by kernel_rfl)).trans (Zew _ x0 x1)
noncomputable def Ze0 (Γ : Zc) (x0 : Value) : M Value:=
 bind (Qc x0) fun y1=>
 bind (fa 0 y1) fun y2=>
 bind (ld1 y2) fun y3=>
 bind (Γ QI [y3]) fun y4=>
 bind (Γ Yr [y4,(Value.func (.func 172) #[] #[])]) fun y5=>
 ret y5
theorem ZnU (Γ : Zc) (x0 : Value) : Zz Tryz.prog Γ Tryz.f107 Zhl [x0]=Ze0 Γ x0:=by kernel_rfl
theorem ZmA {prim : FuncId→Option (List Value→M Value)} (hp : prim Zbj=none) (n : Nat) (x0 : Value) : run Tryz.prog prim lvs (n+1) Zbj [x0]=Ze0 (run Tryz.prog prim lvs n) x0:=
 (Zl hp (by kernel_rfl) Tryz.func107 (by kernel_rfl)).trans (ZnU _ x0)
noncomputable def ZlC (Γ : Zc) : M Value:=
 bind (mkm) fun y1=>
 bind (mkm) fun y2=>
 bind (bld (.agg #[.map none,.map none]) [(0,1,y1),(1,1,y2)]) fun y3=>
 bind (alc 1 y3) fun y4=>
 ret y4
theorem Zwa (Γ : Zc) : Zz Tryz.prog Γ Tryz.f109 Zp1 []=ZlC Γ :=by kernel_rfl
theorem Zvg {prim : FuncId→Option (List Value→M Value)} (hp : prim ZhO=none) (n : Nat) : run Tryz.prog prim lvs (n+1) ZhO []=ZlC (run Tryz.prog prim lvs n) :=
 (Zl hp (by kernel_rfl) Tryz.func109 (by kernel_rfl)).trans (Zwa _ )
noncomputable def Zjp (Γ : Zc) : M Value:=
 bind (mkm) fun y1=>
 bind (bld (.agg #[.map none]) [(0,1,y1)]) fun y2=>
 bind (alc 1 y2) fun y3=>
 ret y3
theorem ZuI (Γ : Zc) : Zz Tryz.prog Γ Tryz.f110 Znp []=Zjp Γ :=by kernel_rfl
theorem Zt9 {prim : FuncId→Option (List Value→M Value)} (hp : prim ZgN=none) (n : Nat) : run Tryz.prog prim lvs (n+1) ZgN []=Zjp (run Tryz.prog prim lvs n) :=
 (Zl hp (by kernel_rfl) Tryz.func110 (by kernel_rfl)).trans (ZuI _ )
noncomputable def ZhK.l1 (Γ : Zc) (s0 s4 s11 s12 s13 : Value) : M Out:=
 bind (bop .int .lss s13 s12) fun y3=>
 cnd y3
 (bind (ixa 5 s11 s13) fun y4=>
 bind (ldA 5 y4) fun y5=>
 bind (alc 1 (.agg #[.string ⟨#[]⟩,.string ⟨#[]⟩,.string ⟨#[]⟩,.bool false,.slice none 0 0])) fun y6=>
 bind (stA 5 y6 y5) fun _=>
 bind (ldA 5 y6) fun y7=>
 bind (Γ WQ [(Value.int .i64 1),y7]) fun y8=>
 bind (bop .int .neq y8 (Value.int .i64 0)) fun y9=>
 cnd y9
 (ret (.ret (Value.tuple #[(Value.pointer none),y8])))
 (bind (bop .int .add s13 (Value.int .i64 1)) fun y10=>
 ret (.nrm [s0,s4,s11,s12,y10])))
 (ret (.ext 0 [s0,s4]))
noncomputable def ZhK.l2 (Γ : Zc) (s0 s4 s23 s24 s25 : Value) : M Out:=
 bind (bop .int .lss s25 s24) fun y14=>
 cnd y14
 (bind (ixa 5 s23 s25) fun y15=>
 bind (ldA 5 y15) fun y16=>
 bind (alc 1 (.agg #[.string ⟨#[]⟩,.string ⟨#[]⟩,.string ⟨#[]⟩,.bool false,.slice none 0 0])) fun y17=>
 bind (stA 5 y17 y16) fun _=>
 bind (bop .int .gtr s25 (Value.int .i64 0)) fun y18=>
 bind (Zh y18 true (ret s0)) fun y19=>
 bind (Zh y18 true (ret s25)) fun y20=>
 bind (Zh y18 true (bop .int .sub y20 (Value.int .i64 1))) fun y21=>
 bind (Zh y18 true (ixa 5 y19 y21)) fun y22=>
 bind (Zh y18 true (fa 0 y22)) fun y23=>
 bind (Zh y18 true (ld1 y23)) fun y24=>
 bind (Zh y18 true (fa 0 y17)) fun y25=>
 bind (Zh y18 true (ld1 y25)) fun y26=>
 bind (Zh y18 true (Γ JW [y24,y26])) fun y27=>
 bind (Zh y18 true (bop .int .geq y27 (Value.int .i64 0))) fun y28=>
 bind (pick y18 y28 (Value.bool false)) fun y29=>
 cnd y29
 (ret (.ret (Value.tuple #[(Value.pointer none),(Value.int .i64 9)])))
 (bind (Qc s4) fun y30=>
 bind (fa 0 y30) fun y31=>
 bind (ld1 y31) fun y32=>
 bind (fa 0 y17) fun y33=>
 bind (ld1 y33) fun y34=>
 bind (fa 1 y17) fun y35=>
 bind (ld1 y35) fun y36=>
 bind (mup .str y32 y34 y36) fun _=>
 bind (bop .int .add s25 (Value.int .i64 1)) fun y37=>
 ret (.nrm [s0,s4,s23,s24,y37])))
 (ret (.ext 2 [s0,s4]))
noncomputable def ZhK (Γ : Zc) (x0 : Value) : M Value:=
 bind (Γ Zp3 []) fun y1=>
 bind (Zy x0) fun y2=>
 jn (Zi (c5 (ZhK.l1 Γ)) [x0,y1,x0,y2,(Value.int .i64 0)]) noN (xk 0 (c2 fun q12_0 q12_1=>
 bind (Zy q12_0) fun y13=>
 jn (Zi (c5 (ZhK.l2 Γ)) [q12_0,q12_1,q12_0,y13,(Value.int .i64 0)]) noN (xk 2 (c2 fun q39_0 q39_1=>
 bind (Zy q39_0) fun y40=>
 bind (bop .int .gtr y40 (Value.int .i64 12)) fun y41=>
 cnd y41
 (ret (Value.tuple #[(Value.pointer none),(Value.int .i64 7)]))
 (ret (Value.tuple #[q39_1,(Value.int .i64 0)]))) noX) ret) noX) ret
noncomputable def K5.l1 (Γ : Zc) (s2 s3 s43 s44 : Value) : M Out:=
 bind (bop .int .lss s44 s43) fun y41=>
 cnd y41
 (bind (fa 4 s2) fun y42=>
 bind (ld1 y42) fun y43=>
 bind (ixa 1 y43 s44) fun y44=>
 bind (ld1 y44) fun y45=>
 bind (fa 4 s3) fun y46=>
 bind (ld1 y46) fun y47=>
 bind (ixa 1 y47 s44) fun y48=>
 bind (ld1 y48) fun y49=>
 bind (bop .str .neq y45 y49) fun y50=>
 cnd y50
 (ret (.ret (Value.bool false)))
 (bind (bop .int .add s44 (Value.int .i64 1)) fun y51=>
 ret (.nrm [s2,s3,s43,y51])))
 (ret (.ext 0 []))
noncomputable def K5 (Γ : Zc) (x0 x1 : Value) : M Value:=
 bind (alc 1 x0) fun y1=>
 bind (alc 1 x1) fun y2=>
 bind (fa 0 y1) fun y3=>
 bind (ld1 y3) fun y4=>
 bind (fa 0 y2) fun y5=>
 bind (ld1 y5) fun y6=>
 bind (bop .str .neq y4 y6) fun y7=>
 bind (ZH y7 false 5 (bind (fa 1 y1) fun y8=>
 bind (ld1 y8) fun y9=>
 bind (fa 1 y2) fun y10=>
 bind (ld1 y10) fun y11=>
 bind (bop .str .neq y9 y11) fun y12=>
 ret [y8,y9,y10,y11,y12])) (c5 fun _ _ _ _ q13_4=>
 bind (pick y7 (Value.bool true) q13_4) fun y14=>
 bind (ZH y14 false 5 (bind (fa 2 y1) fun y15=>
 bind (ld1 y15) fun y16=>
 bind (fa 2 y2) fun y17=>
 bind (ld1 y17) fun y18=>
 bind (bop .str .neq y16 y18) fun y19=>
 ret [y15,y16,y17,y18,y19])) (c5 fun _ _ _ _ q20_4=>
 bind (pick y14 (Value.bool true) q20_4) fun y21=>
 bind (ZH y21 false 5 (bind (fa 3 y1) fun y22=>
 bind (ld1 y22) fun y23=>
 bind (fa 3 y2) fun y24=>
 bind (ld1 y24) fun y25=>
 bind (bop .bool .neq y23 y25) fun y26=>
 ret [y22,y23,y24,y25,y26])) (c5 fun _ _ _ _ q27_4=>
 bind (pick y21 (Value.bool true) q27_4) fun y28=>
 bind (ZH y28 false 7 (bind (fa 4 y1) fun y29=>
 bind (ld1 y29) fun y30=>
 bind (Zy y30) fun y31=>
 bind (fa 4 y2) fun y32=>
 bind (ld1 y32) fun y33=>
 bind (Zy y33) fun y34=>
 bind (bop .int .neq y31 y34) fun y35=>
 ret [y29,y30,y31,y32,y33,y34,y35])) (c7 fun _ _ _ _ _ _ q36_6=>
 bind (pick y28 (Value.bool true) q36_6) fun y37=>
 cnd y37
 (ret (Value.bool false))
 (bind (fa 4 y1) fun y38=>
 bind (ld1 y38) fun y39=>
 bind (Zy y39) fun y40=>
 jn (Zi (c4 (K5.l1 Γ)) [y1,y2,y40,(Value.int .i64 0)]) noN (xk 0 (c0 (ret (Value.bool true))) noX) ret)))))
theorem Zs2 (Γ : Zc) (x0 x1 : Value) : Zz Tryz.prog Γ Tryz.f112 ZkV [x0,x1]=K5 Γ x0 x1:=by kernel_rfl
theorem Zr0 {prim : FuncId→Option (List Value→M Value)} (hp : prim ZfC=none) (n : Nat) (x0 x1 : Value) : run Tryz.prog prim lvs (n+1) ZfC [x0,x1]=K5 (run Tryz.prog prim lvs n) x0 x1:=
 (Zl hp (by kernel_rfl) Tryz.func112 (by kernel_rfl)).trans (Zs2 _ x0 x1)
noncomputable def Zcx (Γ : Zc) (x0 x1 : Value) : M Value:=
 bind (alc 1 x1) fun y1=>
 bind (bop .int .neq x0 (Value.int .i64 1)) fun y2=>
 bind (ZH y2 true 2 (bind (bop .int .neq x0 (Value.int .i64 2)) fun y3=>
 ret [x0,y3])) (c2 fun _ q4_1=>
 bind (pick y2 q4_1 (Value.bool false)) fun y5=>
 cnd y5
 (ret (Value.int .i64 6))
 (bind (fa 0 y1) fun y6=>
 bind (ld1 y6) fun y7=>
 bind (fa 1 y1) fun y8=>
 bind (ld1 y8) fun y9=>
 bind (Γ Q9 [y7]) fun y10=>
 bind (ld1 y8) fun u_11=>same u_11 y9 <|
 bind (Γ Zbi [y9]) fun y12=>
 bind (bsl 1 2 (.int .i64 0) [(0,1,y10),(1,1,y12)]) fun y13=>
 bind (Γ Zbx [y13]) fun y14=>
 bind (bop .int .neq y14 (Value.int .i64 0)) fun y15=>
 cnd y15
 (ret y14)
 (bind (bop .int .eql x0 (Value.int .i64 2)) fun y16=>
 cnd y16
 (bind (fa 2 y1) fun y17=>
 bind (ld1 y17) fun y18=>
 bind (fa 4 y1) fun y19=>
 bind (ld1 y19) fun y20=>
 bind (Γ ZeH [y18]) fun y21=>
 bind (ld1 y19) fun u_22=>same u_22 y20 <|
 bind (Γ Zdg [y20]) fun y23=>
 bind (bsl 1 2 (.int .i64 0) [(0,1,y21),(1,1,y23)]) fun y24=>
 bind (Γ Zbx [y24]) fun y25=>
 ret y25)
 (bind (fa 2 y1) fun y26=>
 bind (ld1 y26) fun y27=>
 bind (bop .str .neq y27 (Value.string ⟨#[]⟩)) fun y28=>
 bind (ZH y28 false 2 (bind (fa 3 y1) fun y29=>
 bind (ld1 y29) fun y30=>
 ret [y29,y30])) (c2 fun _ q31_1=>
 bind (pick y28 (Value.bool true) q31_1) fun y32=>
 bind (ZH y32 false 4 (bind (fa 4 y1) fun y33=>
 bind (ld1 y33) fun y34=>
 bind (Zy y34) fun y35=>
 bind (bop .int .gtr y35 (Value.int .i64 0)) fun y36=>
 ret [y33,y34,y35,y36])) (c4 fun _ _ _ q37_3=>
 bind (pick y32 (Value.bool true) q37_3) fun y38=>
 cnd y38
 (ret (Value.int .i64 12))
 (ret (Value.int .i64 0))))))))
theorem ZtA (Γ : Zc) (x0 x1 : Value) : Zz Tryz.prog Γ Tryz.f113 ZlO [x0,x1]=Zcx Γ x0 x1:=by kernel_rfl
theorem ZrJ {prim : FuncId→Option (List Value→M Value)} (hp : prim WQ=none) (n : Nat) (x0 x1 : Value) : run Tryz.prog prim lvs (n+1) WQ [x0,x1]=Zcx (run Tryz.prog prim lvs n) x0 x1:=
 (Zl hp (by kernel_rfl) Tryz.func113 (by kernel_rfl)).trans (ZtA _ x0 x1)
noncomputable def WK.l1 (Γ : Zc) (s0 s1 s5 : Value) : M Out:=
 bind (Zy s0) fun y1=>
 bind (bop .int .lss s5 y1) fun y2=>
 cnd y2
 (bind (bop .int .sub s5 (Value.int .i64 1)) fun y3=>
 bind (ixa 1 s0 y3) fun y4=>
 bind (ld1 y4) fun y5=>
 bind (ixa 1 s0 s5) fun y6=>
 bind (ld1 y6) fun y7=>
 bind (Γ JW [y5,y7]) fun y8=>
 bind (bop .int .geq y8 (Value.int .i64 0)) fun y9=>
 cnd y9
 (ret (.ret (Value.int .i64 9)))
 (bind (bop .int .add s5 (Value.int .i64 1)) fun y10=>
 ret (.nrm [s0,s1,y10])))
 (ret (.ext 0 [s0,s1]))
noncomputable def WK (Γ : Zc) (x0 x1 : Value) : M Value:=
 jn (Zi (c3 (WK.l1 Γ)) [x0,x1,(Value.int .i64 1)]) noN (xk 0 (c2 fun q12_0 q12_1=>
 bind (Zy q12_0) fun y13=>
 bind (bop .int .gtr y13 q12_1) fun y14=>
 cnd y14
 (ret (Value.int .i64 7))
 (ret (Value.int .i64 0))) noX) ret
theorem Zty (Γ : Zc) (x0 x1 : Value) : Zz Tryz.prog Γ Tryz.f114 Zlr [x0,x1]=WK Γ x0 x1:=by kernel_rfl
theorem ZrZ {prim : FuncId→Option (List Value→M Value)} (hp : prim K6=none) (n : Nat) (x0 x1 : Value) : run Tryz.prog prim lvs (n+1) K6 [x0,x1]=WK (run Tryz.prog prim lvs n) x0 x1:=
 (Zl hp (by kernel_rfl) Tryz.func114 (by kernel_rfl)).trans (Zty _ x0 x1)
noncomputable def ZjB (Γ : Zc) (x0 : Value) : M Value:=
 bind (Γ ZaR [x0]) fun y1=>
 bind (uop .not y1) fun y2=>
 cnd y2
 (ret (Value.int .i64 10))
 (ret (Value.int .i64 0))
theorem ZuG (Γ : Zc) (x0 : Value) : Zz Tryz.prog Γ Tryz.f115 Znv [x0]=ZjB Γ x0:=by kernel_rfl
theorem Zub {prim : FuncId→Option (List Value→M Value)} (hp : prim Q9=none) (n : Nat) (x0 : Value) : run Tryz.prog prim lvs (n+1) Q9 [x0]=ZjB (run Tryz.prog prim lvs n) x0:=
 (Zl hp (by kernel_rfl) Tryz.func115 (by kernel_rfl)).trans (ZuG _ x0)
noncomputable def Zdx (Γ : Zc) (x0 x1 x2 : Value) : M Value:=
 bind (bsl 1 1 (.string ⟨#[]⟩) [(0,1,x1)]) fun y1=>
 bind (app 1 16 y1 x2) fun y2=>
 bind (Γ Za0 [y2]) fun y3=>
 bind (bop .int .neq y3 (Value.int .i64 0)) fun y4=>
 cnd y4
 (ret (Value.tuple #[(Value.map none),y3]))
 (bind (Qc x0) fun y5=>
 bind (fa 0 y5) fun y6=>
 bind (ld1 y6) fun y7=>
 bind (lkp .str (.map none) true y7 x1) fun y8=>
 bind (Zm y8 0) fun y9=>
 bind (Zm y8 1) fun y10=>
 bind (uop .not y10) fun y11=>
 cnd y11
 (ret (Value.tuple #[(Value.map none),(Value.int .i64 8)]))
 (ret (Value.tuple #[y9,(Value.int .i64 0)])))
theorem ZlA (Γ : Zc) (x0 x1 x2 : Value) : Zz Tryz.prog Γ Tryz.f116 ZfV [x0,x1,x2]=Zdx Γ x0 x1 x2:=by kernel_rfl
theorem Zkl {prim : FuncId→Option (List Value→M Value)} (hp : prim Yo=none) (n : Nat) (x0 x1 x2 : Value) : run Tryz.prog prim lvs (n+1) Yo [x0,x1,x2]=Zdx (run Tryz.prog prim lvs n) x0 x1 x2:=
 (Zl hp (by kernel_rfl) Tryz.func116 (by kernel_rfl)).trans (ZlA _ x0 x1 x2)
noncomputable def Zbs (Γ : Zc) (x0 x1 : Value) : M Value:=
 bind (Qc x0) fun y1=>
 bind (fa 1 y1) fun y2=>
 bind (ld1 y2) fun y3=>
 bind (lkp .str (.string ⟨#[]⟩) true y3 x1) fun y4=>
 bind (Zm y4 0) fun y5=>
 bind (Zm y4 1) fun y6=>
 jn (cnd y6
 (bind (Qc x0) fun y7=>
 bind (fa 0 y7) fun y8=>
 bind (ld1 y8) fun y9=>
 bind (mde .str y9 y5) fun _=>
 bind (Qc x0) fun y10=>
 bind (fa 1 y10) fun y11=>
 bind (ld1 y11) fun y12=>
 bind (mde .str y12 x1) fun _=>
 ret (.nrm [y6]))
 (ret (.nrm [y6]))) (c1 fun q13_0=>
 ret q13_0) noX ret
theorem ZnJ (Γ : Zc) (x0 x1 : Value) : Zz Tryz.prog Γ Tryz.f117 Zg9 [x0,x1]=Zbs Γ x0 x1:=by kernel_rfl
theorem Zmz {prim : FuncId→Option (List Value→M Value)} (hp : prim Jz=none) (n : Nat) (x0 x1 : Value) : run Tryz.prog prim lvs (n+1) Jz [x0,x1]=Zbs (run Tryz.prog prim lvs n) x0 x1:=
 (Zl hp (by kernel_rfl) Tryz.func117 (by kernel_rfl)).trans (ZnJ _ x0 x1)
noncomputable def KC.l1 (Γ : Zc) (s0 s35 s36 s37 : Value) : M Out:=
 bind (bop .int .lss s37 s36) fun y19=>
 cnd y19
 (bind (ixa 1 s35 s37) fun y20=>
 bind (ld1 y20) fun y21=>
 bind (bop .str .eql y21 (Value.string ⟨#[]⟩)) fun y22=>
 bind (ZH y22 false 3 (bind (Γ Wu [y21,(Value.func (.func 183) #[] #[])]) fun y23=>
 bind (uop .not y23) fun y24=>
 ret [y21,y23,y24])) (c3 fun _ _ q25_2=>
 bind (pick y22 (Value.bool true) q25_2) fun y26=>
 cnd y26
 (ret (.ret (Value.tuple #[(Value.string ⟨#[]⟩),(Value.int .i64 11)])))
 (bind (bop .int .add s37 (Value.int .i64 1)) fun y27=>
 ret (.nrm [s0,s35,s36,y27]))))
 (ret (.ext 0 [s0]))
noncomputable def KC (Γ : Zc) (x0 : Value) : M Value:=
 bind (JV x0) fun y1=>
 bind (bop .int .gtr y1 (Value.int .i64 20)) fun y2=>
 cnd y2
 (ret (Value.tuple #[(Value.string ⟨#[]⟩),(Value.int .i64 11)]))
 (bind (Γ Ze8 [x0]) fun y3=>
 bind (Γ ZaY [y3,(Value.string ⟨#[64]⟩)]) fun y4=>
 bind (Zm y4 0) fun y5=>
 bind (Zm y4 1) fun y6=>
 bind (Zm y4 2) fun y7=>
 bind (Γ Zb4 [y6,(Value.string ⟨#[46]⟩)]) fun y8=>
 bind (uop .not y7) fun y9=>
 bind (ZH y9 false 3 (bind (Γ ZaR [y5]) fun y10=>
 bind (uop .not y10) fun y11=>
 ret [y5,y10,y11])) (c3 fun _ _ q12_2=>
 bind (pick y9 (Value.bool true) q12_2) fun y13=>
 bind (ZH y13 false 3 (bind (Zy y8) fun y14=>
 bind (bop .int .lss y14 (Value.int .i64 2)) fun y15=>
 ret [y8,y14,y15])) (c3 fun _ _ q16_2=>
 bind (pick y13 (Value.bool true) q16_2) fun y17=>
 cnd y17
 (ret (Value.tuple #[(Value.string ⟨#[]⟩),(Value.int .i64 11)]))
 (bind (Zy y8) fun y18=>
 jn (Zi (c4 (KC.l1 Γ)) [y3,y8,y18,(Value.int .i64 0)]) noN (xk 0 (c1 fun q29_0=>
 ret (Value.tuple #[q29_0,(Value.int .i64 0)])) noX) ret))))
theorem ZuV (Γ : Zc) (x0 : Value) : Zz Tryz.prog Γ Tryz.f118 Zm4 [x0]=KC Γ x0:=by kernel_rfl
theorem Zuz {prim : FuncId→Option (List Value→M Value)} (hp : prim Zbu=none) (n : Nat) (x0 : Value) : run Tryz.prog prim lvs (n+1) Zbu [x0]=KC (run Tryz.prog prim lvs n) x0:=
 (Zl hp (by kernel_rfl) Tryz.func118 (by kernel_rfl)).trans (ZuV _ x0)
noncomputable def YA.l1 (Γ : Zc) (s0 s1 s7 s8 : Value) : M Out:=
 bind (bop .int .lss s8 s7) fun y1=>
 cnd y1
 (bind (Qc s0) fun y2=>
 bind (fa 0 y2) fun y3=>
 bind (ld1 y3) fun y4=>
 bind (cvi .u8 s1) fun y5=>
 bind (bsl 1 1 (.int .u8 0) [(0,1,y5)]) fun y6=>
 bind (app 1 1 y4 y6) fun y7=>
 bind (Qc s0) fun y8=>
 bind (fa 0 y8) fun y9=>
 bind (st1 y9 y7) fun _=>
 bind (bop .int .shr s1 (Value.int .u64 8)) fun y10=>
 bind (bop .int .add s8 (Value.int .i64 1)) fun y11=>
 ret (.nrm [s0,y10,s7,y11]))
 (ret (.ext 0 [s0]))
noncomputable def YA (Γ : Zc) (x0 x1 x2 : Value) : M Value:=
 jn (Zi (c4 (YA.l1 Γ)) [x0,x1,x2,(Value.int .i64 0)]) noN (xk 0 (c1 fun q13_0=>
 ret q13_0) noX) ret
theorem Zmw (Γ : Zc) (x0 x1 x2 : Value) : Zz Tryz.prog Γ Tryz.f119 Zgw [x0,x1,x2]=YA Γ x0 x1 x2:=by kernel_rfl
theorem ZlI {prim : FuncId→Option (List Value→M Value)} (hp : prim KR=none) (n : Nat) (x0 x1 x2 : Value) : run Tryz.prog prim lvs (n+1) KR [x0,x1,x2]=YA (run Tryz.prog prim lvs n) x0 x1 x2:=
 (Zl hp (by kernel_rfl) Tryz.func119 (by kernel_rfl)).trans (Zmw _ x0 x1 x2)
noncomputable def ZdB (Γ : Zc) (x0 x1 : Value) : M Value:=
 bind (JV x1) fun y1=>
 bind (mxi false y1 (Value.int .i64 65535)) fun y2=>
 bind (sls x1 none (some y2)) fun y3=>
 bind (JV y3) fun y4=>
 bind (cvi .u16 y4) fun y5=>
 bind (Γ Yx [x0,y5]) fun y6=>
 bind (Qc x0) fun y7=>
 bind (fa 0 y7) fun y8=>
 bind (ld1 y8) fun y9=>
 bind (app 1 1 y9 y3) fun y10=>
 bind (Qc x0) fun y11=>
 bind (fa 0 y11) fun y12=>
 bind (st1 y12 y10) fun _=>
 ret x0
theorem ZkP (Γ : Zc) (x0 x1 : Value) : Zz Tryz.prog Γ Tryz.f120 Zf0 [x0,x1]=ZdB Γ x0 x1:=by kernel_rfl
theorem Zj4 {prim : FuncId→Option (List Value→M Value)} (hp : prim JN=none) (n : Nat) (x0 x1 : Value) : run Tryz.prog prim lvs (n+1) JN [x0,x1]=ZdB (run Tryz.prog prim lvs n) x0 x1:=
 (Zl hp (by kernel_rfl) Tryz.func120 (by kernel_rfl)).trans (ZkP _ x0 x1)
noncomputable def ZdU (Γ : Zc) (x0 : Value) : M Value:=
 bind (Qc x0) fun y1=>
 bind (fa 0 y1) fun y2=>
 bind (ld1 y2) fun y3=>
 bind (Γ W4 [y3]) fun y4=>
 ret y4
theorem Zm2 (Γ : Zc) (x0 : Value) : Zz Tryz.prog Γ Tryz.f121 ZgB [x0]=ZdU Γ x0:=by kernel_rfl
theorem Zkx {prim : FuncId→Option (List Value→M Value)} (hp : prim KS=none) (n : Nat) (x0 : Value) : run Tryz.prog prim lvs (n+1) KS [x0]=ZdU (run Tryz.prog prim lvs n) x0:=
 (Zl hp (by kernel_rfl) Tryz.func121 (by kernel_rfl)).trans (Zm2 _ x0)
noncomputable def Zc6 (Γ : Zc) (x0 x1 : Value) : M Value:=
 cnd x1
 (bind (Γ JP [x0,(Value.int .u8 1)]) fun y1=>
 ret y1)
 (bind (Γ JP [x0,(Value.int .u8 0)]) fun y2=>
 ret y2)
theorem Zkc (Γ : Zc) (x0 x1 : Value) : Zz Tryz.prog Γ Tryz.f122 Zfg [x0,x1]=Zc6 Γ x0 x1:=by kernel_rfl
theorem Zja {prim : FuncId→Option (List Value→M Value)} (hp : prim WY=none) (n : Nat) (x0 x1 : Value) : run Tryz.prog prim lvs (n+1) WY [x0,x1]=Zc6 (run Tryz.prog prim lvs n) x0 x1:=
 (Zl hp (by kernel_rfl) Tryz.func122 (by kernel_rfl)).trans (Zkc _ x0 x1)
noncomputable def Yw.l1 (Γ : Zc) (s5 s10 s11 s12 : Value) : M Out:=
 bind (bop .int .lss s12 s11) fun y3=>
 cnd y3
 (bind (ixa 1 s10 s12) fun y4=>
 bind (ld1 y4) fun y5=>
 bind (cvi .u64 y5) fun y6=>
 bind (bop .int .mul (Value.int .i64 8) s12) fun y7=>
 bind (bop .int .shl y6 y7) fun y8=>
 bind (bop .int .or s5 y8) fun y9=>
 bind (bop .int .add s12 (Value.int .i64 1)) fun y10=>
 ret (.nrm [y9,s10,s11,y10]))
 (ret (.ext 0 [s5]))
noncomputable def Yw (Γ : Zc) (x0 x1 : Value) : M Value:=
 bind (Γ Km [x0,x1]) fun y1=>
 bind (Zy y1) fun y2=>
 jn (Zi (c4 (Yw.l1 Γ)) [(Value.int .u64 0),y1,y2,(Value.int .i64 0)]) noN (xk 0 (c1 fun q12_0=>
 ret q12_0) noX) ret
theorem ZmU (Γ : Zc) (x0 x1 : Value) : Zz Tryz.prog Γ Tryz.f123 ZgH [x0,x1]=Yw Γ x0 x1:=by kernel_rfl
theorem Zlg {prim : FuncId→Option (List Value→M Value)} (hp : prim KH=none) (n : Nat) (x0 x1 : Value) : run Tryz.prog prim lvs (n+1) KH [x0,x1]=Yw (run Tryz.prog prim lvs n) x0 x1:=
 (Zl hp (by kernel_rfl) Tryz.func123 (by kernel_rfl)).trans (ZmU _ x0 x1)
noncomputable def WW (Γ : Zc) (x0 x1 : Value) : M Value:=
 bind (Γ KJ [x0]) fun y1=>
 bind (cvi .i64 y1) fun y2=>
 bind (mxi true (Value.int .i64 0) x1) fun y3=>
 bind (bop .int .gtr y2 y3) fun y4=>
 cnd y4
 (bind (Γ Z6 [x0,(Value.int .i64 3)]) fun y5=>
 ret (Value.int .i64 0))
 (ret y2)
theorem Zj6 (Γ : Zc) (x0 x1 : Value) : Zz Tryz.prog Γ Tryz.f124 Zff [x0,x1]=WW Γ x0 x1:=by kernel_rfl
theorem Zi8 {prim : FuncId→Option (List Value→M Value)} (hp : prim Kc=none) (n : Nat) (x0 x1 : Value) : run Tryz.prog prim lvs (n+1) Kc [x0,x1]=WW (run Tryz.prog prim lvs n) x0 x1:=
 (Zl hp (by kernel_rfl) Tryz.func124 (by kernel_rfl)).trans (Zj6 _ x0 x1)
noncomputable def ZdA (Γ : Zc) (x0 x1 : Value) : M Value:=
 bind (Γ Kc [x0,x1]) fun y1=>
 bind (Γ Km [x0,y1]) fun y2=>
 bind (b2s y2) fun y3=>
 ret y3
theorem ZlZ (Γ : Zc) (x0 x1 : Value) : Zz Tryz.prog Γ Tryz.f125 Zf6 [x0,x1]=ZdA Γ x0 x1:=by kernel_rfl
theorem Zj8 {prim : FuncId→Option (List Value→M Value)} (hp : prim JM=none) (n : Nat) (x0 x1 : Value) : run Tryz.prog prim lvs (n+1) JM [x0,x1]=ZdA (run Tryz.prog prim lvs n) x0 x1:=
 (Zl hp (by kernel_rfl) Tryz.func125 (by kernel_rfl)).trans (ZlZ _ x0 x1)
noncomputable def Zbp (Γ : Zc) (x0 : Value) : M Value:=
 bind (Γ Ko [x0]) fun y1=>
 bind (bop .int .gtr y1 (Value.int .u8 1)) fun y2=>
 jn (cnd y2
 (bind (Γ Z6 [x0,(Value.int .i64 4)]) fun y3=>
 ret (.nrm [y1]))
 (ret (.nrm [y1]))) (c1 fun q4_0=>
 bind (bop .int .eql q4_0 (Value.int .u8 1)) fun y5=>
 ret y5) noX ret
theorem Zj2 (Γ : Zc) (x0 : Value) : Zz Tryz.prog Γ Tryz.f126 Zfj [x0]=Zbp Γ x0:=by kernel_rfl
theorem ZeF {prim : FuncId→Option (List Value→M Value)} (hp : prim WU=none) (n : Nat) (x0 : Value) : run Tryz.prog prim lvs (n+1) WU [x0]=Zbp (run Tryz.prog prim lvs n) x0:=
 (Zl hp (by kernel_rfl) Tryz.func126 (by kernel_rfl)).trans (Zj2 _ x0)
noncomputable def Zkr.l1 (Γ : Zc) (s0 s3 s4 : Value) : M Out:=
 bind (bop .int .geq s4 (Value.int .i64 0)) fun y3=>
 cnd y3
 (bind (bop .int .mul s3 (Value.int .u64 256)) fun y4=>
 bind (ixs s0 s4) fun y5=>
 bind (cvi .u64 y5) fun y6=>
 bind (bop .int .add y4 y6) fun y7=>
 bind (bop .int .sub s4 (Value.int .i64 1)) fun y8=>
 ret (.nrm [s0,y7,y8]))
 (ret (.ext 0 [s3]))
noncomputable def Zkr (Γ : Zc) (x0 : Value) : M Value:=
 bind (JV x0) fun y1=>
 bind (bop .int .sub y1 (Value.int .i64 1)) fun y2=>
 jn (Zi (c3 (Zkr.l1 Γ)) [x0,(Value.int .u64 0),y2]) noN (xk 0 (c1 fun q10_0=>
 ret q10_0) noX) ret
noncomputable def ZeV.l1 (Γ : Zc) (s3 s62 s63 s64 : Value) : M Out:=
 bind (bop .int .lss s64 s63) fun y50=>
 cnd y50
 (bind (ixa 1 s62 s64) fun y51=>
 bind (ld1 y51) fun y52=>
 bind (Γ QL [y52]) fun y53=>
 bind (uop .not y53) fun y54=>
 cnd y54
 (ret (.ret (Value.int .i64 10)))
 (bind (bop .int .add s64 (Value.int .i64 1)) fun y55=>
 ret (.nrm [s3,s62,s63,y55])))
 (ret (.ext 0 [s3]))
noncomputable def ZeV.l2 (Γ : Zc) (s3 s73 s74 s75 : Value) : M Out:=
 bind (bop .int .lss s75 s74) fun y61=>
 cnd y61
 (bind (ixa 1 s73 s75) fun y62=>
 bind (ld1 y62) fun y63=>
 bind (bop .int .gtr s75 (Value.int .i64 0)) fun y64=>
 bind (ZH y64 true 8 (bind (fa 4 s3) fun y65=>
 bind (ld1 y65) fun y66=>
 bind (bop .int .sub s75 (Value.int .i64 1)) fun y67=>
 bind (ixa 1 y66 y67) fun y68=>
 bind (ld1 y68) fun y69=>
 bind (bop .str .leq y63 y69) fun y70=>
 ret [y63,y65,y66,s75,y67,y68,y69,y70])) (c8 fun _ _ _ _ _ _ _ q71_7=>
 bind (pick y64 q71_7 (Value.bool false)) fun y72=>
 cnd y72
 (ret (.ret (Value.int .i64 9)))
 (bind (bop .int .add s75 (Value.int .i64 1)) fun y73=>
 ret (.nrm [s3,s73,s74,y73]))))
 (ret (.ext 2 []))
noncomputable def ZeV (Γ : Zc) (x0 x1 : Value) : M Value:=
 bind (alc 1 x1) fun y1=>
 bind (bop .int .lss x0 (Value.int .i64 1)) fun y2=>
 bind (ZH y2 false 2 (bind (bop .int .gtr x0 (Value.int .i64 2)) fun y3=>
 ret [x0,y3])) (c2 fun _ q4_1=>
 bind (pick y2 (Value.bool true) q4_1) fun y5=>
 cnd y5
 (ret (Value.int .i64 6))
 (bind (fa 0 y1) fun y6=>
 bind (ld1 y6) fun y7=>
 bind (Γ QL [y7]) fun y8=>
 bind (uop .not y8) fun y9=>
 cnd y9
 (ret (Value.int .i64 10))
 (bind (fa 1 y1) fun y10=>
 bind (ld1 y10) fun y11=>
 bind (Γ Zaz [y11]) fun y12=>
 bind (uop .not y12) fun y13=>
 cnd y13
 (ret (Value.int .i64 4))
 (bind (bop .int .eql x0 (Value.int .i64 1)) fun y14=>
 cnd y14
 (bind (fa 2 y1) fun y15=>
 bind (ld1 y15) fun y16=>
 bind (bop .str .neq y16 (Value.string ⟨#[]⟩)) fun y17=>
 bind (ZH y17 false 2 (bind (fa 3 y1) fun y18=>
 bind (ld1 y18) fun y19=>
 ret [y18,y19])) (c2 fun _ q20_1=>
 bind (pick y17 (Value.bool true) q20_1) fun y21=>
 bind (ZH y21 false 4 (bind (fa 4 y1) fun y22=>
 bind (ld1 y22) fun y23=>
 bind (Zy y23) fun y24=>
 bind (bop .int .gtr y24 (Value.int .i64 0)) fun y25=>
 ret [y22,y23,y24,y25])) (c4 fun _ _ _ q26_3=>
 bind (pick y21 (Value.bool true) q26_3) fun y27=>
 cnd y27
 (ret (Value.int .i64 12))
 (ret (Value.int .i64 0)))))
 (bind (fa 2 y1) fun y28=>
 bind (ld1 y28) fun y29=>
 bind (bop .str .neq y29 (Value.string ⟨#[]⟩)) fun y30=>
 jn (cnd y30
 (bind (fa 2 y1) fun y31=>
 bind (ld1 y31) fun y32=>
 bind (Γ ZbD [y32]) fun y33=>
 bind (Zm y33 0) fun y34=>
 bind (Zm y33 1) fun y35=>
 bind (uop .not y35) fun y36=>
 bind (ZH y36 false 4 (bind (fa 2 y1) fun y37=>
 bind (ld1 y37) fun y38=>
 bind (bop .str .neq y34 y38) fun y39=>
 ret [y34,y37,y38,y39])) (c4 fun _ _ _ q40_3=>
 bind (pick y36 (Value.bool true) q40_3) fun y41=>
 cnd y41
 (ret (.ret (Value.int .i64 11)))
 (ret (.nrm [y1]))))
 (ret (.nrm [y1]))) (c1 fun q42_0=>
 bind (fa 4 q42_0) fun y43=>
 bind (ld1 y43) fun y44=>
 bind (Zy y44) fun y45=>
 bind (bop .int .gtr y45 (Value.int .i64 6)) fun y46=>
 cnd y46
 (ret (Value.int .i64 7))
 (bind (fa 4 q42_0) fun y47=>
 bind (ld1 y47) fun y48=>
 bind (Zy y48) fun y49=>
 jn (Zi (c4 (ZeV.l1 Γ)) [q42_0,y48,y49,(Value.int .i64 0)]) noN (xk 0 (c1 fun q57_0=>
 bind (fa 4 q57_0) fun y58=>
 bind (ld1 y58) fun y59=>
 bind (Zy y59) fun y60=>
 jn (Zi (c4 (ZeV.l2 Γ)) [q57_0,y59,y60,(Value.int .i64 0)]) noN (xk 2 (c0 (ret (Value.int .i64 0))) noX) ret) noX) ret)) noX ret)))))
noncomputable def Zh1.l1 (Γ : Zc) (s0 s1 s10 s11 s12 : Value) : M Out:=
 bind (bop .int .lss s12 s11) fun y2=>
 cnd y2
 (bind (ixa 5 s10 s12) fun y3=>
 bind (ldA 5 y3) fun y4=>
 bind (alc 1 (.agg #[.string ⟨#[]⟩,.string ⟨#[]⟩,.string ⟨#[]⟩,.bool false,.slice none 0 0])) fun y5=>
 bind (stA 5 y5 y4) fun _=>
 bind (ldA 5 y5) fun y6=>
 bind (Γ ZtV [s1,y6]) fun y7=>
 bind (bop .int .neq y7 (Value.int .i64 0)) fun y8=>
 cnd y8
 (ret (.ret y7))
 (bind (bop .int .add s12 (Value.int .i64 1)) fun y9=>
 ret (.nrm [s0,s1,s10,s11,y9])))
 (ret (.ext 0 [s0]))
noncomputable def Zh1.l2 (Γ : Zc) (s0 s23 s24 s25 : Value) : M Out:=
 bind (bop .int .lss s25 s24) fun y13=>
 cnd y13
 (bind (ixa 5 s23 s25) fun y14=>
 bind (ldA 5 y14) fun y15=>
 bind (alc 1 (.agg #[.string ⟨#[]⟩,.string ⟨#[]⟩,.string ⟨#[]⟩,.bool false,.slice none 0 0])) fun y16=>
 bind (stA 5 y16 y15) fun _=>
 bind (bop .int .gtr s25 (Value.int .i64 0)) fun y17=>
 bind (Zh y17 true (ret s0)) fun y18=>
 bind (Zh y17 true (ret s25)) fun y19=>
 bind (Zh y17 true (bop .int .sub y19 (Value.int .i64 1))) fun y20=>
 bind (Zh y17 true (ixa 5 y18 y20)) fun y21=>
 bind (Zh y17 true (fa 0 y21)) fun y22=>
 bind (Zh y17 true (ld1 y22)) fun y23=>
 bind (Zh y17 true (fa 0 y16)) fun y24=>
 bind (Zh y17 true (ld1 y24)) fun y25=>
 bind (Zh y17 true (bop .str .geq y23 y25)) fun y26=>
 bind (pick y17 y26 (Value.bool false)) fun y27=>
 cnd y27
 (ret (.ret (Value.int .i64 9)))
 (bind (bop .int .add s25 (Value.int .i64 1)) fun y28=>
 ret (.nrm [s0,s23,s24,y28])))
 (ret (.ext 2 [s0]))
noncomputable def Zh1 (Γ : Zc) (x0 x1 : Value) : M Value:=
 bind (Zy x0) fun y1=>
 jn (Zi (c5 (Zh1.l1 Γ)) [x0,x1,x0,y1,(Value.int .i64 0)]) noN (xk 0 (c1 fun q11_0=>
 bind (Zy q11_0) fun y12=>
 jn (Zi (c4 (Zh1.l2 Γ)) [q11_0,q11_0,y12,(Value.int .i64 0)]) noN (xk 2 (c1 fun q30_0=>
 bind (Zy q30_0) fun y31=>
 bind (bop .int .gtr y31 (Value.int .i64 12)) fun y32=>
 cnd y32
 (ret (Value.int .i64 7))
 (ret (Value.int .i64 0))) noX) ret) noX) ret
noncomputable def Zij (Γ : Zc) (x0 : Value) : M Value:=
 bind (JV x0) fun y1=>
 bind (bop .int .geq y1 (Value.int .i64 1)) fun y2=>
 bind (ZH y2 true 2 (bind (bop .int .leq y1 (Value.int .i64 12)) fun y3=>
 ret [y1,y3])) (c2 fun _ q4_1=>
 bind (pick y2 q4_1 (Value.bool false)) fun y5=>
 bind (ZH y5 true 2 (bind (Γ Zc5 [x0,(Value.string ⟨#[97,98,99,100,101,102,103,104,105,106,107,108,109,110,111,112,113,114,115,116,117,118,119,120,121,122,48,49,50,51,52,53,54,55,56,57,45,46]⟩)]) fun y6=>
 ret [x0,y6])) (c2 fun _ q7_1=>
 bind (pick y5 q7_1 (Value.bool false)) fun y8=>
 bind (ZH y8 true 3 (bind (ixs x0 (Value.int .i64 0)) fun y9=>
 bind (Γ Zau [y9,(Value.string ⟨#[97,98,99,100,101,102,103,104,105,106,107,108,109,110,111,112,113,114,115,116,117,118,119,120,121,122]⟩)]) fun y10=>
 ret [x0,y9,y10])) (c3 fun _ _ q11_2=>
 bind (pick y8 q11_2 (Value.bool false)) fun y12=>
 bind (ZH y12 true 5 (bind (bop .int .sub y1 (Value.int .i64 1)) fun y13=>
 bind (ixs x0 y13) fun y14=>
 bind (Γ Zau [y14,(Value.string ⟨#[97,98,99,100,101,102,103,104,105,106,107,108,109,110,111,112,113,114,115,116,117,118,119,120,121,122,48,49,50,51,52,53,54,55,56,57]⟩)]) fun y15=>
 ret [x0,y1,y13,y14,y15])) (c5 fun _ _ _ _ q16_4=>
 bind (pick y12 q16_4 (Value.bool false)) fun y17=>
 ret y17))))
theorem Zt5 (Γ : Zc) (x0 : Value) : Zz Tryz.prog Γ Tryz.f134 Zlh [x0]=Zij Γ x0:=by kernel_rfl
theorem ZrW {prim : FuncId→Option (List Value→M Value)} (hp : prim QL=none) (n : Nat) (x0 : Value) : run Tryz.prog prim lvs (n+1) QL [x0]=Zij (run Tryz.prog prim lvs n) x0:=
 (Zl hp (by kernel_rfl) Tryz.func134 (by kernel_rfl)).trans (Zt5 _ x0)
noncomputable def Zaj.l1 (Γ : Zc) (s1 s7 s8 s9 : Value) : M Out:=
 bind (bop .int .lss s9 s8) fun y2=>
 cnd y2
 (bind (ixa 1 s7 s9) fun y3=>
 bind (ld1 y3) fun y4=>
 bind (bop .str .eql y4 s1) fun y5=>
 cnd y5
 (ret (.ret (Value.bool true)))
 (bind (bop .int .add s9 (Value.int .i64 1)) fun y6=>
 ret (.nrm [s1,s7,s8,y6])))
 (ret (.ext 0 []))
noncomputable def Zaj (Γ : Zc) (x0 x1 : Value) : M Value:=
 bind (Zy x0) fun y1=>
 jn (Zi (c4 (Zaj.l1 Γ)) [x1,x0,y1,(Value.int .i64 0)]) noN (xk 0 (c0 (ret (Value.bool false))) noX) ret
theorem ZuY (Γ : Zc) (x0 x1 : Value) : Zz Tryz.prog Γ Tryz.f135 Znf [x0,x1]=Zaj Γ x0 x1:=by kernel_rfl
theorem ZtH {prim : FuncId→Option (List Value→M Value)} (hp : prim Wa=none) (n : Nat) (x0 x1 : Value) : run Tryz.prog prim lvs (n+1) Wa [x0,x1]=Zaj (run Tryz.prog prim lvs n) x0 x1:=
 (Zl hp (by kernel_rfl) Tryz.func135 (by kernel_rfl)).trans (ZuY _ x0 x1)
noncomputable def Zcl (Γ : Zc) (x0 x1 x2 : Value) : M Value:=
 bind (Γ QL [x1]) fun y1=>
 bind (uop .not y1) fun y2=>
 cnd y2
 (ret (Value.tuple #[x0,(Value.int .i64 10)]))
 (bind (Γ Zaz [x2]) fun y3=>
 bind (uop .not y3) fun y4=>
 cnd y4
 (ret (Value.tuple #[x0,(Value.int .i64 4)]))
 (bind (Γ WO [x0,x1]) fun y5=>
 bind (bop .int .geq y5 (Value.int .i64 0)) fun y6=>
 cnd y6
 (ret (Value.tuple #[x0,(Value.int .i64 9)]))
 (bind (Zy x0) fun y7=>
 bind (bop .int .geq y7 (Value.int .i64 12)) fun y8=>
 cnd y8
 (ret (Value.tuple #[x0,(Value.int .i64 7)]))
 (bind (bld (.agg #[.string ⟨#[]⟩,.string ⟨#[]⟩,.string ⟨#[]⟩,.bool false,.slice none 0 0]) [(0,1,x1),(1,1,x2)]) fun y9=>
 bind (Γ Zat [x0,y9]) fun y10=>
 ret (Value.tuple #[y10,(Value.int .i64 0)])))))
theorem Zp9 (Γ : Zc) (x0 x1 x2 : Value) : Zz Tryz.prog Γ Tryz.f136 Zit [x0,x1,x2]=Zcl Γ x0 x1 x2:=by kernel_rfl
theorem ZoD {prim : FuncId→Option (List Value→M Value)} (hp : prim Za9=none) (n : Nat) (x0 x1 x2 : Value) : run Tryz.prog prim lvs (n+1) Za9 [x0,x1,x2]=Zcl (run Tryz.prog prim lvs n) x0 x1 x2:=
 (Zl hp (by kernel_rfl) Tryz.func136 (by kernel_rfl)).trans (Zp9 _ x0 x1 x2)
noncomputable def Zjj (Γ : Zc) (x0 : Value) : M Value:=
 bind (bop .str .eql x0 (Value.string ⟨#[]⟩)) fun y1=>
 bind (ZH y1 false 3 (bind (JV x0) fun y2=>
 bind (bop .int .gtr y2 (Value.int .i64 12)) fun y3=>
 ret [x0,y2,y3])) (c3 fun _ _ q4_2=>
 bind (pick y1 (Value.bool true) q4_2) fun y5=>
 bind (ZH y5 false 4 (bind (Γ Wu [x0,(Value.func (.func 191) #[] #[])]) fun y6=>
 bind (uop .not y6) fun y7=>
 ret [x0,(Value.func (.func 191) #[] #[]),y6,y7])) (c4 fun _ _ _ q8_3=>
 bind (pick y5 (Value.bool true) q8_3) fun y9=>
 cnd y9
 (ret (Value.int .i64 4))
 (ret (Value.int .i64 0))))
theorem Zvk (Γ : Zc) (x0 : Value) : Zz Tryz.prog Γ Tryz.f137 Znt [x0]=Zjj Γ x0:=by kernel_rfl
theorem Ztg {prim : FuncId→Option (List Value→M Value)} (hp : prim Zbi=none) (n : Nat) (x0 : Value) : run Tryz.prog prim lvs (n+1) Zbi [x0]=Zjj (run Tryz.prog prim lvs n) x0:=
 (Zl hp (by kernel_rfl) Tryz.func137 (by kernel_rfl)).trans (Zvk _ x0)
noncomputable def Zba (Γ : Zc) (x0 x1 : Value) : M Value:=
 bind (Γ QL [x1]) fun y1=>
 bind (uop .not y1) fun y2=>
 cnd y2
 (ret (Value.tuple #[x0,(Value.int .i64 10)]))
 (bind (Γ WO [x0,x1]) fun y3=>
 bind (bop .int .lss y3 (Value.int .i64 0)) fun y4=>
 cnd y4
 (ret (Value.tuple #[x0,(Value.int .i64 8)]))
 (bind (Γ ZbC [x0,x1]) fun y5=>
 ret (Value.tuple #[y5,(Value.int .i64 0)])))
theorem Zql (Γ : Zc) (x0 x1 : Value) : Zz Tryz.prog Γ Tryz.f138 ZiC [x0,x1]=Zba Γ x0 x1:=by kernel_rfl
theorem Zo1 {prim : FuncId→Option (List Value→M Value)} (hp : prim Za8=none) (n : Nat) (x0 x1 : Value) : run Tryz.prog prim lvs (n+1) Za8 [x0,x1]=Zba (run Tryz.prog prim lvs n) x0 x1:=
 (Zl hp (by kernel_rfl) Tryz.func138 (by kernel_rfl)).trans (Zql _ x0 x1)
noncomputable def Yj.l1 (Γ : Zc) (s0 s1 s5 s11 s12 s13 : Value) : M Out:=
 bind (bop .int .lss s13 s12) fun y3=>
 cnd y3
 (bind (ixa 1 s11 s13) fun y4=>
 bind (ld1 y4) fun y5=>
 bind (Qc s0) fun y6=>
 bind (fa 0 y6) fun y7=>
 bind (ld1 y7) fun y8=>
 bind (lkp .str (.map none) false y8 y5) fun y9=>
 bind (mde .str y9 s1) fun _=>
 bind (bop .int .add s13 (Value.int .i64 1)) fun y10=>
 ret (.nrm [s0,s1,s5,s11,s12,y10]))
 (ret (.ext 0 [s5]))
noncomputable def Yj (Γ : Zc) (x0 x1 : Value) : M Value:=
 bind (Γ J4 [x0,x1]) fun y1=>
 bind (Zy y1) fun y2=>
 jn (Zi (c6 (Yj.l1 Γ)) [x0,x1,y1,y1,y2,(Value.int .i64 0)]) noN (xk 0 (c1 fun q12_0=>
 bind (Zy q12_0) fun y13=>
 ret y13) noX) ret
theorem Zi3 (Γ : Zc) (x0 x1 : Value) : Zz Tryz.prog Γ Tryz.f139 ZeO [x0,x1]=Yj Γ x0 x1:=by kernel_rfl
theorem Ziw {prim : FuncId→Option (List Value→M Value)} (hp : prim Wx=none) (n : Nat) (x0 x1 : Value) : run Tryz.prog prim lvs (n+1) Wx [x0,x1]=Yj (run Tryz.prog prim lvs n) x0 x1:=
 (Zl hp (by kernel_rfl) Tryz.func139 (by kernel_rfl)).trans (Zi3 _ x0 x1)
noncomputable def ZcC (Γ : Zc) (x0 x1 : Value) : M Value:=
 bind (alc 1 x0) fun y1=>
 bind (alc 1 (.agg #[.string ⟨#[]⟩,.string ⟨#[]⟩,.string ⟨#[]⟩,.bool false,.slice none 0 0])) fun y2=>
 bind (Γ QL [x1]) fun y3=>
 bind (uop .not y3) fun y4=>
 cnd y4
 (bind (bld (.agg #[.string ⟨#[]⟩,.string ⟨#[]⟩,.string ⟨#[]⟩,.bool false,.slice none 0 0]) []) fun y5=>
 bind (stA 5 y2 y5) fun _=>
 bind (ldA 5 y2) fun y6=>
 ret (Value.tuple #[y6,(Value.int .i64 10)]))
 (bind (fa 0 y1) fun y7=>
 bind (ld1 y7) fun y8=>
 bind (Γ WO [y8,x1]) fun y9=>
 bind (bop .int .lss y9 (Value.int .i64 0)) fun y10=>
 cnd y10
 (bind (bld (.agg #[.string ⟨#[]⟩,.string ⟨#[]⟩,.string ⟨#[]⟩,.bool false,.slice none 0 0]) []) fun y11=>
 bind (stA 5 y2 y11) fun _=>
 bind (ldA 5 y2) fun y12=>
 ret (Value.tuple #[y12,(Value.int .i64 8)]))
 (bind (fa 0 y1) fun y13=>
 bind (ld1 y13) fun y14=>
 bind (ixa 5 y14 y9) fun y15=>
 bind (ldA 5 y15) fun y16=>
 bind (stA 5 y2 y16) fun _=>
 bind (ldA 5 y2) fun y17=>
 ret (Value.tuple #[y17,(Value.int .i64 0)])))
theorem Ztt (Γ : Zc) (x0 x1 : Value) : Zz Tryz.prog Γ Tryz.f140 Zlv [x0,x1]=ZcC Γ x0 x1:=by kernel_rfl
theorem ZrN {prim : FuncId→Option (List Value→M Value)} (hp : prim J7=none) (n : Nat) (x0 x1 : Value) : run Tryz.prog prim lvs (n+1) J7 [x0,x1]=ZcC (run Tryz.prog prim lvs n) x0 x1:=
 (Zl hp (by kernel_rfl) Tryz.func140 (by kernel_rfl)).trans (Ztt _ x0 x1)
noncomputable def Zih (Γ : Zc) (x0 : Value) : M Value:=
 bind (JV x0) fun y1=>
 bind (bop .int .geq y1 (Value.int .i64 1)) fun y2=>
 bind (ZH y2 true 3 (bind (JV x0) fun y3=>
 bind (bop .int .leq y3 (Value.int .i64 12)) fun y4=>
 ret [x0,y3,y4])) (c3 fun _ _ q5_2=>
 bind (pick y2 q5_2 (Value.bool false)) fun y6=>
 bind (ZH y6 true 2 (bind (Γ Zc5 [x0,(Value.string ⟨#[48,49,50,51,52,53,54,55,56,57,97,98,99,100,101,102]⟩)]) fun y7=>
 ret [x0,y7])) (c2 fun _ q8_1=>
 bind (pick y6 q8_1 (Value.bool false)) fun y9=>
 ret y9))
theorem ZtD (Γ : Zc) (x0 : Value) : Zz Tryz.prog Γ Tryz.f141 Zls [x0]=Zih Γ x0:=by kernel_rfl
theorem Zr4 {prim : FuncId→Option (List Value→M Value)} (hp : prim Zaz=none) (n : Nat) (x0 : Value) : run Tryz.prog prim lvs (n+1) Zaz [x0]=Zih (run Tryz.prog prim lvs n) x0:=
 (Zl hp (by kernel_rfl) Tryz.func141 (by kernel_rfl)).trans (ZtD _ x0)
noncomputable def Zjo (Γ : Zc) (x0 x1 : Value) : M Value:=
 bind (alc 1 x0) fun y1=>
 bind (alc 1 x1) fun y2=>
 bind (alc 1 (.agg #[.slice none 0 0,.slice none 0 0])) fun y3=>
 bind (fa 0 y1) fun y4=>
 bind (ld1 y4) fun y5=>
 bind (ldA 5 y2) fun y6=>
 bind (Γ Zat [y5,y6]) fun y7=>
 bind (fa 0 y1) fun y8=>
 bind (st1 y8 y7) fun _=>
 bind (ldA 2 y1) fun y9=>
 bind (stA 2 y3 y9) fun _=>
 bind (ldA 2 y3) fun y10=>
 ret y10
theorem Zvh (Γ : Zc) (x0 x1 : Value) : Zz Tryz.prog Γ Tryz.f142 Zns [x0,x1]=Zjo Γ x0 x1:=by kernel_rfl
theorem Zth {prim : FuncId→Option (List Value→M Value)} (hp : prim WN=none) (n : Nat) (x0 x1 : Value) : run Tryz.prog prim lvs (n+1) WN [x0,x1]=Zjo (run Tryz.prog prim lvs n) x0 x1:=
 (Zl hp (by kernel_rfl) Tryz.func142 (by kernel_rfl)).trans (Zvh _ x0 x1)
noncomputable def Q2.l1 (Γ : Zc) (s0 s4 : Value) : M Out:=
 bind (JV s0) fun y4=>
 bind (bop .int .lss s4 y4) fun y5=>
 bind (ZH y5 true 4 (bind (ixs s0 s4) fun y6=>
 bind (bop .int .neq y6 (Value.int .u8 64)) fun y7=>
 ret [s0,s4,y6,y7])) (c4 fun _ _ _ q8_3=>
 bind (pick y5 q8_3 (Value.bool false)) fun y9=>
 cnd y9
 (bind (bop .int .add s4 (Value.int .i64 1)) fun y10=>
 ret (.nrm [s0,y10]))
 (ret (.ext 0 [s0,s4])))
noncomputable def Q2.l2 (Γ : Zc) (s0 s5 s6 s7 : Value) : M Out:=
 bind (JV s0) fun y21=>
 bind (bop .int .lss s7 y21) fun y22=>
 cnd y22
 (bind (ixs s0 s7) fun y23=>
 bind (bop .int .eql y23 (Value.int .u8 46)) fun y24=>
 jn (cnd y24
 (bind (bop .int .eql s6 (Value.int .i64 0)) fun y25=>
 cnd y25
 (ret (.ret (Value.tuple #[(Value.string ⟨#[]⟩),(Value.bool false)])))
 (bind (bop .int .add s5 (Value.int .i64 1)) fun y26=>
 ret (.nrm [s0,y26,(Value.int .i64 0),s7])))
 (bind (ixs s0 s7) fun y27=>
 bind (Γ Zau [y27,(Value.string ⟨#[97,98,99,100,101,102,103,104,105,106,107,108,109,110,111,112,113,114,115,116,117,118,119,120,121,122,48,49,50,51,52,53,54,55,56,57]⟩)]) fun y28=>
 bind (uop .not y28) fun y29=>
 cnd y29
 (ret (.ret (Value.tuple #[(Value.string ⟨#[]⟩),(Value.bool false)])))
 (bind (bop .int .add s6 (Value.int .i64 1)) fun y30=>
 ret (.nrm [s0,s5,y30,s7])))) (c4 fun q31_0 q31_1 q31_2 q31_3=>
 bind (bop .int .add q31_3 (Value.int .i64 1)) fun y32=>
 ret (.nrm [q31_0,q31_1,q31_2,y32])) noX ZX)
 (ret (.ext 2 [s0,s5,s6]))
noncomputable def Q2 (Γ : Zc) (x0 : Value) : M Value:=
 bind (JV x0) fun y1=>
 bind (bop .int .gtr y1 (Value.int .i64 20)) fun y2=>
 cnd y2
 (ret (Value.tuple #[(Value.string ⟨#[]⟩),(Value.bool false)]))
 (bind (Γ ZdG [x0]) fun y3=>
 jn (Zi (c2 (Q2.l1 Γ)) [y3,(Value.int .i64 0)]) noN (xk 0 (c2 fun q12_0 q12_1=>
 bind (JV q12_0) fun y13=>
 bind (bop .int .eql q12_1 y13) fun y14=>
 bind (ZH y14 false 5 (bind (sls q12_0 none (some q12_1)) fun y15=>
 bind (Γ QL [y15]) fun y16=>
 bind (uop .not y16) fun y17=>
 ret [q12_0,q12_1,y15,y16,y17])) (c5 fun _ _ _ _ q18_4=>
 bind (pick y14 (Value.bool true) q18_4) fun y19=>
 cnd y19
 (ret (Value.tuple #[(Value.string ⟨#[]⟩),(Value.bool false)]))
 (bind (bop .int .add q12_1 (Value.int .i64 1)) fun y20=>
 jn (Zi (c4 (Q2.l2 Γ)) [q12_0,(Value.int .i64 0),(Value.int .i64 0),y20]) noN (xk 2 (c3 fun q35_0 q35_1 q35_2=>
 bind (bop .int .eql q35_1 (Value.int .i64 0)) fun y36=>
 bind (ZH y36 false 2 (bind (bop .int .eql q35_2 (Value.int .i64 0)) fun y37=>
 ret [q35_2,y37])) (c2 fun _ q38_1=>
 bind (pick y36 (Value.bool true) q38_1) fun y39=>
 cnd y39
 (ret (Value.tuple #[(Value.string ⟨#[]⟩),(Value.bool false)]))
 (ret (Value.tuple #[q35_0,(Value.bool true)])))) noX) ret))) noX) ret)
theorem Ztj (Γ : Zc) (x0 : Value) : Zz Tryz.prog Γ Tryz.f143 Zks [x0]=Q2 Γ x0:=by kernel_rfl
theorem ZrT {prim : FuncId→Option (List Value→M Value)} (hp : prim ZbD=none) (n : Nat) (x0 : Value) : run Tryz.prog prim lvs (n+1) ZbD [x0]=Q2 (run Tryz.prog prim lvs n) x0:=
 (Zl hp (by kernel_rfl) Tryz.func143 (by kernel_rfl)).trans (Ztj _ x0)
noncomputable def Zar.l1 (Γ : Zc) (s3 s5 s6 s9 s10 s11 : Value) : M Out:=
 bind (bop .int .lss s11 s10) fun y3=>
 cnd y3
 (bind (ixa 5 s9 s11) fun y4=>
 bind (ldA 5 y4) fun y5=>
 bind (alc 1 (.agg #[.string ⟨#[]⟩,.string ⟨#[]⟩,.string ⟨#[]⟩,.bool false,.slice none 0 0])) fun y6=>
 bind (stA 5 y6 y5) fun _=>
 bind (uop .not s6) fun y7=>
 bind (ZH y7 true 5 (bind (fa 0 s3) fun y8=>
 bind (ld1 y8) fun y9=>
 bind (fa 0 y6) fun y10=>
 bind (ld1 y10) fun y11=>
 bind (bop .str .leq y9 y11) fun y12=>
 ret [y8,y9,y10,y11,y12])) (c5 fun _ _ _ _ q13_4=>
 bind (pick y7 q13_4 (Value.bool false)) fun y14=>
 jn (cnd y14
 (bind (ldA 5 s3) fun y15=>
 bind (bsl 5 1 (.agg #[.string ⟨#[]⟩,.string ⟨#[]⟩,.string ⟨#[]⟩,.bool false,.slice none 0 0]) [(0,5,y15)]) fun y16=>
 bind (app 5 80 s5 y16) fun y17=>
 ret (.nrm [s3,y17,(Value.bool true),y6,s9,s10,s11]))
 (ret (.nrm [s3,s5,s6,y6,s9,s10,s11]))) (c7 fun q18_0 q18_1 q18_2 q18_3 q18_4 q18_5 q18_6=>
 bind (fa 0 q18_3) fun y19=>
 bind (ld1 y19) fun y20=>
 bind (fa 0 q18_0) fun y21=>
 bind (ld1 y21) fun y22=>
 bind (bop .str .neq y20 y22) fun y23=>
 jn (cnd y23
 (bind (ldA 5 q18_3) fun y24=>
 bind (bsl 5 1 (.agg #[.string ⟨#[]⟩,.string ⟨#[]⟩,.string ⟨#[]⟩,.bool false,.slice none 0 0]) [(0,5,y24)]) fun y25=>
 bind (app 5 80 q18_1 y25) fun y26=>
 ret (.nrm [q18_0,y26,q18_2,q18_4,q18_5,q18_6]))
 (ret (.nrm [q18_0,q18_1,q18_2,q18_4,q18_5,q18_6]))) (c6 fun q27_0 q27_1 q27_2 q27_3 q27_4 q27_5=>
 bind (bop .int .add q27_5 (Value.int .i64 1)) fun y28=>
 ret (.nrm [q27_0,q27_1,q27_2,q27_3,q27_4,y28])) noX ZX) noX ZX))
 (ret (.ext 0 [s3,s5,s6]))
noncomputable def Zar (Γ : Zc) (x0 x1 : Value) : M Value:=
 bind (alc 1 x1) fun y1=>
 bind (Zy x0) fun y2=>
 jn (Zi (c6 (Zar.l1 Γ)) [y1,(Value.slice none 0 0),(Value.bool false),x0,y2,(Value.int .i64 0)]) noN (xk 0 (c3 fun q32_0 q32_1 q32_2=>
 bind (uop .not q32_2) fun y33=>
 jn (cnd y33
 (bind (ldA 5 q32_0) fun y34=>
 bind (bsl 5 1 (.agg #[.string ⟨#[]⟩,.string ⟨#[]⟩,.string ⟨#[]⟩,.bool false,.slice none 0 0]) [(0,5,y34)]) fun y35=>
 bind (app 5 80 q32_1 y35) fun y36=>
 ret (.nrm [y36]))
 (ret (.nrm [q32_1]))) (c1 fun q37_0=>
 ret q37_0) noX ret) noX) ret
theorem ZuE (Γ : Zc) (x0 x1 : Value) : Zz Tryz.prog Γ Tryz.f144 Zng [x0,x1]=Zar Γ x0 x1:=by kernel_rfl
theorem Zux {prim : FuncId→Option (List Value→M Value)} (hp : prim Zat=none) (n : Nat) (x0 x1 : Value) : run Tryz.prog prim lvs (n+1) Zat [x0,x1]=Zar (run Tryz.prog prim lvs n) x0 x1:=
 (Zl hp (by kernel_rfl) Tryz.func144 (by kernel_rfl)).trans (ZuE _ x0 x1)
noncomputable def K7.l1 (Γ : Zc) (s1 s5 s8 s9 s10 : Value) : M Out:=
 bind (bop .int .lss s10 s9) fun y2=>
 cnd y2
 (bind (ixa 5 s8 s10) fun y3=>
 bind (ldA 5 y3) fun y4=>
 bind (alc 1 (.agg #[.string ⟨#[]⟩,.string ⟨#[]⟩,.string ⟨#[]⟩,.bool false,.slice none 0 0])) fun y5=>
 bind (stA 5 y5 y4) fun _=>
 bind (fa 0 y5) fun y6=>
 bind (ld1 y6) fun y7=>
 bind (bop .str .neq y7 s1) fun y8=>
 jn (cnd y8
 (bind (ldA 5 y5) fun y9=>
 bind (bsl 5 1 (.agg #[.string ⟨#[]⟩,.string ⟨#[]⟩,.string ⟨#[]⟩,.bool false,.slice none 0 0]) [(0,5,y9)]) fun y10=>
 bind (app 5 80 s5 y10) fun y11=>
 ret (.nrm [s1,y11,s8,s9,s10]))
 (ret (.nrm [s1,s5,s8,s9,s10]))) (c5 fun q12_0 q12_1 q12_2 q12_3 q12_4=>
 bind (bop .int .add q12_4 (Value.int .i64 1)) fun y13=>
 ret (.nrm [q12_0,q12_1,q12_2,q12_3,y13])) noX ZX)
 (ret (.ext 0 [s5]))
noncomputable def K7 (Γ : Zc) (x0 x1 : Value) : M Value:=
 bind (Zy x0) fun y1=>
 jn (Zi (c5 (K7.l1 Γ)) [x1,(Value.slice none 0 0),x0,y1,(Value.int .i64 0)]) noN (xk 0 (c1 fun q16_0=>
 ret q16_0) noX) ret
theorem ZtF (Γ : Zc) (x0 x1 : Value) : Zz Tryz.prog Γ Tryz.f145 Zlt [x0,x1]=K7 Γ x0 x1:=by kernel_rfl
theorem Zse {prim : FuncId→Option (List Value→M Value)} (hp : prim ZbC=none) (n : Nat) (x0 x1 : Value) : run Tryz.prog prim lvs (n+1) ZbC [x0,x1]=K7 (run Tryz.prog prim lvs n) x0 x1:=
 (Zl hp (by kernel_rfl) Tryz.func145 (by kernel_rfl)).trans (ZtF _ x0 x1)
noncomputable def Kq (Γ : Zc) (x0 x1 x2 : Value) : M Value:=
 bind (Γ Q9 [x2]) fun y1=>
 bind (bop .int .neq y1 (Value.int .i64 0)) fun y2=>
 cnd y2
 (ret y1)
 (bind (Qc x0) fun y3=>
 bind (fa 1 y3) fun y4=>
 bind (ld1 y4) fun y5=>
 bind (lkp .str (.string ⟨#[]⟩) true y5 x1) fun y6=>
 bind (Zm y6 0) fun y7=>
 bind (Zm y6 1) fun y8=>
 bind (Qc x0) fun y9=>
 bind (fa 1 y9) fun y10=>
 bind (ld1 y10) fun y11=>
 bind (lkp .str (.string ⟨#[]⟩) true y11 x2) fun y12=>
 bind (Zm y12 0) fun y13=>
 bind (Zm y12 1) fun y14=>
 bind (uop .not y8) fun y15=>
 cnd y15
 (ret (Value.int .i64 8))
 (bind (ZH y14 true 3 (bind (bop .str .neq x2 x1) fun y16=>
 ret [x2,x1,y16])) (c3 fun _ _ q17_2=>
 bind (pick y14 q17_2 (Value.bool false)) fun y18=>
 cnd y18
 (ret (Value.int .i64 9))
 (bind (Γ Jz [x0,x1]) fun y19=>
 bind (Qc x0) fun y20=>
 bind (fa 0 y20) fun y21=>
 bind (ld1 y21) fun y22=>
 bind (Qc x0) fun y23=>
 bind (fa 1 y23) fun y24=>
 bind (ld1 y24) fun y25=>
 bind (men .str (.string ⟨#[]⟩) y22 y7) fun y26=>
 bind (Zm y26 1) fun y27=>
 bind (ens y22 y27 x2) fun _=>
 bind (men .str (.string ⟨#[]⟩) y25 x2) fun y28=>
 bind (Zm y28 1) fun y29=>
 bind (ens y25 y29 y7) fun _=>
 ret (Value.int .i64 0)))))
theorem ZlH (Γ : Zc) (x0 x1 x2 : Value) : Zz Tryz.prog Γ Tryz.f146 Zf7 [x0,x1,x2]=Kq Γ x0 x1 x2:=by kernel_rfl
theorem Zkd {prim : FuncId→Option (List Value→M Value)} (hp : prim Wm=none) (n : Nat) (x0 x1 x2 : Value) : run Tryz.prog prim lvs (n+1) Wm [x0,x1,x2]=Kq (run Tryz.prog prim lvs n) x0 x1 x2:=
 (Zl hp (by kernel_rfl) Tryz.func146 (by kernel_rfl)).trans (ZlH _ x0 x1 x2)
noncomputable def QF.l1 (Γ : Zc) (s0 s1 s2 s26 s27 s28 : Value) : M Out:=
 bind (bop .int .lss s28 s27) fun y10=>
 cnd y10
 (bind (ixa 1 s26 s28) fun y11=>
 bind (ld1 y11) fun y12=>
 bind (Qc s0) fun y13=>
 bind (fa 0 y13) fun y14=>
 bind (ld1 y14) fun y15=>
 bind (lkp .str (.map none) false y15 y12) fun y16=>
 bind (mde .str y16 s1) fun _=>
 bind (Qc s0) fun y17=>
 bind (fa 0 y17) fun y18=>
 bind (ld1 y18) fun y19=>
 bind (lkp .str (.map none) false y19 y12) fun y20=>
 bind (bld (.agg #[]) []) fun y21=>
 bind (mup .str y20 s2 y21) fun _=>
 bind (bop .int .add s28 (Value.int .i64 1)) fun y22=>
 ret (.nrm [s0,s1,s2,s26,s27,y22]))
 (ret (.ext 0 []))
noncomputable def QF (Γ : Zc) (x0 x1 x2 : Value) : M Value:=
 bind (bsl 1 1 (.string ⟨#[]⟩) [(0,1,x2)]) fun y1=>
 bind (Γ Za0 [y1]) fun y2=>
 bind (bop .int .neq y2 (Value.int .i64 0)) fun y3=>
 cnd y3
 (ret y2)
 (bind (bop .str .eql x1 x2) fun y4=>
 cnd y4
 (ret (Value.int .i64 0))
 (bind (Γ J4 [x0,x2]) fun y5=>
 bind (Zy y5) fun y6=>
 bind (bop .int .gtr y6 (Value.int .i64 0)) fun y7=>
 cnd y7
 (ret (Value.int .i64 9))
 (bind (Γ J4 [x0,x1]) fun y8=>
 bind (Zy y8) fun y9=>
 jn (Zi (c6 (QF.l1 Γ)) [x0,x1,x2,y8,y9,(Value.int .i64 0)]) noN (xk 0 (c0 (ret (Value.int .i64 0))) noX) ret)))
theorem ZiS (Γ : Zc) (x0 x1 x2 : Value) : Zz Tryz.prog Γ Tryz.f147 Ze3 [x0,x1,x2]=QF Γ x0 x1 x2:=by kernel_rfl
theorem Zix {prim : FuncId→Option (List Value→M Value)} (hp : prim Kx=none) (n : Nat) (x0 x1 x2 : Value) : run Tryz.prog prim lvs (n+1) Kx [x0,x1,x2]=QF (run Tryz.prog prim lvs n) x0 x1 x2:=
 (Zl hp (by kernel_rfl) Tryz.func147 (by kernel_rfl)).trans (ZiS _ x0 x1 x2)
noncomputable def ZbA (Γ : Zc) (x0 x1 : Value) : M Value:=
 bind (alc 1 x0) fun y1=>
 bind (alc 1 (.agg #[.slice none 0 0,.slice none 0 0])) fun y2=>
 bind (Γ QL [x1]) fun y3=>
 bind (uop .not y3) fun y4=>
 cnd y4
 (bind (ldA 2 y1) fun y5=>
 bind (stA 2 y2 y5) fun _=>
 bind (ldA 2 y2) fun y6=>
 ret (Value.tuple #[y6,(Value.int .i64 10)]))
 (bind (fa 0 y1) fun y7=>
 bind (ld1 y7) fun y8=>
 bind (Γ Zan [y8,x1]) fun y9=>
 cnd y9
 (bind (ldA 2 y1) fun y10=>
 bind (stA 2 y2 y10) fun _=>
 bind (ldA 2 y2) fun y11=>
 ret (Value.tuple #[y11,(Value.int .i64 9)]))
 (bind (fa 0 y1) fun y12=>
 bind (ld1 y12) fun y13=>
 bind (Zy y13) fun y14=>
 bind (bop .int .geq y14 (Value.int .i64 6)) fun y15=>
 cnd y15
 (bind (ldA 2 y1) fun y16=>
 bind (stA 2 y2 y16) fun _=>
 bind (ldA 2 y2) fun y17=>
 ret (Value.tuple #[y17,(Value.int .i64 7)]))
 (bind (bsl 1 0 (.string ⟨#[]⟩) []) fun y18=>
 bind (fa 0 y1) fun y19=>
 bind (ld1 y19) fun y20=>
 bind (app 1 16 y18 y20) fun y21=>
 bind (bsl 1 1 (.string ⟨#[]⟩) [(0,1,x1)]) fun y22=>
 bind (app 1 16 y21 y22) fun y23=>
 bind (Γ W8 [y23]) fun y24=>
 bind (fa 0 y1) fun y25=>
 bind (st1 y25 y24) fun _=>
 bind (ldA 2 y1) fun y26=>
 bind (stA 2 y2 y26) fun _=>
 bind (ldA 2 y2) fun y27=>
 ret (Value.tuple #[y27,(Value.int .i64 0)]))))
theorem ZsV (Γ : Zc) (x0 x1 : Value) : Zz Tryz.prog Γ Tryz.f148 Zk5 [x0,x1]=ZbA Γ x0 x1:=by kernel_rfl
theorem ZrR {prim : FuncId→Option (List Value→M Value)} (hp : prim ZdE=none) (n : Nat) (x0 x1 : Value) : run Tryz.prog prim lvs (n+1) ZdE [x0,x1]=ZbA (run Tryz.prog prim lvs n) x0 x1:=
 (Zl hp (by kernel_rfl) Tryz.func148 (by kernel_rfl)).trans (ZsV _ x0 x1)
noncomputable def Jd.l1 (Γ : Zc) (s1 s2 s4 s6 s23 s24 s25 : Value) : M Out:=
 bind (bop .int .lss s25 s24) fun y16=>
 cnd y16
 (bind (ixa 1 s23 s25) fun y17=>
 bind (ld1 y17) fun y18=>
 bind (bop .str .neq y18 s1) fun y19=>
 jn (cnd y19
 (bind (bsl 1 1 (.string ⟨#[]⟩) [(0,1,y18)]) fun y20=>
 bind (app 1 16 s6 y20) fun y21=>
 ret (.nrm [s1,s2,s4,y21,s23,s24,s25]))
 (ret (.nrm [s1,s2,s4,s6,s23,s24,s25]))) (c7 fun q22_0 q22_1 q22_2 q22_3 q22_4 q22_5 q22_6=>
 bind (bop .int .add q22_6 (Value.int .i64 1)) fun y23=>
 ret (.nrm [q22_0,q22_1,q22_2,q22_3,q22_4,q22_5,y23])) noX ZX)
 (ret (.ext 0 [s1,s2,s4,s6]))
noncomputable def Jd.l2 (Γ : Zc) (s1 s4 s6 s9 s38 s39 s40 : Value) : M Out:=
 bind (bop .int .lss s40 s39) fun y30=>
 cnd y30
 (bind (ixa 2 s38 s40) fun y31=>
 bind (ldA 2 y31) fun y32=>
 bind (alc 1 (.agg #[.string ⟨#[]⟩,.string ⟨#[]⟩])) fun y33=>
 bind (stA 2 y33 y32) fun _=>
 bind (fa 0 y33) fun y34=>
 bind (ld1 y34) fun y35=>
 bind (bop .str .neq y35 s1) fun y36=>
 jn (cnd y36
 (bind (ldA 2 y33) fun y37=>
 bind (bsl 2 1 (.agg #[.string ⟨#[]⟩,.string ⟨#[]⟩]) [(0,2,y37)]) fun y38=>
 bind (app 2 32 s9 y38) fun y39=>
 ret (.nrm [s1,s4,s6,y39,s38,s39,s40]))
 (ret (.nrm [s1,s4,s6,s9,s38,s39,s40]))) (c7 fun q40_0 q40_1 q40_2 q40_3 q40_4 q40_5 q40_6=>
 bind (bop .int .add q40_6 (Value.int .i64 1)) fun y41=>
 ret (.nrm [q40_0,q40_1,q40_2,q40_3,q40_4,q40_5,y41])) noX ZX)
 (ret (.ext 2 [s4,s6,s9]))
noncomputable def Jd (Γ : Zc) (x0 x1 : Value) : M Value:=
 bind (alc 1 x0) fun y1=>
 bind (alc 1 (.agg #[.slice none 0 0,.slice none 0 0])) fun y2=>
 bind (Γ QL [x1]) fun y3=>
 bind (uop .not y3) fun y4=>
 cnd y4
 (bind (ldA 2 y1) fun y5=>
 bind (stA 2 y2 y5) fun _=>
 bind (ldA 2 y2) fun y6=>
 ret (Value.tuple #[y6,(Value.int .i64 10)]))
 (bind (fa 0 y1) fun y7=>
 bind (ld1 y7) fun y8=>
 bind (Γ Zan [y8,x1]) fun y9=>
 bind (uop .not y9) fun y10=>
 cnd y10
 (bind (ldA 2 y1) fun y11=>
 bind (stA 2 y2 y11) fun _=>
 bind (ldA 2 y2) fun y12=>
 ret (Value.tuple #[y12,(Value.int .i64 8)]))
 (bind (fa 0 y1) fun y13=>
 bind (ld1 y13) fun y14=>
 bind (Zy y14) fun y15=>
 jn (Zi (c7 (Jd.l1 Γ)) [x1,y1,y2,(Value.slice none 0 0),y14,y15,(Value.int .i64 0)]) noN (xk 0 (c4 fun q26_0 q26_1 q26_2 q26_3=>
 bind (fa 1 q26_1) fun y27=>
 bind (ld1 y27) fun y28=>
 bind (Zy y28) fun y29=>
 jn (Zi (c7 (Jd.l2 Γ)) [q26_0,q26_2,q26_3,(Value.slice none 0 0),y28,y29,(Value.int .i64 0)]) noN (xk 2 (c3 fun q44_0 q44_1 q44_2=>
 bind (bld (.agg #[.slice none 0 0,.slice none 0 0]) [(0,1,q44_1),(1,1,q44_2)]) fun y45=>
 bind (stA 2 q44_0 y45) fun _=>
 bind (ldA 2 q44_0) fun y46=>
 ret (Value.tuple #[y46,(Value.int .i64 0)])) noX) ret) noX) ret))
theorem Zti (Γ : Zc) (x0 x1 : Value) : Zz Tryz.prog Γ Tryz.f149 ZkF [x0,x1]=Jd Γ x0 x1:=by kernel_rfl
theorem ZrO {prim : FuncId→Option (List Value→M Value)} (hp : prim ZdF=none) (n : Nat) (x0 x1 : Value) : run Tryz.prog prim lvs (n+1) ZdF [x0,x1]=Jd (run Tryz.prog prim lvs n) x0 x1:=
 (Zl hp (by kernel_rfl) Tryz.func149 (by kernel_rfl)).trans (Zti _ x0 x1)
noncomputable def YF.l1 (Γ : Zc) (s1 s5 s8 s9 s10 : Value) : M Out:=
 bind (bop .int .lss s10 s9) fun y2=>
 cnd y2
 (bind (ixa 1 s8 s10) fun y3=>
 bind (ld1 y3) fun y4=>
 bind (bop .str .neq y4 s1) fun y5=>
 jn (cnd y5
 (bind (bsl 1 1 (.string ⟨#[]⟩) [(0,1,y4)]) fun y6=>
 bind (app 1 16 s5 y6) fun y7=>
 ret (.nrm [s1,y7,s8,s9,s10]))
 (ret (.nrm [s1,s5,s8,s9,s10]))) (c5 fun q8_0 q8_1 q8_2 q8_3 q8_4=>
 bind (bop .int .add q8_4 (Value.int .i64 1)) fun y9=>
 ret (.nrm [q8_0,q8_1,q8_2,q8_3,y9])) noX ZX)
 (ret (.ext 0 [s5]))
noncomputable def YF (Γ : Zc) (x0 x1 : Value) : M Value:=
 bind (Zy x0) fun y1=>
 jn (Zi (c5 (YF.l1 Γ)) [x1,(Value.slice none 0 0),x0,y1,(Value.int .i64 0)]) noN (xk 0 (c1 fun q12_0=>
 ret q12_0) noX) ret
theorem Zp2 (Γ : Zc) (x0 x1 : Value) : Zz Tryz.prog Γ Tryz.f150 ZhC [x0,x1]=YF Γ x0 x1:=by kernel_rfl
theorem Zot {prim : FuncId→Option (List Value→M Value)} (hp : prim ZaF=none) (n : Nat) (x0 x1 : Value) : run Tryz.prog prim lvs (n+1) ZaF [x0,x1]=YF (run Tryz.prog prim lvs n) x0 x1:=
 (Zl hp (by kernel_rfl) Tryz.func150 (by kernel_rfl)).trans (Zp2 _ x0 x1)
noncomputable def Zab (Γ : Zc) (x0 x1 : Value) : M Value:=
 bind (Γ Yo [x0,x1,(Value.slice none 0 0)]) fun y1=>
 bind (Zm y1 0) fun y2=>
 bind (Zm y1 1) fun y3=>
 bind (bop .int .eql y3 (Value.int .i64 0)) fun y4=>
 jn (cnd y4
 (bind (Qc x0) fun y5=>
 bind (fa 0 y5) fun y6=>
 bind (ld1 y6) fun y7=>
 bind (mde .str y7 x1) fun _=>
 ret (.nrm [y3]))
 (ret (.nrm [y3]))) (c1 fun q8_0=>
 ret q8_0) noX ret
theorem Zk0 (Γ : Zc) (x0 x1 : Value) : Zz Tryz.prog Γ Tryz.f151 Zgb [x0,x1]=Zab Γ x0 x1:=by kernel_rfl
theorem Zj9 {prim : FuncId→Option (List Value→M Value)} (hp : prim Wp=none) (n : Nat) (x0 x1 : Value) : run Tryz.prog prim lvs (n+1) Wp [x0,x1]=Zab (run Tryz.prog prim lvs n) x0 x1:=
 (Zl hp (by kernel_rfl) Tryz.func151 (by kernel_rfl)).trans (Zk0 _ x0 x1)
noncomputable def Zgg (Γ : Zc) (x0 x1 x2 : Value) : M Value:=
 bind (alc 1 x0) fun y1=>
 bind (alc 1 (.agg #[.string ⟨#[]⟩,.string ⟨#[]⟩,.string ⟨#[]⟩,.bool false,.slice none 0 0])) fun y2=>
 bind (ldA 2 y1) fun y3=>
 bind (Γ J7 [y3,x2]) fun y4=>
 bind (Zm y4 0) fun y5=>
 bind (Zm y4 1) fun y6=>
 bind (alc 1 (.agg #[.string ⟨#[]⟩,.string ⟨#[]⟩,.string ⟨#[]⟩,.bool false,.slice none 0 0])) fun y7=>
 bind (stA 5 y7 y5) fun _=>
 bind (bop .int .eql y6 (Value.int .i64 10)) fun y8=>
 bind (ZH y8 false 3 (bind (Γ QL [x1]) fun y9=>
 bind (uop .not y9) fun y10=>
 ret [x1,y9,y10])) (c3 fun _ _ q11_2=>
 bind (pick y8 (Value.bool true) q11_2) fun y12=>
 cnd y12
 (bind (ldA 5 y7) fun y13=>
 bind (stA 5 y2 y13) fun _=>
 bind (ldA 5 y2) fun y14=>
 ret (Value.tuple #[y14,(Value.int .i64 10)]))
 (bind (bop .int .neq y6 (Value.int .i64 0)) fun y15=>
 bind (ZH y15 false 5 (bind (fa 1 y1) fun y16=>
 bind (ld1 y16) fun y17=>
 bind (Γ Wa [y17,x1]) fun y18=>
 bind (uop .not y18) fun y19=>
 ret [y16,y17,x1,y18,y19])) (c5 fun _ _ _ _ q20_4=>
 bind (pick y15 (Value.bool true) q20_4) fun y21=>
 cnd y21
 (bind (ldA 5 y7) fun y22=>
 bind (stA 5 y2 y22) fun _=>
 bind (ldA 5 y2) fun y23=>
 ret (Value.tuple #[y23,(Value.int .i64 8)]))
 (bind (ldA 5 y7) fun y24=>
 bind (stA 5 y2 y24) fun _=>
 bind (ldA 5 y2) fun y25=>
 ret (Value.tuple #[y25,(Value.int .i64 0)])))))
theorem ZqK (Γ : Zc) (x0 x1 x2 : Value) : Zz Tryz.prog Γ Tryz.f152 Ziz [x0,x1,x2]=Zgg Γ x0 x1 x2:=by kernel_rfl
theorem Zpu {prim : FuncId→Option (List Value→M Value)} (hp : prim Zbd=none) (n : Nat) (x0 x1 x2 : Value) : run Tryz.prog prim lvs (n+1) Zbd [x0,x1,x2]=Zgg (run Tryz.prog prim lvs n) x0 x1 x2:=
 (Zl hp (by kernel_rfl) Tryz.func152 (by kernel_rfl)).trans (ZqK _ x0 x1 x2)
noncomputable def Jg.l2 (Γ : Zc) (s5 s6 s7 s10 s11 s12 s19 s20 s21 : Value) : M Out:=
 bind (bop .int .lss s21 s20) fun y7=>
 cnd y7
 (bind (ixa 1 s19 s21) fun y8=>
 bind (ld1 y8) fun y9=>
 bind (uop .not s7) fun y10=>
 bind (ZH y10 true 3 (bind (bop .str .lss s5 y9) fun y11=>
 ret [s5,y9,y11])) (c3 fun _ _ q12_2=>
 bind (pick y10 q12_2 (Value.bool false)) fun y13=>
 jn (cnd y13
 (bind (bsl 1 1 (.string ⟨#[]⟩) [(0,1,s5)]) fun y14=>
 bind (app 1 16 s6 y14) fun y15=>
 ret (.nrm [s5,y15,(Value.bool true),y9,s10,s11,s12,s19,s20,s21]))
 (ret (.nrm [s5,s6,s7,y9,s10,s11,s12,s19,s20,s21]))) (c10 fun q16_0 q16_1 q16_2 q16_3 q16_4 q16_5 q16_6 q16_7 q16_8 q16_9=>
 bind (bsl 1 1 (.string ⟨#[]⟩) [(0,1,q16_3)]) fun y17=>
 bind (app 1 16 q16_1 y17) fun y18=>
 bind (bop .int .add q16_9 (Value.int .i64 1)) fun y19=>
 ret (.nrm [q16_0,y18,q16_2,q16_4,q16_5,q16_6,q16_7,q16_8,y19])) noX ZX))
 (ret (.ext 2 [s5,s6,s7,s10,s11,s12]))
noncomputable def Jg.l1 (Γ : Zc) (s3 s10 s11 s12 : Value) : M Out:=
 bind (bop .int .lss s12 s11) fun y2=>
 cnd y2
 (jn (bind (ixa 1 s10 s12) fun y3=>
 bind (ld1 y3) fun y4=>
 bind (Γ Zan [s3,y4]) fun y5=>
 cnd y5
 (ret (.nrm [s3,s10,s11,s12]))
 (bind (Zy s3) fun y6=>
 jn (Zi (c9 (Jg.l2 Γ)) [y4,(Value.slice none 0 0),(Value.bool false),s10,s11,s12,s3,y6,(Value.int .i64 0)]) noN (xk 2 (c6 fun q22_0 q22_1 q22_2 q22_3 q22_4 q22_5=>
 bind (uop .not q22_2) fun y23=>
 jn (cnd y23
 (bind (bsl 1 1 (.string ⟨#[]⟩) [(0,1,q22_0)]) fun y24=>
 bind (app 1 16 q22_1 y24) fun y25=>
 ret (.nrm [y25,q22_3,q22_4,q22_5]))
 (ret (.nrm [q22_1,q22_3,q22_4,q22_5]))) (c4 fun q26_0 q26_1 q26_2 q26_3=>
 ret (.nrm [q26_0,q26_1,q26_2,q26_3])) noX ZX) noX) ZX)) (c4 fun q29_0 q29_1 q29_2 q29_3=>
 bind (bop .int .add q29_3 (Value.int .i64 1)) fun y30=>
 ret (.nrm [q29_0,q29_1,q29_2,y30])) noX ZX)
 (ret (.ext 0 [s3]))
noncomputable def Jg (Γ : Zc) (x0 : Value) : M Value:=
 bind (Zy x0) fun y1=>
 jn (Zi (c4 (Jg.l1 Γ)) [(Value.slice none 0 0),x0,y1,(Value.int .i64 0)]) noN (xk 0 (c1 fun q33_0=>
 ret q33_0) noX) ret
theorem ZqI (Γ : Zc) (x0 : Value) : Zz Tryz.prog Γ Tryz.f153 ZiM [x0]=Jg Γ x0:=by kernel_rfl
theorem Zpq {prim : FuncId→Option (List Value→M Value)} (hp : prim W8=none) (n : Nat) (x0 : Value) : run Tryz.prog prim lvs (n+1) W8 [x0]=Jg (run Tryz.prog prim lvs n) x0:=
 (Zl hp (by kernel_rfl) Tryz.func153 (by kernel_rfl)).trans (ZqI _ x0)
noncomputable def ZaV (Γ : Zc) (x0 x1 x2 : Value) : M Value:=
 bind (Γ Q9 [x1]) fun y1=>
 bind (bop .int .neq y1 (Value.int .i64 0)) fun y2=>
 cnd y2
 (ret y1)
 (bind (Γ QY [x0,x2]) fun y3=>
 bind (Zm y3 0) fun y4=>
 bind (Zm y3 1) fun y5=>
 bind (alc 1 (.agg #[.string ⟨#[]⟩,.bool false])) fun y6=>
 bind (stA 2 y6 y4) fun _=>
 ret y5)
theorem ZmS (Γ : Zc) (x0 x1 x2 : Value) : Zz Tryz.prog Γ Tryz.f154 ZgA [x0,x1,x2]=ZaV Γ x0 x1 x2:=by kernel_rfl
theorem Zly {prim : FuncId→Option (List Value→M Value)} (hp : prim WF=none) (n : Nat) (x0 x1 x2 : Value) : run Tryz.prog prim lvs (n+1) WF [x0,x1,x2]=ZaV (run Tryz.prog prim lvs n) x0 x1 x2:=
 (Zl hp (by kernel_rfl) Tryz.func154 (by kernel_rfl)).trans (ZmS _ x0 x1 x2)
noncomputable def KV (Γ : Zc) (x0 x1 x2 : Value) : M Value:=
 bind (bsl 1 1 (.string ⟨#[]⟩) [(0,1,x2)]) fun y1=>
 bind (Γ Yo [x0,x1,y1]) fun y2=>
 bind (Zm y2 0) fun y3=>
 bind (Zm y2 1) fun y4=>
 bind (bop .int .neq y4 (Value.int .i64 0)) fun y5=>
 cnd y5
 (ret y4)
 (bind (lkp .str (.agg #[]) true y3 x2) fun y6=>
 bind (Zm y6 0) fun y7=>
 bind (Zm y6 1) fun y8=>
 bind (alc 1 (.agg #[])) fun y9=>
 bind (stA 0 y9 y7) fun _=>
 bind (uop .not y8) fun y10=>
 cnd y10
 (ret (Value.int .i64 12))
 (bind (mde .str y3 x2) fun _=>
 ret (Value.int .i64 0)))
theorem Zkn (Γ : Zc) (x0 x1 x2 : Value) : Zz Tryz.prog Γ Tryz.f155 Zfh [x0,x1,x2]=KV Γ x0 x1 x2:=by kernel_rfl
theorem Zjv {prim : FuncId→Option (List Value→M Value)} (hp : prim K0=none) (n : Nat) (x0 x1 x2 : Value) : run Tryz.prog prim lvs (n+1) K0 [x0,x1,x2]=KV (run Tryz.prog prim lvs n) x0 x1 x2:=
 (Zl hp (by kernel_rfl) Tryz.func155 (by kernel_rfl)).trans (Zkn _ x0 x1 x2)
noncomputable def ZeG (Γ : Zc) (x0 : Value) : M Value:=
 bind (Qc x0) fun y1=>
 bind (fa 0 y1) fun y2=>
 bind (ld1 y2) fun y3=>
 bind (Qc x0) fun y4=>
 bind (fa 1 y4) fun y5=>
 bind (ld1 y5) fun y6=>
 bind (Γ Qw [y3]) fun y7=>
 bind (ld1 y5) fun u_8=>same u_8 y6 <|
 bind (Γ Qw [y6]) fun y9=>
 bind (bld (.agg #[.map none,.map none]) [(0,1,y7),(1,1,y9)]) fun y10=>
 bind (alc 1 y10) fun y11=>
 ret y11
theorem Zor (Γ : Zc) (x0 : Value) : Zz Tryz.prog Γ Tryz.f157 Zhp [x0]=ZeG Γ x0:=by kernel_rfl
theorem ZmL {prim : FuncId→Option (List Value→M Value)} (hp : prim Zbg=none) (n : Nat) (x0 : Value) : run Tryz.prog prim lvs (n+1) Zbg [x0]=ZeG (run Tryz.prog prim lvs n) x0:=
 (Zl hp (by kernel_rfl) Tryz.func157 (by kernel_rfl)).trans (Zor _ x0)
noncomputable def ZoE.l1 (Γ : Zc) (s0 s5 s6 s7 : Value) : M Out:=
 bind (bop .int .lss s7 s6) fun y1=>
 cnd y1
 (bind (bop .int .rem s0 (Value.int .u64 256)) fun y2=>
 bind (cvi .u8 y2) fun y3=>
 bind (bsl 1 1 (.int .u8 0) [(0,1,y3)]) fun y4=>
 bind (b2s y4) fun y5=>
 bind (bop .str .add s5 y5) fun y6=>
 bind (bop .int .quo s0 (Value.int .u64 256)) fun y7=>
 bind (bop .int .add s7 (Value.int .i64 1)) fun y8=>
 ret (.nrm [y7,y6,s6,y8]))
 (ret (.ext 0 [s5]))
noncomputable def ZoE (Γ : Zc) (x0 x1 : Value) : M Value:=
 jn (Zi (c4 (ZoE.l1 Γ)) [x0,(Value.string ⟨#[]⟩),x1,(Value.int .i64 0)]) noN (xk 0 (c1 fun q10_0=>
 ret q10_0) noX) ret
noncomputable def Zhx.l1 (Γ : Zc) (s1 s2 s4 s7 s24 s25 : Value) : M Out:=
 bind (bop .int .lss s25 s24) fun y16=>
 cnd y16
 (bind (ldA 2 s2) fun y17=>
 bind (Γ ZpY [y17,s1]) fun y18=>
 bind (Zm y18 0) fun y19=>
 bind (Zm y18 1) fun y20=>
 bind (alc 1 (.agg #[.string ⟨#[]⟩,.int .i64 0])) fun y21=>
 bind (alc 1 (.agg #[.string ⟨#[]⟩,.string ⟨#[]⟩,.string ⟨#[]⟩,.bool false,.slice none 0 0])) fun y22=>
 bind (stA 2 y21 y19) fun _=>
 bind (stA 5 y22 y20) fun _=>
 bind (ldA 2 y21) fun y23=>
 bind (stA 2 s2 y23) fun _=>
 bind (ldA 5 y22) fun y24=>
 bind (bsl 5 1 (.agg #[.string ⟨#[]⟩,.string ⟨#[]⟩,.string ⟨#[]⟩,.bool false,.slice none 0 0]) [(0,5,y24)]) fun y25=>
 bind (app 5 80 s7 y25) fun y26=>
 bind (bop .int .add s25 (Value.int .u64 1)) fun y27=>
 ret (.nrm [s1,s2,s4,y26,s24,y27]))
 (ret (.ext 0 [s1,s2,s4,s7]))
noncomputable def Zhx (Γ : Zc) (x0 x1 : Value) : M Value:=
 bind (alc 1 x0) fun y1=>
 bind (alc 1 (.agg #[.string ⟨#[]⟩,.int .i64 0])) fun y2=>
 bind (ldA 2 y1) fun y3=>
 bind (Γ Zjg [y3,(Value.int .i64 2)]) fun y4=>
 bind (Zm y4 0) fun y5=>
 bind (Zm y4 1) fun y6=>
 bind (stA 2 y1 y5) fun _=>
 bind (fa 1 y1) fun y7=>
 bind (ld1 y7) fun y8=>
 bind (bop .int .eql y8 (Value.int .i64 0)) fun y9=>
 bind (ZH y9 true 2 (bind (bop .int .gtr y6 (Value.int .u64 12)) fun y10=>
 ret [y6,y10])) (c2 fun _ q11_1=>
 bind (pick y9 q11_1 (Value.bool false)) fun y12=>
 cnd y12
 (bind (ldA 2 y1) fun y13=>
 bind (Γ Zm6 [y13,(Value.int .i64 7)]) fun y14=>
 bind (stA 2 y2 y14) fun _=>
 bind (ldA 2 y2) fun y15=>
 ret (Value.tuple #[y15,(Value.slice none 0 0)]))
 (jn (Zi (c6 (Zhx.l1 Γ)) [x1,y1,y2,(Value.slice none 0 0),y6,(Value.int .u64 0)]) noN (xk 0 (c4 fun q29_0 q29_1 q29_2 q29_3=>
 bind (fa 1 q29_1) fun y30=>
 bind (ld1 y30) fun y31=>
 bind (bop .int .eql y31 (Value.int .i64 0)) fun y32=>
 jn (cnd y32
 (bind (ldA 2 q29_1) fun y33=>
 bind (Γ Zrk [q29_3,q29_0]) fun y34=>
 bind (ldA 2 q29_1) fun u_35=>same u_35 y33 <|
 bind (Γ Zm6 [y33,y34]) fun y36=>
 bind (stA 2 q29_1 y36) fun _=>
 ret (.nrm [q29_1,q29_2,q29_3]))
 (ret (.nrm [q29_1,q29_2,q29_3]))) (c3 fun q37_0 q37_1 q37_2=>
 bind (fa 1 q37_0) fun y38=>
 bind (ld1 y38) fun y39=>
 bind (bop .int .neq y39 (Value.int .i64 0)) fun y40=>
 cnd y40
 (bind (ldA 2 q37_0) fun y41=>
 bind (stA 2 q37_1 y41) fun _=>
 bind (ldA 2 q37_1) fun y42=>
 ret (Value.tuple #[y42,(Value.slice none 0 0)]))
 (bind (ldA 2 q37_0) fun y43=>
 bind (stA 2 q37_1 y43) fun _=>
 bind (ldA 2 q37_1) fun y44=>
 ret (Value.tuple #[y44,q37_2]))) noX ret) noX) ret))
noncomputable def Zd2 (Γ : Zc) (x0 x1 x2 : Value) : M Value:=
 bind (ld1 x1) fun y1=>
 bind (Qc y1) fun y2=>
 bind (fa 0 y2) fun y3=>
 bind (ld1 y3) fun y4=>
 bind (lkp .str (.map none) false y4 x0) fun y5=>
 bind (ld1 x2) fun y6=>
 bind (lkp .str (.agg #[]) true y5 y6) fun y7=>
 bind (Zm y7 0) fun y8=>
 bind (Zm y7 1) fun y9=>
 bind (alc 1 (.agg #[])) fun y10=>
 bind (lkp .str (.agg #[]) true y5 y6) fun u_11=>same u_11 y7 <|
 bind (ld1 x2) fun u_12=>same u_12 y6 <|
 bind (lkp .str (.map none) false y4 x0) fun u_13=>same u_13 y5 <|
 bind (ld1 y3) fun u_14=>same u_14 y4 <|
 bind (ld1 x1) fun u_15=>same u_15 y1 <|
 bind (stA 0 y10 y8) fun _=>
 bind (uop .not y9) fun y16=>
 ret y16
theorem ZmB (Γ : Zc) (x0 x1 x2 : Value) : Zz Tryz.prog Γ Tryz.f166 Zgp [x0,x1,x2]=Zd2 Γ x0 x1 x2:=by kernel_rfl
theorem Zl5 {prim : FuncId→Option (List Value→M Value)} (hp : prim KQ=none) (n : Nat) (x0 x1 x2 : Value) : run Tryz.prog prim lvs (n+1) KQ [x0,x1,x2]=Zd2 (run Tryz.prog prim lvs n) x0 x1 x2:=
 (Zl hp (by kernel_rfl) Tryz.func166 (by kernel_rfl)).trans (ZmB _ x0 x1 x2)
noncomputable def Zay.l1 (Γ : Zc) (s0 s1 s7 s8 : Value) : M Out:=
 bind (bop .int .lss s8 s7) fun y2=>
 cnd y2
 (bind (ixs s0 s8) fun y3=>
 bind (Jr Γ s1 [y3]) fun y4=>
 bind (uop .not y4) fun y5=>
 cnd y5
 (ret (.ret (Value.bool false)))
 (bind (bop .int .add s8 (Value.int .i64 1)) fun y6=>
 ret (.nrm [s0,s1,s7,y6])))
 (ret (.ext 0 []))
noncomputable def Zay (Γ : Zc) (x0 x1 : Value) : M Value:=
 bind (JV x0) fun y1=>
 jn (Zi (c4 (Zay.l1 Γ)) [x0,x1,y1,(Value.int .i64 0)]) noN (xk 0 (c0 (ret (Value.bool true))) noX) ret
theorem Zxa (Γ : Zc) (x0 x1 : Value) : Zz Tryz.prog Γ Tryz.f167 Zo6 [x0,x1]=Zay Γ x0 x1:=by kernel_rfl
theorem ZuM {prim : FuncId→Option (List Value→M Value)} (hp : prim Wu=none) (n : Nat) (x0 x1 : Value) : run Tryz.prog prim lvs (n+1) Wu [x0,x1]=Zay (run Tryz.prog prim lvs n) x0 x1:=
 (Zl hp (by kernel_rfl) Tryz.func167 (by kernel_rfl)).trans (Zxa _ x0 x1)
noncomputable def ZiR (Γ : Zc) (x0 : Value) : M Value:=
 bind (Γ Y7 [x0]) fun y1=>
 bind (ZH y1 false 2 (bind (Γ KB [x0]) fun y2=>
 ret [x0,y2])) (c2 fun _ q3_1=>
 bind (pick y1 (Value.bool true) q3_1) fun y4=>
 bind (ZH y4 false 2 (bind (bop .int .eql x0 (Value.int .u8 45)) fun y5=>
 ret [x0,y5])) (c2 fun _ q6_1=>
 bind (pick y4 (Value.bool true) q6_1) fun y7=>
 bind (ZH y7 false 2 (bind (bop .int .eql x0 (Value.int .u8 46)) fun y8=>
 ret [x0,y8])) (c2 fun _ q9_1=>
 bind (pick y7 (Value.bool true) q9_1) fun y10=>
 ret y10)))
theorem Zve (Γ : Zc) (x0 : Value) : Zz Tryz.prog Γ Tryz.f168 Znd [x0]=ZiR Γ x0:=by kernel_rfl
theorem ZsI {prim : FuncId→Option (List Value→M Value)} (hp : prim ZeW=none) (n : Nat) (x0 : Value) : run Tryz.prog prim lvs (n+1) ZeW [x0]=ZiR (run Tryz.prog prim lvs n) x0:=
 (Zl hp (by kernel_rfl) Tryz.func168 (by kernel_rfl)).trans (Zve _ x0)
noncomputable def ZL.l1 (Γ : Zc) (s0 s1 s7 s8 : Value) : M Out:=
 bind (bop .int .lss s8 s7) fun y2=>
 cnd y2
 (bind (ixa 1 s0 s8) fun y3=>
 bind (ld1 y3) fun y4=>
 bind (Jr Γ s1 [y4]) fun y5=>
 cnd y5
 (ret (.ret s8))
 (bind (bop .int .add s8 (Value.int .i64 1)) fun y6=>
 ret (.nrm [s0,s1,s7,y6])))
 (ret (.ext 0 []))
noncomputable def ZL (Γ : Zc) (x0 x1 : Value) : M Value:=
 bind (Zy x0) fun y1=>
 jn (Zi (c4 (ZL.l1 Γ)) [x0,x1,y1,(Value.int .i64 0)]) noN (xk 0 (c0 (ret (Value.int .i64 (-1)))) noX) ret
theorem ZeP (Γ : Zc) (x0 x1 : Value) : Zz Tryz.prog Γ Tryz.f169 Zbl [x0,x1]=ZL Γ x0 x1:=by kernel_rfl
theorem Zeq {prim : FuncId→Option (List Value→M Value)} (hp : prim Yi=none) (n : Nat) (x0 x1 : Value) : run Tryz.prog prim lvs (n+1) Yi [x0,x1]=ZL (run Tryz.prog prim lvs n) x0 x1:=
 (Zl hp (by kernel_rfl) Tryz.func169 (by kernel_rfl)).trans (ZeP _ x0 x1)
noncomputable def Zgm (Γ : Zc) (x0 x1 : Value) : M Value:=
 bind (Γ Zbn [x0,x1]) fun y1=>
 ret y1
theorem Zqh (Γ : Zc) (x0 x1 : Value) : Zz Tryz.prog Γ Tryz.f172 Ziq [x0,x1]=Zgm Γ x0 x1:=by kernel_rfl
theorem ZoM {prim : FuncId→Option (List Value→M Value)} (hp : prim JW=none) (n : Nat) (x0 x1 : Value) : run Tryz.prog prim lvs (n+1) JW [x0,x1]=Zgm (run Tryz.prog prim lvs n) x0 x1:=
 (Zl hp (by kernel_rfl) Tryz.func172 (by kernel_rfl)).trans (Zqh _ x0 x1)
noncomputable def Jx (Γ : Zc) (x0 : Value) : M Value:=
 bind (alc 1 x0) fun y1=>
 ret (Value.func (.func 204) #[] #[y1])
theorem Zam (Γ : Zc) (x0 : Value) : Zz Tryz.prog Γ Tryz.f174 YR [x0]=Jx Γ x0:=by kernel_rfl
theorem Zae {prim : FuncId→Option (List Value→M Value)} (hp : prim QI=none) (n : Nat) (x0 : Value) : run Tryz.prog prim lvs (n+1) QI [x0]=Jx (run Tryz.prog prim lvs n) x0:=
 (Zl hp (by kernel_rfl) Tryz.func174 (by kernel_rfl)).trans (Zam _ x0)
noncomputable def Yb.l1 (Γ : Zc) (s5 s6 s7 : Value) : M Out:=
 bind (bop .int .lss s7 s6) fun y2=>
 cnd y2
 (bind (ixa 1 s5 s7) fun y3=>
 bind (ld1 y3) fun y4=>
 bind (bop .int .neq y4 (Value.int .i64 0)) fun y5=>
 cnd y5
 (ret (.ret y4))
 (bind (bop .int .add s7 (Value.int .i64 1)) fun y6=>
 ret (.nrm [s5,s6,y6])))
 (ret (.ext 0 []))
noncomputable def Yb (Γ : Zc) (x0 : Value) : M Value:=
 bind (Zy x0) fun y1=>
 jn (Zi (c3 (Yb.l1 Γ)) [x0,y1,(Value.int .i64 0)]) noN (xk 0 (c0 (ret (Value.int .i64 0))) noX) ret
theorem Zur (Γ : Zc) (x0 : Value) : Zz Tryz.prog Γ Tryz.f175 Zl8 [x0]=Yb Γ x0:=by kernel_rfl
theorem Zsi {prim : FuncId→Option (List Value→M Value)} (hp : prim Zbx=none) (n : Nat) (x0 : Value) : run Tryz.prog prim lvs (n+1) Zbx [x0]=Yb (run Tryz.prog prim lvs n) x0:=
 (Zl hp (by kernel_rfl) Tryz.func175 (by kernel_rfl)).trans (Zur _ x0)
noncomputable def ZeN (Γ : Zc) (x0 : Value) : M Value:=
 bind (bop .str .eql x0 (Value.string ⟨#[]⟩)) fun y1=>
 cnd y1
 (ret (Value.int .i64 0))
 (bind (Γ Zbu [x0]) fun y2=>
 bind (Zm y2 0) fun y3=>
 bind (Zm y2 1) fun y4=>
 bind (bop .int .neq y4 (Value.int .i64 0)) fun y5=>
 bind (ZH y5 false 3 (bind (bop .str .neq y3 x0) fun y6=>
 ret [y3,x0,y6])) (c3 fun _ _ q7_2=>
 bind (pick y5 (Value.bool true) q7_2) fun y8=>
 cnd y8
 (ret (Value.int .i64 11))
 (ret (Value.int .i64 0))))
theorem Zu1 (Γ : Zc) (x0 : Value) : Zz Tryz.prog Γ Tryz.f176 Znh [x0]=ZeN Γ x0:=by kernel_rfl
theorem Ztr {prim : FuncId→Option (List Value→M Value)} (hp : prim ZeH=none) (n : Nat) (x0 : Value) : run Tryz.prog prim lvs (n+1) ZeH [x0]=ZeN (run Tryz.prog prim lvs n) x0:=
 (Zl hp (by kernel_rfl) Tryz.func176 (by kernel_rfl)).trans (Zu1 _ x0)
noncomputable def JA.l1 (Γ : Zc) (s0 s10 s11 s12 : Value) : M Out:=
 bind (bop .int .lss s12 s11) fun y4=>
 cnd y4
 (bind (ixa 1 s10 s12) fun y5=>
 bind (ld1 y5) fun y6=>
 bind (Γ Q9 [y6]) fun y7=>
 bind (bop .int .neq y7 (Value.int .i64 0)) fun y8=>
 cnd y8
 (ret (.ret y7))
 (bind (bop .int .add s12 (Value.int .i64 1)) fun y9=>
 ret (.nrm [s0,s10,s11,y9])))
 (ret (.ext 0 [s0]))
noncomputable def JA.l2 (Γ : Zc) (s0 s6 : Value) : M Out:=
 bind (Zy s0) fun y12=>
 bind (bop .int .lss s6 y12) fun y13=>
 cnd y13
 (bind (bop .int .sub s6 (Value.int .i64 1)) fun y14=>
 bind (ixa 1 s0 y14) fun y15=>
 bind (ld1 y15) fun y16=>
 bind (ixa 1 s0 s6) fun y17=>
 bind (ld1 y17) fun y18=>
 bind (bop .str .geq y16 y18) fun y19=>
 cnd y19
 (ret (.ret (Value.int .i64 9)))
 (bind (bop .int .add s6 (Value.int .i64 1)) fun y20=>
 ret (.nrm [s0,y20])))
 (ret (.ext 2 []))
noncomputable def JA (Γ : Zc) (x0 : Value) : M Value:=
 bind (Zy x0) fun y1=>
 bind (bop .int .gtr y1 (Value.int .i64 6)) fun y2=>
 cnd y2
 (ret (Value.int .i64 7))
 (bind (Zy x0) fun y3=>
 jn (Zi (c4 (JA.l1 Γ)) [x0,x0,y3,(Value.int .i64 0)]) noN (xk 0 (c1 fun q11_0=>
 jn (Zi (c2 (JA.l2 Γ)) [q11_0,(Value.int .i64 1)]) noN (xk 2 (c0 (ret (Value.int .i64 0))) noX) ret) noX) ret)
theorem ZrP (Γ : Zc) (x0 : Value) : Zz Tryz.prog Γ Tryz.f177 ZjQ [x0]=JA Γ x0:=by kernel_rfl
theorem Zqn {prim : FuncId→Option (List Value→M Value)} (hp : prim Zdg=none) (n : Nat) (x0 : Value) : run Tryz.prog prim lvs (n+1) Zdg [x0]=JA (run Tryz.prog prim lvs n) x0:=
 (Zl hp (by kernel_rfl) Tryz.func177 (by kernel_rfl)).trans (ZrP _ x0)
noncomputable def ZcU (Γ : Zc) (x0 : Value) : M Value:=
 bind (bop .str .eql x0 (Value.string ⟨#[]⟩)) fun y1=>
 bind (ZH y1 false 3 (bind (JV x0) fun y2=>
 bind (bop .int .gtr y2 (Value.int .i64 12)) fun y3=>
 ret [x0,y2,y3])) (c3 fun _ _ q4_2=>
 bind (pick y1 (Value.bool true) q4_2) fun y5=>
 bind (ZH y5 false 4 (bind (ixs x0 (Value.int .i64 0)) fun y6=>
 bind (Γ Y7 [y6]) fun y7=>
 bind (uop .not y7) fun y8=>
 ret [x0,y6,y7,y8])) (c4 fun _ _ _ q9_3=>
 bind (pick y5 (Value.bool true) q9_3) fun y10=>
 bind (ZH y10 false 3 (bind (Γ Wu [x0,(Value.func (.func 168) #[] #[])]) fun y11=>
 bind (uop .not y11) fun y12=>
 ret [x0,y11,y12])) (c3 fun _ _ q13_2=>
 bind (pick y10 (Value.bool true) q13_2) fun y14=>
 cnd y14
 (ret (Value.bool false))
 (bind (JV x0) fun y15=>
 bind (bop .int .sub y15 (Value.int .i64 1)) fun y16=>
 bind (ixs x0 y16) fun y17=>
 bind (Γ Y7 [y17]) fun y18=>
 bind (ZH y18 false 2 (bind (Γ KB [y17]) fun y19=>
 ret [y17,y19])) (c2 fun _ q20_1=>
 bind (pick y18 (Value.bool true) q20_1) fun y21=>
 ret y21)))))
theorem Zr2 (Γ : Zc) (x0 : Value) : Zz Tryz.prog Γ Tryz.f178 ZjW [x0]=ZcU Γ x0:=by kernel_rfl
theorem ZqT {prim : FuncId→Option (List Value→M Value)} (hp : prim ZaR=none) (n : Nat) (x0 : Value) : run Tryz.prog prim lvs (n+1) ZaR [x0]=ZcU (run Tryz.prog prim lvs n) x0:=
 (Zl hp (by kernel_rfl) Tryz.func178 (by kernel_rfl)).trans (Zr2 _ x0)
noncomputable def Wh.l1 (Γ : Zc) (s6 s7 s8 : Value) : M Out:=
 bind (bop .int .lss s8 s7) fun y2=>
 cnd y2
 (bind (ixa 1 s6 s8) fun y3=>
 bind (ld1 y3) fun y4=>
 bind (Γ Q9 [y4]) fun y5=>
 bind (bop .int .neq y5 (Value.int .i64 0)) fun y6=>
 cnd y6
 (ret (.ret y5))
 (bind (bop .int .add s8 (Value.int .i64 1)) fun y7=>
 ret (.nrm [s6,s7,y7])))
 (ret (.ext 0 []))
noncomputable def Wh (Γ : Zc) (x0 : Value) : M Value:=
 bind (Zy x0) fun y1=>
 jn (Zi (c3 (Wh.l1 Γ)) [x0,y1,(Value.int .i64 0)]) noN (xk 0 (c0 (ret (Value.int .i64 0))) noX) ret
theorem Zsk (Γ : Zc) (x0 : Value) : Zz Tryz.prog Γ Tryz.f179 ZjZ [x0]=Wh Γ x0:=by kernel_rfl
theorem Zq4 {prim : FuncId→Option (List Value→M Value)} (hp : prim Za0=none) (n : Nat) (x0 : Value) : run Tryz.prog prim lvs (n+1) Za0 [x0]=Wh (run Tryz.prog prim lvs n) x0:=
 (Zl hp (by kernel_rfl) Tryz.func179 (by kernel_rfl)).trans (Zsk _ x0)
noncomputable def WL.l1 (Γ : Zc) (s3 s8 s9 s10 : Value) : M Out:=
 bind (bop .int .lss s10 s9) fun y3=>
 cnd y3
 (bind (ixa 1 s8 s10) fun y4=>
 bind (ld1 y4) fun y5=>
 bind (bop .int .geq y5 (Value.int .u8 65)) fun y6=>
 bind (ZH y6 true 2 (bind (bop .int .leq y5 (Value.int .u8 90)) fun y7=>
 ret [y5,y7])) (c2 fun _ q8_1=>
 bind (pick y6 q8_1 (Value.bool false)) fun y9=>
 jn (cnd y9
 (bind (bop .int .add y5 (Value.int .u8 97)) fun y10=>
 bind (bop .int .sub y10 (Value.int .u8 65)) fun y11=>
 bind (ixa 1 s3 s10) fun y12=>
 bind (st1 y12 y11) fun _=>
 ret (.nrm [s3,s8,s9,s10]))
 (ret (.nrm [s3,s8,s9,s10]))) (c4 fun q13_0 q13_1 q13_2 q13_3=>
 bind (bop .int .add q13_3 (Value.int .i64 1)) fun y14=>
 ret (.nrm [q13_0,q13_1,q13_2,y14])) noX ZX))
 (ret (.ext 0 [s3]))
noncomputable def WL (Γ : Zc) (x0 : Value) : M Value:=
 bind (s2b x0) fun y1=>
 bind (Zy y1) fun y2=>
 jn (Zi (c4 (WL.l1 Γ)) [y1,y1,y2,(Value.int .i64 0)]) noN (xk 0 (c1 fun q17_0=>
 bind (b2s q17_0) fun y18=>
 ret y18) noX) ret
theorem ZuC (Γ : Zc) (x0 : Value) : Zz Tryz.prog Γ Tryz.f180 Znq [x0]=WL Γ x0:=by kernel_rfl
theorem Zs1 {prim : FuncId→Option (List Value→M Value)} (hp : prim Ze8=none) (n : Nat) (x0 : Value) : run Tryz.prog prim lvs (n+1) Ze8 [x0]=WL (run Tryz.prog prim lvs n) x0:=
 (Zl hp (by kernel_rfl) Tryz.func180 (by kernel_rfl)).trans (ZuC _ x0)
noncomputable def Zg8 (Γ : Zc) (x0 x1 : Value) : M Value:=
 bind (Γ Wb [x0,x1]) fun y1=>
 bind (Zm y1 0) fun y2=>
 bind (Zm y1 1) fun y3=>
 bind (Zm y1 2) fun y4=>
 ret (Value.tuple #[y2,y3,y4])
theorem ZrV (Γ : Zc) (x0 x1 : Value) : Zz Tryz.prog Γ Tryz.f181 ZjU [x0,x1]=Zg8 Γ x0 x1:=by kernel_rfl
theorem ZqZ {prim : FuncId→Option (List Value→M Value)} (hp : prim ZaY=none) (n : Nat) (x0 x1 : Value) : run Tryz.prog prim lvs (n+1) ZaY [x0,x1]=Zg8 (run Tryz.prog prim lvs n) x0 x1:=
 (Zl hp (by kernel_rfl) Tryz.func181 (by kernel_rfl)).trans (ZrV _ x0 x1)
noncomputable def Zfs (Γ : Zc) (x0 x1 : Value) : M Value:=
 bind (Γ ZbK [x0,x1,(Value.int .i64 0),(Value.int .i64 (-1))]) fun y1=>
 ret y1
theorem Zo7 (Γ : Zc) (x0 x1 : Value) : Zz Tryz.prog Γ Tryz.f182 ZhF [x0,x1]=Zfs Γ x0 x1:=by kernel_rfl
theorem Zok {prim : FuncId→Option (List Value→M Value)} (hp : prim Zb4=none) (n : Nat) (x0 x1 : Value) : run Tryz.prog prim lvs (n+1) Zb4 [x0,x1]=Zfs (run Tryz.prog prim lvs n) x0 x1:=
 (Zl hp (by kernel_rfl) Tryz.func182 (by kernel_rfl)).trans (Zo7 _ x0 x1)
noncomputable def Zh4 (Γ : Zc) (x0 : Value) : M Value:=
 bind (Γ Y7 [x0]) fun y1=>
 bind (ZH y1 false 2 (bind (Γ KB [x0]) fun y2=>
 ret [x0,y2])) (c2 fun _ q3_1=>
 bind (pick y1 (Value.bool true) q3_1) fun y4=>
 ret y4)
theorem ZsM (Γ : Zc) (x0 : Value) : Zz Tryz.prog Γ Tryz.f183 ZlY [x0]=Zh4 Γ x0:=by kernel_rfl
theorem ZrX {prim : FuncId→Option (List Value→M Value)} (hp : prim ZdH=none) (n : Nat) (x0 : Value) : run Tryz.prog prim lvs (n+1) ZdH [x0]=Zh4 (run Tryz.prog prim lvs n) x0:=
 (Zl hp (by kernel_rfl) Tryz.func183 (by kernel_rfl)).trans (ZsM _ x0)
noncomputable def ZcV (Γ : Zc) (x0 : Value) : M Value:=
 bind (bop .int .geq x0 (Value.int .u8 97)) fun y1=>
 bind (ZH y1 true 2 (bind (bop .int .leq x0 (Value.int .u8 122)) fun y2=>
 ret [x0,y2])) (c2 fun _ q3_1=>
 bind (pick y1 q3_1 (Value.bool false)) fun y4=>
 ret y4)
theorem Zsj (Γ : Zc) (x0 : Value) : Zz Tryz.prog Γ Tryz.f184 ZjY [x0]=ZcV Γ x0:=by kernel_rfl
theorem Zqc {prim : FuncId→Option (List Value→M Value)} (hp : prim Y7=none) (n : Nat) (x0 : Value) : run Tryz.prog prim lvs (n+1) Y7 [x0]=ZcV (run Tryz.prog prim lvs n) x0:=
 (Zl hp (by kernel_rfl) Tryz.func184 (by kernel_rfl)).trans (Zsj _ x0)
noncomputable def ZdN (Γ : Zc) (x0 : Value) : M Value:=
 bind (bop .int .geq x0 (Value.int .u8 48)) fun y1=>
 bind (ZH y1 true 2 (bind (bop .int .leq x0 (Value.int .u8 57)) fun y2=>
 ret [x0,y2])) (c2 fun _ q3_1=>
 bind (pick y1 q3_1 (Value.bool false)) fun y4=>
 ret y4)
theorem ZtL (Γ : Zc) (x0 : Value) : Zz Tryz.prog Γ Tryz.f185 ZkI [x0]=ZdN Γ x0:=by kernel_rfl
theorem Zr7 {prim : FuncId→Option (List Value→M Value)} (hp : prim KB=none) (n : Nat) (x0 : Value) : run Tryz.prog prim lvs (n+1) KB [x0]=ZdN (run Tryz.prog prim lvs n) x0:=
 (Zl hp (by kernel_rfl) Tryz.func185 (by kernel_rfl)).trans (ZtL _ x0)
noncomputable def Zb6 (Γ : Zc) (x0 : Value) : M Value:=
 bind (Γ Ji [x0]) fun y1=>
 bind (Γ Yr [y1,(Value.func (.func 172) #[] #[])]) fun y2=>
 ret y2
theorem Zii (Γ : Zc) (x0 : Value) : Zz Tryz.prog Γ Tryz.f186 ZdI [x0]=Zb6 Γ x0:=by kernel_rfl
theorem Zht {prim : FuncId→Option (List Value→M Value)} (hp : prim W4=none) (n : Nat) (x0 : Value) : run Tryz.prog prim lvs (n+1) W4 [x0]=Zb6 (run Tryz.prog prim lvs n) x0:=
 (Zl hp (by kernel_rfl) Tryz.func186 (by kernel_rfl)).trans (Zii _ x0)
noncomputable def Zac (Γ : Zc) (x0 x1 : Value) : M Value:=
 bind (Qc x0) fun y1=>
 bind (fa 0 y1) fun y2=>
 bind (ld1 y2) fun y3=>
 bind (Zy y3) fun y4=>
 bind (bop .int .gtr x1 y4) fun y5=>
 cnd y5
 (bind (Γ Z6 [x0,(Value.int .i64 2)]) fun y6=>
 ret (Value.slice none 0 0))
 (bind (Qc x0) fun y7=>
 bind (fa 0 y7) fun y8=>
 bind (ld1 y8) fun y9=>
 bind (slv 1 y9 none (some x1) none) fun y10=>
 bind (Qc x0) fun y11=>
 bind (fa 0 y11) fun y12=>
 bind (ld1 y12) fun y13=>
 bind (slv 1 y13 (some x1) none none) fun y14=>
 bind (Qc x0) fun y15=>
 bind (fa 0 y15) fun y16=>
 bind (st1 y16 y14) fun _=>
 ret y10)
theorem Zli (Γ : Zc) (x0 x1 : Value) : Zz Tryz.prog Γ Tryz.f187 ZfW [x0,x1]=Zac Γ x0 x1:=by kernel_rfl
theorem Zkh {prim : FuncId→Option (List Value→M Value)} (hp : prim Km=none) (n : Nat) (x0 x1 : Value) : run Tryz.prog prim lvs (n+1) Km [x0,x1]=Zac (run Tryz.prog prim lvs n) x0 x1:=
 (Zl hp (by kernel_rfl) Tryz.func187 (by kernel_rfl)).trans (Zli _ x0 x1)
noncomputable def ZaB.l1 (Γ : Zc) (s0 s1 s5 : Value) : M Out:=
 bind (JV s0) fun y1=>
 bind (bop .int .lss s5 y1) fun y2=>
 cnd y2
 (bind (ixs s0 s5) fun y3=>
 bind (Γ Zau [y3,s1]) fun y4=>
 bind (uop .not y4) fun y5=>
 cnd y5
 (ret (.ret (Value.bool false)))
 (bind (bop .int .add s5 (Value.int .i64 1)) fun y6=>
 ret (.nrm [s0,s1,y6])))
 (ret (.ext 0 []))
noncomputable def ZaB (Γ : Zc) (x0 x1 : Value) : M Value:=
 jn (Zi (c3 (ZaB.l1 Γ)) [x0,x1,(Value.int .i64 0)]) noN (xk 0 (c0 (ret (Value.bool true))) noX) ret
theorem Zwc (Γ : Zc) (x0 x1 : Value) : Zz Tryz.prog Γ Tryz.f188 Zou [x0,x1]=ZaB Γ x0 x1:=by kernel_rfl
theorem Zvj {prim : FuncId→Option (List Value→M Value)} (hp : prim Zc5=none) (n : Nat) (x0 x1 : Value) : run Tryz.prog prim lvs (n+1) Zc5 [x0,x1]=ZaB (run Tryz.prog prim lvs n) x0 x1:=
 (Zl hp (by kernel_rfl) Tryz.func188 (by kernel_rfl)).trans (Zwc _ x0 x1)
noncomputable def Zav.l1 (Γ : Zc) (s0 s1 s5 : Value) : M Out:=
 bind (JV s1) fun y1=>
 bind (bop .int .lss s5 y1) fun y2=>
 cnd y2
 (bind (ixs s1 s5) fun y3=>
 bind (bop .int .eql y3 s0) fun y4=>
 cnd y4
 (ret (.ret (Value.bool true)))
 (bind (bop .int .add s5 (Value.int .i64 1)) fun y5=>
 ret (.nrm [s0,s1,y5])))
 (ret (.ext 0 []))
noncomputable def Zav (Γ : Zc) (x0 x1 : Value) : M Value:=
 jn (Zi (c3 (Zav.l1 Γ)) [x0,x1,(Value.int .i64 0)]) noN (xk 0 (c0 (ret (Value.bool false))) noX) ret
theorem Zw2 (Γ : Zc) (x0 x1 : Value) : Zz Tryz.prog Γ Tryz.f189 ZoG [x0,x1]=Zav Γ x0 x1:=by kernel_rfl
theorem Zvi {prim : FuncId→Option (List Value→M Value)} (hp : prim Zau=none) (n : Nat) (x0 x1 : Value) : run Tryz.prog prim lvs (n+1) Zau [x0,x1]=Zav (run Tryz.prog prim lvs n) x0 x1:=
 (Zl hp (by kernel_rfl) Tryz.func189 (by kernel_rfl)).trans (Zw2 _ x0 x1)
noncomputable def K8.l1 (Γ : Zc) (s1 s7 s8 s9 : Value) : M Out:=
 bind (bop .int .lss s9 s8) fun y2=>
 cnd y2
 (bind (ixa 5 s7 s9) fun y3=>
 bind (ldA 5 y3) fun y4=>
 bind (alc 1 (.agg #[.string ⟨#[]⟩,.string ⟨#[]⟩,.string ⟨#[]⟩,.bool false,.slice none 0 0])) fun y5=>
 bind (stA 5 y5 y4) fun _=>
 bind (fa 0 y5) fun y6=>
 bind (ld1 y6) fun y7=>
 bind (bop .str .eql y7 s1) fun y8=>
 cnd y8
 (ret (.ret s9))
 (bind (bop .int .add s9 (Value.int .i64 1)) fun y9=>
 ret (.nrm [s1,s7,s8,y9])))
 (ret (.ext 0 []))
noncomputable def K8 (Γ : Zc) (x0 x1 : Value) : M Value:=
 bind (Zy x0) fun y1=>
 jn (Zi (c4 (K8.l1 Γ)) [x1,x0,y1,(Value.int .i64 0)]) noN (xk 0 (c0 (ret (Value.int .i64 (-1)))) noX) ret
theorem Ztl (Γ : Zc) (x0 x1 : Value) : Zz Tryz.prog Γ Tryz.f190 ZkQ [x0,x1]=K8 Γ x0 x1:=by kernel_rfl
theorem ZrH {prim : FuncId→Option (List Value→M Value)} (hp : prim WO=none) (n : Nat) (x0 x1 : Value) : run Tryz.prog prim lvs (n+1) WO [x0,x1]=K8 (run Tryz.prog prim lvs n) x0 x1:=
 (Zl hp (by kernel_rfl) Tryz.func190 (by kernel_rfl)).trans (Ztl _ x0 x1)
noncomputable def ZcA (Γ : Zc) (x0 : Value) : M Value:=
 bind (Γ KB [x0]) fun y1=>
 bind (ZH y1 false 3 (bind (bop .int .geq x0 (Value.int .u8 97)) fun y2=>
 ret [x0,y2,y2])) (c3 fun _ _ q3_2=>
 bind (ZH q3_2 true 2 (bind (bop .int .leq x0 (Value.int .u8 102)) fun y4=>
 ret [x0,y4])) (c2 fun _ q5_1=>
 bind (ZH y1 false 1 (bind (pick q3_2 q5_1 (Value.bool false)) fun y6=>
 ret [y6])) (c1 fun q7_0=>
 bind (pick y1 (Value.bool true) q7_0) fun y8=>
 ret y8)))
theorem ZtR (Γ : Zc) (x0 : Value) : Zz Tryz.prog Γ Tryz.f191 ZkY [x0]=ZcA Γ x0:=by kernel_rfl
theorem Zsh {prim : FuncId→Option (List Value→M Value)} (hp : prim ZdK=none) (n : Nat) (x0 : Value) : run Tryz.prog prim lvs (n+1) ZdK [x0]=ZcA (run Tryz.prog prim lvs n) x0:=
 (Zl hp (by kernel_rfl) Tryz.func191 (by kernel_rfl)).trans (ZtR _ x0)
noncomputable def JQ.l2 (Γ : Zc) (s0 s3 s4 s5 s6 s19 : Value) : M Out:=
 bind (bop .int .lss s19 (Value.int .i64 26)) fun y5=>
 cnd y5
 (bind (ixs s0 s5) fun y6=>
 bind (ixs s3 s19) fun y7=>
 bind (bop .int .eql y6 y7) fun y8=>
 jn (cnd y8
 (bind (bop .int .add s19 (Value.int .i64 1)) fun y9=>
 bind (sls (Value.string ⟨#[97,98,99,100,101,102,103,104,105,106,107,108,109,110,111,112,113,114,115,116,117,118,119,120,121,122]⟩) (some s19) (some y9)) fun y10=>
 ret (.nrm [s0,s3,s4,s5,y10,s19]))
 (ret (.nrm [s0,s3,s4,s5,s6,s19]))) (c6 fun q11_0 q11_1 q11_2 q11_3 q11_4 q11_5=>
 bind (bop .int .add q11_5 (Value.int .i64 1)) fun y12=>
 ret (.nrm [q11_0,q11_1,q11_2,q11_3,q11_4,y12])) noX ZX)
 (ret (.ext 2 [s0,s3,s4,s5,s6]))
noncomputable def JQ.l1 (Γ : Zc) (s0 s3 s4 s5 : Value) : M Out:=
 bind (JV s0) fun y1=>
 bind (bop .int .lss s5 y1) fun y2=>
 cnd y2
 (bind (bop .int .add s5 (Value.int .i64 1)) fun y3=>
 bind (sls s0 (some s5) (some y3)) fun y4=>
 jn (Zi (c6 (JQ.l2 Γ)) [s0,s3,s4,s5,y4,(Value.int .i64 0)]) noN (xk 2 (c5 fun q15_0 q15_1 q15_2 q15_3 q15_4=>
 bind (bop .str .add q15_2 q15_4) fun y16=>
 bind (bop .int .add q15_3 (Value.int .i64 1)) fun y17=>
 ret (.nrm [q15_0,q15_1,y16,y17])) noX) ZX)
 (ret (.ext 0 [s4]))
noncomputable def JQ (Γ : Zc) (x0 : Value) : M Value:=
 jn (Zi (c4 (JQ.l1 Γ)) [x0,(Value.string ⟨#[65,66,67,68,69,70,71,72,73,74,75,76,77,78,79,80,81,82,83,84,85,86,87,88,89,90]⟩),(Value.string ⟨#[]⟩),(Value.int .i64 0)]) noN (xk 0 (c1 fun q20_0=>
 ret q20_0) noX) ret
theorem ZtS (Γ : Zc) (x0 : Value) : Zz Tryz.prog Γ Tryz.f192 ZkK [x0]=JQ Γ x0:=by kernel_rfl
theorem Zsa {prim : FuncId→Option (List Value→M Value)} (hp : prim ZdG=none) (n : Nat) (x0 : Value) : run Tryz.prog prim lvs (n+1) ZdG [x0]=JQ (run Tryz.prog prim lvs n) x0:=
 (Zl hp (by kernel_rfl) Tryz.func192 (by kernel_rfl)).trans (ZtS _ x0)
noncomputable def Zap.l1 (Γ : Zc) (s1 s7 s8 s9 : Value) : M Out:=
 bind (bop .int .lss s9 s8) fun y2=>
 cnd y2
 (bind (ixa 1 s7 s9) fun y3=>
 bind (ld1 y3) fun y4=>
 bind (bop .str .eql y4 s1) fun y5=>
 cnd y5
 (ret (.ret (Value.bool true)))
 (bind (bop .int .add s9 (Value.int .i64 1)) fun y6=>
 ret (.nrm [s1,s7,s8,y6])))
 (ret (.ext 0 []))
noncomputable def Zap (Γ : Zc) (x0 x1 : Value) : M Value:=
 bind (Zy x0) fun y1=>
 jn (Zi (c4 (Zap.l1 Γ)) [x1,x0,y1,(Value.int .i64 0)]) noN (xk 0 (c0 (ret (Value.bool false))) noX) ret
theorem Zu2 (Γ : Zc) (x0 x1 : Value) : Zz Tryz.prog Γ Tryz.f193 Zny [x0,x1]=Zap Γ x0 x1:=by kernel_rfl
theorem Ztq {prim : FuncId→Option (List Value→M Value)} (hp : prim Zan=none) (n : Nat) (x0 x1 : Value) : run Tryz.prog prim lvs (n+1) Zan [x0,x1]=Zap (run Tryz.prog prim lvs n) x0 x1:=
 (Zl hp (by kernel_rfl) Tryz.func193 (by kernel_rfl)).trans (Zu2 _ x0 x1)
noncomputable def WD (Γ : Zc) (x0 x1 : Value) : M Value:=
 bind (Zy x0) fun y1=>
 bind (cvi .u64 y1) fun y2=>
 bind (Γ ZdP [y2]) fun y3=>
 bind (Γ QX [x0,(Value.int .i64 0),y1,y3,x1]) fun y4=>
 ret (Value.tuple #[])
theorem Zfc (Γ : Zc) (x0 x1 : Value) : Zz Tryz.prog Γ Tryz.f201 ZbI [x0,x1]=WD Γ x0 x1:=by kernel_rfl
theorem Zex {prim : FuncId→Option (List Value→M Value)} (hp : prim WH=none) (n : Nat) (x0 x1 : Value) : run Tryz.prog prim lvs (n+1) WH [x0,x1]=WD (run Tryz.prog prim lvs n) x0 x1:=
 (Zl hp (by kernel_rfl) Tryz.func201 (by kernel_rfl)).trans (Zfc _ x0 x1)
noncomputable def Zc1 (Γ : Zc) (x0 x1 : Value) : M Value:=
 bind (Γ KT [x0]) fun y1=>
 bind (Γ KT [x1]) fun y2=>
 cnd y1
 (cnd y2
 (ret (Value.int .i64 0))
 (ret (Value.int .i64 (-1))))
 (cnd y2
 (ret (Value.int .i64 1))
 (bind (bop .str .lss x0 x1) fun y3=>
 cnd y3
 (ret (Value.int .i64 (-1)))
 (bind (bop .str .gtr x0 x1) fun y4=>
 cnd y4
 (ret (Value.int .i64 1))
 (ret (Value.int .i64 0)))))
theorem Zkk (Γ : Zc) (x0 x1 : Value) : Zz Tryz.prog Γ Tryz.f203 Zfe [x0,x1]=Zc1 Γ x0 x1:=by kernel_rfl
theorem ZjC {prim : FuncId→Option (List Value→M Value)} (hp : prim Zbn=none) (n : Nat) (x0 x1 : Value) : run Tryz.prog prim lvs (n+1) Zbn [x0,x1]=Zc1 (run Tryz.prog prim lvs n) x0 x1:=
 (Zl hp (by kernel_rfl) Tryz.func203 (by kernel_rfl)).trans (Zkk _ x0 x1)
noncomputable def ZaP (Γ : Zc) (x0 x1 : Value) : M Value:=
 bind (Γ Je [x0,x1]) fun y1=>
 bind (bop .int .geq y1 (Value.int .i64 0)) fun y2=>
 cnd y2
 (bind (sls x0 none (some y1)) fun y3=>
 bind (JV x1) fun y4=>
 bind (bop .int .add y1 y4) fun y5=>
 bind (sls x0 (some y5) none) fun y6=>
 ret (Value.tuple #[y3,y6,(Value.bool true)]))
 (ret (Value.tuple #[x0,(Value.string ⟨#[]⟩),(Value.bool false)]))
theorem ZgS (Γ : Zc) (x0 x1 : Value) : Zz Tryz.prog Γ Tryz.f205 ZcO [x0,x1]=ZaP Γ x0 x1:=by kernel_rfl
theorem Zgj {prim : FuncId→Option (List Value→M Value)} (hp : prim Wb=none) (n : Nat) (x0 x1 : Value) : run Tryz.prog prim lvs (n+1) Wb [x0,x1]=ZaP (run Tryz.prog prim lvs n) x0 x1:=
 (Zl hp (by kernel_rfl) Tryz.func205 (by kernel_rfl)).trans (ZgS _ x0 x1)
noncomputable def Yl.l1 (Γ : Zc) (s0 s1 s2 s3 s9 s10 : Value) : M Out:=
 bind (bop .int .lss s10 s3) fun y13=>
 cnd y13
 (bind (Γ ZaH [s0,s1]) fun y14=>
 bind (bop .int .lss y14 (Value.int .i64 0)) fun y15=>
 cnd y15
 (ret (.ext 0 [s0,s9,s10]))
 (bind (bop .int .add y14 s2) fun y16=>
 bind (sls s0 none (some y16)) fun y17=>
 bind (ixa 1 s9 s10) fun y18=>
 bind (st1 y18 y17) fun _=>
 bind (JV s1) fun y19=>
 bind (bop .int .add y14 y19) fun y20=>
 bind (sls s0 (some y20) none) fun y21=>
 bind (bop .int .add s10 (Value.int .i64 1)) fun y22=>
 ret (.nrm [y21,s1,s2,s3,s9,y22])))
 (ret (.ext 0 [s0,s9,s10]))
noncomputable def Yl (Γ : Zc) (x0 x1 x2 x3 : Value) : M Value:=
 bind (bop .int .eql x3 (Value.int .i64 0)) fun y1=>
 cnd y1
 (ret (Value.slice none 0 0))
 (bind (bop .str .eql x1 (Value.string ⟨#[]⟩)) fun y2=>
 cnd y2
 (bind (Γ ZnD [x0,x3]) fun y3=>
 ret y3)
 (bind (bop .int .lss x3 (Value.int .i64 0)) fun y4=>
 jn (cnd y4
 (bind (Γ ZbP [x0,x1]) fun y5=>
 bind (bop .int .add y5 (Value.int .i64 1)) fun y6=>
 ret (.nrm [x0,x1,x2,y6]))
 (ret (.nrm [x0,x1,x2,x3]))) (c4 fun q7_0 q7_1 q7_2 q7_3=>
 bind (JV q7_0) fun y8=>
 bind (bop .int .add y8 (Value.int .i64 1)) fun y9=>
 bind (mxi false q7_3 y9) fun y10=>
 bind (mks 1 16 (.string ⟨#[]⟩) y10 y10) fun y11=>
 bind (bop .int .sub y10 (Value.int .i64 1)) fun y12=>
 jn (jn (Zi (c6 (Yl.l1 Γ)) [q7_0,q7_1,q7_2,y12,y11,(Value.int .i64 0)]) noN (xk 0 (c3 fun q24_0 q24_1 q24_2=>
 ret (.nrm [q24_0,q24_1,q24_2])) noX) ZX) (c3 fun q26_0 q26_1 q26_2=>
 bind (ixa 1 q26_1 q26_2) fun y27=>
 bind (st1 y27 q26_0) fun _=>
 bind (bop .int .add q26_2 (Value.int .i64 1)) fun y28=>
 bind (slv 1 q26_1 none (some y28) none) fun y29=>
 ret y29) noX ret) noX ret))
theorem Zk4 (Γ : Zc) (x0 x1 x2 x3 : Value) : Zz Tryz.prog Γ Tryz.f206 Zf9 [x0,x1,x2,x3]=Yl Γ x0 x1 x2 x3:=by kernel_rfl
theorem Zkp {prim : FuncId→Option (List Value→M Value)} (hp : prim ZbK=none) (n : Nat) (x0 x1 x2 x3 : Value) : run Tryz.prog prim lvs (n+1) ZbK [x0,x1,x2,x3]=Yl (run Tryz.prog prim lvs n) x0 x1 x2 x3:=
 (Zl hp (by kernel_rfl) Tryz.func206 (by kernel_rfl)).trans (Zk4 _ x0 x1 x2 x3)
noncomputable def Yv (Γ : Zc) (x0 : Value) : M Value:=
 bind (alc 1 x0) fun y1=>
 ret (Value.func (.func 216) #[] #[y1])
theorem ZbY (Γ : Zc) (x0 : Value) : Zz Tryz.prog Γ Tryz.f207 KU [x0]=Yv Γ x0:=by kernel_rfl
theorem ZbJ {prim : FuncId→Option (List Value→M Value)} (hp : prim Ji=none) (n : Nat) (x0 : Value) : run Tryz.prog prim lvs (n+1) Ji [x0]=Yv (run Tryz.prog prim lvs n) x0:=
 (Zl hp (by kernel_rfl) Tryz.func207 (by kernel_rfl)).trans (ZbY _ x0)
noncomputable abbrev ZbF.o1 (s2 : Value) (st : LoopState) (pd : Option Code) : Zf:=.loop Tryz.f208 Wf 26 [0] (ZBr Tryz.f208 26) [(2,s2)] st pd
noncomputable def ZbF.r1 (Γ : Zc) (L : Nat) (s2 : Value) (a0 : Value) : M Value:=
 ZyP L (
 bind (ld1 s2) fun y2=>
 bind (bsl 1 1 (.string ⟨#[]⟩) [(0,1,a0)]) fun y3=>
 bind (app 1 16 y2 y3) fun y4=>
 bind (st1 s2 y4) fun _=>
 ZqP L none)
noncomputable def ZbF (Γ : Zc) (x0 x1 : Value) : M Value:=
 bind (alc 1 x0) fun y1=>
 Zl0 (Zsy Tryz.prog) Γ x1 Tryz.f208 Wf 26 [0] (ZBr Tryz.f208 26) [(2,y1)] fun pd_5=>
 (match pd_5 with
 | none=>bind (ld1 y1) fun y6=>
 ret y6
 | some (.exit j_5)=>fail
 | some .ret=>ret (Value.slice none 0 0)
 | _=>fail)
noncomputable def Jv.l1 (Γ : Zc) (s0 s1 s2 s3 s4 s10 s11 : Value) : M Out:=
 jn (bind (bop .int .sub s2 s1) fun y1=>
 bind (bop .int .leq y1 (Value.int .i64 12)) fun y2=>
 cnd y2
 (bind (Γ Jk [s0,s1,s2,s4]) fun y3=>
 ret (.ret (Value.tuple #[])))
 (bind (bop .int .eql s3 (Value.int .i64 0)) fun y4=>
 cnd y4
 (bind (Γ Zfb [s0,s1,s2,s4]) fun y5=>
 ret (.ret (Value.tuple #[])))
 (bind (uop .not s10) fun y6=>
 jn (cnd y6
 (bind (Γ Zdt [s0,s1,s2,s4]) fun y7=>
 bind (bop .int .sub s3 (Value.int .i64 1)) fun y8=>
 ret (.nrm [s0,s1,s2,y8,s4,s10,s11,y1]))
 (ret (.nrm [s0,s1,s2,s3,s4,s10,s11,y1]))) (c8 fun q9_0 q9_1 q9_2 q9_3 q9_4 q9_5 q9_6 q9_7=>
 bind (Γ Zd5 [q9_0,q9_1,q9_2,q9_4]) fun y10=>
 bind (Zm y10 0) fun y11=>
 bind (Zm y10 1) fun y12=>
 bind (bop .int .eql y12 (Value.int .i64 2)) fun y13=>
 jn (cnd y13
 (bind (Γ ZdD [q9_0,q9_1,q9_2,q9_4]) fun y14=>
 bind (bop .int .sub q9_2 (Value.int .i64 1)) fun y15=>
 bind (bop .int .sub y11 q9_1) fun y16=>
 bind (bop .int .sub y15 y16) fun y17=>
 ret (.nrm [q9_0,q9_1,q9_2,q9_3,q9_4,q9_5,q9_6,q9_7,y17,(Value.int .i64 1)]))
 (ret (.nrm [q9_0,q9_1,q9_2,q9_3,q9_4,q9_5,q9_6,q9_7,y11,y12]))) (c10 fun q18_0 q18_1 q18_2 q18_3 q18_4 q18_5 q18_6 q18_7 q18_8 q18_9=>
 bind (ZH q18_5 true 1 (ret [q18_6])) (c1 fun q19_0=>
 bind (pick q18_5 q19_0 (Value.bool false)) fun y20=>
 bind (ZH y20 true 2 (bind (bop .int .eql q18_9 (Value.int .i64 1)) fun y21=>
 ret [q18_9,y21])) (c2 fun _ q22_1=>
 bind (pick y20 q22_1 (Value.bool false)) fun y23=>
 jn (cnd y23
 (bind (Γ Zb9 [q18_0,q18_1,q18_2,q18_4]) fun y24=>
 cnd y24
 (ret (.ret (Value.tuple #[])))
 (ret (.nrm [q18_0,q18_1,q18_2,q18_3,q18_4,q18_5,q18_6,q18_7,q18_8])))
 (ret (.nrm [q18_0,q18_1,q18_2,q18_3,q18_4,q18_5,q18_6,q18_7,q18_8]))) (c9 fun q25_0 q25_1 q25_2 q25_3 q25_4 q25_5 q25_6 q25_7 q25_8=>
 bind (bop .int .gtr q25_1 (Value.int .i64 0)) fun y26=>
 bind (Zh y26 true (ret q25_4)) fun y27=>
 bind (Zh y26 true (ret q25_0)) fun y28=>
 bind (Zh y26 true (ret q25_1)) fun y29=>
 bind (Zh y26 true (bop .int .sub y29 (Value.int .i64 1))) fun y30=>
 bind (Zh y26 true (ixa 1 y28 y30)) fun y31=>
 bind (Zh y26 true (ld1 y31)) fun y32=>
 bind (Zh y26 true (ret q25_0)) fun y33=>
 bind (Zh y26 true (ret q25_8)) fun y34=>
 bind (Zh y26 true (ixa 1 y33 y34)) fun y35=>
 bind (Zh y26 true (ld1 y35)) fun y36=>
 bind (Zh y26 true (Jr Γ y27 [y32,y36])) fun y37=>
 bind (Zh y26 true (bop .int .lss y37 (Value.int .i64 0))) fun y38=>
 bind (Zh y26 true (uop .not y38)) fun y39=>
 bind (pick y26 y39 (Value.bool false)) fun y40=>
 cnd y40
 (bind (Γ Zdk [q25_0,q25_1,q25_2,q25_8,q25_4]) fun y41=>
 ret (.nrm [q25_0,y41,q25_2,q25_3,q25_4,q25_5,q25_6]))
 (bind (Γ Ze2 [q25_0,q25_1,q25_2,q25_8,q25_4]) fun y42=>
 bind (Zm y42 0) fun y43=>
 bind (Zm y42 1) fun y44=>
 bind (bop .int .sub y43 q25_1) fun y45=>
 bind (bop .int .sub q25_2 y43) fun y46=>
 bind (bop .int .quo q25_7 (Value.int .i64 8)) fun y47=>
 bind (bop .int .lss y45 y46) fun y48=>
 jn (cnd y48
 (bind (bop .int .geq y45 y47) fun y49=>
 bind (Γ QX [q25_0,q25_1,y43,q25_3,q25_4]) fun y50=>
 bind (bop .int .add y43 (Value.int .i64 1)) fun y51=>
 ret (.nrm [q25_0,y51,q25_2,q25_3,q25_4,y49,y44]))
 (bind (bop .int .geq y46 y47) fun y52=>
 bind (bop .int .add y43 (Value.int .i64 1)) fun y53=>
 bind (Γ QX [q25_0,y53,q25_2,q25_3,q25_4]) fun y54=>
 ret (.nrm [q25_0,q25_1,y43,q25_3,q25_4,y52,y44]))) (c7 fun q55_0 q55_1 q55_2 q55_3 q55_4 q55_5 q55_6=>
 ret (.nrm [q55_0,q55_1,q55_2,q55_3,q55_4,q55_5,q55_6])) noX ZX)) noX ZX))) noX ZX) noX ZX))) (c7 fun q60_0 q60_1 q60_2 q60_3 q60_4 q60_5 q60_6=>
 ret (.nrm [q60_0,q60_1,q60_2,q60_3,q60_4,q60_5,q60_6])) noX ZX
noncomputable def Jv (Γ : Zc) (x0 x1 x2 x3 x4 : Value) : M Value:=
 jn (Zi (c7 (Jv.l1 Γ)) [x0,x1,x2,x3,x4,(Value.bool true),(Value.bool true)]) noN noX ret
theorem Zfd (Γ : Zc) (x0 x1 x2 x3 x4 : Value) : Zz Tryz.prog Γ Tryz.f209 ZbG [x0,x1,x2,x3,x4]=Jv Γ x0 x1 x2 x3 x4:=by kernel_rfl
theorem Ze9 {prim : FuncId→Option (List Value→M Value)} (hp : prim QX=none) (n : Nat) (x0 x1 x2 x3 x4 : Value) : run Tryz.prog prim lvs (n+1) QX [x0,x1,x2,x3,x4]=Jv (run Tryz.prog prim lvs n) x0 x1 x2 x3 x4:=
 (Zl hp (by kernel_rfl) Tryz.func209 (by kernel_rfl)).trans (Zfd _ x0 x1 x2 x3 x4)
noncomputable def Zgn (Γ : Zc) (x0 : Value) : M Value:=
 cnd (Value.bool false)
 (bind (cvi .u32 x0) fun y1=>
 bind (Γ ZoZ [y1]) fun y2=>
 ret y2)
 (bind (Γ ZcP [x0]) fun y3=>
 ret y3)
theorem ZqD (Γ : Zc) (x0 : Value) : Zz Tryz.prog Γ Tryz.f210 ZiI [x0]=Zgn Γ x0:=by kernel_rfl
theorem ZoQ {prim : FuncId→Option (List Value→M Value)} (hp : prim ZdP=none) (n : Nat) (x0 : Value) : run Tryz.prog prim lvs (n+1) ZdP [x0]=Zgn (run Tryz.prog prim lvs n) x0:=
 (Zl hp (by kernel_rfl) Tryz.func210 (by kernel_rfl)).trans (ZqD _ x0)
noncomputable def ZdW (Γ : Zc) (x0 : Value) : M Value:=
 bind (bop .str .neq x0 x0) fun y1=>
 ret y1
theorem ZmQ (Γ : Zc) (x0 : Value) : Zz Tryz.prog Γ Tryz.f211 ZgI [x0]=ZdW Γ x0:=by kernel_rfl
theorem Zk7 {prim : FuncId→Option (List Value→M Value)} (hp : prim KT=none) (n : Nat) (x0 : Value) : run Tryz.prog prim lvs (n+1) KT [x0]=ZdW (run Tryz.prog prim lvs n) x0:=
 (Zl hp (by kernel_rfl) Tryz.func211 (by kernel_rfl)).trans (ZmQ _ x0)
noncomputable def YC.l1 (Γ : Zc) (s0 s1 s5 s6 s7 s8 s9 s10 : Value) : M Out:=
 bind (bop .int .lss s8 s9) fun y23=>
 cnd y23
 (bind (ixs s0 s8) fun y24=>
 bind (bop .int .neq y24 s6) fun y25=>
 jn (cnd y25
 (bind (bop .int .add s8 (Value.int .i64 1)) fun y26=>
 bind (sls s0 (some y26) (some s9)) fun y27=>
 bind (Γ J5 [y27,s6]) fun y28=>
 bind (bop .int .lss y28 (Value.int .i64 0)) fun y29=>
 cnd y29
 (ret (.ret (Value.int .i64 (-1))))
 (bind (bop .int .add y28 (Value.int .i64 1)) fun y30=>
 bind (bop .int .add s8 y30) fun y31=>
 ret (.nrm [s0,s1,s5,s6,s7,y31,s9,s10])))
 (ret (.nrm [s0,s1,s5,s6,s7,s8,s9,s10]))) (c8 fun q32_0 q32_1 q32_2 q32_3 q32_4 q32_5 q32_6 q32_7=>
 bind (bop .int .add q32_5 (Value.int .i64 1)) fun y33=>
 bind (ixs q32_0 y33) fun y34=>
 bind (bop .int .eql y34 q32_4) fun y35=>
 bind (ZH y35 true 8 (bind (bop .int .add q32_5 q32_2) fun y36=>
 bind (sls q32_0 (some q32_5) (some y36)) fun y37=>
 bind (bop .str .eql y37 q32_1) fun y38=>
 ret [q32_0,q32_5,q32_5,q32_2,y36,y37,q32_1,y38])) (c8 fun _ _ _ _ _ _ _ q39_7=>
 bind (pick y35 q39_7 (Value.bool false)) fun y40=>
 cnd y40
 (ret (.ret q32_5))
 (bind (bop .int .add q32_5 (Value.int .i64 1)) fun y41=>
 bind (bop .int .add q32_7 (Value.int .i64 1)) fun y42=>
 bind (ld1 (Value.pointer (some ⟨0,0,none⟩))) fun y43=>
 bind (bop .int .leq q32_2 y43) fun y44=>
 bind (ZH y44 true 4 (bind (Γ Zhg [y41]) fun y45=>
 bind (bop .int .gtr y42 y45) fun y46=>
 ret [y42,y41,y45,y46])) (c4 fun _ _ _ q47_3=>
 bind (pick y44 q47_3 (Value.bool false)) fun y48=>
 cnd y48
 (bind (sls q32_0 (some y41) none) fun y49=>
 bind (Γ Zb8 [y49,q32_1]) fun y50=>
 bind (bop .int .geq y50 (Value.int .i64 0)) fun y51=>
 cnd y51
 (bind (bop .int .add y50 y41) fun y52=>
 ret (.ret y52))
 (ret (.ret (Value.int .i64 (-1)))))
 (bind (ld1 (Value.pointer (some ⟨0,0,none⟩))) fun y53=>
 bind (bop .int .gtr q32_2 y53) fun y54=>
 bind (ZH y54 true 5 (bind (bop .int .shr y41 (Value.int .u64 4)) fun y55=>
 bind (bop .int .add (Value.int .i64 4) y55) fun y56=>
 bind (bop .int .geq y42 y56) fun y57=>
 ret [y42,y41,y55,y56,y57])) (c5 fun _ _ _ _ q58_4=>
 bind (pick y54 q58_4 (Value.bool false)) fun y59=>
 bind (ZH y59 true 3 (bind (bop .int .lss y41 q32_6) fun y60=>
 ret [y41,q32_6,y60])) (c3 fun _ _ q61_2=>
 bind (pick y59 q61_2 (Value.bool false)) fun y62=>
 cnd y62
 (bind (sls q32_0 (some y41) none) fun y63=>
 bind (Γ ZcR [y63,q32_1]) fun y64=>
 bind (bop .int .lss y64 (Value.int .i64 0)) fun y65=>
 cnd y65
 (ret (.ret (Value.int .i64 (-1))))
 (bind (bop .int .add y41 y64) fun y66=>
 ret (.ret y66)))
 (ret (.nrm [q32_0,q32_1,q32_2,q32_3,q32_4,y41,q32_6,y42]))))))))) noX ZX)
 (ret (.ext 1 []))
noncomputable def YC (Γ : Zc) (x0 x1 : Value) : M Value:=
 bind (JV x1) fun y1=>
 bind (bop .int .eql y1 (Value.int .i64 0)) fun y2=>
 bind (ZH y2 false 3 (bind (bop .str .eql x1 x0) fun y3=>
 ret [x1,x0,y3])) (c3 fun _ _ q4_2=>
 bind (pick y2 (Value.bool true) q4_2) fun y5=>
 cnd y5
 (ret (Value.int .i64 0))
 (bind (bop .int .eql y1 (Value.int .i64 1)) fun y6=>
 cnd y6
 (bind (ixs x1 (Value.int .i64 0)) fun y7=>
 bind (Γ J5 [x0,y7]) fun y8=>
 ret y8)
 (bind (JV x0) fun y9=>
 bind (bop .int .geq y1 y9) fun y10=>
 cnd y10
 (ret (Value.int .i64 (-1)))
 (bind (ld1 (Value.pointer (some ⟨0,0,none⟩))) fun y11=>
 bind (bop .int .leq y1 y11) fun y12=>
 bind (ZH y12 true 3 (bind (JV x0) fun y13=>
 bind (bop .int .leq y13 (Value.int .i64 64)) fun y14=>
 ret [x0,y13,y14])) (c3 fun _ _ q15_2=>
 bind (pick y12 q15_2 (Value.bool false)) fun y16=>
 cnd y16
 (bind (Γ Zb8 [x0,x1]) fun y17=>
 ret y17)
 (bind (ixs x1 (Value.int .i64 0)) fun y18=>
 bind (ixs x1 (Value.int .i64 1)) fun y19=>
 bind (JV x0) fun y20=>
 bind (bop .int .sub y20 y1) fun y21=>
 bind (bop .int .add y21 (Value.int .i64 1)) fun y22=>
 jn (Zi (c8 (YC.l1 Γ)) [x0,x1,y1,y18,y19,(Value.int .i64 0),y22,(Value.int .i64 0)]) noN (xk 1 (c0 (ret (Value.int .i64 (-1)))) noX) ret))))))
theorem Zga (Γ : Zc) (x0 x1 : Value) : Zz Tryz.prog Γ Tryz.f212 Zca [x0,x1]=YC Γ x0 x1:=by kernel_rfl
theorem Zfp {prim : FuncId→Option (List Value→M Value)} (hp : prim Je=none) (n : Nat) (x0 x1 : Value) : run Tryz.prog prim lvs (n+1) Je [x0,x1]=YC (run Tryz.prog prim lvs n) x0 x1:=
 (Zl hp (by kernel_rfl) Tryz.func212 (by kernel_rfl)).trans (Zga _ x0 x1)
noncomputable def Zho.l1 (Γ : Zc) (s0 s1 s6 s7 : Value) : M Out:=
 bind (bop .int .sub s1 (Value.int .i64 1)) fun y8=>
 bind (bop .int .lss s7 y8) fun y9=>
 cnd y9
 (bind (Γ Zev [s0]) fun y10=>
 bind (Zm y10 0) fun y11=>
 bind (Zm y10 1) fun y12=>
 bind (sls s0 none (some y12)) fun y13=>
 bind (ixa 1 s6 s7) fun y14=>
 bind (st1 y14 y13) fun _=>
 bind (sls s0 (some y12) none) fun y15=>
 bind (bop .int .add s7 (Value.int .i64 1)) fun y16=>
 ret (.nrm [y15,s1,s6,y16]))
 (ret (.ext 0 [s0,s1,s6]))
noncomputable def Zho (Γ : Zc) (x0 x1 : Value) : M Value:=
 bind (Γ Zbq [x0]) fun y1=>
 bind (bop .int .lss x1 (Value.int .i64 0)) fun y2=>
 bind (ZH y2 false 3 (bind (bop .int .gtr x1 y1) fun y3=>
 ret [x1,y1,y3])) (c3 fun _ _ q4_2=>
 bind (pick y2 (Value.bool true) q4_2) fun y5=>
 jn (cnd y5
 (ret (.nrm [x0,y1]))
 (ret (.nrm [x0,x1]))) (c2 fun q6_0 q6_1=>
 bind (mks 1 16 (.string ⟨#[]⟩) q6_1 q6_1) fun y7=>
 jn (Zi (c4 (Zho.l1 Γ)) [q6_0,q6_1,y7,(Value.int .i64 0)]) noN (xk 0 (c3 fun q18_0 q18_1 q18_2=>
 bind (bop .int .gtr q18_1 (Value.int .i64 0)) fun y19=>
 jn (cnd y19
 (bind (bop .int .sub q18_1 (Value.int .i64 1)) fun y20=>
 bind (ixa 1 q18_2 y20) fun y21=>
 bind (st1 y21 q18_0) fun _=>
 ret (.nrm [q18_2]))
 (ret (.nrm [q18_2]))) (c1 fun q22_0=>
 ret q22_0) noX ret) noX) ret) noX ret)
noncomputable def ZbS.l1 (Γ : Zc) (s0 s1 s5 : Value) : M Out:=
 bind (Γ ZaH [s0,s1]) fun y9=>
 bind (bop .int .eql y9 (Value.int .i64 (-1))) fun y10=>
 cnd y10
 (ret (.ret s5))
 (bind (bop .int .add s5 (Value.int .i64 1)) fun y11=>
 bind (JV s1) fun y12=>
 bind (bop .int .add y9 y12) fun y13=>
 bind (sls s0 (some y13) none) fun y14=>
 ret (.nrm [y14,s1,y11]))
noncomputable def ZbS (Γ : Zc) (x0 x1 : Value) : M Value:=
 bind (JV x1) fun y1=>
 bind (bop .int .eql y1 (Value.int .i64 0)) fun y2=>
 cnd y2
 (bind (Γ Zbq [x0]) fun y3=>
 bind (bop .int .add y3 (Value.int .i64 1)) fun y4=>
 ret y4)
 (bind (JV x1) fun y5=>
 bind (bop .int .eql y5 (Value.int .i64 1)) fun y6=>
 cnd y6
 (bind (ixs x1 (Value.int .i64 0)) fun y7=>
 bind (Γ Ke [x0,y7]) fun y8=>
 ret y8)
 (jn (Zi (c3 (ZbS.l1 Γ)) [x0,x1,(Value.int .i64 0)]) noN noX ret))
theorem ZpK (Γ : Zc) (x0 x1 : Value) : Zz Tryz.prog Γ Tryz.f214 ZhZ [x0,x1]=ZbS Γ x0 x1:=by kernel_rfl
theorem Zoj {prim : FuncId→Option (List Value→M Value)} (hp : prim ZbP=none) (n : Nat) (x0 x1 : Value) : run Tryz.prog prim lvs (n+1) ZbP [x0,x1]=ZbS (run Tryz.prog prim lvs n) x0 x1:=
 (Zl hp (by kernel_rfl) Tryz.func214 (by kernel_rfl)).trans (ZpK _ x0 x1)
noncomputable def Zfv (Γ : Zc) (x0 x1 : Value) : M Value:=
 bind (Γ Je [x0,x1]) fun y1=>
 ret y1
theorem Zpn (Γ : Zc) (x0 x1 : Value) : Zz Tryz.prog Γ Tryz.f215 ZhA [x0,x1]=Zfv Γ x0 x1:=by kernel_rfl
theorem Zoe {prim : FuncId→Option (List Value→M Value)} (hp : prim ZaH=none) (n : Nat) (x0 x1 : Value) : run Tryz.prog prim lvs (n+1) ZaH [x0,x1]=Zfv (run Tryz.prog prim lvs n) x0 x1:=
 (Zl hp (by kernel_rfl) Tryz.func215 (by kernel_rfl)).trans (Zpn _ x0 x1)
noncomputable def Qd.l2 (Γ : Zc) (s0 s1 s2 s3 s8 s9 : Value) : M Out:=
 bind (bop .int .gtr s9 s1) fun y3=>
 bind (Zh y3 true (ret s3)) fun y4=>
 bind (Zh y3 true (ret s0)) fun y5=>
 bind (Zh y3 true (ret s9)) fun y6=>
 bind (Zh y3 true (ixa 1 y5 y6)) fun y7=>
 bind (Zh y3 true (ld1 y7)) fun y8=>
 bind (Zh y3 true (ret s0)) fun y9=>
 bind (Zh y3 true (ret s9)) fun y10=>
 bind (Zh y3 true (bop .int .sub y10 (Value.int .i64 1))) fun y11=>
 bind (Zh y3 true (ixa 1 y9 y11)) fun y12=>
 bind (Zh y3 true (ld1 y12)) fun y13=>
 bind (Zh y3 true (Jr Γ y4 [y8,y13])) fun y14=>
 bind (Zh y3 true (bop .int .lss y14 (Value.int .i64 0))) fun y15=>
 bind (pick y3 y15 (Value.bool false)) fun y16=>
 cnd y16
 (bind (bop .int .sub s9 (Value.int .i64 1)) fun y17=>
 bind (bop .int .sub s9 (Value.int .i64 1)) fun y18=>
 bind (ixa 1 s0 y18) fun y19=>
 bind (ld1 y19) fun y20=>
 bind (ixa 1 s0 s9) fun y21=>
 bind (ld1 y21) fun y22=>
 bind (ixa 1 s0 s9) fun y23=>
 bind (st1 y23 y20) fun _=>
 bind (ixa 1 s0 y17) fun y24=>
 bind (st1 y24 y22) fun _=>
 bind (bop .int .sub s9 (Value.int .i64 1)) fun y25=>
 ret (.nrm [s0,s1,s2,s3,s8,y25]))
 (ret (.ext 2 [s0,s1,s2,s3,s8]))
noncomputable def Qd.l1 (Γ : Zc) (s0 s1 s2 s3 s8 : Value) : M Out:=
 bind (bop .int .lss s8 s2) fun y2=>
 cnd y2
 (jn (Zi (c6 (Qd.l2 Γ)) [s0,s1,s2,s3,s8,s8]) noN (xk 2 (c5 fun q27_0 q27_1 q27_2 q27_3 q27_4=>
 bind (bop .int .add q27_4 (Value.int .i64 1)) fun y28=>
 ret (.nrm [q27_0,q27_1,q27_2,q27_3,y28])) noX) ZX)
 (ret (.ext 0 []))
noncomputable def Qd (Γ : Zc) (x0 x1 x2 x3 : Value) : M Value:=
 bind (bop .int .add x1 (Value.int .i64 1)) fun y1=>
 jn (Zi (c5 (Qd.l1 Γ)) [x0,x1,x2,x3,y1]) noN (xk 0 (c0 (ret (Value.tuple #[]))) noX) ret
theorem Zdr (Γ : Zc) (x0 x1 x2 x3 : Value) : Zz Tryz.prog Γ Tryz.f217 WZ [x0,x1,x2,x3]=Qd Γ x0 x1 x2 x3:=by kernel_rfl
theorem Zdf {prim : FuncId→Option (List Value→M Value)} (hp : prim Jk=none) (n : Nat) (x0 x1 x2 x3 : Value) : run Tryz.prog prim lvs (n+1) Jk [x0,x1,x2,x3]=Qd (run Tryz.prog prim lvs n) x0 x1 x2 x3:=
 (Zl hp (by kernel_rfl) Tryz.func217 (by kernel_rfl)).trans (Zdr _ x0 x1 x2 x3)
noncomputable def YX.l1 (Γ : Zc) (s0 s3 s8 s9 s10 s11 : Value) : M Out:=
 bind (bop .int .geq s11 (Value.int .i64 0)) fun y4=>
 cnd y4
 (bind (Γ ZbE [s0,s11,s10,s8,s3]) fun y5=>
 bind (bop .int .sub s11 (Value.int .i64 1)) fun y6=>
 ret (.nrm [s0,s3,s8,s9,s10,y6]))
 (ret (.ext 0 [s0,s3,s8,s9,s10]))
noncomputable def YX.l2 (Γ : Zc) (s0 s3 s8 s9 s12 : Value) : M Out:=
 bind (bop .int .geq s12 (Value.int .i64 0)) fun y10=>
 cnd y10
 (bind (bop .int .add s8 s12) fun y11=>
 bind (bop .int .add s8 s12) fun y12=>
 bind (ixa 1 s0 y12) fun y13=>
 bind (ld1 y13) fun y14=>
 bind (ixa 1 s0 s8) fun y15=>
 bind (ld1 y15) fun y16=>
 bind (ixa 1 s0 s8) fun y17=>
 bind (st1 y17 y14) fun _=>
 bind (ixa 1 s0 y11) fun y18=>
 bind (st1 y18 y16) fun _=>
 bind (Γ ZbE [s0,s9,s12,s8,s3]) fun y19=>
 bind (bop .int .sub s12 (Value.int .i64 1)) fun y20=>
 ret (.nrm [s0,s3,s8,s9,y20]))
 (ret (.ext 2 []))
noncomputable def YX (Γ : Zc) (x0 x1 x2 x3 : Value) : M Value:=
 bind (bop .int .sub x2 x1) fun y1=>
 bind (bop .int .sub y1 (Value.int .i64 1)) fun y2=>
 bind (bop .int .quo y2 (Value.int .i64 2)) fun y3=>
 jn (Zi (c6 (YX.l1 Γ)) [x0,x3,x1,(Value.int .i64 0),y1,y3]) noN (xk 0 (c5 fun q8_0 q8_1 q8_2 q8_3 q8_4=>
 bind (bop .int .sub q8_4 (Value.int .i64 1)) fun y9=>
 jn (Zi (c5 (YX.l2 Γ)) [q8_0,q8_1,q8_2,q8_3,y9]) noN (xk 2 (c0 (ret (Value.tuple #[]))) noX) ret) noX) ret
noncomputable def Zag.l1 (Γ : Zc) (s0 s1 s8 s9 s10 s11 : Value) : M Out:=
 bind (bop .int .quo s8 (Value.int .i64 4)) fun y10=>
 bind (bop .int .mul y10 (Value.int .i64 2)) fun y11=>
 bind (bop .int .add s1 y11) fun y12=>
 bind (bop .int .add y12 (Value.int .i64 1)) fun y13=>
 bind (bop .int .leq s11 y13) fun y14=>
 cnd y14
 (bind (Γ ZiV [s9]) fun y15=>
 bind (bop .int .sub s10 (Value.int .u64 1)) fun y16=>
 bind (bop .int .and y15 y16) fun y17=>
 bind (cvi .i64 y17) fun y18=>
 bind (bop .int .geq y18 s8) fun y19=>
 jn (cnd y19
 (bind (bop .int .sub y18 s8) fun y20=>
 ret (.nrm [s0,s1,s8,s9,s10,s11,y20]))
 (ret (.nrm [s0,s1,s8,s9,s10,s11,y18]))) (c7 fun q21_0 q21_1 q21_2 q21_3 q21_4 q21_5 q21_6=>
 bind (bop .int .add q21_1 q21_6) fun y22=>
 bind (bop .int .add q21_1 q21_6) fun y23=>
 bind (ixa 1 q21_0 y23) fun y24=>
 bind (ld1 y24) fun y25=>
 bind (ixa 1 q21_0 q21_5) fun y26=>
 bind (ld1 y26) fun y27=>
 bind (ixa 1 q21_0 q21_5) fun y28=>
 bind (st1 y28 y25) fun _=>
 bind (ixa 1 q21_0 y22) fun y29=>
 bind (st1 y29 y27) fun _=>
 bind (bop .int .add q21_5 (Value.int .i64 1)) fun y30=>
 ret (.nrm [q21_0,q21_1,q21_2,q21_3,q21_4,y30])) noX ZX)
 (ret (.ext 0 []))
noncomputable def Zag (Γ : Zc) (x0 x1 x2 x3 : Value) : M Value:=
 bind (bop .int .sub x2 x1) fun y1=>
 bind (bop .int .geq y1 (Value.int .i64 8)) fun y2=>
 jn (cnd y2
 (bind (cvi .u64 y1) fun y3=>
 bind (alc 1 (.int .u64 0)) fun y4=>
 bind (st1 y4 y3) fun _=>
 bind (Γ Zif [y1]) fun y5=>
 bind (bop .int .quo y1 (Value.int .i64 4)) fun y6=>
 bind (bop .int .mul y6 (Value.int .i64 2)) fun y7=>
 bind (bop .int .add x1 y7) fun y8=>
 bind (bop .int .sub y8 (Value.int .i64 1)) fun y9=>
 jn (Zi (c6 (Zag.l1 Γ)) [x0,x1,y1,y4,y5,y9]) noN (xk 0 (c0 (ret (.nrm []))) noX) ZX)
 (ret (.nrm []))) (c0 (ret (Value.tuple #[]))) noX ret
noncomputable def ZaA.l1 (Γ : Zc) (s0 s8 s9 : Value) : M Out:=
 bind (bop .int .lss s8 s9) fun y2=>
 cnd y2
 (bind (ixa 1 s0 s9) fun y3=>
 bind (ld1 y3) fun y4=>
 bind (ixa 1 s0 s8) fun y5=>
 bind (ld1 y5) fun y6=>
 bind (ixa 1 s0 s8) fun y7=>
 bind (st1 y7 y4) fun _=>
 bind (ixa 1 s0 s9) fun y8=>
 bind (st1 y8 y6) fun _=>
 bind (bop .int .add s8 (Value.int .i64 1)) fun y9=>
 bind (bop .int .sub s9 (Value.int .i64 1)) fun y10=>
 ret (.nrm [s0,y9,y10]))
 (ret (.ext 0 []))
noncomputable def ZaA (Γ : Zc) (x0 x1 x2 x3 : Value) : M Value:=
 bind (bop .int .sub x2 (Value.int .i64 1)) fun y1=>
 jn (Zi (c3 (ZaA.l1 Γ)) [x0,x1,y1]) noN (xk 0 (c0 (ret (Value.tuple #[]))) noX) ret
noncomputable def ZT.l2 (Γ : Zc) (s0 s1 s2 s3 s9 s10 : Value) : M Out:=
 bind (bop .int .lss s9 s2) fun y3=>
 bind (Zh y3 true (ret s3)) fun y4=>
 bind (Zh y3 true (ret s0)) fun y5=>
 bind (Zh y3 true (ret s9)) fun y6=>
 bind (Zh y3 true (ixa 1 y5 y6)) fun y7=>
 bind (Zh y3 true (ld1 y7)) fun y8=>
 bind (Zh y3 true (ret s0)) fun y9=>
 bind (Zh y3 true (ret s9)) fun y10=>
 bind (Zh y3 true (bop .int .sub y10 (Value.int .i64 1))) fun y11=>
 bind (Zh y3 true (ixa 1 y9 y11)) fun y12=>
 bind (Zh y3 true (ld1 y12)) fun y13=>
 bind (Zh y3 true (Jr Γ y4 [y8,y13])) fun y14=>
 bind (Zh y3 true (bop .int .lss y14 (Value.int .i64 0))) fun y15=>
 bind (Zh y3 true (uop .not y15)) fun y16=>
 bind (pick y3 y16 (Value.bool false)) fun y17=>
 cnd y17
 (bind (bop .int .add s9 (Value.int .i64 1)) fun y18=>
 ret (.nrm [s0,s1,s2,s3,y18,s10]))
 (ret (.ext 2 [s0,s1,s2,s3,s9,s10]))
noncomputable def ZT.l3 (Γ : Zc) (s0 s1 s2 s3 s9 s10 s11 : Value) : M Out:=
 bind (bop .int .geq s11 (Value.int .i64 1)) fun y35=>
 cnd y35
 (bind (ixa 1 s0 s11) fun y36=>
 bind (ld1 y36) fun y37=>
 bind (bop .int .sub s11 (Value.int .i64 1)) fun y38=>
 bind (ixa 1 s0 y38) fun y39=>
 bind (ld1 y39) fun y40=>
 bind (Jr Γ s3 [y37,y40]) fun y41=>
 bind (bop .int .lss y41 (Value.int .i64 0)) fun y42=>
 bind (uop .not y42) fun y43=>
 cnd y43
 (ret (.ext 4 [s0,s1,s2,s3,s9,s10]))
 (bind (bop .int .sub s11 (Value.int .i64 1)) fun y44=>
 bind (bop .int .sub s11 (Value.int .i64 1)) fun y45=>
 bind (ixa 1 s0 y45) fun y46=>
 bind (ld1 y46) fun y47=>
 bind (ixa 1 s0 s11) fun y48=>
 bind (ld1 y48) fun y49=>
 bind (ixa 1 s0 s11) fun y50=>
 bind (st1 y50 y47) fun _=>
 bind (ixa 1 s0 y44) fun y51=>
 bind (st1 y51 y49) fun _=>
 bind (bop .int .sub s11 (Value.int .i64 1)) fun y52=>
 ret (.nrm [s0,s1,s2,s3,s9,s10,y52])))
 (ret (.ext 4 [s0,s1,s2,s3,s9,s10]))
noncomputable def ZT.l4 (Γ : Zc) (s0 s1 s2 s3 s9 s10 s12 : Value) : M Out:=
 bind (bop .int .lss s12 s2) fun y62=>
 cnd y62
 (bind (ixa 1 s0 s12) fun y63=>
 bind (ld1 y63) fun y64=>
 bind (bop .int .sub s12 (Value.int .i64 1)) fun y65=>
 bind (ixa 1 s0 y65) fun y66=>
 bind (ld1 y66) fun y67=>
 bind (Jr Γ s3 [y64,y67]) fun y68=>
 bind (bop .int .lss y68 (Value.int .i64 0)) fun y69=>
 bind (uop .not y69) fun y70=>
 cnd y70
 (ret (.ext 6 [s0,s1,s2,s3,s9,s10]))
 (bind (bop .int .sub s12 (Value.int .i64 1)) fun y71=>
 bind (bop .int .sub s12 (Value.int .i64 1)) fun y72=>
 bind (ixa 1 s0 y72) fun y73=>
 bind (ld1 y73) fun y74=>
 bind (ixa 1 s0 s12) fun y75=>
 bind (ld1 y75) fun y76=>
 bind (ixa 1 s0 s12) fun y77=>
 bind (st1 y77 y74) fun _=>
 bind (ixa 1 s0 y71) fun y78=>
 bind (st1 y78 y76) fun _=>
 bind (bop .int .add s12 (Value.int .i64 1)) fun y79=>
 ret (.nrm [s0,s1,s2,s3,s9,s10,y79])))
 (ret (.ext 6 [s0,s1,s2,s3,s9,s10]))
noncomputable def ZT.l1 (Γ : Zc) (s0 s1 s2 s3 s9 s10 : Value) : M Out:=
 bind (bop .int .lss s10 (Value.int .i64 5)) fun y2=>
 cnd y2
 (jn (Zi (c6 (ZT.l2 Γ)) [s0,s1,s2,s3,s9,s10]) noN (xk 2 (c6 fun q20_0 q20_1 q20_2 q20_3 q20_4 q20_5=>
 bind (bop .int .eql q20_4 q20_2) fun y21=>
 cnd y21
 (ret (.ret (Value.bool true)))
 (bind (bop .int .sub q20_2 q20_1) fun y22=>
 bind (bop .int .lss y22 (Value.int .i64 50)) fun y23=>
 cnd y23
 (ret (.ret (Value.bool false)))
 (bind (bop .int .sub q20_4 (Value.int .i64 1)) fun y24=>
 bind (bop .int .sub q20_4 (Value.int .i64 1)) fun y25=>
 bind (ixa 1 q20_0 y25) fun y26=>
 bind (ld1 y26) fun y27=>
 bind (ixa 1 q20_0 q20_4) fun y28=>
 bind (ld1 y28) fun y29=>
 bind (ixa 1 q20_0 q20_4) fun y30=>
 bind (st1 y30 y27) fun _=>
 bind (ixa 1 q20_0 y24) fun y31=>
 bind (st1 y31 y29) fun _=>
 bind (bop .int .sub q20_4 q20_1) fun y32=>
 bind (bop .int .geq y32 (Value.int .i64 2)) fun y33=>
 jn (cnd y33
 (bind (bop .int .sub q20_4 (Value.int .i64 1)) fun y34=>
 jn (jn (Zi (c7 (ZT.l3 Γ)) [q20_0,q20_1,q20_2,q20_3,q20_4,q20_5,y34]) noN (xk 4 (c6 fun q54_0 q54_1 q54_2 q54_3 q54_4 q54_5=>
 ret (.nrm [q54_0,q54_1,q54_2,q54_3,q54_4,q54_5])) noX) ZX) (c6 fun q56_0 q56_1 q56_2 q56_3 q56_4 q56_5=>
 ret (.nrm [q56_0,q56_1,q56_2,q56_3,q56_4,q56_5])) noX ZX)
 (ret (.nrm [q20_0,q20_1,q20_2,q20_3,q20_4,q20_5]))) (c6 fun q58_0 q58_1 q58_2 q58_3 q58_4 q58_5=>
 bind (bop .int .sub q58_2 q58_4) fun y59=>
 bind (bop .int .geq y59 (Value.int .i64 2)) fun y60=>
 jn (cnd y60
 (bind (bop .int .add q58_4 (Value.int .i64 1)) fun y61=>
 jn (jn (Zi (c7 (ZT.l4 Γ)) [q58_0,q58_1,q58_2,q58_3,q58_4,q58_5,y61]) noN (xk 6 (c6 fun q81_0 q81_1 q81_2 q81_3 q81_4 q81_5=>
 ret (.nrm [q81_0,q81_1,q81_2,q81_3,q81_4,q81_5])) noX) ZX) (c6 fun q83_0 q83_1 q83_2 q83_3 q83_4 q83_5=>
 ret (.nrm [q83_0,q83_1,q83_2,q83_3,q83_4,q83_5])) noX ZX)
 (ret (.nrm [q58_0,q58_1,q58_2,q58_3,q58_4,q58_5]))) (c6 fun q85_0 q85_1 q85_2 q85_3 q85_4 q85_5=>
 bind (bop .int .add q85_5 (Value.int .i64 1)) fun y86=>
 ret (.nrm [q85_0,q85_1,q85_2,q85_3,q85_4,y86])) noX ZX) noX ZX))) noX) ZX)
 (ret (.ext 0 []))
noncomputable def ZT (Γ : Zc) (x0 x1 x2 x3 : Value) : M Value:=
 bind (bop .int .add x1 (Value.int .i64 1)) fun y1=>
 jn (Zi (c6 (ZT.l1 Γ)) [x0,x1,x2,x3,y1,(Value.int .i64 0)]) noN (xk 0 (c0 (ret (Value.bool false))) noX) ret
noncomputable def QJ.l2 (Γ : Zc) (s0 s1 s4 s11 s12 : Value) : M Out:=
 bind (bop .int .leq s11 s12) fun y9=>
 bind (Zh y9 true (ret s4)) fun y10=>
 bind (Zh y9 true (ret s0)) fun y11=>
 bind (Zh y9 true (ret s1)) fun y12=>
 bind (Zh y9 true (ixa 1 y11 y12)) fun y13=>
 bind (Zh y9 true (ld1 y13)) fun y14=>
 bind (Zh y9 true (ret s0)) fun y15=>
 bind (Zh y9 true (ret s11)) fun y16=>
 bind (Zh y9 true (ixa 1 y15 y16)) fun y17=>
 bind (Zh y9 true (ld1 y17)) fun y18=>
 bind (Zh y9 true (Jr Γ y10 [y14,y18])) fun y19=>
 bind (Zh y9 true (bop .int .lss y19 (Value.int .i64 0))) fun y20=>
 bind (Zh y9 true (uop .not y20)) fun y21=>
 bind (pick y9 y21 (Value.bool false)) fun y22=>
 cnd y22
 (bind (bop .int .add s11 (Value.int .i64 1)) fun y23=>
 ret (.nrm [s0,s1,s4,y23,s12]))
 (ret (.ext 2 [s0,s1,s4,s11,s12]))
noncomputable def QJ.l3 (Γ : Zc) (s0 s1 s4 s11 s12 : Value) : M Out:=
 bind (bop .int .leq s11 s12) fun y26=>
 bind (Zh y26 true (ret s4)) fun y27=>
 bind (Zh y26 true (ret s0)) fun y28=>
 bind (Zh y26 true (ret s1)) fun y29=>
 bind (Zh y26 true (ixa 1 y28 y29)) fun y30=>
 bind (Zh y26 true (ld1 y30)) fun y31=>
 bind (Zh y26 true (ret s0)) fun y32=>
 bind (Zh y26 true (ret s12)) fun y33=>
 bind (Zh y26 true (ixa 1 y32 y33)) fun y34=>
 bind (Zh y26 true (ld1 y34)) fun y35=>
 bind (Zh y26 true (Jr Γ y27 [y31,y35])) fun y36=>
 bind (Zh y26 true (bop .int .lss y36 (Value.int .i64 0))) fun y37=>
 bind (pick y26 y37 (Value.bool false)) fun y38=>
 cnd y38
 (bind (bop .int .sub s12 (Value.int .i64 1)) fun y39=>
 ret (.nrm [s0,s1,s4,s11,y39]))
 (ret (.ext 4 [s0,s1,s4,s11,s12]))
noncomputable def QJ.l1 (Γ : Zc) (s0 s1 s4 s11 s12 : Value) : M Out:=
 jn (Zi (c5 (QJ.l2 Γ)) [s0,s1,s4,s11,s12]) noN (xk 2 (c5 fun q25_0 q25_1 q25_2 q25_3 q25_4=>
 jn (Zi (c5 (QJ.l3 Γ)) [q25_0,q25_1,q25_2,q25_3,q25_4]) noN (xk 4 (c5 fun q41_0 q41_1 q41_2 q41_3 q41_4=>
 bind (bop .int .gtr q41_3 q41_4) fun y42=>
 cnd y42
 (ret (.ext 0 [q41_3]))
 (bind (ixa 1 q41_0 q41_4) fun y43=>
 bind (ld1 y43) fun y44=>
 bind (ixa 1 q41_0 q41_3) fun y45=>
 bind (ld1 y45) fun y46=>
 bind (ixa 1 q41_0 q41_3) fun y47=>
 bind (st1 y47 y44) fun _=>
 bind (ixa 1 q41_0 q41_4) fun y48=>
 bind (st1 y48 y46) fun _=>
 bind (bop .int .add q41_3 (Value.int .i64 1)) fun y49=>
 bind (bop .int .sub q41_4 (Value.int .i64 1)) fun y50=>
 ret (.nrm [q41_0,q41_1,q41_2,y49,y50]))) noX) ZX) noX) ZX
noncomputable def QJ (Γ : Zc) (x0 x1 x2 x3 x4 : Value) : M Value:=
 bind (ixa 1 x0 x3) fun y1=>
 bind (ld1 y1) fun y2=>
 bind (ixa 1 x0 x1) fun y3=>
 bind (ld1 y3) fun y4=>
 bind (ixa 1 x0 x1) fun y5=>
 bind (st1 y5 y2) fun _=>
 bind (ixa 1 x0 x3) fun y6=>
 bind (st1 y6 y4) fun _=>
 bind (bop .int .add x1 (Value.int .i64 1)) fun y7=>
 bind (bop .int .sub x2 (Value.int .i64 1)) fun y8=>
 jn (Zi (c5 (QJ.l1 Γ)) [x0,x1,x4,y7,y8]) noN (xk 0 (c1 fun q54_0=>
 ret q54_0) noX) ret
noncomputable def Z0.l1 (Γ : Zc) (s0 s1 s4 s12 s13 : Value) : M Out:=
 bind (bop .int .leq s12 s13) fun y9=>
 bind (Zh y9 true (ret s4)) fun y10=>
 bind (Zh y9 true (ret s0)) fun y11=>
 bind (Zh y9 true (ret s12)) fun y12=>
 bind (Zh y9 true (ixa 1 y11 y12)) fun y13=>
 bind (Zh y9 true (ld1 y13)) fun y14=>
 bind (Zh y9 true (ret s0)) fun y15=>
 bind (Zh y9 true (ret s1)) fun y16=>
 bind (Zh y9 true (ixa 1 y15 y16)) fun y17=>
 bind (Zh y9 true (ld1 y17)) fun y18=>
 bind (Zh y9 true (Jr Γ y10 [y14,y18])) fun y19=>
 bind (Zh y9 true (bop .int .lss y19 (Value.int .i64 0))) fun y20=>
 bind (pick y9 y20 (Value.bool false)) fun y21=>
 cnd y21
 (bind (bop .int .add s12 (Value.int .i64 1)) fun y22=>
 ret (.nrm [s0,s1,s4,y22,s13]))
 (ret (.ext 0 [s0,s1,s4,s12,s13]))
noncomputable def Z0.l2 (Γ : Zc) (s0 s1 s4 s12 s13 : Value) : M Out:=
 bind (bop .int .leq s12 s13) fun y25=>
 bind (Zh y25 true (ret s4)) fun y26=>
 bind (Zh y25 true (ret s0)) fun y27=>
 bind (Zh y25 true (ret s13)) fun y28=>
 bind (Zh y25 true (ixa 1 y27 y28)) fun y29=>
 bind (Zh y25 true (ld1 y29)) fun y30=>
 bind (Zh y25 true (ret s0)) fun y31=>
 bind (Zh y25 true (ret s1)) fun y32=>
 bind (Zh y25 true (ixa 1 y31 y32)) fun y33=>
 bind (Zh y25 true (ld1 y33)) fun y34=>
 bind (Zh y25 true (Jr Γ y26 [y30,y34])) fun y35=>
 bind (Zh y25 true (bop .int .lss y35 (Value.int .i64 0))) fun y36=>
 bind (Zh y25 true (uop .not y36)) fun y37=>
 bind (pick y25 y37 (Value.bool false)) fun y38=>
 cnd y38
 (bind (bop .int .sub s13 (Value.int .i64 1)) fun y39=>
 ret (.nrm [s0,s1,s4,s12,y39]))
 (ret (.ext 2 [s0,s1,s4,s12,s13]))
noncomputable def Z0.l4 (Γ : Zc) (s0 s1 s4 s12 s13 : Value) : M Out:=
 bind (bop .int .leq s12 s13) fun y57=>
 bind (Zh y57 true (ret s4)) fun y58=>
 bind (Zh y57 true (ret s0)) fun y59=>
 bind (Zh y57 true (ret s12)) fun y60=>
 bind (Zh y57 true (ixa 1 y59 y60)) fun y61=>
 bind (Zh y57 true (ld1 y61)) fun y62=>
 bind (Zh y57 true (ret s0)) fun y63=>
 bind (Zh y57 true (ret s1)) fun y64=>
 bind (Zh y57 true (ixa 1 y63 y64)) fun y65=>
 bind (Zh y57 true (ld1 y65)) fun y66=>
 bind (Zh y57 true (Jr Γ y58 [y62,y66])) fun y67=>
 bind (Zh y57 true (bop .int .lss y67 (Value.int .i64 0))) fun y68=>
 bind (pick y57 y68 (Value.bool false)) fun y69=>
 cnd y69
 (bind (bop .int .add s12 (Value.int .i64 1)) fun y70=>
 ret (.nrm [s0,s1,s4,y70,s13]))
 (ret (.ext 6 [s0,s1,s4,s12,s13]))
noncomputable def Z0.l5 (Γ : Zc) (s0 s1 s4 s12 s13 : Value) : M Out:=
 bind (bop .int .leq s12 s13) fun y73=>
 bind (Zh y73 true (ret s4)) fun y74=>
 bind (Zh y73 true (ret s0)) fun y75=>
 bind (Zh y73 true (ret s13)) fun y76=>
 bind (Zh y73 true (ixa 1 y75 y76)) fun y77=>
 bind (Zh y73 true (ld1 y77)) fun y78=>
 bind (Zh y73 true (ret s0)) fun y79=>
 bind (Zh y73 true (ret s1)) fun y80=>
 bind (Zh y73 true (ixa 1 y79 y80)) fun y81=>
 bind (Zh y73 true (ld1 y81)) fun y82=>
 bind (Zh y73 true (Jr Γ y74 [y78,y82])) fun y83=>
 bind (Zh y73 true (bop .int .lss y83 (Value.int .i64 0))) fun y84=>
 bind (Zh y73 true (uop .not y84)) fun y85=>
 bind (pick y73 y85 (Value.bool false)) fun y86=>
 cnd y86
 (bind (bop .int .sub s13 (Value.int .i64 1)) fun y87=>
 ret (.nrm [s0,s1,s4,s12,y87]))
 (ret (.ext 8 [s0,s1,s4,s12,s13]))
noncomputable def Z0.l3 (Γ : Zc) (s0 s1 s4 s12 s13 : Value) : M Out:=
 jn (Zi (c5 (Z0.l4 Γ)) [s0,s1,s4,s12,s13]) noN (xk 6 (c5 fun q72_0 q72_1 q72_2 q72_3 q72_4=>
 jn (Zi (c5 (Z0.l5 Γ)) [q72_0,q72_1,q72_2,q72_3,q72_4]) noN (xk 8 (c5 fun q89_0 q89_1 q89_2 q89_3 q89_4=>
 bind (bop .int .gtr q89_3 q89_4) fun y90=>
 cnd y90
 (ret (.ext 4 [q89_0,q89_1,q89_4]))
 (bind (ixa 1 q89_0 q89_4) fun y91=>
 bind (ld1 y91) fun y92=>
 bind (ixa 1 q89_0 q89_3) fun y93=>
 bind (ld1 y93) fun y94=>
 bind (ixa 1 q89_0 q89_3) fun y95=>
 bind (st1 y95 y92) fun _=>
 bind (ixa 1 q89_0 q89_4) fun y96=>
 bind (st1 y96 y94) fun _=>
 bind (bop .int .add q89_3 (Value.int .i64 1)) fun y97=>
 bind (bop .int .sub q89_4 (Value.int .i64 1)) fun y98=>
 ret (.nrm [q89_0,q89_1,q89_2,y97,y98]))) noX) ZX) noX) ZX
noncomputable def Z0 (Γ : Zc) (x0 x1 x2 x3 x4 : Value) : M Value:=
 bind (ixa 1 x0 x3) fun y1=>
 bind (ld1 y1) fun y2=>
 bind (ixa 1 x0 x1) fun y3=>
 bind (ld1 y3) fun y4=>
 bind (ixa 1 x0 x1) fun y5=>
 bind (st1 y5 y2) fun _=>
 bind (ixa 1 x0 x3) fun y6=>
 bind (st1 y6 y4) fun _=>
 bind (bop .int .add x1 (Value.int .i64 1)) fun y7=>
 bind (bop .int .sub x2 (Value.int .i64 1)) fun y8=>
 jn (Zi (c5 (Z0.l1 Γ)) [x0,x1,x4,y7,y8]) noN (xk 0 (c5 fun q24_0 q24_1 q24_2 q24_3 q24_4=>
 jn (Zi (c5 (Z0.l2 Γ)) [q24_0,q24_1,q24_2,q24_3,q24_4]) noN (xk 2 (c5 fun q41_0 q41_1 q41_2 q41_3 q41_4=>
 bind (bop .int .gtr q41_3 q41_4) fun y42=>
 cnd y42
 (bind (ixa 1 q41_0 q41_1) fun y43=>
 bind (ld1 y43) fun y44=>
 bind (ixa 1 q41_0 q41_4) fun y45=>
 bind (ld1 y45) fun y46=>
 bind (ixa 1 q41_0 q41_4) fun y47=>
 bind (st1 y47 y44) fun _=>
 bind (ixa 1 q41_0 q41_1) fun y48=>
 bind (st1 y48 y46) fun _=>
 ret (Value.tuple #[q41_4,(Value.bool true)]))
 (bind (ixa 1 q41_0 q41_4) fun y49=>
 bind (ld1 y49) fun y50=>
 bind (ixa 1 q41_0 q41_3) fun y51=>
 bind (ld1 y51) fun y52=>
 bind (ixa 1 q41_0 q41_3) fun y53=>
 bind (st1 y53 y50) fun _=>
 bind (ixa 1 q41_0 q41_4) fun y54=>
 bind (st1 y54 y52) fun _=>
 bind (bop .int .add q41_3 (Value.int .i64 1)) fun y55=>
 bind (bop .int .sub q41_4 (Value.int .i64 1)) fun y56=>
 jn (Zi (c5 (Z0.l3 Γ)) [q41_0,q41_1,q41_2,y55,y56]) noN (xk 4 (c3 fun q102_0 q102_1 q102_2=>
 bind (ixa 1 q102_0 q102_1) fun y103=>
 bind (ld1 y103) fun y104=>
 bind (ixa 1 q102_0 q102_2) fun y105=>
 bind (ld1 y105) fun y106=>
 bind (ixa 1 q102_0 q102_2) fun y107=>
 bind (st1 y107 y104) fun _=>
 bind (ixa 1 q102_0 q102_1) fun y108=>
 bind (st1 y108 y106) fun _=>
 ret (Value.tuple #[q102_2,(Value.bool false)])) noX) ret)) noX) ret) noX) ret
noncomputable def ZeJ (Γ : Zc) (x0 : Value) : M Value:=
 bind (bop .int .geq x0 (Value.int .u64 4294967296)) fun y1=>
 jn (cnd y1
 (bind (bop .int .shr x0 (Value.int .u64 32)) fun y2=>
 ret (.nrm [y2,(Value.int .i64 32)]))
 (ret (.nrm [x0,(Value.int .i64 0)]))) (c2 fun q3_0 q3_1=>
 bind (bop .int .geq q3_0 (Value.int .u64 65536)) fun y4=>
 jn (cnd y4
 (bind (bop .int .shr q3_0 (Value.int .u64 16)) fun y5=>
 bind (bop .int .add q3_1 (Value.int .i64 16)) fun y6=>
 ret (.nrm [y5,y6]))
 (ret (.nrm [q3_0,q3_1]))) (c2 fun q7_0 q7_1=>
 bind (bop .int .geq q7_0 (Value.int .u64 256)) fun y8=>
 jn (cnd y8
 (bind (bop .int .shr q7_0 (Value.int .u64 8)) fun y9=>
 bind (bop .int .add q7_1 (Value.int .i64 8)) fun y10=>
 ret (.nrm [y9,y10]))
 (ret (.nrm [q7_0,q7_1]))) (c2 fun q11_0 q11_1=>
 bind (cvi .u8 q11_0) fun y12=>
 bind (ixs (Value.string ⟨#[0,1,2,2,3,3,3,3,4,4,4,4,4,4,4,4,5,5,5,5,5,5,5,5,5,5,5,5,5,5,5,5,6,6,6,6,6,6,6,6,6,6,6,6,6,6,6,6,6,6,6,6,6,6,6,6,6,6,6,6,6,6,6,6,7,7,7,7,7,7,7,7,7,7,7,7,7,7,7,7,7,7,7,7,7,7,7,7,7,7,7,7,7,7,7,7,7,7,7,7,7,7,7,7,7,7,7,7,7,7,7,7,7,7,7,7,7,7,7,7,7,7,7,7,7,7,7,7,8,8,8,8,8,8,8,8,8,8,8,8,8,8,8,8,8,8,8,8,8,8,8,8,8,8,8,8,8,8,8,8,8,8,8,8,8,8,8,8,8,8,8,8,8,8,8,8,8,8,8,8,8,8,8,8,8,8,8,8,8,8,8,8,8,8,8,8,8,8,8,8,8,8,8,8,8,8,8,8,8,8,8,8,8,8,8,8,8,8,8,8,8,8,8,8,8,8,8,8,8,8,8,8,8,8,8,8,8,8,8,8,8,8,8,8,8,8,8,8,8,8,8,8,8,8,8,8]⟩) y12) fun y13=>
 bind (cvi .i64 y13) fun y14=>
 bind (bop .int .add q11_1 y14) fun y15=>
 ret y15) noX ret) noX ret) noX ret
theorem Zn2 (Γ : Zc) (x0 : Value) : Zz Tryz.prog Γ Tryz.f226 Zhn [x0]=ZeJ Γ x0:=by kernel_rfl
theorem ZmE {prim : FuncId→Option (List Value→M Value)} (hp : prim ZcP=none) (n : Nat) (x0 : Value) : run Tryz.prog prim lvs (n+1) ZcP [x0]=ZeJ (run Tryz.prog prim lvs n) x0:=
 (Zl hp (by kernel_rfl) Tryz.func226 (by kernel_rfl)).trans (Zn2 _ x0)
noncomputable def We (Γ : Zc) (x0 x1 : Value) : M Value:=
 bind (Γ Yy [x0,x1]) fun y1=>
 ret y1
theorem Zes (Γ : Zc) (x0 x1 : Value) : Zz Tryz.prog Γ Tryz.f227 Za6 [x0,x1]=We Γ x0 x1:=by kernel_rfl
theorem ZdZ {prim : FuncId→Option (List Value→M Value)} (hp : prim J5=none) (n : Nat) (x0 x1 : Value) : run Tryz.prog prim lvs (n+1) J5 [x0,x1]=We (run Tryz.prog prim lvs n) x0 x1:=
 (Zl hp (by kernel_rfl) Tryz.func227 (by kernel_rfl)).trans (Zes _ x0 x1)
noncomputable def JT.l1 (Γ : Zc) (s0 s1 s5 s6 s7 s8 s9 : Value) : M Out:=
 bind (bop .int .lss s9 s7) fun y5=>
 cnd y5
 (bind (bop .int .mul s8 (Value.int .u32 16777619)) fun y6=>
 bind (ixs s0 s9) fun y7=>
 bind (cvi .u32 y7) fun y8=>
 bind (bop .int .add y6 y8) fun y9=>
 bind (bop .int .add s9 (Value.int .i64 1)) fun y10=>
 ret (.nrm [s0,s1,s5,s6,s7,y9,y10]))
 (ret (.ext 0 [s0,s1,s5,s6,s7,s8]))
noncomputable def JT.l2 (Γ : Zc) (s0 s1 s5 s6 s7 s8 s10 : Value) : M Out:=
 bind (JV s0) fun y18=>
 bind (bop .int .lss s10 y18) fun y19=>
 cnd y19
 (bind (bop .int .mul s8 (Value.int .u32 16777619)) fun y20=>
 bind (ixs s0 s10) fun y21=>
 bind (cvi .u32 y21) fun y22=>
 bind (bop .int .add y20 y22) fun y23=>
 bind (bop .int .sub s10 s7) fun y24=>
 bind (ixs s0 y24) fun y25=>
 bind (cvi .u32 y25) fun y26=>
 bind (bop .int .mul s6 y26) fun y27=>
 bind (bop .int .sub y23 y27) fun y28=>
 bind (bop .int .add s10 (Value.int .i64 1)) fun y29=>
 bind (bop .int .eql y28 s5) fun y30=>
 bind (ZH y30 true 8 (bind (bop .int .sub y29 s7) fun y31=>
 bind (sls s0 (some y31) (some y29)) fun y32=>
 bind (bop .str .eql y32 s1) fun y33=>
 ret [s0,y29,s7,y31,y29,y32,s1,y33])) (c8 fun _ _ _ _ _ _ _ q34_7=>
 bind (pick y30 q34_7 (Value.bool false)) fun y35=>
 cnd y35
 (bind (bop .int .sub y29 s7) fun y36=>
 ret (.ret y36))
 (ret (.nrm [s0,s1,s5,s6,s7,y28,y29]))))
 (ret (.ext 2 []))
noncomputable def JT (Γ : Zc) (x0 x1 : Value) : M Value:=
 bind (Γ ZeT [x1]) fun y1=>
 bind (Zm y1 0) fun y2=>
 bind (Zm y1 1) fun y3=>
 bind (JV x1) fun y4=>
 jn (Zi (c7 (JT.l1 Γ)) [x0,x1,y2,y3,y4,(Value.int .u32 0),(Value.int .i64 0)]) noN (xk 0 (c6 fun q12_0 q12_1 q12_2 q12_3 q12_4 q12_5=>
 bind (bop .int .eql q12_5 q12_2) fun y13=>
 bind (ZH y13 true 5 (bind (sls q12_0 none (some q12_4)) fun y14=>
 bind (bop .str .eql y14 q12_1) fun y15=>
 ret [q12_0,q12_4,y14,q12_1,y15])) (c5 fun _ _ _ _ q16_4=>
 bind (pick y13 q16_4 (Value.bool false)) fun y17=>
 cnd y17
 (ret (Value.int .i64 0))
 (jn (Zi (c7 (JT.l2 Γ)) [q12_0,q12_1,q12_2,q12_3,q12_4,q12_5,q12_4]) noN (xk 2 (c0 (ret (Value.int .i64 (-1)))) noX) ret))) noX) ret
noncomputable def ZbH.l1 (Γ : Zc) (s0 s2 s3 s4 s10 : Value) : M Out:=
 bind (bop .int .mul (Value.int .i64 2) s10) fun y1=>
 bind (bop .int .add y1 (Value.int .i64 1)) fun y2=>
 bind (bop .int .geq y2 s2) fun y3=>
 cnd y3
 (ret (.ext 0 []))
 (bind (bop .int .add y2 (Value.int .i64 1)) fun y4=>
 bind (bop .int .lss y4 s2) fun y5=>
 bind (Zh y5 true (ret s4)) fun y6=>
 bind (Zh y5 true (ret s0)) fun y7=>
 bind (Zh y5 true (ret s3)) fun y8=>
 bind (Zh y5 true (ret y2)) fun y9=>
 bind (Zh y5 true (bop .int .add y8 y9)) fun y10=>
 bind (Zh y5 true (ixa 1 y7 y10)) fun y11=>
 bind (Zh y5 true (ld1 y11)) fun y12=>
 bind (Zh y5 true (ret s0)) fun y13=>
 bind (Zh y5 true (ret s3)) fun y14=>
 bind (Zh y5 true (ret y2)) fun y15=>
 bind (Zh y5 true (bop .int .add y14 y15)) fun y16=>
 bind (Zh y5 true (bop .int .add y16 (Value.int .i64 1))) fun y17=>
 bind (Zh y5 true (ixa 1 y13 y17)) fun y18=>
 bind (Zh y5 true (ld1 y18)) fun y19=>
 bind (Zh y5 true (Jr Γ y6 [y12,y19])) fun y20=>
 bind (Zh y5 true (bop .int .lss y20 (Value.int .i64 0))) fun y21=>
 bind (pick y5 y21 (Value.bool false)) fun y22=>
 jn (cnd y22
 (bind (bop .int .add y2 (Value.int .i64 1)) fun y23=>
 ret (.nrm [s0,s2,s3,s4,s10,y23]))
 (ret (.nrm [s0,s2,s3,s4,s10,y2]))) (c6 fun q24_0 q24_1 q24_2 q24_3 q24_4 q24_5=>
 bind (bop .int .add q24_2 q24_4) fun y25=>
 bind (ixa 1 q24_0 y25) fun y26=>
 bind (ld1 y26) fun y27=>
 bind (bop .int .add q24_2 q24_5) fun y28=>
 bind (ixa 1 q24_0 y28) fun y29=>
 bind (ld1 y29) fun y30=>
 bind (Jr Γ q24_3 [y27,y30]) fun y31=>
 bind (bop .int .lss y31 (Value.int .i64 0)) fun y32=>
 bind (uop .not y32) fun y33=>
 cnd y33
 (ret (.ret (Value.tuple #[])))
 (bind (bop .int .add q24_2 q24_4) fun y34=>
 bind (bop .int .add q24_2 q24_5) fun y35=>
 bind (bop .int .add q24_2 q24_5) fun y36=>
 bind (ixa 1 q24_0 y36) fun y37=>
 bind (ld1 y37) fun y38=>
 bind (bop .int .add q24_2 q24_4) fun y39=>
 bind (ixa 1 q24_0 y39) fun y40=>
 bind (ld1 y40) fun y41=>
 bind (ixa 1 q24_0 y34) fun y42=>
 bind (st1 y42 y38) fun _=>
 bind (ixa 1 q24_0 y35) fun y43=>
 bind (st1 y43 y41) fun _=>
 ret (.nrm [q24_0,q24_1,q24_2,q24_3,q24_5]))) noX ZX)
noncomputable def ZbH (Γ : Zc) (x0 x1 x2 x3 x4 : Value) : M Value:=
 jn (Zi (c5 (ZbH.l1 Γ)) [x0,x2,x3,x4,x1]) noN (xk 0 (c0 (ret (Value.tuple #[]))) noX) ret
noncomputable def YO.l1 (Γ : Zc) (s0 s4 s5 : Value) : M Out:=
 bind (JV s0) fun y1=>
 bind (bop .int .lss s5 y1) fun y2=>
 cnd y2
 (bind (bop .int .mul s4 (Value.int .u32 16777619)) fun y3=>
 bind (ixs s0 s5) fun y4=>
 bind (cvi .u32 y4) fun y5=>
 bind (bop .int .add y3 y5) fun y6=>
 bind (bop .int .add s5 (Value.int .i64 1)) fun y7=>
 ret (.nrm [s0,y6,y7]))
 (ret (.ext 0 [s0,s4]))
noncomputable def YO.l2 (Γ : Zc) (s4 s6 s7 s8 : Value) : M Out:=
 bind (bop .int .gtr s8 (Value.int .i64 0)) fun y11=>
 cnd y11
 (bind (bop .int .and s8 (Value.int .i64 1)) fun y12=>
 bind (bop .int .neq y12 (Value.int .i64 0)) fun y13=>
 jn (cnd y13
 (bind (bop .int .mul s6 s7) fun y14=>
 ret (.nrm [s4,y14,s7,s8]))
 (ret (.nrm [s4,s6,s7,s8]))) (c4 fun q15_0 q15_1 q15_2 q15_3=>
 bind (bop .int .mul q15_2 q15_2) fun y16=>
 bind (bop .int .shr q15_3 (Value.int .u64 1)) fun y17=>
 ret (.nrm [q15_0,q15_1,y16,y17])) noX ZX)
 (ret (.ext 2 [s4,s6]))
noncomputable def YO (Γ : Zc) (x0 : Value) : M Value:=
 jn (Zi (c3 (YO.l1 Γ)) [x0,(Value.int .u32 0),(Value.int .i64 0)]) noN (xk 0 (c2 fun q9_0 q9_1=>
 bind (JV q9_0) fun y10=>
 jn (Zi (c4 (YO.l2 Γ)) [q9_1,(Value.int .u32 1),(Value.int .u32 16777619),y10]) noN (xk 2 (c2 fun q20_0 q20_1=>
 ret (Value.tuple #[q20_0,q20_1])) noX) ret) noX) ret
end Go.Proofs.YtedkoimihknggaaGreatDoor.A

