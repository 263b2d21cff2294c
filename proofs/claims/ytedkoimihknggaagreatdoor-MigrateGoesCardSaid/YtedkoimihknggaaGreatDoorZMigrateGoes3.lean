/- What the law MigrateGoes needs (part 3). -/
import Derived.Test.YtedkoimihknggaaGreatDoorZMigrateGoes2
import Derived.Test.YtedkoimihknggaaGreatDoorProg
import Derived.KernelRfl
import Derived.Maps.Own
import Derived.Sort.KeysCollected
import Derived.Lib.Bytealg
namespace Go.Proofs.YtedkoimihknggaaGreatDoor.A
set_option linter.unusedVariables false
set_option maxRecDepth 100000
set_option linter.unusedSimpArgs false
open Go.Proofs Go.Proofs.YtedkoimihknggaaGreatDoor
noncomputable def ZaS.l1 (Γ : Zc) (s3 s4 s5 s21 s22 s23 : Value) : M Out:=
 bind (bop .int .lss s23 s22) fun y10=>
 cnd y10
 (bind (ixa 1 s21 s23) fun y11=>
 bind (ld1 y11) fun y12=>
 bind (Z6 Γ s4 [y12,(Value.int .i64 12)]) fun y13=>
 bind (bsl 1 1 (.string ⟨#[]⟩) [(0,1,y13)]) fun y14=>
 bind (app 1 16 s5 y14) fun y15=>
 bind (bop .int .add s23 (Value.int .i64 1)) fun y16=>
 ret (.nrm [s3,s4,y15,s21,s22,y16]))
 (ret (.ext 0 [s3,s4,s5]))
noncomputable def ZaS.l2 (Γ : Zc) (s3 s4 s5 s8 s34 s35 s36 : Value) : M Out:=
 bind (bop .int .lss s36 s35) fun y21=>
 cnd y21
 (bind (ixa 1 s34 s36) fun y22=>
 bind (ld1 y22) fun y23=>
 bind (ld1 s3) fun y24=>
 bind (Z6 Γ s4 [y23,(Value.int .i64 12)]) fun y25=>
 bind (ld1 s3) fun u_26=>same u_26 y24 <|
 bind (Z6 Γ s4 [y23,(Value.int .i64 12)]) fun y27=>
 bind (ld1 s3) fun u_28=>same u_28 y24 <|
 bind (bop .str .add y27 (Value.string ⟨#[64,98,99,100,46,101,102]⟩)) fun y29=>
 bind (bop .str .add y29 y24) fun y30=>
 bind (bld (.agg #[.string ⟨#[]⟩,.string ⟨#[]⟩,.string ⟨#[]⟩,.bool false,.slice none 0 0]) [(0,1,y25),(1,1,(Value.string ⟨#[48,49,50,51,52,53,54,55,56,57,97,98]⟩)),(2,1,y30),(3,1,(Value.bool true)),(4,1,s5)]) fun y31=>
 bind (bsl 5 1 (.agg #[.string ⟨#[]⟩,.string ⟨#[]⟩,.string ⟨#[]⟩,.bool false,.slice none 0 0]) [(0,5,y31)]) fun y32=>
 bind (app 5 80 s8 y32) fun y33=>
 bind (bop .int .add s36 (Value.int .i64 1)) fun y34=>
 ret (.nrm [s3,s4,s5,y33,s34,s35,y34]))
 (ret (.ext 2 [s5,s8]))
noncomputable def ZaS (Γ : Zc) (x0 : Value) : M Value:=
 bind (Γ Zfs []) fun y1=>
 bind (uop .not y1) fun y2=>
 cnd y2
 (ret (Value.bool false))
 (bind (bop .int .rem x0 (Value.int .u8 26)) fun y3=>
 bind (bop .int .add (Value.int .u8 97) y3) fun y4=>
 bind (bsl 1 1 (.int .u8 0) [(0,1,y4)]) fun y5=>
 bind (b2s y5) fun y6=>
 bind (alc 1 (.string ⟨#[]⟩)) fun y7=>
 bind (st1 y7 y6) fun _=>
 bind (bsl 1 6 (.string ⟨#[]⟩) [(0,1,(Value.string ⟨#[97,49]⟩)),(1,1,(Value.string ⟨#[98,49]⟩)),(2,1,(Value.string ⟨#[99,49]⟩)),(3,1,(Value.string ⟨#[100,49]⟩)),(4,1,(Value.string ⟨#[101,49]⟩)),(5,1,(Value.string ⟨#[102,49]⟩))]) fun y8=>
 bind (Zp y8) fun y9=>
 jn (Zh (c6 (ZaS.l1 Γ)) [y7,(Value.func (.func 11) #[] #[y7]),(Value.slice none 0 0),y8,y9,(Value.int .i64 0)]) noN (xk 0 (c3 fun q18_0 q18_1 q18_2=>
 bind (bsl 1 12 (.string ⟨#[]⟩) [(0,1,(Value.string ⟨#[97]⟩)),(1,1,(Value.string ⟨#[98]⟩)),(2,1,(Value.string ⟨#[99]⟩)),(3,1,(Value.string ⟨#[100]⟩)),(4,1,(Value.string ⟨#[101]⟩)),(5,1,(Value.string ⟨#[102]⟩)),(6,1,(Value.string ⟨#[103]⟩)),(7,1,(Value.string ⟨#[104]⟩)),(8,1,(Value.string ⟨#[105]⟩)),(9,1,(Value.string ⟨#[106]⟩)),(10,1,(Value.string ⟨#[107]⟩)),(11,1,(Value.string ⟨#[108]⟩))]) fun y19=>
 bind (Zp y19) fun y20=>
 jn (Zh (c7 (ZaS.l2 Γ)) [q18_0,q18_1,q18_2,(Value.slice none 0 0),y19,y20,(Value.int .i64 0)]) noN (xk 2 (c2 fun q36_0 q36_1=>
 bind (Γ ZaL [q36_1,q36_0]) fun y37=>
 bind (Zq y37 0) fun y38=>
 bind (Zq y37 1) fun y39=>
 bind (bop .int .eql y39 (Value.int .i64 0)) fun y40=>
 bind (ZD y40 true 2 (bind (bop .ptr .neq y38 (Value.pointer none)) fun y41=>
 ret [y38,y41])) (c2 fun _ q42_1=>
 bind (pick y40 q42_1 (Value.bool false)) fun y43=>
 bind (ZD y43 true 5 (bind (Γ QG [y38]) fun y44=>
 bind (Zp y44) fun y45=>
 bind (Γ Zss []) fun y46=>
 bind (bop .int .eql y45 y46) fun y47=>
 ret [y38,y44,y45,y46,y47])) (c5 fun _ _ _ _ q48_4=>
 bind (pick y43 q48_4 (Value.bool false)) fun y49=>
 ret y49))) noX) ret) noX) ret)
noncomputable def ZeR.l1 (Γ : Zc) (s5 s6 s9 s11 s63 s64 s65 : Value) : M Out:=
 bind (bop .int .lss s65 s64) fun y44=>
 cnd y44
 (bind (ixa 4 s63 s65) fun y45=>
 bind (ldA 4 y45) fun y46=>
 bind (alc 1 (.agg #[.int .u8 0,.string ⟨#[]⟩,.string ⟨#[]⟩,.bool false])) fun y47=>
 bind (stA 4 y47 y46) fun _=>
 bind (ldA 2 s6) fun y48=>
 bind (ldA 4 y47) fun y49=>
 bind (Γ Zgd [s5,y48,y49]) fun y50=>
 bind (Zq y50 0) fun y51=>
 bind (Zq y50 1) fun y52=>
 bind (stA 2 s6 y51) fun _=>
 bind (ldA 2 s11) fun y53=>
 bind (ldA 4 y47) fun y54=>
 bind (Γ Zgd [s9,y53,y54]) fun y55=>
 bind (Zq y55 0) fun y56=>
 bind (Zq y55 1) fun y57=>
 bind (stA 2 s11 y56) fun _=>
 bind (uop .not y52) fun y58=>
 bind (Ze y58 false (ret y57)) fun y59=>
 bind (Ze y58 false (uop .not y59)) fun y60=>
 bind (pick y58 (Value.bool true) y60) fun y61=>
 bind (Ze y61 false (ret s5)) fun y62=>
 bind (Ze y61 false (ret s9)) fun y63=>
 bind (Ze y61 false (Γ QG [y62])) fun y64=>
 bind (Ze y61 false (b2s y64)) fun y65=>
 bind (Ze y61 false (Γ QG [y63])) fun y66=>
 bind (Ze y61 false (b2s y64)) fun u_67=>same u_67 y65 <|
 bind (Ze y61 false (b2s y66)) fun y68=>
 bind (Ze y61 false (bop .str .neq y65 y68)) fun y69=>
 bind (pick y61 (Value.bool true) y69) fun y70=>
 cnd y70
 (ret (.ret (Value.bool false)))
 (bind (bop .int .add s65 (Value.int .i64 1)) fun y71=>
 ret (.nrm [s5,s6,s9,s11,s63,s64,y71])))
 (ret (.ext 0 []))
noncomputable def ZeR (Γ : Zc) (x0 x1 : Value) : M Value:=
 bind (Γ Zfs []) fun y1=>
 bind (uop .not y1) fun y2=>
 bind (ZD y2 false 3 (bind (Γ Zhq [x0]) fun y3=>
 bind (uop .not y3) fun y4=>
 ret [x0,y3,y4])) (c3 fun _ _ q5_2=>
 bind (pick y2 (Value.bool true) q5_2) fun y6=>
 bind (ZD y6 false 3 (bind (Γ Zhq [x1]) fun y7=>
 bind (uop .not y7) fun y8=>
 ret [x1,y7,y8])) (c3 fun _ _ q9_2=>
 bind (pick y6 (Value.bool true) q9_2) fun y10=>
 cnd y10
 (bind (Γ Zfs []) fun y11=>
 ret y11)
 (bind (Γ Zif [x0]) fun y12=>
 bind (Zq y12 0) fun y13=>
 bind (Zq y12 1) fun y14=>
 bind (alc 1 (.agg #[.slice none 0 0,.slice none 0 0])) fun y15=>
 bind (stA 2 y15 y14) fun _=>
 bind (Γ Zif [x1]) fun y16=>
 bind (Zq y16 0) fun y17=>
 bind (Zq y16 1) fun y18=>
 bind (alc 1 (.agg #[.slice none 0 0,.slice none 0 0])) fun y19=>
 bind (stA 2 y19 y18) fun _=>
 bind (ldA 2 y15) fun y20=>
 bind (Γ QG [y13]) fun y21=>
 bind (ldA 2 y15) fun u_22=>same u_22 y20 <|
 bind (b2s y21) fun y23=>
 bind (Γ QG [y17]) fun y24=>
 bind (b2s y21) fun u_25=>same u_25 y23 <|
 bind (ldA 2 y15) fun u_26=>same u_26 y20 <|
 bind (b2s y24) fun y27=>
 bind (bop .str .eql y23 y27) fun y28=>
 bind (Γ Zsp [y17,y20]) fun y29=>
 bind (b2s y24) fun u_30=>same u_30 y27 <|
 bind (b2s y21) fun u_31=>same u_31 y23 <|
 bind (bop .bool .neq y28 y29) fun y32=>
 cnd y32
 (ret (Value.bool false))
 (bind (Γ QG [y13]) fun y33=>
 bind (Γ Zk7 [y33]) fun y34=>
 bind (Zq y34 0) fun y35=>
 bind (Zq y34 1) fun y36=>
 bind (bop .int .neq y36 (Value.int .i64 0)) fun y37=>
 bind (ZD y37 false 2 (bind (bop .ptr .eql y35 (Value.pointer none)) fun y38=>
 ret [y35,y38])) (c2 fun _ q39_1=>
 bind (pick y37 (Value.bool true) q39_1) fun y40=>
 cnd y40
 (ret (Value.bool false))
 (bind (ldA 2 y15) fun y41=>
 bind (alc 1 (.agg #[.slice none 0 0,.slice none 0 0])) fun y42=>
 bind (stA 2 y42 y41) fun _=>
 bind (Zp x1) fun y43=>
 jn (Zh (c7 (ZeR.l1 Γ)) [y13,y15,y35,y42,x1,y43,(Value.int .i64 0)]) noN (xk 0 (c0 (ret (Value.bool true))) noX) ret))))))
noncomputable def ZK.l1 (Γ : Zc) (s1 s2 s3 s9 s48 s49 s50 : Value) : M Out:=
 bind (bop .int .lss s50 s49) fun y22=>
 cnd y22
 (bind (ixa 3 s48 s50) fun y23=>
 bind (ldA 3 y23) fun y24=>
 bind (alc 1 (.agg #[.int .u8 0,.string ⟨#[]⟩,.string ⟨#[]⟩])) fun y25=>
 bind (stA 3 y25 y24) fun _=>
 bind (ldA 3 y25) fun y26=>
 bind (Γ ZaI [s9,y26]) fun y27=>
 bind (bop .int .add s50 (Value.int .i64 1)) fun y28=>
 ret (.nrm [s1,s2,s3,s9,s48,s49,y28]))
 (ret (.ext 0 [s1,s2,s3,s9]))
noncomputable def ZK.l2 (Γ : Zc) (s2 s3 s9 s13 s72 s73 s74 : Value) : M Out:=
 bind (bop .int .lss s74 s73) fun y41=>
 cnd y41
 (bind (ixa 3 s72 s74) fun y42=>
 bind (ldA 3 y42) fun y43=>
 bind (alc 1 (.agg #[.int .u8 0,.string ⟨#[]⟩,.string ⟨#[]⟩])) fun y44=>
 bind (stA 3 y44 y43) fun _=>
 bind (ldA 3 y44) fun y45=>
 bind (ldA 3 y44) fun y46=>
 bind (Γ ZaI [s9,y45]) fun y47=>
 bind (ldA 3 y44) fun u_48=>same u_48 y46 <|
 bind (Γ Wt [s13,y46]) fun y49=>
 bind (bop .int .neq y47 y49) fun y50=>
 bind (Ze y50 false (ret s9)) fun y51=>
 bind (Ze y50 false (ret s13)) fun y52=>
 bind (Ze y50 false (Γ YS [y51])) fun y53=>
 bind (Ze y50 false (Γ QG [y53])) fun y54=>
 bind (Ze y50 false (b2s y54)) fun y55=>
 bind (Ze y50 false (Γ QG [y52])) fun y56=>
 bind (Ze y50 false (b2s y54)) fun u_57=>same u_57 y55 <|
 bind (Ze y50 false (b2s y56)) fun y58=>
 bind (Ze y50 false (bop .str .neq y55 y58)) fun y59=>
 bind (pick y50 (Value.bool true) y59) fun y60=>
 cnd y60
 (ret (.ret (Value.bool false)))
 (bind (Γ WD [s9,s2]) fun y61=>
 bind (Zq y61 0) fun y62=>
 bind (Zq y61 1) fun y63=>
 bind (Γ Y8 [s13,s2]) fun y64=>
 bind (Zq y64 0) fun y65=>
 bind (Zq y64 1) fun y66=>
 bind (alc 1 (.agg #[.string ⟨#[]⟩,.string ⟨#[]⟩,.string ⟨#[]⟩,.bool false,.slice none 0 0])) fun y67=>
 bind (stA 5 y67 y65) fun _=>
 bind (Γ ZaA [s9,s3]) fun y68=>
 bind (Zq y68 0) fun y69=>
 bind (Zq y68 1) fun y70=>
 bind (Γ ZaD [s13,s3]) fun y71=>
 bind (Zq y71 0) fun y72=>
 bind (Zq y71 1) fun y73=>
 bind (fa 1 y67) fun y74=>
 bind (ld1 y74) fun y75=>
 bind (bop .str .neq y62 y75) fun y76=>
 bind (ZD y76 false 3 (bind (bop .int .neq y63 y66) fun y77=>
 ret [y63,y66,y77])) (c3 fun _ _ q78_2=>
 bind (pick y76 (Value.bool true) q78_2) fun y79=>
 bind (ZD y79 false 3 (bind (bop .int .neq y70 y73) fun y80=>
 ret [y70,y73,y80])) (c3 fun _ _ q81_2=>
 bind (pick y79 (Value.bool true) q81_2) fun y82=>
 bind (ZD y82 false 4 (bind (Γ Wz [y69,y72]) fun y83=>
 bind (uop .not y83) fun y84=>
 ret [y69,y72,y83,y84])) (c4 fun _ _ _ q85_3=>
 bind (pick y82 (Value.bool true) q85_3) fun y86=>
 cnd y86
 (ret (.ret (Value.bool false)))
 (bind (bop .int .add s74 (Value.int .i64 1)) fun y87=>
 ret (.nrm [s2,s3,s9,s13,s72,s73,y87])))))))
 (ret (.ext 2 []))
noncomputable def ZK (Γ : Zc) (x0 x1 x2 x3 : Value) : M Value:=
 bind (Γ KR []) fun y1=>
 bind (uop .not y1) fun y2=>
 bind (ZD y2 false 3 (bind (Γ Wa [x0]) fun y3=>
 bind (uop .not y3) fun y4=>
 ret [x0,y3,y4])) (c3 fun _ _ q5_2=>
 bind (pick y2 (Value.bool true) q5_2) fun y6=>
 bind (ZD y6 false 3 (bind (Γ Wa [x1]) fun y7=>
 bind (uop .not y7) fun y8=>
 ret [x1,y7,y8])) (c3 fun _ _ q9_2=>
 bind (pick y6 (Value.bool true) q9_2) fun y10=>
 bind (ZD y10 false 3 (bind (QX x2) fun y11=>
 bind (bop .int .gtr y11 (Value.int .i64 50)) fun y12=>
 ret [x2,y11,y12])) (c3 fun _ _ q13_2=>
 bind (pick y10 (Value.bool true) q13_2) fun y14=>
 bind (ZD y14 false 3 (bind (QX x3) fun y15=>
 bind (bop .int .gtr y15 (Value.int .i64 50)) fun y16=>
 ret [x3,y15,y16])) (c3 fun _ _ q17_2=>
 bind (pick y14 (Value.bool true) q17_2) fun y18=>
 cnd y18
 (bind (Γ KR []) fun y19=>
 ret y19)
 (bind (Γ ZaO []) fun y20=>
 bind (Zp x0) fun y21=>
 jn (Zh (c7 (ZK.l1 Γ)) [x1,x2,x3,y20,x0,y21,(Value.int .i64 0)]) noN (xk 0 (c4 fun q30_0 q30_1 q30_2 q30_3=>
 bind (Γ W8 [q30_3]) fun y31=>
 bind (b2s y31) fun y32=>
 bind (Γ YS [q30_3]) fun y33=>
 bind (bop .ptr .eql y33 (Value.pointer none)) fun y34=>
 bind (ZD y34 false 5 (bind (Γ W8 [q30_3]) fun y35=>
 bind (b2s y35) fun y36=>
 bind (bop .str .neq y36 y32) fun y37=>
 ret [q30_3,y35,y36,y32,y37])) (c5 fun _ _ _ _ q38_4=>
 bind (pick y34 (Value.bool true) q38_4) fun y39=>
 cnd y39
 (ret (Value.bool false))
 (bind (Zp q30_0) fun y40=>
 jn (Zh (c7 (ZK.l2 Γ)) [q30_1,q30_2,q30_3,y33,q30_0,y40,(Value.int .i64 0)]) noN (xk 2 (c0 (bind (Γ YS [(Value.pointer none)]) fun y90=>
 bind (bop .ptr .eql y90 (Value.pointer none)) fun y91=>
 ret y91)) noX) ret))) noX) ret)))))
theorem ZiH (Γ : Zc) (x0 x1 x2 x3 : Value) : Zv Tryz.prog Γ Tryz.f8 Zdx [x0,x1,x2,x3]=ZK Γ x0 x1 x2 x3:=by kernel_rfl
theorem Zhf {prim : FuncId→Option (List Value→M Value)} (hp : prim KT=none) (n : Nat) (x0 x1 x2 x3 : Value) : run Tryz.prog prim lvs (n+1) KT [x0,x1,x2,x3]=ZK (run Tryz.prog prim lvs n) x0 x1 x2 x3:=
 (Zi hp (by kernel_rfl) Tryz.func8 (by kernel_rfl)).trans (ZiH _ x0 x1 x2 x3)
noncomputable def WW.l1 (Γ : Zc) (s3 s4 s23 s24 s25 : Value) : M Out:=
 bind (bop .int .lss s25 s24) fun y11=>
 cnd y11
 (bind (ixa 4 s23 s25) fun y12=>
 bind (ldA 4 y12) fun y13=>
 bind (alc 1 (.agg #[.int .u8 0,.string ⟨#[]⟩,.string ⟨#[]⟩,.bool false])) fun y14=>
 bind (stA 4 y14 y13) fun _=>
 bind (ldA 2 s4) fun y15=>
 bind (ldA 4 y14) fun y16=>
 bind (Γ Zgd [s3,y15,y16]) fun y17=>
 bind (Zq y17 0) fun y18=>
 bind (Zq y17 1) fun y19=>
 bind (stA 2 s4 y18) fun _=>
 bind (bop .int .add s25 (Value.int .i64 1)) fun y20=>
 ret (.nrm [s3,s4,s23,s24,y20]))
 (ret (.ext 0 [s3,s4]))
noncomputable def WW.l2 (Γ : Zc) (s3 s4 s7 s42 s43 s44 : Value) : M Out:=
 bind (bop .int .lss s44 s43) fun y30=>
 cnd y30
 (bind (ixa 5 s42 s44) fun y31=>
 bind (ldA 5 y31) fun y32=>
 bind (alc 1 (.agg #[.string ⟨#[]⟩,.string ⟨#[]⟩,.string ⟨#[]⟩,.bool false,.slice none 0 0])) fun y33=>
 bind (stA 5 y33 y32) fun _=>
 bind (ZD s7 true 3 (bind (fa 2 y33) fun y34=>
 bind (ld1 y34) fun y35=>
 bind (bop .str .eql y35 (Value.string ⟨#[]⟩)) fun y36=>
 ret [y34,y35,y36])) (c3 fun _ _ q37_2=>
 bind (pick s7 q37_2 (Value.bool false)) fun y38=>
 bind (ZD y38 true 3 (bind (fa 3 y33) fun y39=>
 bind (ld1 y39) fun y40=>
 bind (uop .not y40) fun y41=>
 ret [y39,y40,y41])) (c3 fun _ _ q42_2=>
 bind (pick y38 q42_2 (Value.bool false)) fun y43=>
 bind (bop .int .add s44 (Value.int .i64 1)) fun y44=>
 ret (.nrm [s3,s4,y43,s42,s43,y44]))))
 (ret (.ext 2 [s3,s4,s7]))
noncomputable def WW (Γ : Zc) (x0 : Value) : M Value:=
 bind (Γ KR []) fun y1=>
 bind (uop .not y1) fun y2=>
 bind (ZD y2 false 3 (bind (Γ Zhq [x0]) fun y3=>
 bind (uop .not y3) fun y4=>
 ret [x0,y3,y4])) (c3 fun _ _ q5_2=>
 bind (pick y2 (Value.bool true) q5_2) fun y6=>
 cnd y6
 (bind (Γ KR []) fun y7=>
 ret y7)
 (bind (Γ ZaP []) fun y8=>
 bind (alc 1 (.agg #[.slice none 0 0,.slice none 0 0])) fun y9=>
 bind (Zp x0) fun y10=>
 jn (Zh (c5 (WW.l1 Γ)) [y8,y9,x0,y10,(Value.int .i64 0)]) noN (xk 0 (c2 fun q22_0 q22_1=>
 bind (fa 1 q22_1) fun y23=>
 bind (ld1 y23) fun y24=>
 bind (Zp y24) fun y25=>
 bind (bop .int .eql y25 (Value.int .i64 0)) fun y26=>
 bind (fa 0 q22_1) fun y27=>
 bind (ld1 y27) fun y28=>
 bind (Zp y28) fun y29=>
 jn (Zh (c6 (WW.l2 Γ)) [q22_0,q22_1,y26,y28,y29,(Value.int .i64 0)]) noN (xk 2 (c3 fun q46_0 q46_1 q46_2=>
 bind (Γ Zig [q46_0]) fun y47=>
 bind (Zq y47 0) fun y48=>
 bind (Zq y47 1) fun y49=>
 bind (uop .not q46_2) fun y50=>
 cnd y50
 (bind (bop .int .eql y49 (Value.int .i64 12)) fun y51=>
 bind (ZD y51 true 2 (bind (bop .ptr .eql y48 (Value.pointer none)) fun y52=>
 ret [y48,y52])) (c2 fun _ q53_1=>
 bind (pick y51 q53_1 (Value.bool false)) fun y54=>
 ret y54))
 (bind (bop .int .neq y49 (Value.int .i64 0)) fun y55=>
 bind (Ze y55 false (ret y48)) fun y56=>
 bind (Ze y55 false (bop .ptr .eql y56 (Value.pointer none))) fun y57=>
 bind (pick y55 (Value.bool true) y57) fun y58=>
 bind (Ze y58 false (ret y48)) fun y59=>
 bind (Ze y58 false (ret q46_0)) fun y60=>
 bind (Ze y58 false (Γ YS [y59])) fun y61=>
 bind (Ze y58 false (Γ QG [y61])) fun y62=>
 bind (Ze y58 false (b2s y62)) fun y63=>
 bind (Ze y58 false (Γ QG [y60])) fun y64=>
 bind (Ze y58 false (b2s y62)) fun u_65=>same u_65 y63 <|
 bind (Ze y58 false (b2s y64)) fun y66=>
 bind (Ze y58 false (bop .str .neq y63 y66)) fun y67=>
 bind (pick y58 (Value.bool true) y67) fun y68=>
 cnd y68
 (ret (Value.bool false))
 (bind (Γ Zig [(Value.pointer none)]) fun y69=>
 bind (Zq y69 0) fun y70=>
 bind (Zq y69 1) fun y71=>
 bind (bop .int .eql y71 (Value.int .i64 12)) fun y72=>
 bind (Ze y72 true (ret y70)) fun y73=>
 bind (Ze y72 true (bop .ptr .eql y73 (Value.pointer none))) fun y74=>
 bind (pick y72 y74 (Value.bool false)) fun y75=>
 bind (Ze y75 true (ret y48)) fun y76=>
 bind (Ze y75 true (fa 0 q46_1)) fun y77=>
 bind (Ze y75 true (ld1 y77)) fun y78=>
 bind (Ze y75 true (Γ KA [y76])) fun y79=>
 bind (Ze y75 true (ld1 y77)) fun u_80=>same u_80 y78 <|
 bind (Ze y75 true (Γ ZlW [y79,y78])) fun y81=>
 bind (pick y75 y81 (Value.bool false)) fun y82=>
 ret y82))) noX) ret) noX) ret))
noncomputable def ZeT.l1 (Γ : Zc) (s0 s1 s2 : Value) : M Out:=
 bind (QX s0) fun y1=>
 bind (bop .int .lss y1 s1) fun y2=>
 cnd y2
 (bind (ld1 s2) fun y3=>
 bind (bop .str .add s0 y3) fun y4=>
 ret (.nrm [y4,s1,s2]))
 (ret (.ext 0 [s0]))
noncomputable def ZeT (Γ : Zc) (x0 x1 x2 : Value) : M Value:=
 jn (Zh (c3 (ZeT.l1 Γ)) [x0,x1,x2]) noN (xk 0 (c1 fun q6_0=>
 ret q6_0) noX) ret
noncomputable def QA.l1 (Γ : Zc) (s0 s7 s23 s24 s25 : Value) : M Out:=
 bind (bop .int .lss s25 s24) fun y5=>
 cnd y5
 (bind (ixa 1 s23 s25) fun y6=>
 bind (ld1 y6) fun y7=>
 bind (Qa s7) fun y8=>
 bind (fa 2 y8) fun y9=>
 bind (ld1 y9) fun y10=>
 bind (Γ YH [y10,y7]) fun y11=>
 bind (bop .int .add s25 (Value.int .i64 1)) fun y12=>
 ret (.nrm [s0,s7,s23,s24,y12]))
 (ret (.ext 0 [s0,s7]))
noncomputable def QA.l3 (Γ : Zc) (s7 s11 s36 s37 s38 s54 s55 s56 : Value) : M Out:=
 bind (bop .int .lss s56 s55) fun y33=>
 cnd y33
 (bind (ixa 1 s54 s56) fun y34=>
 bind (ld1 y34) fun y35=>
 bind (Qa s7) fun y36=>
 bind (fa 2 y36) fun y37=>
 bind (ld1 y37) fun y38=>
 bind (fa 0 s11) fun y39=>
 bind (ld1 y39) fun y40=>
 bind (Γ Ku [y38,y35,y40]) fun y41=>
 bind (bop .int .neq y41 (Value.int .i64 0)) fun y42=>
 cnd y42
 (ret (.ret (Value.tuple #[(Value.pointer none),y41])))
 (bind (bop .int .add s56 (Value.int .i64 1)) fun y43=>
 ret (.nrm [s7,s11,s36,s37,s38,s54,s55,y43])))
 (ret (.ext 4 [s7,s11,s36,s37,s38]))
noncomputable def QA.l2 (Γ : Zc) (s7 s36 s37 s38 : Value) : M Out:=
 bind (bop .int .lss s38 s37) fun y16=>
 cnd y16
 (bind (ixa 5 s36 s38) fun y17=>
 bind (ldA 5 y17) fun y18=>
 bind (alc 1 (.agg #[.string ⟨#[]⟩,.string ⟨#[]⟩,.string ⟨#[]⟩,.bool false,.slice none 0 0])) fun y19=>
 bind (stA 5 y19 y18) fun _=>
 bind (Qa s7) fun y20=>
 bind (fa 0 y20) fun y21=>
 bind (ld1 y21) fun y22=>
 bind (fa 0 y19) fun y23=>
 bind (ld1 y23) fun y24=>
 bind (fa 1 y19) fun y25=>
 bind (ld1 y25) fun y26=>
 bind (fa 3 y19) fun y27=>
 bind (ld1 y27) fun y28=>
 bind (bld (.agg #[.string ⟨#[]⟩,.bool false]) [(0,1,y26),(1,1,y28)]) fun y29=>
 bind (mup .str y22 y24 y29) fun _=>
 bind (fa 4 y19) fun y30=>
 bind (ld1 y30) fun y31=>
 bind (Zp y31) fun y32=>
 jn (Zh (c8 (QA.l3 Γ)) [s7,y19,s36,s37,s38,y31,y32,(Value.int .i64 0)]) noN (xk 4 (c5 fun q45_0 q45_1 q45_2 q45_3 q45_4=>
 bind (Qa q45_0) fun y46=>
 bind (fa 1 y46) fun y47=>
 bind (ld1 y47) fun y48=>
 bind (fa 0 q45_1) fun y49=>
 bind (ld1 y49) fun y50=>
 bind (fa 2 q45_1) fun y51=>
 bind (ld1 y51) fun y52=>
 bind (Γ Kf [y48,y50,y52]) fun y53=>
 bind (bop .int .neq y53 (Value.int .i64 0)) fun y54=>
 cnd y54
 (ret (.ret (Value.tuple #[(Value.pointer none),y53])))
 (bind (bop .int .add q45_4 (Value.int .i64 1)) fun y55=>
 ret (.nrm [q45_0,q45_2,q45_3,y55]))) noX) ZY)
 (ret (.ext 2 [s7]))
noncomputable def QA (Γ : Zc) (x0 x1 : Value) : M Value:=
 bind (Γ Zbq [x0,x1]) fun y1=>
 bind (bop .int .neq y1 (Value.int .i64 0)) fun y2=>
 cnd y2
 (ret (Value.tuple #[(Value.pointer none),y1]))
 (bind (Γ ZaP []) fun y3=>
 bind (Zp x1) fun y4=>
 jn (Zh (c5 (QA.l1 Γ)) [x0,y3,x1,y4,(Value.int .i64 0)]) noN (xk 0 (c2 fun q14_0 q14_1=>
 bind (Zp q14_0) fun y15=>
 jn (Zh (c4 (QA.l2 Γ)) [q14_1,q14_0,y15,(Value.int .i64 0)]) noN (xk 2 (c1 fun q58_0=>
 ret (Value.tuple #[q58_0,(Value.int .i64 0)])) noX) ret) noX) ret)
theorem Zuk (Γ : Zc) (x0 x1 : Value) : Zv Tryz.prog Γ Tryz.f12 Zny [x0,x1]=QA Γ x0 x1:=by kernel_rfl
theorem ZsC {prim : FuncId→Option (List Value→M Value)} (hp : prim ZaL=none) (n : Nat) (x0 x1 : Value) : run Tryz.prog prim lvs (n+1) ZaL [x0,x1]=QA (run Tryz.prog prim lvs n) x0 x1:=
 (Zi hp (by kernel_rfl) Tryz.func12 (by kernel_rfl)).trans (Zuk _ x0 x1)
noncomputable def KV.l1 (Γ : Zc) (s3 s19 s20 s21 : Value) : M Out:=
 bind (bop .int .lss s21 s20) fun y12=>
 cnd y12
 (bind (ixa 5 s19 s21) fun y13=>
 bind (ldA 5 y13) fun y14=>
 bind (alc 1 (.agg #[.string ⟨#[]⟩,.string ⟨#[]⟩,.string ⟨#[]⟩,.bool false,.slice none 0 0])) fun y15=>
 bind (stA 5 y15 y14) fun _=>
 bind (ldA 5 y15) fun y16=>
 bind (Γ ZcL [s3,(Value.int .i64 2),y16]) fun y17=>
 bind (bop .int .add s21 (Value.int .i64 1)) fun y18=>
 ret (.nrm [s3,s19,s20,y18]))
 (ret (.ext 0 [s3]))
noncomputable def KV (Γ : Zc) (x0 : Value) : M Value:=
 bind (bop .ptr .eql x0 (Value.pointer none)) fun y1=>
 cnd y1
 (ret (Value.slice none 0 0))
 (bind (bld (.agg #[.slice none 0 0]) []) fun y2=>
 bind (alc 1 y2) fun y3=>
 bind (Γ QR [y3,(Value.int .u8 2)]) fun y4=>
 bind (Γ WH [x0]) fun y5=>
 bind (Γ YZ [y4,y5]) fun y6=>
 bind (Γ ZaX [x0]) fun y7=>
 bind (cvi .u16 y7) fun y8=>
 bind (Γ Ju [y6,y8]) fun y9=>
 bind (Γ Za2 [x0]) fun y10=>
 bind (Zp y10) fun y11=>
 jn (Zh (c4 (KV.l1 Γ)) [y9,y10,y11,(Value.int .i64 0)]) noN (xk 0 (c1 fun q20_0=>
 bind (Γ Yn [q20_0]) fun y21=>
 ret y21) noX) ret)
theorem Zp3 (Γ : Zc) (x0 : Value) : Zv Tryz.prog Γ Tryz.f13 Zh5 [x0]=KV Γ x0:=by kernel_rfl
theorem ZoT {prim : FuncId→Option (List Value→M Value)} (hp : prim QG=none) (n : Nat) (x0 : Value) : run Tryz.prog prim lvs (n+1) QG [x0]=KV (run Tryz.prog prim lvs n) x0:=
 (Zi hp (by kernel_rfl) Tryz.func13 (by kernel_rfl)).trans (Zp3 _ x0)
noncomputable def Zll.l1 (Γ : Zc) (s4 s6 s8 s32 s33 : Value) : M Out:=
 bind (bop .int .lss s33 s32) fun y14=>
 cnd y14
 (bind (Γ ZcC [s4,(Value.int .i64 2)]) fun y15=>
 bind (bsl 5 1 (.agg #[.string ⟨#[]⟩,.string ⟨#[]⟩,.string ⟨#[]⟩,.bool false,.slice none 0 0]) [(0,5,y15)]) fun y16=>
 bind (app 5 80 s8 y16) fun y17=>
 bind (bop .int .add s33 (Value.int .i64 1)) fun y18=>
 ret (.nrm [s4,s6,y17,s32,y18]))
 (ret (.ext 0 [s4,s6,s8]))
noncomputable def Zll (Γ : Zc) (x0 : Value) : M Value:=
 bind (Γ ZcF [x0]) fun y1=>
 bind (Γ Yz [y1]) fun y2=>
 bind (Γ Qf [y1]) fun y3=>
 bind (bop .int .eql y3 (Value.int .i64 0)) fun y4=>
 bind (ZD y4 true 2 (bind (bop .int .neq y2 (Value.int .u8 2)) fun y5=>
 ret [y2,y5])) (c2 fun _ q6_1=>
 bind (pick y4 q6_1 (Value.bool false)) fun y7=>
 cnd y7
 (ret (Value.tuple #[(Value.pointer none),(Value.int .i64 6)]))
 (bind (Γ ZfV [y1,(Value.int .i64 6),(Value.int .i64 12)]) fun y8=>
 bind (Γ Yl [y1]) fun y9=>
 bind (cvi .i64 y9) fun y10=>
 bind (bop .int .gtr y10 (Value.int .i64 12)) fun y11=>
 jn (cnd y11
 (bind (Γ ZX [y1,(Value.int .i64 7)]) fun y12=>
 ret (.nrm [y1,y8,(Value.int .i64 0)]))
 (ret (.nrm [y1,y8,y10]))) (c3 fun q13_0 q13_1 q13_2=>
 jn (Zh (c5 (Zll.l1 Γ)) [q13_0,q13_1,(Value.slice none 0 0),q13_2,(Value.int .i64 0)]) noN (xk 0 (c3 fun q20_0 q20_1 q20_2=>
 bind (Γ Qf [q20_0]) fun y21=>
 bind (bop .int .neq y21 (Value.int .i64 0)) fun y22=>
 cnd y22
 (ret (Value.tuple #[(Value.pointer none),y21]))
 (bind (Γ ZaL [q20_2,q20_1]) fun y23=>
 bind (Zq y23 0) fun y24=>
 bind (Zq y23 1) fun y25=>
 bind (bop .int .eql y25 (Value.int .i64 0)) fun y26=>
 jn (cnd y26
 (bind (Γ YY [q20_0]) fun y27=>
 ret (.nrm [y24,y27]))
 (ret (.nrm [y24,y25]))) (c2 fun q28_0 q28_1=>
 bind (bop .int .neq q28_1 (Value.int .i64 0)) fun y29=>
 cnd y29
 (ret (Value.tuple #[(Value.pointer none),q28_1]))
 (ret (Value.tuple #[q28_0,(Value.int .i64 0)]))) noX ret)) noX) ret) noX ret))
noncomputable def Zlj.l1 (Γ : Zc) (s2 s4 s5 s6 s8 s45 s46 : Value) : M Out:=
 bind (bop .int .lss s46 s45) fun y37=>
 cnd y37
 (bind (ldA 2 s5) fun y38=>
 bind (Γ ZnN [y38,(Value.int .i64 2)]) fun y39=>
 bind (Zq y39 0) fun y40=>
 bind (Zq y39 1) fun y41=>
 bind (alc 1 (.agg #[.string ⟨#[]⟩,.int .i64 0])) fun y42=>
 bind (alc 1 (.agg #[.string ⟨#[]⟩,.string ⟨#[]⟩,.string ⟨#[]⟩,.bool false,.slice none 0 0])) fun y43=>
 bind (stA 2 y42 y40) fun _=>
 bind (stA 5 y43 y41) fun _=>
 bind (ldA 2 y42) fun y44=>
 bind (stA 2 s5 y44) fun _=>
 bind (ldA 5 y43) fun y45=>
 bind (bsl 5 1 (.agg #[.string ⟨#[]⟩,.string ⟨#[]⟩,.string ⟨#[]⟩,.bool false,.slice none 0 0]) [(0,5,y45)]) fun y46=>
 bind (app 5 80 s8 y46) fun y47=>
 bind (bop .int .add s46 (Value.int .u64 1)) fun y48=>
 ret (.nrm [s2,s4,s5,s6,y47,s45,y48]))
 (ret (.ext 0 [s2,s4,s5,s6,s8]))
noncomputable def Zlj (Γ : Zc) (x0 : Value) : M Value:=
 bind (alc 1 (.agg #[.slice none 0 0,.slice none 0 0])) fun y1=>
 bind (bld (.agg #[.slice none 0 0,.slice none 0 0]) []) fun y2=>
 bind (alc 1 (.agg #[.slice none 0 0,.slice none 0 0])) fun y3=>
 bind (stA 2 y3 y2) fun _=>
 bind (bop .str .eql x0 (Value.string ⟨#[]⟩)) fun y4=>
 cnd y4
 (bind (ldA 2 y3) fun y5=>
 bind (stA 2 y1 y5) fun _=>
 bind (ldA 2 y1) fun y6=>
 ret (Value.tuple #[y6,(Value.int .i64 2)]))
 (bind (ixs x0 (Value.int .i64 0)) fun y7=>
 bind (bop .int .neq y7 (Value.int .u8 2)) fun y8=>
 cnd y8
 (bind (ldA 2 y3) fun y9=>
 bind (stA 2 y1 y9) fun _=>
 bind (ldA 2 y1) fun y10=>
 ret (Value.tuple #[y10,(Value.int .i64 6)]))
 (bind (sls x0 (some (Value.int .i64 1)) none) fun y11=>
 bind (bld (.agg #[.string ⟨#[]⟩,.int .i64 0]) [(0,1,y11)]) fun y12=>
 bind (Γ ZpJ [y12,(Value.int .i64 6),(Value.int .i64 12)]) fun y13=>
 bind (Zq y13 0) fun y14=>
 bind (Zq y13 1) fun y15=>
 bind (alc 1 (.agg #[.string ⟨#[]⟩,.int .i64 0])) fun y16=>
 bind (stA 2 y16 y14) fun _=>
 bind (ldA 2 y16) fun y17=>
 bind (Γ ZhP [y17,(Value.int .i64 2)]) fun y18=>
 bind (Zq y18 0) fun y19=>
 bind (Zq y18 1) fun y20=>
 bind (stA 2 y16 y19) fun _=>
 bind (fa 1 y16) fun y21=>
 bind (ld1 y21) fun y22=>
 bind (bop .int .eql y22 (Value.int .i64 0)) fun y23=>
 bind (ZD y23 true 2 (bind (bop .int .gtr y20 (Value.int .u64 12)) fun y24=>
 ret [y20,y24])) (c2 fun _ q25_1=>
 bind (pick y23 q25_1 (Value.bool false)) fun y26=>
 jn (cnd y26
 (bind (fa 1 y16) fun y27=>
 bind (st1 y27 (Value.int .i64 7)) fun _=>
 ret (.nrm [y1,y3,y16,y15,y20]))
 (ret (.nrm [y1,y3,y16,y15,y20]))) (c5 fun q28_0 q28_1 q28_2 q28_3 q28_4=>
 bind (fa 1 q28_2) fun y29=>
 bind (ld1 y29) fun y30=>
 bind (bop .int .neq y30 (Value.int .i64 0)) fun y31=>
 cnd y31
 (bind (ldA 2 q28_1) fun y32=>
 bind (fa 1 q28_2) fun y33=>
 bind (ld1 y33) fun y34=>
 bind (stA 2 q28_0 y32) fun _=>
 bind (ld1 y33) fun u_35=>same u_35 y34 <|
 bind (ldA 2 q28_0) fun y36=>
 ret (Value.tuple #[y36,y34]))
 (jn (Zh (c7 (Zlj.l1 Γ)) [q28_0,q28_1,q28_2,q28_3,(Value.slice none 0 0),q28_4,(Value.int .u64 0)]) noN (xk 0 (c5 fun q50_0 q50_1 q50_2 q50_3 q50_4=>
 bind (fa 1 q50_2) fun y51=>
 bind (ld1 y51) fun y52=>
 bind (bop .int .eql y52 (Value.int .i64 0)) fun y53=>
 jn (cnd y53
 (bind (Γ Zvu [q50_4,q50_3]) fun y54=>
 bind (fa 1 q50_2) fun y55=>
 bind (st1 y55 y54) fun _=>
 ret (.nrm [q50_0,q50_1,q50_2,q50_3,q50_4]))
 (ret (.nrm [q50_0,q50_1,q50_2,q50_3,q50_4]))) (c5 fun q56_0 q56_1 q56_2 q56_3 q56_4=>
 bind (fa 1 q56_2) fun y57=>
 bind (ld1 y57) fun y58=>
 bind (bop .int .eql y58 (Value.int .i64 0)) fun y59=>
 bind (ZD y59 true 3 (bind (fa 0 q56_2) fun y60=>
 bind (ld1 y60) fun y61=>
 bind (bop .str .neq y61 (Value.string ⟨#[]⟩)) fun y62=>
 ret [y60,y61,y62])) (c3 fun _ _ q63_2=>
 bind (pick y59 q63_2 (Value.bool false)) fun y64=>
 jn (cnd y64
 (bind (fa 1 q56_2) fun y65=>
 bind (st1 y65 (Value.int .i64 3)) fun _=>
 ret (.nrm [q56_0,q56_1,q56_2,q56_3,q56_4]))
 (ret (.nrm [q56_0,q56_1,q56_2,q56_3,q56_4]))) (c5 fun q66_0 q66_1 q66_2 q66_3 q66_4=>
 bind (fa 1 q66_2) fun y67=>
 bind (ld1 y67) fun y68=>
 bind (bop .int .neq y68 (Value.int .i64 0)) fun y69=>
 cnd y69
 (bind (ldA 2 q66_1) fun y70=>
 bind (fa 1 q66_2) fun y71=>
 bind (ld1 y71) fun y72=>
 bind (stA 2 q66_0 y70) fun _=>
 bind (ld1 y71) fun u_73=>same u_73 y72 <|
 bind (ldA 2 q66_0) fun y74=>
 ret (Value.tuple #[y74,y72]))
 (bind (bld (.agg #[.slice none 0 0,.slice none 0 0]) [(0,1,q66_4),(1,1,q66_3)]) fun y75=>
 bind (stA 2 q66_0 y75) fun _=>
 bind (ldA 2 q66_0) fun y76=>
 ret (Value.tuple #[y76,(Value.int .i64 0)]))) noX ret)) noX ret) noX) ret)) noX ret)))
noncomputable def Zmv.l1 (Γ : Zc) (s0 s5 s6 s7 : Value) : M Out:=
 bind (bop .int .lss s7 s6) fun y2=>
 cnd y2
 (bind (ixa 4 s5 s7) fun y3=>
 bind (ldA 4 y3) fun y4=>
 bind (alc 1 (.agg #[.int .u8 0,.string ⟨#[]⟩,.string ⟨#[]⟩,.bool false])) fun y5=>
 bind (stA 4 y5 y4) fun _=>
 bind (fa 1 y5) fun y6=>
 bind (ld1 y6) fun y7=>
 bind (QX y7) fun y8=>
 bind (bop .int .gtr y8 (Value.int .i64 50)) fun y9=>
 bind (ZD y9 false 4 (bind (fa 2 y5) fun y10=>
 bind (ld1 y10) fun y11=>
 bind (QX y11) fun y12=>
 bind (bop .int .gtr y12 (Value.int .i64 50)) fun y13=>
 ret [y10,y11,y12,y13])) (c4 fun _ _ _ q14_3=>
 bind (pick y9 (Value.bool true) q14_3) fun y15=>
 cnd y15
 (ret (.ret (Value.bool false)))
 (bind (bop .int .add s7 (Value.int .i64 1)) fun y16=>
 ret (.nrm [s0,s5,s6,y16]))))
 (ret (.ext 0 [s0]))
noncomputable def Zmv (Γ : Zc) (x0 : Value) : M Value:=
 bind (Zp x0) fun y1=>
 jn (Zh (c4 (Zmv.l1 Γ)) [x0,x0,y1,(Value.int .i64 0)]) noN (xk 0 (c1 fun q18_0=>
 bind (Zp q18_0) fun y19=>
 bind (bop .int .leq y19 (Value.int .i64 60)) fun y20=>
 ret y20) noX) ret
noncomputable def Zin.l1 (Γ : Zc) (s3 s4 s5 s9 s10 s11 : Value) : M Out:=
 bind (bop .int .lss s11 s10) fun y5=>
 cnd y5
 (bind (ixa 4 s9 s11) fun y6=>
 bind (ldA 4 y6) fun y7=>
 bind (alc 1 (.agg #[.int .u8 0,.string ⟨#[]⟩,.string ⟨#[]⟩,.bool false])) fun y8=>
 bind (stA 4 y8 y7) fun _=>
 bind (ldA 2 s5) fun y9=>
 bind (ldA 4 y8) fun y10=>
 bind (Γ Zgd [s4,y9,y10]) fun y11=>
 bind (Zq y11 0) fun y12=>
 bind (Zq y11 1) fun y13=>
 bind (stA 2 s5 y12) fun _=>
 bind (bop .int .add s11 (Value.int .i64 1)) fun y14=>
 ret (.nrm [s3,s4,s5,s9,s10,y14]))
 (ret (.ext 0 [s3,s4,s5]))
noncomputable def Zin (Γ : Zc) (x0 : Value) : M Value:=
 bind (alc 1 (.agg #[.slice none 0 0,.slice none 0 0])) fun y1=>
 bind (Γ ZaP []) fun y2=>
 bind (alc 1 (.agg #[.slice none 0 0,.slice none 0 0])) fun y3=>
 bind (Zp x0) fun y4=>
 jn (Zh (c6 (Zin.l1 Γ)) [y1,y2,y3,x0,y4,(Value.int .i64 0)]) noN (xk 0 (c3 fun q16_0 q16_1 q16_2=>
 bind (ldA 2 q16_2) fun y17=>
 bind (stA 2 q16_0 y17) fun _=>
 bind (ldA 2 q16_0) fun y18=>
 ret (Value.tuple #[q16_1,y18])) noX) ret
noncomputable def Zft (Γ : Zc) (x0 : Value) : M Value:=
 bind (Zp x0) fun y1=>
 bind (bop .int .gtr y1 (Value.int .i64 0)) fun y2=>
 bind (ZD y2 true 5 (bind (ixa 1 x0 (Value.int .i64 0)) fun y3=>
 bind (ld1 y3) fun y4=>
 bind (bop .int .eql y4 (Value.int .u8 1)) fun y5=>
 ret [x0,y3,y4,y5,y5])) (c5 fun _ _ _ _ q6_4=>
 bind (ZD q6_4 false 4 (bind (ixa 1 x0 (Value.int .i64 0)) fun y7=>
 bind (ld1 y7) fun y8=>
 bind (bop .int .eql y8 (Value.int .u8 2)) fun y9=>
 ret [x0,y7,y8,y9])) (c4 fun _ _ _ q10_3=>
 bind (ZD y2 true 1 (bind (pick q6_4 (Value.bool true) q10_3) fun y11=>
 ret [y11])) (c1 fun q12_0=>
 bind (pick y2 q12_0 (Value.bool false)) fun y13=>
 cnd y13
 (bind (ixa 1 x0 (Value.int .i64 0)) fun y14=>
 bind (ld1 y14) fun y15=>
 bind (cvi .i64 y15) fun y16=>
 ret y16)
 (ret (Value.int .i64 0)))))
theorem ZpR (Γ : Zc) (x0 : Value) : Zv Tryz.prog Γ Tryz.f22 Zh8 [x0]=Zft Γ x0:=by kernel_rfl
theorem ZnR {prim : FuncId→Option (List Value→M Value)} (hp : prim Zbj=none) (n : Nat) (x0 : Value) : run Tryz.prog prim lvs (n+1) Zbj [x0]=Zft (run Tryz.prog prim lvs n) x0:=
 (Zi hp (by kernel_rfl) Tryz.func22 (by kernel_rfl)).trans (ZpR _ x0)
noncomputable def ZfR (Γ : Zc) : M Value:=
 bind (bsl 1 3 (.int .u8 0) [(0,1,(Value.int .u8 1)),(1,1,(Value.int .u8 0)),(2,1,(Value.int .u8 0))]) fun y1=>
 bind (Γ ZbJ [y1]) fun y2=>
 bind (Zq y2 0) fun y3=>
 bind (Zq y2 1) fun y4=>
 bind (bop .int .eql y4 (Value.int .i64 0)) fun y5=>
 bind (ZD y5 true 3 (bind (b2s y3) fun y6=>
 bind (bop .str .eql y6 (Value.string ⟨#[2,0,0,0,0]⟩)) fun y7=>
 ret [y3,y6,y7])) (c3 fun _ _ q8_2=>
 bind (pick y5 q8_2 (Value.bool false)) fun y9=>
 ret y9)
theorem Zpz (Γ : Zc) : Zv Tryz.prog Γ Tryz.f23 Zii []=ZfR Γ :=by kernel_rfl
theorem ZoJ {prim : FuncId→Option (List Value→M Value)} (hp : prim KR=none) (n : Nat) : run Tryz.prog prim lvs (n+1) KR []=ZfR (run Tryz.prog prim lvs n) :=
 (Zi hp (by kernel_rfl) Tryz.func23 (by kernel_rfl)).trans (Zpz _ )
noncomputable def ZdK (Γ : Zc) (x0 : Value) : M Value:=
 bind (Γ Zbj [x0]) fun y1=>
 bind (bop .int .eql y1 (Value.int .i64 2)) fun y2=>
 cnd y2
 (bind (Γ Zk7 [x0]) fun y3=>
 bind (Zq y3 0) fun y4=>
 bind (Zq y3 1) fun y5=>
 bind (bop .int .neq y5 (Value.int .i64 0)) fun y6=>
 cnd y6
 (ret (Value.tuple #[(Value.slice none 0 0),y5]))
 (bind (Γ ZaF [x0]) fun y7=>
 ret (Value.tuple #[y7,(Value.int .i64 0)])))
 (bind (Γ ZaQ [x0]) fun y8=>
 bind (Zq y8 0) fun y9=>
 bind (Zq y8 1) fun y10=>
 bind (bop .int .neq y10 (Value.int .i64 0)) fun y11=>
 cnd y11
 (ret (Value.tuple #[(Value.slice none 0 0),y10]))
 (bind (Γ YS [y9]) fun y12=>
 bind (Γ QG [y12]) fun y13=>
 ret (Value.tuple #[y13,(Value.int .i64 0)])))
theorem ZnI (Γ : Zc) (x0 : Value) : Zv Tryz.prog Γ Tryz.f24 Zgn [x0]=ZdK Γ x0:=by kernel_rfl
theorem ZlY {prim : FuncId→Option (List Value→M Value)} (hp : prim ZbJ=none) (n : Nat) (x0 : Value) : run Tryz.prog prim lvs (n+1) ZbJ [x0]=ZdK (run Tryz.prog prim lvs n) x0:=
 (Zi hp (by kernel_rfl) Tryz.func24 (by kernel_rfl)).trans (ZnI _ x0)
noncomputable def KO.l1 (Γ : Zc) (s0 s5 s6 s7 : Value) : M Out:=
 bind (bop .int .lss s7 s6) fun y2=>
 cnd y2
 (bind (ixa 3 s5 s7) fun y3=>
 bind (ldA 3 y3) fun y4=>
 bind (alc 1 (.agg #[.int .u8 0,.string ⟨#[]⟩,.string ⟨#[]⟩])) fun y5=>
 bind (stA 3 y5 y4) fun _=>
 bind (fa 1 y5) fun y6=>
 bind (ld1 y6) fun y7=>
 bind (QX y7) fun y8=>
 bind (bop .int .gtr y8 (Value.int .i64 50)) fun y9=>
 bind (ZD y9 false 4 (bind (fa 2 y5) fun y10=>
 bind (ld1 y10) fun y11=>
 bind (QX y11) fun y12=>
 bind (bop .int .gtr y12 (Value.int .i64 50)) fun y13=>
 ret [y10,y11,y12,y13])) (c4 fun _ _ _ q14_3=>
 bind (pick y9 (Value.bool true) q14_3) fun y15=>
 cnd y15
 (ret (.ret (Value.bool false)))
 (bind (bop .int .add s7 (Value.int .i64 1)) fun y16=>
 ret (.nrm [s0,s5,s6,y16]))))
 (ret (.ext 0 [s0]))
noncomputable def KO (Γ : Zc) (x0 : Value) : M Value:=
 bind (Zp x0) fun y1=>
 jn (Zh (c4 (KO.l1 Γ)) [x0,x0,y1,(Value.int .i64 0)]) noN (xk 0 (c1 fun q18_0=>
 bind (Zp q18_0) fun y19=>
 bind (bop .int .leq y19 (Value.int .i64 60)) fun y20=>
 ret y20) noX) ret
theorem ZsM (Γ : Zc) (x0 : Value) : Zv Tryz.prog Γ Tryz.f26 Zk3 [x0]=KO Γ x0:=by kernel_rfl
theorem ZrD {prim : FuncId→Option (List Value→M Value)} (hp : prim Wa=none) (n : Nat) (x0 : Value) : run Tryz.prog prim lvs (n+1) Wa [x0]=KO (run Tryz.prog prim lvs n) x0:=
 (Zi hp (by kernel_rfl) Tryz.func26 (by kernel_rfl)).trans (ZsM _ x0)
noncomputable def Zh1 (Γ : Zc) : M Value:=
 bind (mkm) fun y1=>
 bind (bld (.agg #[.map none]) [(0,1,y1)]) fun y2=>
 bind (alc 1 y2) fun y3=>
 ret y3
theorem Zr5 (Γ : Zc) : Zv Tryz.prog Γ Tryz.f27 Zlm []=Zh1 Γ :=by kernel_rfl
theorem Zrs {prim : FuncId→Option (List Value→M Value)} (hp : prim ZaO=none) (n : Nat) : run Tryz.prog prim lvs (n+1) ZaO []=Zh1 (run Tryz.prog prim lvs n) :=
 (Zi hp (by kernel_rfl) Tryz.func27 (by kernel_rfl)).trans (Zr5 _ )
noncomputable def ZcB (Γ : Zc) (x0 x1 : Value) : M Value:=
 bind (alc 1 x1) fun y1=>
 bind (fa 0 y1) fun y2=>
 bind (ld1 y2) fun y3=>
 bind (bop .int .rem y3 (Value.int .u8 3)) fun y4=>
 bind (bop .int .eql y4 (Value.int .u8 0)) fun y5=>
 cnd y5
 (bind (fa 1 y1) fun y6=>
 bind (ld1 y6) fun y7=>
 bind (fa 2 y1) fun y8=>
 bind (ld1 y8) fun y9=>
 bind (Γ Wn [x0,y7,y9]) fun y10=>
 ret y10)
 (bind (bop .int .eql y4 (Value.int .u8 1)) fun y11=>
 cnd y11
 (bind (fa 1 y1) fun y12=>
 bind (ld1 y12) fun y13=>
 bind (Γ WJ [x0,y13]) fun y14=>
 ret y14)
 (bind (fa 1 y1) fun y15=>
 bind (ld1 y15) fun y16=>
 bind (fa 2 y1) fun y17=>
 bind (ld1 y17) fun y18=>
 bind (Γ K6 [x0,y16,y18]) fun y19=>
 ret y19))
theorem Zue (Γ : Zc) (x0 x1 : Value) : Zv Tryz.prog Γ Tryz.f28 ZnJ [x0,x1]=ZcB Γ x0 x1:=by kernel_rfl
theorem ZsN {prim : FuncId→Option (List Value→M Value)} (hp : prim ZaI=none) (n : Nat) (x0 x1 : Value) : run Tryz.prog prim lvs (n+1) ZaI [x0,x1]=ZcB (run Tryz.prog prim lvs n) x0 x1:=
 (Zi hp (by kernel_rfl) Tryz.func28 (by kernel_rfl)).trans (Zue _ x0 x1)
noncomputable def KN.l1 (Γ : Zc) (s3 s16 s17 s18 : Value) : M Out:=
 bind (bop .int .lss s18 s17) fun y10=>
 cnd y10
 (bind (ixa 5 s16 s18) fun y11=>
 bind (ldA 5 y11) fun y12=>
 bind (alc 1 (.agg #[.string ⟨#[]⟩,.string ⟨#[]⟩,.string ⟨#[]⟩,.bool false,.slice none 0 0])) fun y13=>
 bind (stA 5 y13 y12) fun _=>
 bind (ldA 5 y13) fun y14=>
 bind (Γ ZcL [s3,(Value.int .i64 1),y14]) fun y15=>
 bind (bop .int .add s18 (Value.int .i64 1)) fun y16=>
 ret (.nrm [s3,s16,s17,y16]))
 (ret (.ext 0 [s3]))
noncomputable def KN (Γ : Zc) (x0 : Value) : M Value:=
 bind (bop .ptr .eql x0 (Value.pointer none)) fun y1=>
 cnd y1
 (ret (Value.slice none 0 0))
 (bind (bld (.agg #[.slice none 0 0]) []) fun y2=>
 bind (alc 1 y2) fun y3=>
 bind (Γ QR [y3,(Value.int .u8 1)]) fun y4=>
 bind (Γ Za3 [x0]) fun y5=>
 bind (cvi .u16 y5) fun y6=>
 bind (Γ Ju [y4,y6]) fun y7=>
 bind (Γ KA [x0]) fun y8=>
 bind (Zp y8) fun y9=>
 jn (Zh (c4 (KN.l1 Γ)) [y7,y8,y9,(Value.int .i64 0)]) noN (xk 0 (c1 fun q18_0=>
 bind (Γ Yn [q18_0]) fun y19=>
 ret y19) noX) ret)
theorem ZrS (Γ : Zc) (x0 : Value) : Zv Tryz.prog Γ Tryz.f29 Zj4 [x0]=KN Γ x0:=by kernel_rfl
theorem ZpW {prim : FuncId→Option (List Value→M Value)} (hp : prim W8=none) (n : Nat) (x0 : Value) : run Tryz.prog prim lvs (n+1) W8 [x0]=KN (run Tryz.prog prim lvs n) x0:=
 (Zi hp (by kernel_rfl) Tryz.func29 (by kernel_rfl)).trans (ZrS _ x0)
noncomputable def Kh.l1 (Γ : Zc) (s3 s11 s12 s13 : Value) : M Out:=
 bind (bop .int .lss s13 s12) fun y4=>
 cnd y4
 (bind (ixa 5 s11 s13) fun y5=>
 bind (ldA 5 y5) fun y6=>
 bind (alc 1 (.agg #[.string ⟨#[]⟩,.string ⟨#[]⟩,.string ⟨#[]⟩,.bool false,.slice none 0 0])) fun y7=>
 bind (stA 5 y7 y6) fun _=>
 bind (ldA 5 y7) fun y8=>
 bind (Γ ZhD [y8]) fun y9=>
 bind (bsl 5 1 (.agg #[.string ⟨#[]⟩,.string ⟨#[]⟩,.string ⟨#[]⟩,.bool false,.slice none 0 0]) [(0,5,y9)]) fun y10=>
 bind (app 5 80 s3 y10) fun y11=>
 bind (bop .int .add s13 (Value.int .i64 1)) fun y12=>
 ret (.nrm [y11,s11,s12,y12]))
 (ret (.ext 0 [s3]))
noncomputable def Kh (Γ : Zc) (x0 : Value) : M Value:=
 bind (bop .ptr .eql x0 (Value.pointer none)) fun y1=>
 cnd y1
 (ret (Value.pointer none))
 (bind (Γ KA [x0]) fun y2=>
 bind (Zp y2) fun y3=>
 jn (Zh (c4 (Kh.l1 Γ)) [(Value.slice none 0 0),y2,y3,(Value.int .i64 0)]) noN (xk 0 (c1 fun q14_0=>
 bind (Γ ZaL [q14_0,(Value.slice none 0 0)]) fun y15=>
 bind (Zq y15 0) fun y16=>
 bind (Zq y15 1) fun y17=>
 ret y16) noX) ret)
theorem ZrB (Γ : Zc) (x0 : Value) : Zv Tryz.prog Γ Tryz.f30 ZjG [x0]=Kh Γ x0:=by kernel_rfl
theorem Zih {prim : FuncId→Option (List Value→M Value)} (hp : prim YS=none) (n : Nat) (x0 : Value) : run Tryz.prog prim lvs (n+1) YS [x0]=Kh (run Tryz.prog prim lvs n) x0:=
 (Zi hp (by kernel_rfl) Tryz.func30 (by kernel_rfl)).trans (ZrB _ x0)
noncomputable def Zaq (Γ : Zc) (x0 x1 : Value) : M Value:=
 bind (alc 1 x1) fun y1=>
 bind (fa 0 y1) fun y2=>
 bind (ld1 y2) fun y3=>
 bind (bop .int .rem y3 (Value.int .u8 3)) fun y4=>
 bind (bop .int .eql y4 (Value.int .u8 0)) fun y5=>
 cnd y5
 (bind (fa 1 y1) fun y6=>
 bind (ld1 y6) fun y7=>
 bind (fa 2 y1) fun y8=>
 bind (ld1 y8) fun y9=>
 bind (Γ Wq [x0,y7,y9]) fun y10=>
 ret y10)
 (bind (bop .int .eql y4 (Value.int .u8 1)) fun y11=>
 cnd y11
 (bind (fa 1 y1) fun y12=>
 bind (ld1 y12) fun y13=>
 bind (Γ WA [x0,y13]) fun y14=>
 ret y14)
 (bind (fa 1 y1) fun y15=>
 bind (ld1 y15) fun y16=>
 bind (fa 2 y1) fun y17=>
 bind (ld1 y17) fun y18=>
 bind (Γ K7 [x0,y16,y18]) fun y19=>
 ret y19))
theorem ZpM (Γ : Zc) (x0 x1 : Value) : Zv Tryz.prog Γ Tryz.f31 Zil [x0,x1]=Zaq Γ x0 x1:=by kernel_rfl
theorem Zol {prim : FuncId→Option (List Value→M Value)} (hp : prim Wt=none) (n : Nat) (x0 x1 : Value) : run Tryz.prog prim lvs (n+1) Wt [x0,x1]=Zaq (run Tryz.prog prim lvs n) x0 x1:=
 (Zi hp (by kernel_rfl) Tryz.func31 (by kernel_rfl)).trans (ZpM _ x0 x1)
noncomputable def Zck (Γ : Zc) (x0 x1 : Value) : M Value:=
 bind (Γ Js [x0,x1]) fun y1=>
 bind (bsl 1 1 .nilFunc [(0,1,y1)]) fun y2=>
 bind (Γ YQ [x1,y2]) fun y3=>
 bind (bop .int .neq y3 (Value.int .i64 0)) fun y4=>
 cnd y4
 (ret (Value.tuple #[(Value.string ⟨#[]⟩),y3]))
 (bind (Qa x0) fun y5=>
 bind (fa 0 y5) fun y6=>
 bind (ld1 y6) fun y7=>
 bind (lkp .str (.string ⟨#[]⟩) false y7 x1) fun y8=>
 ret (Value.tuple #[y8,(Value.int .i64 0)]))
theorem ZkG (Γ : Zc) (x0 x1 : Value) : Zv Tryz.prog Γ Tryz.f32 ZeN [x0,x1]=Zck Γ x0 x1:=by kernel_rfl
theorem ZjV {prim : FuncId→Option (List Value→M Value)} (hp : prim WD=none) (n : Nat) (x0 x1 : Value) : run Tryz.prog prim lvs (n+1) WD [x0,x1]=Zck (run Tryz.prog prim lvs n) x0 x1:=
 (Zi hp (by kernel_rfl) Tryz.func32 (by kernel_rfl)).trans (ZkG _ x0 x1)
noncomputable def Wy (Γ : Zc) (x0 x1 : Value) : M Value:=
 bind (alc 1 (.agg #[.string ⟨#[]⟩,.string ⟨#[]⟩,.string ⟨#[]⟩,.bool false,.slice none 0 0])) fun y1=>
 bind (Γ J4 [x0,x1]) fun y2=>
 bind (Zq y2 0) fun y3=>
 bind (Zq y2 1) fun y4=>
 bind (alc 1 (.agg #[.string ⟨#[]⟩,.bool false])) fun y5=>
 bind (stA 2 y5 y3) fun _=>
 bind (bop .int .neq y4 (Value.int .i64 0)) fun y6=>
 cnd y6
 (bind (bld (.agg #[.string ⟨#[]⟩,.string ⟨#[]⟩,.string ⟨#[]⟩,.bool false,.slice none 0 0]) []) fun y7=>
 bind (stA 5 y1 y7) fun _=>
 bind (ldA 5 y1) fun y8=>
 ret (Value.tuple #[y8,y4]))
 (bind (Qa x0) fun y9=>
 bind (fa 1 y9) fun y10=>
 bind (ld1 y10) fun y11=>
 bind (Γ ZaZ [y11,x1]) fun y12=>
 bind (Zq y12 0) fun y13=>
 bind (Zq y12 1) fun y14=>
 bind (fa 0 y5) fun y15=>
 bind (ld1 y15) fun y16=>
 bind (fa 1 y5) fun y17=>
 bind (ld1 y17) fun y18=>
 bind (Qa x0) fun y19=>
 bind (fa 2 y19) fun y20=>
 bind (ld1 y20) fun y21=>
 bind (Γ J8 [y21,x1]) fun y22=>
 bind (ld1 y17) fun u_23=>same u_23 y18 <|
 bind (ld1 y15) fun u_24=>same u_24 y16 <|
 bind (bld (.agg #[.string ⟨#[]⟩,.string ⟨#[]⟩,.string ⟨#[]⟩,.bool false,.slice none 0 0]) [(0,1,x1),(1,1,y16),(2,1,y13),(3,1,y18),(4,1,y22)]) fun y25=>
 bind (stA 5 y1 y25) fun _=>
 bind (ldA 5 y1) fun y26=>
 ret (Value.tuple #[y26,(Value.int .i64 0)]))
theorem Zkx (Γ : Zc) (x0 x1 : Value) : Zv Tryz.prog Γ Tryz.f33 ZeS [x0,x1]=Wy Γ x0 x1:=by kernel_rfl
theorem Zjz {prim : FuncId→Option (List Value→M Value)} (hp : prim Y8=none) (n : Nat) (x0 x1 : Value) : run Tryz.prog prim lvs (n+1) Y8 [x0,x1]=Wy (run Tryz.prog prim lvs n) x0 x1:=
 (Zi hp (by kernel_rfl) Tryz.func33 (by kernel_rfl)).trans (Zkx _ x0 x1)
noncomputable def ZbN (Γ : Zc) (x0 x1 : Value) : M Value:=
 bind (alc 1 x1) fun y1=>
 bind (ld1 y1) fun y2=>
 bind (Γ WI [y2]) fun y3=>
 bind (bop .int .neq y3 (Value.int .i64 0)) fun y4=>
 cnd y4
 (ret (Value.tuple #[(Value.slice none 0 0),y3]))
 (bind (Γ W1 [x0]) fun y5=>
 bind (Γ ZO [y5,(Value.func (.func 105) #[] #[y1])]) fun y6=>
 ret (Value.tuple #[y6,(Value.int .i64 0)]))
theorem ZmU (Γ : Zc) (x0 x1 : Value) : Zv Tryz.prog Γ Tryz.f34 Zgb [x0,x1]=ZbN Γ x0 x1:=by kernel_rfl
theorem Zfw {prim : FuncId→Option (List Value→M Value)} (hp : prim ZaA=none) (n : Nat) (x0 x1 : Value) : run Tryz.prog prim lvs (n+1) ZaA [x0,x1]=ZbN (run Tryz.prog prim lvs n) x0 x1:=
 (Zi hp (by kernel_rfl) Tryz.func34 (by kernel_rfl)).trans (ZmU _ x0 x1)
noncomputable def ZbM (Γ : Zc) (x0 x1 : Value) : M Value:=
 bind (alc 1 x1) fun y1=>
 bind (ld1 y1) fun y2=>
 bind (Γ WI [y2]) fun y3=>
 bind (bop .int .neq y3 (Value.int .i64 0)) fun y4=>
 cnd y4
 (ret (Value.tuple #[(Value.slice none 0 0),y3]))
 (bind (Γ KZ [x0]) fun y5=>
 bind (Γ ZO [y5,(Value.func (.func 108) #[] #[y1])]) fun y6=>
 ret (Value.tuple #[y6,(Value.int .i64 0)]))
theorem ZmL (Γ : Zc) (x0 x1 : Value) : Zv Tryz.prog Γ Tryz.f35 Zga [x0,x1]=ZbM Γ x0 x1:=by kernel_rfl
theorem ZfO {prim : FuncId→Option (List Value→M Value)} (hp : prim ZaD=none) (n : Nat) (x0 x1 : Value) : run Tryz.prog prim lvs (n+1) ZaD [x0,x1]=ZbM (run Tryz.prog prim lvs n) x0 x1:=
 (Zi hp (by kernel_rfl) Tryz.func35 (by kernel_rfl)).trans (ZmL _ x0 x1)
noncomputable def J1.l1 (Γ : Zc) (s0 s1 s12 s13 : Value) : M Out:=
 bind (bop .int .lss s13 s12) fun y5=>
 cnd y5
 (bind (ixa 1 s0 s13) fun y6=>
 bind (ld1 y6) fun y7=>
 bind (ixa 1 s1 s13) fun y8=>
 bind (ld1 y8) fun y9=>
 bind (bop .str .neq y7 y9) fun y10=>
 cnd y10
 (ret (.ret (Value.bool false)))
 (bind (bop .int .add s13 (Value.int .i64 1)) fun y11=>
 ret (.nrm [s0,s1,s12,y11])))
 (ret (.ext 0 []))
noncomputable def J1 (Γ : Zc) (x0 x1 : Value) : M Value:=
 bind (Zp x0) fun y1=>
 bind (Zp x1) fun y2=>
 bind (bop .int .neq y1 y2) fun y3=>
 cnd y3
 (ret (Value.bool false))
 (bind (Zp x0) fun y4=>
 jn (Zh (c4 (J1.l1 Γ)) [x0,x1,y4,(Value.int .i64 0)]) noN (xk 0 (c0 (ret (Value.bool true))) noX) ret)
theorem ZkE (Γ : Zc) (x0 x1 : Value) : Zv Tryz.prog Γ Tryz.f36 ZeU [x0,x1]=J1 Γ x0 x1:=by kernel_rfl
theorem ZiT {prim : FuncId→Option (List Value→M Value)} (hp : prim Wz=none) (n : Nat) (x0 x1 : Value) : run Tryz.prog prim lvs (n+1) Wz [x0,x1]=J1 (run Tryz.prog prim lvs n) x0 x1:=
 (Zi hp (by kernel_rfl) Tryz.func36 (by kernel_rfl)).trans (ZkE _ x0 x1)
noncomputable def Zhy (Γ : Zc) : M Value:=
 bind (mkm) fun y1=>
 bind (Γ Zgl []) fun y2=>
 bind (Γ Zfb []) fun y3=>
 bind (bld (.agg #[.map none,.pointer none,.pointer none]) [(0,1,y1),(1,1,y2),(2,1,y3)]) fun y4=>
 bind (alc 1 y4) fun y5=>
 ret y5
theorem ZsF (Γ : Zc) : Zv Tryz.prog Γ Tryz.f37 Zlp []=Zhy Γ :=by kernel_rfl
theorem ZqR {prim : FuncId→Option (List Value→M Value)} (hp : prim ZaP=none) (n : Nat) : run Tryz.prog prim lvs (n+1) ZaP []=Zhy (run Tryz.prog prim lvs n) :=
 (Zi hp (by kernel_rfl) Tryz.func37 (by kernel_rfl)).trans (ZsF _ )
noncomputable def ZfW.l1 (Γ : Zc) (s0 s1 s12 s13 : Value) : M Out:=
 bind (bop .int .lss s13 s12) fun y5=>
 cnd y5
 (bind (ixa 5 s0 s13) fun y6=>
 bind (ldA 5 y6) fun y7=>
 bind (ixa 5 s1 s13) fun y8=>
 bind (ldA 5 y8) fun y9=>
 bind (Γ Zsi [y7,y9]) fun y10=>
 bind (uop .not y10) fun y11=>
 cnd y11
 (ret (.ret (Value.bool false)))
 (bind (bop .int .add s13 (Value.int .i64 1)) fun y12=>
 ret (.nrm [s0,s1,s12,y12])))
 (ret (.ext 0 []))
noncomputable def ZfW (Γ : Zc) (x0 x1 : Value) : M Value:=
 bind (Zp x0) fun y1=>
 bind (Zp x1) fun y2=>
 bind (bop .int .neq y1 y2) fun y3=>
 cnd y3
 (ret (Value.bool false))
 (bind (Zp x0) fun y4=>
 jn (Zh (c4 (ZfW.l1 Γ)) [x0,x1,y4,(Value.int .i64 0)]) noN (xk 0 (c0 (ret (Value.bool true))) noX) ret)
noncomputable def YW.l1 (Γ : Zc) (s0 s3 s7 s8 s9 : Value) : M Out:=
 bind (bop .int .lss s9 s8) fun y3=>
 cnd y3
 (bind (ixa 1 s7 s9) fun y4=>
 bind (ld1 y4) fun y5=>
 bind (Qa s0) fun y6=>
 bind (fa 0 y6) fun y7=>
 bind (ld1 y7) fun y8=>
 bind (lkp .str (.string ⟨#[]⟩) false y8 y5) fun y9=>
 bind (bld (.agg #[.string ⟨#[]⟩,.string ⟨#[]⟩,.string ⟨#[]⟩,.bool false,.slice none 0 0]) [(0,1,y5),(1,1,y9)]) fun y10=>
 bind (bsl 5 1 (.agg #[.string ⟨#[]⟩,.string ⟨#[]⟩,.string ⟨#[]⟩,.bool false,.slice none 0 0]) [(0,5,y10)]) fun y11=>
 bind (app 5 80 s3 y11) fun y12=>
 bind (bop .int .add s9 (Value.int .i64 1)) fun y13=>
 ret (.nrm [s0,y12,s7,s8,y13]))
 (ret (.ext 0 [s3]))
noncomputable def YW (Γ : Zc) (x0 : Value) : M Value:=
 bind (Γ W1 [x0]) fun y1=>
 bind (Zp y1) fun y2=>
 jn (Zh (c5 (YW.l1 Γ)) [x0,(Value.slice none 0 0),y1,y2,(Value.int .i64 0)]) noN (xk 0 (c1 fun q15_0=>
 ret q15_0) noX) ret
theorem ZoC (Γ : Zc) (x0 : Value) : Zv Tryz.prog Γ Tryz.f40 ZgS [x0]=YW Γ x0:=by kernel_rfl
theorem ZmM {prim : FuncId→Option (List Value→M Value)} (hp : prim KA=none) (n : Nat) (x0 : Value) : run Tryz.prog prim lvs (n+1) KA [x0]=YW (run Tryz.prog prim lvs n) x0:=
 (Zi hp (by kernel_rfl) Tryz.func40 (by kernel_rfl)).trans (ZoC _ x0)
noncomputable def QH.l1 (Γ : Zc) (s1 s5 s13 s14 s15 : Value) : M Out:=
 bind (bop .int .lss s15 s14) fun y2=>
 cnd y2
 (bind (ixa 5 s13 s15) fun y3=>
 bind (ldA 5 y3) fun y4=>
 bind (alc 1 (.agg #[.string ⟨#[]⟩,.string ⟨#[]⟩,.string ⟨#[]⟩,.bool false,.slice none 0 0])) fun y5=>
 bind (stA 5 y5 y4) fun _=>
 bind (ldA 5 y5) fun y6=>
 bind (Γ J5 [(Value.int .i64 2),y6]) fun y7=>
 bind (bop .int .neq y7 (Value.int .i64 0)) fun y8=>
 cnd y8
 (ret (.ret y7))
 (bind (fa 0 y5) fun y9=>
 bind (ld1 y9) fun y10=>
 bind (bsl 1 1 (.string ⟨#[]⟩) [(0,1,y10)]) fun y11=>
 bind (app 1 16 s5 y11) fun y12=>
 bind (bop .int .add s15 (Value.int .i64 1)) fun y13=>
 ret (.nrm [s1,y12,s13,s14,y13])))
 (ret (.ext 0 [s1,s5]))
noncomputable def QH.l2 (Γ : Zc) (s1 s35 s36 s37 : Value) : M Out:=
 bind (bop .int .lss s37 s36) fun y19=>
 cnd y19
 (bind (ixa 1 s35 s37) fun y20=>
 bind (ld1 y20) fun y21=>
 bind (Γ QW [y21]) fun y22=>
 bind (bop .int .neq y22 (Value.int .i64 0)) fun y23=>
 cnd y23
 (ret (.ret y22))
 (bind (bop .int .add s37 (Value.int .i64 1)) fun y24=>
 ret (.nrm [s1,s35,s36,y24])))
 (ret (.ext 2 [s1]))
noncomputable def QH (Γ : Zc) (x0 x1 : Value) : M Value:=
 bind (Zp x0) fun y1=>
 jn (Zh (c5 (QH.l1 Γ)) [x1,(Value.slice none 0 0),x0,y1,(Value.int .i64 0)]) noN (xk 0 (c2 fun q15_0 q15_1=>
 bind (Γ Ki [q15_1,(Value.int .i64 12)]) fun y16=>
 bind (bop .int .neq y16 (Value.int .i64 0)) fun y17=>
 cnd y17
 (ret y16)
 (bind (Zp q15_0) fun y18=>
 jn (Zh (c4 (QH.l2 Γ)) [q15_0,q15_0,y18,(Value.int .i64 0)]) noN (xk 2 (c1 fun q26_0=>
 bind (Γ Ki [q26_0,(Value.int .i64 6)]) fun y27=>
 ret y27) noX) ret)) noX) ret
theorem ZpY (Γ : Zc) (x0 x1 : Value) : Zv Tryz.prog Γ Tryz.f41 Zij [x0,x1]=QH Γ x0 x1:=by kernel_rfl
theorem Zn8 {prim : FuncId→Option (List Value→M Value)} (hp : prim Zbq=none) (n : Nat) (x0 x1 : Value) : run Tryz.prog prim lvs (n+1) Zbq [x0,x1]=QH (run Tryz.prog prim lvs n) x0 x1:=
 (Zi hp (by kernel_rfl) Tryz.func41 (by kernel_rfl)).trans (ZpY _ x0 x1)
noncomputable def J6 (Γ : Zc) (x0 x1 : Value) : M Value:=
 bind (Γ YG [x0,x1,(Value.slice none 0 0)]) fun y1=>
 bind (Zq y1 0) fun y2=>
 bind (Zq y1 1) fun y3=>
 bind (bop .int .eql y3 (Value.int .i64 0)) fun y4=>
 cnd y4
 (ret (Value.int .i64 9))
 (bind (bop .int .neq y3 (Value.int .i64 8)) fun y5=>
 cnd y5
 (ret y3)
 (bind (Qa x0) fun y6=>
 bind (fa 0 y6) fun y7=>
 bind (ld1 y7) fun y8=>
 bind (lenM y8) fun y9=>
 bind (bop .int .geq y9 (Value.int .i64 6)) fun y10=>
 cnd y10
 (ret (Value.int .i64 7))
 (bind (Qa x0) fun y11=>
 bind (fa 0 y11) fun y12=>
 bind (ld1 y12) fun y13=>
 bind (mkm) fun y14=>
 bind (mup .str y13 x1 y14) fun _=>
 ret (Value.int .i64 0))))
theorem ZjY (Γ : Zc) (x0 x1 : Value) : Zv Tryz.prog Γ Tryz.f42 Zef [x0,x1]=J6 Γ x0 x1:=by kernel_rfl
theorem Ziy {prim : FuncId→Option (List Value→M Value)} (hp : prim YH=none) (n : Nat) (x0 x1 : Value) : run Tryz.prog prim lvs (n+1) YH [x0,x1]=J6 (run Tryz.prog prim lvs n) x0 x1:=
 (Zi hp (by kernel_rfl) Tryz.func42 (by kernel_rfl)).trans (ZjY _ x0 x1)
noncomputable def Kx (Γ : Zc) (x0 x1 x2 : Value) : M Value:=
 bind (bsl 1 1 (.string ⟨#[]⟩) [(0,1,x2)]) fun y1=>
 bind (Γ YG [x0,x1,y1]) fun y2=>
 bind (Zq y2 0) fun y3=>
 bind (Zq y2 1) fun y4=>
 bind (bop .int .neq y4 (Value.int .i64 0)) fun y5=>
 cnd y5
 (ret y4)
 (bind (lkp .str (.agg #[]) true y3 x2) fun y6=>
 bind (Zq y6 0) fun y7=>
 bind (Zq y6 1) fun y8=>
 bind (alc 1 (.agg #[])) fun y9=>
 bind (stA 0 y9 y7) fun _=>
 cnd y8
 (ret (Value.int .i64 9))
 (bind (bld (.agg #[]) []) fun y10=>
 bind (mup .str y3 x2 y10) fun _=>
 ret (Value.int .i64 0)))
theorem Zjn (Γ : Zc) (x0 x1 x2 : Value) : Zv Tryz.prog Γ Tryz.f43 Zd9 [x0,x1,x2]=Kx Γ x0 x1 x2:=by kernel_rfl
theorem ZiB {prim : FuncId→Option (List Value→M Value)} (hp : prim Ku=none) (n : Nat) (x0 x1 x2 : Value) : run Tryz.prog prim lvs (n+1) Ku [x0,x1,x2]=Kx (run Tryz.prog prim lvs n) x0 x1 x2:=
 (Zi hp (by kernel_rfl) Tryz.func43 (by kernel_rfl)).trans (Zjn _ x0 x1 x2)
noncomputable def Kc (Γ : Zc) (x0 x1 x2 : Value) : M Value:=
 bind (Γ QW [x1]) fun y1=>
 bind (bop .int .neq y1 (Value.int .i64 0)) fun y2=>
 cnd y2
 (ret y1)
 (bind (bop .str .eql x2 (Value.string ⟨#[]⟩)) fun y3=>
 cnd y3
 (bind (Γ JP [x0,x1]) fun y4=>
 ret (Value.int .i64 0))
 (bind (Γ ZbD [x2]) fun y5=>
 bind (Zq y5 0) fun y6=>
 bind (Zq y5 1) fun y7=>
 bind (bop .int .neq y7 (Value.int .i64 0)) fun y8=>
 cnd y8
 (ret y7)
 (bind (Qa x0) fun y9=>
 bind (fa 0 y9) fun y10=>
 bind (ld1 y10) fun y11=>
 bind (lkp .str (.string ⟨#[]⟩) true y11 y6) fun y12=>
 bind (Zq y12 0) fun y13=>
 bind (Zq y12 1) fun y14=>
 bind (ZD y14 true 3 (bind (bop .str .neq y13 x1) fun y15=>
 ret [y13,x1,y15])) (c3 fun _ _ q16_2=>
 bind (pick y14 q16_2 (Value.bool false)) fun y17=>
 cnd y17
 (ret (Value.int .i64 9))
 (bind (Γ JP [x0,x1]) fun y18=>
 bind (Qa x0) fun y19=>
 bind (fa 0 y19) fun y20=>
 bind (ld1 y20) fun y21=>
 bind (Qa x0) fun y22=>
 bind (fa 1 y22) fun y23=>
 bind (ld1 y23) fun y24=>
 bind (men .str (.string ⟨#[]⟩) y21 y6) fun y25=>
 bind (Zq y25 1) fun y26=>
 bind (ens y21 y26 x1) fun _=>
 bind (men .str (.string ⟨#[]⟩) y24 x1) fun y27=>
 bind (Zq y27 1) fun y28=>
 bind (ens y24 y28 y6) fun _=>
 ret (Value.int .i64 0))))))
theorem Znj (Γ : Zc) (x0 x1 x2 : Value) : Zv Tryz.prog Γ Tryz.f44 Zf2 [x0,x1,x2]=Kc Γ x0 x1 x2:=by kernel_rfl
theorem Zmd {prim : FuncId→Option (List Value→M Value)} (hp : prim Kf=none) (n : Nat) (x0 x1 x2 : Value) : run Tryz.prog prim lvs (n+1) Kf [x0,x1,x2]=Kc (run Tryz.prog prim lvs n) x0 x1 x2:=
 (Zi hp (by kernel_rfl) Tryz.func44 (by kernel_rfl)).trans (Znj _ x0 x1 x2)
noncomputable def ZbQ (Γ : Zc) (x0 x1 : Value) : M Value:=
 bind (cvi .u64 x1) fun y1=>
 bind (Γ Y7 [x0,y1,(Value.int .i64 1)]) fun y2=>
 ret y2
theorem ZjH (Γ : Zc) (x0 x1 : Value) : Zv Tryz.prog Γ Tryz.f45 Zet [x0,x1]=ZbQ Γ x0 x1:=by kernel_rfl
theorem Ziz {prim : FuncId→Option (List Value→M Value)} (hp : prim QR=none) (n : Nat) (x0 x1 : Value) : run Tryz.prog prim lvs (n+1) QR [x0,x1]=ZbQ (run Tryz.prog prim lvs n) x0 x1:=
 (Zi hp (by kernel_rfl) Tryz.func45 (by kernel_rfl)).trans (ZjH _ x0 x1)
noncomputable def Yp.l1 (Γ : Zc) (s0 s17 s18 s19 : Value) : M Out:=
 bind (bop .int .lss s19 s18) fun y8=>
 cnd y8
 (bind (ixa 1 s17 s19) fun y9=>
 bind (ld1 y9) fun y10=>
 bind (Γ QE [s0,y10]) fun y11=>
 bind (bop .int .add s19 (Value.int .i64 1)) fun y12=>
 ret (.nrm [s0,s17,s18,y12]))
 (ret (.ext 0 [s0]))
noncomputable def Yp (Γ : Zc) (x0 x1 : Value) : M Value:=
 bind (Zp x1) fun y1=>
 bind (mxi false y1 (Value.int .i64 65535)) fun y2=>
 bind (slv 1 x1 none (some y2) none) fun y3=>
 bind (Zp y3) fun y4=>
 bind (cvi .u16 y4) fun y5=>
 bind (Γ Ju [x0,y5]) fun y6=>
 bind (Zp y3) fun y7=>
 jn (Zh (c4 (Yp.l1 Γ)) [x0,y3,y7,(Value.int .i64 0)]) noN (xk 0 (c1 fun q14_0=>
 ret q14_0) noX) ret
theorem Zkv (Γ : Zc) (x0 x1 : Value) : Zv Tryz.prog Γ Tryz.f46 Ze0 [x0,x1]=Yp Γ x0 x1:=by kernel_rfl
theorem Zjy {prim : FuncId→Option (List Value→M Value)} (hp : prim YZ=none) (n : Nat) (x0 x1 : Value) : run Tryz.prog prim lvs (n+1) YZ [x0,x1]=Yp (run Tryz.prog prim lvs n) x0 x1:=
 (Zi hp (by kernel_rfl) Tryz.func46 (by kernel_rfl)).trans (Zkv _ x0 x1)
noncomputable def Zcm (Γ : Zc) (x0 : Value) : M Value:=
 bind (Qa x0) fun y1=>
 bind (fa 2 y1) fun y2=>
 bind (ld1 y2) fun y3=>
 bind (Γ Y5 [y3]) fun y4=>
 ret y4
theorem ZkT (Γ : Zc) (x0 : Value) : Zv Tryz.prog Γ Tryz.f47 ZeM [x0]=Zcm Γ x0:=by kernel_rfl
theorem ZjX {prim : FuncId→Option (List Value→M Value)} (hp : prim WH=none) (n : Nat) (x0 : Value) : run Tryz.prog prim lvs (n+1) WH [x0]=Zcm (run Tryz.prog prim lvs n) x0:=
 (Zi hp (by kernel_rfl) Tryz.func47 (by kernel_rfl)).trans (ZkT _ x0)
noncomputable def Zcq (Γ : Zc) (x0 x1 : Value) : M Value:=
 bind (cvi .u64 x1) fun y1=>
 bind (Γ Y7 [x0,y1,(Value.int .i64 2)]) fun y2=>
 ret y2
theorem ZkV (Γ : Zc) (x0 x1 : Value) : Zv Tryz.prog Γ Tryz.f48 ZeP [x0,x1]=Zcq Γ x0 x1:=by kernel_rfl
theorem Zjt {prim : FuncId→Option (List Value→M Value)} (hp : prim Ju=none) (n : Nat) (x0 x1 : Value) : run Tryz.prog prim lvs (n+1) Ju [x0,x1]=Zcq (run Tryz.prog prim lvs n) x0 x1:=
 (Zi hp (by kernel_rfl) Tryz.func48 (by kernel_rfl)).trans (ZkV _ x0 x1)
noncomputable def ZeF (Γ : Zc) (x0 : Value) : M Value:=
 bind (Qa x0) fun y1=>
 bind (fa 0 y1) fun y2=>
 bind (ld1 y2) fun y3=>
 bind (lenM y3) fun y4=>
 ret y4
theorem Zoo (Γ : Zc) (x0 : Value) : Zv Tryz.prog Γ Tryz.f49 Zg3 [x0]=ZeF Γ x0:=by kernel_rfl
theorem Zm0 {prim : FuncId→Option (List Value→M Value)} (hp : prim ZaX=none) (n : Nat) (x0 : Value) : run Tryz.prog prim lvs (n+1) ZaX [x0]=ZeF (run Tryz.prog prim lvs n) x0:=
 (Zi hp (by kernel_rfl) Tryz.func49 (by kernel_rfl)).trans (Zoo _ x0)
noncomputable def YX.l1 (Γ : Zc) (s0 s3 s9 s10 s11 : Value) : M Out:=
 bind (bop .int .lss s11 s10) fun y3=>
 cnd y3
 (bind (ixa 1 s9 s11) fun y4=>
 bind (ld1 y4) fun y5=>
 bind (Γ Y8 [s0,y5]) fun y6=>
 bind (Zq y6 0) fun y7=>
 bind (Zq y6 1) fun y8=>
 bind (alc 1 (.agg #[.string ⟨#[]⟩,.string ⟨#[]⟩,.string ⟨#[]⟩,.bool false,.slice none 0 0])) fun y9=>
 bind (stA 5 y9 y7) fun _=>
 bind (ldA 5 y9) fun y10=>
 bind (bsl 5 1 (.agg #[.string ⟨#[]⟩,.string ⟨#[]⟩,.string ⟨#[]⟩,.bool false,.slice none 0 0]) [(0,5,y10)]) fun y11=>
 bind (app 5 80 s3 y11) fun y12=>
 bind (bop .int .add s11 (Value.int .i64 1)) fun y13=>
 ret (.nrm [s0,y12,s9,s10,y13]))
 (ret (.ext 0 [s3]))
noncomputable def YX (Γ : Zc) (x0 : Value) : M Value:=
 bind (Γ KZ [x0]) fun y1=>
 bind (Zp y1) fun y2=>
 jn (Zh (c5 (YX.l1 Γ)) [x0,(Value.slice none 0 0),y1,y2,(Value.int .i64 0)]) noN (xk 0 (c1 fun q15_0=>
 ret q15_0) noX) ret
theorem ZnQ (Γ : Zc) (x0 : Value) : Zv Tryz.prog Γ Tryz.f50 Zg5 [x0]=YX Γ x0:=by kernel_rfl
theorem Zmu {prim : FuncId→Option (List Value→M Value)} (hp : prim Za2=none) (n : Nat) (x0 : Value) : run Tryz.prog prim lvs (n+1) Za2 [x0]=YX (run Tryz.prog prim lvs n) x0:=
 (Zi hp (by kernel_rfl) Tryz.func50 (by kernel_rfl)).trans (ZnQ _ x0)
noncomputable def Zgf (Γ : Zc) (x0 x1 x2 : Value) : M Value:=
 bind (alc 1 x2) fun y1=>
 bind (ldA 5 y1) fun y2=>
 bind (Γ J5 [x1,y2]) fun y3=>
 bind (bop .int .neq y3 (Value.int .i64 0)) fun y4=>
 cnd y4
 (ret (Value.bool false))
 (bind (fa 0 y1) fun y5=>
 bind (ld1 y5) fun y6=>
 bind (fa 1 y1) fun y7=>
 bind (ld1 y7) fun y8=>
 bind (Γ QE [x0,y6]) fun y9=>
 bind (ld1 y7) fun u_10=>same u_10 y8 <|
 bind (Γ QE [y9,y8]) fun y11=>
 bind (bop .int .eql x1 (Value.int .i64 2)) fun y12=>
 jn (cnd y12
 (bind (fa 2 y1) fun y13=>
 bind (ld1 y13) fun y14=>
 bind (fa 3 y1) fun y15=>
 bind (ld1 y15) fun y16=>
 bind (fa 4 y1) fun y17=>
 bind (ld1 y17) fun y18=>
 bind (Γ QE [x0,y14]) fun y19=>
 bind (ld1 y17) fun u_20=>same u_20 y18 <|
 bind (ld1 y15) fun u_21=>same u_21 y16 <|
 bind (Γ KS [y19,y16]) fun y22=>
 bind (ld1 y17) fun u_23=>same u_23 y18 <|
 bind (Γ YZ [y22,y18]) fun y24=>
 ret (.nrm []))
 (ret (.nrm []))) (c0 (ret (Value.bool true))) noX ret)
theorem ZtD (Γ : Zc) (x0 x1 x2 : Value) : Zv Tryz.prog Γ Tryz.f51 ZnF [x0,x1,x2]=Zgf Γ x0 x1 x2:=by kernel_rfl
theorem Zlu {prim : FuncId→Option (List Value→M Value)} (hp : prim ZcL=none) (n : Nat) (x0 x1 x2 : Value) : run Tryz.prog prim lvs (n+1) ZcL [x0,x1,x2]=Zgf (run Tryz.prog prim lvs n) x0 x1 x2:=
 (Zi hp (by kernel_rfl) Tryz.func51 (by kernel_rfl)).trans (ZtD _ x0 x1 x2)
noncomputable def Zbi (Γ : Zc) (x0 : Value) : M Value:=
 bind (Qa x0) fun y1=>
 bind (fa 0 y1) fun y2=>
 bind (ld1 y2) fun y3=>
 bind (Γ ZaF [y3]) fun y4=>
 ret y4
theorem ZiE (Γ : Zc) (x0 : Value) : Zv Tryz.prog Γ Tryz.f52 ZdB [x0]=Zbi Γ x0:=by kernel_rfl
theorem ZhQ {prim : FuncId→Option (List Value→M Value)} (hp : prim Yn=none) (n : Nat) (x0 : Value) : run Tryz.prog prim lvs (n+1) Yn [x0]=Zbi (run Tryz.prog prim lvs n) x0:=
 (Zi hp (by kernel_rfl) Tryz.func52 (by kernel_rfl)).trans (ZiE _ x0)
noncomputable def Zjw (Γ : Zc) (x0 : Value) : M Value:=
 bind (Γ ZaF [x0]) fun y1=>
 bind (bld (.agg #[.slice none 0 0,.int .i64 0]) [(0,1,y1)]) fun y2=>
 bind (alc 1 y2) fun y3=>
 ret y3
theorem Zt8 (Γ : Zc) (x0 : Value) : Zv Tryz.prog Γ Tryz.f53 Znb [x0]=Zjw Γ x0:=by kernel_rfl
theorem Zsq {prim : FuncId→Option (List Value→M Value)} (hp : prim ZcF=none) (n : Nat) (x0 : Value) : run Tryz.prog prim lvs (n+1) ZcF [x0]=Zjw (run Tryz.prog prim lvs n) x0:=
 (Zi hp (by kernel_rfl) Tryz.func53 (by kernel_rfl)).trans (Zt8 _ x0)
noncomputable def ZbR (Γ : Zc) (x0 : Value) : M Value:=
 bind (Γ Y4 [x0,(Value.int .i64 1)]) fun y1=>
 bind (cvi .u8 y1) fun y2=>
 ret y2
theorem ZjT (Γ : Zc) (x0 : Value) : Zv Tryz.prog Γ Tryz.f54 Zen [x0]=ZbR Γ x0:=by kernel_rfl
theorem ZiG {prim : FuncId→Option (List Value→M Value)} (hp : prim Yz=none) (n : Nat) (x0 : Value) : run Tryz.prog prim lvs (n+1) Yz [x0]=ZbR (run Tryz.prog prim lvs n) x0:=
 (Zi hp (by kernel_rfl) Tryz.func54 (by kernel_rfl)).trans (ZjT _ x0)
noncomputable def Zcw (Γ : Zc) (x0 : Value) : M Value:=
 bind (Qa x0) fun y1=>
 bind (fa 1 y1) fun y2=>
 bind (ld1 y2) fun y3=>
 ret y3
theorem ZkX (Γ : Zc) (x0 : Value) : Zv Tryz.prog Γ Tryz.f55 ZeW [x0]=Zcw Γ x0:=by kernel_rfl
theorem Zji {prim : FuncId→Option (List Value→M Value)} (hp : prim Qf=none) (n : Nat) (x0 : Value) : run Tryz.prog prim lvs (n+1) Qf [x0]=Zcw (run Tryz.prog prim lvs n) x0:=
 (Zi hp (by kernel_rfl) Tryz.func55 (by kernel_rfl)).trans (ZkX _ x0)
noncomputable def ZfM.l1 (Γ : Zc) (s0 s2 s7 s10 s11 : Value) : M Out:=
 bind (bop .int .lss s11 s10) fun y2=>
 cnd y2
 (bind (Γ JE [s0,s2]) fun y3=>
 bind (bsl 1 1 (.string ⟨#[]⟩) [(0,1,y3)]) fun y4=>
 bind (app 1 16 s7 y4) fun y5=>
 bind (bop .int .add s11 (Value.int .i64 1)) fun y6=>
 ret (.nrm [s0,s2,y5,s10,y6]))
 (ret (.ext 0 [s0,s7]))
noncomputable def ZfM (Γ : Zc) (x0 x1 x2 : Value) : M Value:=
 bind (Γ Ke [x0,x1]) fun y1=>
 jn (Zh (c5 (ZfM.l1 Γ)) [x0,x2,(Value.slice none 0 0),y1,(Value.int .i64 0)]) noN (xk 0 (c2 fun q8_0 q8_1=>
 bind (Qa q8_0) fun y9=>
 bind (fa 1 y9) fun y10=>
 bind (ld1 y10) fun y11=>
 bind (bop .int .neq y11 (Value.int .i64 0)) fun y12=>
 cnd y12
 (ret (Value.slice none 0 0))
 (ret q8_1)) noX) ret
noncomputable def Zch (Γ : Zc) (x0 : Value) : M Value:=
 bind (Γ Y4 [x0,(Value.int .i64 2)]) fun y1=>
 bind (cvi .u16 y1) fun y2=>
 ret y2
theorem ZkQ (Γ : Zc) (x0 : Value) : Zv Tryz.prog Γ Tryz.f57 ZeV [x0]=Zch Γ x0:=by kernel_rfl
theorem ZjK {prim : FuncId→Option (List Value→M Value)} (hp : prim Yl=none) (n : Nat) (x0 : Value) : run Tryz.prog prim lvs (n+1) Yl [x0]=Zch (run Tryz.prog prim lvs n) x0:=
 (Zi hp (by kernel_rfl) Tryz.func57 (by kernel_rfl)).trans (ZkQ _ x0)
noncomputable def Kv (Γ : Zc) (x0 x1 : Value) : M Value:=
 bind (Qa x0) fun y1=>
 bind (fa 1 y1) fun y2=>
 bind (ld1 y2) fun y3=>
 bind (bop .int .eql y3 (Value.int .i64 0)) fun y4=>
 bind (ZD y4 true 2 (bind (bop .int .neq x1 (Value.int .i64 0)) fun y5=>
 ret [x1,y5])) (c2 fun _ q6_1=>
 bind (pick y4 q6_1 (Value.bool false)) fun y7=>
 jn (cnd y7
 (bind (Qa x0) fun y8=>
 bind (fa 0 y8) fun y9=>
 bind (st1 y9 (Value.slice none 0 0)) fun _=>
 bind (Qa x0) fun y10=>
 bind (fa 1 y10) fun y11=>
 bind (st1 y11 x1) fun _=>
 ret (.nrm []))
 (ret (.nrm []))) (c0 (ret (Value.tuple #[]))) noX ret)
theorem ZiV (Γ : Zc) (x0 x1 : Value) : Zv Tryz.prog Γ Tryz.f58 Zeg [x0,x1]=Kv Γ x0 x1:=by kernel_rfl
theorem Zis {prim : FuncId→Option (List Value→M Value)} (hp : prim ZX=none) (n : Nat) (x0 x1 : Value) : run Tryz.prog prim lvs (n+1) ZX [x0,x1]=Kv (run Tryz.prog prim lvs n) x0 x1:=
 (Zi hp (by kernel_rfl) Tryz.func58 (by kernel_rfl)).trans (ZiV _ x0 x1)
noncomputable def Zgc (Γ : Zc) (x0 x1 : Value) : M Value:=
 bind (alc 1 (.agg #[.string ⟨#[]⟩,.string ⟨#[]⟩,.string ⟨#[]⟩,.bool false,.slice none 0 0])) fun y1=>
 bind (bop .int .neq x1 (Value.int .i64 1)) fun y2=>
 bind (ZD y2 true 2 (bind (bop .int .neq x1 (Value.int .i64 2)) fun y3=>
 ret [x1,y3])) (c2 fun _ q4_1=>
 bind (pick y2 q4_1 (Value.bool false)) fun y5=>
 cnd y5
 (bind (Γ ZX [x0,(Value.int .i64 6)]) fun y6=>
 bind (bld (.agg #[.string ⟨#[]⟩,.string ⟨#[]⟩,.string ⟨#[]⟩,.bool false,.slice none 0 0]) []) fun y7=>
 bind (stA 5 y1 y7) fun _=>
 bind (ldA 5 y1) fun y8=>
 ret y8)
 (bind (Γ JE [x0,(Value.int .i64 65535)]) fun y9=>
 bind (Γ JE [x0,(Value.int .i64 65535)]) fun y10=>
 bind (bld (.agg #[.string ⟨#[]⟩,.string ⟨#[]⟩,.string ⟨#[]⟩,.bool false,.slice none 0 0]) [(0,1,y9),(1,1,y10)]) fun y11=>
 bind (alc 1 (.agg #[.string ⟨#[]⟩,.string ⟨#[]⟩,.string ⟨#[]⟩,.bool false,.slice none 0 0])) fun y12=>
 bind (stA 5 y12 y11) fun _=>
 bind (bop .int .eql x1 (Value.int .i64 2)) fun y13=>
 jn (cnd y13
 (bind (Γ JE [x0,(Value.int .i64 65535)]) fun y14=>
 bind (Γ ZiJ [x0]) fun y15=>
 bind (Γ ZfV [x0,(Value.int .i64 65535),(Value.int .i64 65535)]) fun y16=>
 bind (fa 2 y12) fun y17=>
 bind (st1 y17 y14) fun _=>
 bind (fa 3 y12) fun y18=>
 bind (st1 y18 y15) fun _=>
 bind (fa 4 y12) fun y19=>
 bind (st1 y19 y16) fun _=>
 ret (.nrm [x0,x1,y1,y12]))
 (ret (.nrm [x0,x1,y1,y12]))) (c4 fun q20_0 q20_1 q20_2 q20_3=>
 bind (Γ Qf [q20_0]) fun y21=>
 bind (bop .int .eql y21 (Value.int .i64 0)) fun y22=>
 jn (cnd y22
 (bind (ldA 5 q20_3) fun y23=>
 bind (Γ J5 [q20_1,y23]) fun y24=>
 bind (Γ ZX [q20_0,y24]) fun y25=>
 ret (.nrm [q20_0,q20_2,q20_3]))
 (ret (.nrm [q20_0,q20_2,q20_3]))) (c3 fun q26_0 q26_1 q26_2=>
 bind (Γ Qf [q26_0]) fun y27=>
 bind (bop .int .neq y27 (Value.int .i64 0)) fun y28=>
 cnd y28
 (bind (bld (.agg #[.string ⟨#[]⟩,.string ⟨#[]⟩,.string ⟨#[]⟩,.bool false,.slice none 0 0]) []) fun y29=>
 bind (stA 5 q26_1 y29) fun _=>
 bind (ldA 5 q26_1) fun y30=>
 ret y30)
 (bind (ldA 5 q26_2) fun y31=>
 bind (stA 5 q26_1 y31) fun _=>
 bind (ldA 5 q26_1) fun y32=>
 ret y32)) noX ret) noX ret))
theorem Zt9 (Γ : Zc) (x0 x1 : Value) : Zv Tryz.prog Γ Tryz.f59 ZnD [x0,x1]=Zgc Γ x0 x1:=by kernel_rfl
theorem ZrZ {prim : FuncId→Option (List Value→M Value)} (hp : prim ZcC=none) (n : Nat) (x0 x1 : Value) : run Tryz.prog prim lvs (n+1) ZcC [x0,x1]=Zgc (run Tryz.prog prim lvs n) x0 x1:=
 (Zi hp (by kernel_rfl) Tryz.func59 (by kernel_rfl)).trans (Zt9 _ x0 x1)
noncomputable def Zcl (Γ : Zc) (x0 : Value) : M Value:=
 bind (Qa x0) fun y1=>
 bind (fa 1 y1) fun y2=>
 bind (ld1 y2) fun y3=>
 bind (bop .int .eql y3 (Value.int .i64 0)) fun y4=>
 bind (ZD y4 true 6 (bind (Qa x0) fun y5=>
 bind (fa 0 y5) fun y6=>
 bind (ld1 y6) fun y7=>
 bind (Zp y7) fun y8=>
 bind (bop .int .gtr y8 (Value.int .i64 0)) fun y9=>
 ret [x0,y5,y6,y7,y8,y9])) (c6 fun _ _ _ _ _ q10_5=>
 bind (pick y4 q10_5 (Value.bool false)) fun y11=>
 cnd y11
 (ret (Value.int .i64 3))
 (bind (Qa x0) fun y12=>
 bind (fa 1 y12) fun y13=>
 bind (ld1 y13) fun y14=>
 ret y14))
theorem ZkU (Γ : Zc) (x0 : Value) : Zv Tryz.prog Γ Tryz.f60 ZeJ [x0]=Zcl Γ x0:=by kernel_rfl
theorem ZiN {prim : FuncId→Option (List Value→M Value)} (hp : prim YY=none) (n : Nat) (x0 : Value) : run Tryz.prog prim lvs (n+1) YY [x0]=Zcl (run Tryz.prog prim lvs n) x0:=
 (Zi hp (by kernel_rfl) Tryz.func60 (by kernel_rfl)).trans (ZkU _ x0)
noncomputable def Zik.l1 (Γ : Zc) (s2 s6 s8 s10 s29 s30 : Value) : M Out:=
 bind (bop .int .lss s30 s29) fun y18=>
 cnd y18
 (bind (ldA 2 s8) fun y19=>
 bind (Γ Zn7 [y19,s2]) fun y20=>
 bind (Zq y20 0) fun y21=>
 bind (Zq y20 1) fun y22=>
 bind (alc 1 (.agg #[.string ⟨#[]⟩,.int .i64 0])) fun y23=>
 bind (stA 2 y23 y21) fun _=>
 bind (ldA 2 y23) fun y24=>
 bind (stA 2 s8 y24) fun _=>
 bind (fa 1 s8) fun y25=>
 bind (ld1 y25) fun y26=>
 bind (bop .int .neq y26 (Value.int .i64 0)) fun y27=>
 cnd y27
 (bind (ldA 2 s8) fun y28=>
 bind (stA 2 s6 y28) fun _=>
 bind (ldA 2 s6) fun y29=>
 ret (.ret (Value.tuple #[y29,(Value.slice none 0 0)])))
 (bind (bsl 1 1 (.string ⟨#[]⟩) [(0,1,y22)]) fun y30=>
 bind (app 1 16 s10 y30) fun y31=>
 bind (bop .int .add s30 (Value.int .u64 1)) fun y32=>
 ret (.nrm [s2,s6,s8,y31,s29,y32])))
 (ret (.ext 0 [s6,s8,s10]))
noncomputable def Zik (Γ : Zc) (x0 x1 x2 : Value) : M Value:=
 bind (alc 1 x0) fun y1=>
 bind (alc 1 (.agg #[.string ⟨#[]⟩,.int .i64 0])) fun y2=>
 bind (ldA 2 y1) fun y3=>
 bind (Γ ZhP [y3,(Value.int .i64 2)]) fun y4=>
 bind (Zq y4 0) fun y5=>
 bind (Zq y4 1) fun y6=>
 bind (alc 1 (.agg #[.string ⟨#[]⟩,.int .i64 0])) fun y7=>
 bind (stA 2 y7 y5) fun _=>
 bind (fa 1 y7) fun y8=>
 bind (ld1 y8) fun y9=>
 bind (bop .int .eql y9 (Value.int .i64 0)) fun y10=>
 bind (ZD y10 true 5 (bind (cvi .i64 y6) fun y11=>
 bind (mxi true (Value.int .i64 0) x1) fun y12=>
 bind (bop .int .gtr y11 y12) fun y13=>
 ret [y6,y11,x1,y12,y13])) (c5 fun _ _ _ _ q14_4=>
 bind (pick y10 q14_4 (Value.bool false)) fun y15=>
 cnd y15
 (bind (bld (.agg #[.string ⟨#[]⟩,.int .i64 0]) [(1,1,(Value.int .i64 3))]) fun y16=>
 bind (stA 2 y2 y16) fun _=>
 bind (ldA 2 y2) fun y17=>
 ret (Value.tuple #[y17,(Value.slice none 0 0)]))
 (jn (Zh (c6 (Zik.l1 Γ)) [x2,y2,y7,(Value.slice none 0 0),y6,(Value.int .u64 0)]) noN (xk 0 (c3 fun q34_0 q34_1 q34_2=>
 bind (ldA 2 q34_1) fun y35=>
 bind (stA 2 q34_0 y35) fun _=>
 bind (ldA 2 q34_0) fun y36=>
 ret (Value.tuple #[y36,q34_2])) noX) ret))
noncomputable def Wh.l1 (Γ : Zc) (s0 s1 s21 s22 s23 : Value) : M Out:=
 bind (bop .int .lss s23 s22) fun y4=>
 cnd y4
 (bind (ixa 1 s21 s23) fun y5=>
 bind (ld1 y5) fun y6=>
 bind (Γ Zb1 [y6]) fun y7=>
 bind (uop .not y7) fun y8=>
 cnd y8
 (ret (.ret (Value.int .i64 10)))
 (bind (bop .int .add s23 (Value.int .i64 1)) fun y9=>
 ret (.nrm [s0,s1,s21,s22,y9])))
 (ret (.ext 0 [s0,s1]))
noncomputable def Wh.l2 (Γ : Zc) (s0 s1 s31 s32 s33 : Value) : M Out:=
 bind (bop .int .lss s33 s32) fun y13=>
 cnd y13
 (bind (ixa 1 s31 s33) fun y14=>
 bind (ld1 y14) fun y15=>
 bind (bop .int .gtr s33 (Value.int .i64 0)) fun y16=>
 bind (ZD y16 true 7 (bind (bop .int .sub s33 (Value.int .i64 1)) fun y17=>
 bind (ixa 1 s1 y17) fun y18=>
 bind (ld1 y18) fun y19=>
 bind (bop .str .geq y19 y15) fun y20=>
 ret [s1,s33,y17,y18,y19,y15,y20])) (c7 fun _ _ _ _ _ _ q21_6=>
 bind (pick y16 q21_6 (Value.bool false)) fun y22=>
 cnd y22
 (ret (.ret (Value.int .i64 9)))
 (bind (bop .int .add s33 (Value.int .i64 1)) fun y23=>
 ret (.nrm [s0,s1,s31,s32,y23]))))
 (ret (.ext 2 [s0,s1]))
noncomputable def Wh.l4 (Γ : Zc) (s0 s1 s10 s11 s53 s54 s55 s61 s62 s63 : Value) : M Out:=
 bind (bop .int .lss s63 s62) fun y36=>
 cnd y36
 (bind (ixa 1 s61 s63) fun y37=>
 bind (ld1 y37) fun y38=>
 bind (Γ ZtE [s1,y38]) fun y39=>
 bind (uop .not y39) fun y40=>
 cnd y40
 (ret (.ret (Value.int .i64 8)))
 (bind (bop .int .add s63 (Value.int .i64 1)) fun y41=>
 ret (.nrm [s0,s1,s10,s11,s53,s54,s55,s61,s62,y41])))
 (ret (.ext 6 [s0,s1,s10,s11,s53,s54,s55]))
noncomputable def Wh.l5 (Γ : Zc) (s0 s1 s11 s53 s54 s55 s74 s75 s76 : Value) : M Out:=
 bind (bop .int .lss s76 s75) fun y46=>
 cnd y46
 (bind (ixa 5 s74 s76) fun y47=>
 bind (ldA 5 y47) fun y48=>
 bind (alc 1 (.agg #[.string ⟨#[]⟩,.string ⟨#[]⟩,.string ⟨#[]⟩,.bool false,.slice none 0 0])) fun y49=>
 bind (stA 5 y49 y48) fun _=>
 bind (fa 2 s11) fun y50=>
 bind (ld1 y50) fun y51=>
 bind (bop .str .neq y51 (Value.string ⟨#[]⟩)) fun y52=>
 bind (ZD y52 true 5 (bind (fa 2 s11) fun y53=>
 bind (ld1 y53) fun y54=>
 bind (fa 2 y49) fun y55=>
 bind (ld1 y55) fun y56=>
 bind (bop .str .eql y54 y56) fun y57=>
 ret [y53,y54,y55,y56,y57])) (c5 fun _ _ _ _ q58_4=>
 bind (pick y52 q58_4 (Value.bool false)) fun y59=>
 cnd y59
 (ret (.ret (Value.int .i64 9)))
 (bind (bop .int .add s76 (Value.int .i64 1)) fun y60=>
 ret (.nrm [s0,s1,s11,s53,s54,s55,s74,s75,y60]))))
 (ret (.ext 8 [s0,s1,s53,s54,s55]))
noncomputable def Wh.l3 (Γ : Zc) (s0 s1 s53 s54 s55 : Value) : M Out:=
 bind (bop .int .lss s55 s54) fun y29=>
 cnd y29
 (bind (ixa 5 s53 s55) fun y30=>
 bind (ldA 5 y30) fun y31=>
 bind (alc 1 (.agg #[.string ⟨#[]⟩,.string ⟨#[]⟩,.string ⟨#[]⟩,.bool false,.slice none 0 0])) fun y32=>
 bind (stA 5 y32 y31) fun _=>
 bind (fa 4 y32) fun y33=>
 bind (ld1 y33) fun y34=>
 bind (Zp y34) fun y35=>
 jn (Zh (c10 (Wh.l4 Γ)) [s0,s1,s55,y32,s53,s54,s55,y34,y35,(Value.int .i64 0)]) noN (xk 6 (c7 fun q43_0 q43_1 q43_2 q43_3 q43_4 q43_5 q43_6=>
 bind (slv 5 q43_0 none (some q43_2) none) fun y44=>
 bind (Zp y44) fun y45=>
 jn (Zh (c9 (Wh.l5 Γ)) [q43_0,q43_1,q43_3,q43_4,q43_5,q43_6,y44,y45,(Value.int .i64 0)]) noN (xk 8 (c5 fun q62_0 q62_1 q62_2 q62_3 q62_4=>
 bind (bop .int .add q62_4 (Value.int .i64 1)) fun y63=>
 ret (.nrm [q62_0,q62_1,q62_2,q62_3,y63])) noX) ZY) noX) ZY)
 (ret (.ext 4 []))
noncomputable def Wh (Γ : Zc) (x0 x1 : Value) : M Value:=
 bind (Γ Zo4 [x0,(Value.int .i64 2)]) fun y1=>
 bind (bop .int .neq y1 (Value.int .i64 0)) fun y2=>
 cnd y2
 (ret y1)
 (bind (Zp x1) fun y3=>
 jn (Zh (c5 (Wh.l1 Γ)) [x0,x1,x1,y3,(Value.int .i64 0)]) noN (xk 0 (c2 fun q11_0 q11_1=>
 bind (Zp q11_1) fun y12=>
 jn (Zh (c5 (Wh.l2 Γ)) [q11_0,q11_1,q11_1,y12,(Value.int .i64 0)]) noN (xk 2 (c2 fun q25_0 q25_1=>
 bind (Zp q25_1) fun y26=>
 bind (bop .int .gtr y26 (Value.int .i64 6)) fun y27=>
 cnd y27
 (ret (Value.int .i64 7))
 (bind (Zp q25_0) fun y28=>
 jn (Zh (c5 (Wh.l3 Γ)) [q25_0,q25_1,q25_0,y28,(Value.int .i64 0)]) noN (xk 4 (c0 (ret (Value.int .i64 0))) noX) ret)) noX) ret) noX) ret)
noncomputable def WG (Γ : Zc) (x0 x1 x2 : Value) : M Value:=
 bind (Γ J4 [x0,x1]) fun y1=>
 bind (Zq y1 0) fun y2=>
 bind (Zq y1 1) fun y3=>
 bind (alc 1 (.agg #[.string ⟨#[]⟩,.bool false])) fun y4=>
 bind (stA 2 y4 y2) fun _=>
 bind (bop .int .eql y3 (Value.int .i64 10)) fun y5=>
 cnd y5
 (ret y3)
 (bind (Γ YV [x2]) fun y6=>
 bind (bop .int .neq y6 (Value.int .i64 0)) fun y7=>
 cnd y7
 (ret (Value.int .i64 4))
 (bind (bop .int .eql y3 (Value.int .i64 0)) fun y8=>
 cnd y8
 (ret (Value.int .i64 9))
 (bind (Qa x0) fun y9=>
 bind (fa 0 y9) fun y10=>
 bind (ld1 y10) fun y11=>
 bind (lenM y11) fun y12=>
 bind (bop .int .geq y12 (Value.int .i64 12)) fun y13=>
 cnd y13
 (ret (Value.int .i64 7))
 (bind (Qa x0) fun y14=>
 bind (fa 0 y14) fun y15=>
 bind (ld1 y15) fun y16=>
 bind (bld (.agg #[.string ⟨#[]⟩,.bool false]) [(0,1,x2)]) fun y17=>
 bind (mup .str y16 x1 y17) fun _=>
 ret (Value.int .i64 0)))))
theorem ZkP (Γ : Zc) (x0 x1 x2 : Value) : Zv Tryz.prog Γ Tryz.f66 ZeG [x0,x1,x2]=WG Γ x0 x1 x2:=by kernel_rfl
theorem ZiQ {prim : FuncId→Option (List Value→M Value)} (hp : prim Wq=none) (n : Nat) (x0 x1 x2 : Value) : run Tryz.prog prim lvs (n+1) Wq [x0,x1,x2]=WG (run Tryz.prog prim lvs n) x0 x1 x2:=
 (Zi hp (by kernel_rfl) Tryz.func66 (by kernel_rfl)).trans (ZkP _ x0 x1 x2)
noncomputable def Wr (Γ : Zc) (x0 x1 : Value) : M Value:=
 bind (Γ J4 [x0,x1]) fun y1=>
 bind (Zq y1 0) fun y2=>
 bind (Zq y1 1) fun y3=>
 bind (alc 1 (.agg #[.string ⟨#[]⟩,.bool false])) fun y4=>
 bind (stA 2 y4 y2) fun _=>
 bind (bop .int .neq y3 (Value.int .i64 0)) fun y5=>
 cnd y5
 (ret y3)
 (bind (Qa x0) fun y6=>
 bind (fa 0 y6) fun y7=>
 bind (ld1 y7) fun y8=>
 bind (mde .str y8 x1) fun _=>
 bind (Qa x0) fun y9=>
 bind (fa 1 y9) fun y10=>
 bind (ld1 y10) fun y11=>
 bind (Γ JP [y11,x1]) fun y12=>
 bind (Qa x0) fun y13=>
 bind (fa 2 y13) fun y14=>
 bind (ld1 y14) fun y15=>
 bind (Γ KH [y15,x1]) fun y16=>
 ret (Value.int .i64 0))
theorem Zkz (Γ : Zc) (x0 x1 : Value) : Zv Tryz.prog Γ Tryz.f68 ZeX [x0,x1]=Wr Γ x0 x1:=by kernel_rfl
theorem Zi4 {prim : FuncId→Option (List Value→M Value)} (hp : prim WA=none) (n : Nat) (x0 x1 : Value) : run Tryz.prog prim lvs (n+1) WA [x0,x1]=Wr (run Tryz.prog prim lvs n) x0 x1:=
 (Zi hp (by kernel_rfl) Tryz.func68 (by kernel_rfl)).trans (Zkz _ x0 x1)
noncomputable def K4 (Γ : Zc) (x0 x1 x2 : Value) : M Value:=
 bind (Γ J4 [x0,x1]) fun y1=>
 bind (Zq y1 0) fun y2=>
 bind (Zq y1 1) fun y3=>
 bind (alc 1 (.agg #[.string ⟨#[]⟩,.bool false])) fun y4=>
 bind (stA 2 y4 y2) fun _=>
 bind (bop .int .eql y3 (Value.int .i64 10)) fun y5=>
 cnd y5
 (ret y3)
 (bind (Γ YV [x2]) fun y6=>
 bind (bop .int .neq y6 (Value.int .i64 0)) fun y7=>
 cnd y7
 (ret (Value.int .i64 4))
 (bind (bop .int .neq y3 (Value.int .i64 0)) fun y8=>
 cnd y8
 (ret y3)
 (bind (fa 1 y4) fun y9=>
 bind (ld1 y9) fun y10=>
 cnd y10
 (ret (Value.int .i64 12))
 (bind (fa 0 y4) fun y11=>
 bind (st1 y11 x2) fun _=>
 bind (Qa x0) fun y12=>
 bind (fa 0 y12) fun y13=>
 bind (ld1 y13) fun y14=>
 bind (ldA 2 y4) fun y15=>
 bind (mup .str y14 x1 y15) fun _=>
 ret (Value.int .i64 0)))))
theorem Zjg (Γ : Zc) (x0 x1 x2 : Value) : Zv Tryz.prog Γ Tryz.f70 Zed [x0,x1,x2]=K4 Γ x0 x1 x2:=by kernel_rfl
theorem ZiI {prim : FuncId→Option (List Value→M Value)} (hp : prim K7=none) (n : Nat) (x0 x1 x2 : Value) : run Tryz.prog prim lvs (n+1) K7 [x0,x1,x2]=K4 (run Tryz.prog prim lvs n) x0 x1 x2:=
 (Zi hp (by kernel_rfl) Tryz.func70 (by kernel_rfl)).trans (Zjg _ x0 x1 x2)
noncomputable def ZgZ.l1 (Γ : Zc) (s1 s3 s6 s8 s10 s41 s42 s43 : Value) : M Out:=
 bind (bop .int .lss s43 s42) fun y26=>
 cnd y26
 (bind (ixa 5 s41 s43) fun y27=>
 bind (ldA 5 y27) fun y28=>
 bind (alc 1 (.agg #[.string ⟨#[]⟩,.string ⟨#[]⟩,.string ⟨#[]⟩,.bool false,.slice none 0 0])) fun y29=>
 bind (stA 5 y29 y28) fun _=>
 bind (bop .str .neq s10 (Value.string ⟨#[]⟩)) fun y30=>
 bind (ZD y30 true 4 (bind (fa 2 y29) fun y31=>
 bind (ld1 y31) fun y32=>
 bind (bop .str .eql y32 s10) fun y33=>
 ret [y31,y32,s10,y33])) (c4 fun _ _ _ q34_3=>
 bind (pick y30 q34_3 (Value.bool false)) fun y35=>
 bind (ZD y35 true 4 (bind (fa 0 y29) fun y36=>
 bind (ld1 y36) fun y37=>
 bind (bop .str .neq y37 s1) fun y38=>
 ret [y36,y37,s1,y38])) (c4 fun _ _ _ q39_3=>
 bind (pick y35 q39_3 (Value.bool false)) fun y40=>
 cnd y40
 (bind (ldA 2 s3) fun y41=>
 bind (stA 2 s6 y41) fun _=>
 bind (ldA 2 s6) fun y42=>
 ret (.ret (Value.tuple #[y42,(Value.int .i64 9)])))
 (bind (bop .int .add s43 (Value.int .i64 1)) fun y43=>
 ret (.nrm [s1,s3,s6,s8,s10,s41,s42,y43])))))
 (ret (.ext 0 [s3,s6,s8,s10]))
noncomputable def ZgZ (Γ : Zc) (x0 x1 x2 : Value) : M Value:=
 bind (alc 1 x0) fun y1=>
 bind (alc 1 (.agg #[.slice none 0 0,.slice none 0 0])) fun y2=>
 bind (ldA 2 y1) fun y3=>
 bind (Γ ZsI [y3,x1]) fun y4=>
 bind (Zq y4 0) fun y5=>
 bind (Zq y4 1) fun y6=>
 bind (alc 1 (.agg #[.string ⟨#[]⟩,.string ⟨#[]⟩,.string ⟨#[]⟩,.bool false,.slice none 0 0])) fun y7=>
 bind (stA 5 y7 y5) fun _=>
 bind (Γ Zlw [x2]) fun y8=>
 bind (Zq y8 0) fun y9=>
 bind (Zq y8 1) fun y10=>
 bind (bop .int .eql y6 (Value.int .i64 10)) fun y11=>
 cnd y11
 (bind (ldA 2 y1) fun y12=>
 bind (stA 2 y2 y12) fun _=>
 bind (ldA 2 y2) fun y13=>
 ret (Value.tuple #[y13,y6]))
 (bind (bop .str .neq x2 (Value.string ⟨#[]⟩)) fun y14=>
 bind (ZD y14 true 2 (bind (uop .not y10) fun y15=>
 ret [y10,y15])) (c2 fun _ q16_1=>
 bind (pick y14 q16_1 (Value.bool false)) fun y17=>
 cnd y17
 (bind (ldA 2 y1) fun y18=>
 bind (stA 2 y2 y18) fun _=>
 bind (ldA 2 y2) fun y19=>
 ret (Value.tuple #[y19,(Value.int .i64 11)]))
 (bind (bop .int .neq y6 (Value.int .i64 0)) fun y20=>
 cnd y20
 (bind (ldA 2 y1) fun y21=>
 bind (stA 2 y2 y21) fun _=>
 bind (ldA 2 y2) fun y22=>
 ret (Value.tuple #[y22,y6]))
 (bind (fa 0 y1) fun y23=>
 bind (ld1 y23) fun y24=>
 bind (Zp y24) fun y25=>
 jn (Zh (c8 (ZgZ.l1 Γ)) [x1,y1,y2,y7,y9,y24,y25,(Value.int .i64 0)]) noN (xk 0 (c4 fun q45_0 q45_1 q45_2 q45_3=>
 bind (fa 2 q45_2) fun y46=>
 bind (st1 y46 q45_3) fun _=>
 bind (ldA 2 q45_0) fun y47=>
 bind (ldA 5 q45_2) fun y48=>
 bind (Γ ZtF [y47,y48]) fun y49=>
 bind (stA 2 q45_1 y49) fun _=>
 bind (ldA 2 q45_1) fun y50=>
 ret (Value.tuple #[y50,(Value.int .i64 0)])) noX) ret))))
noncomputable def Zfu.l1 (Γ : Zc) (s1 s2 s4 s8 s27 s28 s29 : Value) : M Out:=
 bind (bop .int .lss s29 s28) fun y19=>
 cnd y19
 (bind (ixa 5 s27 s29) fun y20=>
 bind (ldA 5 y20) fun y21=>
 bind (alc 1 (.agg #[.string ⟨#[]⟩,.string ⟨#[]⟩,.string ⟨#[]⟩,.bool false,.slice none 0 0])) fun y22=>
 bind (stA 5 y22 y21) fun _=>
 bind (fa 4 y22) fun y23=>
 bind (ld1 y23) fun y24=>
 bind (Γ Zos [y24,s1]) fun y25=>
 bind (fa 4 y22) fun y26=>
 bind (st1 y26 y25) fun _=>
 bind (ldA 5 y22) fun y27=>
 bind (bsl 5 1 (.agg #[.string ⟨#[]⟩,.string ⟨#[]⟩,.string ⟨#[]⟩,.bool false,.slice none 0 0]) [(0,5,y27)]) fun y28=>
 bind (app 5 80 s8 y28) fun y29=>
 bind (bop .int .add s29 (Value.int .i64 1)) fun y30=>
 ret (.nrm [s1,s2,s4,y29,s27,s28,y30]))
 (ret (.ext 0 [s2,s4,s8]))
noncomputable def Zfu (Γ : Zc) (x0 x1 : Value) : M Value:=
 bind (alc 1 x0) fun y1=>
 bind (alc 1 (.agg #[.slice none 0 0,.slice none 0 0])) fun y2=>
 bind (fa 1 y1) fun y3=>
 bind (ld1 y3) fun y4=>
 bind (bld (.agg #[.slice none 0 0,.slice none 0 0]) [(0,1,y4)]) fun y5=>
 bind (Γ Zsr [y5,x1]) fun y6=>
 bind (Zq y6 0) fun y7=>
 bind (Zq y6 1) fun y8=>
 bind (alc 1 (.agg #[.slice none 0 0,.slice none 0 0])) fun y9=>
 bind (stA 2 y9 y7) fun _=>
 bind (bop .int .neq y8 (Value.int .i64 0)) fun y10=>
 cnd y10
 (bind (ldA 2 y1) fun y11=>
 bind (stA 2 y2 y11) fun _=>
 bind (ldA 2 y2) fun y12=>
 ret (Value.tuple #[y12,y8]))
 (bind (fa 0 y9) fun y13=>
 bind (ld1 y13) fun y14=>
 bind (fa 1 y1) fun y15=>
 bind (st1 y15 y14) fun _=>
 bind (fa 0 y1) fun y16=>
 bind (ld1 y16) fun y17=>
 bind (Zp y17) fun y18=>
 jn (Zh (c7 (Zfu.l1 Γ)) [x1,y1,y2,(Value.slice none 0 0),y17,y18,(Value.int .i64 0)]) noN (xk 0 (c3 fun q32_0 q32_1 q32_2=>
 bind (fa 0 q32_0) fun y33=>
 bind (st1 y33 q32_2) fun _=>
 bind (ldA 2 q32_0) fun y34=>
 bind (stA 2 q32_1 y34) fun _=>
 bind (ldA 2 q32_1) fun y35=>
 ret (Value.tuple #[y35,(Value.int .i64 0)])) noX) ret)
noncomputable def Znp.l1 (Γ : Zc) (s3 s10 s11 s12 : Value) : M Out:=
 bind (bop .int .lss s12 s11) fun y5=>
 cnd y5
 (bind (ixa 1 s10 s12) fun y6=>
 bind (ld1 y6) fun y7=>
 bind (Γ Zr7 [y7]) fun y8=>
 bind (bop .str .add s3 y8) fun y9=>
 bind (bop .int .add s12 (Value.int .i64 1)) fun y10=>
 ret (.nrm [y9,s10,s11,y10]))
 (ret (.ext 0 [s3]))
noncomputable def Znp (Γ : Zc) (x0 : Value) : M Value:=
 bind (Zp x0) fun y1=>
 bind (cvi .u64 y1) fun y2=>
 bind (Γ ZnG [y2,(Value.int .i64 2)]) fun y3=>
 bind (Zp x0) fun y4=>
 jn (Zh (c4 (Znp.l1 Γ)) [y3,x0,y4,(Value.int .i64 0)]) noN (xk 0 (c1 fun q12_0=>
 ret q12_0) noX) ret
noncomputable def Zjm.l1 (Γ : Zc) (s0 s5 s12 s13 s14 : Value) : M Out:=
 bind (bop .int .lss s14 s13) fun y5=>
 cnd y5
 (bind (ixa 5 s12 s14) fun y6=>
 bind (ldA 5 y6) fun y7=>
 bind (alc 1 (.agg #[.string ⟨#[]⟩,.string ⟨#[]⟩,.string ⟨#[]⟩,.bool false,.slice none 0 0])) fun y8=>
 bind (stA 5 y8 y7) fun _=>
 bind (ldA 5 y8) fun y9=>
 bind (Γ Zsa [s0,y9]) fun y10=>
 bind (bop .str .add s5 y10) fun y11=>
 bind (bop .int .add s14 (Value.int .i64 1)) fun y12=>
 ret (.nrm [s0,y11,s12,s13,y12]))
 (ret (.ext 0 [s5]))
noncomputable def Zjm (Γ : Zc) (x0 x1 : Value) : M Value:=
 bind (Zp x1) fun y1=>
 bind (cvi .u64 y1) fun y2=>
 bind (Γ ZnG [y2,(Value.int .i64 2)]) fun y3=>
 bind (Zp x1) fun y4=>
 jn (Zh (c5 (Zjm.l1 Γ)) [x0,y3,x1,y4,(Value.int .i64 0)]) noN (xk 0 (c1 fun q14_0=>
 ret q14_0) noX) ret
noncomputable def Zdd (Γ : Zc) (x0 : Value) : M Value:=
 bind (bop .slc .eql x0 (Value.slice none 0 0)) fun y1=>
 cnd y1
 (ret (Value.slice none 0 0))
 (bind (bsl 1 0 (.int .u8 0) []) fun y2=>
 bind (app 1 1 y2 x0) fun y3=>
 ret y3)
theorem ZpZ (Γ : Zc) (x0 : Value) : Zv Tryz.prog Γ Tryz.f88 Zh3 [x0]=Zdd Γ x0:=by kernel_rfl
theorem ZnW {prim : FuncId→Option (List Value→M Value)} (hp : prim ZaF=none) (n : Nat) (x0 : Value) : run Tryz.prog prim lvs (n+1) ZaF [x0]=Zdd (run Tryz.prog prim lvs n) x0:=
 (Zi hp (by kernel_rfl) Tryz.func88 (by kernel_rfl)).trans (ZpZ _ x0)
noncomputable def Km.l1 (Γ : Zc) (s4 s7 s29 s30 : Value) : M Out:=
 bind (bop .int .lss s30 s29) fun y13=>
 cnd y13
 (bind (Γ ZcC [s4,(Value.int .i64 1)]) fun y14=>
 bind (bsl 5 1 (.agg #[.string ⟨#[]⟩,.string ⟨#[]⟩,.string ⟨#[]⟩,.bool false,.slice none 0 0]) [(0,5,y14)]) fun y15=>
 bind (app 5 80 s7 y15) fun y16=>
 bind (bop .int .add s30 (Value.int .i64 1)) fun y17=>
 ret (.nrm [s4,y16,s29,y17]))
 (ret (.ext 0 [s4,s7]))
noncomputable def Km (Γ : Zc) (x0 : Value) : M Value:=
 bind (Γ ZcF [x0]) fun y1=>
 bind (Γ Yz [y1]) fun y2=>
 bind (Γ Qf [y1]) fun y3=>
 bind (bop .int .eql y3 (Value.int .i64 0)) fun y4=>
 bind (ZD y4 true 2 (bind (bop .int .neq y2 (Value.int .u8 1)) fun y5=>
 ret [y2,y5])) (c2 fun _ q6_1=>
 bind (pick y4 q6_1 (Value.bool false)) fun y7=>
 cnd y7
 (ret (Value.tuple #[(Value.pointer none),(Value.int .i64 6)]))
 (bind (Γ Yl [y1]) fun y8=>
 bind (cvi .i64 y8) fun y9=>
 bind (bop .int .gtr y9 (Value.int .i64 12)) fun y10=>
 jn (cnd y10
 (bind (Γ ZX [y1,(Value.int .i64 7)]) fun y11=>
 ret (.nrm [y1,(Value.int .i64 0)]))
 (ret (.nrm [y1,y9]))) (c2 fun q12_0 q12_1=>
 jn (Zh (c4 (Km.l1 Γ)) [q12_0,(Value.slice none 0 0),q12_1,(Value.int .i64 0)]) noN (xk 0 (c2 fun q19_0 q19_1=>
 bind (Γ Qf [q19_0]) fun y20=>
 bind (bop .int .neq y20 (Value.int .i64 0)) fun y21=>
 cnd y21
 (ret (Value.tuple #[(Value.pointer none),y20]))
 (bind (Γ ZcI [q19_1]) fun y22=>
 bind (Zq y22 0) fun y23=>
 bind (Zq y22 1) fun y24=>
 bind (bop .int .eql y24 (Value.int .i64 0)) fun y25=>
 jn (cnd y25
 (bind (Γ YY [q19_0]) fun y26=>
 ret (.nrm [y23,y26]))
 (ret (.nrm [y23,y24]))) (c2 fun q27_0 q27_1=>
 bind (bop .int .neq q27_1 (Value.int .i64 0)) fun y28=>
 cnd y28
 (ret (Value.tuple #[(Value.pointer none),q27_1]))
 (ret (Value.tuple #[q27_0,(Value.int .i64 0)]))) noX ret)) noX) ret) noX ret))
theorem Zsu (Γ : Zc) (x0 : Value) : Zv Tryz.prog Γ Tryz.f89 Zlg [x0]=Km Γ x0:=by kernel_rfl
theorem ZrQ {prim : FuncId→Option (List Value→M Value)} (hp : prim ZaQ=none) (n : Nat) (x0 : Value) : run Tryz.prog prim lvs (n+1) ZaQ [x0]=Km (run Tryz.prog prim lvs n) x0:=
 (Zi hp (by kernel_rfl) Tryz.func89 (by kernel_rfl)).trans (Zsu _ x0)
noncomputable def Zpl.l1 (Γ : Zc) (s2 s3 s6 s7 s8 : Value) : M Out:=
 bind (bop .int .lss s8 s7) fun y3=>
 cnd y3
 (bind (ixa 5 s6 s8) fun y4=>
 bind (ldA 5 y4) fun y5=>
 bind (alc 1 (.agg #[.string ⟨#[]⟩,.string ⟨#[]⟩,.string ⟨#[]⟩,.bool false,.slice none 0 0])) fun y6=>
 bind (stA 5 y6 y5) fun _=>
 bind (fa 0 y6) fun y7=>
 bind (ld1 y7) fun y8=>
 bind (fa 1 y6) fun y9=>
 bind (ld1 y9) fun y10=>
 bind (bld (.agg #[.string ⟨#[]⟩,.string ⟨#[]⟩,.string ⟨#[]⟩,.bool false,.slice none 0 0]) [(0,1,y8),(1,1,y10)]) fun y11=>
 bind (bsl 5 1 (.agg #[.string ⟨#[]⟩,.string ⟨#[]⟩,.string ⟨#[]⟩,.bool false,.slice none 0 0]) [(0,5,y11)]) fun y12=>
 bind (app 5 80 s3 y12) fun y13=>
 bind (bop .int .add s8 (Value.int .i64 1)) fun y14=>
 ret (.nrm [s2,y13,s6,s7,y14]))
 (ret (.ext 0 [s2,s3]))
noncomputable def Zpl (Γ : Zc) (x0 : Value) : M Value:=
 bind (alc 1 (.agg #[.slice none 0 0,.slice none 0 0])) fun y1=>
 bind (Zp x0) fun y2=>
 jn (Zh (c5 (Zpl.l1 Γ)) [y1,(Value.slice none 0 0),x0,y2,(Value.int .i64 0)]) noN (xk 0 (c2 fun q16_0 q16_1=>
 bind (bld (.agg #[.slice none 0 0,.slice none 0 0]) [(0,1,q16_1)]) fun y17=>
 bind (stA 2 q16_0 y17) fun _=>
 bind (ldA 2 q16_0) fun y18=>
 ret y18) noX) ret
noncomputable def Zcx (Γ : Zc) (x0 x1 x2 : Value) : M Value:=
 bind (Γ ZaV [x2]) fun y1=>
 bind (Γ Zaw [x0,x1]) fun y2=>
 bind (bsl 1 2 .nilFunc [(0,1,y1),(1,1,y2)]) fun y3=>
 bind (Γ YQ [x1,y3]) fun y4=>
 bind (bop .int .eql y4 (Value.int .i64 0)) fun y5=>
 jn (cnd y5
 (bind (Qa x0) fun y6=>
 bind (fa 0 y6) fun y7=>
 bind (ld1 y7) fun y8=>
 bind (mup .str y8 x1 x2) fun _=>
 ret (.nrm [y4]))
 (ret (.nrm [y4]))) (c1 fun q9_0=>
 ret q9_0) noX ret
theorem Zkq (Γ : Zc) (x0 x1 x2 : Value) : Zv Tryz.prog Γ Tryz.f92 ZeH [x0,x1,x2]=Zcx Γ x0 x1 x2:=by kernel_rfl
theorem ZiX {prim : FuncId→Option (List Value→M Value)} (hp : prim Wn=none) (n : Nat) (x0 x1 x2 : Value) : run Tryz.prog prim lvs (n+1) Wn [x0,x1,x2]=Zcx (run Tryz.prog prim lvs n) x0 x1 x2:=
 (Zi hp (by kernel_rfl) Tryz.func92 (by kernel_rfl)).trans (Zkq _ x0 x1 x2)
noncomputable def Zcv (Γ : Zc) (x0 x1 : Value) : M Value:=
 bind (Γ Js [x0,x1]) fun y1=>
 bind (bsl 1 1 .nilFunc [(0,1,y1)]) fun y2=>
 bind (Γ YQ [x1,y2]) fun y3=>
 bind (bop .int .eql y3 (Value.int .i64 0)) fun y4=>
 jn (cnd y4
 (bind (Qa x0) fun y5=>
 bind (fa 0 y5) fun y6=>
 bind (ld1 y6) fun y7=>
 bind (mde .str y7 x1) fun _=>
 ret (.nrm [y3]))
 (ret (.nrm [y3]))) (c1 fun q8_0=>
 ret q8_0) noX ret
theorem ZkA (Γ : Zc) (x0 x1 : Value) : Zv Tryz.prog Γ Tryz.f93 ZeK [x0,x1]=Zcv Γ x0 x1:=by kernel_rfl
theorem ZjM {prim : FuncId→Option (List Value→M Value)} (hp : prim WJ=none) (n : Nat) (x0 x1 : Value) : run Tryz.prog prim lvs (n+1) WJ [x0,x1]=Zcv (run Tryz.prog prim lvs n) x0 x1:=
 (Zi hp (by kernel_rfl) Tryz.func93 (by kernel_rfl)).trans (ZkA _ x0 x1)
noncomputable def ZbZ (Γ : Zc) (x0 x1 x2 : Value) : M Value:=
 bind (Γ ZaV [x2]) fun y1=>
 bind (Γ Js [x0,x1]) fun y2=>
 bind (bsl 1 2 .nilFunc [(0,1,y1),(1,1,y2)]) fun y3=>
 bind (Γ YQ [x1,y3]) fun y4=>
 bind (bop .int .eql y4 (Value.int .i64 0)) fun y5=>
 jn (cnd y5
 (bind (Qa x0) fun y6=>
 bind (fa 0 y6) fun y7=>
 bind (ld1 y7) fun y8=>
 bind (mup .str y8 x1 x2) fun _=>
 ret (.nrm [y4]))
 (ret (.nrm [y4]))) (c1 fun q9_0=>
 ret q9_0) noX ret
theorem Zja (Γ : Zc) (x0 x1 x2 : Value) : Zv Tryz.prog Γ Tryz.f94 Zep [x0,x1,x2]=ZbZ Γ x0 x1 x2:=by kernel_rfl
theorem Ziv {prim : FuncId→Option (List Value→M Value)} (hp : prim K6=none) (n : Nat) (x0 x1 x2 : Value) : run Tryz.prog prim lvs (n+1) K6 [x0,x1,x2]=ZbZ (run Tryz.prog prim lvs n) x0 x1 x2:=
 (Zi hp (by kernel_rfl) Tryz.func94 (by kernel_rfl)).trans (Zja _ x0 x1 x2)
noncomputable def Zey (Γ : Zc) (x0 : Value) : M Value:=
 bind (Qa x0) fun y1=>
 bind (fa 0 y1) fun y2=>
 bind (ld1 y2) fun y3=>
 bind (lenM y3) fun y4=>
 ret y4
theorem Zn2 (Γ : Zc) (x0 : Value) : Zv Tryz.prog Γ Tryz.f95 ZgP [x0]=Zey Γ x0:=by kernel_rfl
theorem Znl {prim : FuncId→Option (List Value→M Value)} (hp : prim Za3=none) (n : Nat) (x0 : Value) : run Tryz.prog prim lvs (n+1) Za3 [x0]=Zey (run Tryz.prog prim lvs n) x0:=
 (Zi hp (by kernel_rfl) Tryz.func95 (by kernel_rfl)).trans (Zn2 _ x0)
noncomputable def Zmk (Γ : Zc) (x0 : Value) : M Value:=
 bind (alc 1 x0) fun y1=>
 bind (alc 1 (.agg #[.string ⟨#[]⟩,.string ⟨#[]⟩,.string ⟨#[]⟩,.bool false,.slice none 0 0])) fun y2=>
 bind (fa 0 y1) fun y3=>
 bind (ld1 y3) fun y4=>
 bind (fa 1 y1) fun y5=>
 bind (ld1 y5) fun y6=>
 bind (bld (.agg #[.string ⟨#[]⟩,.string ⟨#[]⟩,.string ⟨#[]⟩,.bool false,.slice none 0 0]) [(0,1,y4),(1,1,y6)]) fun y7=>
 bind (stA 5 y2 y7) fun _=>
 bind (ldA 5 y2) fun y8=>
 ret y8
theorem Zu0 (Γ : Zc) (x0 : Value) : Zv Tryz.prog Γ Tryz.f96 Zpr [x0]=Zmk Γ x0:=by kernel_rfl
theorem ZtG {prim : FuncId→Option (List Value→M Value)} (hp : prim ZhD=none) (n : Nat) (x0 : Value) : run Tryz.prog prim lvs (n+1) ZhD [x0]=Zmk (run Tryz.prog prim lvs n) x0:=
 (Zi hp (by kernel_rfl) Tryz.func96 (by kernel_rfl)).trans (Zu0 _ x0)
noncomputable def YR.l1 (Γ : Zc) (s5 s10 s11 s12 : Value) : M Out:=
 bind (bop .int .lss s12 s11) fun y3=>
 cnd y3
 (bind (ixa 1 s10 s12) fun y4=>
 bind (ld1 y4) fun y5=>
 bind (bop .int .eql s5 (Value.int .i64 0)) fun y6=>
 jn (cnd y6
 (bind (Z6 Γ y5 []) fun y7=>
 ret (.nrm [y7,s10,s11,s12]))
 (ret (.nrm [s5,s10,s11,s12]))) (c4 fun q8_0 q8_1 q8_2 q8_3=>
 bind (bop .int .add q8_3 (Value.int .i64 1)) fun y9=>
 ret (.nrm [q8_0,q8_1,q8_2,y9])) noX ZY)
 (ret (.ext 0 [s5]))
noncomputable def YR (Γ : Zc) (x0 x1 : Value) : M Value:=
 bind (Γ QW [x0]) fun y1=>
 bind (Zp x1) fun y2=>
 jn (Zh (c4 (YR.l1 Γ)) [y1,x1,y2,(Value.int .i64 0)]) noN (xk 0 (c1 fun q12_0=>
 ret q12_0) noX) ret
theorem Zp1 (Γ : Zc) (x0 x1 : Value) : Zv Tryz.prog Γ Tryz.f97 Zh6 [x0,x1]=YR Γ x0 x1:=by kernel_rfl
theorem ZoH {prim : FuncId→Option (List Value→M Value)} (hp : prim YQ=none) (n : Nat) (x0 x1 : Value) : run Tryz.prog prim lvs (n+1) YQ [x0,x1]=YR (run Tryz.prog prim lvs n) x0 x1:=
 (Zi hp (by kernel_rfl) Tryz.func97 (by kernel_rfl)).trans (Zp1 _ x0 x1)
noncomputable def Zdg (Γ : Zc) (x0 x1 : Value) : M Value:=
 bind (alc 1 x0) fun y1=>
 bind (alc 1 x1) fun y2=>
 ret (Value.func (.func 165) #[] #[y1,y2])
theorem Zmh (Γ : Zc) (x0 x1 : Value) : Zv Tryz.prog Γ Tryz.f98 ZfS [x0,x1]=Zdg Γ x0 x1:=by kernel_rfl
theorem ZkL {prim : FuncId→Option (List Value→M Value)} (hp : prim Js=none) (n : Nat) (x0 x1 : Value) : run Tryz.prog prim lvs (n+1) Js [x0,x1]=Zdg (run Tryz.prog prim lvs n) x0 x1:=
 (Zi hp (by kernel_rfl) Tryz.func98 (by kernel_rfl)).trans (Zmh _ x0 x1)
noncomputable def Wl (Γ : Zc) (x0 x1 : Value) : M Value:=
 bind (alc 1 (.agg #[.string ⟨#[]⟩,.bool false])) fun y1=>
 bind (Γ QW [x1]) fun y2=>
 bind (bop .int .neq y2 (Value.int .i64 0)) fun y3=>
 cnd y3
 (bind (bld (.agg #[.string ⟨#[]⟩,.bool false]) []) fun y4=>
 bind (stA 2 y1 y4) fun _=>
 bind (ldA 2 y1) fun y5=>
 ret (Value.tuple #[y5,y2]))
 (bind (Qa x0) fun y6=>
 bind (fa 0 y6) fun y7=>
 bind (ld1 y7) fun y8=>
 bind (lkp .str (.agg #[.string ⟨#[]⟩,.bool false]) true y8 x1) fun y9=>
 bind (Zq y9 0) fun y10=>
 bind (Zq y9 1) fun y11=>
 bind (alc 1 (.agg #[.string ⟨#[]⟩,.bool false])) fun y12=>
 bind (stA 2 y12 y10) fun _=>
 bind (uop .not y11) fun y13=>
 cnd y13
 (bind (bld (.agg #[.string ⟨#[]⟩,.bool false]) []) fun y14=>
 bind (stA 2 y1 y14) fun _=>
 bind (ldA 2 y1) fun y15=>
 ret (Value.tuple #[y15,(Value.int .i64 8)]))
 (bind (ldA 2 y12) fun y16=>
 bind (stA 2 y1 y16) fun _=>
 bind (ldA 2 y1) fun y17=>
 ret (Value.tuple #[y17,(Value.int .i64 0)])))
theorem Znr (Γ : Zc) (x0 x1 : Value) : Zv Tryz.prog Γ Tryz.f99 Zgk [x0,x1]=Wl Γ x0 x1:=by kernel_rfl
theorem Zl0 {prim : FuncId→Option (List Value→M Value)} (hp : prim J4=none) (n : Nat) (x0 x1 : Value) : run Tryz.prog prim lvs (n+1) J4 [x0,x1]=Wl (run Tryz.prog prim lvs n) x0 x1:=
 (Zi hp (by kernel_rfl) Tryz.func99 (by kernel_rfl)).trans (Znr _ x0 x1)
noncomputable def ZeE (Γ : Zc) (x0 x1 : Value) : M Value:=
 bind (Qa x0) fun y1=>
 bind (fa 1 y1) fun y2=>
 bind (ld1 y2) fun y3=>
 bind (lkp .str (.string ⟨#[]⟩) true y3 x1) fun y4=>
 bind (Zq y4 0) fun y5=>
 bind (Zq y4 1) fun y6=>
 ret (Value.tuple #[y5,y6])
theorem ZnP (Γ : Zc) (x0 x1 : Value) : Zv Tryz.prog Γ Tryz.f100 ZgT [x0,x1]=ZeE Γ x0 x1:=by kernel_rfl
theorem ZmK {prim : FuncId→Option (List Value→M Value)} (hp : prim ZaZ=none) (n : Nat) (x0 x1 : Value) : run Tryz.prog prim lvs (n+1) ZaZ [x0,x1]=ZeE (run Tryz.prog prim lvs n) x0 x1:=
 (Zi hp (by kernel_rfl) Tryz.func100 (by kernel_rfl)).trans (ZnP _ x0 x1)
noncomputable def ZcU (Γ : Zc) (x0 x1 : Value) : M Value:=
 bind (alc 1 x0) fun y1=>
 bind (alc 1 x1) fun y2=>
 bind (ld1 y1) fun y3=>
 bind (Γ Y5 [y3]) fun y4=>
 bind (Γ ZO [y4,(Value.func (.func 166) #[] #[y1,y2])]) fun y5=>
 ret y5
theorem Zme (Γ : Zc) (x0 x1 : Value) : Zv Tryz.prog Γ Tryz.f101 ZfI [x0,x1]=ZcU Γ x0 x1:=by kernel_rfl
theorem ZkC {prim : FuncId→Option (List Value→M Value)} (hp : prim J8=none) (n : Nat) (x0 x1 : Value) : run Tryz.prog prim lvs (n+1) J8 [x0,x1]=ZcU (run Tryz.prog prim lvs n) x0 x1:=
 (Zi hp (by kernel_rfl) Tryz.func101 (by kernel_rfl)).trans (Zme _ x0 x1)
noncomputable def Zfr (Γ : Zc) (x0 : Value) : M Value:=
 bind (QX x0) fun y1=>
 bind (bop .int .gtr y1 (Value.int .i64 12)) fun y2=>
 bind (ZD y2 false 3 (bind (Γ YK [x0,(Value.func (.func 168) #[] #[])]) fun y3=>
 bind (uop .not y3) fun y4=>
 ret [x0,y3,y4])) (c3 fun _ _ q5_2=>
 bind (pick y2 (Value.bool true) q5_2) fun y6=>
 cnd y6
 (ret (Value.int .i64 10))
 (ret (Value.int .i64 0)))
theorem ZpP (Γ : Zc) (x0 : Value) : Zv Tryz.prog Γ Tryz.f102 Zh9 [x0]=Zfr Γ x0:=by kernel_rfl
theorem ZnX {prim : FuncId→Option (List Value→M Value)} (hp : prim WI=none) (n : Nat) (x0 : Value) : run Tryz.prog prim lvs (n+1) WI [x0]=Zfr (run Tryz.prog prim lvs n) x0:=
 (Zi hp (by kernel_rfl) Tryz.func102 (by kernel_rfl)).trans (ZpP _ x0)
noncomputable def Zu.l1 (Γ : Zc) (s0 s1 s5 s6 : Value) : M Out:=
 bind (Zp s0) fun y4=>
 bind (bop .int .lss s6 y4) fun y5=>
 cnd y5
 (bind (ixa 1 s0 s6) fun y6=>
 bind (ld1 y6) fun y7=>
 bind (Z6 Γ s1 [y7]) fun y8=>
 bind (uop .not y8) fun y9=>
 jn (cnd y9
 (bind (ixa 1 s0 s5) fun y10=>
 bind (st1 y10 y7) fun _=>
 bind (bop .int .add s5 (Value.int .i64 1)) fun y11=>
 ret (.nrm [s0,s1,y11,s6]))
 (ret (.nrm [s0,s1,s5,s6]))) (c4 fun q12_0 q12_1 q12_2 q12_3=>
 bind (bop .int .add q12_3 (Value.int .i64 1)) fun y13=>
 ret (.nrm [q12_0,q12_1,q12_2,y13])) noX ZY)
 (ret (.ext 0 [s0,s5]))
noncomputable def Zu (Γ : Zc) (x0 x1 : Value) : M Value:=
 bind (Γ Qx [x0,x1]) fun y1=>
 bind (bop .int .eql y1 (Value.int .i64 (-1))) fun y2=>
 cnd y2
 (ret x0)
 (bind (bop .int .add y1 (Value.int .i64 1)) fun y3=>
 jn (Zh (c4 (Zu.l1 Γ)) [x0,x1,y1,y3]) noN (xk 0 (c2 fun q16_0 q16_1=>
 bind (slv 1 q16_0 (some q16_1) none none) fun y17=>
 bind (clr (.string ⟨#[]⟩) 1 y17) fun _=>
 bind (slv 1 q16_0 none (some q16_1) none) fun y18=>
 ret y18) noX) ret)
theorem ZcN (Γ : Zc) (x0 x1 : Value) : Zv Tryz.prog Γ Tryz.f103 WN [x0,x1]=Zu Γ x0 x1:=by kernel_rfl
theorem Ws {prim : FuncId→Option (List Value→M Value)} (hp : prim ZO=none) (n : Nat) (x0 x1 : Value) : run Tryz.prog prim lvs (n+1) ZO [x0,x1]=Zu (run Tryz.prog prim lvs n) x0 x1:=
 (Zi hp (by kernel_rfl) Tryz.func103 (by kernel_rfl)).trans (ZcN _ x0 x1)
noncomputable def Zda (Γ : Zc) (x0 : Value) : M Value:=
 bind (Qa x0) fun y1=>
 bind (fa 0 y1) fun y2=>
 bind (ld1 y2) fun y3=>
 bind (Γ Jl [y3]) fun y4=>
 bind (Γ Qn [y4,(Value.func (.func 172) #[] #[])]) fun y5=>
 ret y5
theorem Zmg (Γ : Zc) (x0 : Value) : Zv Tryz.prog Γ Tryz.f104 ZfD [x0]=Zda Γ x0:=by kernel_rfl
theorem Zku {prim : FuncId→Option (List Value→M Value)} (hp : prim W1=none) (n : Nat) (x0 : Value) : run Tryz.prog prim lvs (n+1) W1 [x0]=Zda (run Tryz.prog prim lvs n) x0:=
 (Zi hp (by kernel_rfl) Tryz.func104 (by kernel_rfl)).trans (Zmg _ x0)
noncomputable def Zc4 (Γ : Zc) (x0 x1 : Value) : M Value:=
 bind (ld1 x1) fun y1=>
 bind (Γ Ym [x0,y1]) fun y2=>
 bind (uop .not y2) fun y3=>
 ret y3
theorem ZlP (Γ : Zc) (x0 x1 : Value) : Zv Tryz.prog Γ Tryz.f105 ZfZ [x0,x1]=Zc4 Γ x0 x1:=by kernel_rfl
theorem Zk0 {prim : FuncId→Option (List Value→M Value)} (hp : prim W0=none) (n : Nat) (x0 x1 : Value) : run Tryz.prog prim lvs (n+1) W0 [x0,x1]=Zc4 (run Tryz.prog prim lvs n) x0 x1:=
 (Zi hp (by kernel_rfl) Tryz.func105 (by kernel_rfl)).trans (ZlP _ x0 x1)
noncomputable def Zbn (Γ : Zc) (x0 x1 : Value) : M Value:=
 bind (Γ Jq [x0,x1]) fun y1=>
 ret y1
theorem ZiF (Γ : Zc) (x0 x1 : Value) : Zv Tryz.prog Γ Tryz.f106 Zdy [x0,x1]=Zbn Γ x0 x1:=by kernel_rfl
theorem Zhx {prim : FuncId→Option (List Value→M Value)} (hp : prim Ym=none) (n : Nat) (x0 x1 : Value) : run Tryz.prog prim lvs (n+1) Ym [x0,x1]=Zbn (run Tryz.prog prim lvs n) x0 x1:=
 (Zi hp (by kernel_rfl) Tryz.func106 (by kernel_rfl)).trans (ZiF _ x0 x1)
noncomputable def Zc2 (Γ : Zc) (x0 : Value) : M Value:=
 bind (Qa x0) fun y1=>
 bind (fa 0 y1) fun y2=>
 bind (ld1 y2) fun y3=>
 bind (Γ Qm [y3]) fun y4=>
 bind (Γ Qn [y4,(Value.func (.func 172) #[] #[])]) fun y5=>
 ret y5
theorem Zl5 (Γ : Zc) (x0 : Value) : Zv Tryz.prog Γ Tryz.f107 ZfG [x0]=Zc2 Γ x0:=by kernel_rfl
theorem ZkN {prim : FuncId→Option (List Value→M Value)} (hp : prim KZ=none) (n : Nat) (x0 : Value) : run Tryz.prog prim lvs (n+1) KZ [x0]=Zc2 (run Tryz.prog prim lvs n) x0:=
 (Zi hp (by kernel_rfl) Tryz.func107 (by kernel_rfl)).trans (Zl5 _ x0)
noncomputable def ZcZ (Γ : Zc) (x0 x1 : Value) : M Value:=
 bind (ld1 x1) fun y1=>
 bind (Γ Ym [x0,y1]) fun y2=>
 bind (uop .not y2) fun y3=>
 ret y3
theorem Zma (Γ : Zc) (x0 x1 : Value) : Zv Tryz.prog Γ Tryz.f108 ZfC [x0,x1]=ZcZ Γ x0 x1:=by kernel_rfl
theorem ZkO {prim : FuncId→Option (List Value→M Value)} (hp : prim WU=none) (n : Nat) (x0 x1 : Value) : run Tryz.prog prim lvs (n+1) WU [x0,x1]=ZcZ (run Tryz.prog prim lvs n) x0 x1:=
 (Zi hp (by kernel_rfl) Tryz.func108 (by kernel_rfl)).trans (Zma _ x0 x1)
noncomputable def Zi3 (Γ : Zc) : M Value:=
 bind (mkm) fun y1=>
 bind (mkm) fun y2=>
 bind (bld (.agg #[.map none,.map none]) [(0,1,y1),(1,1,y2)]) fun y3=>
 bind (alc 1 y3) fun y4=>
 ret y4
theorem Zuj (Γ : Zc) : Zv Tryz.prog Γ Tryz.f109 Zmr []=Zi3 Γ :=by kernel_rfl
theorem ZsK {prim : FuncId→Option (List Value→M Value)} (hp : prim Zgl=none) (n : Nat) : run Tryz.prog prim lvs (n+1) Zgl []=Zi3 (run Tryz.prog prim lvs n) :=
 (Zi hp (by kernel_rfl) Tryz.func109 (by kernel_rfl)).trans (Zuj _ )
noncomputable def Zhg (Γ : Zc) : M Value:=
 bind (mkm) fun y1=>
 bind (bld (.agg #[.map none]) [(0,1,y1)]) fun y2=>
 bind (alc 1 y2) fun y3=>
 ret y3
theorem Zr9 (Γ : Zc) : Zv Tryz.prog Γ Tryz.f110 Zls []=Zhg Γ :=by kernel_rfl
theorem ZrM {prim : FuncId→Option (List Value→M Value)} (hp : prim Zfb=none) (n : Nat) : run Tryz.prog prim lvs (n+1) Zfb []=Zhg (run Tryz.prog prim lvs n) :=
 (Zi hp (by kernel_rfl) Tryz.func110 (by kernel_rfl)).trans (Zr9 _ )
noncomputable def Q0.l1 (Γ : Zc) (s0 s4 s11 s12 s13 : Value) : M Out:=
 bind (bop .int .lss s13 s12) fun y3=>
 cnd y3
 (bind (ixa 5 s11 s13) fun y4=>
 bind (ldA 5 y4) fun y5=>
 bind (alc 1 (.agg #[.string ⟨#[]⟩,.string ⟨#[]⟩,.string ⟨#[]⟩,.bool false,.slice none 0 0])) fun y6=>
 bind (stA 5 y6 y5) fun _=>
 bind (ldA 5 y6) fun y7=>
 bind (Γ J5 [(Value.int .i64 1),y7]) fun y8=>
 bind (bop .int .neq y8 (Value.int .i64 0)) fun y9=>
 cnd y9
 (ret (.ret (Value.tuple #[(Value.pointer none),y8])))
 (bind (bop .int .add s13 (Value.int .i64 1)) fun y10=>
 ret (.nrm [s0,s4,s11,s12,y10])))
 (ret (.ext 0 [s0,s4]))
noncomputable def Q0.l2 (Γ : Zc) (s0 s4 s23 s24 s25 : Value) : M Out:=
 bind (bop .int .lss s25 s24) fun y14=>
 cnd y14
 (bind (ixa 5 s23 s25) fun y15=>
 bind (ldA 5 y15) fun y16=>
 bind (alc 1 (.agg #[.string ⟨#[]⟩,.string ⟨#[]⟩,.string ⟨#[]⟩,.bool false,.slice none 0 0])) fun y17=>
 bind (stA 5 y17 y16) fun _=>
 bind (bop .int .gtr s25 (Value.int .i64 0)) fun y18=>
 bind (Ze y18 true (ret s0)) fun y19=>
 bind (Ze y18 true (ret s25)) fun y20=>
 bind (Ze y18 true (bop .int .sub y20 (Value.int .i64 1))) fun y21=>
 bind (Ze y18 true (ixa 5 y19 y21)) fun y22=>
 bind (Ze y18 true (fa 0 y22)) fun y23=>
 bind (Ze y18 true (ld1 y23)) fun y24=>
 bind (Ze y18 true (fa 0 y17)) fun y25=>
 bind (Ze y18 true (ld1 y25)) fun y26=>
 bind (Ze y18 true (Γ Qk [y24,y26])) fun y27=>
 bind (Ze y18 true (bop .int .geq y27 (Value.int .i64 0))) fun y28=>
 bind (pick y18 y28 (Value.bool false)) fun y29=>
 cnd y29
 (ret (.ret (Value.tuple #[(Value.pointer none),(Value.int .i64 9)])))
 (bind (Qa s4) fun y30=>
 bind (fa 0 y30) fun y31=>
 bind (ld1 y31) fun y32=>
 bind (fa 0 y17) fun y33=>
 bind (ld1 y33) fun y34=>
 bind (fa 1 y17) fun y35=>
 bind (ld1 y35) fun y36=>
 bind (mup .str y32 y34 y36) fun _=>
 bind (bop .int .add s25 (Value.int .i64 1)) fun y37=>
 ret (.nrm [s0,s4,s23,s24,y37])))
 (ret (.ext 2 [s0,s4]))
noncomputable def Q0 (Γ : Zc) (x0 : Value) : M Value:=
 bind (Γ ZaO []) fun y1=>
 bind (Zp x0) fun y2=>
 jn (Zh (c5 (Q0.l1 Γ)) [x0,y1,x0,y2,(Value.int .i64 0)]) noN (xk 0 (c2 fun q12_0 q12_1=>
 bind (Zp q12_0) fun y13=>
 jn (Zh (c5 (Q0.l2 Γ)) [q12_0,q12_1,q12_0,y13,(Value.int .i64 0)]) noN (xk 2 (c2 fun q39_0 q39_1=>
 bind (Zp q39_0) fun y40=>
 bind (bop .int .gtr y40 (Value.int .i64 12)) fun y41=>
 cnd y41
 (ret (Value.tuple #[(Value.pointer none),(Value.int .i64 7)]))
 (ret (Value.tuple #[q39_1,(Value.int .i64 0)]))) noX) ret) noX) ret
theorem ZtV (Γ : Zc) (x0 : Value) : Zv Tryz.prog Γ Tryz.f111 ZmH [x0]=Q0 Γ x0:=by kernel_rfl
theorem Zr1 {prim : FuncId→Option (List Value→M Value)} (hp : prim ZcI=none) (n : Nat) (x0 : Value) : run Tryz.prog prim lvs (n+1) ZcI [x0]=Q0 (run Tryz.prog prim lvs n) x0:=
 (Zi hp (by kernel_rfl) Tryz.func111 (by kernel_rfl)).trans (ZtV _ x0)
noncomputable def Zk6.l1 (Γ : Zc) (s2 s3 s43 s44 : Value) : M Out:=
 bind (bop .int .lss s44 s43) fun y41=>
 cnd y41
 (bind (fa 4 s2) fun y42=>
 bind (ld1 y42) fun y43=>
 bind (ixa 1 y43 s44) fun y44=>
 bind (ld1 y44) fun y45=>
 bind (fa 4 s3) fun y46=>
 bind (ld1 y46) fun y47=>
 bind (ixa 1 y47 s44) fun y48=>
 bind (ld1 y48) fun y49=>
 bind (bop .str .neq y45 y49) fun y50=>
 cnd y50
 (ret (.ret (Value.bool false)))
 (bind (bop .int .add s44 (Value.int .i64 1)) fun y51=>
 ret (.nrm [s2,s3,s43,y51])))
 (ret (.ext 0 []))
noncomputable def Zk6 (Γ : Zc) (x0 x1 : Value) : M Value:=
 bind (alc 1 x0) fun y1=>
 bind (alc 1 x1) fun y2=>
 bind (fa 0 y1) fun y3=>
 bind (ld1 y3) fun y4=>
 bind (fa 0 y2) fun y5=>
 bind (ld1 y5) fun y6=>
 bind (bop .str .neq y4 y6) fun y7=>
 bind (ZD y7 false 5 (bind (fa 1 y1) fun y8=>
 bind (ld1 y8) fun y9=>
 bind (fa 1 y2) fun y10=>
 bind (ld1 y10) fun y11=>
 bind (bop .str .neq y9 y11) fun y12=>
 ret [y8,y9,y10,y11,y12])) (c5 fun _ _ _ _ q13_4=>
 bind (pick y7 (Value.bool true) q13_4) fun y14=>
 bind (ZD y14 false 5 (bind (fa 2 y1) fun y15=>
 bind (ld1 y15) fun y16=>
 bind (fa 2 y2) fun y17=>
 bind (ld1 y17) fun y18=>
 bind (bop .str .neq y16 y18) fun y19=>
 ret [y15,y16,y17,y18,y19])) (c5 fun _ _ _ _ q20_4=>
 bind (pick y14 (Value.bool true) q20_4) fun y21=>
 bind (ZD y21 false 5 (bind (fa 3 y1) fun y22=>
 bind (ld1 y22) fun y23=>
 bind (fa 3 y2) fun y24=>
 bind (ld1 y24) fun y25=>
 bind (bop .bool .neq y23 y25) fun y26=>
 ret [y22,y23,y24,y25,y26])) (c5 fun _ _ _ _ q27_4=>
 bind (pick y21 (Value.bool true) q27_4) fun y28=>
 bind (ZD y28 false 7 (bind (fa 4 y1) fun y29=>
 bind (ld1 y29) fun y30=>
 bind (Zp y30) fun y31=>
 bind (fa 4 y2) fun y32=>
 bind (ld1 y32) fun y33=>
 bind (Zp y33) fun y34=>
 bind (bop .int .neq y31 y34) fun y35=>
 ret [y29,y30,y31,y32,y33,y34,y35])) (c7 fun _ _ _ _ _ _ q36_6=>
 bind (pick y28 (Value.bool true) q36_6) fun y37=>
 cnd y37
 (ret (Value.bool false))
 (bind (fa 4 y1) fun y38=>
 bind (ld1 y38) fun y39=>
 bind (Zp y39) fun y40=>
 jn (Zh (c4 (Zk6.l1 Γ)) [y1,y2,y40,(Value.int .i64 0)]) noN (xk 0 (c0 (ret (Value.bool true))) noX) ret)))))
noncomputable def Zad (Γ : Zc) (x0 x1 : Value) : M Value:=
 bind (alc 1 x1) fun y1=>
 bind (bop .int .neq x0 (Value.int .i64 1)) fun y2=>
 bind (ZD y2 true 2 (bind (bop .int .neq x0 (Value.int .i64 2)) fun y3=>
 ret [x0,y3])) (c2 fun _ q4_1=>
 bind (pick y2 q4_1 (Value.bool false)) fun y5=>
 cnd y5
 (ret (Value.int .i64 6))
 (bind (fa 0 y1) fun y6=>
 bind (ld1 y6) fun y7=>
 bind (fa 1 y1) fun y8=>
 bind (ld1 y8) fun y9=>
 bind (Γ QW [y7]) fun y10=>
 bind (ld1 y8) fun u_11=>same u_11 y9 <|
 bind (Γ YV [y9]) fun y12=>
 bind (bsl 1 2 (.int .i64 0) [(0,1,y10),(1,1,y12)]) fun y13=>
 bind (Γ Wf [y13]) fun y14=>
 bind (bop .int .neq y14 (Value.int .i64 0)) fun y15=>
 cnd y15
 (ret y14)
 (bind (bop .int .eql x0 (Value.int .i64 2)) fun y16=>
 cnd y16
 (bind (fa 2 y1) fun y17=>
 bind (ld1 y17) fun y18=>
 bind (fa 4 y1) fun y19=>
 bind (ld1 y19) fun y20=>
 bind (Γ Zdc [y18]) fun y21=>
 bind (ld1 y19) fun u_22=>same u_22 y20 <|
 bind (Γ Zbs [y20]) fun y23=>
 bind (bsl 1 2 (.int .i64 0) [(0,1,y21),(1,1,y23)]) fun y24=>
 bind (Γ Wf [y24]) fun y25=>
 ret y25)
 (bind (fa 2 y1) fun y26=>
 bind (ld1 y26) fun y27=>
 bind (bop .str .neq y27 (Value.string ⟨#[]⟩)) fun y28=>
 bind (ZD y28 false 2 (bind (fa 3 y1) fun y29=>
 bind (ld1 y29) fun y30=>
 ret [y29,y30])) (c2 fun _ q31_1=>
 bind (pick y28 (Value.bool true) q31_1) fun y32=>
 bind (ZD y32 false 4 (bind (fa 4 y1) fun y33=>
 bind (ld1 y33) fun y34=>
 bind (Zp y34) fun y35=>
 bind (bop .int .gtr y35 (Value.int .i64 0)) fun y36=>
 ret [y33,y34,y35,y36])) (c4 fun _ _ _ q37_3=>
 bind (pick y32 (Value.bool true) q37_3) fun y38=>
 cnd y38
 (ret (Value.int .i64 12))
 (ret (Value.int .i64 0))))))))
theorem Zra (Γ : Zc) (x0 x1 : Value) : Zv Tryz.prog Γ Tryz.f113 Zj3 [x0,x1]=Zad Γ x0 x1:=by kernel_rfl
theorem Zie {prim : FuncId→Option (List Value→M Value)} (hp : prim J5=none) (n : Nat) (x0 x1 : Value) : run Tryz.prog prim lvs (n+1) J5 [x0,x1]=Zad (run Tryz.prog prim lvs n) x0 x1:=
 (Zi hp (by kernel_rfl) Tryz.func113 (by kernel_rfl)).trans (Zra _ x0 x1)
noncomputable def KP.l1 (Γ : Zc) (s0 s1 s5 : Value) : M Out:=
 bind (Zp s0) fun y1=>
 bind (bop .int .lss s5 y1) fun y2=>
 cnd y2
 (bind (bop .int .sub s5 (Value.int .i64 1)) fun y3=>
 bind (ixa 1 s0 y3) fun y4=>
 bind (ld1 y4) fun y5=>
 bind (ixa 1 s0 s5) fun y6=>
 bind (ld1 y6) fun y7=>
 bind (Γ Qk [y5,y7]) fun y8=>
 bind (bop .int .geq y8 (Value.int .i64 0)) fun y9=>
 cnd y9
 (ret (.ret (Value.int .i64 9)))
 (bind (bop .int .add s5 (Value.int .i64 1)) fun y10=>
 ret (.nrm [s0,s1,y10])))
 (ret (.ext 0 [s0,s1]))
noncomputable def KP (Γ : Zc) (x0 x1 : Value) : M Value:=
 jn (Zh (c3 (KP.l1 Γ)) [x0,x1,(Value.int .i64 1)]) noN (xk 0 (c2 fun q12_0 q12_1=>
 bind (Zp q12_0) fun y13=>
 bind (bop .int .gtr y13 q12_1) fun y14=>
 cnd y14
 (ret (Value.int .i64 7))
 (ret (Value.int .i64 0))) noX) ret
theorem ZqJ (Γ : Zc) (x0 x1 : Value) : Zv Tryz.prog Γ Tryz.f114 ZiO [x0,x1]=KP Γ x0 x1:=by kernel_rfl
theorem ZpT {prim : FuncId→Option (List Value→M Value)} (hp : prim Ki=none) (n : Nat) (x0 x1 : Value) : run Tryz.prog prim lvs (n+1) Ki [x0,x1]=KP (run Tryz.prog prim lvs n) x0 x1:=
 (Zi hp (by kernel_rfl) Tryz.func114 (by kernel_rfl)).trans (ZqJ _ x0 x1)
noncomputable def Zhp (Γ : Zc) (x0 : Value) : M Value:=
 bind (Γ Ww [x0]) fun y1=>
 bind (uop .not y1) fun y2=>
 cnd y2
 (ret (Value.int .i64 10))
 (ret (Value.int .i64 0))
theorem ZsO (Γ : Zc) (x0 : Value) : Zv Tryz.prog Γ Tryz.f115 Zlr [x0]=Zhp Γ x0:=by kernel_rfl
theorem Zrc {prim : FuncId→Option (List Value→M Value)} (hp : prim QW=none) (n : Nat) (x0 : Value) : run Tryz.prog prim lvs (n+1) QW [x0]=Zhp (run Tryz.prog prim lvs n) x0:=
 (Zi hp (by kernel_rfl) Tryz.func115 (by kernel_rfl)).trans (ZsO _ x0)
noncomputable def ZbV (Γ : Zc) (x0 x1 x2 : Value) : M Value:=
 bind (bsl 1 1 (.string ⟨#[]⟩) [(0,1,x1)]) fun y1=>
 bind (app 1 16 y1 x2) fun y2=>
 bind (Γ Zaz [y2]) fun y3=>
 bind (bop .int .neq y3 (Value.int .i64 0)) fun y4=>
 cnd y4
 (ret (Value.tuple #[(Value.map none),y3]))
 (bind (Qa x0) fun y5=>
 bind (fa 0 y5) fun y6=>
 bind (ld1 y6) fun y7=>
 bind (lkp .str (.map none) true y7 x1) fun y8=>
 bind (Zq y8 0) fun y9=>
 bind (Zq y8 1) fun y10=>
 bind (uop .not y10) fun y11=>
 cnd y11
 (ret (Value.tuple #[(Value.map none),(Value.int .i64 8)]))
 (ret (Value.tuple #[y9,(Value.int .i64 0)])))
theorem Zj9 (Γ : Zc) (x0 x1 x2 : Value) : Zv Tryz.prog Γ Tryz.f116 Zeu [x0,x1,x2]=ZbV Γ x0 x1 x2:=by kernel_rfl
theorem ZiC {prim : FuncId→Option (List Value→M Value)} (hp : prim YG=none) (n : Nat) (x0 x1 x2 : Value) : run Tryz.prog prim lvs (n+1) YG [x0,x1,x2]=ZbV (run Tryz.prog prim lvs n) x0 x1 x2:=
 (Zi hp (by kernel_rfl) Tryz.func116 (by kernel_rfl)).trans (Zj9 _ x0 x1 x2)
noncomputable def WZ (Γ : Zc) (x0 x1 : Value) : M Value:=
 bind (Qa x0) fun y1=>
 bind (fa 1 y1) fun y2=>
 bind (ld1 y2) fun y3=>
 bind (lkp .str (.string ⟨#[]⟩) true y3 x1) fun y4=>
 bind (Zq y4 0) fun y5=>
 bind (Zq y4 1) fun y6=>
 jn (cnd y6
 (bind (Qa x0) fun y7=>
 bind (fa 0 y7) fun y8=>
 bind (ld1 y8) fun y9=>
 bind (mde .str y9 y5) fun _=>
 bind (Qa x0) fun y10=>
 bind (fa 1 y10) fun y11=>
 bind (ld1 y11) fun y12=>
 bind (mde .str y12 x1) fun _=>
 ret (.nrm [y6]))
 (ret (.nrm [y6]))) (c1 fun q13_0=>
 ret q13_0) noX ret
theorem ZlV (Γ : Zc) (x0 x1 : Value) : Zv Tryz.prog Γ Tryz.f117 ZfF [x0,x1]=WZ Γ x0 x1:=by kernel_rfl
theorem ZkI {prim : FuncId→Option (List Value→M Value)} (hp : prim JP=none) (n : Nat) (x0 x1 : Value) : run Tryz.prog prim lvs (n+1) JP [x0,x1]=WZ (run Tryz.prog prim lvs n) x0 x1:=
 (Zi hp (by kernel_rfl) Tryz.func117 (by kernel_rfl)).trans (ZlV _ x0 x1)
noncomputable def YT.l1 (Γ : Zc) (s0 s35 s36 s37 : Value) : M Out:=
 bind (bop .int .lss s37 s36) fun y19=>
 cnd y19
 (bind (ixa 1 s35 s37) fun y20=>
 bind (ld1 y20) fun y21=>
 bind (bop .str .eql y21 (Value.string ⟨#[]⟩)) fun y22=>
 bind (ZD y22 false 3 (bind (Γ YK [y21,(Value.func (.func 183) #[] #[])]) fun y23=>
 bind (uop .not y23) fun y24=>
 ret [y21,y23,y24])) (c3 fun _ _ q25_2=>
 bind (pick y22 (Value.bool true) q25_2) fun y26=>
 cnd y26
 (ret (.ret (Value.tuple #[(Value.string ⟨#[]⟩),(Value.int .i64 11)])))
 (bind (bop .int .add s37 (Value.int .i64 1)) fun y27=>
 ret (.nrm [s0,s35,s36,y27]))))
 (ret (.ext 0 [s0]))
noncomputable def YT (Γ : Zc) (x0 : Value) : M Value:=
 bind (QX x0) fun y1=>
 bind (bop .int .gtr y1 (Value.int .i64 20)) fun y2=>
 cnd y2
 (ret (Value.tuple #[(Value.string ⟨#[]⟩),(Value.int .i64 11)]))
 (bind (Γ Zdk [x0]) fun y3=>
 bind (Γ WC [y3,(Value.string ⟨#[64]⟩)]) fun y4=>
 bind (Zq y4 0) fun y5=>
 bind (Zq y4 1) fun y6=>
 bind (Zq y4 2) fun y7=>
 bind (Γ Zas [y6,(Value.string ⟨#[46]⟩)]) fun y8=>
 bind (uop .not y7) fun y9=>
 bind (ZD y9 false 3 (bind (Γ Ww [y5]) fun y10=>
 bind (uop .not y10) fun y11=>
 ret [y5,y10,y11])) (c3 fun _ _ q12_2=>
 bind (pick y9 (Value.bool true) q12_2) fun y13=>
 bind (ZD y13 false 3 (bind (Zp y8) fun y14=>
 bind (bop .int .lss y14 (Value.int .i64 2)) fun y15=>
 ret [y8,y14,y15])) (c3 fun _ _ q16_2=>
 bind (pick y13 (Value.bool true) q16_2) fun y17=>
 cnd y17
 (ret (Value.tuple #[(Value.string ⟨#[]⟩),(Value.int .i64 11)]))
 (bind (Zp y8) fun y18=>
 jn (Zh (c4 (YT.l1 Γ)) [y3,y8,y18,(Value.int .i64 0)]) noN (xk 0 (c1 fun q29_0=>
 ret (Value.tuple #[q29_0,(Value.int .i64 0)])) noX) ret))))
theorem Zsb (Γ : Zc) (x0 : Value) : Zv Tryz.prog Γ Tryz.f118 Zly [x0]=YT Γ x0:=by kernel_rfl
theorem Zrm {prim : FuncId→Option (List Value→M Value)} (hp : prim ZbD=none) (n : Nat) (x0 : Value) : run Tryz.prog prim lvs (n+1) ZbD [x0]=YT (run Tryz.prog prim lvs n) x0:=
 (Zi hp (by kernel_rfl) Tryz.func118 (by kernel_rfl)).trans (Zsb _ x0)
noncomputable def JW.l1 (Γ : Zc) (s0 s1 s7 s8 : Value) : M Out:=
 bind (bop .int .lss s8 s7) fun y1=>
 cnd y1
 (bind (Qa s0) fun y2=>
 bind (fa 0 y2) fun y3=>
 bind (ld1 y3) fun y4=>
 bind (cvi .u8 s1) fun y5=>
 bind (bsl 1 1 (.int .u8 0) [(0,1,y5)]) fun y6=>
 bind (app 1 1 y4 y6) fun y7=>
 bind (Qa s0) fun y8=>
 bind (fa 0 y8) fun y9=>
 bind (st1 y9 y7) fun _=>
 bind (bop .int .shr s1 (Value.int .u64 8)) fun y10=>
 bind (bop .int .add s8 (Value.int .i64 1)) fun y11=>
 ret (.nrm [s0,y10,s7,y11]))
 (ret (.ext 0 [s0]))
noncomputable def JW (Γ : Zc) (x0 x1 x2 : Value) : M Value:=
 jn (Zh (c4 (JW.l1 Γ)) [x0,x1,x2,(Value.int .i64 0)]) noN (xk 0 (c1 fun q13_0=>
 ret q13_0) noX) ret
theorem Zky (Γ : Zc) (x0 x1 x2 : Value) : Zv Tryz.prog Γ Tryz.f119 ZeZ [x0,x1,x2]=JW Γ x0 x1 x2:=by kernel_rfl
theorem Zjr {prim : FuncId→Option (List Value→M Value)} (hp : prim Y7=none) (n : Nat) (x0 x1 x2 : Value) : run Tryz.prog prim lvs (n+1) Y7 [x0,x1,x2]=JW (run Tryz.prog prim lvs n) x0 x1 x2:=
 (Zi hp (by kernel_rfl) Tryz.func119 (by kernel_rfl)).trans (Zky _ x0 x1 x2)
noncomputable def ZbT (Γ : Zc) (x0 x1 : Value) : M Value:=
 bind (QX x1) fun y1=>
 bind (mxi false y1 (Value.int .i64 65535)) fun y2=>
 bind (sls x1 none (some y2)) fun y3=>
 bind (QX y3) fun y4=>
 bind (cvi .u16 y4) fun y5=>
 bind (Γ Ju [x0,y5]) fun y6=>
 bind (Qa x0) fun y7=>
 bind (fa 0 y7) fun y8=>
 bind (ld1 y8) fun y9=>
 bind (app 1 1 y9 y3) fun y10=>
 bind (Qa x0) fun y11=>
 bind (fa 0 y11) fun y12=>
 bind (st1 y12 y10) fun _=>
 ret x0
theorem ZiP (Γ : Zc) (x0 x1 : Value) : Zv Tryz.prog Γ Tryz.f120 Zeq [x0,x1]=ZbT Γ x0 x1:=by kernel_rfl
theorem ZiD {prim : FuncId→Option (List Value→M Value)} (hp : prim QE=none) (n : Nat) (x0 x1 : Value) : run Tryz.prog prim lvs (n+1) QE [x0,x1]=ZbT (run Tryz.prog prim lvs n) x0 x1:=
 (Zi hp (by kernel_rfl) Tryz.func120 (by kernel_rfl)).trans (ZiP _ x0 x1)
noncomputable def Zcz (Γ : Zc) (x0 : Value) : M Value:=
 bind (Qa x0) fun y1=>
 bind (fa 0 y1) fun y2=>
 bind (ld1 y2) fun y3=>
 bind (Γ KY [y3]) fun y4=>
 ret y4
theorem ZkF (Γ : Zc) (x0 : Value) : Zv Tryz.prog Γ Tryz.f121 ZeQ [x0]=Zcz Γ x0:=by kernel_rfl
theorem Zju {prim : FuncId→Option (List Value→M Value)} (hp : prim Y5=none) (n : Nat) (x0 : Value) : run Tryz.prog prim lvs (n+1) Y5 [x0]=Zcz (run Tryz.prog prim lvs n) x0:=
 (Zi hp (by kernel_rfl) Tryz.func121 (by kernel_rfl)).trans (ZkF _ x0)
noncomputable def Zbk (Γ : Zc) (x0 x1 : Value) : M Value:=
 cnd x1
 (bind (Γ QR [x0,(Value.int .u8 1)]) fun y1=>
 ret y1)
 (bind (Γ QR [x0,(Value.int .u8 0)]) fun y2=>
 ret y2)
theorem Ziw (Γ : Zc) (x0 x1 : Value) : Zv Tryz.prog Γ Tryz.f122 Zdw [x0,x1]=Zbk Γ x0 x1:=by kernel_rfl
theorem Zho {prim : FuncId→Option (List Value→M Value)} (hp : prim KS=none) (n : Nat) (x0 x1 : Value) : run Tryz.prog prim lvs (n+1) KS [x0,x1]=Zbk (run Tryz.prog prim lvs n) x0 x1:=
 (Zi hp (by kernel_rfl) Tryz.func122 (by kernel_rfl)).trans (Ziw _ x0 x1)
noncomputable def JY.l1 (Γ : Zc) (s5 s10 s11 s12 : Value) : M Out:=
 bind (bop .int .lss s12 s11) fun y3=>
 cnd y3
 (bind (ixa 1 s10 s12) fun y4=>
 bind (ld1 y4) fun y5=>
 bind (cvi .u64 y5) fun y6=>
 bind (bop .int .mul (Value.int .i64 8) s12) fun y7=>
 bind (bop .int .shl y6 y7) fun y8=>
 bind (bop .int .or s5 y8) fun y9=>
 bind (bop .int .add s12 (Value.int .i64 1)) fun y10=>
 ret (.nrm [y9,s10,s11,y10]))
 (ret (.ext 0 [s5]))
noncomputable def JY (Γ : Zc) (x0 x1 : Value) : M Value:=
 bind (Γ YA [x0,x1]) fun y1=>
 bind (Zp y1) fun y2=>
 jn (Zh (c4 (JY.l1 Γ)) [(Value.int .u64 0),y1,y2,(Value.int .i64 0)]) noN (xk 0 (c1 fun q12_0=>
 ret q12_0) noX) ret
theorem ZkD (Γ : Zc) (x0 x1 : Value) : Zv Tryz.prog Γ Tryz.f123 ZeL [x0,x1]=JY Γ x0 x1:=by kernel_rfl
theorem Zj6 {prim : FuncId→Option (List Value→M Value)} (hp : prim Y4=none) (n : Nat) (x0 x1 : Value) : run Tryz.prog prim lvs (n+1) Y4 [x0,x1]=JY (run Tryz.prog prim lvs n) x0 x1:=
 (Zi hp (by kernel_rfl) Tryz.func123 (by kernel_rfl)).trans (ZkD _ x0 x1)
noncomputable def KW (Γ : Zc) (x0 x1 : Value) : M Value:=
 bind (Γ Yl [x0]) fun y1=>
 bind (cvi .i64 y1) fun y2=>
 bind (mxi true (Value.int .i64 0) x1) fun y3=>
 bind (bop .int .gtr y2 y3) fun y4=>
 cnd y4
 (bind (Γ ZX [x0,(Value.int .i64 3)]) fun y5=>
 ret (Value.int .i64 0))
 (ret y2)
theorem Zip (Γ : Zc) (x0 x1 : Value) : Zv Tryz.prog Γ Tryz.f124 Zdz [x0,x1]=KW Γ x0 x1:=by kernel_rfl
theorem ZhZ {prim : FuncId→Option (List Value→M Value)} (hp : prim Ke=none) (n : Nat) (x0 x1 : Value) : run Tryz.prog prim lvs (n+1) Ke [x0,x1]=KW (run Tryz.prog prim lvs n) x0 x1:=
 (Zi hp (by kernel_rfl) Tryz.func124 (by kernel_rfl)).trans (Zip _ x0 x1)
noncomputable def ZbP (Γ : Zc) (x0 x1 : Value) : M Value:=
 bind (Γ Ke [x0,x1]) fun y1=>
 bind (Γ YA [x0,y1]) fun y2=>
 bind (b2s y2) fun y3=>
 ret y3
theorem ZjJ (Γ : Zc) (x0 x1 : Value) : Zv Tryz.prog Γ Tryz.f125 Zea [x0,x1]=ZbP Γ x0 x1:=by kernel_rfl
theorem Ziu {prim : FuncId→Option (List Value→M Value)} (hp : prim JE=none) (n : Nat) (x0 x1 : Value) : run Tryz.prog prim lvs (n+1) JE [x0,x1]=ZbP (run Tryz.prog prim lvs n) x0 x1:=
 (Zi hp (by kernel_rfl) Tryz.func125 (by kernel_rfl)).trans (ZjJ _ x0 x1)
noncomputable def Zjs.l1 (Γ : Zc) (s0 s3 s4 : Value) : M Out:=
 bind (bop .int .geq s4 (Value.int .i64 0)) fun y3=>
 cnd y3
 (bind (bop .int .mul s3 (Value.int .u64 256)) fun y4=>
 bind (ixs s0 s4) fun y5=>
 bind (cvi .u64 y5) fun y6=>
 bind (bop .int .add y4 y6) fun y7=>
 bind (bop .int .sub s4 (Value.int .i64 1)) fun y8=>
 ret (.nrm [s0,y7,y8]))
 (ret (.ext 0 [s3]))
noncomputable def Zjs (Γ : Zc) (x0 : Value) : M Value:=
 bind (QX x0) fun y1=>
 bind (bop .int .sub y1 (Value.int .i64 1)) fun y2=>
 jn (Zh (c3 (Zjs.l1 Γ)) [x0,(Value.int .u64 0),y2]) noN (xk 0 (c1 fun q10_0=>
 ret q10_0) noX) ret
noncomputable def ZcX.l1 (Γ : Zc) (s3 s62 s63 s64 : Value) : M Out:=
 bind (bop .int .lss s64 s63) fun y50=>
 cnd y50
 (bind (ixa 1 s62 s64) fun y51=>
 bind (ld1 y51) fun y52=>
 bind (Γ Zb1 [y52]) fun y53=>
 bind (uop .not y53) fun y54=>
 cnd y54
 (ret (.ret (Value.int .i64 10)))
 (bind (bop .int .add s64 (Value.int .i64 1)) fun y55=>
 ret (.nrm [s3,s62,s63,y55])))
 (ret (.ext 0 [s3]))
noncomputable def ZcX.l2 (Γ : Zc) (s3 s73 s74 s75 : Value) : M Out:=
 bind (bop .int .lss s75 s74) fun y61=>
 cnd y61
 (bind (ixa 1 s73 s75) fun y62=>
 bind (ld1 y62) fun y63=>
 bind (bop .int .gtr s75 (Value.int .i64 0)) fun y64=>
 bind (ZD y64 true 8 (bind (fa 4 s3) fun y65=>
 bind (ld1 y65) fun y66=>
 bind (bop .int .sub s75 (Value.int .i64 1)) fun y67=>
 bind (ixa 1 y66 y67) fun y68=>
 bind (ld1 y68) fun y69=>
 bind (bop .str .leq y63 y69) fun y70=>
 ret [y63,y65,y66,s75,y67,y68,y69,y70])) (c8 fun _ _ _ _ _ _ _ q71_7=>
 bind (pick y64 q71_7 (Value.bool false)) fun y72=>
 cnd y72
 (ret (.ret (Value.int .i64 9)))
 (bind (bop .int .add s75 (Value.int .i64 1)) fun y73=>
 ret (.nrm [s3,s73,s74,y73]))))
 (ret (.ext 2 []))
noncomputable def ZcX (Γ : Zc) (x0 x1 : Value) : M Value:=
 bind (alc 1 x1) fun y1=>
 bind (bop .int .lss x0 (Value.int .i64 1)) fun y2=>
 bind (ZD y2 false 2 (bind (bop .int .gtr x0 (Value.int .i64 2)) fun y3=>
 ret [x0,y3])) (c2 fun _ q4_1=>
 bind (pick y2 (Value.bool true) q4_1) fun y5=>
 cnd y5
 (ret (Value.int .i64 6))
 (bind (fa 0 y1) fun y6=>
 bind (ld1 y6) fun y7=>
 bind (Γ Zb1 [y7]) fun y8=>
 bind (uop .not y8) fun y9=>
 cnd y9
 (ret (Value.int .i64 10))
 (bind (fa 1 y1) fun y10=>
 bind (ld1 y10) fun y11=>
 bind (Γ Zsk [y11]) fun y12=>
 bind (uop .not y12) fun y13=>
 cnd y13
 (ret (Value.int .i64 4))
 (bind (bop .int .eql x0 (Value.int .i64 1)) fun y14=>
 cnd y14
 (bind (fa 2 y1) fun y15=>
 bind (ld1 y15) fun y16=>
 bind (bop .str .neq y16 (Value.string ⟨#[]⟩)) fun y17=>
 bind (ZD y17 false 2 (bind (fa 3 y1) fun y18=>
 bind (ld1 y18) fun y19=>
 ret [y18,y19])) (c2 fun _ q20_1=>
 bind (pick y17 (Value.bool true) q20_1) fun y21=>
 bind (ZD y21 false 4 (bind (fa 4 y1) fun y22=>
 bind (ld1 y22) fun y23=>
 bind (Zp y23) fun y24=>
 bind (bop .int .gtr y24 (Value.int .i64 0)) fun y25=>
 ret [y22,y23,y24,y25])) (c4 fun _ _ _ q26_3=>
 bind (pick y21 (Value.bool true) q26_3) fun y27=>
 cnd y27
 (ret (Value.int .i64 12))
 (ret (Value.int .i64 0)))))
 (bind (fa 2 y1) fun y28=>
 bind (ld1 y28) fun y29=>
 bind (bop .str .neq y29 (Value.string ⟨#[]⟩)) fun y30=>
 jn (cnd y30
 (bind (fa 2 y1) fun y31=>
 bind (ld1 y31) fun y32=>
 bind (Γ Zlw [y32]) fun y33=>
 bind (Zq y33 0) fun y34=>
 bind (Zq y33 1) fun y35=>
 bind (uop .not y35) fun y36=>
 bind (ZD y36 false 4 (bind (fa 2 y1) fun y37=>
 bind (ld1 y37) fun y38=>
 bind (bop .str .neq y34 y38) fun y39=>
 ret [y34,y37,y38,y39])) (c4 fun _ _ _ q40_3=>
 bind (pick y36 (Value.bool true) q40_3) fun y41=>
 cnd y41
 (ret (.ret (Value.int .i64 11)))
 (ret (.nrm [y1]))))
 (ret (.nrm [y1]))) (c1 fun q42_0=>
 bind (fa 4 q42_0) fun y43=>
 bind (ld1 y43) fun y44=>
 bind (Zp y44) fun y45=>
 bind (bop .int .gtr y45 (Value.int .i64 6)) fun y46=>
 cnd y46
 (ret (Value.int .i64 7))
 (bind (fa 4 q42_0) fun y47=>
 bind (ld1 y47) fun y48=>
 bind (Zp y48) fun y49=>
 jn (Zh (c4 (ZcX.l1 Γ)) [q42_0,y48,y49,(Value.int .i64 0)]) noN (xk 0 (c1 fun q57_0=>
 bind (fa 4 q57_0) fun y58=>
 bind (ld1 y58) fun y59=>
 bind (Zp y59) fun y60=>
 jn (Zh (c4 (ZcX.l2 Γ)) [q57_0,y59,y60,(Value.int .i64 0)]) noN (xk 2 (c0 (ret (Value.int .i64 0))) noX) ret) noX) ret)) noX ret)))))
noncomputable def Zgj.l1 (Γ : Zc) (s0 s1 s10 s11 s12 : Value) : M Out:=
 bind (bop .int .lss s12 s11) fun y2=>
 cnd y2
 (bind (ixa 5 s10 s12) fun y3=>
 bind (ldA 5 y3) fun y4=>
 bind (alc 1 (.agg #[.string ⟨#[]⟩,.string ⟨#[]⟩,.string ⟨#[]⟩,.bool false,.slice none 0 0])) fun y5=>
 bind (stA 5 y5 y4) fun _=>
 bind (ldA 5 y5) fun y6=>
 bind (Γ Zrx [s1,y6]) fun y7=>
 bind (bop .int .neq y7 (Value.int .i64 0)) fun y8=>
 cnd y8
 (ret (.ret y7))
 (bind (bop .int .add s12 (Value.int .i64 1)) fun y9=>
 ret (.nrm [s0,s1,s10,s11,y9])))
 (ret (.ext 0 [s0]))
noncomputable def Zgj.l2 (Γ : Zc) (s0 s23 s24 s25 : Value) : M Out:=
 bind (bop .int .lss s25 s24) fun y13=>
 cnd y13
 (bind (ixa 5 s23 s25) fun y14=>
 bind (ldA 5 y14) fun y15=>
 bind (alc 1 (.agg #[.string ⟨#[]⟩,.string ⟨#[]⟩,.string ⟨#[]⟩,.bool false,.slice none 0 0])) fun y16=>
 bind (stA 5 y16 y15) fun _=>
 bind (bop .int .gtr s25 (Value.int .i64 0)) fun y17=>
 bind (Ze y17 true (ret s0)) fun y18=>
 bind (Ze y17 true (ret s25)) fun y19=>
 bind (Ze y17 true (bop .int .sub y19 (Value.int .i64 1))) fun y20=>
 bind (Ze y17 true (ixa 5 y18 y20)) fun y21=>
 bind (Ze y17 true (fa 0 y21)) fun y22=>
 bind (Ze y17 true (ld1 y22)) fun y23=>
 bind (Ze y17 true (fa 0 y16)) fun y24=>
 bind (Ze y17 true (ld1 y24)) fun y25=>
 bind (Ze y17 true (bop .str .geq y23 y25)) fun y26=>
 bind (pick y17 y26 (Value.bool false)) fun y27=>
 cnd y27
 (ret (.ret (Value.int .i64 9)))
 (bind (bop .int .add s25 (Value.int .i64 1)) fun y28=>
 ret (.nrm [s0,s23,s24,y28])))
 (ret (.ext 2 [s0]))
noncomputable def Zgj (Γ : Zc) (x0 x1 : Value) : M Value:=
 bind (Zp x0) fun y1=>
 jn (Zh (c5 (Zgj.l1 Γ)) [x0,x1,x0,y1,(Value.int .i64 0)]) noN (xk 0 (c1 fun q11_0=>
 bind (Zp q11_0) fun y12=>
 jn (Zh (c4 (Zgj.l2 Γ)) [q11_0,q11_0,y12,(Value.int .i64 0)]) noN (xk 2 (c1 fun q30_0=>
 bind (Zp q30_0) fun y31=>
 bind (bop .int .gtr y31 (Value.int .i64 12)) fun y32=>
 cnd y32
 (ret (Value.int .i64 7))
 (ret (Value.int .i64 0))) noX) ret) noX) ret
noncomputable def Zmn.l1 (Γ : Zc) (s1 s7 s8 s9 : Value) : M Out:=
 bind (bop .int .lss s9 s8) fun y2=>
 cnd y2
 (bind (ixa 1 s7 s9) fun y3=>
 bind (ld1 y3) fun y4=>
 bind (bop .str .eql y4 s1) fun y5=>
 cnd y5
 (ret (.ret (Value.bool true)))
 (bind (bop .int .add s9 (Value.int .i64 1)) fun y6=>
 ret (.nrm [s1,s7,s8,y6])))
 (ret (.ext 0 []))
noncomputable def Zmn (Γ : Zc) (x0 x1 : Value) : M Value:=
 bind (Zp x0) fun y1=>
 jn (Zh (c4 (Zmn.l1 Γ)) [x1,x0,y1,(Value.int .i64 0)]) noN (xk 0 (c0 (ret (Value.bool false))) noX) ret
noncomputable def Zhm (Γ : Zc) (x0 : Value) : M Value:=
 bind (bop .str .eql x0 (Value.string ⟨#[]⟩)) fun y1=>
 bind (ZD y1 false 3 (bind (QX x0) fun y2=>
 bind (bop .int .gtr y2 (Value.int .i64 12)) fun y3=>
 ret [x0,y2,y3])) (c3 fun _ _ q4_2=>
 bind (pick y1 (Value.bool true) q4_2) fun y5=>
 bind (ZD y5 false 4 (bind (Γ YK [x0,(Value.func (.func 191) #[] #[])]) fun y6=>
 bind (uop .not y6) fun y7=>
 ret [x0,(Value.func (.func 191) #[] #[]),y6,y7])) (c4 fun _ _ _ q8_3=>
 bind (pick y5 (Value.bool true) q8_3) fun y9=>
 cnd y9
 (ret (Value.int .i64 4))
 (ret (Value.int .i64 0))))
theorem Zsm (Γ : Zc) (x0 : Value) : Zv Tryz.prog Γ Tryz.f137 Zlo [x0]=Zhm Γ x0:=by kernel_rfl
theorem ZrN {prim : FuncId→Option (List Value→M Value)} (hp : prim YV=none) (n : Nat) (x0 : Value) : run Tryz.prog prim lvs (n+1) YV [x0]=Zhm (run Tryz.prog prim lvs n) x0:=
 (Zi hp (by kernel_rfl) Tryz.func137 (by kernel_rfl)).trans (Zsm _ x0)
noncomputable def JC.l1 (Γ : Zc) (s0 s1 s5 s11 s12 s13 : Value) : M Out:=
 bind (bop .int .lss s13 s12) fun y3=>
 cnd y3
 (bind (ixa 1 s11 s13) fun y4=>
 bind (ld1 y4) fun y5=>
 bind (Qa s0) fun y6=>
 bind (fa 0 y6) fun y7=>
 bind (ld1 y7) fun y8=>
 bind (lkp .str (.map none) false y8 y5) fun y9=>
 bind (mde .str y9 s1) fun _=>
 bind (bop .int .add s13 (Value.int .i64 1)) fun y10=>
 ret (.nrm [s0,s1,s5,s11,s12,y10]))
 (ret (.ext 0 [s5]))
noncomputable def JC (Γ : Zc) (x0 x1 : Value) : M Value:=
 bind (Γ J8 [x0,x1]) fun y1=>
 bind (Zp y1) fun y2=>
 jn (Zh (c6 (JC.l1 Γ)) [x0,x1,y1,y1,y2,(Value.int .i64 0)]) noN (xk 0 (c1 fun q12_0=>
 bind (Zp q12_0) fun y13=>
 ret y13) noX) ret
theorem Zhj (Γ : Zc) (x0 x1 : Value) : Zv Tryz.prog Γ Tryz.f139 Zc6 [x0,x1]=JC Γ x0 x1:=by kernel_rfl
theorem ZgW {prim : FuncId→Option (List Value→M Value)} (hp : prim KH=none) (n : Nat) (x0 x1 : Value) : run Tryz.prog prim lvs (n+1) KH [x0,x1]=JC (run Tryz.prog prim lvs n) x0 x1:=
 (Zi hp (by kernel_rfl) Tryz.func139 (by kernel_rfl)).trans (Zhj _ x0 x1)
noncomputable def ZdZ.l1 (Γ : Zc) (s0 s4 : Value) : M Out:=
 bind (QX s0) fun y4=>
 bind (bop .int .lss s4 y4) fun y5=>
 bind (ZD y5 true 4 (bind (ixs s0 s4) fun y6=>
 bind (bop .int .neq y6 (Value.int .u8 64)) fun y7=>
 ret [s0,s4,y6,y7])) (c4 fun _ _ _ q8_3=>
 bind (pick y5 q8_3 (Value.bool false)) fun y9=>
 cnd y9
 (bind (bop .int .add s4 (Value.int .i64 1)) fun y10=>
 ret (.nrm [s0,y10]))
 (ret (.ext 0 [s0,s4])))
noncomputable def ZdZ.l2 (Γ : Zc) (s0 s5 s6 s7 : Value) : M Out:=
 bind (QX s0) fun y21=>
 bind (bop .int .lss s7 y21) fun y22=>
 cnd y22
 (bind (ixs s0 s7) fun y23=>
 bind (bop .int .eql y23 (Value.int .u8 46)) fun y24=>
 jn (cnd y24
 (bind (bop .int .eql s6 (Value.int .i64 0)) fun y25=>
 cnd y25
 (ret (.ret (Value.tuple #[(Value.string ⟨#[]⟩),(Value.bool false)])))
 (bind (bop .int .add s5 (Value.int .i64 1)) fun y26=>
 ret (.nrm [s0,y26,(Value.int .i64 0),s7])))
 (bind (ixs s0 s7) fun y27=>
 bind (Γ Zpk [y27,(Value.string ⟨#[97,98,99,100,101,102,103,104,105,106,107,108,109,110,111,112,113,114,115,116,117,118,119,120,121,122,48,49,50,51,52,53,54,55,56,57]⟩)]) fun y28=>
 bind (uop .not y28) fun y29=>
 cnd y29
 (ret (.ret (Value.tuple #[(Value.string ⟨#[]⟩),(Value.bool false)])))
 (bind (bop .int .add s6 (Value.int .i64 1)) fun y30=>
 ret (.nrm [s0,s5,y30,s7])))) (c4 fun q31_0 q31_1 q31_2 q31_3=>
 bind (bop .int .add q31_3 (Value.int .i64 1)) fun y32=>
 ret (.nrm [q31_0,q31_1,q31_2,y32])) noX ZY)
 (ret (.ext 2 [s0,s5,s6]))
noncomputable def ZdZ (Γ : Zc) (x0 : Value) : M Value:=
 bind (QX x0) fun y1=>
 bind (bop .int .gtr y1 (Value.int .i64 20)) fun y2=>
 cnd y2
 (ret (Value.tuple #[(Value.string ⟨#[]⟩),(Value.bool false)]))
 (bind (Γ Zr0 [x0]) fun y3=>
 jn (Zh (c2 (ZdZ.l1 Γ)) [y3,(Value.int .i64 0)]) noN (xk 0 (c2 fun q12_0 q12_1=>
 bind (QX q12_0) fun y13=>
 bind (bop .int .eql q12_1 y13) fun y14=>
 bind (ZD y14 false 5 (bind (sls q12_0 none (some q12_1)) fun y15=>
 bind (Γ Zb1 [y15]) fun y16=>
 bind (uop .not y16) fun y17=>
 ret [q12_0,q12_1,y15,y16,y17])) (c5 fun _ _ _ _ q18_4=>
 bind (pick y14 (Value.bool true) q18_4) fun y19=>
 cnd y19
 (ret (Value.tuple #[(Value.string ⟨#[]⟩),(Value.bool false)]))
 (bind (bop .int .add q12_1 (Value.int .i64 1)) fun y20=>
 jn (Zh (c4 (ZdZ.l2 Γ)) [q12_0,(Value.int .i64 0),(Value.int .i64 0),y20]) noN (xk 2 (c3 fun q35_0 q35_1 q35_2=>
 bind (bop .int .eql q35_1 (Value.int .i64 0)) fun y36=>
 bind (ZD y36 false 2 (bind (bop .int .eql q35_2 (Value.int .i64 0)) fun y37=>
 ret [q35_2,y37])) (c2 fun _ q38_1=>
 bind (pick y36 (Value.bool true) q38_1) fun y39=>
 cnd y39
 (ret (Value.tuple #[(Value.string ⟨#[]⟩),(Value.bool false)]))
 (ret (Value.tuple #[q35_0,(Value.bool true)])))) noX) ret))) noX) ret)
noncomputable def ZnM.l1 (Γ : Zc) (s3 s5 s6 s9 s10 s11 : Value) : M Out:=
 bind (bop .int .lss s11 s10) fun y3=>
 cnd y3
 (bind (ixa 5 s9 s11) fun y4=>
 bind (ldA 5 y4) fun y5=>
 bind (alc 1 (.agg #[.string ⟨#[]⟩,.string ⟨#[]⟩,.string ⟨#[]⟩,.bool false,.slice none 0 0])) fun y6=>
 bind (stA 5 y6 y5) fun _=>
 bind (uop .not s6) fun y7=>
 bind (ZD y7 true 5 (bind (fa 0 s3) fun y8=>
 bind (ld1 y8) fun y9=>
 bind (fa 0 y6) fun y10=>
 bind (ld1 y10) fun y11=>
 bind (bop .str .leq y9 y11) fun y12=>
 ret [y8,y9,y10,y11,y12])) (c5 fun _ _ _ _ q13_4=>
 bind (pick y7 q13_4 (Value.bool false)) fun y14=>
 jn (cnd y14
 (bind (ldA 5 s3) fun y15=>
 bind (bsl 5 1 (.agg #[.string ⟨#[]⟩,.string ⟨#[]⟩,.string ⟨#[]⟩,.bool false,.slice none 0 0]) [(0,5,y15)]) fun y16=>
 bind (app 5 80 s5 y16) fun y17=>
 ret (.nrm [s3,y17,(Value.bool true),y6,s9,s10,s11]))
 (ret (.nrm [s3,s5,s6,y6,s9,s10,s11]))) (c7 fun q18_0 q18_1 q18_2 q18_3 q18_4 q18_5 q18_6=>
 bind (fa 0 q18_3) fun y19=>
 bind (ld1 y19) fun y20=>
 bind (fa 0 q18_0) fun y21=>
 bind (ld1 y21) fun y22=>
 bind (bop .str .neq y20 y22) fun y23=>
 jn (cnd y23
 (bind (ldA 5 q18_3) fun y24=>
 bind (bsl 5 1 (.agg #[.string ⟨#[]⟩,.string ⟨#[]⟩,.string ⟨#[]⟩,.bool false,.slice none 0 0]) [(0,5,y24)]) fun y25=>
 bind (app 5 80 q18_1 y25) fun y26=>
 ret (.nrm [q18_0,y26,q18_2,q18_4,q18_5,q18_6]))
 (ret (.nrm [q18_0,q18_1,q18_2,q18_4,q18_5,q18_6]))) (c6 fun q27_0 q27_1 q27_2 q27_3 q27_4 q27_5=>
 bind (bop .int .add q27_5 (Value.int .i64 1)) fun y28=>
 ret (.nrm [q27_0,q27_1,q27_2,q27_3,q27_4,y28])) noX ZY) noX ZY))
 (ret (.ext 0 [s3,s5,s6]))
noncomputable def ZnM (Γ : Zc) (x0 x1 : Value) : M Value:=
 bind (alc 1 x1) fun y1=>
 bind (Zp x0) fun y2=>
 jn (Zh (c6 (ZnM.l1 Γ)) [y1,(Value.slice none 0 0),(Value.bool false),x0,y2,(Value.int .i64 0)]) noN (xk 0 (c3 fun q32_0 q32_1 q32_2=>
 bind (uop .not q32_2) fun y33=>
 jn (cnd y33
 (bind (ldA 5 q32_0) fun y34=>
 bind (bsl 5 1 (.agg #[.string ⟨#[]⟩,.string ⟨#[]⟩,.string ⟨#[]⟩,.bool false,.slice none 0 0]) [(0,5,y34)]) fun y35=>
 bind (app 5 80 q32_1 y35) fun y36=>
 ret (.nrm [y36]))
 (ret (.nrm [q32_1]))) (c1 fun q37_0=>
 ret q37_0) noX ret) noX) ret
noncomputable def Zk1.l1 (Γ : Zc) (s1 s5 s8 s9 s10 : Value) : M Out:=
 bind (bop .int .lss s10 s9) fun y2=>
 cnd y2
 (bind (ixa 5 s8 s10) fun y3=>
 bind (ldA 5 y3) fun y4=>
 bind (alc 1 (.agg #[.string ⟨#[]⟩,.string ⟨#[]⟩,.string ⟨#[]⟩,.bool false,.slice none 0 0])) fun y5=>
 bind (stA 5 y5 y4) fun _=>
 bind (fa 0 y5) fun y6=>
 bind (ld1 y6) fun y7=>
 bind (bop .str .neq y7 s1) fun y8=>
 jn (cnd y8
 (bind (ldA 5 y5) fun y9=>
 bind (bsl 5 1 (.agg #[.string ⟨#[]⟩,.string ⟨#[]⟩,.string ⟨#[]⟩,.bool false,.slice none 0 0]) [(0,5,y9)]) fun y10=>
 bind (app 5 80 s5 y10) fun y11=>
 ret (.nrm [s1,y11,s8,s9,s10]))
 (ret (.nrm [s1,s5,s8,s9,s10]))) (c5 fun q12_0 q12_1 q12_2 q12_3 q12_4=>
 bind (bop .int .add q12_4 (Value.int .i64 1)) fun y13=>
 ret (.nrm [q12_0,q12_1,q12_2,q12_3,y13])) noX ZY)
 (ret (.ext 0 [s5]))
noncomputable def Zk1 (Γ : Zc) (x0 x1 : Value) : M Value:=
 bind (Zp x0) fun y1=>
 jn (Zh (c5 (Zk1.l1 Γ)) [x1,(Value.slice none 0 0),x0,y1,(Value.int .i64 0)]) noN (xk 0 (c1 fun q16_0=>
 ret q16_0) noX) ret
noncomputable def ZdC.l1 (Γ : Zc) (s0 s1 s2 s26 s27 s28 : Value) : M Out:=
 bind (bop .int .lss s28 s27) fun y10=>
 cnd y10
 (bind (ixa 1 s26 s28) fun y11=>
 bind (ld1 y11) fun y12=>
 bind (Qa s0) fun y13=>
 bind (fa 0 y13) fun y14=>
 bind (ld1 y14) fun y15=>
 bind (lkp .str (.map none) false y15 y12) fun y16=>
 bind (mde .str y16 s1) fun _=>
 bind (Qa s0) fun y17=>
 bind (fa 0 y17) fun y18=>
 bind (ld1 y18) fun y19=>
 bind (lkp .str (.map none) false y19 y12) fun y20=>
 bind (bld (.agg #[]) []) fun y21=>
 bind (mup .str y20 s2 y21) fun _=>
 bind (bop .int .add s28 (Value.int .i64 1)) fun y22=>
 ret (.nrm [s0,s1,s2,s26,s27,y22]))
 (ret (.ext 0 []))
noncomputable def ZdC (Γ : Zc) (x0 x1 x2 : Value) : M Value:=
 bind (bsl 1 1 (.string ⟨#[]⟩) [(0,1,x2)]) fun y1=>
 bind (Γ Zaz [y1]) fun y2=>
 bind (bop .int .neq y2 (Value.int .i64 0)) fun y3=>
 cnd y3
 (ret y2)
 (bind (bop .str .eql x1 x2) fun y4=>
 cnd y4
 (ret (Value.int .i64 0))
 (bind (Γ J8 [x0,x2]) fun y5=>
 bind (Zp y5) fun y6=>
 bind (bop .int .gtr y6 (Value.int .i64 0)) fun y7=>
 cnd y7
 (ret (Value.int .i64 9))
 (bind (Γ J8 [x0,x1]) fun y8=>
 bind (Zp y8) fun y9=>
 jn (Zh (c6 (ZdC.l1 Γ)) [x0,x1,x2,y8,y9,(Value.int .i64 0)]) noN (xk 0 (c0 (ret (Value.int .i64 0))) noX) ret)))
noncomputable def Zd1.l1 (Γ : Zc) (s1 s2 s4 s6 s23 s24 s25 : Value) : M Out:=
 bind (bop .int .lss s25 s24) fun y16=>
 cnd y16
 (bind (ixa 1 s23 s25) fun y17=>
 bind (ld1 y17) fun y18=>
 bind (bop .str .neq y18 s1) fun y19=>
 jn (cnd y19
 (bind (bsl 1 1 (.string ⟨#[]⟩) [(0,1,y18)]) fun y20=>
 bind (app 1 16 s6 y20) fun y21=>
 ret (.nrm [s1,s2,s4,y21,s23,s24,s25]))
 (ret (.nrm [s1,s2,s4,s6,s23,s24,s25]))) (c7 fun q22_0 q22_1 q22_2 q22_3 q22_4 q22_5 q22_6=>
 bind (bop .int .add q22_6 (Value.int .i64 1)) fun y23=>
 ret (.nrm [q22_0,q22_1,q22_2,q22_3,q22_4,q22_5,y23])) noX ZY)
 (ret (.ext 0 [s1,s2,s4,s6]))
noncomputable def Zd1.l2 (Γ : Zc) (s1 s4 s6 s9 s38 s39 s40 : Value) : M Out:=
 bind (bop .int .lss s40 s39) fun y30=>
 cnd y30
 (bind (ixa 2 s38 s40) fun y31=>
 bind (ldA 2 y31) fun y32=>
 bind (alc 1 (.agg #[.string ⟨#[]⟩,.string ⟨#[]⟩])) fun y33=>
 bind (stA 2 y33 y32) fun _=>
 bind (fa 0 y33) fun y34=>
 bind (ld1 y34) fun y35=>
 bind (bop .str .neq y35 s1) fun y36=>
 jn (cnd y36
 (bind (ldA 2 y33) fun y37=>
 bind (bsl 2 1 (.agg #[.string ⟨#[]⟩,.string ⟨#[]⟩]) [(0,2,y37)]) fun y38=>
 bind (app 2 32 s9 y38) fun y39=>
 ret (.nrm [s1,s4,s6,y39,s38,s39,s40]))
 (ret (.nrm [s1,s4,s6,s9,s38,s39,s40]))) (c7 fun q40_0 q40_1 q40_2 q40_3 q40_4 q40_5 q40_6=>
 bind (bop .int .add q40_6 (Value.int .i64 1)) fun y41=>
 ret (.nrm [q40_0,q40_1,q40_2,q40_3,q40_4,q40_5,y41])) noX ZY)
 (ret (.ext 2 [s4,s6,s9]))
noncomputable def Zd1 (Γ : Zc) (x0 x1 : Value) : M Value:=
 bind (alc 1 x0) fun y1=>
 bind (alc 1 (.agg #[.slice none 0 0,.slice none 0 0])) fun y2=>
 bind (Γ Zb1 [x1]) fun y3=>
 bind (uop .not y3) fun y4=>
 cnd y4
 (bind (ldA 2 y1) fun y5=>
 bind (stA 2 y2 y5) fun _=>
 bind (ldA 2 y2) fun y6=>
 ret (Value.tuple #[y6,(Value.int .i64 10)]))
 (bind (fa 0 y1) fun y7=>
 bind (ld1 y7) fun y8=>
 bind (Γ ZnL [y8,x1]) fun y9=>
 bind (uop .not y9) fun y10=>
 cnd y10
 (bind (ldA 2 y1) fun y11=>
 bind (stA 2 y2 y11) fun _=>
 bind (ldA 2 y2) fun y12=>
 ret (Value.tuple #[y12,(Value.int .i64 8)]))
 (bind (fa 0 y1) fun y13=>
 bind (ld1 y13) fun y14=>
 bind (Zp y14) fun y15=>
 jn (Zh (c7 (Zd1.l1 Γ)) [x1,y1,y2,(Value.slice none 0 0),y14,y15,(Value.int .i64 0)]) noN (xk 0 (c4 fun q26_0 q26_1 q26_2 q26_3=>
 bind (fa 1 q26_1) fun y27=>
 bind (ld1 y27) fun y28=>
 bind (Zp y28) fun y29=>
 jn (Zh (c7 (Zd1.l2 Γ)) [q26_0,q26_2,q26_3,(Value.slice none 0 0),y28,y29,(Value.int .i64 0)]) noN (xk 2 (c3 fun q44_0 q44_1 q44_2=>
 bind (bld (.agg #[.slice none 0 0,.slice none 0 0]) [(0,1,q44_1),(1,1,q44_2)]) fun y45=>
 bind (stA 2 q44_0 y45) fun _=>
 bind (ldA 2 q44_0) fun y46=>
 ret (Value.tuple #[y46,(Value.int .i64 0)])) noX) ret) noX) ret))
noncomputable def ZgV.l1 (Γ : Zc) (s1 s5 s8 s9 s10 : Value) : M Out:=
 bind (bop .int .lss s10 s9) fun y2=>
 cnd y2
 (bind (ixa 1 s8 s10) fun y3=>
 bind (ld1 y3) fun y4=>
 bind (bop .str .neq y4 s1) fun y5=>
 jn (cnd y5
 (bind (bsl 1 1 (.string ⟨#[]⟩) [(0,1,y4)]) fun y6=>
 bind (app 1 16 s5 y6) fun y7=>
 ret (.nrm [s1,y7,s8,s9,s10]))
 (ret (.nrm [s1,s5,s8,s9,s10]))) (c5 fun q8_0 q8_1 q8_2 q8_3 q8_4=>
 bind (bop .int .add q8_4 (Value.int .i64 1)) fun y9=>
 ret (.nrm [q8_0,q8_1,q8_2,q8_3,y9])) noX ZY)
 (ret (.ext 0 [s5]))
noncomputable def ZgV (Γ : Zc) (x0 x1 : Value) : M Value:=
 bind (Zp x0) fun y1=>
 jn (Zh (c5 (ZgV.l1 Γ)) [x1,(Value.slice none 0 0),x0,y1,(Value.int .i64 0)]) noN (xk 0 (c1 fun q12_0=>
 ret q12_0) noX) ret
noncomputable def Zcc.l2 (Γ : Zc) (s5 s6 s7 s10 s11 s12 s19 s20 s21 : Value) : M Out:=
 bind (bop .int .lss s21 s20) fun y7=>
 cnd y7
 (bind (ixa 1 s19 s21) fun y8=>
 bind (ld1 y8) fun y9=>
 bind (uop .not s7) fun y10=>
 bind (ZD y10 true 3 (bind (bop .str .lss s5 y9) fun y11=>
 ret [s5,y9,y11])) (c3 fun _ _ q12_2=>
 bind (pick y10 q12_2 (Value.bool false)) fun y13=>
 jn (cnd y13
 (bind (bsl 1 1 (.string ⟨#[]⟩) [(0,1,s5)]) fun y14=>
 bind (app 1 16 s6 y14) fun y15=>
 ret (.nrm [s5,y15,(Value.bool true),y9,s10,s11,s12,s19,s20,s21]))
 (ret (.nrm [s5,s6,s7,y9,s10,s11,s12,s19,s20,s21]))) (c10 fun q16_0 q16_1 q16_2 q16_3 q16_4 q16_5 q16_6 q16_7 q16_8 q16_9=>
 bind (bsl 1 1 (.string ⟨#[]⟩) [(0,1,q16_3)]) fun y17=>
 bind (app 1 16 q16_1 y17) fun y18=>
 bind (bop .int .add q16_9 (Value.int .i64 1)) fun y19=>
 ret (.nrm [q16_0,y18,q16_2,q16_4,q16_5,q16_6,q16_7,q16_8,y19])) noX ZY))
 (ret (.ext 2 [s5,s6,s7,s10,s11,s12]))
noncomputable def Zcc.l1 (Γ : Zc) (s3 s10 s11 s12 : Value) : M Out:=
 bind (bop .int .lss s12 s11) fun y2=>
 cnd y2
 (jn (bind (ixa 1 s10 s12) fun y3=>
 bind (ld1 y3) fun y4=>
 bind (Γ ZnL [s3,y4]) fun y5=>
 cnd y5
 (ret (.nrm [s3,s10,s11,s12]))
 (bind (Zp s3) fun y6=>
 jn (Zh (c9 (Zcc.l2 Γ)) [y4,(Value.slice none 0 0),(Value.bool false),s10,s11,s12,s3,y6,(Value.int .i64 0)]) noN (xk 2 (c6 fun q22_0 q22_1 q22_2 q22_3 q22_4 q22_5=>
 bind (uop .not q22_2) fun y23=>
 jn (cnd y23
 (bind (bsl 1 1 (.string ⟨#[]⟩) [(0,1,q22_0)]) fun y24=>
 bind (app 1 16 q22_1 y24) fun y25=>
 ret (.nrm [y25,q22_3,q22_4,q22_5]))
 (ret (.nrm [q22_1,q22_3,q22_4,q22_5]))) (c4 fun q26_0 q26_1 q26_2 q26_3=>
 ret (.nrm [q26_0,q26_1,q26_2,q26_3])) noX ZY) noX) ZY)) (c4 fun q29_0 q29_1 q29_2 q29_3=>
 bind (bop .int .add q29_3 (Value.int .i64 1)) fun y30=>
 ret (.nrm [q29_0,q29_1,q29_2,y30])) noX ZY)
 (ret (.ext 0 [s3]))
noncomputable def Zcc (Γ : Zc) (x0 : Value) : M Value:=
 bind (Zp x0) fun y1=>
 jn (Zh (c4 (Zcc.l1 Γ)) [(Value.slice none 0 0),x0,y1,(Value.int .i64 0)]) noN (xk 0 (c1 fun q33_0=>
 ret q33_0) noX) ret
noncomputable def ZmS.l1 (Γ : Zc) (s0 s5 s6 s7 : Value) : M Out:=
 bind (bop .int .lss s7 s6) fun y1=>
 cnd y1
 (bind (bop .int .rem s0 (Value.int .u64 256)) fun y2=>
 bind (cvi .u8 y2) fun y3=>
 bind (bsl 1 1 (.int .u8 0) [(0,1,y3)]) fun y4=>
 bind (b2s y4) fun y5=>
 bind (bop .str .add s5 y5) fun y6=>
 bind (bop .int .quo s0 (Value.int .u64 256)) fun y7=>
 bind (bop .int .add s7 (Value.int .i64 1)) fun y8=>
 ret (.nrm [y7,y6,s6,y8]))
 (ret (.ext 0 [s5]))
noncomputable def ZmS (Γ : Zc) (x0 x1 : Value) : M Value:=
 jn (Zh (c4 (ZmS.l1 Γ)) [x0,(Value.string ⟨#[]⟩),x1,(Value.int .i64 0)]) noN (xk 0 (c1 fun q10_0=>
 ret q10_0) noX) ret
noncomputable def Zgu.l1 (Γ : Zc) (s1 s2 s4 s7 s24 s25 : Value) : M Out:=
 bind (bop .int .lss s25 s24) fun y16=>
 cnd y16
 (bind (ldA 2 s2) fun y17=>
 bind (Γ ZnN [y17,s1]) fun y18=>
 bind (Zq y18 0) fun y19=>
 bind (Zq y18 1) fun y20=>
 bind (alc 1 (.agg #[.string ⟨#[]⟩,.int .i64 0])) fun y21=>
 bind (alc 1 (.agg #[.string ⟨#[]⟩,.string ⟨#[]⟩,.string ⟨#[]⟩,.bool false,.slice none 0 0])) fun y22=>
 bind (stA 2 y21 y19) fun _=>
 bind (stA 5 y22 y20) fun _=>
 bind (ldA 2 y21) fun y23=>
 bind (stA 2 s2 y23) fun _=>
 bind (ldA 5 y22) fun y24=>
 bind (bsl 5 1 (.agg #[.string ⟨#[]⟩,.string ⟨#[]⟩,.string ⟨#[]⟩,.bool false,.slice none 0 0]) [(0,5,y24)]) fun y25=>
 bind (app 5 80 s7 y25) fun y26=>
 bind (bop .int .add s25 (Value.int .u64 1)) fun y27=>
 ret (.nrm [s1,s2,s4,y26,s24,y27]))
 (ret (.ext 0 [s1,s2,s4,s7]))
noncomputable def Zgu (Γ : Zc) (x0 x1 : Value) : M Value:=
 bind (alc 1 x0) fun y1=>
 bind (alc 1 (.agg #[.string ⟨#[]⟩,.int .i64 0])) fun y2=>
 bind (ldA 2 y1) fun y3=>
 bind (Γ ZhP [y3,(Value.int .i64 2)]) fun y4=>
 bind (Zq y4 0) fun y5=>
 bind (Zq y4 1) fun y6=>
 bind (stA 2 y1 y5) fun _=>
 bind (fa 1 y1) fun y7=>
 bind (ld1 y7) fun y8=>
 bind (bop .int .eql y8 (Value.int .i64 0)) fun y9=>
 bind (ZD y9 true 2 (bind (bop .int .gtr y6 (Value.int .u64 12)) fun y10=>
 ret [y6,y10])) (c2 fun _ q11_1=>
 bind (pick y9 q11_1 (Value.bool false)) fun y12=>
 cnd y12
 (bind (ldA 2 y1) fun y13=>
 bind (Γ Zlc [y13,(Value.int .i64 7)]) fun y14=>
 bind (stA 2 y2 y14) fun _=>
 bind (ldA 2 y2) fun y15=>
 ret (Value.tuple #[y15,(Value.slice none 0 0)]))
 (jn (Zh (c6 (Zgu.l1 Γ)) [x1,y1,y2,(Value.slice none 0 0),y6,(Value.int .u64 0)]) noN (xk 0 (c4 fun q29_0 q29_1 q29_2 q29_3=>
 bind (fa 1 q29_1) fun y30=>
 bind (ld1 y30) fun y31=>
 bind (bop .int .eql y31 (Value.int .i64 0)) fun y32=>
 jn (cnd y32
 (bind (ldA 2 q29_1) fun y33=>
 bind (Γ Zo4 [q29_3,q29_0]) fun y34=>
 bind (ldA 2 q29_1) fun u_35=>same u_35 y33 <|
 bind (Γ Zlc [y33,y34]) fun y36=>
 bind (stA 2 q29_1 y36) fun _=>
 ret (.nrm [q29_1,q29_2,q29_3]))
 (ret (.nrm [q29_1,q29_2,q29_3]))) (c3 fun q37_0 q37_1 q37_2=>
 bind (fa 1 q37_0) fun y38=>
 bind (ld1 y38) fun y39=>
 bind (bop .int .neq y39 (Value.int .i64 0)) fun y40=>
 cnd y40
 (bind (ldA 2 q37_0) fun y41=>
 bind (stA 2 q37_1 y41) fun _=>
 bind (ldA 2 q37_1) fun y42=>
 ret (Value.tuple #[y42,(Value.slice none 0 0)]))
 (bind (ldA 2 q37_0) fun y43=>
 bind (stA 2 q37_1 y43) fun _=>
 bind (ldA 2 q37_1) fun y44=>
 ret (Value.tuple #[y44,q37_2]))) noX ret) noX) ret))
noncomputable def Zhz (Γ : Zc) (x0 : Value) : M Value:=
 bind (alc 1 x0) fun y1=>
 ret (Value.func (.func 198) #[] #[y1])
theorem Zsz (Γ : Zc) (x0 : Value) : Zv Tryz.prog Γ Tryz.f163 Zlx [x0]=Zhz Γ x0:=by kernel_rfl
theorem Zqi {prim : FuncId→Option (List Value→M Value)} (hp : prim ZaV=none) (n : Nat) (x0 : Value) : run Tryz.prog prim lvs (n+1) ZaV [x0]=Zhz (run Tryz.prog prim lvs n) x0:=
 (Zi hp (by kernel_rfl) Tryz.func163 (by kernel_rfl)).trans (Zsz _ x0)
noncomputable def ZdT (Γ : Zc) (x0 x1 : Value) : M Value:=
 bind (alc 1 x0) fun y1=>
 bind (alc 1 x1) fun y2=>
 ret (Value.func (.func 199) #[] #[y1,y2])
theorem Zna (Γ : Zc) (x0 x1 : Value) : Zv Tryz.prog Γ Tryz.f164 Zf8 [x0,x1]=ZdT Γ x0 x1:=by kernel_rfl
theorem Zl8 {prim : FuncId→Option (List Value→M Value)} (hp : prim Zaw=none) (n : Nat) (x0 x1 : Value) : run Tryz.prog prim lvs (n+1) Zaw [x0,x1]=ZdT (run Tryz.prog prim lvs n) x0 x1:=
 (Zi hp (by kernel_rfl) Tryz.func164 (by kernel_rfl)).trans (Zna _ x0 x1)
noncomputable def ZcA (Γ : Zc) (x0 x1 : Value) : M Value:=
 bind (ld1 x0) fun y1=>
 bind (Qa y1) fun y2=>
 bind (fa 0 y2) fun y3=>
 bind (ld1 y3) fun y4=>
 bind (ld1 x1) fun y5=>
 bind (lkp .str (.string ⟨#[]⟩) true y4 y5) fun y6=>
 bind (Zq y6 0) fun y7=>
 bind (Zq y6 1) fun y8=>
 bind (uop .not y8) fun y9=>
 cnd y9
 (ret (Value.int .i64 8))
 (ret (Value.int .i64 0))
theorem ZkB (Γ : Zc) (x0 x1 : Value) : Zv Tryz.prog Γ Tryz.f165 ZeI [x0,x1]=ZcA Γ x0 x1:=by kernel_rfl
theorem Zi1 {prim : FuncId→Option (List Value→M Value)} (hp : prim Z0=none) (n : Nat) (x0 x1 : Value) : run Tryz.prog prim lvs (n+1) Z0 [x0,x1]=ZcA (run Tryz.prog prim lvs n) x0 x1:=
 (Zi hp (by kernel_rfl) Tryz.func165 (by kernel_rfl)).trans (ZkB _ x0 x1)
noncomputable def Zcp (Γ : Zc) (x0 x1 x2 : Value) : M Value:=
 bind (ld1 x1) fun y1=>
 bind (Qa y1) fun y2=>
 bind (fa 0 y2) fun y3=>
 bind (ld1 y3) fun y4=>
 bind (lkp .str (.map none) false y4 x0) fun y5=>
 bind (ld1 x2) fun y6=>
 bind (lkp .str (.agg #[]) true y5 y6) fun y7=>
 bind (Zq y7 0) fun y8=>
 bind (Zq y7 1) fun y9=>
 bind (alc 1 (.agg #[])) fun y10=>
 bind (lkp .str (.agg #[]) true y5 y6) fun u_11=>same u_11 y7 <|
 bind (ld1 x2) fun u_12=>same u_12 y6 <|
 bind (lkp .str (.map none) false y4 x0) fun u_13=>same u_13 y5 <|
 bind (ld1 y3) fun u_14=>same u_14 y4 <|
 bind (ld1 x1) fun u_15=>same u_15 y1 <|
 bind (stA 0 y10 y8) fun _=>
 bind (uop .not y9) fun y16=>
 ret y16
theorem ZkR (Γ : Zc) (x0 x1 x2 : Value) : Zv Tryz.prog Γ Tryz.f166 ZeO [x0,x1,x2]=Zcp Γ x0 x1 x2:=by kernel_rfl
theorem Zje {prim : FuncId→Option (List Value→M Value)} (hp : prim Y6=none) (n : Nat) (x0 x1 x2 : Value) : run Tryz.prog prim lvs (n+1) Y6 [x0,x1,x2]=Zcp (run Tryz.prog prim lvs n) x0 x1 x2:=
 (Zi hp (by kernel_rfl) Tryz.func166 (by kernel_rfl)).trans (ZkR _ x0 x1 x2)
noncomputable def Wg.l1 (Γ : Zc) (s0 s1 s7 s8 : Value) : M Out:=
 bind (bop .int .lss s8 s7) fun y2=>
 cnd y2
 (bind (ixs s0 s8) fun y3=>
 bind (Z6 Γ s1 [y3]) fun y4=>
 bind (uop .not y4) fun y5=>
 cnd y5
 (ret (.ret (Value.bool false)))
 (bind (bop .int .add s8 (Value.int .i64 1)) fun y6=>
 ret (.nrm [s0,s1,s7,y6])))
 (ret (.ext 0 []))
noncomputable def Wg (Γ : Zc) (x0 x1 : Value) : M Value:=
 bind (QX x0) fun y1=>
 jn (Zh (c4 (Wg.l1 Γ)) [x0,x1,y1,(Value.int .i64 0)]) noN (xk 0 (c0 (ret (Value.bool true))) noX) ret
theorem Zt6 (Γ : Zc) (x0 x1 : Value) : Zv Tryz.prog Γ Tryz.f167 Zmo [x0,x1]=Wg Γ x0 x1:=by kernel_rfl
theorem Zsg {prim : FuncId→Option (List Value→M Value)} (hp : prim YK=none) (n : Nat) (x0 x1 : Value) : run Tryz.prog prim lvs (n+1) YK [x0,x1]=Wg (run Tryz.prog prim lvs n) x0 x1:=
 (Zi hp (by kernel_rfl) Tryz.func167 (by kernel_rfl)).trans (Zt6 _ x0 x1)
noncomputable def ZhS (Γ : Zc) (x0 : Value) : M Value:=
 bind (Γ Yq [x0]) fun y1=>
 bind (ZD y1 false 2 (bind (Γ YM [x0]) fun y2=>
 ret [x0,y2])) (c2 fun _ q3_1=>
 bind (pick y1 (Value.bool true) q3_1) fun y4=>
 bind (ZD y4 false 2 (bind (bop .int .eql x0 (Value.int .u8 45)) fun y5=>
 ret [x0,y5])) (c2 fun _ q6_1=>
 bind (pick y4 (Value.bool true) q6_1) fun y7=>
 bind (ZD y7 false 2 (bind (bop .int .eql x0 (Value.int .u8 46)) fun y8=>
 ret [x0,y8])) (c2 fun _ q9_1=>
 bind (pick y7 (Value.bool true) q9_1) fun y10=>
 ret y10)))
theorem ZsB (Γ : Zc) (x0 : Value) : Zv Tryz.prog Γ Tryz.f168 Zli [x0]=ZhS Γ x0:=by kernel_rfl
theorem Zq6 {prim : FuncId→Option (List Value→M Value)} (hp : prim ZbL=none) (n : Nat) (x0 : Value) : run Tryz.prog prim lvs (n+1) ZbL [x0]=ZhS (run Tryz.prog prim lvs n) x0:=
 (Zi hp (by kernel_rfl) Tryz.func168 (by kernel_rfl)).trans (ZsB _ x0)
noncomputable def Zx.l1 (Γ : Zc) (s0 s1 s7 s8 : Value) : M Out:=
 bind (bop .int .lss s8 s7) fun y2=>
 cnd y2
 (bind (ixa 1 s0 s8) fun y3=>
 bind (ld1 y3) fun y4=>
 bind (Z6 Γ s1 [y4]) fun y5=>
 cnd y5
 (ret (.ret s8))
 (bind (bop .int .add s8 (Value.int .i64 1)) fun y6=>
 ret (.nrm [s0,s1,s7,y6])))
 (ret (.ext 0 []))
noncomputable def Zx (Γ : Zc) (x0 x1 : Value) : M Value:=
 bind (Zp x0) fun y1=>
 jn (Zh (c4 (Zx.l1 Γ)) [x0,x1,y1,(Value.int .i64 0)]) noN (xk 0 (c0 (ret (Value.int .i64 (-1)))) noX) ret
theorem Zc7 (Γ : Zc) (x0 x1 : Value) : Zv Tryz.prog Γ Tryz.f169 WV [x0,x1]=Zx Γ x0 x1:=by kernel_rfl
theorem WP {prim : FuncId→Option (List Value→M Value)} (hp : prim Qx=none) (n : Nat) (x0 x1 : Value) : run Tryz.prog prim lvs (n+1) Qx [x0,x1]=Zx (run Tryz.prog prim lvs n) x0 x1:=
 (Zi hp (by kernel_rfl) Tryz.func169 (by kernel_rfl)).trans (Zc7 _ x0 x1)
noncomputable def Yf (Γ : Zc) (x0 : Value) : M Value:=
 bind (alc 1 x0) fun y1=>
 ret (Value.func (.func 202) #[] #[y1])
theorem Za9 (Γ : Zc) (x0 : Value) : Zv Tryz.prog Γ Tryz.f171 KG [x0]=Yf Γ x0:=by kernel_rfl
theorem ZaY {prim : FuncId→Option (List Value→M Value)} (hp : prim Jl=none) (n : Nat) (x0 : Value) : run Tryz.prog prim lvs (n+1) Jl [x0]=Yf (run Tryz.prog prim lvs n) x0:=
 (Zi hp (by kernel_rfl) Tryz.func171 (by kernel_rfl)).trans (Za9 _ x0)
noncomputable def ZeC (Γ : Zc) (x0 x1 : Value) : M Value:=
 bind (Γ WX [x0,x1]) fun y1=>
 ret y1
theorem Zou (Γ : Zc) (x0 x1 : Value) : Zv Tryz.prog Γ Tryz.f172 ZgR [x0,x1]=ZeC Γ x0 x1:=by kernel_rfl
theorem Zmw {prim : FuncId→Option (List Value→M Value)} (hp : prim Qk=none) (n : Nat) (x0 x1 : Value) : run Tryz.prog prim lvs (n+1) Qk [x0,x1]=ZeC (run Tryz.prog prim lvs n) x0 x1:=
 (Zi hp (by kernel_rfl) Tryz.func172 (by kernel_rfl)).trans (Zou _ x0 x1)
noncomputable def Kt (Γ : Zc) (x0 x1 : Value) : M Value:=
 bind (QX x0) fun y1=>
 bind (QX x1) fun y2=>
 bind (bop .int .geq y1 y2) fun y3=>
 bind (ZD y3 true 6 (bind (QX x1) fun y4=>
 bind (sls x0 none (some y4)) fun y5=>
 bind (bop .str .eql y5 x1) fun y6=>
 ret [x0,x1,y4,y5,x1,y6])) (c6 fun _ _ _ _ _ q7_5=>
 bind (pick y3 q7_5 (Value.bool false)) fun y8=>
 ret y8)
theorem ZcR (Γ : Zc) (x0 x1 : Value) : Zv Tryz.prog Γ Tryz.f173 WM [x0,x1]=Kt Γ x0 x1:=by kernel_rfl
theorem Zcn {prim : FuncId→Option (List Value→M Value)} (hp : prim Jq=none) (n : Nat) (x0 x1 : Value) : run Tryz.prog prim lvs (n+1) Jq [x0,x1]=Kt (run Tryz.prog prim lvs n) x0 x1:=
 (Zi hp (by kernel_rfl) Tryz.func173 (by kernel_rfl)).trans (ZcR _ x0 x1)
noncomputable def Q1 (Γ : Zc) (x0 : Value) : M Value:=
 bind (alc 1 x0) fun y1=>
 ret (Value.func (.func 204) #[] #[y1])
theorem Wb (Γ : Zc) (x0 : Value) : Zv Tryz.prog Γ Tryz.f174 Yc [x0]=Q1 Γ x0:=by kernel_rfl
theorem K5 {prim : FuncId→Option (List Value→M Value)} (hp : prim Qm=none) (n : Nat) (x0 : Value) : run Tryz.prog prim lvs (n+1) Qm [x0]=Q1 (run Tryz.prog prim lvs n) x0:=
 (Zi hp (by kernel_rfl) Tryz.func174 (by kernel_rfl)).trans (Wb _ x0)
noncomputable def Jw.l1 (Γ : Zc) (s5 s6 s7 : Value) : M Out:=
 bind (bop .int .lss s7 s6) fun y2=>
 cnd y2
 (bind (ixa 1 s5 s7) fun y3=>
 bind (ld1 y3) fun y4=>
 bind (bop .int .neq y4 (Value.int .i64 0)) fun y5=>
 cnd y5
 (ret (.ret y4))
 (bind (bop .int .add s7 (Value.int .i64 1)) fun y6=>
 ret (.nrm [s5,s6,y6])))
 (ret (.ext 0 []))
noncomputable def Jw (Γ : Zc) (x0 : Value) : M Value:=
 bind (Zp x0) fun y1=>
 jn (Zh (c3 (Jw.l1 Γ)) [x0,y1,(Value.int .i64 0)]) noN (xk 0 (c0 (ret (Value.int .i64 0))) noX) ret
theorem ZrT (Γ : Zc) (x0 : Value) : Zv Tryz.prog Γ Tryz.f175 Zj8 [x0]=Jw Γ x0:=by kernel_rfl
theorem ZpO {prim : FuncId→Option (List Value→M Value)} (hp : prim Wf=none) (n : Nat) (x0 : Value) : run Tryz.prog prim lvs (n+1) Wf [x0]=Jw (run Tryz.prog prim lvs n) x0:=
 (Zi hp (by kernel_rfl) Tryz.func175 (by kernel_rfl)).trans (ZrT _ x0)
noncomputable def ZcV (Γ : Zc) (x0 : Value) : M Value:=
 bind (bop .str .eql x0 (Value.string ⟨#[]⟩)) fun y1=>
 cnd y1
 (ret (Value.int .i64 0))
 (bind (Γ ZbD [x0]) fun y2=>
 bind (Zq y2 0) fun y3=>
 bind (Zq y2 1) fun y4=>
 bind (bop .int .neq y4 (Value.int .i64 0)) fun y5=>
 bind (ZD y5 false 3 (bind (bop .str .neq y3 x0) fun y6=>
 ret [y3,x0,y6])) (c3 fun _ _ q7_2=>
 bind (pick y5 (Value.bool true) q7_2) fun y8=>
 cnd y8
 (ret (Value.int .i64 11))
 (ret (Value.int .i64 0))))
theorem Zsh (Γ : Zc) (x0 : Value) : Zv Tryz.prog Γ Tryz.f176 Zlz [x0]=ZcV Γ x0:=by kernel_rfl
theorem ZqN {prim : FuncId→Option (List Value→M Value)} (hp : prim Zdc=none) (n : Nat) (x0 : Value) : run Tryz.prog prim lvs (n+1) Zdc [x0]=ZcV (run Tryz.prog prim lvs n) x0:=
 (Zi hp (by kernel_rfl) Tryz.func176 (by kernel_rfl)).trans (Zsh _ x0)
noncomputable def Q4.l1 (Γ : Zc) (s0 s10 s11 s12 : Value) : M Out:=
 bind (bop .int .lss s12 s11) fun y4=>
 cnd y4
 (bind (ixa 1 s10 s12) fun y5=>
 bind (ld1 y5) fun y6=>
 bind (Γ QW [y6]) fun y7=>
 bind (bop .int .neq y7 (Value.int .i64 0)) fun y8=>
 cnd y8
 (ret (.ret y7))
 (bind (bop .int .add s12 (Value.int .i64 1)) fun y9=>
 ret (.nrm [s0,s10,s11,y9])))
 (ret (.ext 0 [s0]))
noncomputable def Q4.l2 (Γ : Zc) (s0 s6 : Value) : M Out:=
 bind (Zp s0) fun y12=>
 bind (bop .int .lss s6 y12) fun y13=>
 cnd y13
 (bind (bop .int .sub s6 (Value.int .i64 1)) fun y14=>
 bind (ixa 1 s0 y14) fun y15=>
 bind (ld1 y15) fun y16=>
 bind (ixa 1 s0 s6) fun y17=>
 bind (ld1 y17) fun y18=>
 bind (bop .str .geq y16 y18) fun y19=>
 cnd y19
 (ret (.ret (Value.int .i64 9)))
 (bind (bop .int .add s6 (Value.int .i64 1)) fun y20=>
 ret (.nrm [s0,y20])))
 (ret (.ext 2 []))
noncomputable def Q4 (Γ : Zc) (x0 : Value) : M Value:=
 bind (Zp x0) fun y1=>
 bind (bop .int .gtr y1 (Value.int .i64 6)) fun y2=>
 cnd y2
 (ret (Value.int .i64 7))
 (bind (Zp x0) fun y3=>
 jn (Zh (c4 (Q4.l1 Γ)) [x0,x0,y3,(Value.int .i64 0)]) noN (xk 0 (c1 fun q11_0=>
 jn (Zh (c2 (Q4.l2 Γ)) [q11_0,(Value.int .i64 1)]) noN (xk 2 (c0 (ret (Value.int .i64 0))) noX) ret) noX) ret)
theorem Zpy (Γ : Zc) (x0 : Value) : Zv Tryz.prog Γ Tryz.f177 Zid [x0]=Q4 Γ x0:=by kernel_rfl
theorem ZnY {prim : FuncId→Option (List Value→M Value)} (hp : prim Zbs=none) (n : Nat) (x0 : Value) : run Tryz.prog prim lvs (n+1) Zbs [x0]=Q4 (run Tryz.prog prim lvs n) x0:=
 (Zi hp (by kernel_rfl) Tryz.func177 (by kernel_rfl)).trans (Zpy _ x0)
noncomputable def Zbt (Γ : Zc) (x0 : Value) : M Value:=
 bind (bop .str .eql x0 (Value.string ⟨#[]⟩)) fun y1=>
 bind (ZD y1 false 3 (bind (QX x0) fun y2=>
 bind (bop .int .gtr y2 (Value.int .i64 12)) fun y3=>
 ret [x0,y2,y3])) (c3 fun _ _ q4_2=>
 bind (pick y1 (Value.bool true) q4_2) fun y5=>
 bind (ZD y5 false 4 (bind (ixs x0 (Value.int .i64 0)) fun y6=>
 bind (Γ Yq [y6]) fun y7=>
 bind (uop .not y7) fun y8=>
 ret [x0,y6,y7,y8])) (c4 fun _ _ _ q9_3=>
 bind (pick y5 (Value.bool true) q9_3) fun y10=>
 bind (ZD y10 false 3 (bind (Γ YK [x0,(Value.func (.func 168) #[] #[])]) fun y11=>
 bind (uop .not y11) fun y12=>
 ret [x0,y11,y12])) (c3 fun _ _ q13_2=>
 bind (pick y10 (Value.bool true) q13_2) fun y14=>
 cnd y14
 (ret (Value.bool false))
 (bind (QX x0) fun y15=>
 bind (bop .int .sub y15 (Value.int .i64 1)) fun y16=>
 bind (ixs x0 y16) fun y17=>
 bind (Γ Yq [y17]) fun y18=>
 bind (ZD y18 false 2 (bind (Γ YM [y17]) fun y19=>
 ret [y17,y19])) (c2 fun _ q20_1=>
 bind (pick y18 (Value.bool true) q20_1) fun y21=>
 ret y21)))))
theorem ZpA (Γ : Zc) (x0 : Value) : Zv Tryz.prog Γ Tryz.f178 Zim [x0]=Zbt Γ x0:=by kernel_rfl
theorem Zn9 {prim : FuncId→Option (List Value→M Value)} (hp : prim Ww=none) (n : Nat) (x0 : Value) : run Tryz.prog prim lvs (n+1) Ww [x0]=Zbt (run Tryz.prog prim lvs n) x0:=
 (Zi hp (by kernel_rfl) Tryz.func178 (by kernel_rfl)).trans (ZpA _ x0)
noncomputable def Kr.l1 (Γ : Zc) (s6 s7 s8 : Value) : M Out:=
 bind (bop .int .lss s8 s7) fun y2=>
 cnd y2
 (bind (ixa 1 s6 s8) fun y3=>
 bind (ld1 y3) fun y4=>
 bind (Γ QW [y4]) fun y5=>
 bind (bop .int .neq y5 (Value.int .i64 0)) fun y6=>
 cnd y6
 (ret (.ret y5))
 (bind (bop .int .add s8 (Value.int .i64 1)) fun y7=>
 ret (.nrm [s6,s7,y7])))
 (ret (.ext 0 []))
noncomputable def Kr (Γ : Zc) (x0 : Value) : M Value:=
 bind (Zp x0) fun y1=>
 jn (Zh (c3 (Kr.l1 Γ)) [x0,y1,(Value.int .i64 0)]) noN (xk 0 (c0 (ret (Value.int .i64 0))) noX) ret
theorem ZpX (Γ : Zc) (x0 : Value) : Zv Tryz.prog Γ Tryz.f179 Zia [x0]=Kr Γ x0:=by kernel_rfl
theorem Zon {prim : FuncId→Option (List Value→M Value)} (hp : prim Zaz=none) (n : Nat) (x0 : Value) : run Tryz.prog prim lvs (n+1) Zaz [x0]=Kr (run Tryz.prog prim lvs n) x0:=
 (Zi hp (by kernel_rfl) Tryz.func179 (by kernel_rfl)).trans (ZpX _ x0)
noncomputable def KQ.l1 (Γ : Zc) (s3 s8 s9 s10 : Value) : M Out:=
 bind (bop .int .lss s10 s9) fun y3=>
 cnd y3
 (bind (ixa 1 s8 s10) fun y4=>
 bind (ld1 y4) fun y5=>
 bind (bop .int .geq y5 (Value.int .u8 65)) fun y6=>
 bind (ZD y6 true 2 (bind (bop .int .leq y5 (Value.int .u8 90)) fun y7=>
 ret [y5,y7])) (c2 fun _ q8_1=>
 bind (pick y6 q8_1 (Value.bool false)) fun y9=>
 jn (cnd y9
 (bind (bop .int .add y5 (Value.int .u8 97)) fun y10=>
 bind (bop .int .sub y10 (Value.int .u8 65)) fun y11=>
 bind (ixa 1 s3 s10) fun y12=>
 bind (st1 y12 y11) fun _=>
 ret (.nrm [s3,s8,s9,s10]))
 (ret (.nrm [s3,s8,s9,s10]))) (c4 fun q13_0 q13_1 q13_2 q13_3=>
 bind (bop .int .add q13_3 (Value.int .i64 1)) fun y14=>
 ret (.nrm [q13_0,q13_1,q13_2,y14])) noX ZY))
 (ret (.ext 0 [s3]))
noncomputable def KQ (Γ : Zc) (x0 : Value) : M Value:=
 bind (s2b x0) fun y1=>
 bind (Zp y1) fun y2=>
 jn (Zh (c4 (KQ.l1 Γ)) [y1,y1,y2,(Value.int .i64 0)]) noN (xk 0 (c1 fun q17_0=>
 bind (b2s q17_0) fun y18=>
 ret y18) noX) ret
theorem Zsc (Γ : Zc) (x0 : Value) : Zv Tryz.prog Γ Tryz.f180 Zlh [x0]=KQ Γ x0:=by kernel_rfl
theorem Zq7 {prim : FuncId→Option (List Value→M Value)} (hp : prim Zdk=none) (n : Nat) (x0 : Value) : run Tryz.prog prim lvs (n+1) Zdk [x0]=KQ (run Tryz.prog prim lvs n) x0:=
 (Zi hp (by kernel_rfl) Tryz.func180 (by kernel_rfl)).trans (Zsc _ x0)
noncomputable def Zfy (Γ : Zc) (x0 x1 : Value) : M Value:=
 bind (Γ Kk [x0,x1]) fun y1=>
 bind (Zq y1 0) fun y2=>
 bind (Zq y1 1) fun y3=>
 bind (Zq y1 2) fun y4=>
 ret (Value.tuple #[y2,y3,y4])
theorem ZpQ (Γ : Zc) (x0 x1 : Value) : Zv Tryz.prog Γ Tryz.f181 Zh2 [x0,x1]=Zfy Γ x0 x1:=by kernel_rfl
theorem Zod {prim : FuncId→Option (List Value→M Value)} (hp : prim WC=none) (n : Nat) (x0 x1 : Value) : run Tryz.prog prim lvs (n+1) WC [x0,x1]=Zfy (run Tryz.prog prim lvs n) x0 x1:=
 (Zi hp (by kernel_rfl) Tryz.func181 (by kernel_rfl)).trans (ZpQ _ x0 x1)
noncomputable def ZdI (Γ : Zc) (x0 x1 : Value) : M Value:=
 bind (Γ Zak [x0,x1,(Value.int .i64 0),(Value.int .i64 (-1))]) fun y1=>
 ret y1
theorem Zni (Γ : Zc) (x0 x1 : Value) : Zv Tryz.prog Γ Tryz.f182 Zgo [x0,x1]=ZdI Γ x0 x1:=by kernel_rfl
theorem Zl7 {prim : FuncId→Option (List Value→M Value)} (hp : prim Zas=none) (n : Nat) (x0 x1 : Value) : run Tryz.prog prim lvs (n+1) Zas [x0,x1]=ZdI (run Tryz.prog prim lvs n) x0 x1:=
 (Zi hp (by kernel_rfl) Tryz.func182 (by kernel_rfl)).trans (Zni _ x0 x1)
noncomputable def ZgA (Γ : Zc) (x0 : Value) : M Value:=
 bind (Γ Yq [x0]) fun y1=>
 bind (ZD y1 false 2 (bind (Γ YM [x0]) fun y2=>
 ret [x0,y2])) (c2 fun _ q3_1=>
 bind (pick y1 (Value.bool true) q3_1) fun y4=>
 ret y4)
theorem Zro (Γ : Zc) (x0 : Value) : Zv Tryz.prog Γ Tryz.f183 Zj7 [x0]=ZgA Γ x0:=by kernel_rfl
theorem ZpN {prim : FuncId→Option (List Value→M Value)} (hp : prim Zb2=none) (n : Nat) (x0 : Value) : run Tryz.prog prim lvs (n+1) Zb2 [x0]=ZgA (run Tryz.prog prim lvs n) x0:=
 (Zi hp (by kernel_rfl) Tryz.func183 (by kernel_rfl)).trans (Zro _ x0)
noncomputable def Zbl (Γ : Zc) (x0 : Value) : M Value:=
 bind (bop .int .geq x0 (Value.int .u8 97)) fun y1=>
 bind (ZD y1 true 2 (bind (bop .int .leq x0 (Value.int .u8 122)) fun y2=>
 ret [x0,y2])) (c2 fun _ q3_1=>
 bind (pick y1 q3_1 (Value.bool false)) fun y4=>
 ret y4)
theorem ZpE (Γ : Zc) (x0 : Value) : Zv Tryz.prog Γ Tryz.f184 Zh4 [x0]=Zbl Γ x0:=by kernel_rfl
theorem Zov {prim : FuncId→Option (List Value→M Value)} (hp : prim Yq=none) (n : Nat) (x0 : Value) : run Tryz.prog prim lvs (n+1) Yq [x0]=Zbl (run Tryz.prog prim lvs n) x0:=
 (Zi hp (by kernel_rfl) Tryz.func184 (by kernel_rfl)).trans (ZpE _ x0)
noncomputable def Zb8 (Γ : Zc) (x0 : Value) : M Value:=
 bind (bop .int .geq x0 (Value.int .u8 48)) fun y1=>
 bind (ZD y1 true 2 (bind (bop .int .leq x0 (Value.int .u8 57)) fun y2=>
 ret [x0,y2])) (c2 fun _ q3_1=>
 bind (pick y1 q3_1 (Value.bool false)) fun y4=>
 ret y4)
theorem ZrJ (Γ : Zc) (x0 : Value) : Zv Tryz.prog Γ Tryz.f185 Zjd [x0]=Zb8 Γ x0:=by kernel_rfl
theorem ZpF {prim : FuncId→Option (List Value→M Value)} (hp : prim YM=none) (n : Nat) (x0 : Value) : run Tryz.prog prim lvs (n+1) YM [x0]=Zb8 (run Tryz.prog prim lvs n) x0:=
 (Zi hp (by kernel_rfl) Tryz.func185 (by kernel_rfl)).trans (ZrJ _ x0)
noncomputable def Zax (Γ : Zc) (x0 : Value) : M Value:=
 bind (Γ QO [x0]) fun y1=>
 bind (Γ Qn [y1,(Value.func (.func 172) #[] #[])]) fun y2=>
 ret y2
theorem ZgF (Γ : Zc) (x0 : Value) : Zv Tryz.prog Γ Tryz.f186 Zb7 [x0]=Zax Γ x0:=by kernel_rfl
theorem Zf1 {prim : FuncId→Option (List Value→M Value)} (hp : prim KY=none) (n : Nat) (x0 : Value) : run Tryz.prog prim lvs (n+1) KY [x0]=Zax (run Tryz.prog prim lvs n) x0:=
 (Zi hp (by kernel_rfl) Tryz.func186 (by kernel_rfl)).trans (ZgF _ x0)
noncomputable def K8 (Γ : Zc) (x0 x1 : Value) : M Value:=
 bind (Qa x0) fun y1=>
 bind (fa 0 y1) fun y2=>
 bind (ld1 y2) fun y3=>
 bind (Zp y3) fun y4=>
 bind (bop .int .gtr x1 y4) fun y5=>
 cnd y5
 (bind (Γ ZX [x0,(Value.int .i64 2)]) fun y6=>
 ret (Value.slice none 0 0))
 (bind (Qa x0) fun y7=>
 bind (fa 0 y7) fun y8=>
 bind (ld1 y8) fun y9=>
 bind (slv 1 y9 none (some x1) none) fun y10=>
 bind (Qa x0) fun y11=>
 bind (fa 0 y11) fun y12=>
 bind (ld1 y12) fun y13=>
 bind (slv 1 y13 (some x1) none none) fun y14=>
 bind (Qa x0) fun y15=>
 bind (fa 0 y15) fun y16=>
 bind (st1 y16 y14) fun _=>
 ret y10)
theorem ZjZ (Γ : Zc) (x0 x1 : Value) : Zv Tryz.prog Γ Tryz.f187 Zej [x0,x1]=K8 Γ x0 x1:=by kernel_rfl
theorem Zit {prim : FuncId→Option (List Value→M Value)} (hp : prim YA=none) (n : Nat) (x0 x1 : Value) : run Tryz.prog prim lvs (n+1) YA [x0,x1]=K8 (run Tryz.prog prim lvs n) x0 x1:=
 (Zi hp (by kernel_rfl) Tryz.func187 (by kernel_rfl)).trans (ZjZ _ x0 x1)
noncomputable def Zpf.l1 (Γ : Zc) (s0 s1 s5 : Value) : M Out:=
 bind (QX s0) fun y1=>
 bind (bop .int .lss s5 y1) fun y2=>
 cnd y2
 (bind (ixs s0 s5) fun y3=>
 bind (Γ Zpk [y3,s1]) fun y4=>
 bind (uop .not y4) fun y5=>
 cnd y5
 (ret (.ret (Value.bool false)))
 (bind (bop .int .add s5 (Value.int .i64 1)) fun y6=>
 ret (.nrm [s0,s1,y6])))
 (ret (.ext 0 []))
noncomputable def Zpf (Γ : Zc) (x0 x1 : Value) : M Value:=
 jn (Zh (c3 (Zpf.l1 Γ)) [x0,x1,(Value.int .i64 0)]) noN (xk 0 (c0 (ret (Value.bool true))) noX) ret
noncomputable def ZoX.l1 (Γ : Zc) (s0 s1 s5 : Value) : M Out:=
 bind (QX s1) fun y1=>
 bind (bop .int .lss s5 y1) fun y2=>
 cnd y2
 (bind (ixs s1 s5) fun y3=>
 bind (bop .int .eql y3 s0) fun y4=>
 cnd y4
 (ret (.ret (Value.bool true)))
 (bind (bop .int .add s5 (Value.int .i64 1)) fun y5=>
 ret (.nrm [s0,s1,y5])))
 (ret (.ext 0 []))
noncomputable def ZoX (Γ : Zc) (x0 x1 : Value) : M Value:=
 jn (Zh (c3 (ZoX.l1 Γ)) [x0,x1,(Value.int .i64 0)]) noN (xk 0 (c0 (ret (Value.bool false))) noX) ret
noncomputable def Zk2.l1 (Γ : Zc) (s1 s7 s8 s9 : Value) : M Out:=
 bind (bop .int .lss s9 s8) fun y2=>
 cnd y2
 (bind (ixa 5 s7 s9) fun y3=>
 bind (ldA 5 y3) fun y4=>
 bind (alc 1 (.agg #[.string ⟨#[]⟩,.string ⟨#[]⟩,.string ⟨#[]⟩,.bool false,.slice none 0 0])) fun y5=>
 bind (stA 5 y5 y4) fun _=>
 bind (fa 0 y5) fun y6=>
 bind (ld1 y6) fun y7=>
 bind (bop .str .eql y7 s1) fun y8=>
 cnd y8
 (ret (.ret s9))
 (bind (bop .int .add s9 (Value.int .i64 1)) fun y9=>
 ret (.nrm [s1,s7,s8,y9])))
 (ret (.ext 0 []))
noncomputable def Zk2 (Γ : Zc) (x0 x1 : Value) : M Value:=
 bind (Zp x0) fun y1=>
 jn (Zh (c4 (Zk2.l1 Γ)) [x1,x0,y1,(Value.int .i64 0)]) noN (xk 0 (c0 (ret (Value.int .i64 (-1)))) noX) ret
noncomputable def Za4 (Γ : Zc) (x0 : Value) : M Value:=
 bind (Γ YM [x0]) fun y1=>
 bind (ZD y1 false 3 (bind (bop .int .geq x0 (Value.int .u8 97)) fun y2=>
 ret [x0,y2,y2])) (c3 fun _ _ q3_2=>
 bind (ZD q3_2 true 2 (bind (bop .int .leq x0 (Value.int .u8 102)) fun y4=>
 ret [x0,y4])) (c2 fun _ q5_1=>
 bind (ZD y1 false 1 (bind (pick q3_2 q5_1 (Value.bool false)) fun y6=>
 ret [y6])) (c1 fun q7_0=>
 bind (pick y1 (Value.bool true) q7_0) fun y8=>
 ret y8)))
theorem ZqX (Γ : Zc) (x0 : Value) : Zv Tryz.prog Γ Tryz.f191 Zj5 [x0]=Za4 Γ x0:=by kernel_rfl
theorem ZpL {prim : FuncId→Option (List Value→M Value)} (hp : prim Zb6=none) (n : Nat) (x0 : Value) : run Tryz.prog prim lvs (n+1) Zb6 [x0]=Za4 (run Tryz.prog prim lvs n) x0:=
 (Zi hp (by kernel_rfl) Tryz.func191 (by kernel_rfl)).trans (ZqX _ x0)
noncomputable def Zd3.l2 (Γ : Zc) (s0 s3 s4 s5 s6 s19 : Value) : M Out:=
 bind (bop .int .lss s19 (Value.int .i64 26)) fun y5=>
 cnd y5
 (bind (ixs s0 s5) fun y6=>
 bind (ixs s3 s19) fun y7=>
 bind (bop .int .eql y6 y7) fun y8=>
 jn (cnd y8
 (bind (bop .int .add s19 (Value.int .i64 1)) fun y9=>
 bind (sls (Value.string ⟨#[97,98,99,100,101,102,103,104,105,106,107,108,109,110,111,112,113,114,115,116,117,118,119,120,121,122]⟩) (some s19) (some y9)) fun y10=>
 ret (.nrm [s0,s3,s4,s5,y10,s19]))
 (ret (.nrm [s0,s3,s4,s5,s6,s19]))) (c6 fun q11_0 q11_1 q11_2 q11_3 q11_4 q11_5=>
 bind (bop .int .add q11_5 (Value.int .i64 1)) fun y12=>
 ret (.nrm [q11_0,q11_1,q11_2,q11_3,q11_4,y12])) noX ZY)
 (ret (.ext 2 [s0,s3,s4,s5,s6]))
noncomputable def Zd3.l1 (Γ : Zc) (s0 s3 s4 s5 : Value) : M Out:=
 bind (QX s0) fun y1=>
 bind (bop .int .lss s5 y1) fun y2=>
 cnd y2
 (bind (bop .int .add s5 (Value.int .i64 1)) fun y3=>
 bind (sls s0 (some s5) (some y3)) fun y4=>
 jn (Zh (c6 (Zd3.l2 Γ)) [s0,s3,s4,s5,y4,(Value.int .i64 0)]) noN (xk 2 (c5 fun q15_0 q15_1 q15_2 q15_3 q15_4=>
 bind (bop .str .add q15_2 q15_4) fun y16=>
 bind (bop .int .add q15_3 (Value.int .i64 1)) fun y17=>
 ret (.nrm [q15_0,q15_1,y16,y17])) noX) ZY)
 (ret (.ext 0 [s4]))
noncomputable def Zd3 (Γ : Zc) (x0 : Value) : M Value:=
 jn (Zh (c4 (Zd3.l1 Γ)) [x0,(Value.string ⟨#[65,66,67,68,69,70,71,72,73,74,75,76,77,78,79,80,81,82,83,84,85,86,87,88,89,90]⟩),(Value.string ⟨#[]⟩),(Value.int .i64 0)]) noN (xk 0 (c1 fun q20_0=>
 ret q20_0) noX) ret
noncomputable def ZmG.l1 (Γ : Zc) (s1 s7 s8 s9 : Value) : M Out:=
 bind (bop .int .lss s9 s8) fun y2=>
 cnd y2
 (bind (ixa 1 s7 s9) fun y3=>
 bind (ld1 y3) fun y4=>
 bind (bop .str .eql y4 s1) fun y5=>
 cnd y5
 (ret (.ret (Value.bool true)))
 (bind (bop .int .add s9 (Value.int .i64 1)) fun y6=>
 ret (.nrm [s1,s7,s8,y6])))
 (ret (.ext 0 []))
noncomputable def ZmG (Γ : Zc) (x0 x1 : Value) : M Value:=
 bind (Zp x0) fun y1=>
 jn (Zh (c4 (ZmG.l1 Γ)) [x1,x0,y1,(Value.int .i64 0)]) noN (xk 0 (c0 (ret (Value.bool false))) noX) ret
noncomputable def ZgG (Γ : Zc) (x0 : Value) : M Value:=
 bind (ld1 x0) fun y1=>
 bind (Γ YV [y1]) fun y2=>
 ret y2
theorem Zqo (Γ : Zc) (x0 : Value) : Zv Tryz.prog Γ Tryz.f198 Zi7 [x0]=ZgG Γ x0:=by kernel_rfl
theorem ZpB {prim : FuncId→Option (List Value→M Value)} (hp : prim Jv=none) (n : Nat) (x0 : Value) : run Tryz.prog prim lvs (n+1) Jv [x0]=ZgG (run Tryz.prog prim lvs n) x0:=
 (Zi hp (by kernel_rfl) Tryz.func198 (by kernel_rfl)).trans (Zqo _ x0)
noncomputable def Zdf (Γ : Zc) (x0 x1 : Value) : M Value:=
 bind (ld1 x0) fun y1=>
 bind (ld1 x1) fun y2=>
 bind (Γ Js [y1,y2]) fun y3=>
 bind (Z6 Γ y3 []) fun y4=>
 bind (bop .int .eql y4 (Value.int .i64 0)) fun y5=>
 cnd y5
 (ret (Value.int .i64 9))
 (bind (ld1 x0) fun y6=>
 bind (Qa y6) fun y7=>
 bind (fa 0 y7) fun y8=>
 bind (ld1 y8) fun y9=>
 bind (lenM y9) fun y10=>
 bind (bop .int .geq y10 (Value.int .i64 12)) fun y11=>
 cnd y11
 (ret (Value.int .i64 7))
 (ret (Value.int .i64 0)))
theorem Zl9 (Γ : Zc) (x0 x1 : Value) : Zv Tryz.prog Γ Tryz.f199 ZfT [x0,x1]=Zdf Γ x0 x1:=by kernel_rfl
theorem ZkK {prim : FuncId→Option (List Value→M Value)} (hp : prim JQ=none) (n : Nat) (x0 x1 : Value) : run Tryz.prog prim lvs (n+1) JQ [x0,x1]=Zdf (run Tryz.prog prim lvs n) x0 x1:=
 (Zi hp (by kernel_rfl) Tryz.func199 (by kernel_rfl)).trans (Zl9 _ x0 x1)
noncomputable def KL (Γ : Zc) (x0 x1 : Value) : M Value:=
 bind (Zp x0) fun y1=>
 bind (cvi .u64 y1) fun y2=>
 bind (Γ Zca [y2]) fun y3=>
 bind (Γ QB [x0,(Value.int .i64 0),y1,y3,x1]) fun y4=>
 ret (Value.tuple #[])
theorem Zdt (Γ : Zc) (x0 x1 : Value) : Zv Tryz.prog Γ Tryz.f201 Zaf [x0,x1]=KL Γ x0 x1:=by kernel_rfl
theorem Zdb {prim : FuncId→Option (List Value→M Value)} (hp : prim KM=none) (n : Nat) (x0 x1 : Value) : run Tryz.prog prim lvs (n+1) KM [x0,x1]=KL (run Tryz.prog prim lvs n) x0 x1:=
 (Zi hp (by kernel_rfl) Tryz.func201 (by kernel_rfl)).trans (Zdt _ x0 x1)
noncomputable def Zbv (Γ : Zc) (x0 x1 : Value) : M Value:=
 bind (Γ Y0 [x0]) fun y1=>
 bind (Γ Y0 [x1]) fun y2=>
 cnd y1
 (cnd y2
 (ret (Value.int .i64 0))
 (ret (Value.int .i64 (-1))))
 (cnd y2
 (ret (Value.int .i64 1))
 (bind (bop .str .lss x0 x1) fun y3=>
 cnd y3
 (ret (Value.int .i64 (-1)))
 (bind (bop .str .gtr x0 x1) fun y4=>
 cnd y4
 (ret (Value.int .i64 1))
 (ret (Value.int .i64 0)))))
theorem Zix (Γ : Zc) (x0 x1 : Value) : Zv Tryz.prog Γ Tryz.f203 ZdA [x0,x1]=Zbv Γ x0 x1:=by kernel_rfl
theorem Zha {prim : FuncId→Option (List Value→M Value)} (hp : prim WX=none) (n : Nat) (x0 x1 : Value) : run Tryz.prog prim lvs (n+1) WX [x0,x1]=Zbv (run Tryz.prog prim lvs n) x0 x1:=
 (Zi hp (by kernel_rfl) Tryz.func203 (by kernel_rfl)).trans (Zix _ x0 x1)
noncomputable def Wp (Γ : Zc) (x0 x1 : Value) : M Value:=
 bind (Γ QN [x0,x1]) fun y1=>
 bind (bop .int .geq y1 (Value.int .i64 0)) fun y2=>
 cnd y2
 (bind (sls x0 none (some y1)) fun y3=>
 bind (QX x1) fun y4=>
 bind (bop .int .add y1 y4) fun y5=>
 bind (sls x0 (some y5) none) fun y6=>
 ret (Value.tuple #[y3,y6,(Value.bool true)]))
 (ret (Value.tuple #[x0,(Value.string ⟨#[]⟩),(Value.bool false)]))
theorem Ze2 (Γ : Zc) (x0 x1 : Value) : Zv Tryz.prog Γ Tryz.f205 Zbe [x0,x1]=Wp Γ x0 x1:=by kernel_rfl
theorem Zez {prim : FuncId→Option (List Value→M Value)} (hp : prim Kk=none) (n : Nat) (x0 x1 : Value) : run Tryz.prog prim lvs (n+1) Kk [x0,x1]=Wp (run Tryz.prog prim lvs n) x0 x1:=
 (Zi hp (by kernel_rfl) Tryz.func205 (by kernel_rfl)).trans (Ze2 _ x0 x1)
noncomputable def JF.l1 (Γ : Zc) (s0 s1 s2 s3 s9 s10 : Value) : M Out:=
 bind (bop .int .lss s10 s3) fun y13=>
 cnd y13
 (bind (Γ Wk [s0,s1]) fun y14=>
 bind (bop .int .lss y14 (Value.int .i64 0)) fun y15=>
 cnd y15
 (ret (.ext 0 [s0,s9,s10]))
 (bind (bop .int .add y14 s2) fun y16=>
 bind (sls s0 none (some y16)) fun y17=>
 bind (ixa 1 s9 s10) fun y18=>
 bind (st1 y18 y17) fun _=>
 bind (QX s1) fun y19=>
 bind (bop .int .add y14 y19) fun y20=>
 bind (sls s0 (some y20) none) fun y21=>
 bind (bop .int .add s10 (Value.int .i64 1)) fun y22=>
 ret (.nrm [y21,s1,s2,s3,s9,y22])))
 (ret (.ext 0 [s0,s9,s10]))
noncomputable def JF (Γ : Zc) (x0 x1 x2 x3 : Value) : M Value:=
 bind (bop .int .eql x3 (Value.int .i64 0)) fun y1=>
 cnd y1
 (ret (Value.slice none 0 0))
 (bind (bop .str .eql x1 (Value.string ⟨#[]⟩)) fun y2=>
 cnd y2
 (bind (Γ Zml [x0,x3]) fun y3=>
 ret y3)
 (bind (bop .int .lss x3 (Value.int .i64 0)) fun y4=>
 jn (cnd y4
 (bind (Γ ZaB [x0,x1]) fun y5=>
 bind (bop .int .add y5 (Value.int .i64 1)) fun y6=>
 ret (.nrm [x0,x1,x2,y6]))
 (ret (.nrm [x0,x1,x2,x3]))) (c4 fun q7_0 q7_1 q7_2 q7_3=>
 bind (QX q7_0) fun y8=>
 bind (bop .int .add y8 (Value.int .i64 1)) fun y9=>
 bind (mxi false q7_3 y9) fun y10=>
 bind (mks 1 16 (.string ⟨#[]⟩) y10 y10) fun y11=>
 bind (bop .int .sub y10 (Value.int .i64 1)) fun y12=>
 jn (jn (Zh (c6 (JF.l1 Γ)) [q7_0,q7_1,q7_2,y12,y11,(Value.int .i64 0)]) noN (xk 0 (c3 fun q24_0 q24_1 q24_2=>
 ret (.nrm [q24_0,q24_1,q24_2])) noX) ZY) (c3 fun q26_0 q26_1 q26_2=>
 bind (ixa 1 q26_1 q26_2) fun y27=>
 bind (st1 y27 q26_0) fun _=>
 bind (bop .int .add q26_2 (Value.int .i64 1)) fun y28=>
 bind (slv 1 q26_1 none (some y28) none) fun y29=>
 ret y29) noX ret) noX ret))
theorem Zj1 (Γ : Zc) (x0 x1 x2 x3 : Value) : Zv Tryz.prog Γ Tryz.f206 Zeh [x0,x1,x2,x3]=JF Γ x0 x1 x2 x3:=by kernel_rfl
theorem ZiA {prim : FuncId→Option (List Value→M Value)} (hp : prim Zak=none) (n : Nat) (x0 x1 x2 x3 : Value) : run Tryz.prog prim lvs (n+1) Zak [x0,x1,x2,x3]=JF (run Tryz.prog prim lvs n) x0 x1 x2 x3:=
 (Zi hp (by kernel_rfl) Tryz.func206 (by kernel_rfl)).trans (Zj1 _ x0 x1 x2 x3)
noncomputable def JR (Γ : Zc) (x0 : Value) : M Value:=
 bind (alc 1 x0) fun y1=>
 ret (Value.func (.func 216) #[] #[y1])
theorem Zar (Γ : Zc) (x0 : Value) : Zv Tryz.prog Γ Tryz.f207 Kb [x0]=JR Γ x0:=by kernel_rfl
theorem Zaj {prim : FuncId→Option (List Value→M Value)} (hp : prim QO=none) (n : Nat) (x0 : Value) : run Tryz.prog prim lvs (n+1) QO [x0]=JR (run Tryz.prog prim lvs n) x0:=
 (Zi hp (by kernel_rfl) Tryz.func207 (by kernel_rfl)).trans (Zar _ x0)
noncomputable abbrev Zag.o1 (s2 : Value) (st : LoopState) (pd : Option Code) : Zg:=.loop Tryz.f208 Kp 26 [0] (ZyA Tryz.f208 26) [(2,s2)] st pd
noncomputable def Zag.r1 (Γ : Zc) (L : Nat) (s2 : Value) (a0 : Value) : M Value:=
 Zwu L (
 bind (ld1 s2) fun y2=>
 bind (bsl 1 1 (.string ⟨#[]⟩) [(0,1,a0)]) fun y3=>
 bind (app 1 16 y2 y3) fun y4=>
 bind (st1 s2 y4) fun _=>
 ZoM L none)
noncomputable def Zag (Γ : Zc) (x0 x1 : Value) : M Value:=
 bind (alc 1 x0) fun y1=>
 Zjo (Zp7 Tryz.prog) Γ x1 Tryz.f208 Kp 26 [0] (ZyA Tryz.f208 26) [(2,y1)] fun pd_5=>
 (match pd_5 with
 | none=>bind (ld1 y1) fun y6=>
 ret y6
 | some (.exit j_5)=>fail
 | some .ret=>ret (Value.slice none 0 0)
 | _=>fail)
noncomputable def Q2.l1 (Γ : Zc) (s0 s1 s2 s3 s4 s10 s11 : Value) : M Out:=
 jn (bind (bop .int .sub s2 s1) fun y1=>
 bind (bop .int .leq y1 (Value.int .i64 12)) fun y2=>
 cnd y2
 (bind (Γ QQ [s0,s1,s2,s4]) fun y3=>
 ret (.ret (Value.tuple #[])))
 (bind (bop .int .eql s3 (Value.int .i64 0)) fun y4=>
 cnd y4
 (bind (Γ Zdv [s0,s1,s2,s4]) fun y5=>
 ret (.ret (Value.tuple #[])))
 (bind (uop .not s10) fun y6=>
 jn (cnd y6
 (bind (Γ ZbS [s0,s1,s2,s4]) fun y7=>
 bind (bop .int .sub s3 (Value.int .i64 1)) fun y8=>
 ret (.nrm [s0,s1,s2,y8,s4,s10,s11,y1]))
 (ret (.nrm [s0,s1,s2,s3,s4,s10,s11,y1]))) (c8 fun q9_0 q9_1 q9_2 q9_3 q9_4 q9_5 q9_6 q9_7=>
 bind (Γ Zcj [q9_0,q9_1,q9_2,q9_4]) fun y10=>
 bind (Zq y10 0) fun y11=>
 bind (Zq y10 1) fun y12=>
 bind (bop .int .eql y12 (Value.int .i64 2)) fun y13=>
 jn (cnd y13
 (bind (Γ Zb0 [q9_0,q9_1,q9_2,q9_4]) fun y14=>
 bind (bop .int .sub q9_2 (Value.int .i64 1)) fun y15=>
 bind (bop .int .sub y11 q9_1) fun y16=>
 bind (bop .int .sub y15 y16) fun y17=>
 ret (.nrm [q9_0,q9_1,q9_2,q9_3,q9_4,q9_5,q9_6,q9_7,y17,(Value.int .i64 1)]))
 (ret (.nrm [q9_0,q9_1,q9_2,q9_3,q9_4,q9_5,q9_6,q9_7,y11,y12]))) (c10 fun q18_0 q18_1 q18_2 q18_3 q18_4 q18_5 q18_6 q18_7 q18_8 q18_9=>
 bind (ZD q18_5 true 1 (ret [q18_6])) (c1 fun q19_0=>
 bind (pick q18_5 q19_0 (Value.bool false)) fun y20=>
 bind (ZD y20 true 2 (bind (bop .int .eql q18_9 (Value.int .i64 1)) fun y21=>
 ret [q18_9,y21])) (c2 fun _ q22_1=>
 bind (pick y20 q22_1 (Value.bool false)) fun y23=>
 jn (cnd y23
 (bind (Γ ZaG [q18_0,q18_1,q18_2,q18_4]) fun y24=>
 cnd y24
 (ret (.ret (Value.tuple #[])))
 (ret (.nrm [q18_0,q18_1,q18_2,q18_3,q18_4,q18_5,q18_6,q18_7,q18_8])))
 (ret (.nrm [q18_0,q18_1,q18_2,q18_3,q18_4,q18_5,q18_6,q18_7,q18_8]))) (c9 fun q25_0 q25_1 q25_2 q25_3 q25_4 q25_5 q25_6 q25_7 q25_8=>
 bind (bop .int .gtr q25_1 (Value.int .i64 0)) fun y26=>
 bind (Ze y26 true (ret q25_4)) fun y27=>
 bind (Ze y26 true (ret q25_0)) fun y28=>
 bind (Ze y26 true (ret q25_1)) fun y29=>
 bind (Ze y26 true (bop .int .sub y29 (Value.int .i64 1))) fun y30=>
 bind (Ze y26 true (ixa 1 y28 y30)) fun y31=>
 bind (Ze y26 true (ld1 y31)) fun y32=>
 bind (Ze y26 true (ret q25_0)) fun y33=>
 bind (Ze y26 true (ret q25_8)) fun y34=>
 bind (Ze y26 true (ixa 1 y33 y34)) fun y35=>
 bind (Ze y26 true (ld1 y35)) fun y36=>
 bind (Ze y26 true (Z6 Γ y27 [y32,y36])) fun y37=>
 bind (Ze y26 true (bop .int .lss y37 (Value.int .i64 0))) fun y38=>
 bind (Ze y26 true (uop .not y38)) fun y39=>
 bind (pick y26 y39 (Value.bool false)) fun y40=>
 cnd y40
 (bind (Γ ZbK [q25_0,q25_1,q25_2,q25_8,q25_4]) fun y41=>
 ret (.nrm [q25_0,y41,q25_2,q25_3,q25_4,q25_5,q25_6]))
 (bind (Γ ZcS [q25_0,q25_1,q25_2,q25_8,q25_4]) fun y42=>
 bind (Zq y42 0) fun y43=>
 bind (Zq y42 1) fun y44=>
 bind (bop .int .sub y43 q25_1) fun y45=>
 bind (bop .int .sub q25_2 y43) fun y46=>
 bind (bop .int .quo q25_7 (Value.int .i64 8)) fun y47=>
 bind (bop .int .lss y45 y46) fun y48=>
 jn (cnd y48
 (bind (bop .int .geq y45 y47) fun y49=>
 bind (Γ QB [q25_0,q25_1,y43,q25_3,q25_4]) fun y50=>
 bind (bop .int .add y43 (Value.int .i64 1)) fun y51=>
 ret (.nrm [q25_0,y51,q25_2,q25_3,q25_4,y49,y44]))
 (bind (bop .int .geq y46 y47) fun y52=>
 bind (bop .int .add y43 (Value.int .i64 1)) fun y53=>
 bind (Γ QB [q25_0,y53,q25_2,q25_3,q25_4]) fun y54=>
 ret (.nrm [q25_0,q25_1,y43,q25_3,q25_4,y52,y44]))) (c7 fun q55_0 q55_1 q55_2 q55_3 q55_4 q55_5 q55_6=>
 ret (.nrm [q55_0,q55_1,q55_2,q55_3,q55_4,q55_5,q55_6])) noX ZY)) noX ZY))) noX ZY) noX ZY))) (c7 fun q60_0 q60_1 q60_2 q60_3 q60_4 q60_5 q60_6=>
 ret (.nrm [q60_0,q60_1,q60_2,q60_3,q60_4,q60_5,q60_6])) noX ZY
noncomputable def Q2 (Γ : Zc) (x0 x1 x2 x3 x4 : Value) : M Value:=
 jn (Zh (c7 (Q2.l1 Γ)) [x0,x1,x2,x3,x4,(Value.bool true),(Value.bool true)]) noN noX ret
theorem Zdu (Γ : Zc) (x0 x1 x2 x3 x4 : Value) : Zv Tryz.prog Γ Tryz.f209 Zai [x0,x1,x2,x3,x4]=Q2 Γ x0 x1 x2 x3 x4:=by kernel_rfl
theorem Zc8 {prim : FuncId→Option (List Value→M Value)} (hp : prim QB=none) (n : Nat) (x0 x1 x2 x3 x4 : Value) : run Tryz.prog prim lvs (n+1) QB [x0,x1,x2,x3,x4]=Q2 (run Tryz.prog prim lvs n) x0 x1 x2 x3 x4:=
 (Zi hp (by kernel_rfl) Tryz.func209 (by kernel_rfl)).trans (Zdu _ x0 x1 x2 x3 x4)
noncomputable def Zew (Γ : Zc) (x0 : Value) : M Value:=
 cnd (Value.bool false)
 (bind (cvi .u32 x0) fun y1=>
 bind (Γ ZmP [y1]) fun y2=>
 ret y2)
 (bind (Γ Zbf [x0]) fun y3=>
 ret y3)
theorem Zog (Γ : Zc) (x0 : Value) : Zv Tryz.prog Γ Tryz.f210 Zg0 [x0]=Zew Γ x0:=by kernel_rfl
theorem Zns {prim : FuncId→Option (List Value→M Value)} (hp : prim Zca=none) (n : Nat) (x0 : Value) : run Tryz.prog prim lvs (n+1) Zca [x0]=Zew (run Tryz.prog prim lvs n) x0:=
 (Zi hp (by kernel_rfl) Tryz.func210 (by kernel_rfl)).trans (Zog _ x0)
noncomputable def Zct (Γ : Zc) (x0 : Value) : M Value:=
 bind (bop .str .neq x0 x0) fun y1=>
 ret y1
theorem ZkH (Γ : Zc) (x0 : Value) : Zv Tryz.prog Γ Tryz.f211 ZeY [x0]=Zct Γ x0:=by kernel_rfl
theorem ZjN {prim : FuncId→Option (List Value→M Value)} (hp : prim Y0=none) (n : Nat) (x0 : Value) : run Tryz.prog prim lvs (n+1) Y0 [x0]=Zct (run Tryz.prog prim lvs n) x0:=
 (Zi hp (by kernel_rfl) Tryz.func211 (by kernel_rfl)).trans (ZkH _ x0)
noncomputable def J2.l1 (Γ : Zc) (s0 s1 s5 s6 s7 s8 s9 s10 : Value) : M Out:=
 bind (bop .int .lss s8 s9) fun y23=>
 cnd y23
 (bind (ixs s0 s8) fun y24=>
 bind (bop .int .neq y24 s6) fun y25=>
 jn (cnd y25
 (bind (bop .int .add s8 (Value.int .i64 1)) fun y26=>
 bind (sls s0 (some y26) (some s9)) fun y27=>
 bind (Γ Jt [y27,s6]) fun y28=>
 bind (bop .int .lss y28 (Value.int .i64 0)) fun y29=>
 cnd y29
 (ret (.ret (Value.int .i64 (-1))))
 (bind (bop .int .add y28 (Value.int .i64 1)) fun y30=>
 bind (bop .int .add s8 y30) fun y31=>
 ret (.nrm [s0,s1,s5,s6,s7,y31,s9,s10])))
 (ret (.nrm [s0,s1,s5,s6,s7,s8,s9,s10]))) (c8 fun q32_0 q32_1 q32_2 q32_3 q32_4 q32_5 q32_6 q32_7=>
 bind (bop .int .add q32_5 (Value.int .i64 1)) fun y33=>
 bind (ixs q32_0 y33) fun y34=>
 bind (bop .int .eql y34 q32_4) fun y35=>
 bind (ZD y35 true 8 (bind (bop .int .add q32_5 q32_2) fun y36=>
 bind (sls q32_0 (some q32_5) (some y36)) fun y37=>
 bind (bop .str .eql y37 q32_1) fun y38=>
 ret [q32_0,q32_5,q32_5,q32_2,y36,y37,q32_1,y38])) (c8 fun _ _ _ _ _ _ _ q39_7=>
 bind (pick y35 q39_7 (Value.bool false)) fun y40=>
 cnd y40
 (ret (.ret q32_5))
 (bind (bop .int .add q32_5 (Value.int .i64 1)) fun y41=>
 bind (bop .int .add q32_7 (Value.int .i64 1)) fun y42=>
 bind (ld1 (Value.pointer (some ⟨0,0,none⟩))) fun y43=>
 bind (bop .int .leq q32_2 y43) fun y44=>
 bind (ZD y44 true 4 (bind (Γ ZfN [y41]) fun y45=>
 bind (bop .int .gtr y42 y45) fun y46=>
 ret [y42,y41,y45,y46])) (c4 fun _ _ _ q47_3=>
 bind (pick y44 q47_3 (Value.bool false)) fun y48=>
 cnd y48
 (bind (sls q32_0 (some y41) none) fun y49=>
 bind (Γ ZaE [y49,q32_1]) fun y50=>
 bind (bop .int .geq y50 (Value.int .i64 0)) fun y51=>
 cnd y51
 (bind (bop .int .add y50 y41) fun y52=>
 ret (.ret y52))
 (ret (.ret (Value.int .i64 (-1)))))
 (bind (ld1 (Value.pointer (some ⟨0,0,none⟩))) fun y53=>
 bind (bop .int .gtr q32_2 y53) fun y54=>
 bind (ZD y54 true 5 (bind (bop .int .shr y41 (Value.int .u64 4)) fun y55=>
 bind (bop .int .add (Value.int .i64 4) y55) fun y56=>
 bind (bop .int .geq y42 y56) fun y57=>
 ret [y42,y41,y55,y56,y57])) (c5 fun _ _ _ _ q58_4=>
 bind (pick y54 q58_4 (Value.bool false)) fun y59=>
 bind (ZD y59 true 3 (bind (bop .int .lss y41 q32_6) fun y60=>
 ret [y41,q32_6,y60])) (c3 fun _ _ q61_2=>
 bind (pick y59 q61_2 (Value.bool false)) fun y62=>
 cnd y62
 (bind (sls q32_0 (some y41) none) fun y63=>
 bind (Γ Zbh [y63,q32_1]) fun y64=>
 bind (bop .int .lss y64 (Value.int .i64 0)) fun y65=>
 cnd y65
 (ret (.ret (Value.int .i64 (-1))))
 (bind (bop .int .add y41 y64) fun y66=>
 ret (.ret y66)))
 (ret (.nrm [q32_0,q32_1,q32_2,q32_3,q32_4,y41,q32_6,y42]))))))))) noX ZY)
 (ret (.ext 1 []))
noncomputable def J2 (Γ : Zc) (x0 x1 : Value) : M Value:=
 bind (QX x1) fun y1=>
 bind (bop .int .eql y1 (Value.int .i64 0)) fun y2=>
 bind (ZD y2 false 3 (bind (bop .str .eql x1 x0) fun y3=>
 ret [x1,x0,y3])) (c3 fun _ _ q4_2=>
 bind (pick y2 (Value.bool true) q4_2) fun y5=>
 cnd y5
 (ret (Value.int .i64 0))
 (bind (bop .int .eql y1 (Value.int .i64 1)) fun y6=>
 cnd y6
 (bind (ixs x1 (Value.int .i64 0)) fun y7=>
 bind (Γ Jt [x0,y7]) fun y8=>
 ret y8)
 (bind (QX x0) fun y9=>
 bind (bop .int .geq y1 y9) fun y10=>
 cnd y10
 (ret (Value.int .i64 (-1)))
 (bind (ld1 (Value.pointer (some ⟨0,0,none⟩))) fun y11=>
 bind (bop .int .leq y1 y11) fun y12=>
 bind (ZD y12 true 3 (bind (QX x0) fun y13=>
 bind (bop .int .leq y13 (Value.int .i64 64)) fun y14=>
 ret [x0,y13,y14])) (c3 fun _ _ q15_2=>
 bind (pick y12 q15_2 (Value.bool false)) fun y16=>
 cnd y16
 (bind (Γ ZaE [x0,x1]) fun y17=>
 ret y17)
 (bind (ixs x1 (Value.int .i64 0)) fun y18=>
 bind (ixs x1 (Value.int .i64 1)) fun y19=>
 bind (QX x0) fun y20=>
 bind (bop .int .sub y20 y1) fun y21=>
 bind (bop .int .add y21 (Value.int .i64 1)) fun y22=>
 jn (Zh (c8 (J2.l1 Γ)) [x0,x1,y1,y18,y19,(Value.int .i64 0),y22,(Value.int .i64 0)]) noN (xk 1 (c0 (ret (Value.int .i64 (-1)))) noX) ret))))))
theorem Zd8 (Γ : Zc) (x0 x1 : Value) : Zv Tryz.prog Γ Tryz.f212 ZaJ [x0,x1]=J2 Γ x0 x1:=by kernel_rfl
theorem ZdG {prim : FuncId→Option (List Value→M Value)} (hp : prim QN=none) (n : Nat) (x0 x1 : Value) : run Tryz.prog prim lvs (n+1) QN [x0,x1]=J2 (run Tryz.prog prim lvs n) x0 x1:=
 (Zi hp (by kernel_rfl) Tryz.func212 (by kernel_rfl)).trans (Zd8 _ x0 x1)
noncomputable def Zfx.l1 (Γ : Zc) (s0 s1 s6 s7 : Value) : M Out:=
 bind (bop .int .sub s1 (Value.int .i64 1)) fun y8=>
 bind (bop .int .lss s7 y8) fun y9=>
 cnd y9
 (bind (Γ ZcQ [s0]) fun y10=>
 bind (Zq y10 0) fun y11=>
 bind (Zq y10 1) fun y12=>
 bind (sls s0 none (some y12)) fun y13=>
 bind (ixa 1 s6 s7) fun y14=>
 bind (st1 y14 y13) fun _=>
 bind (sls s0 (some y12) none) fun y15=>
 bind (bop .int .add s7 (Value.int .i64 1)) fun y16=>
 ret (.nrm [y15,s1,s6,y16]))
 (ret (.ext 0 [s0,s1,s6]))
noncomputable def Zfx (Γ : Zc) (x0 x1 : Value) : M Value:=
 bind (Γ WT [x0]) fun y1=>
 bind (bop .int .lss x1 (Value.int .i64 0)) fun y2=>
 bind (ZD y2 false 3 (bind (bop .int .gtr x1 y1) fun y3=>
 ret [x1,y1,y3])) (c3 fun _ _ q4_2=>
 bind (pick y2 (Value.bool true) q4_2) fun y5=>
 jn (cnd y5
 (ret (.nrm [x0,y1]))
 (ret (.nrm [x0,x1]))) (c2 fun q6_0 q6_1=>
 bind (mks 1 16 (.string ⟨#[]⟩) q6_1 q6_1) fun y7=>
 jn (Zh (c4 (Zfx.l1 Γ)) [q6_0,q6_1,y7,(Value.int .i64 0)]) noN (xk 0 (c3 fun q18_0 q18_1 q18_2=>
 bind (bop .int .gtr q18_1 (Value.int .i64 0)) fun y19=>
 jn (cnd y19
 (bind (bop .int .sub q18_1 (Value.int .i64 1)) fun y20=>
 bind (ixa 1 q18_2 y20) fun y21=>
 bind (st1 y21 q18_0) fun _=>
 ret (.nrm [q18_2]))
 (ret (.nrm [q18_2]))) (c1 fun q22_0=>
 ret q22_0) noX ret) noX) ret) noX ret)
noncomputable def Zau.l1 (Γ : Zc) (s0 s1 s5 : Value) : M Out:=
 bind (Γ Wk [s0,s1]) fun y9=>
 bind (bop .int .eql y9 (Value.int .i64 (-1))) fun y10=>
 cnd y10
 (ret (.ret s5))
 (bind (bop .int .add s5 (Value.int .i64 1)) fun y11=>
 bind (QX s1) fun y12=>
 bind (bop .int .add y9 y12) fun y13=>
 bind (sls s0 (some y13) none) fun y14=>
 ret (.nrm [y14,s1,y11]))
noncomputable def Zau (Γ : Zc) (x0 x1 : Value) : M Value:=
 bind (QX x1) fun y1=>
 bind (bop .int .eql y1 (Value.int .i64 0)) fun y2=>
 cnd y2
 (bind (Γ WT [x0]) fun y3=>
 bind (bop .int .add y3 (Value.int .i64 1)) fun y4=>
 ret y4)
 (bind (QX x1) fun y5=>
 bind (bop .int .eql y5 (Value.int .i64 1)) fun y6=>
 cnd y6
 (bind (ixs x1 (Value.int .i64 0)) fun y7=>
 bind (Γ Yv [x0,y7]) fun y8=>
 ret y8)
 (jn (Zh (c3 (Zau.l1 Γ)) [x0,x1,(Value.int .i64 0)]) noN noX ret))
theorem Znh (Γ : Zc) (x0 x1 : Value) : Zv Tryz.prog Γ Tryz.f214 Zgm [x0,x1]=Zau Γ x0 x1:=by kernel_rfl
theorem ZlA {prim : FuncId→Option (List Value→M Value)} (hp : prim ZaB=none) (n : Nat) (x0 x1 : Value) : run Tryz.prog prim lvs (n+1) ZaB [x0,x1]=Zau (run Tryz.prog prim lvs n) x0 x1:=
 (Zi hp (by kernel_rfl) Tryz.func214 (by kernel_rfl)).trans (Znh _ x0 x1)
noncomputable def ZdF (Γ : Zc) (x0 x1 : Value) : M Value:=
 bind (Γ QN [x0,x1]) fun y1=>
 ret y1
theorem Zmt (Γ : Zc) (x0 x1 : Value) : Zv Tryz.prog Γ Tryz.f215 Zgs [x0,x1]=ZdF Γ x0 x1:=by kernel_rfl
theorem ZlU {prim : FuncId→Option (List Value→M Value)} (hp : prim Wk=none) (n : Nat) (x0 x1 : Value) : run Tryz.prog prim lvs (n+1) Wk [x0,x1]=ZdF (run Tryz.prog prim lvs n) x0 x1:=
 (Zi hp (by kernel_rfl) Tryz.func215 (by kernel_rfl)).trans (Zmt _ x0 x1)
noncomputable def ZQ.l2 (Γ : Zc) (s0 s1 s2 s3 s8 s9 : Value) : M Out:=
 bind (bop .int .gtr s9 s1) fun y3=>
 bind (Ze y3 true (ret s3)) fun y4=>
 bind (Ze y3 true (ret s0)) fun y5=>
 bind (Ze y3 true (ret s9)) fun y6=>
 bind (Ze y3 true (ixa 1 y5 y6)) fun y7=>
 bind (Ze y3 true (ld1 y7)) fun y8=>
 bind (Ze y3 true (ret s0)) fun y9=>
 bind (Ze y3 true (ret s9)) fun y10=>
 bind (Ze y3 true (bop .int .sub y10 (Value.int .i64 1))) fun y11=>
 bind (Ze y3 true (ixa 1 y9 y11)) fun y12=>
 bind (Ze y3 true (ld1 y12)) fun y13=>
 bind (Ze y3 true (Z6 Γ y4 [y8,y13])) fun y14=>
 bind (Ze y3 true (bop .int .lss y14 (Value.int .i64 0))) fun y15=>
 bind (pick y3 y15 (Value.bool false)) fun y16=>
 cnd y16
 (bind (bop .int .sub s9 (Value.int .i64 1)) fun y17=>
 bind (bop .int .sub s9 (Value.int .i64 1)) fun y18=>
 bind (ixa 1 s0 y18) fun y19=>
 bind (ld1 y19) fun y20=>
 bind (ixa 1 s0 s9) fun y21=>
 bind (ld1 y21) fun y22=>
 bind (ixa 1 s0 s9) fun y23=>
 bind (st1 y23 y20) fun _=>
 bind (ixa 1 s0 y17) fun y24=>
 bind (st1 y24 y22) fun _=>
 bind (bop .int .sub s9 (Value.int .i64 1)) fun y25=>
 ret (.nrm [s0,s1,s2,s3,s8,y25]))
 (ret (.ext 2 [s0,s1,s2,s3,s8]))
noncomputable def ZQ.l1 (Γ : Zc) (s0 s1 s2 s3 s8 : Value) : M Out:=
 bind (bop .int .lss s8 s2) fun y2=>
 cnd y2
 (jn (Zh (c6 (ZQ.l2 Γ)) [s0,s1,s2,s3,s8,s8]) noN (xk 2 (c5 fun q27_0 q27_1 q27_2 q27_3 q27_4=>
 bind (bop .int .add q27_4 (Value.int .i64 1)) fun y28=>
 ret (.nrm [q27_0,q27_1,q27_2,q27_3,y28])) noX) ZY)
 (ret (.ext 0 []))
noncomputable def ZQ (Γ : Zc) (x0 x1 x2 x3 : Value) : M Value:=
 bind (bop .int .add x1 (Value.int .i64 1)) fun y1=>
 jn (Zh (c5 (ZQ.l1 Γ)) [x0,x1,x2,x3,y1]) noN (xk 0 (c0 (ret (Value.tuple #[]))) noX) ret
theorem ZbG (Γ : Zc) (x0 x1 x2 x3 : Value) : Zv Tryz.prog Γ Tryz.f217 K0 [x0,x1,x2,x3]=ZQ Γ x0 x1 x2 x3:=by kernel_rfl
theorem Zbu {prim : FuncId→Option (List Value→M Value)} (hp : prim QQ=none) (n : Nat) (x0 x1 x2 x3 : Value) : run Tryz.prog prim lvs (n+1) QQ [x0,x1,x2,x3]=ZQ (run Tryz.prog prim lvs n) x0 x1 x2 x3:=
 (Zi hp (by kernel_rfl) Tryz.func217 (by kernel_rfl)).trans (ZbG _ x0 x1 x2 x3)
noncomputable def Yi.l1 (Γ : Zc) (s0 s3 s8 s9 s10 s11 : Value) : M Out:=
 bind (bop .int .geq s11 (Value.int .i64 0)) fun y4=>
 cnd y4
 (bind (Γ Zah [s0,s11,s10,s8,s3]) fun y5=>
 bind (bop .int .sub s11 (Value.int .i64 1)) fun y6=>
 ret (.nrm [s0,s3,s8,s9,s10,y6]))
 (ret (.ext 0 [s0,s3,s8,s9,s10]))
noncomputable def Yi.l2 (Γ : Zc) (s0 s3 s8 s9 s12 : Value) : M Out:=
 bind (bop .int .geq s12 (Value.int .i64 0)) fun y10=>
 cnd y10
 (bind (bop .int .add s8 s12) fun y11=>
 bind (bop .int .add s8 s12) fun y12=>
 bind (ixa 1 s0 y12) fun y13=>
 bind (ld1 y13) fun y14=>
 bind (ixa 1 s0 s8) fun y15=>
 bind (ld1 y15) fun y16=>
 bind (ixa 1 s0 s8) fun y17=>
 bind (st1 y17 y14) fun _=>
 bind (ixa 1 s0 y11) fun y18=>
 bind (st1 y18 y16) fun _=>
 bind (Γ Zah [s0,s9,s12,s8,s3]) fun y19=>
 bind (bop .int .sub s12 (Value.int .i64 1)) fun y20=>
 ret (.nrm [s0,s3,s8,s9,y20]))
 (ret (.ext 2 []))
noncomputable def Yi (Γ : Zc) (x0 x1 x2 x3 : Value) : M Value:=
 bind (bop .int .sub x2 x1) fun y1=>
 bind (bop .int .sub y1 (Value.int .i64 1)) fun y2=>
 bind (bop .int .quo y2 (Value.int .i64 2)) fun y3=>
 jn (Zh (c6 (Yi.l1 Γ)) [x0,x3,x1,(Value.int .i64 0),y1,y3]) noN (xk 0 (c5 fun q8_0 q8_1 q8_2 q8_3 q8_4=>
 bind (bop .int .sub q8_4 (Value.int .i64 1)) fun y9=>
 jn (Zh (c5 (Yi.l2 Γ)) [q8_0,q8_1,q8_2,q8_3,y9]) noN (xk 2 (c0 (ret (Value.tuple #[]))) noX) ret) noX) ret
noncomputable def K3.l1 (Γ : Zc) (s0 s1 s8 s9 s10 s11 : Value) : M Out:=
 bind (bop .int .quo s8 (Value.int .i64 4)) fun y10=>
 bind (bop .int .mul y10 (Value.int .i64 2)) fun y11=>
 bind (bop .int .add s1 y11) fun y12=>
 bind (bop .int .add y12 (Value.int .i64 1)) fun y13=>
 bind (bop .int .leq s11 y13) fun y14=>
 cnd y14
 (bind (Γ Zhl [s9]) fun y15=>
 bind (bop .int .sub s10 (Value.int .u64 1)) fun y16=>
 bind (bop .int .and y15 y16) fun y17=>
 bind (cvi .i64 y17) fun y18=>
 bind (bop .int .geq y18 s8) fun y19=>
 jn (cnd y19
 (bind (bop .int .sub y18 s8) fun y20=>
 ret (.nrm [s0,s1,s8,s9,s10,s11,y20]))
 (ret (.nrm [s0,s1,s8,s9,s10,s11,y18]))) (c7 fun q21_0 q21_1 q21_2 q21_3 q21_4 q21_5 q21_6=>
 bind (bop .int .add q21_1 q21_6) fun y22=>
 bind (bop .int .add q21_1 q21_6) fun y23=>
 bind (ixa 1 q21_0 y23) fun y24=>
 bind (ld1 y24) fun y25=>
 bind (ixa 1 q21_0 q21_5) fun y26=>
 bind (ld1 y26) fun y27=>
 bind (ixa 1 q21_0 q21_5) fun y28=>
 bind (st1 y28 y25) fun _=>
 bind (ixa 1 q21_0 y22) fun y29=>
 bind (st1 y29 y27) fun _=>
 bind (bop .int .add q21_5 (Value.int .i64 1)) fun y30=>
 ret (.nrm [q21_0,q21_1,q21_2,q21_3,q21_4,y30])) noX ZY)
 (ret (.ext 0 []))
noncomputable def K3 (Γ : Zc) (x0 x1 x2 x3 : Value) : M Value:=
 bind (bop .int .sub x2 x1) fun y1=>
 bind (bop .int .geq y1 (Value.int .i64 8)) fun y2=>
 jn (cnd y2
 (bind (cvi .u64 y1) fun y3=>
 bind (alc 1 (.int .u64 0)) fun y4=>
 bind (st1 y4 y3) fun _=>
 bind (Γ ZgE [y1]) fun y5=>
 bind (bop .int .quo y1 (Value.int .i64 4)) fun y6=>
 bind (bop .int .mul y6 (Value.int .i64 2)) fun y7=>
 bind (bop .int .add x1 y7) fun y8=>
 bind (bop .int .sub y8 (Value.int .i64 1)) fun y9=>
 jn (Zh (c6 (K3.l1 Γ)) [x0,x1,y1,y4,y5,y9]) noN (xk 0 (c0 (ret (.nrm []))) noX) ZY)
 (ret (.nrm []))) (c0 (ret (Value.tuple #[]))) noX ret
noncomputable def We.l1 (Γ : Zc) (s0 s8 s9 : Value) : M Out:=
 bind (bop .int .lss s8 s9) fun y2=>
 cnd y2
 (bind (ixa 1 s0 s9) fun y3=>
 bind (ld1 y3) fun y4=>
 bind (ixa 1 s0 s8) fun y5=>
 bind (ld1 y5) fun y6=>
 bind (ixa 1 s0 s8) fun y7=>
 bind (st1 y7 y4) fun _=>
 bind (ixa 1 s0 s9) fun y8=>
 bind (st1 y8 y6) fun _=>
 bind (bop .int .add s8 (Value.int .i64 1)) fun y9=>
 bind (bop .int .sub s9 (Value.int .i64 1)) fun y10=>
 ret (.nrm [s0,y9,y10]))
 (ret (.ext 0 []))
noncomputable def We (Γ : Zc) (x0 x1 x2 x3 : Value) : M Value:=
 bind (bop .int .sub x2 (Value.int .i64 1)) fun y1=>
 jn (Zh (c3 (We.l1 Γ)) [x0,x1,y1]) noN (xk 0 (c0 (ret (Value.tuple #[]))) noX) ret
noncomputable def ZJ.l2 (Γ : Zc) (s0 s1 s2 s3 s9 s10 : Value) : M Out:=
 bind (bop .int .lss s9 s2) fun y3=>
 bind (Ze y3 true (ret s3)) fun y4=>
 bind (Ze y3 true (ret s0)) fun y5=>
 bind (Ze y3 true (ret s9)) fun y6=>
 bind (Ze y3 true (ixa 1 y5 y6)) fun y7=>
 bind (Ze y3 true (ld1 y7)) fun y8=>
 bind (Ze y3 true (ret s0)) fun y9=>
 bind (Ze y3 true (ret s9)) fun y10=>
 bind (Ze y3 true (bop .int .sub y10 (Value.int .i64 1))) fun y11=>
 bind (Ze y3 true (ixa 1 y9 y11)) fun y12=>
 bind (Ze y3 true (ld1 y12)) fun y13=>
 bind (Ze y3 true (Z6 Γ y4 [y8,y13])) fun y14=>
 bind (Ze y3 true (bop .int .lss y14 (Value.int .i64 0))) fun y15=>
 bind (Ze y3 true (uop .not y15)) fun y16=>
 bind (pick y3 y16 (Value.bool false)) fun y17=>
 cnd y17
 (bind (bop .int .add s9 (Value.int .i64 1)) fun y18=>
 ret (.nrm [s0,s1,s2,s3,y18,s10]))
 (ret (.ext 2 [s0,s1,s2,s3,s9,s10]))
noncomputable def ZJ.l3 (Γ : Zc) (s0 s1 s2 s3 s9 s10 s11 : Value) : M Out:=
 bind (bop .int .geq s11 (Value.int .i64 1)) fun y35=>
 cnd y35
 (bind (ixa 1 s0 s11) fun y36=>
 bind (ld1 y36) fun y37=>
 bind (bop .int .sub s11 (Value.int .i64 1)) fun y38=>
 bind (ixa 1 s0 y38) fun y39=>
 bind (ld1 y39) fun y40=>
 bind (Z6 Γ s3 [y37,y40]) fun y41=>
 bind (bop .int .lss y41 (Value.int .i64 0)) fun y42=>
 bind (uop .not y42) fun y43=>
 cnd y43
 (ret (.ext 4 [s0,s1,s2,s3,s9,s10]))
 (bind (bop .int .sub s11 (Value.int .i64 1)) fun y44=>
 bind (bop .int .sub s11 (Value.int .i64 1)) fun y45=>
 bind (ixa 1 s0 y45) fun y46=>
 bind (ld1 y46) fun y47=>
 bind (ixa 1 s0 s11) fun y48=>
 bind (ld1 y48) fun y49=>
 bind (ixa 1 s0 s11) fun y50=>
 bind (st1 y50 y47) fun _=>
 bind (ixa 1 s0 y44) fun y51=>
 bind (st1 y51 y49) fun _=>
 bind (bop .int .sub s11 (Value.int .i64 1)) fun y52=>
 ret (.nrm [s0,s1,s2,s3,s9,s10,y52])))
 (ret (.ext 4 [s0,s1,s2,s3,s9,s10]))
noncomputable def ZJ.l4 (Γ : Zc) (s0 s1 s2 s3 s9 s10 s12 : Value) : M Out:=
 bind (bop .int .lss s12 s2) fun y62=>
 cnd y62
 (bind (ixa 1 s0 s12) fun y63=>
 bind (ld1 y63) fun y64=>
 bind (bop .int .sub s12 (Value.int .i64 1)) fun y65=>
 bind (ixa 1 s0 y65) fun y66=>
 bind (ld1 y66) fun y67=>
 bind (Z6 Γ s3 [y64,y67]) fun y68=>
 bind (bop .int .lss y68 (Value.int .i64 0)) fun y69=>
 bind (uop .not y69) fun y70=>
 cnd y70
 (ret (.ext 6 [s0,s1,s2,s3,s9,s10]))
 (bind (bop .int .sub s12 (Value.int .i64 1)) fun y71=>
 bind (bop .int .sub s12 (Value.int .i64 1)) fun y72=>
 bind (ixa 1 s0 y72) fun y73=>
 bind (ld1 y73) fun y74=>
 bind (ixa 1 s0 s12) fun y75=>
 bind (ld1 y75) fun y76=>
 bind (ixa 1 s0 s12) fun y77=>
 bind (st1 y77 y74) fun _=>
 bind (ixa 1 s0 y71) fun y78=>
 bind (st1 y78 y76) fun _=>
 bind (bop .int .add s12 (Value.int .i64 1)) fun y79=>
 ret (.nrm [s0,s1,s2,s3,s9,s10,y79])))
 (ret (.ext 6 [s0,s1,s2,s3,s9,s10]))
noncomputable def ZJ.l1 (Γ : Zc) (s0 s1 s2 s3 s9 s10 : Value) : M Out:=
 bind (bop .int .lss s10 (Value.int .i64 5)) fun y2=>
 cnd y2
 (jn (Zh (c6 (ZJ.l2 Γ)) [s0,s1,s2,s3,s9,s10]) noN (xk 2 (c6 fun q20_0 q20_1 q20_2 q20_3 q20_4 q20_5=>
 bind (bop .int .eql q20_4 q20_2) fun y21=>
 cnd y21
 (ret (.ret (Value.bool true)))
 (bind (bop .int .sub q20_2 q20_1) fun y22=>
 bind (bop .int .lss y22 (Value.int .i64 50)) fun y23=>
 cnd y23
 (ret (.ret (Value.bool false)))
 (bind (bop .int .sub q20_4 (Value.int .i64 1)) fun y24=>
 bind (bop .int .sub q20_4 (Value.int .i64 1)) fun y25=>
 bind (ixa 1 q20_0 y25) fun y26=>
 bind (ld1 y26) fun y27=>
 bind (ixa 1 q20_0 q20_4) fun y28=>
 bind (ld1 y28) fun y29=>
 bind (ixa 1 q20_0 q20_4) fun y30=>
 bind (st1 y30 y27) fun _=>
 bind (ixa 1 q20_0 y24) fun y31=>
 bind (st1 y31 y29) fun _=>
 bind (bop .int .sub q20_4 q20_1) fun y32=>
 bind (bop .int .geq y32 (Value.int .i64 2)) fun y33=>
 jn (cnd y33
 (bind (bop .int .sub q20_4 (Value.int .i64 1)) fun y34=>
 jn (jn (Zh (c7 (ZJ.l3 Γ)) [q20_0,q20_1,q20_2,q20_3,q20_4,q20_5,y34]) noN (xk 4 (c6 fun q54_0 q54_1 q54_2 q54_3 q54_4 q54_5=>
 ret (.nrm [q54_0,q54_1,q54_2,q54_3,q54_4,q54_5])) noX) ZY) (c6 fun q56_0 q56_1 q56_2 q56_3 q56_4 q56_5=>
 ret (.nrm [q56_0,q56_1,q56_2,q56_3,q56_4,q56_5])) noX ZY)
 (ret (.nrm [q20_0,q20_1,q20_2,q20_3,q20_4,q20_5]))) (c6 fun q58_0 q58_1 q58_2 q58_3 q58_4 q58_5=>
 bind (bop .int .sub q58_2 q58_4) fun y59=>
 bind (bop .int .geq y59 (Value.int .i64 2)) fun y60=>
 jn (cnd y60
 (bind (bop .int .add q58_4 (Value.int .i64 1)) fun y61=>
 jn (jn (Zh (c7 (ZJ.l4 Γ)) [q58_0,q58_1,q58_2,q58_3,q58_4,q58_5,y61]) noN (xk 6 (c6 fun q81_0 q81_1 q81_2 q81_3 q81_4 q81_5=>
 ret (.nrm [q81_0,q81_1,q81_2,q81_3,q81_4,q81_5])) noX) ZY) (c6 fun q83_0 q83_1 q83_2 q83_3 q83_4 q83_5=>
 ret (.nrm [q83_0,q83_1,q83_2,q83_3,q83_4,q83_5])) noX ZY)
 (ret (.nrm [q58_0,q58_1,q58_2,q58_3,q58_4,q58_5]))) (c6 fun q85_0 q85_1 q85_2 q85_3 q85_4 q85_5=>
 bind (bop .int .add q85_5 (Value.int .i64 1)) fun y86=>
 ret (.nrm [q85_0,q85_1,q85_2,q85_3,q85_4,y86])) noX ZY) noX ZY))) noX) ZY)
 (ret (.ext 0 []))
noncomputable def ZJ (Γ : Zc) (x0 x1 x2 x3 : Value) : M Value:=
 bind (bop .int .add x1 (Value.int .i64 1)) fun y1=>
 jn (Zh (c6 (ZJ.l1 Γ)) [x0,x1,x2,x3,y1,(Value.int .i64 0)]) noN (xk 0 (c0 (ret (Value.bool false))) noX) ret
noncomputable def Ql.l2 (Γ : Zc) (s0 s1 s4 s11 s12 : Value) : M Out:=
 bind (bop .int .leq s11 s12) fun y9=>
 bind (Ze y9 true (ret s4)) fun y10=>
 bind (Ze y9 true (ret s0)) fun y11=>
 bind (Ze y9 true (ret s1)) fun y12=>
 bind (Ze y9 true (ixa 1 y11 y12)) fun y13=>
 bind (Ze y9 true (ld1 y13)) fun y14=>
 bind (Ze y9 true (ret s0)) fun y15=>
 bind (Ze y9 true (ret s11)) fun y16=>
 bind (Ze y9 true (ixa 1 y15 y16)) fun y17=>
 bind (Ze y9 true (ld1 y17)) fun y18=>
 bind (Ze y9 true (Z6 Γ y10 [y14,y18])) fun y19=>
 bind (Ze y9 true (bop .int .lss y19 (Value.int .i64 0))) fun y20=>
 bind (Ze y9 true (uop .not y20)) fun y21=>
 bind (pick y9 y21 (Value.bool false)) fun y22=>
 cnd y22
 (bind (bop .int .add s11 (Value.int .i64 1)) fun y23=>
 ret (.nrm [s0,s1,s4,y23,s12]))
 (ret (.ext 2 [s0,s1,s4,s11,s12]))
noncomputable def Ql.l3 (Γ : Zc) (s0 s1 s4 s11 s12 : Value) : M Out:=
 bind (bop .int .leq s11 s12) fun y26=>
 bind (Ze y26 true (ret s4)) fun y27=>
 bind (Ze y26 true (ret s0)) fun y28=>
 bind (Ze y26 true (ret s1)) fun y29=>
 bind (Ze y26 true (ixa 1 y28 y29)) fun y30=>
 bind (Ze y26 true (ld1 y30)) fun y31=>
 bind (Ze y26 true (ret s0)) fun y32=>
 bind (Ze y26 true (ret s12)) fun y33=>
 bind (Ze y26 true (ixa 1 y32 y33)) fun y34=>
 bind (Ze y26 true (ld1 y34)) fun y35=>
 bind (Ze y26 true (Z6 Γ y27 [y31,y35])) fun y36=>
 bind (Ze y26 true (bop .int .lss y36 (Value.int .i64 0))) fun y37=>
 bind (pick y26 y37 (Value.bool false)) fun y38=>
 cnd y38
 (bind (bop .int .sub s12 (Value.int .i64 1)) fun y39=>
 ret (.nrm [s0,s1,s4,s11,y39]))
 (ret (.ext 4 [s0,s1,s4,s11,s12]))
noncomputable def Ql.l1 (Γ : Zc) (s0 s1 s4 s11 s12 : Value) : M Out:=
 jn (Zh (c5 (Ql.l2 Γ)) [s0,s1,s4,s11,s12]) noN (xk 2 (c5 fun q25_0 q25_1 q25_2 q25_3 q25_4=>
 jn (Zh (c5 (Ql.l3 Γ)) [q25_0,q25_1,q25_2,q25_3,q25_4]) noN (xk 4 (c5 fun q41_0 q41_1 q41_2 q41_3 q41_4=>
 bind (bop .int .gtr q41_3 q41_4) fun y42=>
 cnd y42
 (ret (.ext 0 [q41_3]))
 (bind (ixa 1 q41_0 q41_4) fun y43=>
 bind (ld1 y43) fun y44=>
 bind (ixa 1 q41_0 q41_3) fun y45=>
 bind (ld1 y45) fun y46=>
 bind (ixa 1 q41_0 q41_3) fun y47=>
 bind (st1 y47 y44) fun _=>
 bind (ixa 1 q41_0 q41_4) fun y48=>
 bind (st1 y48 y46) fun _=>
 bind (bop .int .add q41_3 (Value.int .i64 1)) fun y49=>
 bind (bop .int .sub q41_4 (Value.int .i64 1)) fun y50=>
 ret (.nrm [q41_0,q41_1,q41_2,y49,y50]))) noX) ZY) noX) ZY
noncomputable def Ql (Γ : Zc) (x0 x1 x2 x3 x4 : Value) : M Value:=
 bind (ixa 1 x0 x3) fun y1=>
 bind (ld1 y1) fun y2=>
 bind (ixa 1 x0 x1) fun y3=>
 bind (ld1 y3) fun y4=>
 bind (ixa 1 x0 x1) fun y5=>
 bind (st1 y5 y2) fun _=>
 bind (ixa 1 x0 x3) fun y6=>
 bind (st1 y6 y4) fun _=>
 bind (bop .int .add x1 (Value.int .i64 1)) fun y7=>
 bind (bop .int .sub x2 (Value.int .i64 1)) fun y8=>
 jn (Zh (c5 (Ql.l1 Γ)) [x0,x1,x4,y7,y8]) noN (xk 0 (c1 fun q54_0=>
 ret q54_0) noX) ret
noncomputable def ZN.l1 (Γ : Zc) (s0 s1 s4 s12 s13 : Value) : M Out:=
 bind (bop .int .leq s12 s13) fun y9=>
 bind (Ze y9 true (ret s4)) fun y10=>
 bind (Ze y9 true (ret s0)) fun y11=>
 bind (Ze y9 true (ret s12)) fun y12=>
 bind (Ze y9 true (ixa 1 y11 y12)) fun y13=>
 bind (Ze y9 true (ld1 y13)) fun y14=>
 bind (Ze y9 true (ret s0)) fun y15=>
 bind (Ze y9 true (ret s1)) fun y16=>
 bind (Ze y9 true (ixa 1 y15 y16)) fun y17=>
 bind (Ze y9 true (ld1 y17)) fun y18=>
 bind (Ze y9 true (Z6 Γ y10 [y14,y18])) fun y19=>
 bind (Ze y9 true (bop .int .lss y19 (Value.int .i64 0))) fun y20=>
 bind (pick y9 y20 (Value.bool false)) fun y21=>
 cnd y21
 (bind (bop .int .add s12 (Value.int .i64 1)) fun y22=>
 ret (.nrm [s0,s1,s4,y22,s13]))
 (ret (.ext 0 [s0,s1,s4,s12,s13]))
noncomputable def ZN.l2 (Γ : Zc) (s0 s1 s4 s12 s13 : Value) : M Out:=
 bind (bop .int .leq s12 s13) fun y25=>
 bind (Ze y25 true (ret s4)) fun y26=>
 bind (Ze y25 true (ret s0)) fun y27=>
 bind (Ze y25 true (ret s13)) fun y28=>
 bind (Ze y25 true (ixa 1 y27 y28)) fun y29=>
 bind (Ze y25 true (ld1 y29)) fun y30=>
 bind (Ze y25 true (ret s0)) fun y31=>
 bind (Ze y25 true (ret s1)) fun y32=>
 bind (Ze y25 true (ixa 1 y31 y32)) fun y33=>
 bind (Ze y25 true (ld1 y33)) fun y34=>
 bind (Ze y25 true (Z6 Γ y26 [y30,y34])) fun y35=>
 bind (Ze y25 true (bop .int .lss y35 (Value.int .i64 0))) fun y36=>
 bind (Ze y25 true (uop .not y36)) fun y37=>
 bind (pick y25 y37 (Value.bool false)) fun y38=>
 cnd y38
 (bind (bop .int .sub s13 (Value.int .i64 1)) fun y39=>
 ret (.nrm [s0,s1,s4,s12,y39]))
 (ret (.ext 2 [s0,s1,s4,s12,s13]))
noncomputable def ZN.l4 (Γ : Zc) (s0 s1 s4 s12 s13 : Value) : M Out:=
 bind (bop .int .leq s12 s13) fun y57=>
 bind (Ze y57 true (ret s4)) fun y58=>
 bind (Ze y57 true (ret s0)) fun y59=>
 bind (Ze y57 true (ret s12)) fun y60=>
 bind (Ze y57 true (ixa 1 y59 y60)) fun y61=>
 bind (Ze y57 true (ld1 y61)) fun y62=>
 bind (Ze y57 true (ret s0)) fun y63=>
 bind (Ze y57 true (ret s1)) fun y64=>
 bind (Ze y57 true (ixa 1 y63 y64)) fun y65=>
 bind (Ze y57 true (ld1 y65)) fun y66=>
 bind (Ze y57 true (Z6 Γ y58 [y62,y66])) fun y67=>
 bind (Ze y57 true (bop .int .lss y67 (Value.int .i64 0))) fun y68=>
 bind (pick y57 y68 (Value.bool false)) fun y69=>
 cnd y69
 (bind (bop .int .add s12 (Value.int .i64 1)) fun y70=>
 ret (.nrm [s0,s1,s4,y70,s13]))
 (ret (.ext 6 [s0,s1,s4,s12,s13]))
noncomputable def ZN.l5 (Γ : Zc) (s0 s1 s4 s12 s13 : Value) : M Out:=
 bind (bop .int .leq s12 s13) fun y73=>
 bind (Ze y73 true (ret s4)) fun y74=>
 bind (Ze y73 true (ret s0)) fun y75=>
 bind (Ze y73 true (ret s13)) fun y76=>
 bind (Ze y73 true (ixa 1 y75 y76)) fun y77=>
 bind (Ze y73 true (ld1 y77)) fun y78=>
 bind (Ze y73 true (ret s0)) fun y79=>
 bind (Ze y73 true (ret s1)) fun y80=>
 bind (Ze y73 true (ixa 1 y79 y80)) fun y81=>
 bind (Ze y73 true (ld1 y81)) fun y82=>
 bind (Ze y73 true (Z6 Γ y74 [y78,y82])) fun y83=>
 bind (Ze y73 true (bop .int .lss y83 (Value.int .i64 0))) fun y84=>
 bind (Ze y73 true (uop .not y84)) fun y85=>
 bind (pick y73 y85 (Value.bool false)) fun y86=>
 cnd y86
 (bind (bop .int .sub s13 (Value.int .i64 1)) fun y87=>
 ret (.nrm [s0,s1,s4,s12,y87]))
 (ret (.ext 8 [s0,s1,s4,s12,s13]))
noncomputable def ZN.l3 (Γ : Zc) (s0 s1 s4 s12 s13 : Value) : M Out:=
 jn (Zh (c5 (ZN.l4 Γ)) [s0,s1,s4,s12,s13]) noN (xk 6 (c5 fun q72_0 q72_1 q72_2 q72_3 q72_4=>
 jn (Zh (c5 (ZN.l5 Γ)) [q72_0,q72_1,q72_2,q72_3,q72_4]) noN (xk 8 (c5 fun q89_0 q89_1 q89_2 q89_3 q89_4=>
 bind (bop .int .gtr q89_3 q89_4) fun y90=>
 cnd y90
 (ret (.ext 4 [q89_0,q89_1,q89_4]))
 (bind (ixa 1 q89_0 q89_4) fun y91=>
 bind (ld1 y91) fun y92=>
 bind (ixa 1 q89_0 q89_3) fun y93=>
 bind (ld1 y93) fun y94=>
 bind (ixa 1 q89_0 q89_3) fun y95=>
 bind (st1 y95 y92) fun _=>
 bind (ixa 1 q89_0 q89_4) fun y96=>
 bind (st1 y96 y94) fun _=>
 bind (bop .int .add q89_3 (Value.int .i64 1)) fun y97=>
 bind (bop .int .sub q89_4 (Value.int .i64 1)) fun y98=>
 ret (.nrm [q89_0,q89_1,q89_2,y97,y98]))) noX) ZY) noX) ZY
noncomputable def ZN (Γ : Zc) (x0 x1 x2 x3 x4 : Value) : M Value:=
 bind (ixa 1 x0 x3) fun y1=>
 bind (ld1 y1) fun y2=>
 bind (ixa 1 x0 x1) fun y3=>
 bind (ld1 y3) fun y4=>
 bind (ixa 1 x0 x1) fun y5=>
 bind (st1 y5 y2) fun _=>
 bind (ixa 1 x0 x3) fun y6=>
 bind (st1 y6 y4) fun _=>
 bind (bop .int .add x1 (Value.int .i64 1)) fun y7=>
 bind (bop .int .sub x2 (Value.int .i64 1)) fun y8=>
 jn (Zh (c5 (ZN.l1 Γ)) [x0,x1,x4,y7,y8]) noN (xk 0 (c5 fun q24_0 q24_1 q24_2 q24_3 q24_4=>
 jn (Zh (c5 (ZN.l2 Γ)) [q24_0,q24_1,q24_2,q24_3,q24_4]) noN (xk 2 (c5 fun q41_0 q41_1 q41_2 q41_3 q41_4=>
 bind (bop .int .gtr q41_3 q41_4) fun y42=>
 cnd y42
 (bind (ixa 1 q41_0 q41_1) fun y43=>
 bind (ld1 y43) fun y44=>
 bind (ixa 1 q41_0 q41_4) fun y45=>
 bind (ld1 y45) fun y46=>
 bind (ixa 1 q41_0 q41_4) fun y47=>
 bind (st1 y47 y44) fun _=>
 bind (ixa 1 q41_0 q41_1) fun y48=>
 bind (st1 y48 y46) fun _=>
 ret (Value.tuple #[q41_4,(Value.bool true)]))
 (bind (ixa 1 q41_0 q41_4) fun y49=>
 bind (ld1 y49) fun y50=>
 bind (ixa 1 q41_0 q41_3) fun y51=>
 bind (ld1 y51) fun y52=>
 bind (ixa 1 q41_0 q41_3) fun y53=>
 bind (st1 y53 y50) fun _=>
 bind (ixa 1 q41_0 q41_4) fun y54=>
 bind (st1 y54 y52) fun _=>
 bind (bop .int .add q41_3 (Value.int .i64 1)) fun y55=>
 bind (bop .int .sub q41_4 (Value.int .i64 1)) fun y56=>
 jn (Zh (c5 (ZN.l3 Γ)) [q41_0,q41_1,q41_2,y55,y56]) noN (xk 4 (c3 fun q102_0 q102_1 q102_2=>
 bind (ixa 1 q102_0 q102_1) fun y103=>
 bind (ld1 y103) fun y104=>
 bind (ixa 1 q102_0 q102_2) fun y105=>
 bind (ld1 y105) fun y106=>
 bind (ixa 1 q102_0 q102_2) fun y107=>
 bind (st1 y107 y104) fun _=>
 bind (ixa 1 q102_0 q102_1) fun y108=>
 bind (st1 y108 y106) fun _=>
 ret (Value.tuple #[q102_2,(Value.bool false)])) noX) ret)) noX) ret) noX) ret
noncomputable def Zde (Γ : Zc) (x0 : Value) : M Value:=
 bind (bop .int .geq x0 (Value.int .u64 4294967296)) fun y1=>
 jn (cnd y1
 (bind (bop .int .shr x0 (Value.int .u64 32)) fun y2=>
 ret (.nrm [y2,(Value.int .i64 32)]))
 (ret (.nrm [x0,(Value.int .i64 0)]))) (c2 fun q3_0 q3_1=>
 bind (bop .int .geq q3_0 (Value.int .u64 65536)) fun y4=>
 jn (cnd y4
 (bind (bop .int .shr q3_0 (Value.int .u64 16)) fun y5=>
 bind (bop .int .add q3_1 (Value.int .i64 16)) fun y6=>
 ret (.nrm [y5,y6]))
 (ret (.nrm [q3_0,q3_1]))) (c2 fun q7_0 q7_1=>
 bind (bop .int .geq q7_0 (Value.int .u64 256)) fun y8=>
 jn (cnd y8
 (bind (bop .int .shr q7_0 (Value.int .u64 8)) fun y9=>
 bind (bop .int .add q7_1 (Value.int .i64 8)) fun y10=>
 ret (.nrm [y9,y10]))
 (ret (.nrm [q7_0,q7_1]))) (c2 fun q11_0 q11_1=>
 bind (cvi .u8 q11_0) fun y12=>
 bind (ixs (Value.string ⟨#[0,1,2,2,3,3,3,3,4,4,4,4,4,4,4,4,5,5,5,5,5,5,5,5,5,5,5,5,5,5,5,5,6,6,6,6,6,6,6,6,6,6,6,6,6,6,6,6,6,6,6,6,6,6,6,6,6,6,6,6,6,6,6,6,7,7,7,7,7,7,7,7,7,7,7,7,7,7,7,7,7,7,7,7,7,7,7,7,7,7,7,7,7,7,7,7,7,7,7,7,7,7,7,7,7,7,7,7,7,7,7,7,7,7,7,7,7,7,7,7,7,7,7,7,7,7,7,7,8,8,8,8,8,8,8,8,8,8,8,8,8,8,8,8,8,8,8,8,8,8,8,8,8,8,8,8,8,8,8,8,8,8,8,8,8,8,8,8,8,8,8,8,8,8,8,8,8,8,8,8,8,8,8,8,8,8,8,8,8,8,8,8,8,8,8,8,8,8,8,8,8,8,8,8,8,8,8,8,8,8,8,8,8,8,8,8,8,8,8,8,8,8,8,8,8,8,8,8,8,8,8,8,8,8,8,8,8,8,8,8,8,8,8,8,8,8,8,8,8,8,8,8,8,8,8,8]⟩) y12) fun y13=>
 bind (cvi .i64 y13) fun y14=>
 bind (bop .int .add q11_1 y14) fun y15=>
 ret y15) noX ret) noX ret) noX ret
theorem ZlR (Γ : Zc) (x0 : Value) : Zv Tryz.prog Γ Tryz.f226 ZfL [x0]=Zde Γ x0:=by kernel_rfl
theorem ZkW {prim : FuncId→Option (List Value→M Value)} (hp : prim Zbf=none) (n : Nat) (x0 : Value) : run Tryz.prog prim lvs (n+1) Zbf [x0]=Zde (run Tryz.prog prim lvs n) x0:=
 (Zi hp (by kernel_rfl) Tryz.func226 (by kernel_rfl)).trans (ZlR _ x0)
noncomputable def Kn (Γ : Zc) (x0 x1 : Value) : M Value:=
 bind (Γ J0 [x0,x1]) fun y1=>
 ret y1
theorem ZcO (Γ : Zc) (x0 x1 : Value) : Zv Tryz.prog Γ Tryz.f227 WO [x0,x1]=Kn Γ x0 x1:=by kernel_rfl
theorem Zcg {prim : FuncId→Option (List Value→M Value)} (hp : prim Jt=none) (n : Nat) (x0 x1 : Value) : run Tryz.prog prim lvs (n+1) Jt [x0,x1]=Kn (run Tryz.prog prim lvs n) x0 x1:=
 (Zi hp (by kernel_rfl) Tryz.func227 (by kernel_rfl)).trans (ZcO _ x0 x1)
noncomputable def Jh.l1 (Γ : Zc) (s0 s1 s5 s6 s7 s8 s9 : Value) : M Out:=
 bind (bop .int .lss s9 s7) fun y5=>
 cnd y5
 (bind (bop .int .mul s8 (Value.int .u32 16777619)) fun y6=>
 bind (ixs s0 s9) fun y7=>
 bind (cvi .u32 y7) fun y8=>
 bind (bop .int .add y6 y8) fun y9=>
 bind (bop .int .add s9 (Value.int .i64 1)) fun y10=>
 ret (.nrm [s0,s1,s5,s6,s7,y9,y10]))
 (ret (.ext 0 [s0,s1,s5,s6,s7,s8]))
noncomputable def Jh.l2 (Γ : Zc) (s0 s1 s5 s6 s7 s8 s10 : Value) : M Out:=
 bind (QX s0) fun y18=>
 bind (bop .int .lss s10 y18) fun y19=>
 cnd y19
 (bind (bop .int .mul s8 (Value.int .u32 16777619)) fun y20=>
 bind (ixs s0 s10) fun y21=>
 bind (cvi .u32 y21) fun y22=>
 bind (bop .int .add y20 y22) fun y23=>
 bind (bop .int .sub s10 s7) fun y24=>
 bind (ixs s0 y24) fun y25=>
 bind (cvi .u32 y25) fun y26=>
 bind (bop .int .mul s6 y26) fun y27=>
 bind (bop .int .sub y23 y27) fun y28=>
 bind (bop .int .add s10 (Value.int .i64 1)) fun y29=>
 bind (bop .int .eql y28 s5) fun y30=>
 bind (ZD y30 true 8 (bind (bop .int .sub y29 s7) fun y31=>
 bind (sls s0 (some y31) (some y29)) fun y32=>
 bind (bop .str .eql y32 s1) fun y33=>
 ret [s0,y29,s7,y31,y29,y32,s1,y33])) (c8 fun _ _ _ _ _ _ _ q34_7=>
 bind (pick y30 q34_7 (Value.bool false)) fun y35=>
 cnd y35
 (bind (bop .int .sub y29 s7) fun y36=>
 ret (.ret y36))
 (ret (.nrm [s0,s1,s5,s6,s7,y28,y29]))))
 (ret (.ext 2 []))
noncomputable def Jh (Γ : Zc) (x0 x1 : Value) : M Value:=
 bind (Γ Zc5 [x1]) fun y1=>
 bind (Zq y1 0) fun y2=>
 bind (Zq y1 1) fun y3=>
 bind (QX x1) fun y4=>
 jn (Zh (c7 (Jh.l1 Γ)) [x0,x1,y2,y3,y4,(Value.int .u32 0),(Value.int .i64 0)]) noN (xk 0 (c6 fun q12_0 q12_1 q12_2 q12_3 q12_4 q12_5=>
 bind (bop .int .eql q12_5 q12_2) fun y13=>
 bind (ZD y13 true 5 (bind (sls q12_0 none (some q12_4)) fun y14=>
 bind (bop .str .eql y14 q12_1) fun y15=>
 ret [q12_0,q12_4,y14,q12_1,y15])) (c5 fun _ _ _ _ q16_4=>
 bind (pick y13 q16_4 (Value.bool false)) fun y17=>
 cnd y17
 (ret (Value.int .i64 0))
 (jn (Zh (c7 (Jh.l2 Γ)) [q12_0,q12_1,q12_2,q12_3,q12_4,q12_5,q12_4]) noN (xk 2 (c0 (ret (Value.int .i64 (-1)))) noX) ret))) noX) ret
noncomputable def Zae.l1 (Γ : Zc) (s0 s2 s3 s4 s10 : Value) : M Out:=
 bind (bop .int .mul (Value.int .i64 2) s10) fun y1=>
 bind (bop .int .add y1 (Value.int .i64 1)) fun y2=>
 bind (bop .int .geq y2 s2) fun y3=>
 cnd y3
 (ret (.ext 0 []))
 (bind (bop .int .add y2 (Value.int .i64 1)) fun y4=>
 bind (bop .int .lss y4 s2) fun y5=>
 bind (Ze y5 true (ret s4)) fun y6=>
 bind (Ze y5 true (ret s0)) fun y7=>
 bind (Ze y5 true (ret s3)) fun y8=>
 bind (Ze y5 true (ret y2)) fun y9=>
 bind (Ze y5 true (bop .int .add y8 y9)) fun y10=>
 bind (Ze y5 true (ixa 1 y7 y10)) fun y11=>
 bind (Ze y5 true (ld1 y11)) fun y12=>
 bind (Ze y5 true (ret s0)) fun y13=>
 bind (Ze y5 true (ret s3)) fun y14=>
 bind (Ze y5 true (ret y2)) fun y15=>
 bind (Ze y5 true (bop .int .add y14 y15)) fun y16=>
 bind (Ze y5 true (bop .int .add y16 (Value.int .i64 1))) fun y17=>
 bind (Ze y5 true (ixa 1 y13 y17)) fun y18=>
 bind (Ze y5 true (ld1 y18)) fun y19=>
 bind (Ze y5 true (Z6 Γ y6 [y12,y19])) fun y20=>
 bind (Ze y5 true (bop .int .lss y20 (Value.int .i64 0))) fun y21=>
 bind (pick y5 y21 (Value.bool false)) fun y22=>
 jn (cnd y22
 (bind (bop .int .add y2 (Value.int .i64 1)) fun y23=>
 ret (.nrm [s0,s2,s3,s4,s10,y23]))
 (ret (.nrm [s0,s2,s3,s4,s10,y2]))) (c6 fun q24_0 q24_1 q24_2 q24_3 q24_4 q24_5=>
 bind (bop .int .add q24_2 q24_4) fun y25=>
 bind (ixa 1 q24_0 y25) fun y26=>
 bind (ld1 y26) fun y27=>
 bind (bop .int .add q24_2 q24_5) fun y28=>
 bind (ixa 1 q24_0 y28) fun y29=>
 bind (ld1 y29) fun y30=>
 bind (Z6 Γ q24_3 [y27,y30]) fun y31=>
 bind (bop .int .lss y31 (Value.int .i64 0)) fun y32=>
 bind (uop .not y32) fun y33=>
 cnd y33
 (ret (.ret (Value.tuple #[])))
 (bind (bop .int .add q24_2 q24_4) fun y34=>
 bind (bop .int .add q24_2 q24_5) fun y35=>
 bind (bop .int .add q24_2 q24_5) fun y36=>
 bind (ixa 1 q24_0 y36) fun y37=>
 bind (ld1 y37) fun y38=>
 bind (bop .int .add q24_2 q24_4) fun y39=>
 bind (ixa 1 q24_0 y39) fun y40=>
 bind (ld1 y40) fun y41=>
 bind (ixa 1 q24_0 y34) fun y42=>
 bind (st1 y42 y38) fun _=>
 bind (ixa 1 q24_0 y35) fun y43=>
 bind (st1 y43 y41) fun _=>
 ret (.nrm [q24_0,q24_1,q24_2,q24_3,q24_5]))) noX ZY)
noncomputable def Zae (Γ : Zc) (x0 x1 x2 x3 x4 : Value) : M Value:=
 jn (Zh (c5 (Zae.l1 Γ)) [x0,x2,x3,x4,x1]) noN (xk 0 (c0 (ret (Value.tuple #[]))) noX) ret
noncomputable def Ya.l1 (Γ : Zc) (s0 s4 s5 : Value) : M Out:=
 bind (QX s0) fun y1=>
 bind (bop .int .lss s5 y1) fun y2=>
 cnd y2
 (bind (bop .int .mul s4 (Value.int .u32 16777619)) fun y3=>
 bind (ixs s0 s5) fun y4=>
 bind (cvi .u32 y4) fun y5=>
 bind (bop .int .add y3 y5) fun y6=>
 bind (bop .int .add s5 (Value.int .i64 1)) fun y7=>
 ret (.nrm [s0,y6,y7]))
 (ret (.ext 0 [s0,s4]))
noncomputable def Ya.l2 (Γ : Zc) (s4 s6 s7 s8 : Value) : M Out:=
 bind (bop .int .gtr s8 (Value.int .i64 0)) fun y11=>
 cnd y11
 (bind (bop .int .and s8 (Value.int .i64 1)) fun y12=>
 bind (bop .int .neq y12 (Value.int .i64 0)) fun y13=>
 jn (cnd y13
 (bind (bop .int .mul s6 s7) fun y14=>
 ret (.nrm [s4,y14,s7,s8]))
 (ret (.nrm [s4,s6,s7,s8]))) (c4 fun q15_0 q15_1 q15_2 q15_3=>
 bind (bop .int .mul q15_2 q15_2) fun y16=>
 bind (bop .int .shr q15_3 (Value.int .u64 1)) fun y17=>
 ret (.nrm [q15_0,q15_1,y16,y17])) noX ZY)
 (ret (.ext 2 [s4,s6]))
noncomputable def Ya (Γ : Zc) (x0 : Value) : M Value:=
 jn (Zh (c3 (Ya.l1 Γ)) [x0,(Value.int .u32 0),(Value.int .i64 0)]) noN (xk 0 (c2 fun q9_0 q9_1=>
 bind (QX q9_0) fun y10=>
 jn (Zh (c4 (Ya.l2 Γ)) [q9_1,(Value.int .u32 1),(Value.int .u32 16777619),y10]) noN (xk 2 (c2 fun q20_0 q20_1=>
 ret (Value.tuple #[q20_0,q20_1])) noX) ret) noX) ret
end Go.Proofs.YtedkoimihknggaaGreatDoor.A

namespace Go.Proofs.YtedkoimihknggaaGreatDoor.A
set_option linter.unusedVariables false
set_option linter.unusedSimpArgs false
open Go.Sort
section
variable {P : Program} {w0 : ZZ} {ι : Nat→Option Loc} {H H1 : Zd} {w w' : World} {v : Value} {G : Nat}
def ZjU (args : List Value) : M Value:=fun H=>
 match args with
 | [.map none]=>some (.map none,H)
 | [.map (some id)]=>match H[id]? with
  | some (.map es clk)=>some (.map (some H.length),H++[.map es clk])
  | some (.mapU es)=>some (.map (some H.length),H++[.mapU es])
  | _=>none
 | _=>none
structure ZfU (P : Program) (g : FuncId) : Prop where
 c : Zbp P g
 nil : ∀ w,Calls P g #[.map none] w fun e w'=>e=.returned (.map none)∧w'=w
 some : ∀ b es clock w,w.heap[b]?=some (.map es clock)→Calls P g #[.map (some b)] w fun e w'=>e=.returned (.map (some w.heap.size))∧w'=w.alloc (.map es clock)
theorem ZgD {g : FuncId} (hC : ZfU P g) : Zei P G w0 g ZjU:=by
 intro args H v H1 h
 refine .inl ⟨hC.c,fun ι w args' hS hr=>?_⟩
 unfold ZjU at h
 split at h
 ·cases h
  obtain ⟨x,r,rfl,hx,hr2⟩:=hr.cons_inv
  rw [hr2.nil_inv,hx.scalar_inv rfl]
  refine (hC.nil w).mono fun e w' ⟨he,hw⟩=>⟨ι,_,.refl ι,he,.sc rfl,by rw [hw];exact hS⟩
 ·obtain ⟨x,r,rfl,hx,hr2⟩:=hr.cons_inv
  obtain ⟨l,hl,rfl⟩:=hx.map_inv
  rw [hr2.nil_inv]
  split at h
  ·rename_i id _ es clk hid
   cases h
   obtain ⟨en,hb,hge,hE⟩:=hS.mapR hid hl
   refine (hC.some l.blk en clk w hb).mono fun e w' ⟨he,hw⟩=>?_
   have hnew:=hS.new (x:=.map es clk) (l:=⟨w.heap.size,0,0,0,false⟩) (.map en clk) rfl ⟨_,en,Z5 _ _ _,ZcJ w _,hS.size,hE.mono (JN hS _)⟩
   exact ⟨_,_,JN hS _,he,.mp (Z5 _ _ _),by rw [hw];exact hnew⟩
  ·rename_i id _ es hid
   cases h
   obtain ⟨en,clk,es2,hb,hge,hE,hp⟩:=hS.mapUR hid hl
   refine (hC.some l.blk en clk w hb).mono fun e w' ⟨he,hw⟩=>?_
   have hnew:=hS.new (x:=.mapU es) (l:=⟨w.heap.size,0,0,0,false⟩) (.map en clk) rfl ⟨_,en,clk,es2,Z5 _ _ _,ZcJ w _,hS.size,hE.mono (JN hS _),hp⟩
   exact ⟨_,_,JN hS _,he,.mp (Z5 _ _ _),by rw [hw];exact hnew⟩
  ·cases h
 ·cases h
abbrev ZM (ks : List (List UInt8)) : List (List UInt8):=ks.mergeSort leB
structure ZfA (es : List (Value × Value × Nat)) (ks : List (List UInt8)) : Prop where
 keys : es.map (·.1)=ks.map strv
 nod : ks.Nodup
 few : ks.length≤1000000
 len : ∀ k∈ks,k.length≤1000000
theorem ZlX {a b : List UInt8} (h : strv a=strv b) : a=b:=by simpa [strv] using h
theorem Zqj {a b : List (List UInt8)} (h : a.map strv=b.map strv) : a=b:=by
 have : Function.Injective strv:=fun _ _ h=>ZlX h
 exact (List.map_inj_right (fun _ _ h=>ZlX h)).1 h
def Zg2 (ks : List (List UInt8)) (H : Zd) : Option (Value × Zd):=
 if ks=[] then some (.slice none 0 0,H)
 else some (.slice (some ⟨H.length,0,none⟩) ks.length ks.length,H++[.cells ((ZM ks).map strv) 1 true false])
open Classical in
noncomputable def Zb4 (gks : List FuncId) (gc : FuncId) (args : List Value) : M Value:=fun H=>
 if h : ∃ gk c id es ks,gk∈gks∧args=[.func (.func gk) #[] #[pt c],.func (.func gc) #[] #[]]∧(∃ e,H[c]?=some (.cells [.map (some id)] e false false))∧ZfA es ks∧((∃ clk,H[id]?=some (.map es clk)∧ZaW es clk)∨H[id]?=some (.mapU es)) then
  Zg2 (Classical.choose (Classical.choose_spec (Classical.choose_spec (Classical.choose_spec (Classical.choose_spec h))))) H
 else none
theorem ZqI {gks : List FuncId} {gc gk : FuncId} {c id e : Nat} {es : List (Value × Value × Nat)} {ks : List (List UInt8)} (hg : gk∈gks) (hc : H[c]?=some (.cells [.map (some id)] e false false)) (hk : ZfA es ks)
  (hm : (∃ clk,H[id]?=some (.map es clk)∧ZaW es clk)∨H[id]?=some (.mapU es)) : Zb4 gks gc [.func (.func gk) #[] #[pt c],.func (.func gc) #[] #[]] H=Zg2 ks H:=by
 have hex : ∃ gk' c' id' es' ks',gk'∈gks∧[Value.func (.func gk) #[] #[pt c],.func (.func gc) #[] #[]]=[.func (.func gk') #[] #[pt c'],.func (.func gc) #[] #[]]∧(∃ e,H[c']?=some (.cells [.map (some id')] e false false))∧ZfA es' ks'∧((∃ clk,H[id']?=some (.map es' clk)∧ZaW es' clk)∨H[id']?=some (.mapU es')):=
  ⟨gk,c,id,es,ks,hg,rfl,⟨e,hc⟩,hk,hm⟩
 unfold Zb4
 rw [dif_pos hex]
 congr 1
 obtain ⟨_,h2,⟨e',h3⟩,h4,h5⟩:=Classical.choose_spec (Classical.choose_spec (Classical.choose_spec (Classical.choose_spec (Classical.choose_spec hex))))
 generalize Classical.choose (Classical.choose_spec (Classical.choose_spec (Classical.choose_spec (Classical.choose_spec hex))))=ks' at h4 ⊢
 generalize Classical.choose (Classical.choose_spec (Classical.choose_spec (Classical.choose_spec hex)))=es' at h4 h5
 generalize Classical.choose (Classical.choose_spec (Classical.choose_spec hex))=id' at h3 h5
 generalize Classical.choose (Classical.choose_spec hex)=c' at h2 h3
 have ec : c=c':=by simp at h2;exact h2.2
 subst ec
 rw [hc] at h3
 have ei : id=id':=by simp at h3;exact h3.1
 subst ei
 have ees : es'=es:=by
  rcases hm with ⟨clk,h6,_⟩ | h6 <;> rcases h5 with ⟨clk',h7,_⟩ | h7 <;> rw [h6] at h7 <;> cases h7 <;> rfl
 subst ees
 exact Zqj (h4.keys.symm.trans hk.keys)
theorem ZuJ {gks : List FuncId} {gc : FuncId} {args : List Value} (h : Zb4 gks gc args H=some (v,H1)) :
  ∃ gk c id e es ks,gk∈gks∧args=[.func (.func gk) #[] #[pt c],.func (.func gc) #[] #[]]∧H[c]?=some (.cells [.map (some id)] e false false)∧ZfA es ks∧((∃ clk,H[id]?=some (.map es clk)∧ZaW es clk)∨H[id]?=some (.mapU es))∧Zg2 ks H=some (v,H1):=by
 have h0:=h
 unfold Zb4 at h
 split at h
 ·rename_i hex
  obtain ⟨gk,c,id,es,ks,h1,rfl,⟨e,h3⟩,h4,h5⟩:=hex
  rw [ZqI h1 h3 h4 h5] at h0
  exact ⟨gk,c,id,e,es,ks,h1,rfl,h3,h4,h5,h0⟩
 ·cases h
structure Zg6 (P : Program) (g gk gc : FuncId) : Prop where
 c : Zbp P g
 run : ∀ (w : World) (Bm b : Nat) (es : Array MapEntry) (clock : Nat) (ks : List (List UInt8)),Bm < w.heap.size→w.cell? ⟨Bm,0,none⟩=some (.map (some b))→w.heap[b]?=some (.map es clock)→es.toList.map (·.key)=ks.map strv→Go.MapKept.Stamped es clock→
  (∀ k∈ks,k.length≤1000000)→ks.length≤1000000→
  Calls P g #[.func (.func gk) #[] #[.pointer (some ⟨Bm,0,none⟩)],.func (.func gc) #[] #[]] w fun e w'=>∃ (v : Value) (t : TypeId),e=.returned v∧w'.ownsRow w.heap.size t 1 v ks.length ((ZM ks).map strv)∧(v=.slice none 0 0↔ks=[])∧Go.RowKit.Below w.heap.size w w'
theorem Sim.below (h : Sim G w0 ι H w) (hb : Go.RowKit.Below w.heap.size w w') : Sim G w0 ι H w':=by
 refine ⟨fun i x hx=>(h.obj i x hx).blk fun l hl hd=>?_,h.inj,Nat.le_trans h.size hb.size,fun b hlt=>by rw [hb.block b (Nat.lt_of_lt_of_le hlt h.size)];exact h.old b hlt,h.dom,h.glob,?_,fun b hbp=>?_,fun j cs es nx l hj hl=>(h.views j cs es nx l hj hl).to (.refl ι) fun h1 ⟨c0,el0,fr0,hc0⟩=>⟨fun c el fr hc=>⟨fr,by rw [hb.block _ (Array.getElem?_eq_some_iff.1 hc0).1];exact hc⟩,h1⟩⟩
 ·obtain ⟨l',hl',hlt⟩:=(h.obj i x hx).loc hd
  rw [hl] at hl';cases hl'
  exact hb.block _ hlt
 ·rw [hb.os,hb.tape,hb.output];exact h.rest
 ·obtain ⟨p1,p2,p3⟩:=h.prot b hbp
  have hlt : b < w.heap.size:=by
   rcases Nat.lt_or_ge b w.heap.size with h1 | h1
   ·exact h1
   ·rw [Array.getElem?_eq_none h1] at p1;cases p1
  exact ⟨by rw [hb.block b hlt];exact p1,p2,p3⟩
theorem Q6.keys {ι : Nat→Option Loc} : ∀ {es : List (Value × Value × Nat)} {en : List MapEntry},Q6 ι es en→en.map (·.key)=es.map (·.1)∧en.map (·.born)=es.map (·.2.2)
 | [],[],_=>⟨rfl,rfl⟩
 | e :: es,n :: ns,h=>by
  obtain ⟨h1,h2⟩:=Q6.keys h.2
  exact ⟨by rw [List.map_cons,List.map_cons,h1,h.1.2.1],by rw [List.map_cons,List.map_cons,h2,h.1.2.2.2]⟩
 | [],_ :: _,h=>h.elim
 | _ :: _,[],h=>h.elim
theorem Zud {a b : List (List UInt8)} (h : a.Perm b) : ZM a=ZM b:=mergeSort_of_perm h
theorem Zgv (ks : List (List UInt8)) : (ZM ks).length=ks.length:=List.length_mergeSort ks
theorem Zht {ks : List (List UInt8)} (h : ks.Nodup) : (ks.map strv).Nodup:=by
 rw [List.nodup_iff_pairwise_ne] at h ⊢
 rw [List.pairwise_map]
 exact h.imp fun h e=>h (ZlX e)
theorem Zst {gks : List FuncId} {g gc : FuncId} (hgks : gks≠[]) (hC : ∀ gk∈gks,Zg6 P g gk gc) : Zei P G w0 g (Zb4 gks gc):=by
 intro args H v H1 h
 have hcall : Zbp P g:=by
  cases gks with
  | nil=>exact absurd rfl hgks
  | cons a l=>exact (hC a (by simp)).c
 refine .inl ⟨hcall,fun ι w args' hS hr=>?_⟩
 obtain ⟨gk,c,id,e,es,ks,hg,rfl,hc,hk,hm,ho⟩:=ZuJ h
 obtain ⟨x,r,rfl,hx,hr2⟩:=hr.cons_inv
 obtain ⟨y,r,rfl,hy,hr3⟩:=hr2.cons_inv
 rw [hr3.nil_inv]
 obtain ⟨a1,b1,rfl,ha1,hb1⟩:=hx.fn_inv
 obtain ⟨a2,b2,rfl,ha2,hb2⟩:=hy.fn_inv
 have ea1 : a1=#[]:=by have:=ha1.nil_inv;simpa using this
 have ea2 : a2=#[]:=by have:=ha2.nil_inv;simpa using this
 have eb2 : b2=#[]:=by have:=hb2.nil_inv;simpa using this
 obtain ⟨p',q',eb1,hp',hq'⟩:=hb1.cons_inv
 have:=hq'.nil_inv
 subst this
 obtain ⟨lc,hlc,rfl⟩:=hp'.ptr_inv
 have eb1 : b1=#[.pointer (some ⟨lc.blk,lc.base+0,none⟩)]:=by
  apply Array.ext'
  simpa using eb1
 subst ea1
 subst ea2
 subst eb2
 subst eb1
 obtain ⟨cc,el,fr,_,hgrow,hbc,hb5,hb6,hrc,hro,_⟩:=hS.cellsR hc hlc
 have hbase : lc.base=0:=(hro rfl).2.2 hgrow
 have hbl : lc.blk < w.heap.size:=by
  rcases Nat.lt_or_ge lc.blk w.heap.size with h1 | h1
  ·exact h1
  ·rw [Array.getElem?_eq_none h1] at hbc;cases hbc
 obtain ⟨u,hu1,hu2⟩:=hrc.at (o:=0) (by simp)
 obtain ⟨lm,hlm,hu3⟩:=RV.map_inv (id:=id) hu2
 subst hu3
 have hcell : w.cell? ⟨lc.blk,0,none⟩=some (.map (some lm.blk)):=by
  rw [Ze1 hbc]
  simpa [hbase] using hu1
 obtain ⟨en,clock,ks',hmb,hkeys,hst,hperm⟩ : ∃ (en : Array MapEntry) (clock : Nat) (ks' : List (List UInt8)),w.heap[lm.blk]?=some (.map en clock)∧en.toList.map (·.key)=ks'.map strv∧Go.MapKept.Stamped en clock∧ks'.Perm ks:=by
  rcases hm with ⟨clk,hid,hst⟩ | hid
  ·obtain ⟨en,hb,_,hE⟩:=hS.mapR hid hlm
   obtain ⟨k1,k2⟩:=Q6.keys hE
   refine ⟨en,clk,ks,hb,k1.trans hk.keys,⟨fun x hx=>?_,by rw [k2];exact hst.nod,by rw [k1,hk.keys];exact Zht hk.nod⟩,.refl _⟩
   have : x.born∈en.toList.map (·.born):=List.mem_map.2 ⟨x,hx,rfl⟩
   rw [k2] at this
   obtain ⟨e',h1,h2⟩:=List.mem_map.1 this
   rw [← h2];exact hst.lt e' h1
  ·obtain ⟨en,clk,es2,hb,_,hE,hp⟩:=hS.mapUR hid hlm
   obtain ⟨k1,k2⟩:=Q6.keys hE
   have hpk : (es2.map (·.1)).Perm (es.map (·.1)):=by
    have:=hp.perm.map (·.1)
    rwa [Zeo,Zeo] at this
   obtain ⟨ks2,hks2⟩ : ∃ ks2 : List (List UInt8),es2.map (·.1)=ks2.map strv:=by
    refine ⟨es2.map fun e=>match e.1 with | .string s=>s.data.toList | _=>[],?_⟩
    rw [List.map_map]
    refine List.map_congr_left fun e he=>?_
    obtain ⟨s,hs⟩:=hp.strs e he
    simp [hs,strv]
   rw [hks2,hk.keys] at hpk
   have hpk2 : ks2.Perm ks:=by
    have h3:=hpk.map fun v : Value=>match v with | .string s=>s.data.toList | _=>([] : List UInt8)
    simpa [List.map_map,Function.comp_def,strv] using h3
   refine ⟨en,clk,ks2,hb,k1.trans hks2,⟨fun x hx=>?_,by rw [k2];exact hp.st.nod,by rw [k1];exact hp.nod2⟩,hpk2⟩
   have : x.born∈en.toList.map (·.born):=List.mem_map.2 ⟨x,hx,rfl⟩
   rw [k2] at this
   obtain ⟨e',h1,h2⟩:=List.mem_map.1 this
   rw [← h2];exact hp.st.lt e' h1
 have hfew:=hk.few
 have hcon:=(hC gk hg).run w lc.blk lm.blk en clock ks' hbl hcell hmb hkeys hst (fun k hm=>hk.len k (hperm.mem_iff.1 hm)) (by rw [hperm.length_eq];exact hfew)
 rw [Zud hperm,hperm.length_eq] at hcon
 simp only [Nat.add_zero,hbase]
 refine hcon.mono fun ee w' ⟨v',t,he,hrow,hnil,hb⟩=>?_
 have hnil2 : v'=.slice none 0 0↔ks=[]:=by
  rw [hnil]
  constructor
  ·rintro rfl;exact List.eq_nil_of_length_eq_zero (by rw [← hperm.length_eq];rfl)
  ·rintro rfl;exact List.eq_nil_of_length_eq_zero (by rw [hperm.length_eq];rfl)
 have hS':=hS.below hb
 unfold Zg2 at ho
 by_cases h0 : ks=[]
 ·rw [if_pos h0] at ho
  cases ho
  exact ⟨ι,_,.refl ι,he,by rw [hnil2.2 h0];exact .sc rfl,hS'⟩
 ·rw [if_neg h0] at ho
  cases ho
  rcases hrow.2 with ⟨hv,_⟩ | ⟨gb,cap,cur,rfl,hge,hgb,r1,r2,r3,r4⟩
  ·exact absurd (hnil2.1 hv) h0
  have hlen : ((ZM ks).map strv).length=ks.length:=by rw [List.length_map,Zgv]
  rw [Nat.mul_one] at r3 r4
  have hadd:=hS'.add (o:=.cells ((ZM ks).map strv) 1 true false) (l:=⟨gb,0,cap,1,true⟩) ⟨⟨gb,0,cap,1,true⟩,cur,t,(0,0),Z5 _ _ _,rfl,rfl,hgb,by show 0+_≤cap;omega,by show cap≤cur.size;omega,by
   show RVs _ _ ((cur.toList.drop 0).take _)
   rw [List.drop_zero,hlen,r4]
   refine ⟨rfl,fun i hi=>?_⟩
   rw [List.getD_eq_getElem?_getD,List.getElem?_eq_getElem hi]
   simp only [List.getElem_map,Option.getD_some]
   exact .sc rfl,fun _=>⟨Nat.le_trans hS.size hge,.inl rfl,fun h=>by cases h⟩,by simp,fun x hx=>by
   obtain ⟨k,_,rfl⟩:=List.mem_map.1 hx
   rfl⟩ (fun i oi li hi hw hl=>by
   have:=((hS.obj i oi hi).newer hw li hl).2
   show li.blk≠gb
   omega) (fun b hbp=>by
   have p1:=(hS.prot b hbp).1
   show gb≠b
   rintro rfl
   rw [Array.getElem?_eq_none hge] at p1;cases p1) (fun _ j cs es nx lj hj hlj hbe=>by
   rcases hS.views j cs es nx lj hj hlj with ⟨l',k1,k2⟩ | ⟨⟨c,el,fr,k1,_⟩,_⟩
   ·exact ⟨l',k1,k2⟩
   ·have:=(Array.getElem?_eq_some_iff.1 k1).1
    have hbe : lj.blk=gb:=hbe
    omega)
  refine ⟨_,_,JN hS' _,he,?_,hadd⟩
  have:=RV.slc (ι:=YN ι H.length ⟨gb,0,cap,1,true⟩) (id:=H.length) (o:=0) (n:=ks.length) (c:=ks.length) (c':=cap) (Z5 _ _ _) (Nat.le_refl _) r1 (fun h=>by cases h) (by simp)
  simpa using this
end
end Go.Proofs.YtedkoimihknggaaGreatDoor.A
namespace Go.Proofs.YtedkoimihknggaaGreatDoor.A
set_option linter.unusedVariables false
set_option linter.unusedSimpArgs false
section
variable {α : Type}
def Zf (k : List UInt8) : List (List UInt8 × α)→Option α
 | []=>none
 | p :: m=>if p.1=k then some p.2 else Zf k m
def KU (k : List UInt8) (m : List (List UInt8 × α)) : List (List UInt8 × α):=m.filter fun p=>decide (p.1≠k)
def Qt (k : List UInt8) (v : α) (m : List (List UInt8 × α)) : List (List UInt8 × α):=
 if (Zf k m).isSome then m.map fun p=>if p.1=k then (k,v) else p else m++[(k,v)]
variable {k : List UInt8} {v : α} {m : List (List UInt8 × α)}
theorem ZcE : ∀ {m : List (List UInt8 × α)},Zf k m=none↔∀ p∈m,p.1≠k
 | []=>by simp [Zf]
 | p :: m=>by
  simp only [Zf]
  split
  ·rename_i h;simp [h]
  ·rename_i h
   rw [ZcE]
   simp [h]
theorem KK : ∀ {m : List (List UInt8 × α)} {v : α},Zf k m=some v→(k,v)∈m
 | [],v,h=>by cases h
 | p :: m,v,h=>by
  simp only [Zf] at h
  split at h
  ·rename_i hp
   cases h
   subst hp
   simp
  ·exact List.mem_cons_of_mem _ (KK h)
theorem Zaa : ∀ {m : List (List UInt8 × α)} {v : α},(m.map (·.1)).Nodup→(k,v)∈m→Zf k m=some v
 | [],v,_,h=>by cases h
 | p :: m,v,hn,h=>by
  simp only [List.map_cons,List.nodup_cons,List.mem_map,not_exists,not_and] at hn
  simp only [Zf]
  rcases List.mem_cons.1 h with h | h
  ·subst h;rw [if_pos rfl]
  ·rw [if_neg fun e=>hn.1 _ h e.symm]
   exact Zaa hn.2 h
theorem Zwr : ∀ {m : List (List UInt8 × α)} {v : α},Zf k m=some v→∃ j : Nat,m[j]?=some (k,v)
 | m,v,h=>List.getElem?_of_mem (KK h)
theorem ZhL : ∀ {m : List (List UInt8 × α)} {j : Nat} {v0 : α},(m.map (·.1)).Nodup→m[j]?=some (k,v0)→m.set j (k,v)=m.map fun p=>if p.1=k then (k,v) else p
 | [],j,v0,_,h=>by simp at h
 | p :: m,0,v0,hn,h=>by
  have : p=(k,v0):=by simpa using h
  subst this
  simp only [List.map_cons,List.nodup_cons,List.mem_map,not_exists,not_and] at hn
  simp only [List.set_cons_zero,List.map_cons,if_true]
  congr 1
  conv=>lhs;rw [← List.map_id m]
  refine List.map_congr_left fun q hq=>?_
  rw [if_neg (hn.1 q hq)];rfl
 | p :: m,j+1,v0,hn,h=>by
  have h' : m[j]?=some (k,v0):=by simpa using h
  simp only [List.map_cons,List.nodup_cons,List.mem_map,not_exists,not_and] at hn
  have hp : ¬ p.1=k:=fun e=>hn.1 (k,v0) (List.mem_of_getElem? h') e.symm
  simp only [List.set_cons_succ,List.map_cons,if_neg hp]
  rw [ZhL hn.2 h']
theorem Zdm : ∀ {m : List (List UInt8 × α)} {j : Nat} {v0 : α},(m.map (·.1)).Nodup→m[j]?=some (k,v0)→m.eraseIdx j=KU k m
 | [],j,v0,_,h=>by simp at h
 | p :: m,0,v0,hn,h=>by
  have : p=(k,v0):=by simpa using h
  subst this
  simp only [List.map_cons,List.nodup_cons,List.mem_map,not_exists,not_and] at hn
  unfold KU
  rw [List.eraseIdx_cons_zero,List.filter_cons,if_neg (by simp)]
  symm
  rw [List.filter_eq_self]
  exact fun q hq=>decide_eq_true (hn.1 q hq)
 | p :: m,j+1,v0,hn,h=>by
  have h' : m[j]?=some (k,v0):=by simpa using h
  simp only [List.map_cons,List.nodup_cons,List.mem_map,not_exists,not_and] at hn
  have hp : ¬ p.1=k:=fun e=>hn.1 (k,v0) (List.mem_of_getElem? h') e.symm
  have ih:=Zdm hn.2 h'
  unfold KU at ih ⊢
  rw [List.eraseIdx_cons_succ,List.filter_cons,if_pos (by simpa using hp),ih]
theorem Zo9 (h : Zf k m=none) : KU k m=m:=by
 unfold KU
 rw [List.filter_eq_self]
 exact fun p hp=>decide_eq_true (ZcE.1 h p hp)
theorem ZmR (h : (m.map (·.1)).Nodup) : ((Qt k v m).map (·.1)).Nodup:=by
 unfold Qt
 split
 ·rw [List.map_map]
  have : ((fun p : List UInt8 × α=>p.1) ∘ fun p=>if p.1=k then (k,v) else p)=fun p=>p.1:=by
   funext p
   simp only [Function.comp]
   split
   ·rename_i h;exact h.symm
   ·rfl
  rw [this];exact h
 ·rename_i hs
  have hn : Zf k m=none:=by cases e : Zf k m <;> simp_all
  rw [List.map_append,List.nodup_append]
  refine ⟨h,by simp,fun a ha b hb=>?_⟩
  have hb : b=k:=by simpa using hb
  obtain ⟨p,hp,rfl⟩:=List.mem_map.1 ha
  rw [hb];exact ZcE.1 hn p hp
theorem Znq (h : (m.map (·.1)).Nodup) : ((KU k m).map (·.1)).Nodup:=(List.filter_sublist.map _).nodup h
end
theorem Zvk {a b : List UInt8} : ((⟨a.toArray⟩ : ByteArray)==⟨b.toArray⟩)=(a==b):=by
 rw [ZoN]
 simp
theorem Zfg {α : Type} {enc : α→Value} {k : List UInt8} : ∀ {es : List (Value × Value × Nat)} {m : List (List UInt8 × α)} (i : Nat),es.map kv=m.map (fun p=>(strv p.1,enc p.2))→
  (Zf k m=none∧JK .str (strv k) es i=some none)∨∃ j v,m[j]?=some (k,v)∧Zf k m=some v∧JK .str (strv k) es i=some (some (i+j,enc v))
 | [],[],i,_=>.inl ⟨rfl,rfl⟩
 | e :: es,p :: m,i,h=>by
  simp only [List.map_cons,List.cons.injEq,kv,Prod.mk.injEq] at h
  obtain ⟨⟨h1,h2⟩,h3⟩:=h
  have hs : Zbd .str (strv k) e.1=some (k==p.1):=by rw [h1];simp only [Zbd,strv,Zvk]
  simp only [JK,hs,Zf]
  by_cases hk : p.1=k
  ·rw [show (k==p.1)=true by rw [hk];simp,if_pos hk]
   exact .inr ⟨0,p.2,by rw [← hk];rfl,rfl,by rw [h2];rfl⟩
  ·rw [show (k==p.1)=false by rw [beq_eq_false_iff_ne];exact Ne.symm hk,if_neg hk]
   rcases Zfg (i+1) h3 with ⟨h4,h5⟩ | ⟨j,v,h4,h5,h6⟩
   ·exact .inl ⟨h4,h5⟩
   ·exact .inr ⟨j+1,v,by simpa using h4,h5,by simp only;rw [h6];congr 3;omega⟩
 | [],_ :: _,_,h=>by cases h
 | _ :: _,[],_,h=>by cases h
theorem Zhr {u : Value} : ∀ {es : List (Value × Value × Nat)} {j : Nat} {p : Value × Value},(es.map kv)[j]?=some p→(Yd es j u).map kv=(es.map kv).set j (p.1,u)
 | [],j,p,h=>by simp at h
 | e :: es,0,p,h=>by
  have : kv e=p:=by simpa using h
  subst this
  simp [Yd,kv]
 | e :: es,j+1,p,h=>by
  have:=Zhr (u:=u) (es:=es) (j:=j) (p:=p) (by simpa using h)
  simp only [Yd] at this
  simp only [Yd,List.modify_succ_cons,List.map_cons,List.set_cons_succ,this]
section
variable {α : Type} {enc : α→Value} {H H' : Zd} {id : Nat} {m : List (List UInt8 × α)} {k : List UInt8} {v : α}
structure JB (enc : α→Value) (H : Zd) (id : Nat) (m : List (List UInt8 × α)) : Prop where
 ex : ∃ es,es.map kv=m.map (fun p=>(strv p.1,enc p.2))∧((∃ clk,H[id]?=some (.map es clk)∧ZaW es clk)∨H[id]?=some (.mapU es))
 nod : (m.map (·.1)).Nodup
theorem JB.lt (h : JB enc H id m) : id < H.length:=by
 obtain ⟨es,_,h1 | h1⟩:=h.ex
 ·obtain ⟨clk,h1,_⟩:=h1;exact JS h1
 ·exact JS h1
theorem JB.keep (h : JB enc H id m) (hk : H'[id]?=H[id]?) : JB enc H' id m:=by
 obtain ⟨es,h1,h2⟩:=h.ex
 exact ⟨⟨es,h1,by rw [hk];exact h2⟩,h.nod⟩
theorem JB.hle (h : JB enc H id m) (hl : HLe H H') : JB enc H' id m:=h.keep (hl.step.keep id h.lt (by simp))
theorem JB.step {o1 o2 : List Nat} (h : JB enc H id m) (hs : Zr o1 H o2 H') (hn : id∉o1) : JB enc H' id m:=h.keep (hs.keep id h.lt hn)
theorem Wj : okK .str (strv k)=true:=rfl
theorem JB.len (h : JB enc H id m) : lenM (.map (some id)) H=some (iv m.length,H):=by
 obtain ⟨es,h1,h2⟩:=h.ex
 have hl : es.length=m.length:=by have:=congrArg List.length h1;simpa using this
 unfold lenM
 rcases h2 with ⟨clk,h2,_⟩ | h2 <;> simp only [h2,hl]
theorem JB.lkp (h : JB enc H id m) {z : Value} {ok : Bool} : A.lkp .str z ok (.map (some id)) (strv k) H=
  some (match Zf k m with
   | some v=>bif ok then .tuple #[enc v,.bool true] else enc v
   | none=>bif ok then .tuple #[z,.bool false] else z,H):=by
 obtain ⟨es,h1,h2⟩:=h.ex
 unfold A.lkp
 rcases Zfg (k:=k) 0 h1 with ⟨h3,h4⟩ | ⟨j,v,h3,h4,h5⟩
 ·rcases h2 with ⟨clk,h2,_⟩ | h2 <;> simp only [h2,Wj,cond_true,h3,h4]
 ·rcases h2 with ⟨clk,h2,_⟩ | h2 <;> simp only [h2,Wj,cond_true,h4,h5]
theorem JB.mup (h : JB enc H id m) : ∃ H',A.mup .str (.map (some id)) (strv k) (enc v) H=some (undef,H')∧JB enc H' id (Qt k v m)∧Zr [id] H [id] H'∧H'.length=H.length:=by
 obtain ⟨es,h1,h2⟩:=h.ex
 have hst : ∀ o,Zr [id] H [id] (H.set id o):=fun o=>⟨by simp,fun j hj hn=>List.getElem?_set_ne (fun e=>hn (by simp [e])),fun j hj=>.inl hj⟩
 have hnod:=ZmR (k:=k) (v:=v) h.nod
 have hget : ∀ {j : Nat} {v0 : α},m[j]?=some (k,v0)→(es.map kv)[j]?=some (strv k,enc v0):=fun hj=>by rw [h1,List.getElem?_map,hj];rfl
 rcases Zfg (k:=k) 0 h1 with ⟨h3,h4⟩ | ⟨j,v0,h3,h4,h5⟩
 ·have ha : Qt k v m=m++[(k,v)]:=by unfold Qt;rw [h3];rfl
  rw [ha] at hnod ⊢
  have hm : ∀ b,(es++[(strv k,enc v,b)]).map kv=(m++[(k,v)]).map fun p=>(strv p.1,enc p.2):=fun b=>by rw [List.map_append,List.map_append,h1];rfl
  rcases h2 with ⟨clk,h2,hs⟩ | h2
  ·refine ⟨H.set id (.map (es++[(strv k,enc v,clk)]) (clk+1)),?_,⟨⟨_,hm clk,.inl ⟨clk+1,Qv h2,⟨fun e he=>?_,?_⟩⟩⟩,hnod⟩,hst _,by simp⟩
   ·unfold A.mup;simp only [h2,Wj,cond_true,h4]
   ·rcases List.mem_append.1 he with he | he
    ·have:=hs.lt e he;omega
    ·have : e=(strv k,enc v,clk):=by simpa using he
     rw [this];exact Nat.lt_succ_self _
   ·rw [List.map_append,List.nodup_append]
    refine ⟨hs.nod,by simp,fun a ha b hb=>?_⟩
    have hb : b=clk:=by simpa using hb
    obtain ⟨e,he,rfl⟩:=List.mem_map.1 ha
    have:=hs.lt e he;omega
  ·refine ⟨H.set id (.mapU (es++[(strv k,enc v,0)])),?_,⟨⟨_,hm 0,.inr (Qv h2)⟩,hnod⟩,hst _,by simp⟩
   unfold A.mup;simp only [h2,Wj,cond_true,h4];rfl
 ·have ha : Qt k v m=m.set j (k,v):=by unfold Qt;rw [h4];exact (ZhL h.nod h3).symm
  rw [ha] at hnod ⊢
  rw [Nat.zero_add] at h5
  have hm : (Yd es j (enc v)).map kv=(m.set j (k,v)).map fun p=>(strv p.1,enc p.2):=by
   rw [Zhr (hget h3),h1,List.map_set]
  rcases h2 with ⟨clk,h2,hs⟩ | h2
  ·refine ⟨H.set id (.map (Yd es j (enc v)) clk),?_,⟨⟨_,hm,.inl ⟨clk,Qv h2,Zkk hs⟩⟩,hnod⟩,hst _,by simp⟩
   unfold A.mup;simp only [h2,Wj,cond_true,h5]
  ·refine ⟨H.set id (.mapU (Yd es j (enc v))),?_,⟨⟨_,hm,.inr (Qv h2)⟩,hnod⟩,hst _,by simp⟩
   unfold A.mup;simp only [h2,Wj,cond_true,h5]
theorem JB.mde (h : JB enc H id m) : ∃ H',A.mde .str (.map (some id)) (strv k) H=some (.tuple #[],H')∧JB enc H' id (KU k m)∧Zr [id] H [id] H'∧H'.length=H.length:=by
 obtain ⟨es,h1,h2⟩:=h.ex
 have hst : ∀ o,Zr [id] H [id] (H.set id o):=fun o=>⟨by simp,fun j hj hn=>List.getElem?_set_ne (fun e=>hn (by simp [e])),fun j hj=>.inl hj⟩
 have hnod:=Znq (k:=k) h.nod
 rcases Zfg (k:=k) 0 h1 with ⟨h3,h4⟩ | ⟨j,v0,h3,h4,h5⟩
 ·refine ⟨H,?_,by rw [Zo9 h3];exact h,.refl _ _,rfl⟩
  unfold A.mde
  rcases h2 with ⟨clk,h2,hs⟩ | h2 <;> simp only [h2,Wj,cond_true,h4]
 ·have ha : KU k m=m.eraseIdx j:=(Zdm h.nod h3).symm
  rw [ha] at hnod ⊢
  rw [Nat.zero_add] at h5
  have hm : (es.eraseIdx j).map kv=(m.eraseIdx j).map fun p=>(strv p.1,enc p.2):=by
   have hg : ∀ {β γ : Type} (f : β→γ) (l : List β) (j : Nat),(l.eraseIdx j).map f=(l.map f).eraseIdx j:=fun f l j=>by
    rw [List.eraseIdx_eq_take_drop_succ,List.eraseIdx_eq_take_drop_succ,List.map_append,List.map_take,List.map_drop]
   rw [hg,hg,h1]
  rcases h2 with ⟨clk,h2,hs⟩ | h2
  ·refine ⟨H.set id (.map (es.eraseIdx j) clk),?_,⟨⟨_,hm,.inl ⟨clk,Qv h2,⟨fun e he=>hs.lt e ((List.eraseIdx_sublist es j).subset he),((List.eraseIdx_sublist es j).map _).nodup hs.nod⟩⟩⟩,hnod⟩,hst _,by simp⟩
   unfold A.mde;simp only [h2,Wj,cond_true,h5]
  ·refine ⟨H.set id (.mapU (es.eraseIdx j)),?_,⟨⟨_,hm,.inr (Qv h2)⟩,hnod⟩,hst _,by simp⟩
   unfold A.mde;simp only [h2,Wj,cond_true,h5]
theorem Zp6 (H : Zd) : ∃ H',mkm H=some (.map (some H.length),H')∧JB enc H' H.length []∧HLe H H':=
 ⟨_,rfl,⟨⟨[],rfl,.inl ⟨0,ZB,⟨by simp,by simp⟩⟩⟩,by simp⟩,.app _ _⟩
theorem JB.keys (h : JB enc H id m) {gks : List FuncId} {gc gk : FuncId} {c e : Nat} (hg : gk∈gks) (hc : H[c]?=some (.cells [.map (some id)] e false false)) (hf : m.length≤1000000) (hl : ∀ p∈m,p.1.length≤1000000) :
  ∃ v q H',Zb4 gks gc [.func (.func gk) #[] #[pt c],.func (.func gc) #[] #[]] H=some (v,H')∧Zw H' v ((ZM (m.map (·.1))).map strv) q∧HLe H H'∧∀ j∈q,H.length≤j:=by
 obtain ⟨es,h1,h2⟩:=h.ex
 have hk : ZfA es (m.map (·.1)):=⟨by
  have:=congrArg (List.map (·.1)) h1
  rw [Zeo] at this
  rw [this];simp [Function.comp_def],h.nod,by simpa using hf,fun k hk=>by
  obtain ⟨p,hp,rfl⟩:=List.mem_map.1 hk
  exact hl p hp⟩
 rw [ZqI hg hc hk h2]
 unfold Zg2
 by_cases h0 : m.map (·.1)=[]
 ·rw [if_pos h0,h0]
  have hz : ZM ([] : List (List UInt8))=[]:=List.mergeSort_nil
  rw [hz]
  exact ⟨_,[],_,rfl,Zw.nil,.refl _,by simp⟩
 ·rw [if_neg h0]
  refine ⟨_,[H.length],_,rfl,.inr ⟨H.length,[],true,?_,rfl,by simp⟩,.app _ _,by simp⟩
  simp [Zgv]
end
end Go.Proofs.YtedkoimihknggaaGreatDoor.A

namespace Go.Proofs.YtedkoimihknggaaGreatDoor.A
set_option linter.unusedVariables false
set_option linter.unusedSimpArgs false
def ZhR (args : List Value) : M Value:=fun H=>
 match args with
 | [.string s,.int .u8 c]=>some (iv (Go.Lib.indexByte s.data.toList c.toNat.toUInt8),H)
 | _=>none
def ZhM (args : List Value) : M Value:=fun H=>
 match args with
 | [.string s,.int .u8 c]=>some (iv (Go.Lib.countByte s.data.toList c.toNat.toUInt8),H)
 | _=>none
section
variable {P : Program} {G : Nat} {w0 : ZZ}
theorem ZtI {g : FuncId} (he : ZoI P g Extern.BytealgIndexByte.indexByte) : Zei P G w0 g ZhR:=by
 intro args H v H1 h
 refine .inr ⟨_,he,fun ι w args' hS hr=>?_⟩
 unfold ZhR at h
 split at h
 ·rename_i s c
  cases h
  obtain ⟨p',r',rfl,hp',hr'⟩:=hr.cons_inv
  obtain ⟨y',r2,rfl,hy',hr2⟩:=hr'.cons_inv
  have:=hr2.nil_inv;subst this
  have:=hy'.int_inv;subst this
  have:=hp'.scalar_inv rfl;subst this
  exact ⟨ι,_,w,.refl ι,hS,.sc rfl,Go.Lib.run_indexByteString s c w⟩
 ·cases h
theorem Zul {g : FuncId} (he : ZoI P g Extern.BytealgCount.count) : Zei P G w0 g ZhM:=by
 intro args H v H1 h
 refine .inr ⟨_,he,fun ι w args' hS hr=>?_⟩
 unfold ZhM at h
 split at h
 ·rename_i s c
  cases h
  obtain ⟨p',r',rfl,hp',hr'⟩:=hr.cons_inv
  obtain ⟨y',r2,rfl,hy',hr2⟩:=hr'.cons_inv
  have:=hr2.nil_inv;subst this
  have:=hy'.int_inv;subst this
  have:=hp'.scalar_inv rfl;subst this
  exact ⟨ι,_,w,.refl ι,hS,.sc rfl,Go.Lib.run_countString s c w⟩
 ·cases h
end
theorem Zs9 (b : UInt8) : (b.toNat : Int).toNat.toUInt8=b:=by
 rw [Int.toNat_natCast]
 simp
theorem ZyS {s : List UInt8} {b : UInt8} {H : Zd} : ZhR [strv s,.int .u8 b.toNat] H=some (iv (Go.Lib.indexByte s b),H):=by
 unfold ZhR strv
 simp only [Zs9]
theorem Zyp {s : List UInt8} {b : UInt8} {H : Zd} : ZhM [strv s,.int .u8 b.toNat] H=some (iv (s.count b),H):=by
 unfold ZhM strv Go.Lib.countByte
 simp only [Zs9]
theorem ZdM {b : UInt8} : ∀ {s : List UInt8},Go.Lib.indexByte s b=if b∈s then (((s.takeWhile (· !=b)).length : Nat) : Int) else -1
 | []=>rfl
 | c :: s=>by
  have ih:=ZdM (b:=b) (s:=s)
  unfold Go.Lib.indexByte
  by_cases hc : c=b
  ·subst hc;simp
  ·have h1 : (c==b)=false:=beq_eq_false_iff_ne.2 hc
   have h2 : (c !=b)=true:=by simp [hc]
   rw [h1,List.takeWhile_cons,h2,ih]
   by_cases hm : b∈s
   ·have : ¬ ((((s.takeWhile (· !=b)).length : Nat) : Int)==-1)=true:=by simp
    simp [hm,this]
   ·have hm2 : ¬ b∈c :: s:=by simp [hm,Ne.symm hc]
    simp [hm,Ne.symm hc]
end Go.Proofs.YtedkoimihknggaaGreatDoor.A

namespace Go.Proofs.YtedkoimihknggaaGreatDoor.A
set_option linter.unusedVariables false
set_option linter.unusedSimpArgs false
theorem Zps {α β : Type} {f : α→β} {m m' : List β} (h : m.Perm m') : ∀ {l : List α},l.map f=m→∃ l' : List α,l'.Perm l∧l'.map f=m':=by
 induction h with
 | nil=>intro l h;exact ⟨l,.refl _,h⟩
 | cons x _ ih=>
  intro l h
  cases l with
  | nil=>cases h
  | cons a l=>
   simp only [List.map_cons,List.cons.injEq] at h
   obtain ⟨l',h1,h2⟩:=ih h.2
   exact ⟨a :: l',h1.cons a,by simp [h.1,h2]⟩
 | swap x y l=>
  intro q h
  match q,h with
  | a :: b :: q,h=>
   simp only [List.map_cons,List.cons.injEq] at h
   exact ⟨b :: a :: q,.swap a b q,by simp [h.1,h.2.1,h.2.2]⟩
 | trans _ _ ih1 ih2=>
  intro l h
  obtain ⟨l1,h1,h2⟩:=ih1 h
  obtain ⟨l2,h3,h4⟩:=ih2 h2
  exact ⟨l2,h3.trans h1,h4⟩
def Zg1 : Zg→Bool
 | .map _ _=>true
 | .mapU _=>true
 | _=>false
def Zfv (H : Zd) : List (Value × Value × Nat)→Option (List Zg)
 | []=>some []
 | e :: es=>match e.2.1,Zfv H es with
  | .map (some s),some l=>match H[s]? with
   | some x=>if Zg1 x then some (x :: l) else none
   | none=>none
  | _,_=>none
def ZdD (base : Nat) : List (Value × Value × Nat)→List (Value × Value × Nat)
 | []=>[]
 | e :: es=>(e.1,.map (some base),0) :: ZdD (base+1) es
open Classical in
noncomputable def Zrv (H : Zd) (o : Nat) : Option (List (Value × Value × Nat)):=
 match H[o]? with
 | some (.map es clk)=>if ZaW es clk then some es else none
 | some (.mapU es)=>some es
 | _=>none
open Classical in
noncomputable def Zmy (args : List Value) : M Value:=fun H=>
 match args with
 | [.pointer (some ⟨g,0,none⟩)]=>match H[g]? with
  | some (.cells [.map (some o)] _ false false)=>match Zrv H o with
   | some es=>match Zfv H es with
    | some l=>if ∃ ks,ZfA es ks then some (pt (H.length+l.length+1),H++l++[.mapU (ZdD H.length es)]++[.cells [.map (some (H.length+l.length))] 1 false false]) else none
    | none=>none
   | none=>none
  | _=>none
 | _=>none
section
variable {P : Program} {w0 : ZZ} {ι : Nat→Option Loc} {H H1 : Zd} {w w' : World} {v : Value} {G : Nat}
theorem Zvi {args : List Value} (h : Zmy args H=some (v,H1)) : ∃ g o e es ks l,args=[pt g]∧H[g]?=some (.cells [.map (some o)] e false false)∧Zrv H o=some es∧ZfA es ks∧Zfv H es=some l∧v=pt (H.length+l.length+1)∧H1=H++l++[.mapU (ZdD H.length es)]++[.cells [.map (some (H.length+l.length))] 1 false false]:=by
 unfold Zmy at h
 split at h
 ·rename_i g
  split at h
  ·rename_i o e hg
   split at h
   ·rename_i es hes
    split at h
    ·rename_i l hl
     split at h
     ·rename_i hk
      obtain ⟨ks,hk⟩:=hk
      cases h
      exact ⟨g,o,e,es,ks,l,rfl,hg,hes,hk,hl,rfl,rfl⟩
     ·cases h
    ·cases h
   ·cases h
  ·cases h
 ·cases h
structure Zth (P : Program) (g : FuncId) : Prop where
 c : Zbp P g
 run : ∀ (w : World) (gb b : Nat) (es : Array MapEntry) (clock : Nat),gb < w.heap.size→w.cell? ⟨gb,0,none⟩=some (.map (some b))→w.heap[b]?=some (.map es clock)→Go.MapKept.Stamped es clock→
  (∀ x∈es.toList,∃ k : List UInt8,x.key=strv k)→(∀ x∈es.toList,∃ sb ses sclk,x.val=.map (some sb)∧w.heap[sb]?=some (.map ses sclk))→
  Calls P g #[.pointer (some ⟨gb,0,none⟩)] w fun e w'=>∃ (gb' ob : Nat) (el : TypeId) (en : Array MapEntry) (ck : Nat) (L : List (MapEntry × Nat)),e=.returned (.pointer (some ⟨gb',0,none⟩))∧
   w'.heap[gb']?=some (.cells #[.map (some ob)] el (0,0))∧w'.heap[ob]?=some (.map en ck)∧Go.MapKept.Stamped en ck∧
   en.toList.map (fun x=>(x.key,x.val))=L.map (fun p=>(p.1.key,Value.map (some p.2)))∧(L.map (·.1)).Perm es.toList∧
   (∀ p∈L,∃ sb,p.1.val=.map (some sb)∧w'.heap[p.2]?=w.heap[sb]?)∧(gb' :: ob :: L.map (·.2)).Nodup∧(∀ q∈gb' :: ob :: L.map (·.2),w.heap.size≤q)∧Go.RowKit.Below w.heap.size w w'
def Zdq (ι : Nat→Option Loc) (H : Zd) (b : Nat) : Prop:=(∀ i oi li,H[i]?=some oi→oi.wr=true→ι i=some li→li.blk≠b)∧
 ∀ j cs es nx lj,H[j]?=some (.view cs es nx)→ι j=some lj→lj.blk=b→∃ l',ι nx=some l'∧l'.blk=lj.blk∧l'.base=lj.base
theorem Zdq.add {o : Zg} {l : Loc} {b : Nat} (h : Zdq ι H b) (hS : Sim G w0 ι H w) (hb : l.blk≠b) (hov : o.isV=false:=by rfl) : Zdq (YN ι H.length l) (H++[o]) b:=by
 refine ⟨?_,fun j cs es nx lj hj hlj hbe=>?_⟩
 rotate_left
 ·rcases Nat.lt_trichotomy j H.length with hlt | rfl | hgt
  ·rw [List.getElem?_append_left hlt] at hj
   have : YN ι H.length l j=ι j:=by unfold YN;simp [Nat.ne_of_lt hlt]
   rw [this] at hlj
   obtain ⟨l',k1,k2⟩:=h.2 j cs es nx lj hj hlj hbe
   exact ⟨l',JN hS _ _ _ k1,k2⟩
  ·rw [ZB] at hj
   rw [Option.some.inj hj] at hov;cases hov
  ·rw [List.getElem?_eq_none (by simp;omega)] at hj;cases hj
 intro i oi li hi hw hl
 rcases Nat.lt_trichotomy i H.length with hlt | rfl | hgt
 ·rw [List.getElem?_append_left hlt] at hi
  have : YN ι H.length l i=ι i:=by unfold YN;simp [Nat.ne_of_lt hlt]
  rw [this] at hl
  exact h.1 i oi li hi hw hl
 ·have : YN ι H.length l H.length=some l:=Z5 _ _ _
  rw [this] at hl
  cases hl
  exact hb
 ·rw [List.getElem?_eq_none (by simp;omega)] at hi;cases hi
abbrev ZfQ (b : Nat) : Loc:=⟨b,0,0,0,false⟩
def ZgI (ι : Nat→Option Loc) : Value→Value
 | .map (some s)=>.map ((ι s).map (·.blk))
 | v=>v
theorem ZuC {H : Zd} {w' : World} (hS : Sim G w0 ι H w) : ∀ (es : List (Value × Value × Nat)) (L : List (MapEntry × Nat)) (l : List Zg) (ι0 : Nat→Option Loc) (H0 : Zd),Sim G w0 ι0 H0 w'→Le ι ι0→Zfv H es=some l→
  L.map (fun p=>(p.1.key,p.1.val))=es.map (fun e=>(e.1,ZgI ι e.2.1))→(∀ p∈L,∃ sb,p.1.val=.map (some sb)∧w'.heap[p.2]?=w.heap[sb]?)→(L.map (·.2)).Nodup→(∀ p∈L,Zdq ι0 H0 p.2∧w0.heap.size≤p.2∧∀ b∈w0.prot,p.2≠b)→
  ∃ ι1,Le ι0 ι1∧Sim G w0 ι1 (H0++l) w'∧l.length=es.length∧(∀ i p,L[i]?=some p→ι1 (H0.length+i)=some (ZfQ p.2))∧(∀ b,Zdq ι0 H0 b→b∉L.map (·.2)→Zdq ι1 (H0++l) b)
 | [],L,l,ι0,H0,h0,hle,hl,hm,_,_,_=>by
  cases hl
  have : L=[]:=by simpa using hm
  subst this
  exact ⟨ι0,.refl _,by rw [List.append_nil];exact h0,rfl,fun i p h=>by simp at h,fun b h _=>by rw [List.append_nil];exact h⟩
 | e :: es,L,l,ι0,H0,h0,hle,hl,hm,hc,hn,hf=>by
  cases L with
  | nil=>simp at hm
  | cons p L=>
   simp only [List.map_cons,List.cons.injEq,Prod.mk.injEq] at hm
   unfold Zfv at hl
   split at hl
   ·rename_i _ _ s l' he hl'
    split at hl
    ·rename_i x hx
     split at hl
     ·rename_i hmp
      cases hl
      obtain ⟨sb,hsb,hcp⟩:=hc p (by simp)
      obtain ⟨hfp,hgp,hpp⟩:=hf p (by simp)
      rw [he] at hm
      have hv:=hm.1.2
      rw [hsb] at hv
      have hsl : ∃ ls,ι s=some ls∧ls.blk=sb:=by
       simp only [ZgI] at hv
       cases hs : ι s with
       | none=>rw [hs] at hv;simp at hv
       | some ls=>rw [hs] at hv;exact ⟨ls,rfl,by simpa using hv.symm⟩
      obtain ⟨ls,hls,rfl⟩:=hsl
      have hR : Zbr w0 (YN ι0 H0.length (ZfQ p.2)) H0.length x w':=by
       have hle2 : Le ι (YN ι0 H0.length (ZfQ p.2)):=hle.trans (JN h0 _)
       cases x with
       | map es' clk=>
        obtain ⟨en,hb,hge,hE⟩:=hS.mapR hx hls
        exact ⟨_,en,Z5 _ _ _,hcp.trans hb,hgp,hE.mono hle2⟩
       | mapU es'=>
        obtain ⟨en,clk,es2,hb,hge,hE,hp⟩:=hS.mapUR hx hls
        exact ⟨_,en,clk,es2,Z5 _ _ _,hcp.trans hb,hgp,hE.mono hle2,hp⟩
       | _=>simp [Zg1] at hmp
      have hov : x.isV=false:=by cases x <;> first | rfl | simp [Zg1] at hmp
      have h1:=h0.add hR hfp.1 hpp (fun _=>hfp.2) hov
      simp only [List.map_cons,List.nodup_cons] at hn
      obtain ⟨ι1,a1,a2,a3,a4,a5⟩:=ZuC hS es L l' _ _ h1 (hle.trans (JN h0 _)) hl' hm.2 (fun q hq=>hc q (by simp [hq])) hn.2 (fun q hq=>by
       obtain ⟨b1,b2⟩:=hf q (by simp [hq])
       exact ⟨b1.add h0 (fun e=>hn.1 (List.mem_map.2 ⟨q,hq,e.symm⟩)) hov,b2⟩)
      refine ⟨ι1,(JN h0 _).trans a1,by rw [List.append_assoc,List.singleton_append] at a2;exact a2,by simp [a3],fun i q hi=>?_,fun b hb hnb=>?_⟩
      ·cases i with
       | zero=>
        have : p=q:=by simpa using hi
        subst this
        exact a1 _ _ (Z5 _ _ _)
       | succ i=>
        have:=a4 i q (by simpa using hi)
        rwa [List.length_append,List.length_singleton,Nat.add_assoc,Nat.add_comm 1 i] at this
      ·simp only [List.map_cons,List.mem_cons,not_or] at hnb
       have:=a5 b (hb.add h0 (Ne.symm hnb.1) hov) hnb.2
       rwa [List.append_assoc,List.singleton_append] at this
     ·cases hl
    ·cases hl
   ·cases hl
theorem Zdq.sim (h : Sim G w0 ι H w) {b : Nat} (hb : w.heap.size≤b) : Zdq ι H b:=⟨fun i oi li hi hw hl=>by
 have:=((h.obj i oi hi).newer hw li hl).2
 omega,fun j cs es nx lj hj hlj hbe=>by
 rcases h.views j cs es nx lj hj hlj with ⟨l',k1,k2⟩ | ⟨⟨c,el,fr,k1,_⟩,_⟩
 ·exact ⟨l',k1,k2⟩
 ·have:=(Array.getElem?_eq_some_iff.1 k1).1
  omega⟩
theorem Zox (h : Sim G w0 ι H w) {b : Nat} (hb : w.heap.size≤b) : ∀ c∈w0.prot,b≠c:=fun c hc e=>by
 have p1:=(h.prot c hc).1
 subst e
 rw [Array.getElem?_eq_none hb] at p1;cases p1
def Zrk (B : List ((MapEntry × Nat) × Nat)) (en : List MapEntry) : List (Value × Value × Nat):=List.zipWith (fun b x=>(b.1.1.key,Value.map (some b.2),x.born)) B en
theorem ZrI : ∀ (B : List ((MapEntry × Nat) × Nat)) (en : List MapEntry),en.map (fun x=>(x.key,x.val))=B.map (fun b=>(b.1.1.key,Value.map (some b.1.2)))→(∀ b∈B,Qs b.1.1.key=true∧ι b.2=some (ZfQ b.1.2))→
  Q6 ι (Zrk B en) en∧(Zrk B en).map kv=B.map (fun b=>(b.1.1.key,Value.map (some b.2)))∧(Zrk B en).map (·.2.2)=en.map (·.born)
 | [],[],_,_=>⟨trivial,rfl,rfl⟩
 | [],_ :: _,h,_=>by simp at h
 | _ :: _,[],h,_=>by simp at h
 | b :: B,x :: en,h,hb=>by
  simp only [List.map_cons,List.cons.injEq,Prod.mk.injEq] at h
  obtain ⟨h1,h2,h3⟩:=ZrI B en h.2 (fun c hc=>hb c (by simp [hc]))
  obtain ⟨g1,g2⟩:=hb b (by simp)
  have hm : RV ι (.map (some b.2)) (.map (some b.1.2)):=.mp (l:=ZfQ b.1.2) g2
  refine ⟨⟨⟨g1,h.1.1,by rw [h.1.2];exact hm,rfl⟩,h1⟩,?_,?_⟩
  ·simp only [List.map_cons]
   rw [← h2];rfl
  ·simp only [List.map_cons]
   rw [← h3];rfl
theorem ZsS : ∀ (es : List (Value × Value × Nat)) (L : List (MapEntry × Nat)) (base : Nat),L.map (fun p=>p.1.key)=es.map (·.1)→
  (ZdD base es).map kv=(L.zipIdx base).map (fun b=>(b.1.1.key,Value.map (some b.2)))∧(ZdD base es).map (·.1)=es.map (·.1)
 | [],L,base,h=>by
  have : L=[]:=by simpa using h
  subst this
  exact ⟨rfl,rfl⟩
 | e :: es,[],base,h=>by simp at h
 | e :: es,p :: L,base,h=>by
  simp only [List.map_cons,List.cons.injEq] at h
  obtain ⟨h1,h2⟩:=ZsS es L (base+1) h.2
  refine ⟨?_,?_⟩
  ·simp only [ZdD,List.map_cons,List.zipIdx_cons]
   rw [h1,← h.1];rfl
  ·simp only [ZdD,List.map_cons]
   rw [h2]
theorem Zm7 : ∀ {es : List (Value × Value × Nat)} {l : List Zg},Zfv H es=some l→∀ e∈es,∃ s x,e.2.1=.map (some s)∧H[s]?=some x∧Zg1 x=true
 | [],l,h,e,he=>by cases he
 | e0 :: es,l,h,e,he=>by
  unfold Zfv at h
  split at h
  ·rename_i _ _ s l' hv hl'
   split at h
   ·rename_i x hx
    split at h
    ·rename_i hm
     rcases List.mem_cons.1 he with rfl | he
     ·exact ⟨s,x,hv,hx,hm⟩
     ·exact Zm7 hl' e he
    ·cases h
   ·cases h
  ·cases h
theorem Zph (hle : ∀ e : Value × Value × Nat,∀ n,RV ι e.2.1 n→(∃ s,e.2.1=.map (some s))→n=ZgI ι e.2.1) : ∀ (es : List (Value × Value × Nat)) (en : List MapEntry),Q6 ι es en→(∀ e∈es,∃ s,e.2.1=.map (some s))→en.map (fun x=>(x.key,x.val))=es.map (fun e=>(e.1,ZgI ι e.2.1))
 | [],[],_,_=>rfl
 | [],_ :: _,h,_=>h.elim
 | _ :: _,[],h,_=>h.elim
 | e :: es,n :: ns,h,hs=>by
  simp only [List.map_cons]
  rw [Zph hle es ns h.2 (fun e he=>hs e (by simp [he])),h.1.2.1,hle e _ h.1.2.2.1 (hs e (by simp))]
theorem Zx9 {e : Value × Value × Nat} {n : Value} (h : RV ι e.2.1 n) (hs : ∃ s,e.2.1=.map (some s)) : n=ZgI ι e.2.1:=by
 obtain ⟨s,hs⟩:=hs
 rw [hs] at h ⊢
 obtain ⟨l,hl,rfl⟩:=h.map_inv
 simp [ZgI,hl]
theorem ZtY {g : FuncId} (hC : Zth P g) : Zei P G w0 g Zmy:=by
 intro args H v H1 h
 refine .inl ⟨hC.c,fun ι w args' hS hr=>?_⟩
 obtain ⟨gi,o,e1,es,ks,l,rfl,hg,hes,hk,hl,rfl,rfl⟩:=Zvi h
 obtain ⟨x,r,rfl,hx,hr2⟩:=hr.cons_inv
 rw [hr2.nil_inv]
 obtain ⟨lc,hlc,rfl⟩:=hx.ptr_inv
 obtain ⟨cc,el,fr,_,hgrow,hbc,hb5,hb6,hrc,hro,_⟩:=hS.cellsR hg hlc
 have hbase : lc.base=0:=(hro rfl).2.2 hgrow
 have hbl : lc.blk < w.heap.size:=by
  rcases Nat.lt_or_ge lc.blk w.heap.size with h1 | h1
  ·exact h1
  ·rw [Array.getElem?_eq_none h1] at hbc;cases hbc
 obtain ⟨u,hu1,hu2⟩:=hrc.at (o:=0) (by simp)
 obtain ⟨lm,hlm,hu3⟩:=RV.map_inv (id:=o) hu2
 subst hu3
 have hcell : w.cell? ⟨lc.blk,0,none⟩=some (.map (some lm.blk)):=by
  rw [Ze1 hbc]
  simpa [hbase] using hu1
 have hsets:=Zm7 hl
 have hismap : ∀ e∈es,∃ s,e.2.1=.map (some s):=fun e he=>by obtain ⟨s,_,h1,_⟩:=hsets e he;exact ⟨s,h1⟩
 obtain ⟨en,clock,es2,hmb,hE,hperm,hst⟩ : ∃ (en : Array MapEntry) (clock : Nat) (es2 : List (Value × Value × Nat)),w.heap[lm.blk]?=some (.map en clock)∧Zba ι es2 en∧(es2.map kv).Perm (es.map kv)∧ZaW es2 clock:=by
  unfold Zrv at hes
  split at hes
  ·rename_i es0 clk hid
   split at hes
   ·rename_i hst
    cases hes
    obtain ⟨en,hb,_,hE⟩:=hS.mapR hid hlm
    exact ⟨en,_,_,hb,hE,.refl _,hst⟩
   ·cases hes
  ·rename_i es0 hid
   cases hes
   obtain ⟨en,clk,es2,hb,_,hE,hp⟩:=hS.mapUR hid hlm
   exact ⟨en,clk,es2,hb,hE,hp.perm,hp.st⟩
  ·cases hes
 have hmem2 : ∀ e∈es2,∃ f∈es,f.1=e.1∧f.2.1=e.2.1:=fun e he=>by
  have : kv e∈es.map kv:=hperm.mem_iff.1 (List.mem_map.2 ⟨e,he,rfl⟩)
  obtain ⟨f,hf,h1⟩:=List.mem_map.1 this
  unfold kv at h1
  simp only [Prod.mk.injEq] at h1
  exact ⟨f,hf,h1.1,h1.2⟩
 have hismap2 : ∀ e∈es2,∃ s,e.2.1=.map (some s):=fun e he=>by
  obtain ⟨f,hf,_,h2⟩:=hmem2 e he
  rw [← h2];exact hismap f hf
 obtain ⟨k1,k2⟩:=Q6.keys hE
 have hkv:=Zph (fun e n h hs=>Zx9 h hs) es2 en.toList hE hismap2
 have hkeyp : (es2.map (·.1)).Perm (ks.map strv):=by
  have h3:=hperm.map (·.1)
  rw [Zeo,Zeo] at h3
  rw [← hk.keys];exact h3
 have hstr : ∀ x∈en.toList,∃ k : List UInt8,x.key=strv k:=fun x hx=>by
  have h3 : x.key∈es2.map (·.1):=by rw [← k1];exact List.mem_map.2 ⟨x,hx,rfl⟩
  obtain ⟨k,_,h4⟩:=List.mem_map.1 (hkeyp.mem_iff.1 h3)
  exact ⟨k,h4.symm⟩
 have hsets2 : ∀ x∈en.toList,∃ sb ses sclk,x.val=.map (some sb)∧w.heap[sb]?=some (.map ses sclk):=fun x hx=>by
  have h3 : (x.key,x.val)∈es2.map (fun e=>(e.1,ZgI ι e.2.1)):=by rw [← hkv];exact List.mem_map.2 ⟨x,hx,rfl⟩
  obtain ⟨e,he,h4⟩:=List.mem_map.1 h3
  obtain ⟨f,hf,_,hf2⟩:=hmem2 e he
  obtain ⟨s,y,hy1,hy2,hy3⟩:=hsets f hf
  simp only [Prod.mk.injEq] at h4
  rw [← hf2,hy1] at h4
  have hd : y≠.dead:=by rintro rfl;simp [Zg1] at hy3
  obtain ⟨ls,hls,_⟩:=(hS.obj s y hy2).loc hd
  have h5 : x.val=.map (some ls.blk):=by rw [← h4.2];simp [ZgI,hls]
  cases y with
  | map es' clk=>
   obtain ⟨en',hb,_,_⟩:=hS.mapR hy2 hls
   exact ⟨_,_,_,h5,hb⟩
  | mapU es'=>
   obtain ⟨en',clk,_,hb,_,_⟩:=hS.mapUR hy2 hls
   exact ⟨_,_,_,h5,hb⟩
  | _=>simp [Zg1] at hy3
 have hstamp : Go.MapKept.Stamped en clock:=by
  refine ⟨fun x hx=>?_,by rw [k2];exact hst.nod,by rw [k1];exact hkeyp.nodup_iff.2 (Zht hk.nod)⟩
  have h3 : x.born∈en.toList.map (·.born):=List.mem_map.2 ⟨x,hx,rfl⟩
  rw [k2] at h3
  obtain ⟨e',h1,h2⟩:=List.mem_map.1 h3
  rw [← h2];exact hst.lt e' h1
 simp only [Nat.add_zero,hbase]
 refine (hC.run w lc.blk lm.blk en clock hbl hcell hmb hstamp hstr hsets2).mono fun ee w' ⟨gb',ob,el',en',ck,L,he,hgb,hob,hst',hen',hL,hcp,hnd,hge,hb⟩=>?_
 have hS':=hS.below hb
 have hLkv : (L.map fun p=>(p.1.key,p.1.val)).Perm (es.map fun e=>(e.1,ZgI ι e.2.1)):=by
  have h3:=hL.map (fun x : MapEntry=>(x.key,x.val))
  rw [List.map_map,hkv] at h3
  have h4:=hperm.map (fun q : Value × Value=>(q.1,ZgI ι q.2))
  rw [List.map_map,List.map_map] at h4
  exact h3.trans h4
 obtain ⟨L',hL',hLm⟩:=Zps hLkv rfl
 simp only [List.nodup_cons,List.mem_cons,not_or] at hnd
 obtain ⟨⟨n1,n2⟩,n3,n4⟩:=hnd
 have hnod' : (L'.map (·.2)).Nodup:=(hL'.map _).nodup_iff.2 n4
 have hgeL : ∀ p∈L',w.heap.size≤p.2:=fun p hp=>hge _ (by simp only [List.mem_cons,List.mem_map];exact .inr (.inr ⟨p,hL'.mem_iff.1 hp,rfl⟩))
 obtain ⟨ι1,a1,a2,a3,a4,a5⟩:=ZuC hS es L' l ι H hS' (.refl _) hl hLm (fun p hp=>hcp p (hL'.mem_iff.1 hp)) hnod' (fun p hp=>⟨Zdq.sim hS (hgeL p hp),Nat.le_trans hS.size (hgeL p hp),Zox hS (hgeL p hp)⟩)
 have hobge:=hge ob (by simp)
 have hgbge:=hge gb' (by simp)
 have hobF : Zdq ι1 (H++l) ob:=a5 ob (Zdq.sim hS hobge) fun hm=>n3 ((hL'.map (·.2)).mem_iff.1 hm)
 have hgbF : Zdq ι1 (H++l) gb':=a5 gb' (Zdq.sim hS hgbge) fun hm=>n2 ((hL'.map (·.2)).mem_iff.1 hm)
 obtain ⟨B,hB,hBm⟩:=Zps (f:=Prod.fst) (l:=L'.zipIdx H.length) (m':=L) (by rw [List.zipIdx_map_fst];exact hL') rfl
 have hBi : ∀ b∈B,Qs b.1.1.key=true∧ι1 b.2=some (ZfQ b.1.2):=fun b hb=>by
  have hb':=hB.mem_iff.1 hb
  obtain ⟨i,hi⟩:=List.getElem?_of_mem hb'
  rw [List.getElem?_zipIdx] at hi
  cases hq : L'[i]? with
  | none=>rw [hq] at hi;cases hi
  | some q=>
   rw [hq] at hi
   have hi : (q,H.length+i)=b:=by simpa using hi
   subst hi
   refine ⟨?_,a4 i q hq⟩
   have hqL : q.1∈L.map (·.1):=List.mem_map.2 ⟨q,hL'.mem_iff.1 (List.mem_of_getElem? hq),rfl⟩
   obtain ⟨k,hk⟩:=hstr q.1 (hL.mem_iff.1 hqL)
   show Qs q.1.key=true
   rw [hk];rfl
 have hen2 : en'.toList.map (fun x=>(x.key,x.val))=B.map (fun b=>(b.1.1.key,Value.map (some b.1.2))):=by
  rw [hen',← hBm,List.map_map];rfl
 obtain ⟨z1,z2,z3⟩:=ZrI B en'.toList hen2 hBi
 have hkeysL : L'.map (fun p=>p.1.key)=es.map (·.1):=by
  have:=congrArg (List.map Prod.fst) hLm
  simpa [List.map_map,Function.comp_def] using this
 obtain ⟨y1,y2⟩:=ZsS es L' H.length hkeysL
 have hle1 : Le ι ι1:=a1
 have hlen : (H++l).length=H.length+l.length:=List.length_append
 have hPU : Wd (Zrk B en'.toList) ck (ZdD H.length es):=by
  refine ⟨?_,⟨fun e he=>?_,?_⟩,⟨fun e he=>?_,?_⟩⟩
  ·rw [z2,y1]
   exact hB.map _
  ·have : e.1∈(ZdD H.length es).map (·.1):=List.mem_map.2 ⟨e,he,rfl⟩
   rw [y2,hk.keys] at this
   obtain ⟨k,_,h4⟩:=List.mem_map.1 this
   exact ⟨_,h4.symm⟩
  ·rw [y2,hk.keys];exact Zht hk.nod
  ·have : e.2.2∈(Zrk B en'.toList).map (·.2.2):=List.mem_map.2 ⟨e,he,rfl⟩
   rw [z3] at this
   obtain ⟨x,hx,h4⟩:=List.mem_map.1 this
   rw [← h4];exact hst'.1 x hx
  ·rw [z3];exact hst'.2.1
 have hO:=a2.add (o:=.mapU (ZdD H.length es)) (l:=ZfQ ob) ⟨ZfQ ob,en',ck,_,Z5 _ _ _,hob,Nat.le_trans hS.size hobge,z1.mono (JN a2 _),hPU⟩ hobF.1 (Zox hS hobge) (fun _=>hobF.2)
 have hgbF2 : Zdq (YN ι1 (H++l).length (ZfQ ob)) (H++l++[.mapU (ZdD H.length es)]) gb':=hgbF.add a2 (Ne.symm n1)
 have hN:=hO.add (o:=.cells [.map (some (H.length+l.length))] 1 false false) (l:=⟨gb',0,1,1,false⟩) (by
  refine ⟨⟨gb',0,1,1,false⟩,_,_,_,Z5 _ _ _,rfl,rfl,hgb,by simp,by simp,?_,fun _=>⟨Nat.le_trans hS.size hgbge,.inl rfl,fun _=>rfl⟩,by simp,by simp [oneCell]⟩
  refine ⟨rfl,fun i hi=>?_⟩
  have : i=0:=by simpa using hi
  subst this
  refine .mp (l:=ZfQ ob) (JN hO _ _ _ ?_)
  rw [← hlen]
  exact Z5 _ _ _) hgbF2.1 (Zox hS hgbge) (fun _=>hgbF2.2)
 refine ⟨_,_,(hle1.trans (JN a2 _)).trans (JN hO _),he,?_,hN⟩
 have hp:=RV.ptr (ι:=YN (YN ι1 (H++l).length (ZfQ ob)) (H++l++[Zg.mapU (ZdD H.length es)]).length ⟨gb',0,1,1,false⟩) (o:=0) (Z5 _ _ _)
 have hlen2 : (H++l++[Zg.mapU (ZdD H.length es)]).length=H.length+l.length+1:=by rw [List.length_append,List.length_append,List.length_singleton]
 rw [hlen2] at hp ⊢
 exact hp
end
end Go.Proofs.YtedkoimihknggaaGreatDoor.A

