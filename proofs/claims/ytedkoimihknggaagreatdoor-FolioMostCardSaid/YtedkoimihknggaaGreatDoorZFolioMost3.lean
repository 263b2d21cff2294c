/- What the law FolioMost needs (part 3). -/
import Derived.Test.YtedkoimihknggaaGreatDoorZFolioMost2
import Derived.Test.YtedkoimihknggaaGreatDoorProg
import Derived.KernelRfl
import Derived.Maps.Own
import Derived.Sort.KeysCollected
import Derived.Lib.Bytealg
import Derived.WalkKit
import Derived.Maps.RangeWalk
import Derived.Deep.RegionWith
import Derived.Deep.Cut
import Derived.Laws.Cover1
import Derived.Sort.Walk0
import Derived.Sort.OwnSorted
import Derived.Shelf.SlGeneric
import Derived.Shelf.SlIter.Collect
import Derived.Shelf.SlSortCmp.Whole1
import Derived.Shelf.SlMaps.Clone
import Derived.Ground.GgzProg
import Derived.Ground.SlsfProg
import Derived.Ground.SlmcProg
namespace Go.Proofs.YtedkoimihknggaaGreatDoor.A
set_option linter.unusedVariables false
set_option maxRecDepth 100000
set_option linter.unusedSimpArgs false
open Go.Proofs Go.Proofs.YtedkoimihknggaaGreatDoor
noncomputable def ZP.l1 (Γ : Zc) (s3 s4 s5 s21 s22 s23 : Value) : M Out:=
 bind (bop .int .lss s23 s22) fun y10=>
 cnd y10
 (bind (ixa 1 s21 s23) fun y11=>
 bind (ld1 y11) fun y12=>
 bind (Qg Γ s4 [y12,(Value.int .i64 12)]) fun y13=>
 bind (bsl 1 1 (.string ⟨#[]⟩) [(0,1,y13)]) fun y14=>
 bind (app 1 16 s5 y14) fun y15=>
 bind (bop .int .add s23 (Value.int .i64 1)) fun y16=>
 ret (.nrm [s3,s4,y15,s21,s22,y16]))
 (ret (.ext 0 [s3,s4,s5]))
noncomputable def ZP.l2 (Γ : Zc) (s3 s4 s5 s8 s34 s35 s36 : Value) : M Out:=
 bind (bop .int .lss s36 s35) fun y21=>
 cnd y21
 (bind (ixa 1 s34 s36) fun y22=>
 bind (ld1 y22) fun y23=>
 bind (ld1 s3) fun y24=>
 bind (Qg Γ s4 [y23,(Value.int .i64 12)]) fun y25=>
 bind (ld1 s3) fun u_26=>same u_26 y24 <|
 bind (Qg Γ s4 [y23,(Value.int .i64 12)]) fun y27=>
 bind (ld1 s3) fun u_28=>same u_28 y24 <|
 bind (bop .str .add y27 (Value.string ⟨#[64,98,99,100,46,101,102]⟩)) fun y29=>
 bind (bop .str .add y29 y24) fun y30=>
 bind (bld (.agg #[.string ⟨#[]⟩,.string ⟨#[]⟩,.string ⟨#[]⟩,.bool false,.slice none 0 0]) [(0,1,y25),(1,1,(Value.string ⟨#[48,49,50,51,52,53,54,55,56,57,97,98]⟩)),(2,1,y30),(3,1,(Value.bool true)),(4,1,s5)]) fun y31=>
 bind (bsl 5 1 (.agg #[.string ⟨#[]⟩,.string ⟨#[]⟩,.string ⟨#[]⟩,.bool false,.slice none 0 0]) [(0,5,y31)]) fun y32=>
 bind (app 5 80 s8 y32) fun y33=>
 bind (bop .int .add s36 (Value.int .i64 1)) fun y34=>
 ret (.nrm [s3,s4,s5,y33,s34,s35,y34]))
 (ret (.ext 2 [s5,s8]))
noncomputable def ZP (Γ : Zc) (x0 : Value) : M Value:=
 bind (Γ KY []) fun y1=>
 bind (uop .not y1) fun y2=>
 cnd y2
 (ret (Value.bool false))
 (bind (bop .int .rem x0 (Value.int .u8 26)) fun y3=>
 bind (bop .int .add (Value.int .u8 97) y3) fun y4=>
 bind (bsl 1 1 (.int .u8 0) [(0,1,y4)]) fun y5=>
 bind (b2s y5) fun y6=>
 bind (alc 1 (.string ⟨#[]⟩)) fun y7=>
 bind (st1 y7 y6) fun _=>
 bind (bsl 1 6 (.string ⟨#[]⟩) [(0,1,(Value.string ⟨#[97,49]⟩)),(1,1,(Value.string ⟨#[98,49]⟩)),(2,1,(Value.string ⟨#[99,49]⟩)),(3,1,(Value.string ⟨#[100,49]⟩)),(4,1,(Value.string ⟨#[101,49]⟩)),(5,1,(Value.string ⟨#[102,49]⟩))]) fun y8=>
 bind (Zk y8) fun y9=>
 jn (Zf (c6 (ZP.l1 Γ)) [y7,(Value.func (.func 11) #[] #[y7]),(Value.slice none 0 0),y8,y9,(Value.int .i64 0)]) noN (xk 0 (c3 fun q18_0 q18_1 q18_2=>
 bind (bsl 1 12 (.string ⟨#[]⟩) [(0,1,(Value.string ⟨#[97]⟩)),(1,1,(Value.string ⟨#[98]⟩)),(2,1,(Value.string ⟨#[99]⟩)),(3,1,(Value.string ⟨#[100]⟩)),(4,1,(Value.string ⟨#[101]⟩)),(5,1,(Value.string ⟨#[102]⟩)),(6,1,(Value.string ⟨#[103]⟩)),(7,1,(Value.string ⟨#[104]⟩)),(8,1,(Value.string ⟨#[105]⟩)),(9,1,(Value.string ⟨#[106]⟩)),(10,1,(Value.string ⟨#[107]⟩)),(11,1,(Value.string ⟨#[108]⟩))]) fun y19=>
 bind (Zk y19) fun y20=>
 jn (Zf (c7 (ZP.l2 Γ)) [q18_0,q18_1,q18_2,(Value.slice none 0 0),y19,y20,(Value.int .i64 0)]) noN (xk 2 (c2 fun q36_0 q36_1=>
 bind (Γ Kz [q36_1,q36_0]) fun y37=>
 bind (Zl y37 0) fun y38=>
 bind (Zl y37 1) fun y39=>
 bind (bop .int .eql y39 (Value.int .i64 0)) fun y40=>
 bind (Zx y40 true 2 (bind (bop .ptr .neq y38 (Value.pointer none)) fun y41=>
 ret [y38,y41])) (c2 fun _ q42_1=>
 bind (pick y40 q42_1 (Value.bool false)) fun y43=>
 bind (Zx y43 true 5 (bind (Γ Qp [y38]) fun y44=>
 bind (Zk y44) fun y45=>
 bind (Γ Zak []) fun y46=>
 bind (bop .int .eql y45 y46) fun y47=>
 ret [y38,y44,y45,y46,y47])) (c5 fun _ _ _ _ q48_4=>
 bind (pick y43 q48_4 (Value.bool false)) fun y49=>
 ret y49))) noX) ret) noX) ret)
theorem Zhh (Γ : Zc) (x0 : Value) : ZE Tryz.prog Γ Tryz.f3 Zcu [x0]=ZP Γ x0:=by kernel_rfl
theorem Zf2 {prim : FuncId→Option (List Value→M Value)} (hp : prim Wo=none) (n : Nat) (x0 : Value) : run Tryz.prog prim lvs (n+1) Wo [x0]=ZP (run Tryz.prog prim lvs n) x0:=
 (Zo hp (by kernel_rfl) Tryz.func3 (by kernel_rfl)).trans (Zhh _ x0)
noncomputable def Zct.l1 (Γ : Zc) (s5 s6 s9 s11 s63 s64 s65 : Value) : M Out:=
 bind (bop .int .lss s65 s64) fun y44=>
 cnd y44
 (bind (ixa 4 s63 s65) fun y45=>
 bind (ldA 4 y45) fun y46=>
 bind (alc 1 (.agg #[.int .u8 0,.string ⟨#[]⟩,.string ⟨#[]⟩,.bool false])) fun y47=>
 bind (stA 4 y47 y46) fun _=>
 bind (ldA 2 s6) fun y48=>
 bind (ldA 4 y47) fun y49=>
 bind (Γ Zdk [s5,y48,y49]) fun y50=>
 bind (Zl y50 0) fun y51=>
 bind (Zl y50 1) fun y52=>
 bind (stA 2 s6 y51) fun _=>
 bind (ldA 2 s11) fun y53=>
 bind (ldA 4 y47) fun y54=>
 bind (Γ Zdk [s9,y53,y54]) fun y55=>
 bind (Zl y55 0) fun y56=>
 bind (Zl y55 1) fun y57=>
 bind (stA 2 s11 y56) fun _=>
 bind (uop .not y52) fun y58=>
 bind (Ze y58 false (ret y57)) fun y59=>
 bind (Ze y58 false (uop .not y59)) fun y60=>
 bind (pick y58 (Value.bool true) y60) fun y61=>
 bind (Ze y61 false (ret s5)) fun y62=>
 bind (Ze y61 false (ret s9)) fun y63=>
 bind (Ze y61 false (Γ Qp [y62])) fun y64=>
 bind (Ze y61 false (b2s y64)) fun y65=>
 bind (Ze y61 false (Γ Qp [y63])) fun y66=>
 bind (Ze y61 false (b2s y64)) fun u_67=>same u_67 y65 <|
 bind (Ze y61 false (b2s y66)) fun y68=>
 bind (Ze y61 false (bop .str .neq y65 y68)) fun y69=>
 bind (pick y61 (Value.bool true) y69) fun y70=>
 cnd y70
 (ret (.ret (Value.bool false)))
 (bind (bop .int .add s65 (Value.int .i64 1)) fun y71=>
 ret (.nrm [s5,s6,s9,s11,s63,s64,y71])))
 (ret (.ext 0 []))
noncomputable def Zct (Γ : Zc) (x0 x1 : Value) : M Value:=
 bind (Γ KY []) fun y1=>
 bind (uop .not y1) fun y2=>
 bind (Zx y2 false 3 (bind (Γ Zef [x0]) fun y3=>
 bind (uop .not y3) fun y4=>
 ret [x0,y3,y4])) (c3 fun _ _ q5_2=>
 bind (pick y2 (Value.bool true) q5_2) fun y6=>
 bind (Zx y6 false 3 (bind (Γ Zef [x1]) fun y7=>
 bind (uop .not y7) fun y8=>
 ret [x1,y7,y8])) (c3 fun _ _ q9_2=>
 bind (pick y6 (Value.bool true) q9_2) fun y10=>
 cnd y10
 (bind (Γ KY []) fun y11=>
 ret y11)
 (bind (Γ Ze1 [x0]) fun y12=>
 bind (Zl y12 0) fun y13=>
 bind (Zl y12 1) fun y14=>
 bind (alc 1 (.agg #[.slice none 0 0,.slice none 0 0])) fun y15=>
 bind (stA 2 y15 y14) fun _=>
 bind (Γ Ze1 [x1]) fun y16=>
 bind (Zl y16 0) fun y17=>
 bind (Zl y16 1) fun y18=>
 bind (alc 1 (.agg #[.slice none 0 0,.slice none 0 0])) fun y19=>
 bind (stA 2 y19 y18) fun _=>
 bind (ldA 2 y15) fun y20=>
 bind (Γ Qp [y13]) fun y21=>
 bind (ldA 2 y15) fun u_22=>same u_22 y20 <|
 bind (b2s y21) fun y23=>
 bind (Γ Qp [y17]) fun y24=>
 bind (b2s y21) fun u_25=>same u_25 y23 <|
 bind (ldA 2 y15) fun u_26=>same u_26 y20 <|
 bind (b2s y24) fun y27=>
 bind (bop .str .eql y23 y27) fun y28=>
 bind (Γ Zn1 [y17,y20]) fun y29=>
 bind (b2s y24) fun u_30=>same u_30 y27 <|
 bind (b2s y21) fun u_31=>same u_31 y23 <|
 bind (bop .bool .neq y28 y29) fun y32=>
 cnd y32
 (ret (Value.bool false))
 (bind (Γ Qp [y13]) fun y33=>
 bind (Γ ZnQ [y33]) fun y34=>
 bind (Zl y34 0) fun y35=>
 bind (Zl y34 1) fun y36=>
 bind (bop .int .neq y36 (Value.int .i64 0)) fun y37=>
 bind (Zx y37 false 2 (bind (bop .ptr .eql y35 (Value.pointer none)) fun y38=>
 ret [y35,y38])) (c2 fun _ q39_1=>
 bind (pick y37 (Value.bool true) q39_1) fun y40=>
 cnd y40
 (ret (Value.bool false))
 (bind (ldA 2 y15) fun y41=>
 bind (alc 1 (.agg #[.slice none 0 0,.slice none 0 0])) fun y42=>
 bind (stA 2 y42 y41) fun _=>
 bind (Zk x1) fun y43=>
 jn (Zf (c7 (Zct.l1 Γ)) [y13,y15,y35,y42,x1,y43,(Value.int .i64 0)]) noN (xk 0 (c0 (ret (Value.bool true))) noX) ret))))))
noncomputable def KF.l1 (Γ : Zc) (s1 s2 s3 s9 s48 s49 s50 : Value) : M Out:=
 bind (bop .int .lss s50 s49) fun y22=>
 cnd y22
 (bind (ixa 3 s48 s50) fun y23=>
 bind (ldA 3 y23) fun y24=>
 bind (alc 1 (.agg #[.int .u8 0,.string ⟨#[]⟩,.string ⟨#[]⟩])) fun y25=>
 bind (stA 3 y25 y24) fun _=>
 bind (ldA 3 y25) fun y26=>
 bind (Γ ZkY [s9,y26]) fun y27=>
 bind (bop .int .add s50 (Value.int .i64 1)) fun y28=>
 ret (.nrm [s1,s2,s3,s9,s48,s49,y28]))
 (ret (.ext 0 [s1,s2,s3,s9]))
noncomputable def KF.l2 (Γ : Zc) (s2 s3 s9 s13 s72 s73 s74 : Value) : M Out:=
 bind (bop .int .lss s74 s73) fun y41=>
 cnd y41
 (bind (ixa 3 s72 s74) fun y42=>
 bind (ldA 3 y42) fun y43=>
 bind (alc 1 (.agg #[.int .u8 0,.string ⟨#[]⟩,.string ⟨#[]⟩])) fun y44=>
 bind (stA 3 y44 y43) fun _=>
 bind (ldA 3 y44) fun y45=>
 bind (ldA 3 y44) fun y46=>
 bind (Γ ZkY [s9,y45]) fun y47=>
 bind (ldA 3 y44) fun u_48=>same u_48 y46 <|
 bind (Γ Zmx [s13,y46]) fun y49=>
 bind (bop .int .neq y47 y49) fun y50=>
 bind (Ze y50 false (ret s9)) fun y51=>
 bind (Ze y50 false (ret s13)) fun y52=>
 bind (Ze y50 false (Γ ZbS [y51])) fun y53=>
 bind (Ze y50 false (Γ Qp [y53])) fun y54=>
 bind (Ze y50 false (b2s y54)) fun y55=>
 bind (Ze y50 false (Γ Qp [y52])) fun y56=>
 bind (Ze y50 false (b2s y54)) fun u_57=>same u_57 y55 <|
 bind (Ze y50 false (b2s y56)) fun y58=>
 bind (Ze y50 false (bop .str .neq y55 y58)) fun y59=>
 bind (pick y50 (Value.bool true) y59) fun y60=>
 cnd y60
 (ret (.ret (Value.bool false)))
 (bind (Γ Zir [s9,s2]) fun y61=>
 bind (Zl y61 0) fun y62=>
 bind (Zl y61 1) fun y63=>
 bind (Γ Yv [s13,s2]) fun y64=>
 bind (Zl y64 0) fun y65=>
 bind (Zl y64 1) fun y66=>
 bind (alc 1 (.agg #[.string ⟨#[]⟩,.string ⟨#[]⟩,.string ⟨#[]⟩,.bool false,.slice none 0 0])) fun y67=>
 bind (stA 5 y67 y65) fun _=>
 bind (Γ ZkS [s9,s3]) fun y68=>
 bind (Zl y68 0) fun y69=>
 bind (Zl y68 1) fun y70=>
 bind (Γ ZkR [s13,s3]) fun y71=>
 bind (Zl y71 0) fun y72=>
 bind (Zl y71 1) fun y73=>
 bind (fa 1 y67) fun y74=>
 bind (ld1 y74) fun y75=>
 bind (bop .str .neq y62 y75) fun y76=>
 bind (Zx y76 false 3 (bind (bop .int .neq y63 y66) fun y77=>
 ret [y63,y66,y77])) (c3 fun _ _ q78_2=>
 bind (pick y76 (Value.bool true) q78_2) fun y79=>
 bind (Zx y79 false 3 (bind (bop .int .neq y70 y73) fun y80=>
 ret [y70,y73,y80])) (c3 fun _ _ q81_2=>
 bind (pick y79 (Value.bool true) q81_2) fun y82=>
 bind (Zx y82 false 4 (bind (Γ Ziq [y69,y72]) fun y83=>
 bind (uop .not y83) fun y84=>
 ret [y69,y72,y83,y84])) (c4 fun _ _ _ q85_3=>
 bind (pick y82 (Value.bool true) q85_3) fun y86=>
 cnd y86
 (ret (.ret (Value.bool false)))
 (bind (bop .int .add s74 (Value.int .i64 1)) fun y87=>
 ret (.nrm [s2,s3,s9,s13,s72,s73,y87])))))))
 (ret (.ext 2 []))
noncomputable def KF (Γ : Zc) (x0 x1 x2 x3 : Value) : M Value:=
 bind (Γ ZaZ []) fun y1=>
 bind (uop .not y1) fun y2=>
 bind (Zx y2 false 3 (bind (Γ ZjP [x0]) fun y3=>
 bind (uop .not y3) fun y4=>
 ret [x0,y3,y4])) (c3 fun _ _ q5_2=>
 bind (pick y2 (Value.bool true) q5_2) fun y6=>
 bind (Zx y6 false 3 (bind (Γ ZjP [x1]) fun y7=>
 bind (uop .not y7) fun y8=>
 ret [x1,y7,y8])) (c3 fun _ _ q9_2=>
 bind (pick y6 (Value.bool true) q9_2) fun y10=>
 bind (Zx y10 false 3 (bind (QL x2) fun y11=>
 bind (bop .int .gtr y11 (Value.int .i64 50)) fun y12=>
 ret [x2,y11,y12])) (c3 fun _ _ q13_2=>
 bind (pick y10 (Value.bool true) q13_2) fun y14=>
 bind (Zx y14 false 3 (bind (QL x3) fun y15=>
 bind (bop .int .gtr y15 (Value.int .i64 50)) fun y16=>
 ret [x3,y15,y16])) (c3 fun _ _ q17_2=>
 bind (pick y14 (Value.bool true) q17_2) fun y18=>
 cnd y18
 (bind (Γ ZaZ []) fun y19=>
 ret y19)
 (bind (Γ ZjQ []) fun y20=>
 bind (Zk x0) fun y21=>
 jn (Zf (c7 (KF.l1 Γ)) [x1,x2,x3,y20,x0,y21,(Value.int .i64 0)]) noN (xk 0 (c4 fun q30_0 q30_1 q30_2 q30_3=>
 bind (Γ ZhS [q30_3]) fun y31=>
 bind (b2s y31) fun y32=>
 bind (Γ ZbS [q30_3]) fun y33=>
 bind (bop .ptr .eql y33 (Value.pointer none)) fun y34=>
 bind (Zx y34 false 5 (bind (Γ ZhS [q30_3]) fun y35=>
 bind (b2s y35) fun y36=>
 bind (bop .str .neq y36 y32) fun y37=>
 ret [q30_3,y35,y36,y32,y37])) (c5 fun _ _ _ _ q38_4=>
 bind (pick y34 (Value.bool true) q38_4) fun y39=>
 cnd y39
 (ret (Value.bool false))
 (bind (Zk q30_0) fun y40=>
 jn (Zf (c7 (KF.l2 Γ)) [q30_1,q30_2,q30_3,y33,q30_0,y40,(Value.int .i64 0)]) noN (xk 2 (c0 (bind (Γ ZbS [(Value.pointer none)]) fun y90=>
 bind (bop .ptr .eql y90 (Value.pointer none)) fun y91=>
 ret y91)) noX) ret))) noX) ret)))))
noncomputable def KE.l1 (Γ : Zc) (s3 s4 s23 s24 s25 : Value) : M Out:=
 bind (bop .int .lss s25 s24) fun y11=>
 cnd y11
 (bind (ixa 4 s23 s25) fun y12=>
 bind (ldA 4 y12) fun y13=>
 bind (alc 1 (.agg #[.int .u8 0,.string ⟨#[]⟩,.string ⟨#[]⟩,.bool false])) fun y14=>
 bind (stA 4 y14 y13) fun _=>
 bind (ldA 2 s4) fun y15=>
 bind (ldA 4 y14) fun y16=>
 bind (Γ Zdk [s3,y15,y16]) fun y17=>
 bind (Zl y17 0) fun y18=>
 bind (Zl y17 1) fun y19=>
 bind (stA 2 s4 y18) fun _=>
 bind (bop .int .add s25 (Value.int .i64 1)) fun y20=>
 ret (.nrm [s3,s4,s23,s24,y20]))
 (ret (.ext 0 [s3,s4]))
noncomputable def KE.l2 (Γ : Zc) (s3 s4 s7 s42 s43 s44 : Value) : M Out:=
 bind (bop .int .lss s44 s43) fun y30=>
 cnd y30
 (bind (ixa 5 s42 s44) fun y31=>
 bind (ldA 5 y31) fun y32=>
 bind (alc 1 (.agg #[.string ⟨#[]⟩,.string ⟨#[]⟩,.string ⟨#[]⟩,.bool false,.slice none 0 0])) fun y33=>
 bind (stA 5 y33 y32) fun _=>
 bind (Zx s7 true 3 (bind (fa 2 y33) fun y34=>
 bind (ld1 y34) fun y35=>
 bind (bop .str .eql y35 (Value.string ⟨#[]⟩)) fun y36=>
 ret [y34,y35,y36])) (c3 fun _ _ q37_2=>
 bind (pick s7 q37_2 (Value.bool false)) fun y38=>
 bind (Zx y38 true 3 (bind (fa 3 y33) fun y39=>
 bind (ld1 y39) fun y40=>
 bind (uop .not y40) fun y41=>
 ret [y39,y40,y41])) (c3 fun _ _ q42_2=>
 bind (pick y38 q42_2 (Value.bool false)) fun y43=>
 bind (bop .int .add s44 (Value.int .i64 1)) fun y44=>
 ret (.nrm [s3,s4,y43,s42,s43,y44]))))
 (ret (.ext 2 [s3,s4,s7]))
noncomputable def KE (Γ : Zc) (x0 : Value) : M Value:=
 bind (Γ ZaZ []) fun y1=>
 bind (uop .not y1) fun y2=>
 bind (Zx y2 false 3 (bind (Γ Zef [x0]) fun y3=>
 bind (uop .not y3) fun y4=>
 ret [x0,y3,y4])) (c3 fun _ _ q5_2=>
 bind (pick y2 (Value.bool true) q5_2) fun y6=>
 cnd y6
 (bind (Γ ZaZ []) fun y7=>
 ret y7)
 (bind (Γ YW []) fun y8=>
 bind (alc 1 (.agg #[.slice none 0 0,.slice none 0 0])) fun y9=>
 bind (Zk x0) fun y10=>
 jn (Zf (c5 (KE.l1 Γ)) [y8,y9,x0,y10,(Value.int .i64 0)]) noN (xk 0 (c2 fun q22_0 q22_1=>
 bind (fa 1 q22_1) fun y23=>
 bind (ld1 y23) fun y24=>
 bind (Zk y24) fun y25=>
 bind (bop .int .eql y25 (Value.int .i64 0)) fun y26=>
 bind (fa 0 q22_1) fun y27=>
 bind (ld1 y27) fun y28=>
 bind (Zk y28) fun y29=>
 jn (Zf (c6 (KE.l2 Γ)) [q22_0,q22_1,y26,y28,y29,(Value.int .i64 0)]) noN (xk 2 (c3 fun q46_0 q46_1 q46_2=>
 bind (Γ Zfa [q46_0]) fun y47=>
 bind (Zl y47 0) fun y48=>
 bind (Zl y47 1) fun y49=>
 bind (uop .not q46_2) fun y50=>
 cnd y50
 (bind (bop .int .eql y49 (Value.int .i64 12)) fun y51=>
 bind (Zx y51 true 2 (bind (bop .ptr .eql y48 (Value.pointer none)) fun y52=>
 ret [y48,y52])) (c2 fun _ q53_1=>
 bind (pick y51 q53_1 (Value.bool false)) fun y54=>
 ret y54))
 (bind (bop .int .neq y49 (Value.int .i64 0)) fun y55=>
 bind (Ze y55 false (ret y48)) fun y56=>
 bind (Ze y55 false (bop .ptr .eql y56 (Value.pointer none))) fun y57=>
 bind (pick y55 (Value.bool true) y57) fun y58=>
 bind (Ze y58 false (ret y48)) fun y59=>
 bind (Ze y58 false (ret q46_0)) fun y60=>
 bind (Ze y58 false (Γ ZbS [y59])) fun y61=>
 bind (Ze y58 false (Γ Qp [y61])) fun y62=>
 bind (Ze y58 false (b2s y62)) fun y63=>
 bind (Ze y58 false (Γ Qp [y60])) fun y64=>
 bind (Ze y58 false (b2s y62)) fun u_65=>same u_65 y63 <|
 bind (Ze y58 false (b2s y64)) fun y66=>
 bind (Ze y58 false (bop .str .neq y63 y66)) fun y67=>
 bind (pick y58 (Value.bool true) y67) fun y68=>
 cnd y68
 (ret (Value.bool false))
 (bind (Γ Zfa [(Value.pointer none)]) fun y69=>
 bind (Zl y69 0) fun y70=>
 bind (Zl y69 1) fun y71=>
 bind (bop .int .eql y71 (Value.int .i64 12)) fun y72=>
 bind (Ze y72 true (ret y70)) fun y73=>
 bind (Ze y72 true (bop .ptr .eql y73 (Value.pointer none))) fun y74=>
 bind (pick y72 y74 (Value.bool false)) fun y75=>
 bind (Ze y75 true (ret y48)) fun y76=>
 bind (Ze y75 true (fa 0 q46_1)) fun y77=>
 bind (Ze y75 true (ld1 y77)) fun y78=>
 bind (Ze y75 true (Γ Zco [y76])) fun y79=>
 bind (Ze y75 true (ld1 y77)) fun u_80=>same u_80 y78 <|
 bind (Ze y75 true (Γ Zic [y79,y78])) fun y81=>
 bind (pick y75 y81 (Value.bool false)) fun y82=>
 ret y82))) noX) ret) noX) ret))
noncomputable def Zda (Γ : Zc) : M Value:=
 bind (Γ YW []) fun y1=>
 bind (Γ Qp [y1]) fun y2=>
 bind (b2s y2) fun y3=>
 bind (bop .str .eql y3 (Value.string ⟨#[2,0,0,0,0]⟩)) fun y4=>
 ret y4
theorem ZlB (Γ : Zc) : ZE Tryz.prog Γ Tryz.f10 Zfc []=Zda Γ :=by kernel_rfl
theorem Zkp {prim : FuncId→Option (List Value→M Value)} (hp : prim KY=none) (n : Nat) : run Tryz.prog prim lvs (n+1) KY []=Zda (run Tryz.prog prim lvs n) :=
 (Zo hp (by kernel_rfl) Tryz.func10 (by kernel_rfl)).trans (ZlB _ )
noncomputable def Jj.l1 (Γ : Zc) (s0 s1 s2 : Value) : M Out:=
 bind (QL s0) fun y1=>
 bind (bop .int .lss y1 s1) fun y2=>
 cnd y2
 (bind (ld1 s2) fun y3=>
 bind (bop .str .add s0 y3) fun y4=>
 ret (.nrm [y4,s1,s2]))
 (ret (.ext 0 [s0]))
noncomputable def Jj (Γ : Zc) (x0 x1 x2 : Value) : M Value:=
 jn (Zf (c3 (Jj.l1 Γ)) [x0,x1,x2]) noN (xk 0 (c1 fun q6_0=>
 ret q6_0) noX) ret
theorem Zgp (Γ : Zc) (x0 x1 x2 : Value) : ZE Tryz.prog Γ Tryz.f11 Zb4 [x0,x1,x2]=Jj Γ x0 x1 x2:=by kernel_rfl
theorem Zfp {prim : FuncId→Option (List Value→M Value)} (hp : prim Zaf=none) (n : Nat) (x0 x1 x2 : Value) : run Tryz.prog prim lvs (n+1) Zaf [x0,x1,x2]=Jj (run Tryz.prog prim lvs n) x0 x1 x2:=
 (Zo hp (by kernel_rfl) Tryz.func11 (by kernel_rfl)).trans (Zgp _ x0 x1 x2)
noncomputable def Z4.l1 (Γ : Zc) (s0 s7 s23 s24 s25 : Value) : M Out:=
 bind (bop .int .lss s25 s24) fun y5=>
 cnd y5
 (bind (ixa 1 s23 s25) fun y6=>
 bind (ld1 y6) fun y7=>
 bind (Ja s7) fun y8=>
 bind (fa 2 y8) fun y9=>
 bind (ld1 y9) fun y10=>
 bind (Γ JE [y10,y7]) fun y11=>
 bind (bop .int .add s25 (Value.int .i64 1)) fun y12=>
 ret (.nrm [s0,s7,s23,s24,y12]))
 (ret (.ext 0 [s0,s7]))
noncomputable def Z4.l3 (Γ : Zc) (s7 s11 s36 s37 s38 s54 s55 s56 : Value) : M Out:=
 bind (bop .int .lss s56 s55) fun y33=>
 cnd y33
 (bind (ixa 1 s54 s56) fun y34=>
 bind (ld1 y34) fun y35=>
 bind (Ja s7) fun y36=>
 bind (fa 2 y36) fun y37=>
 bind (ld1 y37) fun y38=>
 bind (fa 0 s11) fun y39=>
 bind (ld1 y39) fun y40=>
 bind (Γ Yj [y38,y35,y40]) fun y41=>
 bind (bop .int .neq y41 (Value.int .i64 0)) fun y42=>
 cnd y42
 (ret (.ret (Value.tuple #[(Value.pointer none),y41])))
 (bind (bop .int .add s56 (Value.int .i64 1)) fun y43=>
 ret (.nrm [s7,s11,s36,s37,s38,s54,s55,y43])))
 (ret (.ext 4 [s7,s11,s36,s37,s38]))
noncomputable def Z4.l2 (Γ : Zc) (s7 s36 s37 s38 : Value) : M Out:=
 bind (bop .int .lss s38 s37) fun y16=>
 cnd y16
 (bind (ixa 5 s36 s38) fun y17=>
 bind (ldA 5 y17) fun y18=>
 bind (alc 1 (.agg #[.string ⟨#[]⟩,.string ⟨#[]⟩,.string ⟨#[]⟩,.bool false,.slice none 0 0])) fun y19=>
 bind (stA 5 y19 y18) fun _=>
 bind (Ja s7) fun y20=>
 bind (fa 0 y20) fun y21=>
 bind (ld1 y21) fun y22=>
 bind (fa 0 y19) fun y23=>
 bind (ld1 y23) fun y24=>
 bind (fa 1 y19) fun y25=>
 bind (ld1 y25) fun y26=>
 bind (fa 3 y19) fun y27=>
 bind (ld1 y27) fun y28=>
 bind (bld (.agg #[.string ⟨#[]⟩,.bool false]) [(0,1,y26),(1,1,y28)]) fun y29=>
 bind (mup .str y22 y24 y29) fun _=>
 bind (fa 4 y19) fun y30=>
 bind (ld1 y30) fun y31=>
 bind (Zk y31) fun y32=>
 jn (Zf (c8 (Z4.l3 Γ)) [s7,y19,s36,s37,s38,y31,y32,(Value.int .i64 0)]) noN (xk 4 (c5 fun q45_0 q45_1 q45_2 q45_3 q45_4=>
 bind (Ja q45_0) fun y46=>
 bind (fa 1 y46) fun y47=>
 bind (ld1 y47) fun y48=>
 bind (fa 0 q45_1) fun y49=>
 bind (ld1 y49) fun y50=>
 bind (fa 2 q45_1) fun y51=>
 bind (ld1 y51) fun y52=>
 bind (Γ J9 [y48,y50,y52]) fun y53=>
 bind (bop .int .neq y53 (Value.int .i64 0)) fun y54=>
 cnd y54
 (ret (.ret (Value.tuple #[(Value.pointer none),y53])))
 (bind (bop .int .add q45_4 (Value.int .i64 1)) fun y55=>
 ret (.nrm [q45_0,q45_2,q45_3,y55]))) noX) ZN)
 (ret (.ext 2 [s7]))
noncomputable def Z4 (Γ : Zc) (x0 x1 : Value) : M Value:=
 bind (Γ WX [x0,x1]) fun y1=>
 bind (bop .int .neq y1 (Value.int .i64 0)) fun y2=>
 cnd y2
 (ret (Value.tuple #[(Value.pointer none),y1]))
 (bind (Γ YW []) fun y3=>
 bind (Zk x1) fun y4=>
 jn (Zf (c5 (Z4.l1 Γ)) [x0,y3,x1,y4,(Value.int .i64 0)]) noN (xk 0 (c2 fun q14_0 q14_1=>
 bind (Zk q14_0) fun y15=>
 jn (Zf (c4 (Z4.l2 Γ)) [q14_1,q14_0,y15,(Value.int .i64 0)]) noN (xk 2 (c1 fun q58_0=>
 ret (Value.tuple #[q58_0,(Value.int .i64 0)])) noX) ret) noX) ret)
theorem Zo6 (Γ : Zc) (x0 x1 : Value) : ZE Tryz.prog Γ Tryz.f12 Zjr [x0,x1]=Z4 Γ x0 x1:=by kernel_rfl
theorem ZnE {prim : FuncId→Option (List Value→M Value)} (hp : prim Kz=none) (n : Nat) (x0 x1 : Value) : run Tryz.prog prim lvs (n+1) Kz [x0,x1]=Z4 (run Tryz.prog prim lvs n) x0 x1:=
 (Zo hp (by kernel_rfl) Tryz.func12 (by kernel_rfl)).trans (Zo6 _ x0 x1)
noncomputable def YD.l1 (Γ : Zc) (s3 s19 s20 s21 : Value) : M Out:=
 bind (bop .int .lss s21 s20) fun y12=>
 cnd y12
 (bind (ixa 5 s19 s21) fun y13=>
 bind (ldA 5 y13) fun y14=>
 bind (alc 1 (.agg #[.string ⟨#[]⟩,.string ⟨#[]⟩,.string ⟨#[]⟩,.bool false,.slice none 0 0])) fun y15=>
 bind (stA 5 y15 y14) fun _=>
 bind (ldA 5 y15) fun y16=>
 bind (Γ ZbZ [s3,(Value.int .i64 2),y16]) fun y17=>
 bind (bop .int .add s21 (Value.int .i64 1)) fun y18=>
 ret (.nrm [s3,s19,s20,y18]))
 (ret (.ext 0 [s3]))
noncomputable def YD (Γ : Zc) (x0 : Value) : M Value:=
 bind (bop .ptr .eql x0 (Value.pointer none)) fun y1=>
 cnd y1
 (ret (Value.slice none 0 0))
 (bind (bld (.agg #[.slice none 0 0]) []) fun y2=>
 bind (alc 1 y2) fun y3=>
 bind (Γ Qv [y3,(Value.int .u8 2)]) fun y4=>
 bind (Γ Kc [x0]) fun y5=>
 bind (Γ J3 [y4,y5]) fun y6=>
 bind (Γ Wr [x0]) fun y7=>
 bind (cvi .u16 y7) fun y8=>
 bind (Γ Q7 [y6,y8]) fun y9=>
 bind (Γ Wu [x0]) fun y10=>
 bind (Zk y10) fun y11=>
 jn (Zf (c4 (YD.l1 Γ)) [y9,y10,y11,(Value.int .i64 0)]) noN (xk 0 (c1 fun q20_0=>
 bind (Γ J8 [q20_0]) fun y21=>
 ret y21) noX) ret)
theorem Zlv (Γ : Zc) (x0 : Value) : ZE Tryz.prog Γ Tryz.f13 Ze4 [x0]=YD Γ x0:=by kernel_rfl
theorem Zkm {prim : FuncId→Option (List Value→M Value)} (hp : prim Qp=none) (n : Nat) (x0 : Value) : run Tryz.prog prim lvs (n+1) Qp [x0]=YD (run Tryz.prog prim lvs n) x0:=
 (Zo hp (by kernel_rfl) Tryz.func13 (by kernel_rfl)).trans (Zlv _ x0)
noncomputable def ZdI (Γ : Zc) : M Value:=
 ret (Value.int .i64 1733)
theorem ZmC (Γ : Zc) : ZE Tryz.prog Γ Tryz.f14 ZgI []=ZdI Γ :=by kernel_rfl
theorem Zlz {prim : FuncId→Option (List Value→M Value)} (hp : prim Zak=none) (n : Nat) : run Tryz.prog prim lvs (n+1) Zak []=ZdI (run Tryz.prog prim lvs n) :=
 (Zo hp (by kernel_rfl) Tryz.func14 (by kernel_rfl)).trans (ZmC _ )
noncomputable def ZhK.l1 (Γ : Zc) (s4 s6 s8 s32 s33 : Value) : M Out:=
 bind (bop .int .lss s33 s32) fun y14=>
 cnd y14
 (bind (Γ Zlq [s4,(Value.int .i64 2)]) fun y15=>
 bind (bsl 5 1 (.agg #[.string ⟨#[]⟩,.string ⟨#[]⟩,.string ⟨#[]⟩,.bool false,.slice none 0 0]) [(0,5,y15)]) fun y16=>
 bind (app 5 80 s8 y16) fun y17=>
 bind (bop .int .add s33 (Value.int .i64 1)) fun y18=>
 ret (.nrm [s4,s6,y17,s32,y18]))
 (ret (.ext 0 [s4,s6,s8]))
noncomputable def ZhK (Γ : Zc) (x0 : Value) : M Value:=
 bind (Γ Zlh [x0]) fun y1=>
 bind (Γ Zcz [y1]) fun y2=>
 bind (Γ Wl [y1]) fun y3=>
 bind (bop .int .eql y3 (Value.int .i64 0)) fun y4=>
 bind (Zx y4 true 2 (bind (bop .int .neq y2 (Value.int .u8 2)) fun y5=>
 ret [y2,y5])) (c2 fun _ q6_1=>
 bind (pick y4 q6_1 (Value.bool false)) fun y7=>
 cnd y7
 (ret (Value.tuple #[(Value.pointer none),(Value.int .i64 6)]))
 (bind (Γ Zip [y1,(Value.int .i64 6),(Value.int .i64 12)]) fun y8=>
 bind (Γ Zc0 [y1]) fun y9=>
 bind (cvi .i64 y9) fun y10=>
 bind (bop .int .gtr y10 (Value.int .i64 12)) fun y11=>
 jn (cnd y11
 (bind (Γ Zcs [y1,(Value.int .i64 7)]) fun y12=>
 ret (.nrm [y1,y8,(Value.int .i64 0)]))
 (ret (.nrm [y1,y8,y10]))) (c3 fun q13_0 q13_1 q13_2=>
 jn (Zf (c5 (ZhK.l1 Γ)) [q13_0,q13_1,(Value.slice none 0 0),q13_2,(Value.int .i64 0)]) noN (xk 0 (c3 fun q20_0 q20_1 q20_2=>
 bind (Γ Wl [q20_0]) fun y21=>
 bind (bop .int .neq y21 (Value.int .i64 0)) fun y22=>
 cnd y22
 (ret (Value.tuple #[(Value.pointer none),y21]))
 (bind (Γ Kz [q20_2,q20_1]) fun y23=>
 bind (Zl y23 0) fun y24=>
 bind (Zl y23 1) fun y25=>
 bind (bop .int .eql y25 (Value.int .i64 0)) fun y26=>
 jn (cnd y26
 (bind (Γ Zc6 [q20_0]) fun y27=>
 ret (.nrm [y24,y27]))
 (ret (.nrm [y24,y25]))) (c2 fun q28_0 q28_1=>
 bind (bop .int .neq q28_1 (Value.int .i64 0)) fun y29=>
 cnd y29
 (ret (Value.tuple #[(Value.pointer none),q28_1]))
 (ret (Value.tuple #[q28_0,(Value.int .i64 0)]))) noX ret)) noX) ret) noX ret))
noncomputable def Zhy.l1 (Γ : Zc) (s2 s4 s5 s6 s8 s45 s46 : Value) : M Out:=
 bind (bop .int .lss s46 s45) fun y37=>
 cnd y37
 (bind (ldA 2 s5) fun y38=>
 bind (Γ Zjx [y38,(Value.int .i64 2)]) fun y39=>
 bind (Zl y39 0) fun y40=>
 bind (Zl y39 1) fun y41=>
 bind (alc 1 (.agg #[.string ⟨#[]⟩,.int .i64 0])) fun y42=>
 bind (alc 1 (.agg #[.string ⟨#[]⟩,.string ⟨#[]⟩,.string ⟨#[]⟩,.bool false,.slice none 0 0])) fun y43=>
 bind (stA 2 y42 y40) fun _=>
 bind (stA 5 y43 y41) fun _=>
 bind (ldA 2 y42) fun y44=>
 bind (stA 2 s5 y44) fun _=>
 bind (ldA 5 y43) fun y45=>
 bind (bsl 5 1 (.agg #[.string ⟨#[]⟩,.string ⟨#[]⟩,.string ⟨#[]⟩,.bool false,.slice none 0 0]) [(0,5,y45)]) fun y46=>
 bind (app 5 80 s8 y46) fun y47=>
 bind (bop .int .add s46 (Value.int .u64 1)) fun y48=>
 ret (.nrm [s2,s4,s5,s6,y47,s45,y48]))
 (ret (.ext 0 [s2,s4,s5,s6,s8]))
noncomputable def Zhy (Γ : Zc) (x0 : Value) : M Value:=
 bind (alc 1 (.agg #[.slice none 0 0,.slice none 0 0])) fun y1=>
 bind (bld (.agg #[.slice none 0 0,.slice none 0 0]) []) fun y2=>
 bind (alc 1 (.agg #[.slice none 0 0,.slice none 0 0])) fun y3=>
 bind (stA 2 y3 y2) fun _=>
 bind (bop .str .eql x0 (Value.string ⟨#[]⟩)) fun y4=>
 cnd y4
 (bind (ldA 2 y3) fun y5=>
 bind (stA 2 y1 y5) fun _=>
 bind (ldA 2 y1) fun y6=>
 ret (Value.tuple #[y6,(Value.int .i64 2)]))
 (bind (ixs x0 (Value.int .i64 0)) fun y7=>
 bind (bop .int .neq y7 (Value.int .u8 2)) fun y8=>
 cnd y8
 (bind (ldA 2 y3) fun y9=>
 bind (stA 2 y1 y9) fun _=>
 bind (ldA 2 y1) fun y10=>
 ret (Value.tuple #[y10,(Value.int .i64 6)]))
 (bind (sls x0 (some (Value.int .i64 1)) none) fun y11=>
 bind (bld (.agg #[.string ⟨#[]⟩,.int .i64 0]) [(0,1,y11)]) fun y12=>
 bind (Γ ZlR [y12,(Value.int .i64 6),(Value.int .i64 12)]) fun y13=>
 bind (Zl y13 0) fun y14=>
 bind (Zl y13 1) fun y15=>
 bind (alc 1 (.agg #[.string ⟨#[]⟩,.int .i64 0])) fun y16=>
 bind (stA 2 y16 y14) fun _=>
 bind (ldA 2 y16) fun y17=>
 bind (Γ Zeu [y17,(Value.int .i64 2)]) fun y18=>
 bind (Zl y18 0) fun y19=>
 bind (Zl y18 1) fun y20=>
 bind (stA 2 y16 y19) fun _=>
 bind (fa 1 y16) fun y21=>
 bind (ld1 y21) fun y22=>
 bind (bop .int .eql y22 (Value.int .i64 0)) fun y23=>
 bind (Zx y23 true 2 (bind (bop .int .gtr y20 (Value.int .u64 12)) fun y24=>
 ret [y20,y24])) (c2 fun _ q25_1=>
 bind (pick y23 q25_1 (Value.bool false)) fun y26=>
 jn (cnd y26
 (bind (fa 1 y16) fun y27=>
 bind (st1 y27 (Value.int .i64 7)) fun _=>
 ret (.nrm [y1,y3,y16,y15,y20]))
 (ret (.nrm [y1,y3,y16,y15,y20]))) (c5 fun q28_0 q28_1 q28_2 q28_3 q28_4=>
 bind (fa 1 q28_2) fun y29=>
 bind (ld1 y29) fun y30=>
 bind (bop .int .neq y30 (Value.int .i64 0)) fun y31=>
 cnd y31
 (bind (ldA 2 q28_1) fun y32=>
 bind (fa 1 q28_2) fun y33=>
 bind (ld1 y33) fun y34=>
 bind (stA 2 q28_0 y32) fun _=>
 bind (ld1 y33) fun u_35=>same u_35 y34 <|
 bind (ldA 2 q28_0) fun y36=>
 ret (Value.tuple #[y36,y34]))
 (jn (Zf (c7 (Zhy.l1 Γ)) [q28_0,q28_1,q28_2,q28_3,(Value.slice none 0 0),q28_4,(Value.int .u64 0)]) noN (xk 0 (c5 fun q50_0 q50_1 q50_2 q50_3 q50_4=>
 bind (fa 1 q50_2) fun y51=>
 bind (ld1 y51) fun y52=>
 bind (bop .int .eql y52 (Value.int .i64 0)) fun y53=>
 jn (cnd y53
 (bind (Γ Zp8 [q50_4,q50_3]) fun y54=>
 bind (fa 1 q50_2) fun y55=>
 bind (st1 y55 y54) fun _=>
 ret (.nrm [q50_0,q50_1,q50_2,q50_3,q50_4]))
 (ret (.nrm [q50_0,q50_1,q50_2,q50_3,q50_4]))) (c5 fun q56_0 q56_1 q56_2 q56_3 q56_4=>
 bind (fa 1 q56_2) fun y57=>
 bind (ld1 y57) fun y58=>
 bind (bop .int .eql y58 (Value.int .i64 0)) fun y59=>
 bind (Zx y59 true 3 (bind (fa 0 q56_2) fun y60=>
 bind (ld1 y60) fun y61=>
 bind (bop .str .neq y61 (Value.string ⟨#[]⟩)) fun y62=>
 ret [y60,y61,y62])) (c3 fun _ _ q63_2=>
 bind (pick y59 q63_2 (Value.bool false)) fun y64=>
 jn (cnd y64
 (bind (fa 1 q56_2) fun y65=>
 bind (st1 y65 (Value.int .i64 3)) fun _=>
 ret (.nrm [q56_0,q56_1,q56_2,q56_3,q56_4]))
 (ret (.nrm [q56_0,q56_1,q56_2,q56_3,q56_4]))) (c5 fun q66_0 q66_1 q66_2 q66_3 q66_4=>
 bind (fa 1 q66_2) fun y67=>
 bind (ld1 y67) fun y68=>
 bind (bop .int .neq y68 (Value.int .i64 0)) fun y69=>
 cnd y69
 (bind (ldA 2 q66_1) fun y70=>
 bind (fa 1 q66_2) fun y71=>
 bind (ld1 y71) fun y72=>
 bind (stA 2 q66_0 y70) fun _=>
 bind (ld1 y71) fun u_73=>same u_73 y72 <|
 bind (ldA 2 q66_0) fun y74=>
 ret (Value.tuple #[y74,y72]))
 (bind (bld (.agg #[.slice none 0 0,.slice none 0 0]) [(0,1,q66_4),(1,1,q66_3)]) fun y75=>
 bind (stA 2 q66_0 y75) fun _=>
 bind (ldA 2 q66_0) fun y76=>
 ret (Value.tuple #[y76,(Value.int .i64 0)]))) noX ret)) noX ret) noX) ret)) noX ret)))
noncomputable def Zi7.l1 (Γ : Zc) (s0 s5 s6 s7 : Value) : M Out:=
 bind (bop .int .lss s7 s6) fun y2=>
 cnd y2
 (bind (ixa 4 s5 s7) fun y3=>
 bind (ldA 4 y3) fun y4=>
 bind (alc 1 (.agg #[.int .u8 0,.string ⟨#[]⟩,.string ⟨#[]⟩,.bool false])) fun y5=>
 bind (stA 4 y5 y4) fun _=>
 bind (fa 1 y5) fun y6=>
 bind (ld1 y6) fun y7=>
 bind (QL y7) fun y8=>
 bind (bop .int .gtr y8 (Value.int .i64 50)) fun y9=>
 bind (Zx y9 false 4 (bind (fa 2 y5) fun y10=>
 bind (ld1 y10) fun y11=>
 bind (QL y11) fun y12=>
 bind (bop .int .gtr y12 (Value.int .i64 50)) fun y13=>
 ret [y10,y11,y12,y13])) (c4 fun _ _ _ q14_3=>
 bind (pick y9 (Value.bool true) q14_3) fun y15=>
 cnd y15
 (ret (.ret (Value.bool false)))
 (bind (bop .int .add s7 (Value.int .i64 1)) fun y16=>
 ret (.nrm [s0,s5,s6,y16]))))
 (ret (.ext 0 [s0]))
noncomputable def Zi7 (Γ : Zc) (x0 : Value) : M Value:=
 bind (Zk x0) fun y1=>
 jn (Zf (c4 (Zi7.l1 Γ)) [x0,x0,y1,(Value.int .i64 0)]) noN (xk 0 (c1 fun q18_0=>
 bind (Zk q18_0) fun y19=>
 bind (bop .int .leq y19 (Value.int .i64 60)) fun y20=>
 ret y20) noX) ret
noncomputable def ZeZ.l1 (Γ : Zc) (s3 s4 s5 s9 s10 s11 : Value) : M Out:=
 bind (bop .int .lss s11 s10) fun y5=>
 cnd y5
 (bind (ixa 4 s9 s11) fun y6=>
 bind (ldA 4 y6) fun y7=>
 bind (alc 1 (.agg #[.int .u8 0,.string ⟨#[]⟩,.string ⟨#[]⟩,.bool false])) fun y8=>
 bind (stA 4 y8 y7) fun _=>
 bind (ldA 2 s5) fun y9=>
 bind (ldA 4 y8) fun y10=>
 bind (Γ Zdk [s4,y9,y10]) fun y11=>
 bind (Zl y11 0) fun y12=>
 bind (Zl y11 1) fun y13=>
 bind (stA 2 s5 y12) fun _=>
 bind (bop .int .add s11 (Value.int .i64 1)) fun y14=>
 ret (.nrm [s3,s4,s5,s9,s10,y14]))
 (ret (.ext 0 [s3,s4,s5]))
noncomputable def ZeZ (Γ : Zc) (x0 : Value) : M Value:=
 bind (alc 1 (.agg #[.slice none 0 0,.slice none 0 0])) fun y1=>
 bind (Γ YW []) fun y2=>
 bind (alc 1 (.agg #[.slice none 0 0,.slice none 0 0])) fun y3=>
 bind (Zk x0) fun y4=>
 jn (Zf (c6 (ZeZ.l1 Γ)) [y1,y2,y3,x0,y4,(Value.int .i64 0)]) noN (xk 0 (c3 fun q16_0 q16_1 q16_2=>
 bind (ldA 2 q16_2) fun y17=>
 bind (stA 2 q16_0 y17) fun _=>
 bind (ldA 2 q16_0) fun y18=>
 ret (Value.tuple #[q16_1,y18])) noX) ret
noncomputable def ZjA.l1 (Γ : Zc) (s0 s5 s6 s7 : Value) : M Out:=
 bind (bop .int .lss s7 s6) fun y2=>
 cnd y2
 (bind (ixa 3 s5 s7) fun y3=>
 bind (ldA 3 y3) fun y4=>
 bind (alc 1 (.agg #[.int .u8 0,.string ⟨#[]⟩,.string ⟨#[]⟩])) fun y5=>
 bind (stA 3 y5 y4) fun _=>
 bind (fa 1 y5) fun y6=>
 bind (ld1 y6) fun y7=>
 bind (QL y7) fun y8=>
 bind (bop .int .gtr y8 (Value.int .i64 50)) fun y9=>
 bind (Zx y9 false 4 (bind (fa 2 y5) fun y10=>
 bind (ld1 y10) fun y11=>
 bind (QL y11) fun y12=>
 bind (bop .int .gtr y12 (Value.int .i64 50)) fun y13=>
 ret [y10,y11,y12,y13])) (c4 fun _ _ _ q14_3=>
 bind (pick y9 (Value.bool true) q14_3) fun y15=>
 cnd y15
 (ret (.ret (Value.bool false)))
 (bind (bop .int .add s7 (Value.int .i64 1)) fun y16=>
 ret (.nrm [s0,s5,s6,y16]))))
 (ret (.ext 0 [s0]))
noncomputable def ZjA (Γ : Zc) (x0 : Value) : M Value:=
 bind (Zk x0) fun y1=>
 jn (Zf (c4 (ZjA.l1 Γ)) [x0,x0,y1,(Value.int .i64 0)]) noN (xk 0 (c1 fun q18_0=>
 bind (Zk q18_0) fun y19=>
 bind (bop .int .leq y19 (Value.int .i64 60)) fun y20=>
 ret y20) noX) ret
noncomputable def ZhX.l1 (Γ : Zc) (s3 s16 s17 s18 : Value) : M Out:=
 bind (bop .int .lss s18 s17) fun y10=>
 cnd y10
 (bind (ixa 5 s16 s18) fun y11=>
 bind (ldA 5 y11) fun y12=>
 bind (alc 1 (.agg #[.string ⟨#[]⟩,.string ⟨#[]⟩,.string ⟨#[]⟩,.bool false,.slice none 0 0])) fun y13=>
 bind (stA 5 y13 y12) fun _=>
 bind (ldA 5 y13) fun y14=>
 bind (Γ ZbZ [s3,(Value.int .i64 1),y14]) fun y15=>
 bind (bop .int .add s18 (Value.int .i64 1)) fun y16=>
 ret (.nrm [s3,s16,s17,y16]))
 (ret (.ext 0 [s3]))
noncomputable def ZhX (Γ : Zc) (x0 : Value) : M Value:=
 bind (bop .ptr .eql x0 (Value.pointer none)) fun y1=>
 cnd y1
 (ret (Value.slice none 0 0))
 (bind (bld (.agg #[.slice none 0 0]) []) fun y2=>
 bind (alc 1 y2) fun y3=>
 bind (Γ Qv [y3,(Value.int .u8 1)]) fun y4=>
 bind (Γ ZlV [x0]) fun y5=>
 bind (cvi .u16 y5) fun y6=>
 bind (Γ Q7 [y4,y6]) fun y7=>
 bind (Γ Zco [x0]) fun y8=>
 bind (Zk y8) fun y9=>
 jn (Zf (c4 (ZhX.l1 Γ)) [y7,y8,y9,(Value.int .i64 0)]) noN (xk 0 (c1 fun q18_0=>
 bind (Γ J8 [q18_0]) fun y19=>
 ret y19) noX) ret)
noncomputable def ZhP.l1 (Γ : Zc) (s3 s11 s12 s13 : Value) : M Out:=
 bind (bop .int .lss s13 s12) fun y4=>
 cnd y4
 (bind (ixa 5 s11 s13) fun y5=>
 bind (ldA 5 y5) fun y6=>
 bind (alc 1 (.agg #[.string ⟨#[]⟩,.string ⟨#[]⟩,.string ⟨#[]⟩,.bool false,.slice none 0 0])) fun y7=>
 bind (stA 5 y7 y6) fun _=>
 bind (ldA 5 y7) fun y8=>
 bind (Γ Zry [y8]) fun y9=>
 bind (bsl 5 1 (.agg #[.string ⟨#[]⟩,.string ⟨#[]⟩,.string ⟨#[]⟩,.bool false,.slice none 0 0]) [(0,5,y9)]) fun y10=>
 bind (app 5 80 s3 y10) fun y11=>
 bind (bop .int .add s13 (Value.int .i64 1)) fun y12=>
 ret (.nrm [y11,s11,s12,y12]))
 (ret (.ext 0 [s3]))
noncomputable def ZhP (Γ : Zc) (x0 : Value) : M Value:=
 bind (bop .ptr .eql x0 (Value.pointer none)) fun y1=>
 cnd y1
 (ret (Value.pointer none))
 (bind (Γ Zco [x0]) fun y2=>
 bind (Zk y2) fun y3=>
 jn (Zf (c4 (ZhP.l1 Γ)) [(Value.slice none 0 0),y2,y3,(Value.int .i64 0)]) noN (xk 0 (c1 fun q14_0=>
 bind (Γ Kz [q14_0,(Value.slice none 0 0)]) fun y15=>
 bind (Zl y15 0) fun y16=>
 bind (Zl y15 1) fun y17=>
 ret y16) noX) ret)
noncomputable def Ki (Γ : Zc) (x0 x1 : Value) : M Value:=
 bind (alc 1 (.agg #[.string ⟨#[]⟩,.string ⟨#[]⟩,.string ⟨#[]⟩,.bool false,.slice none 0 0])) fun y1=>
 bind (Γ K0 [x0,x1]) fun y2=>
 bind (Zl y2 0) fun y3=>
 bind (Zl y2 1) fun y4=>
 bind (alc 1 (.agg #[.string ⟨#[]⟩,.bool false])) fun y5=>
 bind (stA 2 y5 y3) fun _=>
 bind (bop .int .neq y4 (Value.int .i64 0)) fun y6=>
 cnd y6
 (bind (bld (.agg #[.string ⟨#[]⟩,.string ⟨#[]⟩,.string ⟨#[]⟩,.bool false,.slice none 0 0]) []) fun y7=>
 bind (stA 5 y1 y7) fun _=>
 bind (ldA 5 y1) fun y8=>
 ret (Value.tuple #[y8,y4]))
 (bind (Ja x0) fun y9=>
 bind (fa 1 y9) fun y10=>
 bind (ld1 y10) fun y11=>
 bind (Γ Wt [y11,x1]) fun y12=>
 bind (Zl y12 0) fun y13=>
 bind (Zl y12 1) fun y14=>
 bind (fa 0 y5) fun y15=>
 bind (ld1 y15) fun y16=>
 bind (fa 1 y5) fun y17=>
 bind (ld1 y17) fun y18=>
 bind (Ja x0) fun y19=>
 bind (fa 2 y19) fun y20=>
 bind (ld1 y20) fun y21=>
 bind (Γ JJ [y21,x1]) fun y22=>
 bind (ld1 y17) fun u_23=>same u_23 y18 <|
 bind (ld1 y15) fun u_24=>same u_24 y16 <|
 bind (bld (.agg #[.string ⟨#[]⟩,.string ⟨#[]⟩,.string ⟨#[]⟩,.bool false,.slice none 0 0]) [(0,1,x1),(1,1,y16),(2,1,y13),(3,1,y18),(4,1,y22)]) fun y25=>
 bind (stA 5 y1 y25) fun _=>
 bind (ldA 5 y1) fun y26=>
 ret (Value.tuple #[y26,(Value.int .i64 0)]))
theorem Zhq (Γ : Zc) (x0 x1 : Value) : ZE Tryz.prog Γ Tryz.f33 Zcv [x0,x1]=Ki Γ x0 x1:=by kernel_rfl
theorem Zfv {prim : FuncId→Option (List Value→M Value)} (hp : prim Yv=none) (n : Nat) (x0 x1 : Value) : run Tryz.prog prim lvs (n+1) Yv [x0,x1]=Ki (run Tryz.prog prim lvs n) x0 x1:=
 (Zo hp (by kernel_rfl) Tryz.func33 (by kernel_rfl)).trans (Zhq _ x0 x1)
noncomputable def Zc2.l1 (Γ : Zc) (s0 s1 s12 s13 : Value) : M Out:=
 bind (bop .int .lss s13 s12) fun y5=>
 cnd y5
 (bind (ixa 1 s0 s13) fun y6=>
 bind (ld1 y6) fun y7=>
 bind (ixa 1 s1 s13) fun y8=>
 bind (ld1 y8) fun y9=>
 bind (bop .str .neq y7 y9) fun y10=>
 cnd y10
 (ret (.ret (Value.bool false)))
 (bind (bop .int .add s13 (Value.int .i64 1)) fun y11=>
 ret (.nrm [s0,s1,s12,y11])))
 (ret (.ext 0 []))
noncomputable def Zc2 (Γ : Zc) (x0 x1 : Value) : M Value:=
 bind (Zk x0) fun y1=>
 bind (Zk x1) fun y2=>
 bind (bop .int .neq y1 y2) fun y3=>
 cnd y3
 (ret (Value.bool false))
 (bind (Zk x0) fun y4=>
 jn (Zf (c4 (Zc2.l1 Γ)) [x0,x1,y4,(Value.int .i64 0)]) noN (xk 0 (c0 (ret (Value.bool true))) noX) ret)
noncomputable def Zep (Γ : Zc) : M Value:=
 bind (mkm) fun y1=>
 bind (Γ ZdD []) fun y2=>
 bind (Γ ZcB []) fun y3=>
 bind (bld (.agg #[.map none,.pointer none,.pointer none]) [(0,1,y1),(1,1,y2),(2,1,y3)]) fun y4=>
 bind (alc 1 y4) fun y5=>
 ret y5
theorem ZnC (Γ : Zc) : ZE Tryz.prog Γ Tryz.f37 ZhR []=Zep Γ :=by kernel_rfl
theorem Znd {prim : FuncId→Option (List Value→M Value)} (hp : prim YW=none) (n : Nat) : run Tryz.prog prim lvs (n+1) YW []=Zep (run Tryz.prog prim lvs n) :=
 (Zo hp (by kernel_rfl) Tryz.func37 (by kernel_rfl)).trans (ZnC _ )
noncomputable def Zc1.l1 (Γ : Zc) (s0 s1 s12 s13 : Value) : M Out:=
 bind (bop .int .lss s13 s12) fun y5=>
 cnd y5
 (bind (ixa 5 s0 s13) fun y6=>
 bind (ldA 5 y6) fun y7=>
 bind (ixa 5 s1 s13) fun y8=>
 bind (ldA 5 y8) fun y9=>
 bind (Γ Znx [y7,y9]) fun y10=>
 bind (uop .not y10) fun y11=>
 cnd y11
 (ret (.ret (Value.bool false)))
 (bind (bop .int .add s13 (Value.int .i64 1)) fun y12=>
 ret (.nrm [s0,s1,s12,y12])))
 (ret (.ext 0 []))
noncomputable def Zc1 (Γ : Zc) (x0 x1 : Value) : M Value:=
 bind (Zk x0) fun y1=>
 bind (Zk x1) fun y2=>
 bind (bop .int .neq y1 y2) fun y3=>
 cnd y3
 (ret (Value.bool false))
 (bind (Zk x0) fun y4=>
 jn (Zf (c4 (Zc1.l1 Γ)) [x0,x1,y4,(Value.int .i64 0)]) noN (xk 0 (c0 (ret (Value.bool true))) noX) ret)
noncomputable def Ze8.l1 (Γ : Zc) (s0 s3 s7 s8 s9 : Value) : M Out:=
 bind (bop .int .lss s9 s8) fun y3=>
 cnd y3
 (bind (ixa 1 s7 s9) fun y4=>
 bind (ld1 y4) fun y5=>
 bind (Ja s0) fun y6=>
 bind (fa 0 y6) fun y7=>
 bind (ld1 y7) fun y8=>
 bind (lkp .str (.string ⟨#[]⟩) false y8 y5) fun y9=>
 bind (bld (.agg #[.string ⟨#[]⟩,.string ⟨#[]⟩,.string ⟨#[]⟩,.bool false,.slice none 0 0]) [(0,1,y5),(1,1,y9)]) fun y10=>
 bind (bsl 5 1 (.agg #[.string ⟨#[]⟩,.string ⟨#[]⟩,.string ⟨#[]⟩,.bool false,.slice none 0 0]) [(0,5,y10)]) fun y11=>
 bind (app 5 80 s3 y11) fun y12=>
 bind (bop .int .add s9 (Value.int .i64 1)) fun y13=>
 ret (.nrm [s0,y12,s7,s8,y13]))
 (ret (.ext 0 [s3]))
noncomputable def Ze8 (Γ : Zc) (x0 : Value) : M Value:=
 bind (Γ ZjI [x0]) fun y1=>
 bind (Zk y1) fun y2=>
 jn (Zf (c5 (Ze8.l1 Γ)) [x0,(Value.slice none 0 0),y1,y2,(Value.int .i64 0)]) noN (xk 0 (c1 fun q15_0=>
 ret q15_0) noX) ret
noncomputable def Z7.l1 (Γ : Zc) (s1 s5 s13 s14 s15 : Value) : M Out:=
 bind (bop .int .lss s15 s14) fun y2=>
 cnd y2
 (bind (ixa 5 s13 s15) fun y3=>
 bind (ldA 5 y3) fun y4=>
 bind (alc 1 (.agg #[.string ⟨#[]⟩,.string ⟨#[]⟩,.string ⟨#[]⟩,.bool false,.slice none 0 0])) fun y5=>
 bind (stA 5 y5 y4) fun _=>
 bind (ldA 5 y5) fun y6=>
 bind (Γ KM [(Value.int .i64 2),y6]) fun y7=>
 bind (bop .int .neq y7 (Value.int .i64 0)) fun y8=>
 cnd y8
 (ret (.ret y7))
 (bind (fa 0 y5) fun y9=>
 bind (ld1 y9) fun y10=>
 bind (bsl 1 1 (.string ⟨#[]⟩) [(0,1,y10)]) fun y11=>
 bind (app 1 16 s5 y11) fun y12=>
 bind (bop .int .add s15 (Value.int .i64 1)) fun y13=>
 ret (.nrm [s1,y12,s13,s14,y13])))
 (ret (.ext 0 [s1,s5]))
noncomputable def Z7.l2 (Γ : Zc) (s1 s35 s36 s37 : Value) : M Out:=
 bind (bop .int .lss s37 s36) fun y19=>
 cnd y19
 (bind (ixa 1 s35 s37) fun y20=>
 bind (ld1 y20) fun y21=>
 bind (Γ QM [y21]) fun y22=>
 bind (bop .int .neq y22 (Value.int .i64 0)) fun y23=>
 cnd y23
 (ret (.ret y22))
 (bind (bop .int .add s37 (Value.int .i64 1)) fun y24=>
 ret (.nrm [s1,s35,s36,y24])))
 (ret (.ext 2 [s1]))
noncomputable def Z7 (Γ : Zc) (x0 x1 : Value) : M Value:=
 bind (Zk x0) fun y1=>
 jn (Zf (c5 (Z7.l1 Γ)) [x1,(Value.slice none 0 0),x0,y1,(Value.int .i64 0)]) noN (xk 0 (c2 fun q15_0 q15_1=>
 bind (Γ Yc [q15_1,(Value.int .i64 12)]) fun y16=>
 bind (bop .int .neq y16 (Value.int .i64 0)) fun y17=>
 cnd y17
 (ret y16)
 (bind (Zk q15_0) fun y18=>
 jn (Zf (c4 (Z7.l2 Γ)) [q15_0,q15_0,y18,(Value.int .i64 0)]) noN (xk 2 (c1 fun q26_0=>
 bind (Γ Yc [q26_0,(Value.int .i64 6)]) fun y27=>
 ret y27) noX) ret)) noX) ret
theorem ZlI (Γ : Zc) (x0 x1 : Value) : ZE Tryz.prog Γ Tryz.f41 Ze9 [x0,x1]=Z7 Γ x0 x1:=by kernel_rfl
theorem ZkK {prim : FuncId→Option (List Value→M Value)} (hp : prim WX=none) (n : Nat) (x0 x1 : Value) : run Tryz.prog prim lvs (n+1) WX [x0,x1]=Z7 (run Tryz.prog prim lvs n) x0 x1:=
 (Zo hp (by kernel_rfl) Tryz.func41 (by kernel_rfl)).trans (ZlI _ x0 x1)
noncomputable def Ji (Γ : Zc) (x0 x1 : Value) : M Value:=
 bind (Γ JC [x0,x1,(Value.slice none 0 0)]) fun y1=>
 bind (Zl y1 0) fun y2=>
 bind (Zl y1 1) fun y3=>
 bind (bop .int .eql y3 (Value.int .i64 0)) fun y4=>
 cnd y4
 (ret (Value.int .i64 9))
 (bind (bop .int .neq y3 (Value.int .i64 8)) fun y5=>
 cnd y5
 (ret y3)
 (bind (Ja x0) fun y6=>
 bind (fa 0 y6) fun y7=>
 bind (ld1 y7) fun y8=>
 bind (lenM y8) fun y9=>
 bind (bop .int .geq y9 (Value.int .i64 6)) fun y10=>
 cnd y10
 (ret (Value.int .i64 7))
 (bind (Ja x0) fun y11=>
 bind (fa 0 y11) fun y12=>
 bind (ld1 y12) fun y13=>
 bind (mkm) fun y14=>
 bind (mup .str y13 x1 y14) fun _=>
 ret (Value.int .i64 0))))
theorem Zf9 (Γ : Zc) (x0 x1 : Value) : ZE Tryz.prog Γ Tryz.f42 Zce [x0,x1]=Ji Γ x0 x1:=by kernel_rfl
theorem Zfs {prim : FuncId→Option (List Value→M Value)} (hp : prim JE=none) (n : Nat) (x0 x1 : Value) : run Tryz.prog prim lvs (n+1) JE [x0,x1]=Ji (run Tryz.prog prim lvs n) x0 x1:=
 (Zo hp (by kernel_rfl) Tryz.func42 (by kernel_rfl)).trans (Zf9 _ x0 x1)
noncomputable def Yk (Γ : Zc) (x0 x1 x2 : Value) : M Value:=
 bind (bsl 1 1 (.string ⟨#[]⟩) [(0,1,x2)]) fun y1=>
 bind (Γ JC [x0,x1,y1]) fun y2=>
 bind (Zl y2 0) fun y3=>
 bind (Zl y2 1) fun y4=>
 bind (bop .int .neq y4 (Value.int .i64 0)) fun y5=>
 cnd y5
 (ret y4)
 (bind (lkp .str (.agg #[]) true y3 x2) fun y6=>
 bind (Zl y6 0) fun y7=>
 bind (Zl y6 1) fun y8=>
 bind (alc 1 (.agg #[])) fun y9=>
 bind (stA 0 y9 y7) fun _=>
 cnd y8
 (ret (Value.int .i64 9))
 (bind (bld (.agg #[]) []) fun y10=>
 bind (mup .str y3 x2 y10) fun _=>
 ret (Value.int .i64 0)))
theorem ZgE (Γ : Zc) (x0 x1 x2 : Value) : ZE Tryz.prog Γ Tryz.f43 Zb3 [x0,x1,x2]=Yk Γ x0 x1 x2:=by kernel_rfl
theorem Zft {prim : FuncId→Option (List Value→M Value)} (hp : prim Yj=none) (n : Nat) (x0 x1 x2 : Value) : run Tryz.prog prim lvs (n+1) Yj [x0,x1,x2]=Yk (run Tryz.prog prim lvs n) x0 x1 x2:=
 (Zo hp (by kernel_rfl) Tryz.func43 (by kernel_rfl)).trans (ZgE _ x0 x1 x2)
noncomputable def Ya (Γ : Zc) (x0 x1 x2 : Value) : M Value:=
 bind (Γ QM [x1]) fun y1=>
 bind (bop .int .neq y1 (Value.int .i64 0)) fun y2=>
 cnd y2
 (ret y1)
 (bind (bop .str .eql x2 (Value.string ⟨#[]⟩)) fun y3=>
 cnd y3
 (bind (Γ JK [x0,x1]) fun y4=>
 ret (Value.int .i64 0))
 (bind (Γ W0 [x2]) fun y5=>
 bind (Zl y5 0) fun y6=>
 bind (Zl y5 1) fun y7=>
 bind (bop .int .neq y7 (Value.int .i64 0)) fun y8=>
 cnd y8
 (ret y7)
 (bind (Ja x0) fun y9=>
 bind (fa 0 y9) fun y10=>
 bind (ld1 y10) fun y11=>
 bind (lkp .str (.string ⟨#[]⟩) true y11 y6) fun y12=>
 bind (Zl y12 0) fun y13=>
 bind (Zl y12 1) fun y14=>
 bind (Zx y14 true 3 (bind (bop .str .neq y13 x1) fun y15=>
 ret [y13,x1,y15])) (c3 fun _ _ q16_2=>
 bind (pick y14 q16_2 (Value.bool false)) fun y17=>
 cnd y17
 (ret (Value.int .i64 9))
 (bind (Γ JK [x0,x1]) fun y18=>
 bind (Ja x0) fun y19=>
 bind (fa 0 y19) fun y20=>
 bind (ld1 y20) fun y21=>
 bind (Ja x0) fun y22=>
 bind (fa 1 y22) fun y23=>
 bind (ld1 y23) fun y24=>
 bind (men .str (.string ⟨#[]⟩) y21 y6) fun y25=>
 bind (Zl y25 1) fun y26=>
 bind (ens y21 y26 x1) fun _=>
 bind (men .str (.string ⟨#[]⟩) y24 x1) fun y27=>
 bind (Zl y27 1) fun y28=>
 bind (ens y24 y28 y6) fun _=>
 ret (Value.int .i64 0))))))
theorem Zjn (Γ : Zc) (x0 x1 x2 : Value) : ZE Tryz.prog Γ Tryz.f44 ZdE [x0,x1,x2]=Ya Γ x0 x1 x2:=by kernel_rfl
theorem Ziu {prim : FuncId→Option (List Value→M Value)} (hp : prim J9=none) (n : Nat) (x0 x1 x2 : Value) : run Tryz.prog prim lvs (n+1) J9 [x0,x1,x2]=Ya (run Tryz.prog prim lvs n) x0 x1 x2:=
 (Zo hp (by kernel_rfl) Tryz.func44 (by kernel_rfl)).trans (Zjn _ x0 x1 x2)
noncomputable def Zaj (Γ : Zc) (x0 x1 : Value) : M Value:=
 bind (cvi .u64 x1) fun y1=>
 bind (Γ J0 [x0,y1,(Value.int .i64 1)]) fun y2=>
 ret y2
theorem Zfy (Γ : Zc) (x0 x1 : Value) : ZE Tryz.prog Γ Tryz.f45 Zcb [x0,x1]=Zaj Γ x0 x1:=by kernel_rfl
theorem Zfi {prim : FuncId→Option (List Value→M Value)} (hp : prim Qv=none) (n : Nat) (x0 x1 : Value) : run Tryz.prog prim lvs (n+1) Qv [x0,x1]=Zaj (run Tryz.prog prim lvs n) x0 x1:=
 (Zo hp (by kernel_rfl) Tryz.func45 (by kernel_rfl)).trans (Zfy _ x0 x1)
noncomputable def Jv.l1 (Γ : Zc) (s0 s17 s18 s19 : Value) : M Out:=
 bind (bop .int .lss s19 s18) fun y8=>
 cnd y8
 (bind (ixa 1 s17 s19) fun y9=>
 bind (ld1 y9) fun y10=>
 bind (Γ Qw [s0,y10]) fun y11=>
 bind (bop .int .add s19 (Value.int .i64 1)) fun y12=>
 ret (.nrm [s0,s17,s18,y12]))
 (ret (.ext 0 [s0]))
noncomputable def Jv (Γ : Zc) (x0 x1 : Value) : M Value:=
 bind (Zk x1) fun y1=>
 bind (mxi false y1 (Value.int .i64 65535)) fun y2=>
 bind (slv 1 x1 none (some y2) none) fun y3=>
 bind (Zk y3) fun y4=>
 bind (cvi .u16 y4) fun y5=>
 bind (Γ Q7 [x0,y5]) fun y6=>
 bind (Zk y3) fun y7=>
 jn (Zf (c4 (Jv.l1 Γ)) [x0,y3,y7,(Value.int .i64 0)]) noN (xk 0 (c1 fun q14_0=>
 ret q14_0) noX) ret
theorem Zhn (Γ : Zc) (x0 x1 : Value) : ZE Tryz.prog Γ Tryz.f46 Zcp [x0,x1]=Jv Γ x0 x1:=by kernel_rfl
theorem Zf8 {prim : FuncId→Option (List Value→M Value)} (hp : prim J3=none) (n : Nat) (x0 x1 : Value) : run Tryz.prog prim lvs (n+1) J3 [x0,x1]=Jv (run Tryz.prog prim lvs n) x0 x1:=
 (Zo hp (by kernel_rfl) Tryz.func46 (by kernel_rfl)).trans (Zhn _ x0 x1)
noncomputable def ZaC (Γ : Zc) (x0 : Value) : M Value:=
 bind (Ja x0) fun y1=>
 bind (fa 2 y1) fun y2=>
 bind (ld1 y2) fun y3=>
 bind (Γ J2 [y3]) fun y4=>
 ret y4
theorem Zg8 (Γ : Zc) (x0 : Value) : ZE Tryz.prog Γ Tryz.f47 Zcx [x0]=ZaC Γ x0:=by kernel_rfl
theorem Zgm {prim : FuncId→Option (List Value→M Value)} (hp : prim Kc=none) (n : Nat) (x0 : Value) : run Tryz.prog prim lvs (n+1) Kc [x0]=ZaC (run Tryz.prog prim lvs n) x0:=
 (Zo hp (by kernel_rfl) Tryz.func47 (by kernel_rfl)).trans (Zg8 _ x0)
noncomputable def ZaD (Γ : Zc) (x0 x1 : Value) : M Value:=
 bind (cvi .u64 x1) fun y1=>
 bind (Γ J0 [x0,y1,(Value.int .i64 2)]) fun y2=>
 ret y2
theorem Zg9 (Γ : Zc) (x0 x1 : Value) : ZE Tryz.prog Γ Tryz.f48 Zcy [x0,x1]=ZaD Γ x0 x1:=by kernel_rfl
theorem Zgj {prim : FuncId→Option (List Value→M Value)} (hp : prim Q7=none) (n : Nat) (x0 x1 : Value) : run Tryz.prog prim lvs (n+1) Q7 [x0,x1]=ZaD (run Tryz.prog prim lvs n) x0 x1:=
 (Zo hp (by kernel_rfl) Tryz.func48 (by kernel_rfl)).trans (Zg9 _ x0 x1)
noncomputable def Zch (Γ : Zc) (x0 : Value) : M Value:=
 bind (Ja x0) fun y1=>
 bind (fa 0 y1) fun y2=>
 bind (ld1 y2) fun y3=>
 bind (lenM y3) fun y4=>
 ret y4
theorem Zkj (Γ : Zc) (x0 : Value) : ZE Tryz.prog Γ Tryz.f49 Zd6 [x0]=Zch Γ x0:=by kernel_rfl
theorem Zi6 {prim : FuncId→Option (List Value→M Value)} (hp : prim Wr=none) (n : Nat) (x0 : Value) : run Tryz.prog prim lvs (n+1) Wr [x0]=Zch (run Tryz.prog prim lvs n) x0:=
 (Zo hp (by kernel_rfl) Tryz.func49 (by kernel_rfl)).trans (Zkj _ x0)
noncomputable def JZ.l1 (Γ : Zc) (s0 s3 s9 s10 s11 : Value) : M Out:=
 bind (bop .int .lss s11 s10) fun y3=>
 cnd y3
 (bind (ixa 1 s9 s11) fun y4=>
 bind (ld1 y4) fun y5=>
 bind (Γ Yv [s0,y5]) fun y6=>
 bind (Zl y6 0) fun y7=>
 bind (Zl y6 1) fun y8=>
 bind (alc 1 (.agg #[.string ⟨#[]⟩,.string ⟨#[]⟩,.string ⟨#[]⟩,.bool false,.slice none 0 0])) fun y9=>
 bind (stA 5 y9 y7) fun _=>
 bind (ldA 5 y9) fun y10=>
 bind (bsl 5 1 (.agg #[.string ⟨#[]⟩,.string ⟨#[]⟩,.string ⟨#[]⟩,.bool false,.slice none 0 0]) [(0,5,y10)]) fun y11=>
 bind (app 5 80 s3 y11) fun y12=>
 bind (bop .int .add s11 (Value.int .i64 1)) fun y13=>
 ret (.nrm [s0,y12,s9,s10,y13]))
 (ret (.ext 0 [s3]))
noncomputable def JZ (Γ : Zc) (x0 : Value) : M Value:=
 bind (Γ Kt [x0]) fun y1=>
 bind (Zk y1) fun y2=>
 jn (Zf (c5 (JZ.l1 Γ)) [x0,(Value.slice none 0 0),y1,y2,(Value.int .i64 0)]) noN (xk 0 (c1 fun q15_0=>
 ret q15_0) noX) ret
theorem ZkN (Γ : Zc) (x0 : Value) : ZE Tryz.prog Γ Tryz.f50 ZdT [x0]=JZ Γ x0:=by kernel_rfl
theorem ZjN {prim : FuncId→Option (List Value→M Value)} (hp : prim Wu=none) (n : Nat) (x0 : Value) : run Tryz.prog prim lvs (n+1) Wu [x0]=JZ (run Tryz.prog prim lvs n) x0:=
 (Zo hp (by kernel_rfl) Tryz.func50 (by kernel_rfl)).trans (ZkN _ x0)
noncomputable def Zgo (Γ : Zc) (x0 x1 x2 : Value) : M Value:=
 bind (alc 1 x2) fun y1=>
 bind (ldA 5 y1) fun y2=>
 bind (Γ KM [x1,y2]) fun y3=>
 bind (bop .int .neq y3 (Value.int .i64 0)) fun y4=>
 cnd y4
 (ret (Value.bool false))
 (bind (fa 0 y1) fun y5=>
 bind (ld1 y5) fun y6=>
 bind (fa 1 y1) fun y7=>
 bind (ld1 y7) fun y8=>
 bind (Γ Qw [x0,y6]) fun y9=>
 bind (ld1 y7) fun u_10=>same u_10 y8 <|
 bind (Γ Qw [y9,y8]) fun y11=>
 bind (bop .int .eql x1 (Value.int .i64 2)) fun y12=>
 jn (cnd y12
 (bind (fa 2 y1) fun y13=>
 bind (ld1 y13) fun y14=>
 bind (fa 3 y1) fun y15=>
 bind (ld1 y15) fun y16=>
 bind (fa 4 y1) fun y17=>
 bind (ld1 y17) fun y18=>
 bind (Γ Qw [x0,y14]) fun y19=>
 bind (ld1 y17) fun u_20=>same u_20 y18 <|
 bind (ld1 y15) fun u_21=>same u_21 y16 <|
 bind (Γ YC [y19,y16]) fun y22=>
 bind (ld1 y17) fun u_23=>same u_23 y18 <|
 bind (Γ J3 [y22,y18]) fun y24=>
 ret (.nrm []))
 (ret (.nrm []))) (c0 (ret (Value.bool true))) noX ret)
theorem Zo8 (Γ : Zc) (x0 x1 x2 : Value) : ZE Tryz.prog Γ Tryz.f51 ZiX [x0,x1,x2]=Zgo Γ x0 x1 x2:=by kernel_rfl
theorem Zn4 {prim : FuncId→Option (List Value→M Value)} (hp : prim ZbZ=none) (n : Nat) (x0 x1 x2 : Value) : run Tryz.prog prim lvs (n+1) ZbZ [x0,x1,x2]=Zgo (run Tryz.prog prim lvs n) x0 x1 x2:=
 (Zo hp (by kernel_rfl) Tryz.func51 (by kernel_rfl)).trans (Zo8 _ x0 x1 x2)
noncomputable def WT (Γ : Zc) (x0 : Value) : M Value:=
 bind (Ja x0) fun y1=>
 bind (fa 0 y1) fun y2=>
 bind (ld1 y2) fun y3=>
 bind (Γ Za0 [y3]) fun y4=>
 ret y4
theorem Zfn (Γ : Zc) (x0 : Value) : ZE Tryz.prog Γ Tryz.f52 Zbv [x0]=WT Γ x0:=by kernel_rfl
theorem ZeT {prim : FuncId→Option (List Value→M Value)} (hp : prim J8=none) (n : Nat) (x0 : Value) : run Tryz.prog prim lvs (n+1) J8 [x0]=WT (run Tryz.prog prim lvs n) x0:=
 (Zo hp (by kernel_rfl) Tryz.func52 (by kernel_rfl)).trans (Zfn _ x0)
noncomputable def ZcV.l1 (Γ : Zc) (s0 s2 s7 s10 s11 : Value) : M Out:=
 bind (bop .int .lss s11 s10) fun y2=>
 cnd y2
 (bind (Γ Zg1 [s0,s2]) fun y3=>
 bind (bsl 1 1 (.string ⟨#[]⟩) [(0,1,y3)]) fun y4=>
 bind (app 1 16 s7 y4) fun y5=>
 bind (bop .int .add s11 (Value.int .i64 1)) fun y6=>
 ret (.nrm [s0,s2,y5,s10,y6]))
 (ret (.ext 0 [s0,s7]))
noncomputable def ZcV (Γ : Zc) (x0 x1 x2 : Value) : M Value:=
 bind (Γ ZgJ [x0,x1]) fun y1=>
 jn (Zf (c5 (ZcV.l1 Γ)) [x0,x2,(Value.slice none 0 0),y1,(Value.int .i64 0)]) noN (xk 0 (c2 fun q8_0 q8_1=>
 bind (Ja q8_0) fun y9=>
 bind (fa 1 y9) fun y10=>
 bind (ld1 y10) fun y11=>
 bind (bop .int .neq y11 (Value.int .i64 0)) fun y12=>
 cnd y12
 (ret (Value.slice none 0 0))
 (ret q8_1)) noX) ret
noncomputable def Zfb.l1 (Γ : Zc) (s2 s6 s8 s10 s29 s30 : Value) : M Out:=
 bind (bop .int .lss s30 s29) fun y18=>
 cnd y18
 (bind (ldA 2 s8) fun y19=>
 bind (Γ ZkI [y19,s2]) fun y20=>
 bind (Zl y20 0) fun y21=>
 bind (Zl y20 1) fun y22=>
 bind (alc 1 (.agg #[.string ⟨#[]⟩,.int .i64 0])) fun y23=>
 bind (stA 2 y23 y21) fun _=>
 bind (ldA 2 y23) fun y24=>
 bind (stA 2 s8 y24) fun _=>
 bind (fa 1 s8) fun y25=>
 bind (ld1 y25) fun y26=>
 bind (bop .int .neq y26 (Value.int .i64 0)) fun y27=>
 cnd y27
 (bind (ldA 2 s8) fun y28=>
 bind (stA 2 s6 y28) fun _=>
 bind (ldA 2 s6) fun y29=>
 ret (.ret (Value.tuple #[y29,(Value.slice none 0 0)])))
 (bind (bsl 1 1 (.string ⟨#[]⟩) [(0,1,y22)]) fun y30=>
 bind (app 1 16 s10 y30) fun y31=>
 bind (bop .int .add s30 (Value.int .u64 1)) fun y32=>
 ret (.nrm [s2,s6,s8,y31,s29,y32])))
 (ret (.ext 0 [s6,s8,s10]))
noncomputable def Zfb (Γ : Zc) (x0 x1 x2 : Value) : M Value:=
 bind (alc 1 x0) fun y1=>
 bind (alc 1 (.agg #[.string ⟨#[]⟩,.int .i64 0])) fun y2=>
 bind (ldA 2 y1) fun y3=>
 bind (Γ Zeu [y3,(Value.int .i64 2)]) fun y4=>
 bind (Zl y4 0) fun y5=>
 bind (Zl y4 1) fun y6=>
 bind (alc 1 (.agg #[.string ⟨#[]⟩,.int .i64 0])) fun y7=>
 bind (stA 2 y7 y5) fun _=>
 bind (fa 1 y7) fun y8=>
 bind (ld1 y8) fun y9=>
 bind (bop .int .eql y9 (Value.int .i64 0)) fun y10=>
 bind (Zx y10 true 5 (bind (cvi .i64 y6) fun y11=>
 bind (mxi true (Value.int .i64 0) x1) fun y12=>
 bind (bop .int .gtr y11 y12) fun y13=>
 ret [y6,y11,x1,y12,y13])) (c5 fun _ _ _ _ q14_4=>
 bind (pick y10 q14_4 (Value.bool false)) fun y15=>
 cnd y15
 (bind (bld (.agg #[.string ⟨#[]⟩,.int .i64 0]) [(1,1,(Value.int .i64 3))]) fun y16=>
 bind (stA 2 y2 y16) fun _=>
 bind (ldA 2 y2) fun y17=>
 ret (Value.tuple #[y17,(Value.slice none 0 0)]))
 (jn (Zf (c6 (Zfb.l1 Γ)) [x2,y2,y7,(Value.slice none 0 0),y6,(Value.int .u64 0)]) noN (xk 0 (c3 fun q34_0 q34_1 q34_2=>
 bind (ldA 2 q34_1) fun y35=>
 bind (stA 2 q34_0 y35) fun _=>
 bind (ldA 2 q34_0) fun y36=>
 ret (Value.tuple #[y36,q34_2])) noX) ret))
noncomputable def YY.l1 (Γ : Zc) (s0 s1 s21 s22 s23 : Value) : M Out:=
 bind (bop .int .lss s23 s22) fun y4=>
 cnd y4
 (bind (ixa 1 s21 s23) fun y5=>
 bind (ld1 y5) fun y6=>
 bind (Γ Zao [y6]) fun y7=>
 bind (uop .not y7) fun y8=>
 cnd y8
 (ret (.ret (Value.int .i64 10)))
 (bind (bop .int .add s23 (Value.int .i64 1)) fun y9=>
 ret (.nrm [s0,s1,s21,s22,y9])))
 (ret (.ext 0 [s0,s1]))
noncomputable def YY.l2 (Γ : Zc) (s0 s1 s31 s32 s33 : Value) : M Out:=
 bind (bop .int .lss s33 s32) fun y13=>
 cnd y13
 (bind (ixa 1 s31 s33) fun y14=>
 bind (ld1 y14) fun y15=>
 bind (bop .int .gtr s33 (Value.int .i64 0)) fun y16=>
 bind (Zx y16 true 7 (bind (bop .int .sub s33 (Value.int .i64 1)) fun y17=>
 bind (ixa 1 s1 y17) fun y18=>
 bind (ld1 y18) fun y19=>
 bind (bop .str .geq y19 y15) fun y20=>
 ret [s1,s33,y17,y18,y19,y15,y20])) (c7 fun _ _ _ _ _ _ q21_6=>
 bind (pick y16 q21_6 (Value.bool false)) fun y22=>
 cnd y22
 (ret (.ret (Value.int .i64 9)))
 (bind (bop .int .add s33 (Value.int .i64 1)) fun y23=>
 ret (.nrm [s0,s1,s31,s32,y23]))))
 (ret (.ext 2 [s0,s1]))
noncomputable def YY.l4 (Γ : Zc) (s0 s1 s10 s11 s53 s54 s55 s61 s62 s63 : Value) : M Out:=
 bind (bop .int .lss s63 s62) fun y36=>
 cnd y36
 (bind (ixa 1 s61 s63) fun y37=>
 bind (ld1 y37) fun y38=>
 bind (Γ ZoV [s1,y38]) fun y39=>
 bind (uop .not y39) fun y40=>
 cnd y40
 (ret (.ret (Value.int .i64 8)))
 (bind (bop .int .add s63 (Value.int .i64 1)) fun y41=>
 ret (.nrm [s0,s1,s10,s11,s53,s54,s55,s61,s62,y41])))
 (ret (.ext 6 [s0,s1,s10,s11,s53,s54,s55]))
noncomputable def YY.l5 (Γ : Zc) (s0 s1 s11 s53 s54 s55 s74 s75 s76 : Value) : M Out:=
 bind (bop .int .lss s76 s75) fun y46=>
 cnd y46
 (bind (ixa 5 s74 s76) fun y47=>
 bind (ldA 5 y47) fun y48=>
 bind (alc 1 (.agg #[.string ⟨#[]⟩,.string ⟨#[]⟩,.string ⟨#[]⟩,.bool false,.slice none 0 0])) fun y49=>
 bind (stA 5 y49 y48) fun _=>
 bind (fa 2 s11) fun y50=>
 bind (ld1 y50) fun y51=>
 bind (bop .str .neq y51 (Value.string ⟨#[]⟩)) fun y52=>
 bind (Zx y52 true 5 (bind (fa 2 s11) fun y53=>
 bind (ld1 y53) fun y54=>
 bind (fa 2 y49) fun y55=>
 bind (ld1 y55) fun y56=>
 bind (bop .str .eql y54 y56) fun y57=>
 ret [y53,y54,y55,y56,y57])) (c5 fun _ _ _ _ q58_4=>
 bind (pick y52 q58_4 (Value.bool false)) fun y59=>
 cnd y59
 (ret (.ret (Value.int .i64 9)))
 (bind (bop .int .add s76 (Value.int .i64 1)) fun y60=>
 ret (.nrm [s0,s1,s11,s53,s54,s55,s74,s75,y60]))))
 (ret (.ext 8 [s0,s1,s53,s54,s55]))
noncomputable def YY.l3 (Γ : Zc) (s0 s1 s53 s54 s55 : Value) : M Out:=
 bind (bop .int .lss s55 s54) fun y29=>
 cnd y29
 (bind (ixa 5 s53 s55) fun y30=>
 bind (ldA 5 y30) fun y31=>
 bind (alc 1 (.agg #[.string ⟨#[]⟩,.string ⟨#[]⟩,.string ⟨#[]⟩,.bool false,.slice none 0 0])) fun y32=>
 bind (stA 5 y32 y31) fun _=>
 bind (fa 4 y32) fun y33=>
 bind (ld1 y33) fun y34=>
 bind (Zk y34) fun y35=>
 jn (Zf (c10 (YY.l4 Γ)) [s0,s1,s55,y32,s53,s54,s55,y34,y35,(Value.int .i64 0)]) noN (xk 6 (c7 fun q43_0 q43_1 q43_2 q43_3 q43_4 q43_5 q43_6=>
 bind (slv 5 q43_0 none (some q43_2) none) fun y44=>
 bind (Zk y44) fun y45=>
 jn (Zf (c9 (YY.l5 Γ)) [q43_0,q43_1,q43_3,q43_4,q43_5,q43_6,y44,y45,(Value.int .i64 0)]) noN (xk 8 (c5 fun q62_0 q62_1 q62_2 q62_3 q62_4=>
 bind (bop .int .add q62_4 (Value.int .i64 1)) fun y63=>
 ret (.nrm [q62_0,q62_1,q62_2,q62_3,y63])) noX) ZN) noX) ZN)
 (ret (.ext 4 []))
noncomputable def YY (Γ : Zc) (x0 x1 : Value) : M Value:=
 bind (Γ Zlf [x0,(Value.int .i64 2)]) fun y1=>
 bind (bop .int .neq y1 (Value.int .i64 0)) fun y2=>
 cnd y2
 (ret y1)
 (bind (Zk x1) fun y3=>
 jn (Zf (c5 (YY.l1 Γ)) [x0,x1,x1,y3,(Value.int .i64 0)]) noN (xk 0 (c2 fun q11_0 q11_1=>
 bind (Zk q11_1) fun y12=>
 jn (Zf (c5 (YY.l2 Γ)) [q11_0,q11_1,q11_1,y12,(Value.int .i64 0)]) noN (xk 2 (c2 fun q25_0 q25_1=>
 bind (Zk q25_1) fun y26=>
 bind (bop .int .gtr y26 (Value.int .i64 6)) fun y27=>
 cnd y27
 (ret (Value.int .i64 7))
 (bind (Zk q25_0) fun y28=>
 jn (Zf (c5 (YY.l3 Γ)) [q25_0,q25_1,q25_0,y28,(Value.int .i64 0)]) noN (xk 4 (c0 (ret (Value.int .i64 0))) noX) ret)) noX) ret) noX) ret)
noncomputable def ZdR.l1 (Γ : Zc) (s1 s3 s6 s8 s10 s41 s42 s43 : Value) : M Out:=
 bind (bop .int .lss s43 s42) fun y26=>
 cnd y26
 (bind (ixa 5 s41 s43) fun y27=>
 bind (ldA 5 y27) fun y28=>
 bind (alc 1 (.agg #[.string ⟨#[]⟩,.string ⟨#[]⟩,.string ⟨#[]⟩,.bool false,.slice none 0 0])) fun y29=>
 bind (stA 5 y29 y28) fun _=>
 bind (bop .str .neq s10 (Value.string ⟨#[]⟩)) fun y30=>
 bind (Zx y30 true 4 (bind (fa 2 y29) fun y31=>
 bind (ld1 y31) fun y32=>
 bind (bop .str .eql y32 s10) fun y33=>
 ret [y31,y32,s10,y33])) (c4 fun _ _ _ q34_3=>
 bind (pick y30 q34_3 (Value.bool false)) fun y35=>
 bind (Zx y35 true 4 (bind (fa 0 y29) fun y36=>
 bind (ld1 y36) fun y37=>
 bind (bop .str .neq y37 s1) fun y38=>
 ret [y36,y37,s1,y38])) (c4 fun _ _ _ q39_3=>
 bind (pick y35 q39_3 (Value.bool false)) fun y40=>
 cnd y40
 (bind (ldA 2 s3) fun y41=>
 bind (stA 2 s6 y41) fun _=>
 bind (ldA 2 s6) fun y42=>
 ret (.ret (Value.tuple #[y42,(Value.int .i64 9)])))
 (bind (bop .int .add s43 (Value.int .i64 1)) fun y43=>
 ret (.nrm [s1,s3,s6,s8,s10,s41,s42,y43])))))
 (ret (.ext 0 [s3,s6,s8,s10]))
noncomputable def ZdR (Γ : Zc) (x0 x1 x2 : Value) : M Value:=
 bind (alc 1 x0) fun y1=>
 bind (alc 1 (.agg #[.slice none 0 0,.slice none 0 0])) fun y2=>
 bind (ldA 2 y1) fun y3=>
 bind (Γ Zn5 [y3,x1]) fun y4=>
 bind (Zl y4 0) fun y5=>
 bind (Zl y4 1) fun y6=>
 bind (alc 1 (.agg #[.string ⟨#[]⟩,.string ⟨#[]⟩,.string ⟨#[]⟩,.bool false,.slice none 0 0])) fun y7=>
 bind (stA 5 y7 y5) fun _=>
 bind (Γ ZhT [x2]) fun y8=>
 bind (Zl y8 0) fun y9=>
 bind (Zl y8 1) fun y10=>
 bind (bop .int .eql y6 (Value.int .i64 10)) fun y11=>
 cnd y11
 (bind (ldA 2 y1) fun y12=>
 bind (stA 2 y2 y12) fun _=>
 bind (ldA 2 y2) fun y13=>
 ret (Value.tuple #[y13,y6]))
 (bind (bop .str .neq x2 (Value.string ⟨#[]⟩)) fun y14=>
 bind (Zx y14 true 2 (bind (uop .not y10) fun y15=>
 ret [y10,y15])) (c2 fun _ q16_1=>
 bind (pick y14 q16_1 (Value.bool false)) fun y17=>
 cnd y17
 (bind (ldA 2 y1) fun y18=>
 bind (stA 2 y2 y18) fun _=>
 bind (ldA 2 y2) fun y19=>
 ret (Value.tuple #[y19,(Value.int .i64 11)]))
 (bind (bop .int .neq y6 (Value.int .i64 0)) fun y20=>
 cnd y20
 (bind (ldA 2 y1) fun y21=>
 bind (stA 2 y2 y21) fun _=>
 bind (ldA 2 y2) fun y22=>
 ret (Value.tuple #[y22,y6]))
 (bind (fa 0 y1) fun y23=>
 bind (ld1 y23) fun y24=>
 bind (Zk y24) fun y25=>
 jn (Zf (c8 (ZdR.l1 Γ)) [x1,y1,y2,y7,y9,y24,y25,(Value.int .i64 0)]) noN (xk 0 (c4 fun q45_0 q45_1 q45_2 q45_3=>
 bind (fa 2 q45_2) fun y46=>
 bind (st1 y46 q45_3) fun _=>
 bind (ldA 2 q45_0) fun y47=>
 bind (ldA 5 q45_2) fun y48=>
 bind (Γ ZoY [y47,y48]) fun y49=>
 bind (stA 2 q45_1 y49) fun _=>
 bind (ldA 2 q45_1) fun y50=>
 ret (Value.tuple #[y50,(Value.int .i64 0)])) noX) ret))))
noncomputable def ZcT.l1 (Γ : Zc) (s1 s2 s4 s8 s27 s28 s29 : Value) : M Out:=
 bind (bop .int .lss s29 s28) fun y19=>
 cnd y19
 (bind (ixa 5 s27 s29) fun y20=>
 bind (ldA 5 y20) fun y21=>
 bind (alc 1 (.agg #[.string ⟨#[]⟩,.string ⟨#[]⟩,.string ⟨#[]⟩,.bool false,.slice none 0 0])) fun y22=>
 bind (stA 5 y22 y21) fun _=>
 bind (fa 4 y22) fun y23=>
 bind (ld1 y23) fun y24=>
 bind (Γ ZkE [y24,s1]) fun y25=>
 bind (fa 4 y22) fun y26=>
 bind (st1 y26 y25) fun _=>
 bind (ldA 5 y22) fun y27=>
 bind (bsl 5 1 (.agg #[.string ⟨#[]⟩,.string ⟨#[]⟩,.string ⟨#[]⟩,.bool false,.slice none 0 0]) [(0,5,y27)]) fun y28=>
 bind (app 5 80 s8 y28) fun y29=>
 bind (bop .int .add s29 (Value.int .i64 1)) fun y30=>
 ret (.nrm [s1,s2,s4,y29,s27,s28,y30]))
 (ret (.ext 0 [s2,s4,s8]))
noncomputable def ZcT (Γ : Zc) (x0 x1 : Value) : M Value:=
 bind (alc 1 x0) fun y1=>
 bind (alc 1 (.agg #[.slice none 0 0,.slice none 0 0])) fun y2=>
 bind (fa 1 y1) fun y3=>
 bind (ld1 y3) fun y4=>
 bind (bld (.agg #[.slice none 0 0,.slice none 0 0]) [(0,1,y4)]) fun y5=>
 bind (Γ Znu [y5,x1]) fun y6=>
 bind (Zl y6 0) fun y7=>
 bind (Zl y6 1) fun y8=>
 bind (alc 1 (.agg #[.slice none 0 0,.slice none 0 0])) fun y9=>
 bind (stA 2 y9 y7) fun _=>
 bind (bop .int .neq y8 (Value.int .i64 0)) fun y10=>
 cnd y10
 (bind (ldA 2 y1) fun y11=>
 bind (stA 2 y2 y11) fun _=>
 bind (ldA 2 y2) fun y12=>
 ret (Value.tuple #[y12,y8]))
 (bind (fa 0 y9) fun y13=>
 bind (ld1 y13) fun y14=>
 bind (fa 1 y1) fun y15=>
 bind (st1 y15 y14) fun _=>
 bind (fa 0 y1) fun y16=>
 bind (ld1 y16) fun y17=>
 bind (Zk y17) fun y18=>
 jn (Zf (c7 (ZcT.l1 Γ)) [x1,y1,y2,(Value.slice none 0 0),y17,y18,(Value.int .i64 0)]) noN (xk 0 (c3 fun q32_0 q32_1 q32_2=>
 bind (fa 0 q32_0) fun y33=>
 bind (st1 y33 q32_2) fun _=>
 bind (ldA 2 q32_0) fun y34=>
 bind (stA 2 q32_1 y34) fun _=>
 bind (ldA 2 q32_1) fun y35=>
 ret (Value.tuple #[y35,(Value.int .i64 0)])) noX) ret)
noncomputable def Zjk.l1 (Γ : Zc) (s3 s10 s11 s12 : Value) : M Out:=
 bind (bop .int .lss s12 s11) fun y5=>
 cnd y5
 (bind (ixa 1 s10 s12) fun y6=>
 bind (ld1 y6) fun y7=>
 bind (Γ Zn7 [y7]) fun y8=>
 bind (bop .str .add s3 y8) fun y9=>
 bind (bop .int .add s12 (Value.int .i64 1)) fun y10=>
 ret (.nrm [y9,s10,s11,y10]))
 (ret (.ext 0 [s3]))
noncomputable def Zjk (Γ : Zc) (x0 : Value) : M Value:=
 bind (Zk x0) fun y1=>
 bind (cvi .u64 y1) fun y2=>
 bind (Γ Zi4 [y2,(Value.int .i64 2)]) fun y3=>
 bind (Zk x0) fun y4=>
 jn (Zf (c4 (Zjk.l1 Γ)) [y3,x0,y4,(Value.int .i64 0)]) noN (xk 0 (c1 fun q12_0=>
 ret q12_0) noX) ret
noncomputable def Zgv.l1 (Γ : Zc) (s0 s5 s12 s13 s14 : Value) : M Out:=
 bind (bop .int .lss s14 s13) fun y5=>
 cnd y5
 (bind (ixa 5 s12 s14) fun y6=>
 bind (ldA 5 y6) fun y7=>
 bind (alc 1 (.agg #[.string ⟨#[]⟩,.string ⟨#[]⟩,.string ⟨#[]⟩,.bool false,.slice none 0 0])) fun y8=>
 bind (stA 5 y8 y7) fun _=>
 bind (ldA 5 y8) fun y9=>
 bind (Γ ZnB [s0,y9]) fun y10=>
 bind (bop .str .add s5 y10) fun y11=>
 bind (bop .int .add s14 (Value.int .i64 1)) fun y12=>
 ret (.nrm [s0,y11,s12,s13,y12]))
 (ret (.ext 0 [s5]))
noncomputable def Zgv (Γ : Zc) (x0 x1 : Value) : M Value:=
 bind (Zk x1) fun y1=>
 bind (cvi .u64 y1) fun y2=>
 bind (Γ Zi4 [y2,(Value.int .i64 2)]) fun y3=>
 bind (Zk x1) fun y4=>
 jn (Zf (c5 (Zgv.l1 Γ)) [x0,y3,x1,y4,(Value.int .i64 0)]) noN (xk 0 (c1 fun q14_0=>
 ret q14_0) noX) ret
noncomputable def Zbg (Γ : Zc) (x0 : Value) : M Value:=
 bind (bop .slc .eql x0 (Value.slice none 0 0)) fun y1=>
 cnd y1
 (ret (Value.slice none 0 0))
 (bind (bsl 1 0 (.int .u8 0) []) fun y2=>
 bind (app 1 1 y2 x0) fun y3=>
 ret y3)
theorem ZlE (Γ : Zc) (x0 : Value) : ZE Tryz.prog Γ Tryz.f88 Zfe [x0]=Zbg Γ x0:=by kernel_rfl
theorem Zkh {prim : FuncId→Option (List Value→M Value)} (hp : prim Za0=none) (n : Nat) (x0 : Value) : run Tryz.prog prim lvs (n+1) Za0 [x0]=Zbg (run Tryz.prog prim lvs n) x0:=
 (Zo hp (by kernel_rfl) Tryz.func88 (by kernel_rfl)).trans (ZlE _ x0)
noncomputable def ZiZ.l1 (Γ : Zc) (s4 s7 s29 s30 : Value) : M Out:=
 bind (bop .int .lss s30 s29) fun y13=>
 cnd y13
 (bind (Γ Zlq [s4,(Value.int .i64 1)]) fun y14=>
 bind (bsl 5 1 (.agg #[.string ⟨#[]⟩,.string ⟨#[]⟩,.string ⟨#[]⟩,.bool false,.slice none 0 0]) [(0,5,y14)]) fun y15=>
 bind (app 5 80 s7 y15) fun y16=>
 bind (bop .int .add s30 (Value.int .i64 1)) fun y17=>
 ret (.nrm [s4,y16,s29,y17]))
 (ret (.ext 0 [s4,s7]))
noncomputable def ZiZ (Γ : Zc) (x0 : Value) : M Value:=
 bind (Γ Zlh [x0]) fun y1=>
 bind (Γ Zcz [y1]) fun y2=>
 bind (Γ Wl [y1]) fun y3=>
 bind (bop .int .eql y3 (Value.int .i64 0)) fun y4=>
 bind (Zx y4 true 2 (bind (bop .int .neq y2 (Value.int .u8 1)) fun y5=>
 ret [y2,y5])) (c2 fun _ q6_1=>
 bind (pick y4 q6_1 (Value.bool false)) fun y7=>
 cnd y7
 (ret (Value.tuple #[(Value.pointer none),(Value.int .i64 6)]))
 (bind (Γ Zc0 [y1]) fun y8=>
 bind (cvi .i64 y8) fun y9=>
 bind (bop .int .gtr y9 (Value.int .i64 12)) fun y10=>
 jn (cnd y10
 (bind (Γ Zcs [y1,(Value.int .i64 7)]) fun y11=>
 ret (.nrm [y1,(Value.int .i64 0)]))
 (ret (.nrm [y1,y9]))) (c2 fun q12_0 q12_1=>
 jn (Zf (c4 (ZiZ.l1 Γ)) [q12_0,(Value.slice none 0 0),q12_1,(Value.int .i64 0)]) noN (xk 0 (c2 fun q19_0 q19_1=>
 bind (Γ Wl [q19_0]) fun y20=>
 bind (bop .int .neq y20 (Value.int .i64 0)) fun y21=>
 cnd y21
 (ret (Value.tuple #[(Value.pointer none),y20]))
 (bind (Γ ZqD [q19_1]) fun y22=>
 bind (Zl y22 0) fun y23=>
 bind (Zl y22 1) fun y24=>
 bind (bop .int .eql y24 (Value.int .i64 0)) fun y25=>
 jn (cnd y25
 (bind (Γ Zc6 [q19_0]) fun y26=>
 ret (.nrm [y23,y26]))
 (ret (.nrm [y23,y24]))) (c2 fun q27_0 q27_1=>
 bind (bop .int .neq q27_1 (Value.int .i64 0)) fun y28=>
 cnd y28
 (ret (Value.tuple #[(Value.pointer none),q27_1]))
 (ret (Value.tuple #[q27_0,(Value.int .i64 0)]))) noX ret)) noX) ret) noX ret))
noncomputable def Zk9.l1 (Γ : Zc) (s2 s3 s6 s7 s8 : Value) : M Out:=
 bind (bop .int .lss s8 s7) fun y3=>
 cnd y3
 (bind (ixa 5 s6 s8) fun y4=>
 bind (ldA 5 y4) fun y5=>
 bind (alc 1 (.agg #[.string ⟨#[]⟩,.string ⟨#[]⟩,.string ⟨#[]⟩,.bool false,.slice none 0 0])) fun y6=>
 bind (stA 5 y6 y5) fun _=>
 bind (fa 0 y6) fun y7=>
 bind (ld1 y7) fun y8=>
 bind (fa 1 y6) fun y9=>
 bind (ld1 y9) fun y10=>
 bind (bld (.agg #[.string ⟨#[]⟩,.string ⟨#[]⟩,.string ⟨#[]⟩,.bool false,.slice none 0 0]) [(0,1,y8),(1,1,y10)]) fun y11=>
 bind (bsl 5 1 (.agg #[.string ⟨#[]⟩,.string ⟨#[]⟩,.string ⟨#[]⟩,.bool false,.slice none 0 0]) [(0,5,y11)]) fun y12=>
 bind (app 5 80 s3 y12) fun y13=>
 bind (bop .int .add s8 (Value.int .i64 1)) fun y14=>
 ret (.nrm [s2,y13,s6,s7,y14]))
 (ret (.ext 0 [s2,s3]))
noncomputable def Zk9 (Γ : Zc) (x0 : Value) : M Value:=
 bind (alc 1 (.agg #[.slice none 0 0,.slice none 0 0])) fun y1=>
 bind (Zk x0) fun y2=>
 jn (Zf (c5 (Zk9.l1 Γ)) [y1,(Value.slice none 0 0),x0,y2,(Value.int .i64 0)]) noN (xk 0 (c2 fun q16_0 q16_1=>
 bind (bld (.agg #[.slice none 0 0,.slice none 0 0]) [(0,1,q16_1)]) fun y17=>
 bind (stA 2 q16_0 y17) fun _=>
 bind (ldA 2 q16_0) fun y18=>
 ret y18) noX) ret
noncomputable def ZfL.l1 (Γ : Zc) (s5 s10 s11 s12 : Value) : M Out:=
 bind (bop .int .lss s12 s11) fun y3=>
 cnd y3
 (bind (ixa 1 s10 s12) fun y4=>
 bind (ld1 y4) fun y5=>
 bind (bop .int .eql s5 (Value.int .i64 0)) fun y6=>
 jn (cnd y6
 (bind (Qg Γ y5 []) fun y7=>
 ret (.nrm [y7,s10,s11,s12]))
 (ret (.nrm [s5,s10,s11,s12]))) (c4 fun q8_0 q8_1 q8_2 q8_3=>
 bind (bop .int .add q8_3 (Value.int .i64 1)) fun y9=>
 ret (.nrm [q8_0,q8_1,q8_2,y9])) noX ZN)
 (ret (.ext 0 [s5]))
noncomputable def ZfL (Γ : Zc) (x0 x1 : Value) : M Value:=
 bind (Γ QM [x0]) fun y1=>
 bind (Zk x1) fun y2=>
 jn (Zf (c4 (ZfL.l1 Γ)) [y1,x1,y2,(Value.int .i64 0)]) noN (xk 0 (c1 fun q12_0=>
 ret q12_0) noX) ret
noncomputable def Y6 (Γ : Zc) (x0 x1 : Value) : M Value:=
 bind (alc 1 (.agg #[.string ⟨#[]⟩,.bool false])) fun y1=>
 bind (Γ QM [x1]) fun y2=>
 bind (bop .int .neq y2 (Value.int .i64 0)) fun y3=>
 cnd y3
 (bind (bld (.agg #[.string ⟨#[]⟩,.bool false]) []) fun y4=>
 bind (stA 2 y1 y4) fun _=>
 bind (ldA 2 y1) fun y5=>
 ret (Value.tuple #[y5,y2]))
 (bind (Ja x0) fun y6=>
 bind (fa 0 y6) fun y7=>
 bind (ld1 y7) fun y8=>
 bind (lkp .str (.agg #[.string ⟨#[]⟩,.bool false]) true y8 x1) fun y9=>
 bind (Zl y9 0) fun y10=>
 bind (Zl y9 1) fun y11=>
 bind (alc 1 (.agg #[.string ⟨#[]⟩,.bool false])) fun y12=>
 bind (stA 2 y12 y10) fun _=>
 bind (uop .not y11) fun y13=>
 cnd y13
 (bind (bld (.agg #[.string ⟨#[]⟩,.bool false]) []) fun y14=>
 bind (stA 2 y1 y14) fun _=>
 bind (ldA 2 y1) fun y15=>
 ret (Value.tuple #[y15,(Value.int .i64 8)]))
 (bind (ldA 2 y12) fun y16=>
 bind (stA 2 y1 y16) fun _=>
 bind (ldA 2 y1) fun y17=>
 ret (Value.tuple #[y17,(Value.int .i64 0)])))
theorem ZiJ (Γ : Zc) (x0 x1 : Value) : ZE Tryz.prog Γ Tryz.f99 Zdz [x0,x1]=Y6 Γ x0 x1:=by kernel_rfl
theorem Zib {prim : FuncId→Option (List Value→M Value)} (hp : prim K0=none) (n : Nat) (x0 x1 : Value) : run Tryz.prog prim lvs (n+1) K0 [x0,x1]=Y6 (run Tryz.prog prim lvs n) x0 x1:=
 (Zo hp (by kernel_rfl) Tryz.func99 (by kernel_rfl)).trans (ZiJ _ x0 x1)
noncomputable def Zcm (Γ : Zc) (x0 x1 : Value) : M Value:=
 bind (Ja x0) fun y1=>
 bind (fa 1 y1) fun y2=>
 bind (ld1 y2) fun y3=>
 bind (lkp .str (.string ⟨#[]⟩) true y3 x1) fun y4=>
 bind (Zl y4 0) fun y5=>
 bind (Zl y4 1) fun y6=>
 ret (Value.tuple #[y5,y6])
theorem Zj7 (Γ : Zc) (x0 x1 : Value) : ZE Tryz.prog Γ Tryz.f100 ZdZ [x0,x1]=Zcm Γ x0 x1:=by kernel_rfl
theorem Zjq {prim : FuncId→Option (List Value→M Value)} (hp : prim Wt=none) (n : Nat) (x0 x1 : Value) : run Tryz.prog prim lvs (n+1) Wt [x0,x1]=Zcm (run Tryz.prog prim lvs n) x0 x1:=
 (Zo hp (by kernel_rfl) Tryz.func100 (by kernel_rfl)).trans (Zj7 _ x0 x1)
noncomputable def Zbl (Γ : Zc) (x0 x1 : Value) : M Value:=
 bind (alc 1 x0) fun y1=>
 bind (alc 1 x1) fun y2=>
 bind (ld1 y1) fun y3=>
 bind (Γ J2 [y3]) fun y4=>
 bind (Γ Z8 [y4,(Value.func (.func 166) #[] #[y1,y2])]) fun y5=>
 ret y5
theorem Ziw (Γ : Zc) (x0 x1 : Value) : ZE Tryz.prog Γ Tryz.f101 Zc8 [x0,x1]=Zbl Γ x0 x1:=by kernel_rfl
theorem Zhg {prim : FuncId→Option (List Value→M Value)} (hp : prim JJ=none) (n : Nat) (x0 x1 : Value) : run Tryz.prog prim lvs (n+1) JJ [x0,x1]=Zbl (run Tryz.prog prim lvs n) x0 x1:=
 (Zo hp (by kernel_rfl) Tryz.func101 (by kernel_rfl)).trans (Ziw _ x0 x1)
noncomputable def ZB.l1 (Γ : Zc) (s0 s1 s5 s6 : Value) : M Out:=
 bind (Zk s0) fun y4=>
 bind (bop .int .lss s6 y4) fun y5=>
 cnd y5
 (bind (ixa 1 s0 s6) fun y6=>
 bind (ld1 y6) fun y7=>
 bind (Qg Γ s1 [y7]) fun y8=>
 bind (uop .not y8) fun y9=>
 jn (cnd y9
 (bind (ixa 1 s0 s5) fun y10=>
 bind (st1 y10 y7) fun _=>
 bind (bop .int .add s5 (Value.int .i64 1)) fun y11=>
 ret (.nrm [s0,s1,y11,s6]))
 (ret (.nrm [s0,s1,s5,s6]))) (c4 fun q12_0 q12_1 q12_2 q12_3=>
 bind (bop .int .add q12_3 (Value.int .i64 1)) fun y13=>
 ret (.nrm [q12_0,q12_1,q12_2,y13])) noX ZN)
 (ret (.ext 0 [s0,s5]))
noncomputable def ZB (Γ : Zc) (x0 x1 : Value) : M Value:=
 bind (Γ QJ [x0,x1]) fun y1=>
 bind (bop .int .eql y1 (Value.int .i64 (-1))) fun y2=>
 cnd y2
 (ret x0)
 (bind (bop .int .add y1 (Value.int .i64 1)) fun y3=>
 jn (Zf (c4 (ZB.l1 Γ)) [x0,x1,y1,y3]) noN (xk 0 (c2 fun q16_0 q16_1=>
 bind (slv 1 q16_0 (some q16_1) none none) fun y17=>
 bind (clr (.string ⟨#[]⟩) 1 y17) fun _=>
 bind (slv 1 q16_0 none (some q16_1) none) fun y18=>
 ret y18) noX) ret)
theorem ZaS (Γ : Zc) (x0 x1 : Value) : ZE Tryz.prog Γ Tryz.f103 Km [x0,x1]=ZB Γ x0 x1:=by kernel_rfl
theorem ZaI {prim : FuncId→Option (List Value→M Value)} (hp : prim Z8=none) (n : Nat) (x0 x1 : Value) : run Tryz.prog prim lvs (n+1) Z8 [x0,x1]=ZB (run Tryz.prog prim lvs n) x0 x1:=
 (Zo hp (by kernel_rfl) Tryz.func103 (by kernel_rfl)).trans (ZaS _ x0 x1)
noncomputable def Zbf (Γ : Zc) (x0 : Value) : M Value:=
 bind (Ja x0) fun y1=>
 bind (fa 0 y1) fun y2=>
 bind (ld1 y2) fun y3=>
 bind (Γ ZR [y3]) fun y4=>
 bind (Γ QT [y4,(Value.func (.func 172) #[] #[])]) fun y5=>
 ret y5
theorem Zh6 (Γ : Zc) (x0 : Value) : ZE Tryz.prog Γ Tryz.f107 ZcU [x0]=Zbf Γ x0:=by kernel_rfl
theorem Zg0 {prim : FuncId→Option (List Value→M Value)} (hp : prim Kt=none) (n : Nat) (x0 : Value) : run Tryz.prog prim lvs (n+1) Kt [x0]=Zbf (run Tryz.prog prim lvs n) x0:=
 (Zo hp (by kernel_rfl) Tryz.func107 (by kernel_rfl)).trans (Zh6 _ x0)
noncomputable def ZfY (Γ : Zc) : M Value:=
 bind (mkm) fun y1=>
 bind (mkm) fun y2=>
 bind (bld (.agg #[.map none,.map none]) [(0,1,y1),(1,1,y2)]) fun y3=>
 bind (alc 1 y3) fun y4=>
 ret y4
theorem Zps (Γ : Zc) : ZE Tryz.prog Γ Tryz.f109 Zi5 []=ZfY Γ :=by kernel_rfl
theorem ZnW {prim : FuncId→Option (List Value→M Value)} (hp : prim ZdD=none) (n : Nat) : run Tryz.prog prim lvs (n+1) ZdD []=ZfY (run Tryz.prog prim lvs n) :=
 (Zo hp (by kernel_rfl) Tryz.func109 (by kernel_rfl)).trans (Zps _ )
noncomputable def Zel (Γ : Zc) : M Value:=
 bind (mkm) fun y1=>
 bind (bld (.agg #[.map none]) [(0,1,y1)]) fun y2=>
 bind (alc 1 y2) fun y3=>
 ret y3
theorem ZnF (Γ : Zc) : ZE Tryz.prog Γ Tryz.f110 ZhF []=Zel Γ :=by kernel_rfl
theorem Zm3 {prim : FuncId→Option (List Value→M Value)} (hp : prim ZcB=none) (n : Nat) : run Tryz.prog prim lvs (n+1) ZcB []=Zel (run Tryz.prog prim lvs n) :=
 (Zo hp (by kernel_rfl) Tryz.func110 (by kernel_rfl)).trans (ZnF _ )
noncomputable def Zdr.l1 (Γ : Zc) (s0 s4 s11 s12 s13 : Value) : M Out:=
 bind (bop .int .lss s13 s12) fun y3=>
 cnd y3
 (bind (ixa 5 s11 s13) fun y4=>
 bind (ldA 5 y4) fun y5=>
 bind (alc 1 (.agg #[.string ⟨#[]⟩,.string ⟨#[]⟩,.string ⟨#[]⟩,.bool false,.slice none 0 0])) fun y6=>
 bind (stA 5 y6 y5) fun _=>
 bind (ldA 5 y6) fun y7=>
 bind (Γ KM [(Value.int .i64 1),y7]) fun y8=>
 bind (bop .int .neq y8 (Value.int .i64 0)) fun y9=>
 cnd y9
 (ret (.ret (Value.tuple #[(Value.pointer none),y8])))
 (bind (bop .int .add s13 (Value.int .i64 1)) fun y10=>
 ret (.nrm [s0,s4,s11,s12,y10])))
 (ret (.ext 0 [s0,s4]))
noncomputable def Zdr.l2 (Γ : Zc) (s0 s4 s23 s24 s25 : Value) : M Out:=
 bind (bop .int .lss s25 s24) fun y14=>
 cnd y14
 (bind (ixa 5 s23 s25) fun y15=>
 bind (ldA 5 y15) fun y16=>
 bind (alc 1 (.agg #[.string ⟨#[]⟩,.string ⟨#[]⟩,.string ⟨#[]⟩,.bool false,.slice none 0 0])) fun y17=>
 bind (stA 5 y17 y16) fun _=>
 bind (bop .int .gtr s25 (Value.int .i64 0)) fun y18=>
 bind (Ze y18 true (ret s0)) fun y19=>
 bind (Ze y18 true (ret s25)) fun y20=>
 bind (Ze y18 true (bop .int .sub y20 (Value.int .i64 1))) fun y21=>
 bind (Ze y18 true (ixa 5 y19 y21)) fun y22=>
 bind (Ze y18 true (fa 0 y22)) fun y23=>
 bind (Ze y18 true (ld1 y23)) fun y24=>
 bind (Ze y18 true (fa 0 y17)) fun y25=>
 bind (Ze y18 true (ld1 y25)) fun y26=>
 bind (Ze y18 true (Γ QC [y24,y26])) fun y27=>
 bind (Ze y18 true (bop .int .geq y27 (Value.int .i64 0))) fun y28=>
 bind (pick y18 y28 (Value.bool false)) fun y29=>
 cnd y29
 (ret (.ret (Value.tuple #[(Value.pointer none),(Value.int .i64 9)])))
 (bind (Ja s4) fun y30=>
 bind (fa 0 y30) fun y31=>
 bind (ld1 y31) fun y32=>
 bind (fa 0 y17) fun y33=>
 bind (ld1 y33) fun y34=>
 bind (fa 1 y17) fun y35=>
 bind (ld1 y35) fun y36=>
 bind (mup .str y32 y34 y36) fun _=>
 bind (bop .int .add s25 (Value.int .i64 1)) fun y37=>
 ret (.nrm [s0,s4,s23,s24,y37])))
 (ret (.ext 2 [s0,s4]))
noncomputable def Zdr (Γ : Zc) (x0 : Value) : M Value:=
 bind (Γ ZjQ []) fun y1=>
 bind (Zk x0) fun y2=>
 jn (Zf (c5 (Zdr.l1 Γ)) [x0,y1,x0,y2,(Value.int .i64 0)]) noN (xk 0 (c2 fun q12_0 q12_1=>
 bind (Zk q12_0) fun y13=>
 jn (Zf (c5 (Zdr.l2 Γ)) [q12_0,q12_1,q12_0,y13,(Value.int .i64 0)]) noN (xk 2 (c2 fun q39_0 q39_1=>
 bind (Zk q39_0) fun y40=>
 bind (bop .int .gtr y40 (Value.int .i64 12)) fun y41=>
 cnd y41
 (ret (Value.tuple #[(Value.pointer none),(Value.int .i64 7)]))
 (ret (Value.tuple #[q39_1,(Value.int .i64 0)]))) noX) ret) noX) ret
noncomputable def Zhx.l1 (Γ : Zc) (s2 s3 s43 s44 : Value) : M Out:=
 bind (bop .int .lss s44 s43) fun y41=>
 cnd y41
 (bind (fa 4 s2) fun y42=>
 bind (ld1 y42) fun y43=>
 bind (ixa 1 y43 s44) fun y44=>
 bind (ld1 y44) fun y45=>
 bind (fa 4 s3) fun y46=>
 bind (ld1 y46) fun y47=>
 bind (ixa 1 y47 s44) fun y48=>
 bind (ld1 y48) fun y49=>
 bind (bop .str .neq y45 y49) fun y50=>
 cnd y50
 (ret (.ret (Value.bool false)))
 (bind (bop .int .add s44 (Value.int .i64 1)) fun y51=>
 ret (.nrm [s2,s3,s43,y51])))
 (ret (.ext 0 []))
noncomputable def Zhx (Γ : Zc) (x0 x1 : Value) : M Value:=
 bind (alc 1 x0) fun y1=>
 bind (alc 1 x1) fun y2=>
 bind (fa 0 y1) fun y3=>
 bind (ld1 y3) fun y4=>
 bind (fa 0 y2) fun y5=>
 bind (ld1 y5) fun y6=>
 bind (bop .str .neq y4 y6) fun y7=>
 bind (Zx y7 false 5 (bind (fa 1 y1) fun y8=>
 bind (ld1 y8) fun y9=>
 bind (fa 1 y2) fun y10=>
 bind (ld1 y10) fun y11=>
 bind (bop .str .neq y9 y11) fun y12=>
 ret [y8,y9,y10,y11,y12])) (c5 fun _ _ _ _ q13_4=>
 bind (pick y7 (Value.bool true) q13_4) fun y14=>
 bind (Zx y14 false 5 (bind (fa 2 y1) fun y15=>
 bind (ld1 y15) fun y16=>
 bind (fa 2 y2) fun y17=>
 bind (ld1 y17) fun y18=>
 bind (bop .str .neq y16 y18) fun y19=>
 ret [y15,y16,y17,y18,y19])) (c5 fun _ _ _ _ q20_4=>
 bind (pick y14 (Value.bool true) q20_4) fun y21=>
 bind (Zx y21 false 5 (bind (fa 3 y1) fun y22=>
 bind (ld1 y22) fun y23=>
 bind (fa 3 y2) fun y24=>
 bind (ld1 y24) fun y25=>
 bind (bop .bool .neq y23 y25) fun y26=>
 ret [y22,y23,y24,y25,y26])) (c5 fun _ _ _ _ q27_4=>
 bind (pick y21 (Value.bool true) q27_4) fun y28=>
 bind (Zx y28 false 7 (bind (fa 4 y1) fun y29=>
 bind (ld1 y29) fun y30=>
 bind (Zk y30) fun y31=>
 bind (fa 4 y2) fun y32=>
 bind (ld1 y32) fun y33=>
 bind (Zk y33) fun y34=>
 bind (bop .int .neq y31 y34) fun y35=>
 ret [y29,y30,y31,y32,y33,y34,y35])) (c7 fun _ _ _ _ _ _ q36_6=>
 bind (pick y28 (Value.bool true) q36_6) fun y37=>
 cnd y37
 (ret (Value.bool false))
 (bind (fa 4 y1) fun y38=>
 bind (ld1 y38) fun y39=>
 bind (Zk y39) fun y40=>
 jn (Zf (c4 (Zhx.l1 Γ)) [y1,y2,y40,(Value.int .i64 0)]) noN (xk 0 (c0 (ret (Value.bool true))) noX) ret)))))
noncomputable def Wv (Γ : Zc) (x0 x1 : Value) : M Value:=
 bind (alc 1 x1) fun y1=>
 bind (bop .int .neq x0 (Value.int .i64 1)) fun y2=>
 bind (Zx y2 true 2 (bind (bop .int .neq x0 (Value.int .i64 2)) fun y3=>
 ret [x0,y3])) (c2 fun _ q4_1=>
 bind (pick y2 q4_1 (Value.bool false)) fun y5=>
 cnd y5
 (ret (Value.int .i64 6))
 (bind (fa 0 y1) fun y6=>
 bind (ld1 y6) fun y7=>
 bind (fa 1 y1) fun y8=>
 bind (ld1 y8) fun y9=>
 bind (Γ QM [y7]) fun y10=>
 bind (ld1 y8) fun u_11=>same u_11 y9 <|
 bind (Γ Za5 [y9]) fun y12=>
 bind (bsl 1 2 (.int .i64 0) [(0,1,y10),(1,1,y12)]) fun y13=>
 bind (Γ KL [y13]) fun y14=>
 bind (bop .int .neq y14 (Value.int .i64 0)) fun y15=>
 cnd y15
 (ret y14)
 (bind (bop .int .eql x0 (Value.int .i64 2)) fun y16=>
 cnd y16
 (bind (fa 2 y1) fun y17=>
 bind (ld1 y17) fun y18=>
 bind (fa 4 y1) fun y19=>
 bind (ld1 y19) fun y20=>
 bind (Γ Zbc [y18]) fun y21=>
 bind (ld1 y19) fun u_22=>same u_22 y20 <|
 bind (Γ WU [y20]) fun y23=>
 bind (bsl 1 2 (.int .i64 0) [(0,1,y21),(1,1,y23)]) fun y24=>
 bind (Γ KL [y24]) fun y25=>
 ret y25)
 (bind (fa 2 y1) fun y26=>
 bind (ld1 y26) fun y27=>
 bind (bop .str .neq y27 (Value.string ⟨#[]⟩)) fun y28=>
 bind (Zx y28 false 2 (bind (fa 3 y1) fun y29=>
 bind (ld1 y29) fun y30=>
 ret [y29,y30])) (c2 fun _ q31_1=>
 bind (pick y28 (Value.bool true) q31_1) fun y32=>
 bind (Zx y32 false 4 (bind (fa 4 y1) fun y33=>
 bind (ld1 y33) fun y34=>
 bind (Zk y34) fun y35=>
 bind (bop .int .gtr y35 (Value.int .i64 0)) fun y36=>
 ret [y33,y34,y35,y36])) (c4 fun _ _ _ q37_3=>
 bind (pick y32 (Value.bool true) q37_3) fun y38=>
 cnd y38
 (ret (Value.int .i64 12))
 (ret (Value.int .i64 0))))))))
theorem Zms (Γ : Zc) (x0 x1 : Value) : ZE Tryz.prog Γ Tryz.f113 Zgd [x0,x1]=Wv Γ x0 x1:=by kernel_rfl
theorem ZlC {prim : FuncId→Option (List Value→M Value)} (hp : prim KM=none) (n : Nat) (x0 x1 : Value) : run Tryz.prog prim lvs (n+1) KM [x0,x1]=Wv (run Tryz.prog prim lvs n) x0 x1:=
 (Zo hp (by kernel_rfl) Tryz.func113 (by kernel_rfl)).trans (Zms _ x0 x1)
noncomputable def YA.l1 (Γ : Zc) (s0 s1 s5 : Value) : M Out:=
 bind (Zk s0) fun y1=>
 bind (bop .int .lss s5 y1) fun y2=>
 cnd y2
 (bind (bop .int .sub s5 (Value.int .i64 1)) fun y3=>
 bind (ixa 1 s0 y3) fun y4=>
 bind (ld1 y4) fun y5=>
 bind (ixa 1 s0 s5) fun y6=>
 bind (ld1 y6) fun y7=>
 bind (Γ QC [y5,y7]) fun y8=>
 bind (bop .int .geq y8 (Value.int .i64 0)) fun y9=>
 cnd y9
 (ret (.ret (Value.int .i64 9)))
 (bind (bop .int .add s5 (Value.int .i64 1)) fun y10=>
 ret (.nrm [s0,s1,y10])))
 (ret (.ext 0 [s0,s1]))
noncomputable def YA (Γ : Zc) (x0 x1 : Value) : M Value:=
 jn (Zf (c3 (YA.l1 Γ)) [x0,x1,(Value.int .i64 1)]) noN (xk 0 (c2 fun q12_0 q12_1=>
 bind (Zk q12_0) fun y13=>
 bind (bop .int .gtr y13 q12_1) fun y14=>
 cnd y14
 (ret (Value.int .i64 7))
 (ret (Value.int .i64 0))) noX) ret
theorem Zmv (Γ : Zc) (x0 x1 : Value) : ZE Tryz.prog Γ Tryz.f114 Zge [x0,x1]=YA Γ x0 x1:=by kernel_rfl
theorem ZlQ {prim : FuncId→Option (List Value→M Value)} (hp : prim Yc=none) (n : Nat) (x0 x1 : Value) : run Tryz.prog prim lvs (n+1) Yc [x0,x1]=YA (run Tryz.prog prim lvs n) x0 x1:=
 (Zo hp (by kernel_rfl) Tryz.func114 (by kernel_rfl)).trans (Zmv _ x0 x1)
noncomputable def Zeg (Γ : Zc) (x0 : Value) : M Value:=
 bind (Γ Kj [x0]) fun y1=>
 bind (uop .not y1) fun y2=>
 cnd y2
 (ret (Value.int .i64 10))
 (ret (Value.int .i64 0))
theorem Zn8 (Γ : Zc) (x0 : Value) : ZE Tryz.prog Γ Tryz.f115 ZhH [x0]=Zeg Γ x0:=by kernel_rfl
theorem Zmi {prim : FuncId→Option (List Value→M Value)} (hp : prim QM=none) (n : Nat) (x0 : Value) : run Tryz.prog prim lvs (n+1) QM [x0]=Zeg (run Tryz.prog prim lvs n) x0:=
 (Zo hp (by kernel_rfl) Tryz.func115 (by kernel_rfl)).trans (Zn8 _ x0)
noncomputable def Zab (Γ : Zc) (x0 x1 x2 : Value) : M Value:=
 bind (bsl 1 1 (.string ⟨#[]⟩) [(0,1,x1)]) fun y1=>
 bind (app 1 16 y1 x2) fun y2=>
 bind (Γ K1 [y2]) fun y3=>
 bind (bop .int .neq y3 (Value.int .i64 0)) fun y4=>
 cnd y4
 (ret (Value.tuple #[(Value.map none),y3]))
 (bind (Ja x0) fun y5=>
 bind (fa 0 y5) fun y6=>
 bind (ld1 y6) fun y7=>
 bind (lkp .str (.map none) true y7 x1) fun y8=>
 bind (Zl y8 0) fun y9=>
 bind (Zl y8 1) fun y10=>
 bind (uop .not y10) fun y11=>
 cnd y11
 (ret (Value.tuple #[(Value.map none),(Value.int .i64 8)]))
 (ret (Value.tuple #[y9,(Value.int .i64 0)])))
theorem Zfx (Γ : Zc) (x0 x1 x2 : Value) : ZE Tryz.prog Γ Tryz.f116 Zb6 [x0,x1,x2]=Zab Γ x0 x1 x2:=by kernel_rfl
theorem Zfh {prim : FuncId→Option (List Value→M Value)} (hp : prim JC=none) (n : Nat) (x0 x1 x2 : Value) : run Tryz.prog prim lvs (n+1) JC [x0,x1,x2]=Zab (run Tryz.prog prim lvs n) x0 x1 x2:=
 (Zo hp (by kernel_rfl) Tryz.func116 (by kernel_rfl)).trans (Zfx _ x0 x1 x2)
noncomputable def KB (Γ : Zc) (x0 x1 : Value) : M Value:=
 bind (Ja x0) fun y1=>
 bind (fa 1 y1) fun y2=>
 bind (ld1 y2) fun y3=>
 bind (lkp .str (.string ⟨#[]⟩) true y3 x1) fun y4=>
 bind (Zl y4 0) fun y5=>
 bind (Zl y4 1) fun y6=>
 jn (cnd y6
 (bind (Ja x0) fun y7=>
 bind (fa 0 y7) fun y8=>
 bind (ld1 y8) fun y9=>
 bind (mde .str y9 y5) fun _=>
 bind (Ja x0) fun y10=>
 bind (fa 1 y10) fun y11=>
 bind (ld1 y11) fun y12=>
 bind (mde .str y12 x1) fun _=>
 ret (.nrm [y6]))
 (ret (.nrm [y6]))) (c1 fun q13_0=>
 ret q13_0) noX ret
theorem Zij (Γ : Zc) (x0 x1 : Value) : ZE Tryz.prog Γ Tryz.f117 ZcW [x0,x1]=KB Γ x0 x1:=by kernel_rfl
theorem Zhd {prim : FuncId→Option (List Value→M Value)} (hp : prim JK=none) (n : Nat) (x0 x1 : Value) : run Tryz.prog prim lvs (n+1) JK [x0,x1]=KB (run Tryz.prog prim lvs n) x0 x1:=
 (Zo hp (by kernel_rfl) Tryz.func117 (by kernel_rfl)).trans (Zij _ x0 x1)
noncomputable def JX.l1 (Γ : Zc) (s0 s35 s36 s37 : Value) : M Out:=
 bind (bop .int .lss s37 s36) fun y19=>
 cnd y19
 (bind (ixa 1 s35 s37) fun y20=>
 bind (ld1 y20) fun y21=>
 bind (bop .str .eql y21 (Value.string ⟨#[]⟩)) fun y22=>
 bind (Zx y22 false 3 (bind (Γ Yl [y21,(Value.func (.func 183) #[] #[])]) fun y23=>
 bind (uop .not y23) fun y24=>
 ret [y21,y23,y24])) (c3 fun _ _ q25_2=>
 bind (pick y22 (Value.bool true) q25_2) fun y26=>
 cnd y26
 (ret (.ret (Value.tuple #[(Value.string ⟨#[]⟩),(Value.int .i64 11)])))
 (bind (bop .int .add s37 (Value.int .i64 1)) fun y27=>
 ret (.nrm [s0,s35,s36,y27]))))
 (ret (.ext 0 [s0]))
noncomputable def JX (Γ : Zc) (x0 : Value) : M Value:=
 bind (QL x0) fun y1=>
 bind (bop .int .gtr y1 (Value.int .i64 20)) fun y2=>
 cnd y2
 (ret (Value.tuple #[(Value.string ⟨#[]⟩),(Value.int .i64 11)]))
 (bind (Γ Za8 [x0]) fun y3=>
 bind (Γ Kd [y3,(Value.string ⟨#[64]⟩)]) fun y4=>
 bind (Zl y4 0) fun y5=>
 bind (Zl y4 1) fun y6=>
 bind (Zl y4 2) fun y7=>
 bind (Γ Wa [y6,(Value.string ⟨#[46]⟩)]) fun y8=>
 bind (uop .not y7) fun y9=>
 bind (Zx y9 false 3 (bind (Γ Kj [y5]) fun y10=>
 bind (uop .not y10) fun y11=>
 ret [y5,y10,y11])) (c3 fun _ _ q12_2=>
 bind (pick y9 (Value.bool true) q12_2) fun y13=>
 bind (Zx y13 false 3 (bind (Zk y8) fun y14=>
 bind (bop .int .lss y14 (Value.int .i64 2)) fun y15=>
 ret [y8,y14,y15])) (c3 fun _ _ q16_2=>
 bind (pick y13 (Value.bool true) q16_2) fun y17=>
 cnd y17
 (ret (Value.tuple #[(Value.string ⟨#[]⟩),(Value.int .i64 11)]))
 (bind (Zk y8) fun y18=>
 jn (Zf (c4 (JX.l1 Γ)) [y3,y8,y18,(Value.int .i64 0)]) noN (xk 0 (c1 fun q29_0=>
 ret (Value.tuple #[q29_0,(Value.int .i64 0)])) noX) ret))))
theorem Znv (Γ : Zc) (x0 : Value) : ZE Tryz.prog Γ Tryz.f118 ZhJ [x0]=JX Γ x0:=by kernel_rfl
theorem Zmk {prim : FuncId→Option (List Value→M Value)} (hp : prim W0=none) (n : Nat) (x0 : Value) : run Tryz.prog prim lvs (n+1) W0 [x0]=JX (run Tryz.prog prim lvs n) x0:=
 (Zo hp (by kernel_rfl) Tryz.func118 (by kernel_rfl)).trans (Znv _ x0)
noncomputable def Jb.l1 (Γ : Zc) (s0 s1 s7 s8 : Value) : M Out:=
 bind (bop .int .lss s8 s7) fun y1=>
 cnd y1
 (bind (Ja s0) fun y2=>
 bind (fa 0 y2) fun y3=>
 bind (ld1 y3) fun y4=>
 bind (cvi .u8 s1) fun y5=>
 bind (bsl 1 1 (.int .u8 0) [(0,1,y5)]) fun y6=>
 bind (app 1 1 y4 y6) fun y7=>
 bind (Ja s0) fun y8=>
 bind (fa 0 y8) fun y9=>
 bind (st1 y9 y7) fun _=>
 bind (bop .int .shr s1 (Value.int .u64 8)) fun y10=>
 bind (bop .int .add s8 (Value.int .i64 1)) fun y11=>
 ret (.nrm [s0,y10,s7,y11]))
 (ret (.ext 0 [s0]))
noncomputable def Jb (Γ : Zc) (x0 x1 x2 : Value) : M Value:=
 jn (Zf (c4 (Jb.l1 Γ)) [x0,x1,x2,(Value.int .i64 0)]) noN (xk 0 (c1 fun q13_0=>
 ret q13_0) noX) ret
theorem Zhc (Γ : Zc) (x0 x1 x2 : Value) : ZE Tryz.prog Γ Tryz.f119 Zcr [x0,x1,x2]=Jb Γ x0 x1 x2:=by kernel_rfl
theorem ZfW {prim : FuncId→Option (List Value→M Value)} (hp : prim J0=none) (n : Nat) (x0 x1 x2 : Value) : run Tryz.prog prim lvs (n+1) J0 [x0,x1,x2]=Jb (run Tryz.prog prim lvs n) x0 x1 x2:=
 (Zo hp (by kernel_rfl) Tryz.func119 (by kernel_rfl)).trans (Zhc _ x0 x1 x2)
noncomputable def Zae (Γ : Zc) (x0 x1 : Value) : M Value:=
 bind (QL x1) fun y1=>
 bind (mxi false y1 (Value.int .i64 65535)) fun y2=>
 bind (sls x1 none (some y2)) fun y3=>
 bind (QL y3) fun y4=>
 bind (cvi .u16 y4) fun y5=>
 bind (Γ Q7 [x0,y5]) fun y6=>
 bind (Ja x0) fun y7=>
 bind (fa 0 y7) fun y8=>
 bind (ld1 y8) fun y9=>
 bind (app 1 1 y9 y3) fun y10=>
 bind (Ja x0) fun y11=>
 bind (fa 0 y11) fun y12=>
 bind (st1 y12 y10) fun _=>
 ret x0
theorem ZfR (Γ : Zc) (x0 x1 : Value) : ZE Tryz.prog Γ Tryz.f120 Zb1 [x0,x1]=Zae Γ x0 x1:=by kernel_rfl
theorem Zfr {prim : FuncId→Option (List Value→M Value)} (hp : prim Qw=none) (n : Nat) (x0 x1 : Value) : run Tryz.prog prim lvs (n+1) Qw [x0,x1]=Zae (run Tryz.prog prim lvs n) x0 x1:=
 (Zo hp (by kernel_rfl) Tryz.func120 (by kernel_rfl)).trans (ZfR _ x0 x1)
noncomputable def ZaA (Γ : Zc) (x0 : Value) : M Value:=
 bind (Ja x0) fun y1=>
 bind (fa 0 y1) fun y2=>
 bind (ld1 y2) fun y3=>
 bind (Γ YJ [y3]) fun y4=>
 ret y4
theorem Zg6 (Γ : Zc) (x0 : Value) : ZE Tryz.prog Γ Tryz.f121 Zcq [x0]=ZaA Γ x0:=by kernel_rfl
theorem ZfI {prim : FuncId→Option (List Value→M Value)} (hp : prim J2=none) (n : Nat) (x0 : Value) : run Tryz.prog prim lvs (n+1) J2 [x0]=ZaA (run Tryz.prog prim lvs n) x0:=
 (Zo hp (by kernel_rfl) Tryz.func121 (by kernel_rfl)).trans (Zg6 _ x0)
noncomputable def WJ (Γ : Zc) (x0 x1 : Value) : M Value:=
 cnd x1
 (bind (Γ Qv [x0,(Value.int .u8 1)]) fun y1=>
 ret y1)
 (bind (Γ Qv [x0,(Value.int .u8 0)]) fun y2=>
 ret y2)
theorem Zfm (Γ : Zc) (x0 x1 : Value) : ZE Tryz.prog Γ Tryz.f122 Zbu [x0,x1]=WJ Γ x0 x1:=by kernel_rfl
theorem Zey {prim : FuncId→Option (List Value→M Value)} (hp : prim YC=none) (n : Nat) (x0 x1 : Value) : run Tryz.prog prim lvs (n+1) YC [x0,x1]=WJ (run Tryz.prog prim lvs n) x0 x1:=
 (Zo hp (by kernel_rfl) Tryz.func122 (by kernel_rfl)).trans (Zfm _ x0 x1)
noncomputable def ZcR.l1 (Γ : Zc) (s5 s10 s11 s12 : Value) : M Out:=
 bind (bop .int .lss s12 s11) fun y3=>
 cnd y3
 (bind (ixa 1 s10 s12) fun y4=>
 bind (ld1 y4) fun y5=>
 bind (cvi .u64 y5) fun y6=>
 bind (bop .int .mul (Value.int .i64 8) s12) fun y7=>
 bind (bop .int .shl y6 y7) fun y8=>
 bind (bop .int .or s5 y8) fun y9=>
 bind (bop .int .add s12 (Value.int .i64 1)) fun y10=>
 ret (.nrm [y9,s10,s11,y10]))
 (ret (.ext 0 [s5]))
noncomputable def ZcR (Γ : Zc) (x0 x1 : Value) : M Value:=
 bind (Γ Zhe [x0,x1]) fun y1=>
 bind (Zk y1) fun y2=>
 jn (Zf (c4 (ZcR.l1 Γ)) [(Value.int .u64 0),y1,y2,(Value.int .i64 0)]) noN (xk 0 (c1 fun q12_0=>
 ret q12_0) noX) ret
noncomputable def Zgw.l1 (Γ : Zc) (s0 s3 s4 : Value) : M Out:=
 bind (bop .int .geq s4 (Value.int .i64 0)) fun y3=>
 cnd y3
 (bind (bop .int .mul s3 (Value.int .u64 256)) fun y4=>
 bind (ixs s0 s4) fun y5=>
 bind (cvi .u64 y5) fun y6=>
 bind (bop .int .add y4 y6) fun y7=>
 bind (bop .int .sub s4 (Value.int .i64 1)) fun y8=>
 ret (.nrm [s0,y7,y8]))
 (ret (.ext 0 [s3]))
noncomputable def Zgw (Γ : Zc) (x0 : Value) : M Value:=
 bind (QL x0) fun y1=>
 bind (bop .int .sub y1 (Value.int .i64 1)) fun y2=>
 jn (Zf (c3 (Zgw.l1 Γ)) [x0,(Value.int .u64 0),y2]) noN (xk 0 (c1 fun q10_0=>
 ret q10_0) noX) ret
noncomputable def Zba.l1 (Γ : Zc) (s3 s62 s63 s64 : Value) : M Out:=
 bind (bop .int .lss s64 s63) fun y50=>
 cnd y50
 (bind (ixa 1 s62 s64) fun y51=>
 bind (ld1 y51) fun y52=>
 bind (Γ Zao [y52]) fun y53=>
 bind (uop .not y53) fun y54=>
 cnd y54
 (ret (.ret (Value.int .i64 10)))
 (bind (bop .int .add s64 (Value.int .i64 1)) fun y55=>
 ret (.nrm [s3,s62,s63,y55])))
 (ret (.ext 0 [s3]))
noncomputable def Zba.l2 (Γ : Zc) (s3 s73 s74 s75 : Value) : M Out:=
 bind (bop .int .lss s75 s74) fun y61=>
 cnd y61
 (bind (ixa 1 s73 s75) fun y62=>
 bind (ld1 y62) fun y63=>
 bind (bop .int .gtr s75 (Value.int .i64 0)) fun y64=>
 bind (Zx y64 true 8 (bind (fa 4 s3) fun y65=>
 bind (ld1 y65) fun y66=>
 bind (bop .int .sub s75 (Value.int .i64 1)) fun y67=>
 bind (ixa 1 y66 y67) fun y68=>
 bind (ld1 y68) fun y69=>
 bind (bop .str .leq y63 y69) fun y70=>
 ret [y63,y65,y66,s75,y67,y68,y69,y70])) (c8 fun _ _ _ _ _ _ _ q71_7=>
 bind (pick y64 q71_7 (Value.bool false)) fun y72=>
 cnd y72
 (ret (.ret (Value.int .i64 9)))
 (bind (bop .int .add s75 (Value.int .i64 1)) fun y73=>
 ret (.nrm [s3,s73,s74,y73]))))
 (ret (.ext 2 []))
noncomputable def Zba (Γ : Zc) (x0 x1 : Value) : M Value:=
 bind (alc 1 x1) fun y1=>
 bind (bop .int .lss x0 (Value.int .i64 1)) fun y2=>
 bind (Zx y2 false 2 (bind (bop .int .gtr x0 (Value.int .i64 2)) fun y3=>
 ret [x0,y3])) (c2 fun _ q4_1=>
 bind (pick y2 (Value.bool true) q4_1) fun y5=>
 cnd y5
 (ret (Value.int .i64 6))
 (bind (fa 0 y1) fun y6=>
 bind (ld1 y6) fun y7=>
 bind (Γ Zao [y7]) fun y8=>
 bind (uop .not y8) fun y9=>
 cnd y9
 (ret (Value.int .i64 10))
 (bind (fa 1 y1) fun y10=>
 bind (ld1 y10) fun y11=>
 bind (Γ ZnZ [y11]) fun y12=>
 bind (uop .not y12) fun y13=>
 cnd y13
 (ret (Value.int .i64 4))
 (bind (bop .int .eql x0 (Value.int .i64 1)) fun y14=>
 cnd y14
 (bind (fa 2 y1) fun y15=>
 bind (ld1 y15) fun y16=>
 bind (bop .str .neq y16 (Value.string ⟨#[]⟩)) fun y17=>
 bind (Zx y17 false 2 (bind (fa 3 y1) fun y18=>
 bind (ld1 y18) fun y19=>
 ret [y18,y19])) (c2 fun _ q20_1=>
 bind (pick y17 (Value.bool true) q20_1) fun y21=>
 bind (Zx y21 false 4 (bind (fa 4 y1) fun y22=>
 bind (ld1 y22) fun y23=>
 bind (Zk y23) fun y24=>
 bind (bop .int .gtr y24 (Value.int .i64 0)) fun y25=>
 ret [y22,y23,y24,y25])) (c4 fun _ _ _ q26_3=>
 bind (pick y21 (Value.bool true) q26_3) fun y27=>
 cnd y27
 (ret (Value.int .i64 12))
 (ret (Value.int .i64 0)))))
 (bind (fa 2 y1) fun y28=>
 bind (ld1 y28) fun y29=>
 bind (bop .str .neq y29 (Value.string ⟨#[]⟩)) fun y30=>
 jn (cnd y30
 (bind (fa 2 y1) fun y31=>
 bind (ld1 y31) fun y32=>
 bind (Γ ZhT [y32]) fun y33=>
 bind (Zl y33 0) fun y34=>
 bind (Zl y33 1) fun y35=>
 bind (uop .not y35) fun y36=>
 bind (Zx y36 false 4 (bind (fa 2 y1) fun y37=>
 bind (ld1 y37) fun y38=>
 bind (bop .str .neq y34 y38) fun y39=>
 ret [y34,y37,y38,y39])) (c4 fun _ _ _ q40_3=>
 bind (pick y36 (Value.bool true) q40_3) fun y41=>
 cnd y41
 (ret (.ret (Value.int .i64 11)))
 (ret (.nrm [y1]))))
 (ret (.nrm [y1]))) (c1 fun q42_0=>
 bind (fa 4 q42_0) fun y43=>
 bind (ld1 y43) fun y44=>
 bind (Zk y44) fun y45=>
 bind (bop .int .gtr y45 (Value.int .i64 6)) fun y46=>
 cnd y46
 (ret (Value.int .i64 7))
 (bind (fa 4 q42_0) fun y47=>
 bind (ld1 y47) fun y48=>
 bind (Zk y48) fun y49=>
 jn (Zf (c4 (Zba.l1 Γ)) [q42_0,y48,y49,(Value.int .i64 0)]) noN (xk 0 (c1 fun q57_0=>
 bind (fa 4 q57_0) fun y58=>
 bind (ld1 y58) fun y59=>
 bind (Zk y59) fun y60=>
 jn (Zf (c4 (Zba.l2 Γ)) [q57_0,y59,y60,(Value.int .i64 0)]) noN (xk 2 (c0 (ret (Value.int .i64 0))) noX) ret) noX) ret)) noX ret)))))
noncomputable def Zds.l1 (Γ : Zc) (s0 s1 s10 s11 s12 : Value) : M Out:=
 bind (bop .int .lss s12 s11) fun y2=>
 cnd y2
 (bind (ixa 5 s10 s12) fun y3=>
 bind (ldA 5 y3) fun y4=>
 bind (alc 1 (.agg #[.string ⟨#[]⟩,.string ⟨#[]⟩,.string ⟨#[]⟩,.bool false,.slice none 0 0])) fun y5=>
 bind (stA 5 y5 y4) fun _=>
 bind (ldA 5 y5) fun y6=>
 bind (Γ Zm0 [s1,y6]) fun y7=>
 bind (bop .int .neq y7 (Value.int .i64 0)) fun y8=>
 cnd y8
 (ret (.ret y7))
 (bind (bop .int .add s12 (Value.int .i64 1)) fun y9=>
 ret (.nrm [s0,s1,s10,s11,y9])))
 (ret (.ext 0 [s0]))
noncomputable def Zds.l2 (Γ : Zc) (s0 s23 s24 s25 : Value) : M Out:=
 bind (bop .int .lss s25 s24) fun y13=>
 cnd y13
 (bind (ixa 5 s23 s25) fun y14=>
 bind (ldA 5 y14) fun y15=>
 bind (alc 1 (.agg #[.string ⟨#[]⟩,.string ⟨#[]⟩,.string ⟨#[]⟩,.bool false,.slice none 0 0])) fun y16=>
 bind (stA 5 y16 y15) fun _=>
 bind (bop .int .gtr s25 (Value.int .i64 0)) fun y17=>
 bind (Ze y17 true (ret s0)) fun y18=>
 bind (Ze y17 true (ret s25)) fun y19=>
 bind (Ze y17 true (bop .int .sub y19 (Value.int .i64 1))) fun y20=>
 bind (Ze y17 true (ixa 5 y18 y20)) fun y21=>
 bind (Ze y17 true (fa 0 y21)) fun y22=>
 bind (Ze y17 true (ld1 y22)) fun y23=>
 bind (Ze y17 true (fa 0 y16)) fun y24=>
 bind (Ze y17 true (ld1 y24)) fun y25=>
 bind (Ze y17 true (bop .str .geq y23 y25)) fun y26=>
 bind (pick y17 y26 (Value.bool false)) fun y27=>
 cnd y27
 (ret (.ret (Value.int .i64 9)))
 (bind (bop .int .add s25 (Value.int .i64 1)) fun y28=>
 ret (.nrm [s0,s23,s24,y28])))
 (ret (.ext 2 [s0]))
noncomputable def Zds (Γ : Zc) (x0 x1 : Value) : M Value:=
 bind (Zk x0) fun y1=>
 jn (Zf (c5 (Zds.l1 Γ)) [x0,x1,x0,y1,(Value.int .i64 0)]) noN (xk 0 (c1 fun q11_0=>
 bind (Zk q11_0) fun y12=>
 jn (Zf (c4 (Zds.l2 Γ)) [q11_0,q11_0,y12,(Value.int .i64 0)]) noN (xk 2 (c1 fun q30_0=>
 bind (Zk q30_0) fun y31=>
 bind (bop .int .gtr y31 (Value.int .i64 12)) fun y32=>
 cnd y32
 (ret (Value.int .i64 7))
 (ret (Value.int .i64 0))) noX) ret) noX) ret
noncomputable def Zjt.l1 (Γ : Zc) (s1 s7 s8 s9 : Value) : M Out:=
 bind (bop .int .lss s9 s8) fun y2=>
 cnd y2
 (bind (ixa 1 s7 s9) fun y3=>
 bind (ld1 y3) fun y4=>
 bind (bop .str .eql y4 s1) fun y5=>
 cnd y5
 (ret (.ret (Value.bool true)))
 (bind (bop .int .add s9 (Value.int .i64 1)) fun y6=>
 ret (.nrm [s1,s7,s8,y6])))
 (ret (.ext 0 []))
noncomputable def Zjt (Γ : Zc) (x0 x1 : Value) : M Value:=
 bind (Zk x0) fun y1=>
 jn (Zf (c4 (Zjt.l1 Γ)) [x1,x0,y1,(Value.int .i64 0)]) noN (xk 0 (c0 (ret (Value.bool false))) noX) ret
noncomputable def ZeF (Γ : Zc) (x0 : Value) : M Value:=
 bind (bop .str .eql x0 (Value.string ⟨#[]⟩)) fun y1=>
 bind (Zx y1 false 3 (bind (QL x0) fun y2=>
 bind (bop .int .gtr y2 (Value.int .i64 12)) fun y3=>
 ret [x0,y2,y3])) (c3 fun _ _ q4_2=>
 bind (pick y1 (Value.bool true) q4_2) fun y5=>
 bind (Zx y5 false 4 (bind (Γ Yl [x0,(Value.func (.func 191) #[] #[])]) fun y6=>
 bind (uop .not y6) fun y7=>
 ret [x0,(Value.func (.func 191) #[] #[]),y6,y7])) (c4 fun _ _ _ q8_3=>
 bind (pick y5 (Value.bool true) q8_3) fun y9=>
 cnd y9
 (ret (Value.int .i64 4))
 (ret (Value.int .i64 0))))
theorem ZnI (Γ : Zc) (x0 : Value) : ZE Tryz.prog Γ Tryz.f137 ZhV [x0]=ZeF Γ x0:=by kernel_rfl
theorem Znj {prim : FuncId→Option (List Value→M Value)} (hp : prim Za5=none) (n : Nat) (x0 : Value) : run Tryz.prog prim lvs (n+1) Za5 [x0]=ZeF (run Tryz.prog prim lvs n) x0:=
 (Zo hp (by kernel_rfl) Tryz.func137 (by kernel_rfl)).trans (ZnI _ x0)
noncomputable def Zbw.l1 (Γ : Zc) (s0 s1 s5 s11 s12 s13 : Value) : M Out:=
 bind (bop .int .lss s13 s12) fun y3=>
 cnd y3
 (bind (ixa 1 s11 s13) fun y4=>
 bind (ld1 y4) fun y5=>
 bind (Ja s0) fun y6=>
 bind (fa 0 y6) fun y7=>
 bind (ld1 y7) fun y8=>
 bind (lkp .str (.map none) false y8 y5) fun y9=>
 bind (mde .str y9 s1) fun _=>
 bind (bop .int .add s13 (Value.int .i64 1)) fun y10=>
 ret (.nrm [s0,s1,s5,s11,s12,y10]))
 (ret (.ext 0 [s5]))
noncomputable def Zbw (Γ : Zc) (x0 x1 : Value) : M Value:=
 bind (Γ JJ [x0,x1]) fun y1=>
 bind (Zk y1) fun y2=>
 jn (Zf (c6 (Zbw.l1 Γ)) [x0,x1,y1,y1,y2,(Value.int .i64 0)]) noN (xk 0 (c1 fun q12_0=>
 bind (Zk q12_0) fun y13=>
 ret y13) noX) ret
noncomputable def ZbO.l1 (Γ : Zc) (s0 s4 : Value) : M Out:=
 bind (QL s0) fun y4=>
 bind (bop .int .lss s4 y4) fun y5=>
 bind (Zx y5 true 4 (bind (ixs s0 s4) fun y6=>
 bind (bop .int .neq y6 (Value.int .u8 64)) fun y7=>
 ret [s0,s4,y6,y7])) (c4 fun _ _ _ q8_3=>
 bind (pick y5 q8_3 (Value.bool false)) fun y9=>
 cnd y9
 (bind (bop .int .add s4 (Value.int .i64 1)) fun y10=>
 ret (.nrm [s0,y10]))
 (ret (.ext 0 [s0,s4])))
noncomputable def ZbO.l2 (Γ : Zc) (s0 s5 s6 s7 : Value) : M Out:=
 bind (QL s0) fun y21=>
 bind (bop .int .lss s7 y21) fun y22=>
 cnd y22
 (bind (ixs s0 s7) fun y23=>
 bind (bop .int .eql y23 (Value.int .u8 46)) fun y24=>
 jn (cnd y24
 (bind (bop .int .eql s6 (Value.int .i64 0)) fun y25=>
 cnd y25
 (ret (.ret (Value.tuple #[(Value.string ⟨#[]⟩),(Value.bool false)])))
 (bind (bop .int .add s5 (Value.int .i64 1)) fun y26=>
 ret (.nrm [s0,y26,(Value.int .i64 0),s7])))
 (bind (ixs s0 s7) fun y27=>
 bind (Γ Zln [y27,(Value.string ⟨#[97,98,99,100,101,102,103,104,105,106,107,108,109,110,111,112,113,114,115,116,117,118,119,120,121,122,48,49,50,51,52,53,54,55,56,57]⟩)]) fun y28=>
 bind (uop .not y28) fun y29=>
 cnd y29
 (ret (.ret (Value.tuple #[(Value.string ⟨#[]⟩),(Value.bool false)])))
 (bind (bop .int .add s6 (Value.int .i64 1)) fun y30=>
 ret (.nrm [s0,s5,y30,s7])))) (c4 fun q31_0 q31_1 q31_2 q31_3=>
 bind (bop .int .add q31_3 (Value.int .i64 1)) fun y32=>
 ret (.nrm [q31_0,q31_1,q31_2,y32])) noX ZN)
 (ret (.ext 2 [s0,s5,s6]))
noncomputable def ZbO (Γ : Zc) (x0 : Value) : M Value:=
 bind (QL x0) fun y1=>
 bind (bop .int .gtr y1 (Value.int .i64 20)) fun y2=>
 cnd y2
 (ret (Value.tuple #[(Value.string ⟨#[]⟩),(Value.bool false)]))
 (bind (Γ Zn0 [x0]) fun y3=>
 jn (Zf (c2 (ZbO.l1 Γ)) [y3,(Value.int .i64 0)]) noN (xk 0 (c2 fun q12_0 q12_1=>
 bind (QL q12_0) fun y13=>
 bind (bop .int .eql q12_1 y13) fun y14=>
 bind (Zx y14 false 5 (bind (sls q12_0 none (some q12_1)) fun y15=>
 bind (Γ Zao [y15]) fun y16=>
 bind (uop .not y16) fun y17=>
 ret [q12_0,q12_1,y15,y16,y17])) (c5 fun _ _ _ _ q18_4=>
 bind (pick y14 (Value.bool true) q18_4) fun y19=>
 cnd y19
 (ret (Value.tuple #[(Value.string ⟨#[]⟩),(Value.bool false)]))
 (bind (bop .int .add q12_1 (Value.int .i64 1)) fun y20=>
 jn (Zf (c4 (ZbO.l2 Γ)) [q12_0,(Value.int .i64 0),(Value.int .i64 0),y20]) noN (xk 2 (c3 fun q35_0 q35_1 q35_2=>
 bind (bop .int .eql q35_1 (Value.int .i64 0)) fun y36=>
 bind (Zx y36 false 2 (bind (bop .int .eql q35_2 (Value.int .i64 0)) fun y37=>
 ret [q35_2,y37])) (c2 fun _ q38_1=>
 bind (pick y36 (Value.bool true) q38_1) fun y39=>
 cnd y39
 (ret (Value.tuple #[(Value.string ⟨#[]⟩),(Value.bool false)]))
 (ret (Value.tuple #[q35_0,(Value.bool true)])))) noX) ret))) noX) ret)
noncomputable def ZiO.l1 (Γ : Zc) (s3 s5 s6 s9 s10 s11 : Value) : M Out:=
 bind (bop .int .lss s11 s10) fun y3=>
 cnd y3
 (bind (ixa 5 s9 s11) fun y4=>
 bind (ldA 5 y4) fun y5=>
 bind (alc 1 (.agg #[.string ⟨#[]⟩,.string ⟨#[]⟩,.string ⟨#[]⟩,.bool false,.slice none 0 0])) fun y6=>
 bind (stA 5 y6 y5) fun _=>
 bind (uop .not s6) fun y7=>
 bind (Zx y7 true 5 (bind (fa 0 s3) fun y8=>
 bind (ld1 y8) fun y9=>
 bind (fa 0 y6) fun y10=>
 bind (ld1 y10) fun y11=>
 bind (bop .str .leq y9 y11) fun y12=>
 ret [y8,y9,y10,y11,y12])) (c5 fun _ _ _ _ q13_4=>
 bind (pick y7 q13_4 (Value.bool false)) fun y14=>
 jn (cnd y14
 (bind (ldA 5 s3) fun y15=>
 bind (bsl 5 1 (.agg #[.string ⟨#[]⟩,.string ⟨#[]⟩,.string ⟨#[]⟩,.bool false,.slice none 0 0]) [(0,5,y15)]) fun y16=>
 bind (app 5 80 s5 y16) fun y17=>
 ret (.nrm [s3,y17,(Value.bool true),y6,s9,s10,s11]))
 (ret (.nrm [s3,s5,s6,y6,s9,s10,s11]))) (c7 fun q18_0 q18_1 q18_2 q18_3 q18_4 q18_5 q18_6=>
 bind (fa 0 q18_3) fun y19=>
 bind (ld1 y19) fun y20=>
 bind (fa 0 q18_0) fun y21=>
 bind (ld1 y21) fun y22=>
 bind (bop .str .neq y20 y22) fun y23=>
 jn (cnd y23
 (bind (ldA 5 q18_3) fun y24=>
 bind (bsl 5 1 (.agg #[.string ⟨#[]⟩,.string ⟨#[]⟩,.string ⟨#[]⟩,.bool false,.slice none 0 0]) [(0,5,y24)]) fun y25=>
 bind (app 5 80 q18_1 y25) fun y26=>
 ret (.nrm [q18_0,y26,q18_2,q18_4,q18_5,q18_6]))
 (ret (.nrm [q18_0,q18_1,q18_2,q18_4,q18_5,q18_6]))) (c6 fun q27_0 q27_1 q27_2 q27_3 q27_4 q27_5=>
 bind (bop .int .add q27_5 (Value.int .i64 1)) fun y28=>
 ret (.nrm [q27_0,q27_1,q27_2,q27_3,q27_4,y28])) noX ZN) noX ZN))
 (ret (.ext 0 [s3,s5,s6]))
noncomputable def ZiO (Γ : Zc) (x0 x1 : Value) : M Value:=
 bind (alc 1 x1) fun y1=>
 bind (Zk x0) fun y2=>
 jn (Zf (c6 (ZiO.l1 Γ)) [y1,(Value.slice none 0 0),(Value.bool false),x0,y2,(Value.int .i64 0)]) noN (xk 0 (c3 fun q32_0 q32_1 q32_2=>
 bind (uop .not q32_2) fun y33=>
 jn (cnd y33
 (bind (ldA 5 q32_0) fun y34=>
 bind (bsl 5 1 (.agg #[.string ⟨#[]⟩,.string ⟨#[]⟩,.string ⟨#[]⟩,.bool false,.slice none 0 0]) [(0,5,y34)]) fun y35=>
 bind (app 5 80 q32_1 y35) fun y36=>
 ret (.nrm [y36]))
 (ret (.nrm [q32_1]))) (c1 fun q37_0=>
 ret q37_0) noX ret) noX) ret
noncomputable def ZhE.l1 (Γ : Zc) (s1 s5 s8 s9 s10 : Value) : M Out:=
 bind (bop .int .lss s10 s9) fun y2=>
 cnd y2
 (bind (ixa 5 s8 s10) fun y3=>
 bind (ldA 5 y3) fun y4=>
 bind (alc 1 (.agg #[.string ⟨#[]⟩,.string ⟨#[]⟩,.string ⟨#[]⟩,.bool false,.slice none 0 0])) fun y5=>
 bind (stA 5 y5 y4) fun _=>
 bind (fa 0 y5) fun y6=>
 bind (ld1 y6) fun y7=>
 bind (bop .str .neq y7 s1) fun y8=>
 jn (cnd y8
 (bind (ldA 5 y5) fun y9=>
 bind (bsl 5 1 (.agg #[.string ⟨#[]⟩,.string ⟨#[]⟩,.string ⟨#[]⟩,.bool false,.slice none 0 0]) [(0,5,y9)]) fun y10=>
 bind (app 5 80 s5 y10) fun y11=>
 ret (.nrm [s1,y11,s8,s9,s10]))
 (ret (.nrm [s1,s5,s8,s9,s10]))) (c5 fun q12_0 q12_1 q12_2 q12_3 q12_4=>
 bind (bop .int .add q12_4 (Value.int .i64 1)) fun y13=>
 ret (.nrm [q12_0,q12_1,q12_2,q12_3,y13])) noX ZN)
 (ret (.ext 0 [s5]))
noncomputable def ZhE (Γ : Zc) (x0 x1 : Value) : M Value:=
 bind (Zk x0) fun y1=>
 jn (Zf (c5 (ZhE.l1 Γ)) [x1,(Value.slice none 0 0),x0,y1,(Value.int .i64 0)]) noN (xk 0 (c1 fun q16_0=>
 ret q16_0) noX) ret
noncomputable def Zbx.l1 (Γ : Zc) (s0 s1 s2 s26 s27 s28 : Value) : M Out:=
 bind (bop .int .lss s28 s27) fun y10=>
 cnd y10
 (bind (ixa 1 s26 s28) fun y11=>
 bind (ld1 y11) fun y12=>
 bind (Ja s0) fun y13=>
 bind (fa 0 y13) fun y14=>
 bind (ld1 y14) fun y15=>
 bind (lkp .str (.map none) false y15 y12) fun y16=>
 bind (mde .str y16 s1) fun _=>
 bind (Ja s0) fun y17=>
 bind (fa 0 y17) fun y18=>
 bind (ld1 y18) fun y19=>
 bind (lkp .str (.map none) false y19 y12) fun y20=>
 bind (bld (.agg #[]) []) fun y21=>
 bind (mup .str y20 s2 y21) fun _=>
 bind (bop .int .add s28 (Value.int .i64 1)) fun y22=>
 ret (.nrm [s0,s1,s2,s26,s27,y22]))
 (ret (.ext 0 []))
noncomputable def Zbx (Γ : Zc) (x0 x1 x2 : Value) : M Value:=
 bind (bsl 1 1 (.string ⟨#[]⟩) [(0,1,x2)]) fun y1=>
 bind (Γ K1 [y1]) fun y2=>
 bind (bop .int .neq y2 (Value.int .i64 0)) fun y3=>
 cnd y3
 (ret y2)
 (bind (bop .str .eql x1 x2) fun y4=>
 cnd y4
 (ret (Value.int .i64 0))
 (bind (Γ JJ [x0,x2]) fun y5=>
 bind (Zk y5) fun y6=>
 bind (bop .int .gtr y6 (Value.int .i64 0)) fun y7=>
 cnd y7
 (ret (Value.int .i64 9))
 (bind (Γ JJ [x0,x1]) fun y8=>
 bind (Zk y8) fun y9=>
 jn (Zf (c6 (Zbx.l1 Γ)) [x0,x1,x2,y8,y9,(Value.int .i64 0)]) noN (xk 0 (c0 (ret (Value.int .i64 0))) noX) ret)))
noncomputable def ZbP.l1 (Γ : Zc) (s1 s2 s4 s6 s23 s24 s25 : Value) : M Out:=
 bind (bop .int .lss s25 s24) fun y16=>
 cnd y16
 (bind (ixa 1 s23 s25) fun y17=>
 bind (ld1 y17) fun y18=>
 bind (bop .str .neq y18 s1) fun y19=>
 jn (cnd y19
 (bind (bsl 1 1 (.string ⟨#[]⟩) [(0,1,y18)]) fun y20=>
 bind (app 1 16 s6 y20) fun y21=>
 ret (.nrm [s1,s2,s4,y21,s23,s24,s25]))
 (ret (.nrm [s1,s2,s4,s6,s23,s24,s25]))) (c7 fun q22_0 q22_1 q22_2 q22_3 q22_4 q22_5 q22_6=>
 bind (bop .int .add q22_6 (Value.int .i64 1)) fun y23=>
 ret (.nrm [q22_0,q22_1,q22_2,q22_3,q22_4,q22_5,y23])) noX ZN)
 (ret (.ext 0 [s1,s2,s4,s6]))
noncomputable def ZbP.l2 (Γ : Zc) (s1 s4 s6 s9 s38 s39 s40 : Value) : M Out:=
 bind (bop .int .lss s40 s39) fun y30=>
 cnd y30
 (bind (ixa 2 s38 s40) fun y31=>
 bind (ldA 2 y31) fun y32=>
 bind (alc 1 (.agg #[.string ⟨#[]⟩,.string ⟨#[]⟩])) fun y33=>
 bind (stA 2 y33 y32) fun _=>
 bind (fa 0 y33) fun y34=>
 bind (ld1 y34) fun y35=>
 bind (bop .str .neq y35 s1) fun y36=>
 jn (cnd y36
 (bind (ldA 2 y33) fun y37=>
 bind (bsl 2 1 (.agg #[.string ⟨#[]⟩,.string ⟨#[]⟩]) [(0,2,y37)]) fun y38=>
 bind (app 2 32 s9 y38) fun y39=>
 ret (.nrm [s1,s4,s6,y39,s38,s39,s40]))
 (ret (.nrm [s1,s4,s6,s9,s38,s39,s40]))) (c7 fun q40_0 q40_1 q40_2 q40_3 q40_4 q40_5 q40_6=>
 bind (bop .int .add q40_6 (Value.int .i64 1)) fun y41=>
 ret (.nrm [q40_0,q40_1,q40_2,q40_3,q40_4,q40_5,y41])) noX ZN)
 (ret (.ext 2 [s4,s6,s9]))
noncomputable def ZbP (Γ : Zc) (x0 x1 : Value) : M Value:=
 bind (alc 1 x0) fun y1=>
 bind (alc 1 (.agg #[.slice none 0 0,.slice none 0 0])) fun y2=>
 bind (Γ Zao [x1]) fun y3=>
 bind (uop .not y3) fun y4=>
 cnd y4
 (bind (ldA 2 y1) fun y5=>
 bind (stA 2 y2 y5) fun _=>
 bind (ldA 2 y2) fun y6=>
 ret (Value.tuple #[y6,(Value.int .i64 10)]))
 (bind (fa 0 y1) fun y7=>
 bind (ld1 y7) fun y8=>
 bind (Γ Zjs [y8,x1]) fun y9=>
 bind (uop .not y9) fun y10=>
 cnd y10
 (bind (ldA 2 y1) fun y11=>
 bind (stA 2 y2 y11) fun _=>
 bind (ldA 2 y2) fun y12=>
 ret (Value.tuple #[y12,(Value.int .i64 8)]))
 (bind (fa 0 y1) fun y13=>
 bind (ld1 y13) fun y14=>
 bind (Zk y14) fun y15=>
 jn (Zf (c7 (ZbP.l1 Γ)) [x1,y1,y2,(Value.slice none 0 0),y14,y15,(Value.int .i64 0)]) noN (xk 0 (c4 fun q26_0 q26_1 q26_2 q26_3=>
 bind (fa 1 q26_1) fun y27=>
 bind (ld1 y27) fun y28=>
 bind (Zk y28) fun y29=>
 jn (Zf (c7 (ZbP.l2 Γ)) [q26_0,q26_2,q26_3,(Value.slice none 0 0),y28,y29,(Value.int .i64 0)]) noN (xk 2 (c3 fun q44_0 q44_1 q44_2=>
 bind (bld (.agg #[.slice none 0 0,.slice none 0 0]) [(0,1,q44_1),(1,1,q44_2)]) fun y45=>
 bind (stA 2 q44_0 y45) fun _=>
 bind (ldA 2 q44_0) fun y46=>
 ret (Value.tuple #[y46,(Value.int .i64 0)])) noX) ret) noX) ret))
noncomputable def Zd4.l1 (Γ : Zc) (s1 s5 s8 s9 s10 : Value) : M Out:=
 bind (bop .int .lss s10 s9) fun y2=>
 cnd y2
 (bind (ixa 1 s8 s10) fun y3=>
 bind (ld1 y3) fun y4=>
 bind (bop .str .neq y4 s1) fun y5=>
 jn (cnd y5
 (bind (bsl 1 1 (.string ⟨#[]⟩) [(0,1,y4)]) fun y6=>
 bind (app 1 16 s5 y6) fun y7=>
 ret (.nrm [s1,y7,s8,s9,s10]))
 (ret (.nrm [s1,s5,s8,s9,s10]))) (c5 fun q8_0 q8_1 q8_2 q8_3 q8_4=>
 bind (bop .int .add q8_4 (Value.int .i64 1)) fun y9=>
 ret (.nrm [q8_0,q8_1,q8_2,q8_3,y9])) noX ZN)
 (ret (.ext 0 [s5]))
noncomputable def Zd4 (Γ : Zc) (x0 x1 : Value) : M Value:=
 bind (Zk x0) fun y1=>
 jn (Zf (c5 (Zd4.l1 Γ)) [x1,(Value.slice none 0 0),x0,y1,(Value.int .i64 0)]) noN (xk 0 (c1 fun q12_0=>
 ret q12_0) noX) ret
noncomputable def Zau.l2 (Γ : Zc) (s5 s6 s7 s10 s11 s12 s19 s20 s21 : Value) : M Out:=
 bind (bop .int .lss s21 s20) fun y7=>
 cnd y7
 (bind (ixa 1 s19 s21) fun y8=>
 bind (ld1 y8) fun y9=>
 bind (uop .not s7) fun y10=>
 bind (Zx y10 true 3 (bind (bop .str .lss s5 y9) fun y11=>
 ret [s5,y9,y11])) (c3 fun _ _ q12_2=>
 bind (pick y10 q12_2 (Value.bool false)) fun y13=>
 jn (cnd y13
 (bind (bsl 1 1 (.string ⟨#[]⟩) [(0,1,s5)]) fun y14=>
 bind (app 1 16 s6 y14) fun y15=>
 ret (.nrm [s5,y15,(Value.bool true),y9,s10,s11,s12,s19,s20,s21]))
 (ret (.nrm [s5,s6,s7,y9,s10,s11,s12,s19,s20,s21]))) (c10 fun q16_0 q16_1 q16_2 q16_3 q16_4 q16_5 q16_6 q16_7 q16_8 q16_9=>
 bind (bsl 1 1 (.string ⟨#[]⟩) [(0,1,q16_3)]) fun y17=>
 bind (app 1 16 q16_1 y17) fun y18=>
 bind (bop .int .add q16_9 (Value.int .i64 1)) fun y19=>
 ret (.nrm [q16_0,y18,q16_2,q16_4,q16_5,q16_6,q16_7,q16_8,y19])) noX ZN))
 (ret (.ext 2 [s5,s6,s7,s10,s11,s12]))
noncomputable def Zau.l1 (Γ : Zc) (s3 s10 s11 s12 : Value) : M Out:=
 bind (bop .int .lss s12 s11) fun y2=>
 cnd y2
 (jn (bind (ixa 1 s10 s12) fun y3=>
 bind (ld1 y3) fun y4=>
 bind (Γ Zjs [s3,y4]) fun y5=>
 cnd y5
 (ret (.nrm [s3,s10,s11,s12]))
 (bind (Zk s3) fun y6=>
 jn (Zf (c9 (Zau.l2 Γ)) [y4,(Value.slice none 0 0),(Value.bool false),s10,s11,s12,s3,y6,(Value.int .i64 0)]) noN (xk 2 (c6 fun q22_0 q22_1 q22_2 q22_3 q22_4 q22_5=>
 bind (uop .not q22_2) fun y23=>
 jn (cnd y23
 (bind (bsl 1 1 (.string ⟨#[]⟩) [(0,1,q22_0)]) fun y24=>
 bind (app 1 16 q22_1 y24) fun y25=>
 ret (.nrm [y25,q22_3,q22_4,q22_5]))
 (ret (.nrm [q22_1,q22_3,q22_4,q22_5]))) (c4 fun q26_0 q26_1 q26_2 q26_3=>
 ret (.nrm [q26_0,q26_1,q26_2,q26_3])) noX ZN) noX) ZN)) (c4 fun q29_0 q29_1 q29_2 q29_3=>
 bind (bop .int .add q29_3 (Value.int .i64 1)) fun y30=>
 ret (.nrm [q29_0,q29_1,q29_2,y30])) noX ZN)
 (ret (.ext 0 [s3]))
noncomputable def Zau (Γ : Zc) (x0 : Value) : M Value:=
 bind (Zk x0) fun y1=>
 jn (Zf (c4 (Zau.l1 Γ)) [(Value.slice none 0 0),x0,y1,(Value.int .i64 0)]) noN (xk 0 (c1 fun q33_0=>
 ret q33_0) noX) ret
noncomputable def ZiP.l1 (Γ : Zc) (s0 s5 s6 s7 : Value) : M Out:=
 bind (bop .int .lss s7 s6) fun y1=>
 cnd y1
 (bind (bop .int .rem s0 (Value.int .u64 256)) fun y2=>
 bind (cvi .u8 y2) fun y3=>
 bind (bsl 1 1 (.int .u8 0) [(0,1,y3)]) fun y4=>
 bind (b2s y4) fun y5=>
 bind (bop .str .add s5 y5) fun y6=>
 bind (bop .int .quo s0 (Value.int .u64 256)) fun y7=>
 bind (bop .int .add s7 (Value.int .i64 1)) fun y8=>
 ret (.nrm [y7,y6,s6,y8]))
 (ret (.ext 0 [s5]))
noncomputable def ZiP (Γ : Zc) (x0 x1 : Value) : M Value:=
 jn (Zf (c4 (ZiP.l1 Γ)) [x0,(Value.string ⟨#[]⟩),x1,(Value.int .i64 0)]) noN (xk 0 (c1 fun q10_0=>
 ret q10_0) noX) ret
noncomputable def ZdA.l1 (Γ : Zc) (s1 s2 s4 s7 s24 s25 : Value) : M Out:=
 bind (bop .int .lss s25 s24) fun y16=>
 cnd y16
 (bind (ldA 2 s2) fun y17=>
 bind (Γ Zjx [y17,s1]) fun y18=>
 bind (Zl y18 0) fun y19=>
 bind (Zl y18 1) fun y20=>
 bind (alc 1 (.agg #[.string ⟨#[]⟩,.int .i64 0])) fun y21=>
 bind (alc 1 (.agg #[.string ⟨#[]⟩,.string ⟨#[]⟩,.string ⟨#[]⟩,.bool false,.slice none 0 0])) fun y22=>
 bind (stA 2 y21 y19) fun _=>
 bind (stA 5 y22 y20) fun _=>
 bind (ldA 2 y21) fun y23=>
 bind (stA 2 s2 y23) fun _=>
 bind (ldA 5 y22) fun y24=>
 bind (bsl 5 1 (.agg #[.string ⟨#[]⟩,.string ⟨#[]⟩,.string ⟨#[]⟩,.bool false,.slice none 0 0]) [(0,5,y24)]) fun y25=>
 bind (app 5 80 s7 y25) fun y26=>
 bind (bop .int .add s25 (Value.int .u64 1)) fun y27=>
 ret (.nrm [s1,s2,s4,y26,s24,y27]))
 (ret (.ext 0 [s1,s2,s4,s7]))
noncomputable def ZdA (Γ : Zc) (x0 x1 : Value) : M Value:=
 bind (alc 1 x0) fun y1=>
 bind (alc 1 (.agg #[.string ⟨#[]⟩,.int .i64 0])) fun y2=>
 bind (ldA 2 y1) fun y3=>
 bind (Γ Zeu [y3,(Value.int .i64 2)]) fun y4=>
 bind (Zl y4 0) fun y5=>
 bind (Zl y4 1) fun y6=>
 bind (stA 2 y1 y5) fun _=>
 bind (fa 1 y1) fun y7=>
 bind (ld1 y7) fun y8=>
 bind (bop .int .eql y8 (Value.int .i64 0)) fun y9=>
 bind (Zx y9 true 2 (bind (bop .int .gtr y6 (Value.int .u64 12)) fun y10=>
 ret [y6,y10])) (c2 fun _ q11_1=>
 bind (pick y9 q11_1 (Value.bool false)) fun y12=>
 cnd y12
 (bind (ldA 2 y1) fun y13=>
 bind (Γ ZhL [y13,(Value.int .i64 7)]) fun y14=>
 bind (stA 2 y2 y14) fun _=>
 bind (ldA 2 y2) fun y15=>
 ret (Value.tuple #[y15,(Value.slice none 0 0)]))
 (jn (Zf (c6 (ZdA.l1 Γ)) [x1,y1,y2,(Value.slice none 0 0),y6,(Value.int .u64 0)]) noN (xk 0 (c4 fun q29_0 q29_1 q29_2 q29_3=>
 bind (fa 1 q29_1) fun y30=>
 bind (ld1 y30) fun y31=>
 bind (bop .int .eql y31 (Value.int .i64 0)) fun y32=>
 jn (cnd y32
 (bind (ldA 2 q29_1) fun y33=>
 bind (Γ Zlf [q29_3,q29_0]) fun y34=>
 bind (ldA 2 q29_1) fun u_35=>same u_35 y33 <|
 bind (Γ ZhL [y33,y34]) fun y36=>
 bind (stA 2 q29_1 y36) fun _=>
 ret (.nrm [q29_1,q29_2,q29_3]))
 (ret (.nrm [q29_1,q29_2,q29_3]))) (c3 fun q37_0 q37_1 q37_2=>
 bind (fa 1 q37_0) fun y38=>
 bind (ld1 y38) fun y39=>
 bind (bop .int .neq y39 (Value.int .i64 0)) fun y40=>
 cnd y40
 (bind (ldA 2 q37_0) fun y41=>
 bind (stA 2 q37_1 y41) fun _=>
 bind (ldA 2 q37_1) fun y42=>
 ret (Value.tuple #[y42,(Value.slice none 0 0)]))
 (bind (ldA 2 q37_0) fun y43=>
 bind (stA 2 q37_1 y43) fun _=>
 bind (ldA 2 q37_1) fun y44=>
 ret (Value.tuple #[y44,q37_2]))) noX ret) noX) ret))
noncomputable def ZaE (Γ : Zc) (x0 x1 x2 : Value) : M Value:=
 bind (ld1 x1) fun y1=>
 bind (Ja y1) fun y2=>
 bind (fa 0 y2) fun y3=>
 bind (ld1 y3) fun y4=>
 bind (lkp .str (.map none) false y4 x0) fun y5=>
 bind (ld1 x2) fun y6=>
 bind (lkp .str (.agg #[]) true y5 y6) fun y7=>
 bind (Zl y7 0) fun y8=>
 bind (Zl y7 1) fun y9=>
 bind (alc 1 (.agg #[])) fun y10=>
 bind (lkp .str (.agg #[]) true y5 y6) fun u_11=>same u_11 y7 <|
 bind (ld1 x2) fun u_12=>same u_12 y6 <|
 bind (lkp .str (.map none) false y4 x0) fun u_13=>same u_13 y5 <|
 bind (ld1 y3) fun u_14=>same u_14 y4 <|
 bind (ld1 x1) fun u_15=>same u_15 y1 <|
 bind (stA 0 y10 y8) fun _=>
 bind (uop .not y9) fun y16=>
 ret y16
theorem Zha (Γ : Zc) (x0 x1 x2 : Value) : ZE Tryz.prog Γ Tryz.f166 ZcA [x0,x1,x2]=ZaE Γ x0 x1 x2:=by kernel_rfl
theorem ZfA {prim : FuncId→Option (List Value→M Value)} (hp : prim J1=none) (n : Nat) (x0 x1 x2 : Value) : run Tryz.prog prim lvs (n+1) J1 [x0,x1,x2]=ZaE (run Tryz.prog prim lvs n) x0 x1 x2:=
 (Zo hp (by kernel_rfl) Tryz.func166 (by kernel_rfl)).trans (Zha _ x0 x1 x2)
noncomputable def YZ.l1 (Γ : Zc) (s0 s1 s7 s8 : Value) : M Out:=
 bind (bop .int .lss s8 s7) fun y2=>
 cnd y2
 (bind (ixs s0 s8) fun y3=>
 bind (Qg Γ s1 [y3]) fun y4=>
 bind (uop .not y4) fun y5=>
 cnd y5
 (ret (.ret (Value.bool false)))
 (bind (bop .int .add s8 (Value.int .i64 1)) fun y6=>
 ret (.nrm [s0,s1,s7,y6])))
 (ret (.ext 0 []))
noncomputable def YZ (Γ : Zc) (x0 x1 : Value) : M Value:=
 bind (QL x0) fun y1=>
 jn (Zf (c4 (YZ.l1 Γ)) [x0,x1,y1,(Value.int .i64 0)]) noN (xk 0 (c0 (ret (Value.bool true))) noX) ret
theorem ZoS (Γ : Zc) (x0 x1 : Value) : ZE Tryz.prog Γ Tryz.f167 Zi8 [x0,x1]=YZ Γ x0 x1:=by kernel_rfl
theorem Zn3 {prim : FuncId→Option (List Value→M Value)} (hp : prim Yl=none) (n : Nat) (x0 x1 : Value) : run Tryz.prog prim lvs (n+1) Yl [x0,x1]=YZ (run Tryz.prog prim lvs n) x0 x1:=
 (Zo hp (by kernel_rfl) Tryz.func167 (by kernel_rfl)).trans (ZoS _ x0 x1)
noncomputable def ZeG (Γ : Zc) (x0 : Value) : M Value:=
 bind (Γ Jw [x0]) fun y1=>
 bind (Zx y1 false 2 (bind (Γ JO [x0]) fun y2=>
 ret [x0,y2])) (c2 fun _ q3_1=>
 bind (pick y1 (Value.bool true) q3_1) fun y4=>
 bind (Zx y4 false 2 (bind (bop .int .eql x0 (Value.int .u8 45)) fun y5=>
 ret [x0,y5])) (c2 fun _ q6_1=>
 bind (pick y4 (Value.bool true) q6_1) fun y7=>
 bind (Zx y7 false 2 (bind (bop .int .eql x0 (Value.int .u8 46)) fun y8=>
 ret [x0,y8])) (c2 fun _ q9_1=>
 bind (pick y7 (Value.bool true) q9_1) fun y10=>
 ret y10)))
theorem ZnM (Γ : Zc) (x0 : Value) : ZE Tryz.prog Γ Tryz.f168 ZhD [x0]=ZeG Γ x0:=by kernel_rfl
theorem ZmB {prim : FuncId→Option (List Value→M Value)} (hp : prim Zbj=none) (n : Nat) (x0 : Value) : run Tryz.prog prim lvs (n+1) Zbj [x0]=ZeG (run Tryz.prog prim lvs n) x0:=
 (Zo hp (by kernel_rfl) Tryz.func168 (by kernel_rfl)).trans (ZnM _ x0)
noncomputable def Zp.l1 (Γ : Zc) (s0 s1 s7 s8 : Value) : M Out:=
 bind (bop .int .lss s8 s7) fun y2=>
 cnd y2
 (bind (ixa 1 s0 s8) fun y3=>
 bind (ld1 y3) fun y4=>
 bind (Qg Γ s1 [y4]) fun y5=>
 cnd y5
 (ret (.ret s8))
 (bind (bop .int .add s8 (Value.int .i64 1)) fun y6=>
 ret (.nrm [s0,s1,s7,y6])))
 (ret (.ext 0 []))
noncomputable def Zp (Γ : Zc) (x0 x1 : Value) : M Value:=
 bind (Zk x0) fun y1=>
 jn (Zf (c4 (Zp.l1 Γ)) [x0,x1,y1,(Value.int .i64 0)]) noN (xk 0 (c0 (ret (Value.int .i64 (-1)))) noX) ret
theorem Zbe (Γ : Zc) (x0 x1 : Value) : ZE Tryz.prog Γ Tryz.f169 Kv [x0,x1]=Zp Γ x0 x1:=by kernel_rfl
theorem ZaU {prim : FuncId→Option (List Value→M Value)} (hp : prim QJ=none) (n : Nat) (x0 x1 : Value) : run Tryz.prog prim lvs (n+1) QJ [x0,x1]=Zp (run Tryz.prog prim lvs n) x0 x1:=
 (Zo hp (by kernel_rfl) Tryz.func169 (by kernel_rfl)).trans (Zbe _ x0 x1)
noncomputable def Zci (Γ : Zc) (x0 x1 : Value) : M Value:=
 bind (Γ Kx [x0,x1]) fun y1=>
 ret y1
theorem Zj9 (Γ : Zc) (x0 x1 : Value) : ZE Tryz.prog Γ Tryz.f172 Zd5 [x0,x1]=Zci Γ x0 x1:=by kernel_rfl
theorem ZjO {prim : FuncId→Option (List Value→M Value)} (hp : prim QC=none) (n : Nat) (x0 x1 : Value) : run Tryz.prog prim lvs (n+1) QC [x0,x1]=Zci (run Tryz.prog prim lvs n) x0 x1:=
 (Zo hp (by kernel_rfl) Tryz.func172 (by kernel_rfl)).trans (Zj9 _ x0 x1)
noncomputable def Qo (Γ : Zc) (x0 : Value) : M Value:=
 bind (alc 1 x0) fun y1=>
 ret (Value.func (.func 204) #[] #[y1])
theorem YU (Γ : Zc) (x0 : Value) : ZE Tryz.prog Γ Tryz.f174 Jk [x0]=Qo Γ x0:=by kernel_rfl
theorem YT {prim : FuncId→Option (List Value→M Value)} (hp : prim ZR=none) (n : Nat) (x0 : Value) : run Tryz.prog prim lvs (n+1) ZR [x0]=Qo (run Tryz.prog prim lvs n) x0:=
 (Zo hp (by kernel_rfl) Tryz.func174 (by kernel_rfl)).trans (YU _ x0)
noncomputable def QE.l1 (Γ : Zc) (s5 s6 s7 : Value) : M Out:=
 bind (bop .int .lss s7 s6) fun y2=>
 cnd y2
 (bind (ixa 1 s5 s7) fun y3=>
 bind (ld1 y3) fun y4=>
 bind (bop .int .neq y4 (Value.int .i64 0)) fun y5=>
 cnd y5
 (ret (.ret y4))
 (bind (bop .int .add s7 (Value.int .i64 1)) fun y6=>
 ret (.nrm [s5,s6,y6])))
 (ret (.ext 0 []))
noncomputable def QE (Γ : Zc) (x0 : Value) : M Value:=
 bind (Zk x0) fun y1=>
 jn (Zf (c3 (QE.l1 Γ)) [x0,y1,(Value.int .i64 0)]) noN (xk 0 (c0 (ret (Value.int .i64 0))) noX) ret
theorem ZmN (Γ : Zc) (x0 : Value) : ZE Tryz.prog Γ Tryz.f175 Zgb [x0]=QE Γ x0:=by kernel_rfl
theorem Zly {prim : FuncId→Option (List Value→M Value)} (hp : prim KL=none) (n : Nat) (x0 : Value) : run Tryz.prog prim lvs (n+1) KL [x0]=QE (run Tryz.prog prim lvs n) x0:=
 (Zo hp (by kernel_rfl) Tryz.func175 (by kernel_rfl)).trans (ZmN _ x0)
noncomputable def Za1 (Γ : Zc) (x0 : Value) : M Value:=
 bind (bop .str .eql x0 (Value.string ⟨#[]⟩)) fun y1=>
 cnd y1
 (ret (Value.int .i64 0))
 (bind (Γ W0 [x0]) fun y2=>
 bind (Zl y2 0) fun y3=>
 bind (Zl y2 1) fun y4=>
 bind (bop .int .neq y4 (Value.int .i64 0)) fun y5=>
 bind (Zx y5 false 3 (bind (bop .str .neq y3 x0) fun y6=>
 ret [y3,x0,y6])) (c3 fun _ _ q7_2=>
 bind (pick y5 (Value.bool true) q7_2) fun y8=>
 cnd y8
 (ret (Value.int .i64 11))
 (ret (Value.int .i64 0))))
theorem Zob (Γ : Zc) (x0 : Value) : ZE Tryz.prog Γ Tryz.f176 ZhI [x0]=Za1 Γ x0:=by kernel_rfl
theorem Znf {prim : FuncId→Option (List Value→M Value)} (hp : prim Zbc=none) (n : Nat) (x0 : Value) : run Tryz.prog prim lvs (n+1) Zbc [x0]=Za1 (run Tryz.prog prim lvs n) x0:=
 (Zo hp (by kernel_rfl) Tryz.func176 (by kernel_rfl)).trans (Zob _ x0)
noncomputable def Qr.l1 (Γ : Zc) (s0 s10 s11 s12 : Value) : M Out:=
 bind (bop .int .lss s12 s11) fun y4=>
 cnd y4
 (bind (ixa 1 s10 s12) fun y5=>
 bind (ld1 y5) fun y6=>
 bind (Γ QM [y6]) fun y7=>
 bind (bop .int .neq y7 (Value.int .i64 0)) fun y8=>
 cnd y8
 (ret (.ret y7))
 (bind (bop .int .add s12 (Value.int .i64 1)) fun y9=>
 ret (.nrm [s0,s10,s11,y9])))
 (ret (.ext 0 [s0]))
noncomputable def Qr.l2 (Γ : Zc) (s0 s6 : Value) : M Out:=
 bind (Zk s0) fun y12=>
 bind (bop .int .lss s6 y12) fun y13=>
 cnd y13
 (bind (bop .int .sub s6 (Value.int .i64 1)) fun y14=>
 bind (ixa 1 s0 y14) fun y15=>
 bind (ld1 y15) fun y16=>
 bind (ixa 1 s0 s6) fun y17=>
 bind (ld1 y17) fun y18=>
 bind (bop .str .geq y16 y18) fun y19=>
 cnd y19
 (ret (.ret (Value.int .i64 9)))
 (bind (bop .int .add s6 (Value.int .i64 1)) fun y20=>
 ret (.nrm [s0,y20])))
 (ret (.ext 2 []))
noncomputable def Qr (Γ : Zc) (x0 : Value) : M Value:=
 bind (Zk x0) fun y1=>
 bind (bop .int .gtr y1 (Value.int .i64 6)) fun y2=>
 cnd y2
 (ret (Value.int .i64 7))
 (bind (Zk x0) fun y3=>
 jn (Zf (c4 (Qr.l1 Γ)) [x0,x0,y3,(Value.int .i64 0)]) noN (xk 0 (c1 fun q11_0=>
 jn (Zf (c2 (Qr.l2 Γ)) [q11_0,(Value.int .i64 1)]) noN (xk 2 (c0 (ret (Value.int .i64 0))) noX) ret) noX) ret)
theorem ZlT (Γ : Zc) (x0 : Value) : ZE Tryz.prog Γ Tryz.f177 Ze0 [x0]=Qr Γ x0:=by kernel_rfl
theorem Zkl {prim : FuncId→Option (List Value→M Value)} (hp : prim WU=none) (n : Nat) (x0 : Value) : run Tryz.prog prim lvs (n+1) WU [x0]=Qr (run Tryz.prog prim lvs n) x0:=
 (Zo hp (by kernel_rfl) Tryz.func177 (by kernel_rfl)).trans (ZlT _ x0)
noncomputable def WO (Γ : Zc) (x0 : Value) : M Value:=
 bind (bop .str .eql x0 (Value.string ⟨#[]⟩)) fun y1=>
 bind (Zx y1 false 3 (bind (QL x0) fun y2=>
 bind (bop .int .gtr y2 (Value.int .i64 12)) fun y3=>
 ret [x0,y2,y3])) (c3 fun _ _ q4_2=>
 bind (pick y1 (Value.bool true) q4_2) fun y5=>
 bind (Zx y5 false 4 (bind (ixs x0 (Value.int .i64 0)) fun y6=>
 bind (Γ Jw [y6]) fun y7=>
 bind (uop .not y7) fun y8=>
 ret [x0,y6,y7,y8])) (c4 fun _ _ _ q9_3=>
 bind (pick y5 (Value.bool true) q9_3) fun y10=>
 bind (Zx y10 false 3 (bind (Γ Yl [x0,(Value.func (.func 168) #[] #[])]) fun y11=>
 bind (uop .not y11) fun y12=>
 ret [x0,y11,y12])) (c3 fun _ _ q13_2=>
 bind (pick y10 (Value.bool true) q13_2) fun y14=>
 cnd y14
 (ret (Value.bool false))
 (bind (QL x0) fun y15=>
 bind (bop .int .sub y15 (Value.int .i64 1)) fun y16=>
 bind (ixs x0 y16) fun y17=>
 bind (Γ Jw [y17]) fun y18=>
 bind (Zx y18 false 2 (bind (Γ JO [y17]) fun y19=>
 ret [y17,y19])) (c2 fun _ q20_1=>
 bind (pick y18 (Value.bool true) q20_1) fun y21=>
 ret y21)))))
theorem ZlD (Γ : Zc) (x0 : Value) : ZE Tryz.prog Γ Tryz.f178 Ze3 [x0]=WO Γ x0:=by kernel_rfl
theorem ZkA {prim : FuncId→Option (List Value→M Value)} (hp : prim Kj=none) (n : Nat) (x0 : Value) : run Tryz.prog prim lvs (n+1) Kj [x0]=WO (run Tryz.prog prim lvs n) x0:=
 (Zo hp (by kernel_rfl) Tryz.func178 (by kernel_rfl)).trans (ZlD _ x0)
noncomputable def Ye.l1 (Γ : Zc) (s6 s7 s8 : Value) : M Out:=
 bind (bop .int .lss s8 s7) fun y2=>
 cnd y2
 (bind (ixa 1 s6 s8) fun y3=>
 bind (ld1 y3) fun y4=>
 bind (Γ QM [y4]) fun y5=>
 bind (bop .int .neq y5 (Value.int .i64 0)) fun y6=>
 cnd y6
 (ret (.ret y5))
 (bind (bop .int .add s8 (Value.int .i64 1)) fun y7=>
 ret (.nrm [s6,s7,y7])))
 (ret (.ext 0 []))
noncomputable def Ye (Γ : Zc) (x0 : Value) : M Value:=
 bind (Zk x0) fun y1=>
 jn (Zf (c3 (Ye.l1 Γ)) [x0,y1,(Value.int .i64 0)]) noN (xk 0 (c0 (ret (Value.int .i64 0))) noX) ret
theorem ZlK (Γ : Zc) (x0 : Value) : ZE Tryz.prog Γ Tryz.f179 Ze2 [x0]=Ye Γ x0:=by kernel_rfl
theorem ZkP {prim : FuncId→Option (List Value→M Value)} (hp : prim K1=none) (n : Nat) (x0 : Value) : run Tryz.prog prim lvs (n+1) K1 [x0]=Ye (run Tryz.prog prim lvs n) x0:=
 (Zo hp (by kernel_rfl) Tryz.func179 (by kernel_rfl)).trans (ZlK _ x0)
noncomputable def YB.l1 (Γ : Zc) (s3 s8 s9 s10 : Value) : M Out:=
 bind (bop .int .lss s10 s9) fun y3=>
 cnd y3
 (bind (ixa 1 s8 s10) fun y4=>
 bind (ld1 y4) fun y5=>
 bind (bop .int .geq y5 (Value.int .u8 65)) fun y6=>
 bind (Zx y6 true 2 (bind (bop .int .leq y5 (Value.int .u8 90)) fun y7=>
 ret [y5,y7])) (c2 fun _ q8_1=>
 bind (pick y6 q8_1 (Value.bool false)) fun y9=>
 jn (cnd y9
 (bind (bop .int .add y5 (Value.int .u8 97)) fun y10=>
 bind (bop .int .sub y10 (Value.int .u8 65)) fun y11=>
 bind (ixa 1 s3 s10) fun y12=>
 bind (st1 y12 y11) fun _=>
 ret (.nrm [s3,s8,s9,s10]))
 (ret (.nrm [s3,s8,s9,s10]))) (c4 fun q13_0 q13_1 q13_2 q13_3=>
 bind (bop .int .add q13_3 (Value.int .i64 1)) fun y14=>
 ret (.nrm [q13_0,q13_1,q13_2,y14])) noX ZN))
 (ret (.ext 0 [s3]))
noncomputable def YB (Γ : Zc) (x0 : Value) : M Value:=
 bind (s2b x0) fun y1=>
 bind (Zk y1) fun y2=>
 jn (Zf (c4 (YB.l1 Γ)) [y1,y1,y2,(Value.int .i64 0)]) noN (xk 0 (c1 fun q17_0=>
 bind (b2s q17_0) fun y18=>
 ret y18) noX) ret
theorem Znr (Γ : Zc) (x0 : Value) : ZE Tryz.prog Γ Tryz.f180 Zhz [x0]=YB Γ x0:=by kernel_rfl
theorem ZmZ {prim : FuncId→Option (List Value→M Value)} (hp : prim Za8=none) (n : Nat) (x0 : Value) : run Tryz.prog prim lvs (n+1) Za8 [x0]=YB (run Tryz.prog prim lvs n) x0:=
 (Zo hp (by kernel_rfl) Tryz.func180 (by kernel_rfl)).trans (Znr _ x0)
noncomputable def ZcY (Γ : Zc) (x0 x1 : Value) : M Value:=
 bind (Γ Yi [x0,x1]) fun y1=>
 bind (Zl y1 0) fun y2=>
 bind (Zl y1 1) fun y3=>
 bind (Zl y1 2) fun y4=>
 ret (Value.tuple #[y2,y3,y4])
theorem ZlU (Γ : Zc) (x0 x1 : Value) : ZE Tryz.prog Γ Tryz.f181 ZeY [x0,x1]=ZcY Γ x0 x1:=by kernel_rfl
theorem ZkB {prim : FuncId→Option (List Value→M Value)} (hp : prim Kd=none) (n : Nat) (x0 x1 : Value) : run Tryz.prog prim lvs (n+1) Kd [x0,x1]=ZcY (run Tryz.prog prim lvs n) x0 x1:=
 (Zo hp (by kernel_rfl) Tryz.func181 (by kernel_rfl)).trans (ZlU _ x0 x1)
noncomputable def ZbF (Γ : Zc) (x0 x1 : Value) : M Value:=
 bind (Γ KT [x0,x1,(Value.int .i64 0),(Value.int .i64 (-1))]) fun y1=>
 ret y1
theorem Zi3 (Γ : Zc) (x0 x1 : Value) : ZE Tryz.prog Γ Tryz.f182 Zdt [x0,x1]=ZbF Γ x0 x1:=by kernel_rfl
theorem Ziy {prim : FuncId→Option (List Value→M Value)} (hp : prim Wa=none) (n : Nat) (x0 x1 : Value) : run Tryz.prog prim lvs (n+1) Wa [x0,x1]=ZbF (run Tryz.prog prim lvs n) x0 x1:=
 (Zo hp (by kernel_rfl) Tryz.func182 (by kernel_rfl)).trans (Zi3 _ x0 x1)
noncomputable def ZdM (Γ : Zc) (x0 : Value) : M Value:=
 bind (Γ Jw [x0]) fun y1=>
 bind (Zx y1 false 2 (bind (Γ JO [x0]) fun y2=>
 ret [x0,y2])) (c2 fun _ q3_1=>
 bind (pick y1 (Value.bool true) q3_1) fun y4=>
 ret y4)
theorem ZmE (Γ : Zc) (x0 : Value) : ZE Tryz.prog Γ Tryz.f183 ZfT [x0]=ZdM Γ x0:=by kernel_rfl
theorem ZlA {prim : FuncId→Option (List Value→M Value)} (hp : prim Zaq=none) (n : Nat) (x0 : Value) : run Tryz.prog prim lvs (n+1) Zaq [x0]=ZdM (run Tryz.prog prim lvs n) x0:=
 (Zo hp (by kernel_rfl) Tryz.func183 (by kernel_rfl)).trans (ZmE _ x0)
noncomputable def WW (Γ : Zc) (x0 : Value) : M Value:=
 bind (bop .int .geq x0 (Value.int .u8 97)) fun y1=>
 bind (Zx y1 true 2 (bind (bop .int .leq x0 (Value.int .u8 122)) fun y2=>
 ret [x0,y2])) (c2 fun _ q3_1=>
 bind (pick y1 q3_1 (Value.bool false)) fun y4=>
 ret y4)
theorem ZlO (Γ : Zc) (x0 : Value) : ZE Tryz.prog Γ Tryz.f184 Zfd [x0]=WW Γ x0:=by kernel_rfl
theorem Zj8 {prim : FuncId→Option (List Value→M Value)} (hp : prim Jw=none) (n : Nat) (x0 : Value) : run Tryz.prog prim lvs (n+1) Jw [x0]=WW (run Tryz.prog prim lvs n) x0:=
 (Zo hp (by kernel_rfl) Tryz.func184 (by kernel_rfl)).trans (ZlO _ x0)
noncomputable def Zal (Γ : Zc) (x0 : Value) : M Value:=
 bind (bop .int .geq x0 (Value.int .u8 48)) fun y1=>
 bind (Zx y1 true 2 (bind (bop .int .leq x0 (Value.int .u8 57)) fun y2=>
 ret [x0,y2])) (c2 fun _ q3_1=>
 bind (pick y1 q3_1 (Value.bool false)) fun y4=>
 ret y4)
theorem Zmo (Γ : Zc) (x0 : Value) : ZE Tryz.prog Γ Tryz.f185 Zgs [x0]=Zal Γ x0:=by kernel_rfl
theorem ZlF {prim : FuncId→Option (List Value→M Value)} (hp : prim JO=none) (n : Nat) (x0 : Value) : run Tryz.prog prim lvs (n+1) JO [x0]=Zal (run Tryz.prog prim lvs n) x0:=
 (Zo hp (by kernel_rfl) Tryz.func185 (by kernel_rfl)).trans (Zmo _ x0)
noncomputable def KZ (Γ : Zc) (x0 : Value) : M Value:=
 bind (Γ Qh [x0]) fun y1=>
 bind (Γ QT [y1,(Value.func (.func 172) #[] #[])]) fun y2=>
 ret y2
theorem ZdG (Γ : Zc) (x0 : Value) : ZE Tryz.prog Γ Tryz.f186 Zan [x0]=KZ Γ x0:=by kernel_rfl
theorem Zdg {prim : FuncId→Option (List Value→M Value)} (hp : prim YJ=none) (n : Nat) (x0 : Value) : run Tryz.prog prim lvs (n+1) YJ [x0]=KZ (run Tryz.prog prim lvs n) x0:=
 (Zo hp (by kernel_rfl) Tryz.func186 (by kernel_rfl)).trans (ZdG _ x0)
noncomputable def Zk1.l1 (Γ : Zc) (s0 s1 s5 : Value) : M Out:=
 bind (QL s0) fun y1=>
 bind (bop .int .lss s5 y1) fun y2=>
 cnd y2
 (bind (ixs s0 s5) fun y3=>
 bind (Γ Zln [y3,s1]) fun y4=>
 bind (uop .not y4) fun y5=>
 cnd y5
 (ret (.ret (Value.bool false)))
 (bind (bop .int .add s5 (Value.int .i64 1)) fun y6=>
 ret (.nrm [s0,s1,y6])))
 (ret (.ext 0 []))
noncomputable def Zk1 (Γ : Zc) (x0 x1 : Value) : M Value:=
 jn (Zf (c3 (Zk1.l1 Γ)) [x0,x1,(Value.int .i64 0)]) noN (xk 0 (c0 (ret (Value.bool true))) noX) ret
noncomputable def Zk5.l1 (Γ : Zc) (s0 s1 s5 : Value) : M Out:=
 bind (QL s1) fun y1=>
 bind (bop .int .lss s5 y1) fun y2=>
 cnd y2
 (bind (ixs s1 s5) fun y3=>
 bind (bop .int .eql y3 s0) fun y4=>
 cnd y4
 (ret (.ret (Value.bool true)))
 (bind (bop .int .add s5 (Value.int .i64 1)) fun y5=>
 ret (.nrm [s0,s1,y5])))
 (ret (.ext 0 []))
noncomputable def Zk5 (Γ : Zc) (x0 x1 : Value) : M Value:=
 jn (Zf (c3 (Zk5.l1 Γ)) [x0,x1,(Value.int .i64 0)]) noN (xk 0 (c0 (ret (Value.bool false))) noX) ret
noncomputable def ZhC.l1 (Γ : Zc) (s1 s7 s8 s9 : Value) : M Out:=
 bind (bop .int .lss s9 s8) fun y2=>
 cnd y2
 (bind (ixa 5 s7 s9) fun y3=>
 bind (ldA 5 y3) fun y4=>
 bind (alc 1 (.agg #[.string ⟨#[]⟩,.string ⟨#[]⟩,.string ⟨#[]⟩,.bool false,.slice none 0 0])) fun y5=>
 bind (stA 5 y5 y4) fun _=>
 bind (fa 0 y5) fun y6=>
 bind (ld1 y6) fun y7=>
 bind (bop .str .eql y7 s1) fun y8=>
 cnd y8
 (ret (.ret s9))
 (bind (bop .int .add s9 (Value.int .i64 1)) fun y9=>
 ret (.nrm [s1,s7,s8,y9])))
 (ret (.ext 0 []))
noncomputable def ZhC (Γ : Zc) (x0 x1 : Value) : M Value:=
 bind (Zk x0) fun y1=>
 jn (Zf (c4 (ZhC.l1 Γ)) [x1,x0,y1,(Value.int .i64 0)]) noN (xk 0 (c0 (ret (Value.int .i64 (-1)))) noX) ret
noncomputable def Wy (Γ : Zc) (x0 : Value) : M Value:=
 bind (Γ JO [x0]) fun y1=>
 bind (Zx y1 false 3 (bind (bop .int .geq x0 (Value.int .u8 97)) fun y2=>
 ret [x0,y2,y2])) (c3 fun _ _ q3_2=>
 bind (Zx q3_2 true 2 (bind (bop .int .leq x0 (Value.int .u8 102)) fun y4=>
 ret [x0,y4])) (c2 fun _ q5_1=>
 bind (Zx y1 false 1 (bind (pick q3_2 q5_1 (Value.bool false)) fun y6=>
 ret [y6])) (c1 fun q7_0=>
 bind (pick y1 (Value.bool true) q7_0) fun y8=>
 ret y8)))
theorem ZmV (Γ : Zc) (x0 : Value) : ZE Tryz.prog Γ Tryz.f191 Zgr [x0]=Wy Γ x0:=by kernel_rfl
theorem Zlw {prim : FuncId→Option (List Value→M Value)} (hp : prim Zar=none) (n : Nat) (x0 : Value) : run Tryz.prog prim lvs (n+1) Zar [x0]=Wy (run Tryz.prog prim lvs n) x0:=
 (Zo hp (by kernel_rfl) Tryz.func191 (by kernel_rfl)).trans (ZmV _ x0)
noncomputable def ZbN.l2 (Γ : Zc) (s0 s3 s4 s5 s6 s19 : Value) : M Out:=
 bind (bop .int .lss s19 (Value.int .i64 26)) fun y5=>
 cnd y5
 (bind (ixs s0 s5) fun y6=>
 bind (ixs s3 s19) fun y7=>
 bind (bop .int .eql y6 y7) fun y8=>
 jn (cnd y8
 (bind (bop .int .add s19 (Value.int .i64 1)) fun y9=>
 bind (sls (Value.string ⟨#[97,98,99,100,101,102,103,104,105,106,107,108,109,110,111,112,113,114,115,116,117,118,119,120,121,122]⟩) (some s19) (some y9)) fun y10=>
 ret (.nrm [s0,s3,s4,s5,y10,s19]))
 (ret (.nrm [s0,s3,s4,s5,s6,s19]))) (c6 fun q11_0 q11_1 q11_2 q11_3 q11_4 q11_5=>
 bind (bop .int .add q11_5 (Value.int .i64 1)) fun y12=>
 ret (.nrm [q11_0,q11_1,q11_2,q11_3,q11_4,y12])) noX ZN)
 (ret (.ext 2 [s0,s3,s4,s5,s6]))
noncomputable def ZbN.l1 (Γ : Zc) (s0 s3 s4 s5 : Value) : M Out:=
 bind (QL s0) fun y1=>
 bind (bop .int .lss s5 y1) fun y2=>
 cnd y2
 (bind (bop .int .add s5 (Value.int .i64 1)) fun y3=>
 bind (sls s0 (some s5) (some y3)) fun y4=>
 jn (Zf (c6 (ZbN.l2 Γ)) [s0,s3,s4,s5,y4,(Value.int .i64 0)]) noN (xk 2 (c5 fun q15_0 q15_1 q15_2 q15_3 q15_4=>
 bind (bop .str .add q15_2 q15_4) fun y16=>
 bind (bop .int .add q15_3 (Value.int .i64 1)) fun y17=>
 ret (.nrm [q15_0,q15_1,y16,y17])) noX) ZN)
 (ret (.ext 0 [s4]))
noncomputable def ZbN (Γ : Zc) (x0 : Value) : M Value:=
 jn (Zf (c4 (ZbN.l1 Γ)) [x0,(Value.string ⟨#[65,66,67,68,69,70,71,72,73,74,75,76,77,78,79,80,81,82,83,84,85,86,87,88,89,90]⟩),(Value.string ⟨#[]⟩),(Value.int .i64 0)]) noN (xk 0 (c1 fun q20_0=>
 ret q20_0) noX) ret
noncomputable def ZjJ.l1 (Γ : Zc) (s1 s7 s8 s9 : Value) : M Out:=
 bind (bop .int .lss s9 s8) fun y2=>
 cnd y2
 (bind (ixa 1 s7 s9) fun y3=>
 bind (ld1 y3) fun y4=>
 bind (bop .str .eql y4 s1) fun y5=>
 cnd y5
 (ret (.ret (Value.bool true)))
 (bind (bop .int .add s9 (Value.int .i64 1)) fun y6=>
 ret (.nrm [s1,s7,s8,y6])))
 (ret (.ext 0 []))
noncomputable def ZjJ (Γ : Zc) (x0 x1 : Value) : M Value:=
 bind (Zk x0) fun y1=>
 jn (Zf (c4 (ZjJ.l1 Γ)) [x1,x0,y1,(Value.int .i64 0)]) noN (xk 0 (c0 (ret (Value.bool false))) noX) ret
noncomputable def Yx (Γ : Zc) (x0 x1 : Value) : M Value:=
 bind (Zk x0) fun y1=>
 bind (cvi .u64 y1) fun y2=>
 bind (Γ Zav [y2]) fun y3=>
 bind (Γ Z5 [x0,(Value.int .i64 0),y1,y3,x1]) fun y4=>
 ret (Value.tuple #[])
theorem Zbt (Γ : Zc) (x0 x1 : Value) : ZE Tryz.prog Γ Tryz.f201 KN [x0,x1]=Yx Γ x0 x1:=by kernel_rfl
theorem ZaY {prim : FuncId→Option (List Value→M Value)} (hp : prim Yt=none) (n : Nat) (x0 x1 : Value) : run Tryz.prog prim lvs (n+1) Yt [x0,x1]=Yx (run Tryz.prog prim lvs n) x0 x1:=
 (Zo hp (by kernel_rfl) Tryz.func201 (by kernel_rfl)).trans (Zbt _ x0 x1)
noncomputable def WL (Γ : Zc) (x0 x1 : Value) : M Value:=
 bind (Γ J4 [x0]) fun y1=>
 bind (Γ J4 [x1]) fun y2=>
 cnd y1
 (cnd y2
 (ret (Value.int .i64 0))
 (ret (Value.int .i64 (-1))))
 (cnd y2
 (ret (Value.int .i64 1))
 (bind (bop .str .lss x0 x1) fun y3=>
 cnd y3
 (ret (Value.int .i64 (-1)))
 (bind (bop .str .gtr x0 x1) fun y4=>
 cnd y4
 (ret (Value.int .i64 1))
 (ret (Value.int .i64 0)))))
theorem Zfu (Γ : Zc) (x0 x1 : Value) : ZE Tryz.prog Γ Tryz.f203 Zby [x0,x1]=WL Γ x0 x1:=by kernel_rfl
theorem ZeV {prim : FuncId→Option (List Value→M Value)} (hp : prim Kx=none) (n : Nat) (x0 x1 : Value) : run Tryz.prog prim lvs (n+1) Kx [x0,x1]=WL (run Tryz.prog prim lvs n) x0 x1:=
 (Zo hp (by kernel_rfl) Tryz.func203 (by kernel_rfl)).trans (Zfu _ x0 x1)
noncomputable def Kg (Γ : Zc) (x0 x1 : Value) : M Value:=
 bind (Γ Qf [x0,x1]) fun y1=>
 bind (bop .int .geq y1 (Value.int .i64 0)) fun y2=>
 cnd y2
 (bind (sls x0 none (some y1)) fun y3=>
 bind (QL x1) fun y4=>
 bind (bop .int .add y1 y4) fun y5=>
 bind (sls x0 (some y5) none) fun y6=>
 ret (Value.tuple #[y3,y6,(Value.bool true)]))
 (ret (Value.tuple #[x0,(Value.string ⟨#[]⟩),(Value.bool false)]))
theorem ZcK (Γ : Zc) (x0 x1 : Value) : ZE Tryz.prog Γ Tryz.f205 WF [x0,x1]=Kg Γ x0 x1:=by kernel_rfl
theorem Zck {prim : FuncId→Option (List Value→M Value)} (hp : prim Yi=none) (n : Nat) (x0 x1 : Value) : run Tryz.prog prim lvs (n+1) Yi [x0,x1]=Kg (run Tryz.prog prim lvs n) x0 x1:=
 (Zo hp (by kernel_rfl) Tryz.func205 (by kernel_rfl)).trans (ZcK _ x0 x1)
noncomputable def QQ.l1 (Γ : Zc) (s0 s1 s2 s3 s9 s10 : Value) : M Out:=
 bind (bop .int .lss s10 s3) fun y13=>
 cnd y13
 (bind (Γ Y7 [s0,s1]) fun y14=>
 bind (bop .int .lss y14 (Value.int .i64 0)) fun y15=>
 cnd y15
 (ret (.ext 0 [s0,s9,s10]))
 (bind (bop .int .add y14 s2) fun y16=>
 bind (sls s0 none (some y16)) fun y17=>
 bind (ixa 1 s9 s10) fun y18=>
 bind (st1 y18 y17) fun _=>
 bind (QL s1) fun y19=>
 bind (bop .int .add y14 y19) fun y20=>
 bind (sls s0 (some y20) none) fun y21=>
 bind (bop .int .add s10 (Value.int .i64 1)) fun y22=>
 ret (.nrm [y21,s1,s2,s3,s9,y22])))
 (ret (.ext 0 [s0,s9,s10]))
noncomputable def QQ (Γ : Zc) (x0 x1 x2 x3 : Value) : M Value:=
 bind (bop .int .eql x3 (Value.int .i64 0)) fun y1=>
 cnd y1
 (ret (Value.slice none 0 0))
 (bind (bop .str .eql x1 (Value.string ⟨#[]⟩)) fun y2=>
 cnd y2
 (bind (Γ Zh3 [x0,x3]) fun y3=>
 ret y3)
 (bind (bop .int .lss x3 (Value.int .i64 0)) fun y4=>
 jn (cnd y4
 (bind (Γ K3 [x0,x1]) fun y5=>
 bind (bop .int .add y5 (Value.int .i64 1)) fun y6=>
 ret (.nrm [x0,x1,x2,y6]))
 (ret (.nrm [x0,x1,x2,x3]))) (c4 fun q7_0 q7_1 q7_2 q7_3=>
 bind (QL q7_0) fun y8=>
 bind (bop .int .add y8 (Value.int .i64 1)) fun y9=>
 bind (mxi false q7_3 y9) fun y10=>
 bind (mks 1 16 (.string ⟨#[]⟩) y10 y10) fun y11=>
 bind (bop .int .sub y10 (Value.int .i64 1)) fun y12=>
 jn (jn (Zf (c6 (QQ.l1 Γ)) [q7_0,q7_1,q7_2,y12,y11,(Value.int .i64 0)]) noN (xk 0 (c3 fun q24_0 q24_1 q24_2=>
 ret (.nrm [q24_0,q24_1,q24_2])) noX) ZN) (c3 fun q26_0 q26_1 q26_2=>
 bind (ixa 1 q26_1 q26_2) fun y27=>
 bind (st1 y27 q26_0) fun _=>
 bind (bop .int .add q26_2 (Value.int .i64 1)) fun y28=>
 bind (slv 1 q26_1 none (some y28) none) fun y29=>
 ret y29) noX ret) noX ret))
theorem ZfK (Γ : Zc) (x0 x1 x2 x3 : Value) : ZE Tryz.prog Γ Tryz.f206 Zb2 [x0,x1,x2,x3]=QQ Γ x0 x1 x2 x3:=by kernel_rfl
theorem Zff {prim : FuncId→Option (List Value→M Value)} (hp : prim KT=none) (n : Nat) (x0 x1 x2 x3 : Value) : run Tryz.prog prim lvs (n+1) KT [x0,x1,x2,x3]=QQ (run Tryz.prog prim lvs n) x0 x1 x2 x3:=
 (Zo hp (by kernel_rfl) Tryz.func206 (by kernel_rfl)).trans (ZfK _ x0 x1 x2 x3)
noncomputable def QY (Γ : Zc) (x0 : Value) : M Value:=
 bind (alc 1 x0) fun y1=>
 ret (Value.func (.func 216) #[] #[y1])
theorem K6 (Γ : Zc) (x0 : Value) : ZE Tryz.prog Γ Tryz.f207 J6 [x0]=QY Γ x0:=by kernel_rfl
theorem KS {prim : FuncId→Option (List Value→M Value)} (hp : prim Qh=none) (n : Nat) (x0 : Value) : run Tryz.prog prim lvs (n+1) Qh [x0]=QY (run Tryz.prog prim lvs n) x0:=
 (Zo hp (by kernel_rfl) Tryz.func207 (by kernel_rfl)).trans (K6 _ x0)
noncomputable abbrev KP.o1 (s2 : Value) (st : LoopState) (pd : Option Code) : Zi:=.loop Tryz.f208 Yh 26 [0] (ZsZ Tryz.f208 26) [(2,s2)] st pd
noncomputable def KP.r1 (Γ : Zc) (L : Nat) (s2 : Value) (a0 : Value) : M Value:=
 ZqN L (
 bind (ld1 s2) fun y2=>
 bind (bsl 1 1 (.string ⟨#[]⟩) [(0,1,a0)]) fun y3=>
 bind (app 1 16 y2 y3) fun y4=>
 bind (st1 s2 y4) fun _=>
 ZjZ L none)
noncomputable def KP (Γ : Zc) (x0 x1 : Value) : M Value:=
 bind (alc 1 x0) fun y1=>
 ZfV (ZlX Tryz.prog) Γ x1 Tryz.f208 Yh 26 [0] (ZsZ Tryz.f208 26) [(2,y1)] fun pd_5=>
 (match pd_5 with
 | none=>bind (ld1 y1) fun y6=>
 ret y6
 | some (.exit j_5)=>fail
 | some .ret=>ret (Value.slice none 0 0)
 | _=>fail)
noncomputable def Qn.l1 (Γ : Zc) (s0 s1 s2 s3 s4 s10 s11 : Value) : M Out:=
 jn (bind (bop .int .sub s2 s1) fun y1=>
 bind (bop .int .leq y1 (Value.int .i64 12)) fun y2=>
 cnd y2
 (bind (Γ Qj [s0,s1,s2,s4]) fun y3=>
 ret (.ret (Value.tuple #[])))
 (bind (bop .int .eql s3 (Value.int .i64 0)) fun y4=>
 cnd y4
 (bind (Γ Zbr [s0,s1,s2,s4]) fun y5=>
 ret (.ret (Value.tuple #[])))
 (bind (uop .not s10) fun y6=>
 jn (cnd y6
 (bind (Γ Zai [s0,s1,s2,s4]) fun y7=>
 bind (bop .int .sub s3 (Value.int .i64 1)) fun y8=>
 ret (.nrm [s0,s1,s2,y8,s4,s10,s11,y1]))
 (ret (.nrm [s0,s1,s2,s3,s4,s10,s11,y1]))) (c8 fun q9_0 q9_1 q9_2 q9_3 q9_4 q9_5 q9_6 q9_7=>
 bind (Γ ZaF [q9_0,q9_1,q9_2,q9_4]) fun y10=>
 bind (Zl y10 0) fun y11=>
 bind (Zl y10 1) fun y12=>
 bind (bop .int .eql y12 (Value.int .i64 2)) fun y13=>
 jn (cnd y13
 (bind (Γ Zas [q9_0,q9_1,q9_2,q9_4]) fun y14=>
 bind (bop .int .sub q9_2 (Value.int .i64 1)) fun y15=>
 bind (bop .int .sub y11 q9_1) fun y16=>
 bind (bop .int .sub y15 y16) fun y17=>
 ret (.nrm [q9_0,q9_1,q9_2,q9_3,q9_4,q9_5,q9_6,q9_7,y17,(Value.int .i64 1)]))
 (ret (.nrm [q9_0,q9_1,q9_2,q9_3,q9_4,q9_5,q9_6,q9_7,y11,y12]))) (c10 fun q18_0 q18_1 q18_2 q18_3 q18_4 q18_5 q18_6 q18_7 q18_8 q18_9=>
 bind (Zx q18_5 true 1 (ret [q18_6])) (c1 fun q19_0=>
 bind (pick q18_5 q19_0 (Value.bool false)) fun y20=>
 bind (Zx y20 true 2 (bind (bop .int .eql q18_9 (Value.int .i64 1)) fun y21=>
 ret [q18_9,y21])) (c2 fun _ q22_1=>
 bind (pick y20 q22_1 (Value.bool false)) fun y23=>
 jn (cnd y23
 (bind (Γ Wc [q18_0,q18_1,q18_2,q18_4]) fun y24=>
 cnd y24
 (ret (.ret (Value.tuple #[])))
 (ret (.nrm [q18_0,q18_1,q18_2,q18_3,q18_4,q18_5,q18_6,q18_7,q18_8])))
 (ret (.nrm [q18_0,q18_1,q18_2,q18_3,q18_4,q18_5,q18_6,q18_7,q18_8]))) (c9 fun q25_0 q25_1 q25_2 q25_3 q25_4 q25_5 q25_6 q25_7 q25_8=>
 bind (bop .int .gtr q25_1 (Value.int .i64 0)) fun y26=>
 bind (Ze y26 true (ret q25_4)) fun y27=>
 bind (Ze y26 true (ret q25_0)) fun y28=>
 bind (Ze y26 true (ret q25_1)) fun y29=>
 bind (Ze y26 true (bop .int .sub y29 (Value.int .i64 1))) fun y30=>
 bind (Ze y26 true (ixa 1 y28 y30)) fun y31=>
 bind (Ze y26 true (ld1 y31)) fun y32=>
 bind (Ze y26 true (ret q25_0)) fun y33=>
 bind (Ze y26 true (ret q25_8)) fun y34=>
 bind (Ze y26 true (ixa 1 y33 y34)) fun y35=>
 bind (Ze y26 true (ld1 y35)) fun y36=>
 bind (Ze y26 true (Qg Γ y27 [y32,y36])) fun y37=>
 bind (Ze y26 true (bop .int .lss y37 (Value.int .i64 0))) fun y38=>
 bind (Ze y26 true (uop .not y38)) fun y39=>
 bind (pick y26 y39 (Value.bool false)) fun y40=>
 cnd y40
 (bind (Γ W8 [q25_0,q25_1,q25_2,q25_8,q25_4]) fun y41=>
 ret (.nrm [q25_0,y41,q25_2,q25_3,q25_4,q25_5,q25_6]))
 (bind (Γ Zbo [q25_0,q25_1,q25_2,q25_8,q25_4]) fun y42=>
 bind (Zl y42 0) fun y43=>
 bind (Zl y42 1) fun y44=>
 bind (bop .int .sub y43 q25_1) fun y45=>
 bind (bop .int .sub q25_2 y43) fun y46=>
 bind (bop .int .quo q25_7 (Value.int .i64 8)) fun y47=>
 bind (bop .int .lss y45 y46) fun y48=>
 jn (cnd y48
 (bind (bop .int .geq y45 y47) fun y49=>
 bind (Γ Z5 [q25_0,q25_1,y43,q25_3,q25_4]) fun y50=>
 bind (bop .int .add y43 (Value.int .i64 1)) fun y51=>
 ret (.nrm [q25_0,y51,q25_2,q25_3,q25_4,y49,y44]))
 (bind (bop .int .geq y46 y47) fun y52=>
 bind (bop .int .add y43 (Value.int .i64 1)) fun y53=>
 bind (Γ Z5 [q25_0,y53,q25_2,q25_3,q25_4]) fun y54=>
 ret (.nrm [q25_0,q25_1,y43,q25_3,q25_4,y52,y44]))) (c7 fun q55_0 q55_1 q55_2 q55_3 q55_4 q55_5 q55_6=>
 ret (.nrm [q55_0,q55_1,q55_2,q55_3,q55_4,q55_5,q55_6])) noX ZN)) noX ZN))) noX ZN) noX ZN))) (c7 fun q60_0 q60_1 q60_2 q60_3 q60_4 q60_5 q60_6=>
 ret (.nrm [q60_0,q60_1,q60_2,q60_3,q60_4,q60_5,q60_6])) noX ZN
noncomputable def Qn (Γ : Zc) (x0 x1 x2 x3 x4 : Value) : M Value:=
 jn (Zf (c7 (Qn.l1 Γ)) [x0,x1,x2,x3,x4,(Value.bool true),(Value.bool true)]) noN noX ret
theorem Zbs (Γ : Zc) (x0 x1 x2 x3 x4 : Value) : ZE Tryz.prog Γ Tryz.f209 KR [x0,x1,x2,x3,x4]=Qn Γ x0 x1 x2 x3 x4:=by kernel_rfl
theorem Zbi {prim : FuncId→Option (List Value→M Value)} (hp : prim Z5=none) (n : Nat) (x0 x1 x2 x3 x4 : Value) : run Tryz.prog prim lvs (n+1) Z5 [x0,x1,x2,x3,x4]=Qn (run Tryz.prog prim lvs n) x0 x1 x2 x3 x4:=
 (Zo hp (by kernel_rfl) Tryz.func209 (by kernel_rfl)).trans (Zbs _ x0 x1 x2 x3 x4)
noncomputable def Zcj (Γ : Zc) (x0 : Value) : M Value:=
 cnd (Value.bool false)
 (bind (cvi .u32 x0) fun y1=>
 bind (Γ ZjY [y1]) fun y2=>
 ret y2)
 (bind (Γ WD [x0]) fun y3=>
 ret y3)
theorem ZkL (Γ : Zc) (x0 : Value) : ZE Tryz.prog Γ Tryz.f210 ZdX [x0]=Zcj Γ x0:=by kernel_rfl
theorem ZjK {prim : FuncId→Option (List Value→M Value)} (hp : prim Zav=none) (n : Nat) (x0 : Value) : run Tryz.prog prim lvs (n+1) Zav [x0]=Zcj (run Tryz.prog prim lvs n) x0:=
 (Zo hp (by kernel_rfl) Tryz.func210 (by kernel_rfl)).trans (ZkL _ x0)
noncomputable def ZaB (Γ : Zc) (x0 : Value) : M Value:=
 bind (bop .str .neq x0 x0) fun y1=>
 ret y1
theorem Zg2 (Γ : Zc) (x0 : Value) : ZE Tryz.prog Γ Tryz.f211 Zcw [x0]=ZaB Γ x0:=by kernel_rfl
theorem Zfz {prim : FuncId→Option (List Value→M Value)} (hp : prim J4=none) (n : Nat) (x0 : Value) : run Tryz.prog prim lvs (n+1) J4 [x0]=ZaB (run Tryz.prog prim lvs n) x0:=
 (Zo hp (by kernel_rfl) Tryz.func211 (by kernel_rfl)).trans (Zg2 _ x0)
noncomputable def Jc.l1 (Γ : Zc) (s0 s1 s5 s6 s7 s8 s9 s10 : Value) : M Out:=
 bind (bop .int .lss s8 s9) fun y23=>
 cnd y23
 (bind (ixs s0 s8) fun y24=>
 bind (bop .int .neq y24 s6) fun y25=>
 jn (cnd y25
 (bind (bop .int .add s8 (Value.int .i64 1)) fun y26=>
 bind (sls s0 (some y26) (some s9)) fun y27=>
 bind (Γ QD [y27,s6]) fun y28=>
 bind (bop .int .lss y28 (Value.int .i64 0)) fun y29=>
 cnd y29
 (ret (.ret (Value.int .i64 (-1))))
 (bind (bop .int .add y28 (Value.int .i64 1)) fun y30=>
 bind (bop .int .add s8 y30) fun y31=>
 ret (.nrm [s0,s1,s5,s6,s7,y31,s9,s10])))
 (ret (.nrm [s0,s1,s5,s6,s7,s8,s9,s10]))) (c8 fun q32_0 q32_1 q32_2 q32_3 q32_4 q32_5 q32_6 q32_7=>
 bind (bop .int .add q32_5 (Value.int .i64 1)) fun y33=>
 bind (ixs q32_0 y33) fun y34=>
 bind (bop .int .eql y34 q32_4) fun y35=>
 bind (Zx y35 true 8 (bind (bop .int .add q32_5 q32_2) fun y36=>
 bind (sls q32_0 (some q32_5) (some y36)) fun y37=>
 bind (bop .str .eql y37 q32_1) fun y38=>
 ret [q32_0,q32_5,q32_5,q32_2,y36,y37,q32_1,y38])) (c8 fun _ _ _ _ _ _ _ q39_7=>
 bind (pick y35 q39_7 (Value.bool false)) fun y40=>
 cnd y40
 (ret (.ret q32_5))
 (bind (bop .int .add q32_5 (Value.int .i64 1)) fun y41=>
 bind (bop .int .add q32_7 (Value.int .i64 1)) fun y42=>
 bind (ld1 (Value.pointer (some ⟨0,0,none⟩))) fun y43=>
 bind (bop .int .leq q32_2 y43) fun y44=>
 bind (Zx y44 true 4 (bind (Γ Zdc [y41]) fun y45=>
 bind (bop .int .gtr y42 y45) fun y46=>
 ret [y42,y41,y45,y46])) (c4 fun _ _ _ q47_3=>
 bind (pick y44 q47_3 (Value.bool false)) fun y48=>
 cnd y48
 (bind (sls q32_0 (some y41) none) fun y49=>
 bind (Γ K2 [y49,q32_1]) fun y50=>
 bind (bop .int .geq y50 (Value.int .i64 0)) fun y51=>
 cnd y51
 (bind (bop .int .add y50 y41) fun y52=>
 ret (.ret y52))
 (ret (.ret (Value.int .i64 (-1)))))
 (bind (ld1 (Value.pointer (some ⟨0,0,none⟩))) fun y53=>
 bind (bop .int .gtr q32_2 y53) fun y54=>
 bind (Zx y54 true 5 (bind (bop .int .shr y41 (Value.int .u64 4)) fun y55=>
 bind (bop .int .add (Value.int .i64 4) y55) fun y56=>
 bind (bop .int .geq y42 y56) fun y57=>
 ret [y42,y41,y55,y56,y57])) (c5 fun _ _ _ _ q58_4=>
 bind (pick y54 q58_4 (Value.bool false)) fun y59=>
 bind (Zx y59 true 3 (bind (bop .int .lss y41 q32_6) fun y60=>
 ret [y41,q32_6,y60])) (c3 fun _ _ q61_2=>
 bind (pick y59 q61_2 (Value.bool false)) fun y62=>
 cnd y62
 (bind (sls q32_0 (some y41) none) fun y63=>
 bind (Γ WG [y63,q32_1]) fun y64=>
 bind (bop .int .lss y64 (Value.int .i64 0)) fun y65=>
 cnd y65
 (ret (.ret (Value.int .i64 (-1))))
 (bind (bop .int .add y41 y64) fun y66=>
 ret (.ret y66)))
 (ret (.nrm [q32_0,q32_1,q32_2,q32_3,q32_4,y41,q32_6,y42]))))))))) noX ZN)
 (ret (.ext 1 []))
noncomputable def Jc (Γ : Zc) (x0 x1 : Value) : M Value:=
 bind (QL x1) fun y1=>
 bind (bop .int .eql y1 (Value.int .i64 0)) fun y2=>
 bind (Zx y2 false 3 (bind (bop .str .eql x1 x0) fun y3=>
 ret [x1,x0,y3])) (c3 fun _ _ q4_2=>
 bind (pick y2 (Value.bool true) q4_2) fun y5=>
 cnd y5
 (ret (Value.int .i64 0))
 (bind (bop .int .eql y1 (Value.int .i64 1)) fun y6=>
 cnd y6
 (bind (ixs x1 (Value.int .i64 0)) fun y7=>
 bind (Γ QD [x0,y7]) fun y8=>
 ret y8)
 (bind (QL x0) fun y9=>
 bind (bop .int .geq y1 y9) fun y10=>
 cnd y10
 (ret (Value.int .i64 (-1)))
 (bind (ld1 (Value.pointer (some ⟨0,0,none⟩))) fun y11=>
 bind (bop .int .leq y1 y11) fun y12=>
 bind (Zx y12 true 3 (bind (QL x0) fun y13=>
 bind (bop .int .leq y13 (Value.int .i64 64)) fun y14=>
 ret [x0,y13,y14])) (c3 fun _ _ q15_2=>
 bind (pick y12 q15_2 (Value.bool false)) fun y16=>
 cnd y16
 (bind (Γ K2 [x0,x1]) fun y17=>
 ret y17)
 (bind (ixs x1 (Value.int .i64 0)) fun y18=>
 bind (ixs x1 (Value.int .i64 1)) fun y19=>
 bind (QL x0) fun y20=>
 bind (bop .int .sub y20 y1) fun y21=>
 bind (bop .int .add y21 (Value.int .i64 1)) fun y22=>
 jn (Zf (c8 (Jc.l1 Γ)) [x0,x1,y1,y18,y19,(Value.int .i64 0),y22,(Value.int .i64 0)]) noN (xk 1 (c0 (ret (Value.int .i64 (-1)))) noX) ret))))))
theorem ZbX (Γ : Zc) (x0 x1 : Value) : ZE Tryz.prog Γ Tryz.f212 Wd [x0,x1]=Jc Γ x0 x1:=by kernel_rfl
theorem ZbB {prim : FuncId→Option (List Value→M Value)} (hp : prim Qf=none) (n : Nat) (x0 x1 : Value) : run Tryz.prog prim lvs (n+1) Qf [x0,x1]=Jc (run Tryz.prog prim lvs n) x0 x1:=
 (Zo hp (by kernel_rfl) Tryz.func212 (by kernel_rfl)).trans (ZbX _ x0 x1)
noncomputable def ZcS.l1 (Γ : Zc) (s0 s1 s6 s7 : Value) : M Out:=
 bind (bop .int .sub s1 (Value.int .i64 1)) fun y8=>
 bind (bop .int .lss s7 y8) fun y9=>
 cnd y9
 (bind (Γ ZaP [s0]) fun y10=>
 bind (Zl y10 0) fun y11=>
 bind (Zl y10 1) fun y12=>
 bind (sls s0 none (some y12)) fun y13=>
 bind (ixa 1 s6 s7) fun y14=>
 bind (st1 y14 y13) fun _=>
 bind (sls s0 (some y12) none) fun y15=>
 bind (bop .int .add s7 (Value.int .i64 1)) fun y16=>
 ret (.nrm [y15,s1,s6,y16]))
 (ret (.ext 0 [s0,s1,s6]))
noncomputable def ZcS (Γ : Zc) (x0 x1 : Value) : M Value:=
 bind (Γ Ku [x0]) fun y1=>
 bind (bop .int .lss x1 (Value.int .i64 0)) fun y2=>
 bind (Zx y2 false 3 (bind (bop .int .gtr x1 y1) fun y3=>
 ret [x1,y1,y3])) (c3 fun _ _ q4_2=>
 bind (pick y2 (Value.bool true) q4_2) fun y5=>
 jn (cnd y5
 (ret (.nrm [x0,y1]))
 (ret (.nrm [x0,x1]))) (c2 fun q6_0 q6_1=>
 bind (mks 1 16 (.string ⟨#[]⟩) q6_1 q6_1) fun y7=>
 jn (Zf (c4 (ZcS.l1 Γ)) [q6_0,q6_1,y7,(Value.int .i64 0)]) noN (xk 0 (c3 fun q18_0 q18_1 q18_2=>
 bind (bop .int .gtr q18_1 (Value.int .i64 0)) fun y19=>
 jn (cnd y19
 (bind (bop .int .sub q18_1 (Value.int .i64 1)) fun y20=>
 bind (ixa 1 q18_2 y20) fun y21=>
 bind (st1 y21 q18_0) fun _=>
 ret (.nrm [q18_2]))
 (ret (.nrm [q18_2]))) (c1 fun q22_0=>
 ret q22_0) noX ret) noX) ret) noX ret)
noncomputable def K7.l1 (Γ : Zc) (s0 s1 s5 : Value) : M Out:=
 bind (Γ Y7 [s0,s1]) fun y9=>
 bind (bop .int .eql y9 (Value.int .i64 (-1))) fun y10=>
 cnd y10
 (ret (.ret s5))
 (bind (bop .int .add s5 (Value.int .i64 1)) fun y11=>
 bind (QL s1) fun y12=>
 bind (bop .int .add y9 y12) fun y13=>
 bind (sls s0 (some y13) none) fun y14=>
 ret (.nrm [y14,s1,y11]))
noncomputable def K7 (Γ : Zc) (x0 x1 : Value) : M Value:=
 bind (QL x1) fun y1=>
 bind (bop .int .eql y1 (Value.int .i64 0)) fun y2=>
 cnd y2
 (bind (Γ Ku [x0]) fun y3=>
 bind (bop .int .add y3 (Value.int .i64 1)) fun y4=>
 ret y4)
 (bind (QL x1) fun y5=>
 bind (bop .int .eql y5 (Value.int .i64 1)) fun y6=>
 cnd y6
 (bind (ixs x1 (Value.int .i64 0)) fun y7=>
 bind (Γ Jz [x0,y7]) fun y8=>
 ret y8)
 (jn (Zf (c3 (K7.l1 Γ)) [x0,x1,(Value.int .i64 0)]) noN noX ret))
theorem Zjw (Γ : Zc) (x0 x1 : Value) : ZE Tryz.prog Γ Tryz.f214 Zdj [x0,x1]=K7 Γ x0 x1:=by kernel_rfl
theorem Zil {prim : FuncId→Option (List Value→M Value)} (hp : prim K3=none) (n : Nat) (x0 x1 : Value) : run Tryz.prog prim lvs (n+1) K3 [x0,x1]=K7 (run Tryz.prog prim lvs n) x0 x1:=
 (Zo hp (by kernel_rfl) Tryz.func214 (by kernel_rfl)).trans (Zjw _ x0 x1)
noncomputable def Zbz (Γ : Zc) (x0 x1 : Value) : M Value:=
 bind (Γ Qf [x0,x1]) fun y1=>
 ret y1
theorem ZjE (Γ : Zc) (x0 x1 : Value) : ZE Tryz.prog Γ Tryz.f215 Zdm [x0,x1]=Zbz Γ x0 x1:=by kernel_rfl
theorem ZiA {prim : FuncId→Option (List Value→M Value)} (hp : prim Y7=none) (n : Nat) (x0 x1 : Value) : run Tryz.prog prim lvs (n+1) Y7 [x0,x1]=Zbz (run Tryz.prog prim lvs n) x0 x1:=
 (Zo hp (by kernel_rfl) Tryz.func215 (by kernel_rfl)).trans (ZjE _ x0 x1)
noncomputable def ZF.l2 (Γ : Zc) (s0 s1 s2 s3 s8 s9 : Value) : M Out:=
 bind (bop .int .gtr s9 s1) fun y3=>
 bind (Ze y3 true (ret s3)) fun y4=>
 bind (Ze y3 true (ret s0)) fun y5=>
 bind (Ze y3 true (ret s9)) fun y6=>
 bind (Ze y3 true (ixa 1 y5 y6)) fun y7=>
 bind (Ze y3 true (ld1 y7)) fun y8=>
 bind (Ze y3 true (ret s0)) fun y9=>
 bind (Ze y3 true (ret s9)) fun y10=>
 bind (Ze y3 true (bop .int .sub y10 (Value.int .i64 1))) fun y11=>
 bind (Ze y3 true (ixa 1 y9 y11)) fun y12=>
 bind (Ze y3 true (ld1 y12)) fun y13=>
 bind (Ze y3 true (Qg Γ y4 [y8,y13])) fun y14=>
 bind (Ze y3 true (bop .int .lss y14 (Value.int .i64 0))) fun y15=>
 bind (pick y3 y15 (Value.bool false)) fun y16=>
 cnd y16
 (bind (bop .int .sub s9 (Value.int .i64 1)) fun y17=>
 bind (bop .int .sub s9 (Value.int .i64 1)) fun y18=>
 bind (ixa 1 s0 y18) fun y19=>
 bind (ld1 y19) fun y20=>
 bind (ixa 1 s0 s9) fun y21=>
 bind (ld1 y21) fun y22=>
 bind (ixa 1 s0 s9) fun y23=>
 bind (st1 y23 y20) fun _=>
 bind (ixa 1 s0 y17) fun y24=>
 bind (st1 y24 y22) fun _=>
 bind (bop .int .sub s9 (Value.int .i64 1)) fun y25=>
 ret (.nrm [s0,s1,s2,s3,s8,y25]))
 (ret (.ext 2 [s0,s1,s2,s3,s8]))
noncomputable def ZF.l1 (Γ : Zc) (s0 s1 s2 s3 s8 : Value) : M Out:=
 bind (bop .int .lss s8 s2) fun y2=>
 cnd y2
 (jn (Zf (c6 (ZF.l2 Γ)) [s0,s1,s2,s3,s8,s8]) noN (xk 2 (c5 fun q27_0 q27_1 q27_2 q27_3 q27_4=>
 bind (bop .int .add q27_4 (Value.int .i64 1)) fun y28=>
 ret (.nrm [q27_0,q27_1,q27_2,q27_3,y28])) noX) ZN)
 (ret (.ext 0 []))
noncomputable def ZF (Γ : Zc) (x0 x1 x2 x3 : Value) : M Value:=
 bind (bop .int .add x1 (Value.int .i64 1)) fun y1=>
 jn (Zf (c5 (ZF.l1 Γ)) [x0,x1,x2,x3,y1]) noN (xk 0 (c0 (ret (Value.tuple #[]))) noX) ret
theorem W6 (Γ : Zc) (x0 x1 x2 x3 : Value) : ZE Tryz.prog Γ Tryz.f217 YK [x0,x1,x2,x3]=ZF Γ x0 x1 x2 x3:=by kernel_rfl
theorem WH {prim : FuncId→Option (List Value→M Value)} (hp : prim Qj=none) (n : Nat) (x0 x1 x2 x3 : Value) : run Tryz.prog prim lvs (n+1) Qj [x0,x1,x2,x3]=ZF (run Tryz.prog prim lvs n) x0 x1 x2 x3:=
 (Zo hp (by kernel_rfl) Tryz.func217 (by kernel_rfl)).trans (W6 _ x0 x1 x2 x3)
noncomputable def Ju.l1 (Γ : Zc) (s0 s3 s8 s9 s10 s11 : Value) : M Out:=
 bind (bop .int .geq s11 (Value.int .i64 0)) fun y4=>
 cnd y4
 (bind (Γ KQ [s0,s11,s10,s8,s3]) fun y5=>
 bind (bop .int .sub s11 (Value.int .i64 1)) fun y6=>
 ret (.nrm [s0,s3,s8,s9,s10,y6]))
 (ret (.ext 0 [s0,s3,s8,s9,s10]))
noncomputable def Ju.l2 (Γ : Zc) (s0 s3 s8 s9 s12 : Value) : M Out:=
 bind (bop .int .geq s12 (Value.int .i64 0)) fun y10=>
 cnd y10
 (bind (bop .int .add s8 s12) fun y11=>
 bind (bop .int .add s8 s12) fun y12=>
 bind (ixa 1 s0 y12) fun y13=>
 bind (ld1 y13) fun y14=>
 bind (ixa 1 s0 s8) fun y15=>
 bind (ld1 y15) fun y16=>
 bind (ixa 1 s0 s8) fun y17=>
 bind (st1 y17 y14) fun _=>
 bind (ixa 1 s0 y11) fun y18=>
 bind (st1 y18 y16) fun _=>
 bind (Γ KQ [s0,s9,s12,s8,s3]) fun y19=>
 bind (bop .int .sub s12 (Value.int .i64 1)) fun y20=>
 ret (.nrm [s0,s3,s8,s9,y20]))
 (ret (.ext 2 []))
noncomputable def Ju (Γ : Zc) (x0 x1 x2 x3 : Value) : M Value:=
 bind (bop .int .sub x2 x1) fun y1=>
 bind (bop .int .sub y1 (Value.int .i64 1)) fun y2=>
 bind (bop .int .quo y2 (Value.int .i64 2)) fun y3=>
 jn (Zf (c6 (Ju.l1 Γ)) [x0,x3,x1,(Value.int .i64 0),y1,y3]) noN (xk 0 (c5 fun q8_0 q8_1 q8_2 q8_3 q8_4=>
 bind (bop .int .sub q8_4 (Value.int .i64 1)) fun y9=>
 jn (Zf (c5 (Ju.l2 Γ)) [q8_0,q8_1,q8_2,q8_3,y9]) noN (xk 2 (c0 (ret (Value.tuple #[]))) noX) ret) noX) ret
noncomputable def YS.l1 (Γ : Zc) (s0 s1 s8 s9 s10 s11 : Value) : M Out:=
 bind (bop .int .quo s8 (Value.int .i64 4)) fun y10=>
 bind (bop .int .mul y10 (Value.int .i64 2)) fun y11=>
 bind (bop .int .add s1 y11) fun y12=>
 bind (bop .int .add y12 (Value.int .i64 1)) fun y13=>
 bind (bop .int .leq s11 y13) fun y14=>
 cnd y14
 (bind (Γ ZeH [s9]) fun y15=>
 bind (bop .int .sub s10 (Value.int .u64 1)) fun y16=>
 bind (bop .int .and y15 y16) fun y17=>
 bind (cvi .i64 y17) fun y18=>
 bind (bop .int .geq y18 s8) fun y19=>
 jn (cnd y19
 (bind (bop .int .sub y18 s8) fun y20=>
 ret (.nrm [s0,s1,s8,s9,s10,s11,y20]))
 (ret (.nrm [s0,s1,s8,s9,s10,s11,y18]))) (c7 fun q21_0 q21_1 q21_2 q21_3 q21_4 q21_5 q21_6=>
 bind (bop .int .add q21_1 q21_6) fun y22=>
 bind (bop .int .add q21_1 q21_6) fun y23=>
 bind (ixa 1 q21_0 y23) fun y24=>
 bind (ld1 y24) fun y25=>
 bind (ixa 1 q21_0 q21_5) fun y26=>
 bind (ld1 y26) fun y27=>
 bind (ixa 1 q21_0 q21_5) fun y28=>
 bind (st1 y28 y25) fun _=>
 bind (ixa 1 q21_0 y22) fun y29=>
 bind (st1 y29 y27) fun _=>
 bind (bop .int .add q21_5 (Value.int .i64 1)) fun y30=>
 ret (.nrm [q21_0,q21_1,q21_2,q21_3,q21_4,y30])) noX ZN)
 (ret (.ext 0 []))
noncomputable def YS (Γ : Zc) (x0 x1 x2 x3 : Value) : M Value:=
 bind (bop .int .sub x2 x1) fun y1=>
 bind (bop .int .geq y1 (Value.int .i64 8)) fun y2=>
 jn (cnd y2
 (bind (cvi .u64 y1) fun y3=>
 bind (alc 1 (.int .u64 0)) fun y4=>
 bind (st1 y4 y3) fun _=>
 bind (Γ ZdO [y1]) fun y5=>
 bind (bop .int .quo y1 (Value.int .i64 4)) fun y6=>
 bind (bop .int .mul y6 (Value.int .i64 2)) fun y7=>
 bind (bop .int .add x1 y7) fun y8=>
 bind (bop .int .sub y8 (Value.int .i64 1)) fun y9=>
 jn (Zf (c6 (YS.l1 Γ)) [x0,x1,y1,y4,y5,y9]) noN (xk 0 (c0 (ret (.nrm []))) noX) ZN)
 (ret (.nrm []))) (c0 (ret (Value.tuple #[]))) noX ret
noncomputable def Y0.l1 (Γ : Zc) (s0 s8 s9 : Value) : M Out:=
 bind (bop .int .lss s8 s9) fun y2=>
 cnd y2
 (bind (ixa 1 s0 s9) fun y3=>
 bind (ld1 y3) fun y4=>
 bind (ixa 1 s0 s8) fun y5=>
 bind (ld1 y5) fun y6=>
 bind (ixa 1 s0 s8) fun y7=>
 bind (st1 y7 y4) fun _=>
 bind (ixa 1 s0 s9) fun y8=>
 bind (st1 y8 y6) fun _=>
 bind (bop .int .add s8 (Value.int .i64 1)) fun y9=>
 bind (bop .int .sub s9 (Value.int .i64 1)) fun y10=>
 ret (.nrm [s0,y9,y10]))
 (ret (.ext 0 []))
noncomputable def Y0 (Γ : Zc) (x0 x1 x2 x3 : Value) : M Value:=
 bind (bop .int .sub x2 (Value.int .i64 1)) fun y1=>
 jn (Zf (c3 (Y0.l1 Γ)) [x0,x1,y1]) noN (xk 0 (c0 (ret (Value.tuple #[]))) noX) ret
noncomputable def Zs.l2 (Γ : Zc) (s0 s1 s2 s3 s9 s10 : Value) : M Out:=
 bind (bop .int .lss s9 s2) fun y3=>
 bind (Ze y3 true (ret s3)) fun y4=>
 bind (Ze y3 true (ret s0)) fun y5=>
 bind (Ze y3 true (ret s9)) fun y6=>
 bind (Ze y3 true (ixa 1 y5 y6)) fun y7=>
 bind (Ze y3 true (ld1 y7)) fun y8=>
 bind (Ze y3 true (ret s0)) fun y9=>
 bind (Ze y3 true (ret s9)) fun y10=>
 bind (Ze y3 true (bop .int .sub y10 (Value.int .i64 1))) fun y11=>
 bind (Ze y3 true (ixa 1 y9 y11)) fun y12=>
 bind (Ze y3 true (ld1 y12)) fun y13=>
 bind (Ze y3 true (Qg Γ y4 [y8,y13])) fun y14=>
 bind (Ze y3 true (bop .int .lss y14 (Value.int .i64 0))) fun y15=>
 bind (Ze y3 true (uop .not y15)) fun y16=>
 bind (pick y3 y16 (Value.bool false)) fun y17=>
 cnd y17
 (bind (bop .int .add s9 (Value.int .i64 1)) fun y18=>
 ret (.nrm [s0,s1,s2,s3,y18,s10]))
 (ret (.ext 2 [s0,s1,s2,s3,s9,s10]))
noncomputable def Zs.l3 (Γ : Zc) (s0 s1 s2 s3 s9 s10 s11 : Value) : M Out:=
 bind (bop .int .geq s11 (Value.int .i64 1)) fun y35=>
 cnd y35
 (bind (ixa 1 s0 s11) fun y36=>
 bind (ld1 y36) fun y37=>
 bind (bop .int .sub s11 (Value.int .i64 1)) fun y38=>
 bind (ixa 1 s0 y38) fun y39=>
 bind (ld1 y39) fun y40=>
 bind (Qg Γ s3 [y37,y40]) fun y41=>
 bind (bop .int .lss y41 (Value.int .i64 0)) fun y42=>
 bind (uop .not y42) fun y43=>
 cnd y43
 (ret (.ext 4 [s0,s1,s2,s3,s9,s10]))
 (bind (bop .int .sub s11 (Value.int .i64 1)) fun y44=>
 bind (bop .int .sub s11 (Value.int .i64 1)) fun y45=>
 bind (ixa 1 s0 y45) fun y46=>
 bind (ld1 y46) fun y47=>
 bind (ixa 1 s0 s11) fun y48=>
 bind (ld1 y48) fun y49=>
 bind (ixa 1 s0 s11) fun y50=>
 bind (st1 y50 y47) fun _=>
 bind (ixa 1 s0 y44) fun y51=>
 bind (st1 y51 y49) fun _=>
 bind (bop .int .sub s11 (Value.int .i64 1)) fun y52=>
 ret (.nrm [s0,s1,s2,s3,s9,s10,y52])))
 (ret (.ext 4 [s0,s1,s2,s3,s9,s10]))
noncomputable def Zs.l4 (Γ : Zc) (s0 s1 s2 s3 s9 s10 s12 : Value) : M Out:=
 bind (bop .int .lss s12 s2) fun y62=>
 cnd y62
 (bind (ixa 1 s0 s12) fun y63=>
 bind (ld1 y63) fun y64=>
 bind (bop .int .sub s12 (Value.int .i64 1)) fun y65=>
 bind (ixa 1 s0 y65) fun y66=>
 bind (ld1 y66) fun y67=>
 bind (Qg Γ s3 [y64,y67]) fun y68=>
 bind (bop .int .lss y68 (Value.int .i64 0)) fun y69=>
 bind (uop .not y69) fun y70=>
 cnd y70
 (ret (.ext 6 [s0,s1,s2,s3,s9,s10]))
 (bind (bop .int .sub s12 (Value.int .i64 1)) fun y71=>
 bind (bop .int .sub s12 (Value.int .i64 1)) fun y72=>
 bind (ixa 1 s0 y72) fun y73=>
 bind (ld1 y73) fun y74=>
 bind (ixa 1 s0 s12) fun y75=>
 bind (ld1 y75) fun y76=>
 bind (ixa 1 s0 s12) fun y77=>
 bind (st1 y77 y74) fun _=>
 bind (ixa 1 s0 y71) fun y78=>
 bind (st1 y78 y76) fun _=>
 bind (bop .int .add s12 (Value.int .i64 1)) fun y79=>
 ret (.nrm [s0,s1,s2,s3,s9,s10,y79])))
 (ret (.ext 6 [s0,s1,s2,s3,s9,s10]))
noncomputable def Zs.l1 (Γ : Zc) (s0 s1 s2 s3 s9 s10 : Value) : M Out:=
 bind (bop .int .lss s10 (Value.int .i64 5)) fun y2=>
 cnd y2
 (jn (Zf (c6 (Zs.l2 Γ)) [s0,s1,s2,s3,s9,s10]) noN (xk 2 (c6 fun q20_0 q20_1 q20_2 q20_3 q20_4 q20_5=>
 bind (bop .int .eql q20_4 q20_2) fun y21=>
 cnd y21
 (ret (.ret (Value.bool true)))
 (bind (bop .int .sub q20_2 q20_1) fun y22=>
 bind (bop .int .lss y22 (Value.int .i64 50)) fun y23=>
 cnd y23
 (ret (.ret (Value.bool false)))
 (bind (bop .int .sub q20_4 (Value.int .i64 1)) fun y24=>
 bind (bop .int .sub q20_4 (Value.int .i64 1)) fun y25=>
 bind (ixa 1 q20_0 y25) fun y26=>
 bind (ld1 y26) fun y27=>
 bind (ixa 1 q20_0 q20_4) fun y28=>
 bind (ld1 y28) fun y29=>
 bind (ixa 1 q20_0 q20_4) fun y30=>
 bind (st1 y30 y27) fun _=>
 bind (ixa 1 q20_0 y24) fun y31=>
 bind (st1 y31 y29) fun _=>
 bind (bop .int .sub q20_4 q20_1) fun y32=>
 bind (bop .int .geq y32 (Value.int .i64 2)) fun y33=>
 jn (cnd y33
 (bind (bop .int .sub q20_4 (Value.int .i64 1)) fun y34=>
 jn (jn (Zf (c7 (Zs.l3 Γ)) [q20_0,q20_1,q20_2,q20_3,q20_4,q20_5,y34]) noN (xk 4 (c6 fun q54_0 q54_1 q54_2 q54_3 q54_4 q54_5=>
 ret (.nrm [q54_0,q54_1,q54_2,q54_3,q54_4,q54_5])) noX) ZN) (c6 fun q56_0 q56_1 q56_2 q56_3 q56_4 q56_5=>
 ret (.nrm [q56_0,q56_1,q56_2,q56_3,q56_4,q56_5])) noX ZN)
 (ret (.nrm [q20_0,q20_1,q20_2,q20_3,q20_4,q20_5]))) (c6 fun q58_0 q58_1 q58_2 q58_3 q58_4 q58_5=>
 bind (bop .int .sub q58_2 q58_4) fun y59=>
 bind (bop .int .geq y59 (Value.int .i64 2)) fun y60=>
 jn (cnd y60
 (bind (bop .int .add q58_4 (Value.int .i64 1)) fun y61=>
 jn (jn (Zf (c7 (Zs.l4 Γ)) [q58_0,q58_1,q58_2,q58_3,q58_4,q58_5,y61]) noN (xk 6 (c6 fun q81_0 q81_1 q81_2 q81_3 q81_4 q81_5=>
 ret (.nrm [q81_0,q81_1,q81_2,q81_3,q81_4,q81_5])) noX) ZN) (c6 fun q83_0 q83_1 q83_2 q83_3 q83_4 q83_5=>
 ret (.nrm [q83_0,q83_1,q83_2,q83_3,q83_4,q83_5])) noX ZN)
 (ret (.nrm [q58_0,q58_1,q58_2,q58_3,q58_4,q58_5]))) (c6 fun q85_0 q85_1 q85_2 q85_3 q85_4 q85_5=>
 bind (bop .int .add q85_5 (Value.int .i64 1)) fun y86=>
 ret (.nrm [q85_0,q85_1,q85_2,q85_3,q85_4,y86])) noX ZN) noX ZN))) noX) ZN)
 (ret (.ext 0 []))
noncomputable def Zs (Γ : Zc) (x0 x1 x2 x3 : Value) : M Value:=
 bind (bop .int .add x1 (Value.int .i64 1)) fun y1=>
 jn (Zf (c6 (Zs.l1 Γ)) [x0,x1,x2,x3,y1,(Value.int .i64 0)]) noN (xk 0 (c0 (ret (Value.bool false))) noX) ret
noncomputable def ZS.l2 (Γ : Zc) (s0 s1 s4 s11 s12 : Value) : M Out:=
 bind (bop .int .leq s11 s12) fun y9=>
 bind (Ze y9 true (ret s4)) fun y10=>
 bind (Ze y9 true (ret s0)) fun y11=>
 bind (Ze y9 true (ret s1)) fun y12=>
 bind (Ze y9 true (ixa 1 y11 y12)) fun y13=>
 bind (Ze y9 true (ld1 y13)) fun y14=>
 bind (Ze y9 true (ret s0)) fun y15=>
 bind (Ze y9 true (ret s11)) fun y16=>
 bind (Ze y9 true (ixa 1 y15 y16)) fun y17=>
 bind (Ze y9 true (ld1 y17)) fun y18=>
 bind (Ze y9 true (Qg Γ y10 [y14,y18])) fun y19=>
 bind (Ze y9 true (bop .int .lss y19 (Value.int .i64 0))) fun y20=>
 bind (Ze y9 true (uop .not y20)) fun y21=>
 bind (pick y9 y21 (Value.bool false)) fun y22=>
 cnd y22
 (bind (bop .int .add s11 (Value.int .i64 1)) fun y23=>
 ret (.nrm [s0,s1,s4,y23,s12]))
 (ret (.ext 2 [s0,s1,s4,s11,s12]))
noncomputable def ZS.l3 (Γ : Zc) (s0 s1 s4 s11 s12 : Value) : M Out:=
 bind (bop .int .leq s11 s12) fun y26=>
 bind (Ze y26 true (ret s4)) fun y27=>
 bind (Ze y26 true (ret s0)) fun y28=>
 bind (Ze y26 true (ret s1)) fun y29=>
 bind (Ze y26 true (ixa 1 y28 y29)) fun y30=>
 bind (Ze y26 true (ld1 y30)) fun y31=>
 bind (Ze y26 true (ret s0)) fun y32=>
 bind (Ze y26 true (ret s12)) fun y33=>
 bind (Ze y26 true (ixa 1 y32 y33)) fun y34=>
 bind (Ze y26 true (ld1 y34)) fun y35=>
 bind (Ze y26 true (Qg Γ y27 [y31,y35])) fun y36=>
 bind (Ze y26 true (bop .int .lss y36 (Value.int .i64 0))) fun y37=>
 bind (pick y26 y37 (Value.bool false)) fun y38=>
 cnd y38
 (bind (bop .int .sub s12 (Value.int .i64 1)) fun y39=>
 ret (.nrm [s0,s1,s4,s11,y39]))
 (ret (.ext 4 [s0,s1,s4,s11,s12]))
noncomputable def ZS.l1 (Γ : Zc) (s0 s1 s4 s11 s12 : Value) : M Out:=
 jn (Zf (c5 (ZS.l2 Γ)) [s0,s1,s4,s11,s12]) noN (xk 2 (c5 fun q25_0 q25_1 q25_2 q25_3 q25_4=>
 jn (Zf (c5 (ZS.l3 Γ)) [q25_0,q25_1,q25_2,q25_3,q25_4]) noN (xk 4 (c5 fun q41_0 q41_1 q41_2 q41_3 q41_4=>
 bind (bop .int .gtr q41_3 q41_4) fun y42=>
 cnd y42
 (ret (.ext 0 [q41_3]))
 (bind (ixa 1 q41_0 q41_4) fun y43=>
 bind (ld1 y43) fun y44=>
 bind (ixa 1 q41_0 q41_3) fun y45=>
 bind (ld1 y45) fun y46=>
 bind (ixa 1 q41_0 q41_3) fun y47=>
 bind (st1 y47 y44) fun _=>
 bind (ixa 1 q41_0 q41_4) fun y48=>
 bind (st1 y48 y46) fun _=>
 bind (bop .int .add q41_3 (Value.int .i64 1)) fun y49=>
 bind (bop .int .sub q41_4 (Value.int .i64 1)) fun y50=>
 ret (.nrm [q41_0,q41_1,q41_2,y49,y50]))) noX) ZN) noX) ZN
noncomputable def ZS (Γ : Zc) (x0 x1 x2 x3 x4 : Value) : M Value:=
 bind (ixa 1 x0 x3) fun y1=>
 bind (ld1 y1) fun y2=>
 bind (ixa 1 x0 x1) fun y3=>
 bind (ld1 y3) fun y4=>
 bind (ixa 1 x0 x1) fun y5=>
 bind (st1 y5 y2) fun _=>
 bind (ixa 1 x0 x3) fun y6=>
 bind (st1 y6 y4) fun _=>
 bind (bop .int .add x1 (Value.int .i64 1)) fun y7=>
 bind (bop .int .sub x2 (Value.int .i64 1)) fun y8=>
 jn (Zf (c5 (ZS.l1 Γ)) [x0,x1,x4,y7,y8]) noN (xk 0 (c1 fun q54_0=>
 ret q54_0) noX) ret
noncomputable def ZA.l1 (Γ : Zc) (s0 s1 s4 s12 s13 : Value) : M Out:=
 bind (bop .int .leq s12 s13) fun y9=>
 bind (Ze y9 true (ret s4)) fun y10=>
 bind (Ze y9 true (ret s0)) fun y11=>
 bind (Ze y9 true (ret s12)) fun y12=>
 bind (Ze y9 true (ixa 1 y11 y12)) fun y13=>
 bind (Ze y9 true (ld1 y13)) fun y14=>
 bind (Ze y9 true (ret s0)) fun y15=>
 bind (Ze y9 true (ret s1)) fun y16=>
 bind (Ze y9 true (ixa 1 y15 y16)) fun y17=>
 bind (Ze y9 true (ld1 y17)) fun y18=>
 bind (Ze y9 true (Qg Γ y10 [y14,y18])) fun y19=>
 bind (Ze y9 true (bop .int .lss y19 (Value.int .i64 0))) fun y20=>
 bind (pick y9 y20 (Value.bool false)) fun y21=>
 cnd y21
 (bind (bop .int .add s12 (Value.int .i64 1)) fun y22=>
 ret (.nrm [s0,s1,s4,y22,s13]))
 (ret (.ext 0 [s0,s1,s4,s12,s13]))
noncomputable def ZA.l2 (Γ : Zc) (s0 s1 s4 s12 s13 : Value) : M Out:=
 bind (bop .int .leq s12 s13) fun y25=>
 bind (Ze y25 true (ret s4)) fun y26=>
 bind (Ze y25 true (ret s0)) fun y27=>
 bind (Ze y25 true (ret s13)) fun y28=>
 bind (Ze y25 true (ixa 1 y27 y28)) fun y29=>
 bind (Ze y25 true (ld1 y29)) fun y30=>
 bind (Ze y25 true (ret s0)) fun y31=>
 bind (Ze y25 true (ret s1)) fun y32=>
 bind (Ze y25 true (ixa 1 y31 y32)) fun y33=>
 bind (Ze y25 true (ld1 y33)) fun y34=>
 bind (Ze y25 true (Qg Γ y26 [y30,y34])) fun y35=>
 bind (Ze y25 true (bop .int .lss y35 (Value.int .i64 0))) fun y36=>
 bind (Ze y25 true (uop .not y36)) fun y37=>
 bind (pick y25 y37 (Value.bool false)) fun y38=>
 cnd y38
 (bind (bop .int .sub s13 (Value.int .i64 1)) fun y39=>
 ret (.nrm [s0,s1,s4,s12,y39]))
 (ret (.ext 2 [s0,s1,s4,s12,s13]))
noncomputable def ZA.l4 (Γ : Zc) (s0 s1 s4 s12 s13 : Value) : M Out:=
 bind (bop .int .leq s12 s13) fun y57=>
 bind (Ze y57 true (ret s4)) fun y58=>
 bind (Ze y57 true (ret s0)) fun y59=>
 bind (Ze y57 true (ret s12)) fun y60=>
 bind (Ze y57 true (ixa 1 y59 y60)) fun y61=>
 bind (Ze y57 true (ld1 y61)) fun y62=>
 bind (Ze y57 true (ret s0)) fun y63=>
 bind (Ze y57 true (ret s1)) fun y64=>
 bind (Ze y57 true (ixa 1 y63 y64)) fun y65=>
 bind (Ze y57 true (ld1 y65)) fun y66=>
 bind (Ze y57 true (Qg Γ y58 [y62,y66])) fun y67=>
 bind (Ze y57 true (bop .int .lss y67 (Value.int .i64 0))) fun y68=>
 bind (pick y57 y68 (Value.bool false)) fun y69=>
 cnd y69
 (bind (bop .int .add s12 (Value.int .i64 1)) fun y70=>
 ret (.nrm [s0,s1,s4,y70,s13]))
 (ret (.ext 6 [s0,s1,s4,s12,s13]))
noncomputable def ZA.l5 (Γ : Zc) (s0 s1 s4 s12 s13 : Value) : M Out:=
 bind (bop .int .leq s12 s13) fun y73=>
 bind (Ze y73 true (ret s4)) fun y74=>
 bind (Ze y73 true (ret s0)) fun y75=>
 bind (Ze y73 true (ret s13)) fun y76=>
 bind (Ze y73 true (ixa 1 y75 y76)) fun y77=>
 bind (Ze y73 true (ld1 y77)) fun y78=>
 bind (Ze y73 true (ret s0)) fun y79=>
 bind (Ze y73 true (ret s1)) fun y80=>
 bind (Ze y73 true (ixa 1 y79 y80)) fun y81=>
 bind (Ze y73 true (ld1 y81)) fun y82=>
 bind (Ze y73 true (Qg Γ y74 [y78,y82])) fun y83=>
 bind (Ze y73 true (bop .int .lss y83 (Value.int .i64 0))) fun y84=>
 bind (Ze y73 true (uop .not y84)) fun y85=>
 bind (pick y73 y85 (Value.bool false)) fun y86=>
 cnd y86
 (bind (bop .int .sub s13 (Value.int .i64 1)) fun y87=>
 ret (.nrm [s0,s1,s4,s12,y87]))
 (ret (.ext 8 [s0,s1,s4,s12,s13]))
noncomputable def ZA.l3 (Γ : Zc) (s0 s1 s4 s12 s13 : Value) : M Out:=
 jn (Zf (c5 (ZA.l4 Γ)) [s0,s1,s4,s12,s13]) noN (xk 6 (c5 fun q72_0 q72_1 q72_2 q72_3 q72_4=>
 jn (Zf (c5 (ZA.l5 Γ)) [q72_0,q72_1,q72_2,q72_3,q72_4]) noN (xk 8 (c5 fun q89_0 q89_1 q89_2 q89_3 q89_4=>
 bind (bop .int .gtr q89_3 q89_4) fun y90=>
 cnd y90
 (ret (.ext 4 [q89_0,q89_1,q89_4]))
 (bind (ixa 1 q89_0 q89_4) fun y91=>
 bind (ld1 y91) fun y92=>
 bind (ixa 1 q89_0 q89_3) fun y93=>
 bind (ld1 y93) fun y94=>
 bind (ixa 1 q89_0 q89_3) fun y95=>
 bind (st1 y95 y92) fun _=>
 bind (ixa 1 q89_0 q89_4) fun y96=>
 bind (st1 y96 y94) fun _=>
 bind (bop .int .add q89_3 (Value.int .i64 1)) fun y97=>
 bind (bop .int .sub q89_4 (Value.int .i64 1)) fun y98=>
 ret (.nrm [q89_0,q89_1,q89_2,y97,y98]))) noX) ZN) noX) ZN
noncomputable def ZA (Γ : Zc) (x0 x1 x2 x3 x4 : Value) : M Value:=
 bind (ixa 1 x0 x3) fun y1=>
 bind (ld1 y1) fun y2=>
 bind (ixa 1 x0 x1) fun y3=>
 bind (ld1 y3) fun y4=>
 bind (ixa 1 x0 x1) fun y5=>
 bind (st1 y5 y2) fun _=>
 bind (ixa 1 x0 x3) fun y6=>
 bind (st1 y6 y4) fun _=>
 bind (bop .int .add x1 (Value.int .i64 1)) fun y7=>
 bind (bop .int .sub x2 (Value.int .i64 1)) fun y8=>
 jn (Zf (c5 (ZA.l1 Γ)) [x0,x1,x4,y7,y8]) noN (xk 0 (c5 fun q24_0 q24_1 q24_2 q24_3 q24_4=>
 jn (Zf (c5 (ZA.l2 Γ)) [q24_0,q24_1,q24_2,q24_3,q24_4]) noN (xk 2 (c5 fun q41_0 q41_1 q41_2 q41_3 q41_4=>
 bind (bop .int .gtr q41_3 q41_4) fun y42=>
 cnd y42
 (bind (ixa 1 q41_0 q41_1) fun y43=>
 bind (ld1 y43) fun y44=>
 bind (ixa 1 q41_0 q41_4) fun y45=>
 bind (ld1 y45) fun y46=>
 bind (ixa 1 q41_0 q41_4) fun y47=>
 bind (st1 y47 y44) fun _=>
 bind (ixa 1 q41_0 q41_1) fun y48=>
 bind (st1 y48 y46) fun _=>
 ret (Value.tuple #[q41_4,(Value.bool true)]))
 (bind (ixa 1 q41_0 q41_4) fun y49=>
 bind (ld1 y49) fun y50=>
 bind (ixa 1 q41_0 q41_3) fun y51=>
 bind (ld1 y51) fun y52=>
 bind (ixa 1 q41_0 q41_3) fun y53=>
 bind (st1 y53 y50) fun _=>
 bind (ixa 1 q41_0 q41_4) fun y54=>
 bind (st1 y54 y52) fun _=>
 bind (bop .int .add q41_3 (Value.int .i64 1)) fun y55=>
 bind (bop .int .sub q41_4 (Value.int .i64 1)) fun y56=>
 jn (Zf (c5 (ZA.l3 Γ)) [q41_0,q41_1,q41_2,y55,y56]) noN (xk 4 (c3 fun q102_0 q102_1 q102_2=>
 bind (ixa 1 q102_0 q102_1) fun y103=>
 bind (ld1 y103) fun y104=>
 bind (ixa 1 q102_0 q102_2) fun y105=>
 bind (ld1 y105) fun y106=>
 bind (ixa 1 q102_0 q102_2) fun y107=>
 bind (st1 y107 y104) fun _=>
 bind (ixa 1 q102_0 q102_1) fun y108=>
 bind (st1 y108 y106) fun _=>
 ret (Value.tuple #[q102_2,(Value.bool false)])) noX) ret)) noX) ret) noX) ret
noncomputable def Zbd (Γ : Zc) (x0 : Value) : M Value:=
 bind (bop .int .geq x0 (Value.int .u64 4294967296)) fun y1=>
 jn (cnd y1
 (bind (bop .int .shr x0 (Value.int .u64 32)) fun y2=>
 ret (.nrm [y2,(Value.int .i64 32)]))
 (ret (.nrm [x0,(Value.int .i64 0)]))) (c2 fun q3_0 q3_1=>
 bind (bop .int .geq q3_0 (Value.int .u64 65536)) fun y4=>
 jn (cnd y4
 (bind (bop .int .shr q3_0 (Value.int .u64 16)) fun y5=>
 bind (bop .int .add q3_1 (Value.int .i64 16)) fun y6=>
 ret (.nrm [y5,y6]))
 (ret (.nrm [q3_0,q3_1]))) (c2 fun q7_0 q7_1=>
 bind (bop .int .geq q7_0 (Value.int .u64 256)) fun y8=>
 jn (cnd y8
 (bind (bop .int .shr q7_0 (Value.int .u64 8)) fun y9=>
 bind (bop .int .add q7_1 (Value.int .i64 8)) fun y10=>
 ret (.nrm [y9,y10]))
 (ret (.nrm [q7_0,q7_1]))) (c2 fun q11_0 q11_1=>
 bind (cvi .u8 q11_0) fun y12=>
 bind (ixs (Value.string ⟨#[0,1,2,2,3,3,3,3,4,4,4,4,4,4,4,4,5,5,5,5,5,5,5,5,5,5,5,5,5,5,5,5,6,6,6,6,6,6,6,6,6,6,6,6,6,6,6,6,6,6,6,6,6,6,6,6,6,6,6,6,6,6,6,6,7,7,7,7,7,7,7,7,7,7,7,7,7,7,7,7,7,7,7,7,7,7,7,7,7,7,7,7,7,7,7,7,7,7,7,7,7,7,7,7,7,7,7,7,7,7,7,7,7,7,7,7,7,7,7,7,7,7,7,7,7,7,7,7,8,8,8,8,8,8,8,8,8,8,8,8,8,8,8,8,8,8,8,8,8,8,8,8,8,8,8,8,8,8,8,8,8,8,8,8,8,8,8,8,8,8,8,8,8,8,8,8,8,8,8,8,8,8,8,8,8,8,8,8,8,8,8,8,8,8,8,8,8,8,8,8,8,8,8,8,8,8,8,8,8,8,8,8,8,8,8,8,8,8,8,8,8,8,8,8,8,8,8,8,8,8,8,8,8,8,8,8,8,8,8,8,8,8,8,8,8,8,8,8,8,8,8,8,8,8,8,8]⟩) y12) fun y13=>
 bind (cvi .i64 y13) fun y14=>
 bind (bop .int .add q11_1 y14) fun y15=>
 ret y15) noX ret) noX ret) noX ret
theorem Zio (Γ : Zc) (x0 : Value) : ZE Tryz.prog Γ Tryz.f226 ZcZ [x0]=Zbd Γ x0:=by kernel_rfl
theorem Zhb {prim : FuncId→Option (List Value→M Value)} (hp : prim WD=none) (n : Nat) (x0 : Value) : run Tryz.prog prim lvs (n+1) WD [x0]=Zbd (run Tryz.prog prim lvs n) x0:=
 (Zo hp (by kernel_rfl) Tryz.func226 (by kernel_rfl)).trans (Zio _ x0)
noncomputable def Yd (Γ : Zc) (x0 x1 : Value) : M Value:=
 bind (Γ Q8 [x0,x1]) fun y1=>
 ret y1
theorem ZaQ (Γ : Zc) (x0 x1 : Value) : ZE Tryz.prog Γ Tryz.f227 Kn [x0,x1]=Yd Γ x0 x1:=by kernel_rfl
theorem Zay {prim : FuncId→Option (List Value→M Value)} (hp : prim QD=none) (n : Nat) (x0 x1 : Value) : run Tryz.prog prim lvs (n+1) QD [x0,x1]=Yd (run Tryz.prog prim lvs n) x0 x1:=
 (Zo hp (by kernel_rfl) Tryz.func227 (by kernel_rfl)).trans (ZaQ _ x0 x1)
noncomputable def Qy.l1 (Γ : Zc) (s0 s1 s5 s6 s7 s8 s9 : Value) : M Out:=
 bind (bop .int .lss s9 s7) fun y5=>
 cnd y5
 (bind (bop .int .mul s8 (Value.int .u32 16777619)) fun y6=>
 bind (ixs s0 s9) fun y7=>
 bind (cvi .u32 y7) fun y8=>
 bind (bop .int .add y6 y8) fun y9=>
 bind (bop .int .add s9 (Value.int .i64 1)) fun y10=>
 ret (.nrm [s0,s1,s5,s6,s7,y9,y10]))
 (ret (.ext 0 [s0,s1,s5,s6,s7,s8]))
noncomputable def Qy.l2 (Γ : Zc) (s0 s1 s5 s6 s7 s8 s10 : Value) : M Out:=
 bind (QL s0) fun y18=>
 bind (bop .int .lss s10 y18) fun y19=>
 cnd y19
 (bind (bop .int .mul s8 (Value.int .u32 16777619)) fun y20=>
 bind (ixs s0 s10) fun y21=>
 bind (cvi .u32 y21) fun y22=>
 bind (bop .int .add y20 y22) fun y23=>
 bind (bop .int .sub s10 s7) fun y24=>
 bind (ixs s0 y24) fun y25=>
 bind (cvi .u32 y25) fun y26=>
 bind (bop .int .mul s6 y26) fun y27=>
 bind (bop .int .sub y23 y27) fun y28=>
 bind (bop .int .add s10 (Value.int .i64 1)) fun y29=>
 bind (bop .int .eql y28 s5) fun y30=>
 bind (Zx y30 true 8 (bind (bop .int .sub y29 s7) fun y31=>
 bind (sls s0 (some y31) (some y29)) fun y32=>
 bind (bop .str .eql y32 s1) fun y33=>
 ret [s0,y29,s7,y31,y29,y32,s1,y33])) (c8 fun _ _ _ _ _ _ _ q34_7=>
 bind (pick y30 q34_7 (Value.bool false)) fun y35=>
 cnd y35
 (bind (bop .int .sub y29 s7) fun y36=>
 ret (.ret y36))
 (ret (.nrm [s0,s1,s5,s6,s7,y28,y29]))))
 (ret (.ext 2 []))
noncomputable def Qy (Γ : Zc) (x0 x1 : Value) : M Value:=
 bind (Γ Zbb [x1]) fun y1=>
 bind (Zl y1 0) fun y2=>
 bind (Zl y1 1) fun y3=>
 bind (QL x1) fun y4=>
 jn (Zf (c7 (Qy.l1 Γ)) [x0,x1,y2,y3,y4,(Value.int .u32 0),(Value.int .i64 0)]) noN (xk 0 (c6 fun q12_0 q12_1 q12_2 q12_3 q12_4 q12_5=>
 bind (bop .int .eql q12_5 q12_2) fun y13=>
 bind (Zx y13 true 5 (bind (sls q12_0 none (some q12_4)) fun y14=>
 bind (bop .str .eql y14 q12_1) fun y15=>
 ret [q12_0,q12_4,y14,q12_1,y15])) (c5 fun _ _ _ _ q16_4=>
 bind (pick y13 q16_4 (Value.bool false)) fun y17=>
 cnd y17
 (ret (Value.int .i64 0))
 (jn (Zf (c7 (Qy.l2 Γ)) [q12_0,q12_1,q12_2,q12_3,q12_4,q12_5,q12_4]) noN (xk 2 (c0 (ret (Value.int .i64 (-1)))) noX) ret))) noX) ret
noncomputable def KO.l1 (Γ : Zc) (s0 s2 s3 s4 s10 : Value) : M Out:=
 bind (bop .int .mul (Value.int .i64 2) s10) fun y1=>
 bind (bop .int .add y1 (Value.int .i64 1)) fun y2=>
 bind (bop .int .geq y2 s2) fun y3=>
 cnd y3
 (ret (.ext 0 []))
 (bind (bop .int .add y2 (Value.int .i64 1)) fun y4=>
 bind (bop .int .lss y4 s2) fun y5=>
 bind (Ze y5 true (ret s4)) fun y6=>
 bind (Ze y5 true (ret s0)) fun y7=>
 bind (Ze y5 true (ret s3)) fun y8=>
 bind (Ze y5 true (ret y2)) fun y9=>
 bind (Ze y5 true (bop .int .add y8 y9)) fun y10=>
 bind (Ze y5 true (ixa 1 y7 y10)) fun y11=>
 bind (Ze y5 true (ld1 y11)) fun y12=>
 bind (Ze y5 true (ret s0)) fun y13=>
 bind (Ze y5 true (ret s3)) fun y14=>
 bind (Ze y5 true (ret y2)) fun y15=>
 bind (Ze y5 true (bop .int .add y14 y15)) fun y16=>
 bind (Ze y5 true (bop .int .add y16 (Value.int .i64 1))) fun y17=>
 bind (Ze y5 true (ixa 1 y13 y17)) fun y18=>
 bind (Ze y5 true (ld1 y18)) fun y19=>
 bind (Ze y5 true (Qg Γ y6 [y12,y19])) fun y20=>
 bind (Ze y5 true (bop .int .lss y20 (Value.int .i64 0))) fun y21=>
 bind (pick y5 y21 (Value.bool false)) fun y22=>
 jn (cnd y22
 (bind (bop .int .add y2 (Value.int .i64 1)) fun y23=>
 ret (.nrm [s0,s2,s3,s4,s10,y23]))
 (ret (.nrm [s0,s2,s3,s4,s10,y2]))) (c6 fun q24_0 q24_1 q24_2 q24_3 q24_4 q24_5=>
 bind (bop .int .add q24_2 q24_4) fun y25=>
 bind (ixa 1 q24_0 y25) fun y26=>
 bind (ld1 y26) fun y27=>
 bind (bop .int .add q24_2 q24_5) fun y28=>
 bind (ixa 1 q24_0 y28) fun y29=>
 bind (ld1 y29) fun y30=>
 bind (Qg Γ q24_3 [y27,y30]) fun y31=>
 bind (bop .int .lss y31 (Value.int .i64 0)) fun y32=>
 bind (uop .not y32) fun y33=>
 cnd y33
 (ret (.ret (Value.tuple #[])))
 (bind (bop .int .add q24_2 q24_4) fun y34=>
 bind (bop .int .add q24_2 q24_5) fun y35=>
 bind (bop .int .add q24_2 q24_5) fun y36=>
 bind (ixa 1 q24_0 y36) fun y37=>
 bind (ld1 y37) fun y38=>
 bind (bop .int .add q24_2 q24_4) fun y39=>
 bind (ixa 1 q24_0 y39) fun y40=>
 bind (ld1 y40) fun y41=>
 bind (ixa 1 q24_0 y34) fun y42=>
 bind (st1 y42 y38) fun _=>
 bind (ixa 1 q24_0 y35) fun y43=>
 bind (st1 y43 y41) fun _=>
 ret (.nrm [q24_0,q24_1,q24_2,q24_3,q24_5]))) noX ZN)
noncomputable def KO (Γ : Zc) (x0 x1 x2 x3 x4 : Value) : M Value:=
 jn (Zf (c5 (KO.l1 Γ)) [x0,x2,x3,x4,x1]) noN (xk 0 (c0 (ret (Value.tuple #[]))) noX) ret
noncomputable def Jo.l1 (Γ : Zc) (s0 s4 s5 : Value) : M Out:=
 bind (QL s0) fun y1=>
 bind (bop .int .lss s5 y1) fun y2=>
 cnd y2
 (bind (bop .int .mul s4 (Value.int .u32 16777619)) fun y3=>
 bind (ixs s0 s5) fun y4=>
 bind (cvi .u32 y4) fun y5=>
 bind (bop .int .add y3 y5) fun y6=>
 bind (bop .int .add s5 (Value.int .i64 1)) fun y7=>
 ret (.nrm [s0,y6,y7]))
 (ret (.ext 0 [s0,s4]))
noncomputable def Jo.l2 (Γ : Zc) (s4 s6 s7 s8 : Value) : M Out:=
 bind (bop .int .gtr s8 (Value.int .i64 0)) fun y11=>
 cnd y11
 (bind (bop .int .and s8 (Value.int .i64 1)) fun y12=>
 bind (bop .int .neq y12 (Value.int .i64 0)) fun y13=>
 jn (cnd y13
 (bind (bop .int .mul s6 s7) fun y14=>
 ret (.nrm [s4,y14,s7,s8]))
 (ret (.nrm [s4,s6,s7,s8]))) (c4 fun q15_0 q15_1 q15_2 q15_3=>
 bind (bop .int .mul q15_2 q15_2) fun y16=>
 bind (bop .int .shr q15_3 (Value.int .u64 1)) fun y17=>
 ret (.nrm [q15_0,q15_1,y16,y17])) noX ZN)
 (ret (.ext 2 [s4,s6]))
noncomputable def Jo (Γ : Zc) (x0 : Value) : M Value:=
 jn (Zf (c3 (Jo.l1 Γ)) [x0,(Value.int .u32 0),(Value.int .i64 0)]) noN (xk 0 (c2 fun q9_0 q9_1=>
 bind (QL q9_0) fun y10=>
 jn (Zf (c4 (Jo.l2 Γ)) [q9_1,(Value.int .u32 1),(Value.int .u32 16777619),y10]) noN (xk 2 (c2 fun q20_0 q20_1=>
 ret (Value.tuple #[q20_0,q20_1])) noX) ret) noX) ret
end Go.Proofs.YtedkoimihknggaaGreatDoor.A

namespace Go.Proofs.YtedkoimihknggaaGreatDoor.A
set_option linter.unusedVariables false
set_option linter.unusedSimpArgs false
open Go.Sort
section
variable {P : Program} {w0 : ZI} {ι : Nat→Option Loc} {H H1 : Zb} {w w' : World} {v : Value} {G : Nat}
def ZgD (args : List Value) : M Value:=fun H=>
 match args with
 | [.map none]=>some (.map none,H)
 | [.map (some id)]=>match H[id]? with
  | some (.map es clk)=>some (.map (some H.length),H++[.map es clk])
  | some (.mapU es)=>some (.map (some H.length),H++[.mapU es])
  | _=>none
 | _=>none
structure Zc5 (P : Program) (g : FuncId) : Prop where
 c : WP P g
 nil : ∀ w,Calls P g #[.map none] w fun e w'=>e=.returned (.map none)∧w'=w
 some : ∀ b es clock w,w.heap[b]?=some (.map es clock)→Calls P g #[.map (some b)] w fun e w'=>e=.returned (.map (some w.heap.size))∧w'=w.alloc (.map es clock)
theorem ZdK {g : FuncId} (hC : Zc5 P g) : Zb9 P G w0 g ZgD:=by
 intro args H v H1 h
 refine .inl ⟨hC.c,fun ι w args' hS hr=>?_⟩
 unfold ZgD at h
 split at h
 ·cases h
  obtain ⟨x,r,rfl,hx,hr2⟩:=hr.cons_inv
  rw [hr2.nil_inv,hx.scalar_inv rfl]
  refine (hC.nil w).mono fun e w' ⟨he,hw⟩=>⟨ι,_,.refl ι,he,.sc rfl,by rw [hw];exact hS⟩
 ·obtain ⟨x,r,rfl,hx,hr2⟩:=hr.cons_inv
  obtain ⟨l,hl,rfl⟩:=hx.map_inv
  rw [hr2.nil_inv]
  split at h
  ·rename_i id _ es clk hid
   cases h
   obtain ⟨en,hb,hge,hE⟩:=hS.mapR hid hl
   refine (hC.some l.blk en clk w hb).mono fun e w' ⟨he,hw⟩=>?_
   have hnew:=hS.new (x:=.map es clk) (l:=⟨w.heap.size,0,0,0,false⟩) (.map en clk) rfl ⟨_,en,ZJ _ _ _,ZaK w _,hS.size,hE.mono (QV hS _)⟩
   exact ⟨_,_,QV hS _,he,.mp (ZJ _ _ _),by rw [hw];exact hnew⟩
  ·rename_i id _ es hid
   cases h
   obtain ⟨en,clk,es2,hb,hge,hE,hp⟩:=hS.mapUR hid hl
   refine (hC.some l.blk en clk w hb).mono fun e w' ⟨he,hw⟩=>?_
   have hnew:=hS.new (x:=.mapU es) (l:=⟨w.heap.size,0,0,0,false⟩) (.map en clk) rfl ⟨_,en,clk,es2,ZJ _ _ _,ZaK w _,hS.size,hE.mono (QV hS _),hp⟩
   exact ⟨_,_,QV hS _,he,.mp (ZJ _ _ _),by rw [hw];exact hnew⟩
  ·cases h
 ·cases h
abbrev Z0 (ks : List (List UInt8)) : List (List UInt8):=ks.mergeSort leB
structure ZcX (es : List (Value × Value × Nat)) (ks : List (List UInt8)) : Prop where
 keys : es.map (·.1)=ks.map strv
 nod : ks.Nodup
 few : ks.length≤1000000
 len : ∀ k∈ks,k.length≤1000000
theorem ZiD {a b : List UInt8} (h : strv a=strv b) : a=b:=by simpa [strv] using h
theorem Zmn {a b : List (List UInt8)} (h : a.map strv=b.map strv) : a=b:=by
 have : Function.Injective strv:=fun _ _ h=>ZiD h
 exact (List.map_inj_right (fun _ _ h=>ZiD h)).1 h
def ZdU (ks : List (List UInt8)) (H : Zb) : Option (Value × Zb):=
 if ks=[] then some (.slice none 0 0,H)
 else some (.slice (some ⟨H.length,0,none⟩) ks.length ks.length,H++[.cells ((Z0 ks).map strv) 1 true false])
open Classical in
noncomputable def Za6 (gks : List FuncId) (gc : FuncId) (args : List Value) : M Value:=fun H=>
 if h : ∃ gk c id es ks,gk∈gks∧args=[.func (.func gk) #[] #[pt c],.func (.func gc) #[] #[]]∧(∃ e,H[c]?=some (.cells [.map (some id)] e false false))∧ZcX es ks∧((∃ clk,H[id]?=some (.map es clk)∧Ws es clk)∨H[id]?=some (.mapU es)) then
  ZdU (Classical.choose (Classical.choose_spec (Classical.choose_spec (Classical.choose_spec (Classical.choose_spec h))))) H
 else none
theorem Zmc {gks : List FuncId} {gc gk : FuncId} {c id e : Nat} {es : List (Value × Value × Nat)} {ks : List (List UInt8)} (hg : gk∈gks) (hc : H[c]?=some (.cells [.map (some id)] e false false)) (hk : ZcX es ks)
  (hm : (∃ clk,H[id]?=some (.map es clk)∧Ws es clk)∨H[id]?=some (.mapU es)) : Za6 gks gc [.func (.func gk) #[] #[pt c],.func (.func gc) #[] #[]] H=ZdU ks H:=by
 have hex : ∃ gk' c' id' es' ks',gk'∈gks∧[Value.func (.func gk) #[] #[pt c],.func (.func gc) #[] #[]]=[.func (.func gk') #[] #[pt c'],.func (.func gc) #[] #[]]∧(∃ e,H[c']?=some (.cells [.map (some id')] e false false))∧ZcX es' ks'∧((∃ clk,H[id']?=some (.map es' clk)∧Ws es' clk)∨H[id']?=some (.mapU es')):=
  ⟨gk,c,id,es,ks,hg,rfl,⟨e,hc⟩,hk,hm⟩
 unfold Za6
 rw [dif_pos hex]
 congr 1
 obtain ⟨_,h2,⟨e',h3⟩,h4,h5⟩:=Classical.choose_spec (Classical.choose_spec (Classical.choose_spec (Classical.choose_spec (Classical.choose_spec hex))))
 generalize Classical.choose (Classical.choose_spec (Classical.choose_spec (Classical.choose_spec (Classical.choose_spec hex))))=ks' at h4 ⊢
 generalize Classical.choose (Classical.choose_spec (Classical.choose_spec (Classical.choose_spec hex)))=es' at h4 h5
 generalize Classical.choose (Classical.choose_spec (Classical.choose_spec hex))=id' at h3 h5
 generalize Classical.choose (Classical.choose_spec hex)=c' at h2 h3
 have ec : c=c':=by simp at h2;exact h2.2
 subst ec
 rw [hc] at h3
 have ei : id=id':=by simp at h3;exact h3.1
 subst ei
 have ees : es'=es:=by
  rcases hm with ⟨clk,h6,_⟩ | h6 <;> rcases h5 with ⟨clk',h7,_⟩ | h7 <;> rw [h6] at h7 <;> cases h7 <;> rfl
 subst ees
 exact Zmn (h4.keys.symm.trans hk.keys)
theorem Zp9 {gks : List FuncId} {gc : FuncId} {args : List Value} (h : Za6 gks gc args H=some (v,H1)) :
  ∃ gk c id e es ks,gk∈gks∧args=[.func (.func gk) #[] #[pt c],.func (.func gc) #[] #[]]∧H[c]?=some (.cells [.map (some id)] e false false)∧ZcX es ks∧((∃ clk,H[id]?=some (.map es clk)∧Ws es clk)∨H[id]?=some (.mapU es))∧ZdU ks H=some (v,H1):=by
 have h0:=h
 unfold Za6 at h
 split at h
 ·rename_i hex
  obtain ⟨gk,c,id,es,ks,h1,rfl,⟨e,h3⟩,h4,h5⟩:=hex
  rw [Zmc h1 h3 h4 h5] at h0
  exact ⟨gk,c,id,e,es,ks,h1,rfl,h3,h4,h5,h0⟩
 ·cases h
structure ZdV (P : Program) (g gk gc : FuncId) : Prop where
 c : WP P g
 run : ∀ (w : World) (Bm b : Nat) (es : Array MapEntry) (clock : Nat) (ks : List (List UInt8)),Bm < w.heap.size→w.cell? ⟨Bm,0,none⟩=some (.map (some b))→w.heap[b]?=some (.map es clock)→es.toList.map (·.key)=ks.map strv→Go.MapKept.Stamped es clock→
  (∀ k∈ks,k.length≤1000000)→ks.length≤1000000→
  Calls P g #[.func (.func gk) #[] #[.pointer (some ⟨Bm,0,none⟩)],.func (.func gc) #[] #[]] w fun e w'=>∃ (v : Value) (t : TypeId),e=.returned v∧w'.ownsRow w.heap.size t 1 v ks.length ((Z0 ks).map strv)∧(v=.slice none 0 0↔ks=[])∧Go.RowKit.Below w.heap.size w w'
theorem Sim.below (h : Sim G w0 ι H w) (hb : Go.RowKit.Below w.heap.size w w') : Sim G w0 ι H w':=by
 refine ⟨fun i x hx=>(h.obj i x hx).blk fun l hl hd=>?_,h.inj,Nat.le_trans h.size hb.size,fun b hlt=>by rw [hb.block b (Nat.lt_of_lt_of_le hlt h.size)];exact h.old b hlt,h.dom,h.glob,?_,fun b hbp=>?_,fun j cs es nx l hj hl=>(h.views j cs es nx l hj hl).to (.refl ι) fun h1 ⟨c0,el0,fr0,hc0⟩=>⟨fun c el fr hc=>⟨fr,by rw [hb.block _ (Array.getElem?_eq_some_iff.1 hc0).1];exact hc⟩,h1⟩⟩
 ·obtain ⟨l',hl',hlt⟩:=(h.obj i x hx).loc hd
  rw [hl] at hl';cases hl'
  exact hb.block _ hlt
 ·rw [hb.os,hb.tape,hb.output];exact h.rest
 ·obtain ⟨p1,p2,p3⟩:=h.prot b hbp
  have hlt : b < w.heap.size:=by
   rcases Nat.lt_or_ge b w.heap.size with h1 | h1
   ·exact h1
   ·rw [Array.getElem?_eq_none h1] at p1;cases p1
  exact ⟨by rw [hb.block b hlt];exact p1,p2,p3⟩
theorem Qq.keys {ι : Nat→Option Loc} : ∀ {es : List (Value × Value × Nat)} {en : List MapEntry},Qq ι es en→en.map (·.key)=es.map (·.1)∧en.map (·.born)=es.map (·.2.2)
 | [],[],_=>⟨rfl,rfl⟩
 | e :: es,n :: ns,h=>by
  obtain ⟨h1,h2⟩:=Qq.keys h.2
  exact ⟨by rw [List.map_cons,List.map_cons,h1,h.1.2.1],by rw [List.map_cons,List.map_cons,h2,h.1.2.2.2]⟩
 | [],_ :: _,h=>h.elim
 | _ :: _,[],h=>h.elim
theorem Zpi {a b : List (List UInt8)} (h : a.Perm b) : Z0 a=Z0 b:=mergeSort_of_perm h
theorem Zk8 (ks : List (List UInt8)) : (Z0 ks).length=ks.length:=List.length_mergeSort ks
theorem Zd8 {ks : List (List UInt8)} (h : ks.Nodup) : (ks.map strv).Nodup:=by
 rw [List.nodup_iff_pairwise_ne] at h ⊢
 rw [List.pairwise_map]
 exact h.imp fun h e=>h (ZiD e)
theorem ZnS {gks : List FuncId} {g gc : FuncId} (hgks : gks≠[]) (hC : ∀ gk∈gks,ZdV P g gk gc) : Zb9 P G w0 g (Za6 gks gc):=by
 intro args H v H1 h
 have hcall : WP P g:=by
  cases gks with
  | nil=>exact absurd rfl hgks
  | cons a l=>exact (hC a (by simp)).c
 refine .inl ⟨hcall,fun ι w args' hS hr=>?_⟩
 obtain ⟨gk,c,id,e,es,ks,hg,rfl,hc,hk,hm,ho⟩:=Zp9 h
 obtain ⟨x,r,rfl,hx,hr2⟩:=hr.cons_inv
 obtain ⟨y,r,rfl,hy,hr3⟩:=hr2.cons_inv
 rw [hr3.nil_inv]
 obtain ⟨a1,b1,rfl,ha1,hb1⟩:=hx.fn_inv
 obtain ⟨a2,b2,rfl,ha2,hb2⟩:=hy.fn_inv
 have ea1 : a1=#[]:=by have:=ha1.nil_inv;simpa using this
 have ea2 : a2=#[]:=by have:=ha2.nil_inv;simpa using this
 have eb2 : b2=#[]:=by have:=hb2.nil_inv;simpa using this
 obtain ⟨p',q',eb1,hp',hq'⟩:=hb1.cons_inv
 have:=hq'.nil_inv
 subst this
 obtain ⟨lc,hlc,rfl⟩:=hp'.ptr_inv
 have eb1 : b1=#[.pointer (some ⟨lc.blk,lc.base+0,none⟩)]:=by
  apply Array.ext'
  simpa using eb1
 subst ea1
 subst ea2
 subst eb2
 subst eb1
 obtain ⟨cc,el,fr,_,hgrow,hbc,hb5,hb6,hrc,hro,_⟩:=hS.cellsR hc hlc
 have hbase : lc.base=0:=(hro rfl).2.2 hgrow
 have hbl : lc.blk < w.heap.size:=by
  rcases Nat.lt_or_ge lc.blk w.heap.size with h1 | h1
  ·exact h1
  ·rw [Array.getElem?_eq_none h1] at hbc;cases hbc
 obtain ⟨u,hu1,hu2⟩:=hrc.at (o:=0) (by simp)
 obtain ⟨lm,hlm,hu3⟩:=RV.map_inv (id:=id) hu2
 subst hu3
 have hcell : w.cell? ⟨lc.blk,0,none⟩=some (.map (some lm.blk)):=by
  rw [ZcI hbc]
  simpa [hbase] using hu1
 obtain ⟨en,clock,ks',hmb,hkeys,hst,hperm⟩ : ∃ (en : Array MapEntry) (clock : Nat) (ks' : List (List UInt8)),w.heap[lm.blk]?=some (.map en clock)∧en.toList.map (·.key)=ks'.map strv∧Go.MapKept.Stamped en clock∧ks'.Perm ks:=by
  rcases hm with ⟨clk,hid,hst⟩ | hid
  ·obtain ⟨en,hb,_,hE⟩:=hS.mapR hid hlm
   obtain ⟨k1,k2⟩:=Qq.keys hE
   refine ⟨en,clk,ks,hb,k1.trans hk.keys,⟨fun x hx=>?_,by rw [k2];exact hst.nod,by rw [k1,hk.keys];exact Zd8 hk.nod⟩,.refl _⟩
   have : x.born∈en.toList.map (·.born):=List.mem_map.2 ⟨x,hx,rfl⟩
   rw [k2] at this
   obtain ⟨e',h1,h2⟩:=List.mem_map.1 this
   rw [← h2];exact hst.lt e' h1
  ·obtain ⟨en,clk,es2,hb,_,hE,hp⟩:=hS.mapUR hid hlm
   obtain ⟨k1,k2⟩:=Qq.keys hE
   have hpk : (es2.map (·.1)).Perm (es.map (·.1)):=by
    have:=hp.perm.map (·.1)
    rwa [Zb0,Zb0] at this
   obtain ⟨ks2,hks2⟩ : ∃ ks2 : List (List UInt8),es2.map (·.1)=ks2.map strv:=by
    refine ⟨es2.map fun e=>match e.1 with | .string s=>s.data.toList | _=>[],?_⟩
    rw [List.map_map]
    refine List.map_congr_left fun e he=>?_
    obtain ⟨s,hs⟩:=hp.strs e he
    simp [hs,strv]
   rw [hks2,hk.keys] at hpk
   have hpk2 : ks2.Perm ks:=by
    have h3:=hpk.map fun v : Value=>match v with | .string s=>s.data.toList | _=>([] : List UInt8)
    simpa [List.map_map,Function.comp_def,strv] using h3
   refine ⟨en,clk,ks2,hb,k1.trans hks2,⟨fun x hx=>?_,by rw [k2];exact hp.st.nod,by rw [k1];exact hp.nod2⟩,hpk2⟩
   have : x.born∈en.toList.map (·.born):=List.mem_map.2 ⟨x,hx,rfl⟩
   rw [k2] at this
   obtain ⟨e',h1,h2⟩:=List.mem_map.1 this
   rw [← h2];exact hp.st.lt e' h1
 have hfew:=hk.few
 have hcon:=(hC gk hg).run w lc.blk lm.blk en clock ks' hbl hcell hmb hkeys hst (fun k hm=>hk.len k (hperm.mem_iff.1 hm)) (by rw [hperm.length_eq];exact hfew)
 rw [Zpi hperm,hperm.length_eq] at hcon
 simp only [Nat.add_zero,hbase]
 refine hcon.mono fun ee w' ⟨v',t,he,hrow,hnil,hb⟩=>?_
 have hnil2 : v'=.slice none 0 0↔ks=[]:=by
  rw [hnil]
  constructor
  ·rintro rfl;exact List.eq_nil_of_length_eq_zero (by rw [← hperm.length_eq];rfl)
  ·rintro rfl;exact List.eq_nil_of_length_eq_zero (by rw [hperm.length_eq];rfl)
 have hS':=hS.below hb
 unfold ZdU at ho
 by_cases h0 : ks=[]
 ·rw [if_pos h0] at ho
  cases ho
  exact ⟨ι,_,.refl ι,he,by rw [hnil2.2 h0];exact .sc rfl,hS'⟩
 ·rw [if_neg h0] at ho
  cases ho
  rcases hrow.2 with ⟨hv,_⟩ | ⟨gb,cap,cur,rfl,hge,hgb,r1,r2,r3,r4⟩
  ·exact absurd (hnil2.1 hv) h0
  have hlen : ((Z0 ks).map strv).length=ks.length:=by rw [List.length_map,Zk8]
  rw [Nat.mul_one] at r3 r4
  have hadd:=hS'.add (o:=.cells ((Z0 ks).map strv) 1 true false) (l:=⟨gb,0,cap,1,true⟩) ⟨⟨gb,0,cap,1,true⟩,cur,t,(0,0),ZJ _ _ _,rfl,rfl,hgb,by show 0+_≤cap;omega,by show cap≤cur.size;omega,by
   show RVs _ _ ((cur.toList.drop 0).take _)
   rw [List.drop_zero,hlen,r4]
   refine ⟨rfl,fun i hi=>?_⟩
   rw [List.getD_eq_getElem?_getD,List.getElem?_eq_getElem hi]
   simp only [List.getElem_map,Option.getD_some]
   exact .sc rfl,fun _=>⟨Nat.le_trans hS.size hge,.inl rfl,fun h=>by cases h⟩,by simp,fun x hx=>by
   obtain ⟨k,_,rfl⟩:=List.mem_map.1 hx
   rfl⟩ (fun i oi li hi hw hl=>by
   have:=((hS.obj i oi hi).newer hw li hl).2
   show li.blk≠gb
   omega) (fun b hbp=>by
   have p1:=(hS.prot b hbp).1
   show gb≠b
   rintro rfl
   rw [Array.getElem?_eq_none hge] at p1;cases p1) (fun _ j cs es nx lj hj hlj hbe=>by
   rcases hS.views j cs es nx lj hj hlj with ⟨l',k1,k2⟩ | ⟨⟨c,el,fr,k1,_⟩,_⟩
   ·exact ⟨l',k1,k2⟩
   ·have:=(Array.getElem?_eq_some_iff.1 k1).1
    have hbe : lj.blk=gb:=hbe
    omega)
  refine ⟨_,_,QV hS' _,he,?_,hadd⟩
  have:=RV.slc (ι:=JN ι H.length ⟨gb,0,cap,1,true⟩) (id:=H.length) (o:=0) (n:=ks.length) (c:=ks.length) (c':=cap) (ZJ _ _ _) (Nat.le_refl _) r1 (fun h=>by cases h) (by simp)
  simpa using this
end
end Go.Proofs.YtedkoimihknggaaGreatDoor.A
namespace Go.Proofs.YtedkoimihknggaaGreatDoor.A
set_option linter.unusedVariables false
set_option linter.unusedSimpArgs false
section
variable {α : Type}
def Zg (k : List UInt8) : List (List UInt8 × α)→Option α
 | []=>none
 | p :: m=>if p.1=k then some p.2 else Zg k m
def K4 (k : List UInt8) (m : List (List UInt8 × α)) : List (List UInt8 × α):=m.filter fun p=>decide (p.1≠k)
def QK (k : List UInt8) (v : α) (m : List (List UInt8 × α)) : List (List UInt8 × α):=
 if (Zg k m).isSome then m.map fun p=>if p.1=k then (k,v) else p else m++[(k,v)]
variable {k : List UInt8} {v : α} {m : List (List UInt8 × α)}
theorem Zdx : ∀ {m : List (List UInt8 × α)},Zg k m=none↔∀ p∈m,p.1≠k
 | []=>by simp [Zg]
 | p :: m=>by
  simp only [Zg]
  split
  ·rename_i h;simp [h]
  ·rename_i h
   rw [Zdx]
   simp [h]
theorem WZ : ∀ {m : List (List UInt8 × α)} {v : α},Zg k m=some v→(k,v)∈m
 | [],v,h=>by cases h
 | p :: m,v,h=>by
  simp only [Zg] at h
  split at h
  ·rename_i hp
   cases h
   subst hp
   simp
  ·exact List.mem_cons_of_mem _ (WZ h)
theorem Zap : ∀ {m : List (List UInt8 × α)} {v : α},(m.map (·.1)).Nodup→(k,v)∈m→Zg k m=some v
 | [],v,_,h=>by cases h
 | p :: m,v,hn,h=>by
  simp only [List.map_cons,List.nodup_cons,List.mem_map,not_exists,not_and] at hn
  simp only [Zg]
  rcases List.mem_cons.1 h with h | h
  ·subst h;rw [if_pos rfl]
  ·rw [if_neg fun e=>hn.1 _ h e.symm]
   exact Zap hn.2 h
theorem ZqM : ∀ {m : List (List UInt8 × α)} {v : α},Zg k m=some v→∃ j : Nat,m[j]?=some (k,v)
 | m,v,h=>List.getElem?_of_mem (WZ h)
theorem ZeQ : ∀ {m : List (List UInt8 × α)} {j : Nat} {v0 : α},(m.map (·.1)).Nodup→m[j]?=some (k,v0)→m.set j (k,v)=m.map fun p=>if p.1=k then (k,v) else p
 | [],j,v0,_,h=>by simp at h
 | p :: m,0,v0,hn,h=>by
  have : p=(k,v0):=by simpa using h
  subst this
  simp only [List.map_cons,List.nodup_cons,List.mem_map,not_exists,not_and] at hn
  simp only [List.set_cons_zero,List.map_cons,if_true]
  congr 1
  conv=>lhs;rw [← List.map_id m]
  refine List.map_congr_left fun q hq=>?_
  rw [if_neg (hn.1 q hq)];rfl
 | p :: m,j+1,v0,hn,h=>by
  have h' : m[j]?=some (k,v0):=by simpa using h
  simp only [List.map_cons,List.nodup_cons,List.mem_map,not_exists,not_and] at hn
  have hp : ¬ p.1=k:=fun e=>hn.1 (k,v0) (List.mem_of_getElem? h') e.symm
  simp only [List.set_cons_succ,List.map_cons,if_neg hp]
  rw [ZeQ hn.2 h']
theorem Za4 : ∀ {m : List (List UInt8 × α)} {j : Nat} {v0 : α},(m.map (·.1)).Nodup→m[j]?=some (k,v0)→m.eraseIdx j=K4 k m
 | [],j,v0,_,h=>by simp at h
 | p :: m,0,v0,hn,h=>by
  have : p=(k,v0):=by simpa using h
  subst this
  simp only [List.map_cons,List.nodup_cons,List.mem_map,not_exists,not_and] at hn
  unfold K4
  rw [List.eraseIdx_cons_zero,List.filter_cons,if_neg (by simp)]
  symm
  rw [List.filter_eq_self]
  exact fun q hq=>decide_eq_true (hn.1 q hq)
 | p :: m,j+1,v0,hn,h=>by
  have h' : m[j]?=some (k,v0):=by simpa using h
  simp only [List.map_cons,List.nodup_cons,List.mem_map,not_exists,not_and] at hn
  have hp : ¬ p.1=k:=fun e=>hn.1 (k,v0) (List.mem_of_getElem? h') e.symm
  have ih:=Za4 hn.2 h'
  unfold K4 at ih ⊢
  rw [List.eraseIdx_cons_succ,List.filter_cons,if_pos (by simpa using hp),ih]
theorem ZkW (h : Zg k m=none) : K4 k m=m:=by
 unfold K4
 rw [List.filter_eq_self]
 exact fun p hp=>decide_eq_true (Zdx.1 h p hp)
theorem ZjC (h : (m.map (·.1)).Nodup) : ((QK k v m).map (·.1)).Nodup:=by
 unfold QK
 split
 ·rw [List.map_map]
  have : ((fun p : List UInt8 × α=>p.1) ∘ fun p=>if p.1=k then (k,v) else p)=fun p=>p.1:=by
   funext p
   simp only [Function.comp]
   split
   ·rename_i h;exact h.symm
   ·rfl
  rw [this];exact h
 ·rename_i hs
  have hn : Zg k m=none:=by cases e : Zg k m <;> simp_all
  rw [List.map_append,List.nodup_append]
  refine ⟨h,by simp,fun a ha b hb=>?_⟩
  have hb : b=k:=by simpa using hb
  obtain ⟨p,hp,rfl⟩:=List.mem_map.1 ha
  rw [hb];exact Zdx.1 hn p hp
theorem ZjG (h : (m.map (·.1)).Nodup) : ((K4 k m).map (·.1)).Nodup:=(List.filter_sublist.map _).nodup h
end
theorem Zp3 {a b : List UInt8} : ((⟨a.toArray⟩ : ByteArray)==⟨b.toArray⟩)=(a==b):=by
 rw [Zkf]
 simp
theorem ZcP {α : Type} {enc : α→Value} {k : List UInt8} : ∀ {es : List (Value × Value × Nat)} {m : List (List UInt8 × α)} (i : Nat),es.map kv=m.map (fun p=>(strv p.1,enc p.2))→
  (Zg k m=none∧QP .str (strv k) es i=some none)∨∃ j v,m[j]?=some (k,v)∧Zg k m=some v∧QP .str (strv k) es i=some (some (i+j,enc v))
 | [],[],i,_=>.inl ⟨rfl,rfl⟩
 | e :: es,p :: m,i,h=>by
  simp only [List.map_cons,List.cons.injEq,kv,Prod.mk.injEq] at h
  obtain ⟨⟨h1,h2⟩,h3⟩:=h
  have hs : WE .str (strv k) e.1=some (k==p.1):=by rw [h1];simp only [WE,strv,Zp3]
  simp only [QP,hs,Zg]
  by_cases hk : p.1=k
  ·rw [show (k==p.1)=true by rw [hk];simp,if_pos hk]
   exact .inr ⟨0,p.2,by rw [← hk];rfl,rfl,by rw [h2];rfl⟩
  ·rw [show (k==p.1)=false by rw [beq_eq_false_iff_ne];exact Ne.symm hk,if_neg hk]
   rcases ZcP (i+1) h3 with ⟨h4,h5⟩ | ⟨j,v,h4,h5,h6⟩
   ·exact .inl ⟨h4,h5⟩
   ·exact .inr ⟨j+1,v,by simpa using h4,h5,by simp only;rw [h6];congr 3;omega⟩
 | [],_ :: _,_,h=>by cases h
 | _ :: _,[],_,h=>by cases h
theorem ZeJ {u : Value} : ∀ {es : List (Value × Value × Nat)} {j : Nat} {p : Value × Value},(es.map kv)[j]?=some p→(Jp es j u).map kv=(es.map kv).set j (p.1,u)
 | [],j,p,h=>by simp at h
 | e :: es,0,p,h=>by
  have : kv e=p:=by simpa using h
  subst this
  simp [Jp,kv]
 | e :: es,j+1,p,h=>by
  have:=ZeJ (u:=u) (es:=es) (j:=j) (p:=p) (by simpa using h)
  simp only [Jp] at this
  simp only [Jp,List.modify_succ_cons,List.map_cons,List.set_cons_succ,this]
section
variable {α : Type} {enc : α→Value} {H H' : Zb} {id : Nat} {m : List (List UInt8 × α)} {k : List UInt8} {v : α}
structure Q9 (enc : α→Value) (H : Zb) (id : Nat) (m : List (List UInt8 × α)) : Prop where
 ex : ∃ es,es.map kv=m.map (fun p=>(strv p.1,enc p.2))∧((∃ clk,H[id]?=some (.map es clk)∧Ws es clk)∨H[id]?=some (.mapU es))
 nod : (m.map (·.1)).Nodup
theorem Q9.lt (h : Q9 enc H id m) : id < H.length:=by
 obtain ⟨es,_,h1 | h1⟩:=h.ex
 ·obtain ⟨clk,h1,_⟩:=h1;exact Je h1
 ·exact Je h1
theorem Q9.keep (h : Q9 enc H id m) (hk : H'[id]?=H[id]?) : Q9 enc H' id m:=by
 obtain ⟨es,h1,h2⟩:=h.ex
 exact ⟨⟨es,h1,by rw [hk];exact h2⟩,h.nod⟩
theorem Q9.hle (h : Q9 enc H id m) (hl : HLe H H') : Q9 enc H' id m:=h.keep (hl.step.keep id h.lt (by simp))
theorem Q9.step {o1 o2 : List Nat} (h : Q9 enc H id m) (hs : Zq o1 H o2 H') (hn : id∉o1) : Q9 enc H' id m:=h.keep (hs.keep id h.lt hn)
theorem Y5 : okK .str (strv k)=true:=rfl
theorem Q9.len (h : Q9 enc H id m) : lenM (.map (some id)) H=some (iv m.length,H):=by
 obtain ⟨es,h1,h2⟩:=h.ex
 have hl : es.length=m.length:=by have:=congrArg List.length h1;simpa using this
 unfold lenM
 rcases h2 with ⟨clk,h2,_⟩ | h2 <;> simp only [h2,hl]
theorem Q9.lkp (h : Q9 enc H id m) {z : Value} {ok : Bool} : A.lkp .str z ok (.map (some id)) (strv k) H=
  some (match Zg k m with
   | some v=>bif ok then .tuple #[enc v,.bool true] else enc v
   | none=>bif ok then .tuple #[z,.bool false] else z,H):=by
 obtain ⟨es,h1,h2⟩:=h.ex
 unfold A.lkp
 rcases ZcP (k:=k) 0 h1 with ⟨h3,h4⟩ | ⟨j,v,h3,h4,h5⟩
 ·rcases h2 with ⟨clk,h2,_⟩ | h2 <;> simp only [h2,Y5,cond_true,h3,h4]
 ·rcases h2 with ⟨clk,h2,_⟩ | h2 <;> simp only [h2,Y5,cond_true,h4,h5]
theorem Q9.mup (h : Q9 enc H id m) : ∃ H',A.mup .str (.map (some id)) (strv k) (enc v) H=some (undef,H')∧Q9 enc H' id (QK k v m)∧Zq [id] H [id] H'∧H'.length=H.length:=by
 obtain ⟨es,h1,h2⟩:=h.ex
 have hst : ∀ o,Zq [id] H [id] (H.set id o):=fun o=>⟨by simp,fun j hj hn=>List.getElem?_set_ne (fun e=>hn (by simp [e])),fun j hj=>.inl hj⟩
 have hnod:=ZjC (k:=k) (v:=v) h.nod
 have hget : ∀ {j : Nat} {v0 : α},m[j]?=some (k,v0)→(es.map kv)[j]?=some (strv k,enc v0):=fun hj=>by rw [h1,List.getElem?_map,hj];rfl
 rcases ZcP (k:=k) 0 h1 with ⟨h3,h4⟩ | ⟨j,v0,h3,h4,h5⟩
 ·have ha : QK k v m=m++[(k,v)]:=by unfold QK;rw [h3];rfl
  rw [ha] at hnod ⊢
  have hm : ∀ b,(es++[(strv k,enc v,b)]).map kv=(m++[(k,v)]).map fun p=>(strv p.1,enc p.2):=fun b=>by rw [List.map_append,List.map_append,h1];rfl
  rcases h2 with ⟨clk,h2,hs⟩ | h2
  ·refine ⟨H.set id (.map (es++[(strv k,enc v,clk)]) (clk+1)),?_,⟨⟨_,hm clk,.inl ⟨clk+1,Qu h2,⟨fun e he=>?_,?_⟩⟩⟩,hnod⟩,hst _,by simp⟩
   ·unfold A.mup;simp only [h2,Y5,cond_true,h4]
   ·rcases List.mem_append.1 he with he | he
    ·have:=hs.lt e he;omega
    ·have : e=(strv k,enc v,clk):=by simpa using he
     rw [this];exact Nat.lt_succ_self _
   ·rw [List.map_append,List.nodup_append]
    refine ⟨hs.nod,by simp,fun a ha b hb=>?_⟩
    have hb : b=clk:=by simpa using hb
    obtain ⟨e,he,rfl⟩:=List.mem_map.1 ha
    have:=hs.lt e he;omega
  ·refine ⟨H.set id (.mapU (es++[(strv k,enc v,0)])),?_,⟨⟨_,hm 0,.inr (Qu h2)⟩,hnod⟩,hst _,by simp⟩
   unfold A.mup;simp only [h2,Y5,cond_true,h4];rfl
 ·have ha : QK k v m=m.set j (k,v):=by unfold QK;rw [h4];exact (ZeQ h.nod h3).symm
  rw [ha] at hnod ⊢
  rw [Nat.zero_add] at h5
  have hm : (Jp es j (enc v)).map kv=(m.set j (k,v)).map fun p=>(strv p.1,enc p.2):=by
   rw [ZeJ (hget h3),h1,List.map_set]
  rcases h2 with ⟨clk,h2,hs⟩ | h2
  ·refine ⟨H.set id (.map (Jp es j (enc v)) clk),?_,⟨⟨_,hm,.inl ⟨clk,Qu h2,ZgO hs⟩⟩,hnod⟩,hst _,by simp⟩
   unfold A.mup;simp only [h2,Y5,cond_true,h5]
  ·refine ⟨H.set id (.mapU (Jp es j (enc v))),?_,⟨⟨_,hm,.inr (Qu h2)⟩,hnod⟩,hst _,by simp⟩
   unfold A.mup;simp only [h2,Y5,cond_true,h5]
theorem Q9.mde (h : Q9 enc H id m) : ∃ H',A.mde .str (.map (some id)) (strv k) H=some (.tuple #[],H')∧Q9 enc H' id (K4 k m)∧Zq [id] H [id] H'∧H'.length=H.length:=by
 obtain ⟨es,h1,h2⟩:=h.ex
 have hst : ∀ o,Zq [id] H [id] (H.set id o):=fun o=>⟨by simp,fun j hj hn=>List.getElem?_set_ne (fun e=>hn (by simp [e])),fun j hj=>.inl hj⟩
 have hnod:=ZjG (k:=k) h.nod
 rcases ZcP (k:=k) 0 h1 with ⟨h3,h4⟩ | ⟨j,v0,h3,h4,h5⟩
 ·refine ⟨H,?_,by rw [ZkW h3];exact h,.refl _ _,rfl⟩
  unfold A.mde
  rcases h2 with ⟨clk,h2,hs⟩ | h2 <;> simp only [h2,Y5,cond_true,h4]
 ·have ha : K4 k m=m.eraseIdx j:=(Za4 h.nod h3).symm
  rw [ha] at hnod ⊢
  rw [Nat.zero_add] at h5
  have hm : (es.eraseIdx j).map kv=(m.eraseIdx j).map fun p=>(strv p.1,enc p.2):=by
   have hg : ∀ {β γ : Type} (f : β→γ) (l : List β) (j : Nat),(l.eraseIdx j).map f=(l.map f).eraseIdx j:=fun f l j=>by
    rw [List.eraseIdx_eq_take_drop_succ,List.eraseIdx_eq_take_drop_succ,List.map_append,List.map_take,List.map_drop]
   rw [hg,hg,h1]
  rcases h2 with ⟨clk,h2,hs⟩ | h2
  ·refine ⟨H.set id (.map (es.eraseIdx j) clk),?_,⟨⟨_,hm,.inl ⟨clk,Qu h2,⟨fun e he=>hs.lt e ((List.eraseIdx_sublist es j).subset he),((List.eraseIdx_sublist es j).map _).nodup hs.nod⟩⟩⟩,hnod⟩,hst _,by simp⟩
   unfold A.mde;simp only [h2,Y5,cond_true,h5]
  ·refine ⟨H.set id (.mapU (es.eraseIdx j)),?_,⟨⟨_,hm,.inr (Qu h2)⟩,hnod⟩,hst _,by simp⟩
   unfold A.mde;simp only [h2,Y5,cond_true,h5]
theorem ZoP (H : Zb) : ∃ H',mkm H=some (.map (some H.length),H')∧Q9 enc H' H.length []∧HLe H H':=
 ⟨_,rfl,⟨⟨[],rfl,.inl ⟨0,ZM,⟨by simp,by simp⟩⟩⟩,by simp⟩,.app _ _⟩
theorem Q9.keys (h : Q9 enc H id m) {gks : List FuncId} {gc gk : FuncId} {c e : Nat} (hg : gk∈gks) (hc : H[c]?=some (.cells [.map (some id)] e false false)) (hf : m.length≤1000000) (hl : ∀ p∈m,p.1.length≤1000000) :
  ∃ v q H',Za6 gks gc [.func (.func gk) #[] #[pt c],.func (.func gc) #[] #[]] H=some (v,H')∧Zn H' v ((Z0 (m.map (·.1))).map strv) q∧HLe H H'∧∀ j∈q,H.length≤j:=by
 obtain ⟨es,h1,h2⟩:=h.ex
 have hk : ZcX es (m.map (·.1)):=⟨by
  have:=congrArg (List.map (·.1)) h1
  rw [Zb0] at this
  rw [this];simp [Function.comp_def],h.nod,by simpa using hf,fun k hk=>by
  obtain ⟨p,hp,rfl⟩:=List.mem_map.1 hk
  exact hl p hp⟩
 rw [Zmc hg hc hk h2]
 unfold ZdU
 by_cases h0 : m.map (·.1)=[]
 ·rw [if_pos h0,h0]
  have hz : Z0 ([] : List (List UInt8))=[]:=List.mergeSort_nil
  rw [hz]
  exact ⟨_,[],_,rfl,Zn.nil,.refl _,by simp⟩
 ·rw [if_neg h0]
  refine ⟨_,[H.length],_,rfl,.inr ⟨H.length,[],true,?_,rfl,by simp⟩,.app _ _,by simp⟩
  simp [Zk8]
end
end Go.Proofs.YtedkoimihknggaaGreatDoor.A

namespace Go.Proofs.YtedkoimihknggaaGreatDoor.A
set_option linter.unusedVariables false
set_option linter.unusedSimpArgs false
def ZeI (args : List Value) : M Value:=fun H=>
 match args with
 | [.string s,.int .u8 c]=>some (iv (Go.Lib.indexByte s.data.toList c.toNat.toUInt8),H)
 | _=>none
def Zex (args : List Value) : M Value:=fun H=>
 match args with
 | [.string s,.int .u8 c]=>some (iv (Go.Lib.countByte s.data.toList c.toNat.toUInt8),H)
 | _=>none
section
variable {P : Program} {G : Nat} {w0 : ZI}
theorem ZoN {g : FuncId} (he : Zj6 P g Extern.BytealgIndexByte.indexByte) : Zb9 P G w0 g ZeI:=by
 intro args H v H1 h
 refine .inr ⟨_,he,fun ι w args' hS hr=>?_⟩
 unfold ZeI at h
 split at h
 ·rename_i s c
  cases h
  obtain ⟨p',r',rfl,hp',hr'⟩:=hr.cons_inv
  obtain ⟨y',r2,rfl,hy',hr2⟩:=hr'.cons_inv
  have:=hr2.nil_inv;subst this
  have:=hy'.int_inv;subst this
  have:=hp'.scalar_inv rfl;subst this
  exact ⟨ι,_,w,.refl ι,hS,.sc rfl,Go.Lib.run_indexByteString s c w⟩
 ·cases h
theorem ZoM {g : FuncId} (he : Zj6 P g Extern.BytealgCount.count) : Zb9 P G w0 g Zex:=by
 intro args H v H1 h
 refine .inr ⟨_,he,fun ι w args' hS hr=>?_⟩
 unfold Zex at h
 split at h
 ·rename_i s c
  cases h
  obtain ⟨p',r',rfl,hp',hr'⟩:=hr.cons_inv
  obtain ⟨y',r2,rfl,hy',hr2⟩:=hr'.cons_inv
  have:=hr2.nil_inv;subst this
  have:=hy'.int_inv;subst this
  have:=hp'.scalar_inv rfl;subst this
  exact ⟨ι,_,w,.refl ι,hS,.sc rfl,Go.Lib.run_countString s c w⟩
 ·cases h
end
theorem Zod (b : UInt8) : (b.toNat : Int).toNat.toUInt8=b:=by
 rw [Int.toNat_natCast]
 simp
theorem Ztc {s : List UInt8} {b : UInt8} {H : Zb} : ZeI [strv s,.int .u8 b.toNat] H=some (iv (Go.Lib.indexByte s b),H):=by
 unfold ZeI strv
 simp only [Zod]
theorem ZsX {s : List UInt8} {b : UInt8} {H : Zb} : Zex [strv s,.int .u8 b.toNat] H=some (iv (s.count b),H):=by
 unfold Zex strv Go.Lib.countByte
 simp only [Zod]
theorem ZbL {b : UInt8} : ∀ {s : List UInt8},Go.Lib.indexByte s b=if b∈s then (((s.takeWhile (· !=b)).length : Nat) : Int) else -1
 | []=>rfl
 | c :: s=>by
  have ih:=ZbL (b:=b) (s:=s)
  unfold Go.Lib.indexByte
  by_cases hc : c=b
  ·subst hc;simp
  ·have h1 : (c==b)=false:=beq_eq_false_iff_ne.2 hc
   have h2 : (c !=b)=true:=by simp [hc]
   rw [h1,List.takeWhile_cons,h2,ih]
   by_cases hm : b∈s
   ·have : ¬ ((((s.takeWhile (· !=b)).length : Nat) : Int)==-1)=true:=by simp
    simp [hm,this]
   ·have hm2 : ¬ b∈c :: s:=by simp [hm,Ne.symm hc]
    simp [hm,Ne.symm hc]
end Go.Proofs.YtedkoimihknggaaGreatDoor.A

namespace Go.Proofs.YtedkoimihknggaaGreatDoor.A
set_option linter.unusedVariables false
set_option linter.unusedSimpArgs false
theorem ZkZ {α β : Type} {f : α→β} {m m' : List β} (h : m.Perm m') : ∀ {l : List α},l.map f=m→∃ l' : List α,l'.Perm l∧l'.map f=m':=by
 induction h with
 | nil=>intro l h;exact ⟨l,.refl _,h⟩
 | cons x _ ih=>
  intro l h
  cases l with
  | nil=>cases h
  | cons a l=>
   simp only [List.map_cons,List.cons.injEq] at h
   obtain ⟨l',h1,h2⟩:=ih h.2
   exact ⟨a :: l',h1.cons a,by simp [h.1,h2]⟩
 | swap x y l=>
  intro q h
  match q,h with
  | a :: b :: q,h=>
   simp only [List.map_cons,List.cons.injEq] at h
   exact ⟨b :: a :: q,.swap a b q,by simp [h.1,h.2.1,h.2.2]⟩
 | trans _ _ ih1 ih2=>
  intro l h
  obtain ⟨l1,h1,h2⟩:=ih1 h
  obtain ⟨l2,h3,h4⟩:=ih2 h2
  exact ⟨l2,h3.trans h1,h4⟩
def ZdW : Zi→Bool
 | .map _ _=>true
 | .mapU _=>true
 | _=>false
def Zc4 (H : Zb) : List (Value × Value × Nat)→Option (List Zi)
 | []=>some []
 | e :: es=>match e.2.1,Zc4 H es with
  | .map (some s),some l=>match H[s]? with
   | some x=>if ZdW x then some (x :: l) else none
   | none=>none
  | _,_=>none
def ZbG (base : Nat) : List (Value × Value × Nat)→List (Value × Value × Nat)
 | []=>[]
 | e :: es=>(e.1,.map (some base),0) :: ZbG (base+1) es
open Classical in
noncomputable def Znk (H : Zb) (o : Nat) : Option (List (Value × Value × Nat)):=
 match H[o]? with
 | some (.map es clk)=>if Ws es clk then some es else none
 | some (.mapU es)=>some es
 | _=>none
open Classical in
noncomputable def ZiU (args : List Value) : M Value:=fun H=>
 match args with
 | [.pointer (some ⟨g,0,none⟩)]=>match H[g]? with
  | some (.cells [.map (some o)] _ false false)=>match Znk H o with
   | some es=>match Zc4 H es with
    | some l=>if ∃ ks,ZcX es ks then some (pt (H.length+l.length+1),H++l++[.mapU (ZbG H.length es)]++[.cells [.map (some (H.length+l.length))] 1 false false]) else none
    | none=>none
   | none=>none
  | _=>none
 | _=>none
section
variable {P : Program} {w0 : ZI} {ι : Nat→Option Loc} {H H1 : Zb} {w w' : World} {v : Value} {G : Nat}
theorem ZpG {args : List Value} (h : ZiU args H=some (v,H1)) : ∃ g o e es ks l,args=[pt g]∧H[g]?=some (.cells [.map (some o)] e false false)∧Znk H o=some es∧ZcX es ks∧Zc4 H es=some l∧v=pt (H.length+l.length+1)∧H1=H++l++[.mapU (ZbG H.length es)]++[.cells [.map (some (H.length+l.length))] 1 false false]:=by
 unfold ZiU at h
 split at h
 ·rename_i g
  split at h
  ·rename_i o e hg
   split at h
   ·rename_i es hes
    split at h
    ·rename_i l hl
     split at h
     ·rename_i hk
      obtain ⟨ks,hk⟩:=hk
      cases h
      exact ⟨g,o,e,es,ks,l,rfl,hg,hes,hk,hl,rfl,rfl⟩
     ·cases h
    ·cases h
   ·cases h
  ·cases h
 ·cases h
structure ZoG (P : Program) (g : FuncId) : Prop where
 c : WP P g
 run : ∀ (w : World) (gb b : Nat) (es : Array MapEntry) (clock : Nat),gb < w.heap.size→w.cell? ⟨gb,0,none⟩=some (.map (some b))→w.heap[b]?=some (.map es clock)→Go.MapKept.Stamped es clock→
  (∀ x∈es.toList,∃ k : List UInt8,x.key=strv k)→(∀ x∈es.toList,∃ sb ses sclk,x.val=.map (some sb)∧w.heap[sb]?=some (.map ses sclk))→
  Calls P g #[.pointer (some ⟨gb,0,none⟩)] w fun e w'=>∃ (gb' ob : Nat) (el : TypeId) (en : Array MapEntry) (ck : Nat) (L : List (MapEntry × Nat)),e=.returned (.pointer (some ⟨gb',0,none⟩))∧
   w'.heap[gb']?=some (.cells #[.map (some ob)] el (0,0))∧w'.heap[ob]?=some (.map en ck)∧Go.MapKept.Stamped en ck∧
   en.toList.map (fun x=>(x.key,x.val))=L.map (fun p=>(p.1.key,Value.map (some p.2)))∧(L.map (·.1)).Perm es.toList∧
   (∀ p∈L,∃ sb,p.1.val=.map (some sb)∧w'.heap[p.2]?=w.heap[sb]?)∧(gb' :: ob :: L.map (·.2)).Nodup∧(∀ q∈gb' :: ob :: L.map (·.2),w.heap.size≤q)∧Go.RowKit.Below w.heap.size w w'
def Zbn (ι : Nat→Option Loc) (H : Zb) (b : Nat) : Prop:=(∀ i oi li,H[i]?=some oi→oi.wr=true→ι i=some li→li.blk≠b)∧
 ∀ j cs es nx lj,H[j]?=some (.view cs es nx)→ι j=some lj→lj.blk=b→∃ l',ι nx=some l'∧l'.blk=lj.blk∧l'.base=lj.base
theorem Zbn.add {o : Zi} {l : Loc} {b : Nat} (h : Zbn ι H b) (hS : Sim G w0 ι H w) (hb : l.blk≠b) (hov : o.isV=false:=by rfl) : Zbn (JN ι H.length l) (H++[o]) b:=by
 refine ⟨?_,fun j cs es nx lj hj hlj hbe=>?_⟩
 rotate_left
 ·rcases Nat.lt_trichotomy j H.length with hlt | rfl | hgt
  ·rw [List.getElem?_append_left hlt] at hj
   have : JN ι H.length l j=ι j:=by unfold JN;simp [Nat.ne_of_lt hlt]
   rw [this] at hlj
   obtain ⟨l',k1,k2⟩:=h.2 j cs es nx lj hj hlj hbe
   exact ⟨l',QV hS _ _ _ k1,k2⟩
  ·rw [ZM] at hj
   rw [Option.some.inj hj] at hov;cases hov
  ·rw [List.getElem?_eq_none (by simp;omega)] at hj;cases hj
 intro i oi li hi hw hl
 rcases Nat.lt_trichotomy i H.length with hlt | rfl | hgt
 ·rw [List.getElem?_append_left hlt] at hi
  have : JN ι H.length l i=ι i:=by unfold JN;simp [Nat.ne_of_lt hlt]
  rw [this] at hl
  exact h.1 i oi li hi hw hl
 ·have : JN ι H.length l H.length=some l:=ZJ _ _ _
  rw [this] at hl
  cases hl
  exact hb
 ·rw [List.getElem?_eq_none (by simp;omega)] at hi;cases hi
abbrev Zc7 (b : Nat) : Loc:=⟨b,0,0,0,false⟩
def ZdJ (ι : Nat→Option Loc) : Value→Value
 | .map (some s)=>.map ((ι s).map (·.blk))
 | v=>v
theorem Zql {H : Zb} {w' : World} (hS : Sim G w0 ι H w) : ∀ (es : List (Value × Value × Nat)) (L : List (MapEntry × Nat)) (l : List Zi) (ι0 : Nat→Option Loc) (H0 : Zb),Sim G w0 ι0 H0 w'→Le ι ι0→Zc4 H es=some l→
  L.map (fun p=>(p.1.key,p.1.val))=es.map (fun e=>(e.1,ZdJ ι e.2.1))→(∀ p∈L,∃ sb,p.1.val=.map (some sb)∧w'.heap[p.2]?=w.heap[sb]?)→(L.map (·.2)).Nodup→(∀ p∈L,Zbn ι0 H0 p.2∧w0.heap.size≤p.2∧∀ b∈w0.prot,p.2≠b)→
  ∃ ι1,Le ι0 ι1∧Sim G w0 ι1 (H0++l) w'∧l.length=es.length∧(∀ i p,L[i]?=some p→ι1 (H0.length+i)=some (Zc7 p.2))∧(∀ b,Zbn ι0 H0 b→b∉L.map (·.2)→Zbn ι1 (H0++l) b)
 | [],L,l,ι0,H0,h0,hle,hl,hm,_,_,_=>by
  cases hl
  have : L=[]:=by simpa using hm
  subst this
  exact ⟨ι0,.refl _,by rw [List.append_nil];exact h0,rfl,fun i p h=>by simp at h,fun b h _=>by rw [List.append_nil];exact h⟩
 | e :: es,L,l,ι0,H0,h0,hle,hl,hm,hc,hn,hf=>by
  cases L with
  | nil=>simp at hm
  | cons p L=>
   simp only [List.map_cons,List.cons.injEq,Prod.mk.injEq] at hm
   unfold Zc4 at hl
   split at hl
   ·rename_i _ _ s l' he hl'
    split at hl
    ·rename_i x hx
     split at hl
     ·rename_i hmp
      cases hl
      obtain ⟨sb,hsb,hcp⟩:=hc p (by simp)
      obtain ⟨hfp,hgp,hpp⟩:=hf p (by simp)
      rw [he] at hm
      have hv:=hm.1.2
      rw [hsb] at hv
      have hsl : ∃ ls,ι s=some ls∧ls.blk=sb:=by
       simp only [ZdJ] at hv
       cases hs : ι s with
       | none=>rw [hs] at hv;simp at hv
       | some ls=>rw [hs] at hv;exact ⟨ls,rfl,by simpa using hv.symm⟩
      obtain ⟨ls,hls,rfl⟩:=hsl
      have hR : WY w0 (JN ι0 H0.length (Zc7 p.2)) H0.length x w':=by
       have hle2 : Le ι (JN ι0 H0.length (Zc7 p.2)):=hle.trans (QV h0 _)
       cases x with
       | map es' clk=>
        obtain ⟨en,hb,hge,hE⟩:=hS.mapR hx hls
        exact ⟨_,en,ZJ _ _ _,hcp.trans hb,hgp,hE.mono hle2⟩
       | mapU es'=>
        obtain ⟨en,clk,es2,hb,hge,hE,hp⟩:=hS.mapUR hx hls
        exact ⟨_,en,clk,es2,ZJ _ _ _,hcp.trans hb,hgp,hE.mono hle2,hp⟩
       | _=>simp [ZdW] at hmp
      have hov : x.isV=false:=by cases x <;> first | rfl | simp [ZdW] at hmp
      have h1:=h0.add hR hfp.1 hpp (fun _=>hfp.2) hov
      simp only [List.map_cons,List.nodup_cons] at hn
      obtain ⟨ι1,a1,a2,a3,a4,a5⟩:=Zql hS es L l' _ _ h1 (hle.trans (QV h0 _)) hl' hm.2 (fun q hq=>hc q (by simp [hq])) hn.2 (fun q hq=>by
       obtain ⟨b1,b2⟩:=hf q (by simp [hq])
       exact ⟨b1.add h0 (fun e=>hn.1 (List.mem_map.2 ⟨q,hq,e.symm⟩)) hov,b2⟩)
      refine ⟨ι1,(QV h0 _).trans a1,by rw [List.append_assoc,List.singleton_append] at a2;exact a2,by simp [a3],fun i q hi=>?_,fun b hb hnb=>?_⟩
      ·cases i with
       | zero=>
        have : p=q:=by simpa using hi
        subst this
        exact a1 _ _ (ZJ _ _ _)
       | succ i=>
        have:=a4 i q (by simpa using hi)
        rwa [List.length_append,List.length_singleton,Nat.add_assoc,Nat.add_comm 1 i] at this
      ·simp only [List.map_cons,List.mem_cons,not_or] at hnb
       have:=a5 b (hb.add h0 (Ne.symm hnb.1) hov) hnb.2
       rwa [List.append_assoc,List.singleton_append] at this
     ·cases hl
    ·cases hl
   ·cases hl
theorem Zbn.sim (h : Sim G w0 ι H w) {b : Nat} (hb : w.heap.size≤b) : Zbn ι H b:=⟨fun i oi li hi hw hl=>by
 have:=((h.obj i oi hi).newer hw li hl).2
 omega,fun j cs es nx lj hj hlj hbe=>by
 rcases h.views j cs es nx lj hj hlj with ⟨l',k1,k2⟩ | ⟨⟨c,el,fr,k1,_⟩,_⟩
 ·exact ⟨l',k1,k2⟩
 ·have:=(Array.getElem?_eq_some_iff.1 k1).1
  omega⟩
theorem ZkT (h : Sim G w0 ι H w) {b : Nat} (hb : w.heap.size≤b) : ∀ c∈w0.prot,b≠c:=fun c hc e=>by
 have p1:=(h.prot c hc).1
 subst e
 rw [Array.getElem?_eq_none hb] at p1;cases p1
def Zmd (B : List ((MapEntry × Nat) × Nat)) (en : List MapEntry) : List (Value × Value × Nat):=List.zipWith (fun b x=>(b.1.1.key,Value.map (some b.2),x.born)) B en
theorem ZmS : ∀ (B : List ((MapEntry × Nat) × Nat)) (en : List MapEntry),en.map (fun x=>(x.key,x.val))=B.map (fun b=>(b.1.1.key,Value.map (some b.1.2)))→(∀ b∈B,ZV b.1.1.key=true∧ι b.2=some (Zc7 b.1.2))→
  Qq ι (Zmd B en) en∧(Zmd B en).map kv=B.map (fun b=>(b.1.1.key,Value.map (some b.2)))∧(Zmd B en).map (·.2.2)=en.map (·.born)
 | [],[],_,_=>⟨trivial,rfl,rfl⟩
 | [],_ :: _,h,_=>by simp at h
 | _ :: _,[],h,_=>by simp at h
 | b :: B,x :: en,h,hb=>by
  simp only [List.map_cons,List.cons.injEq,Prod.mk.injEq] at h
  obtain ⟨h1,h2,h3⟩:=ZmS B en h.2 (fun c hc=>hb c (by simp [hc]))
  obtain ⟨g1,g2⟩:=hb b (by simp)
  have hm : RV ι (.map (some b.2)) (.map (some b.1.2)):=.mp (l:=Zc7 b.1.2) g2
  refine ⟨⟨⟨g1,h.1.1,by rw [h.1.2];exact hm,rfl⟩,h1⟩,?_,?_⟩
  ·simp only [List.map_cons]
   rw [← h2];rfl
  ·simp only [List.map_cons]
   rw [← h3];rfl
theorem Zoj : ∀ (es : List (Value × Value × Nat)) (L : List (MapEntry × Nat)) (base : Nat),L.map (fun p=>p.1.key)=es.map (·.1)→
  (ZbG base es).map kv=(L.zipIdx base).map (fun b=>(b.1.1.key,Value.map (some b.2)))∧(ZbG base es).map (·.1)=es.map (·.1)
 | [],L,base,h=>by
  have : L=[]:=by simpa using h
  subst this
  exact ⟨rfl,rfl⟩
 | e :: es,[],base,h=>by simp at h
 | e :: es,p :: L,base,h=>by
  simp only [List.map_cons,List.cons.injEq] at h
  obtain ⟨h1,h2⟩:=Zoj es L (base+1) h.2
  refine ⟨?_,?_⟩
  ·simp only [ZbG,List.map_cons,List.zipIdx_cons]
   rw [h1,← h.1];rfl
  ·simp only [ZbG,List.map_cons]
   rw [h2]
theorem ZiL : ∀ {es : List (Value × Value × Nat)} {l : List Zi},Zc4 H es=some l→∀ e∈es,∃ s x,e.2.1=.map (some s)∧H[s]?=some x∧ZdW x=true
 | [],l,h,e,he=>by cases he
 | e0 :: es,l,h,e,he=>by
  unfold Zc4 at h
  split at h
  ·rename_i _ _ s l' hv hl'
   split at h
   ·rename_i x hx
    split at h
    ·rename_i hm
     rcases List.mem_cons.1 he with rfl | he
     ·exact ⟨s,x,hv,hx,hm⟩
     ·exact ZiL hl' e he
    ·cases h
   ·cases h
  ·cases h
theorem Zk2 (hle : ∀ e : Value × Value × Nat,∀ n,RV ι e.2.1 n→(∃ s,e.2.1=.map (some s))→n=ZdJ ι e.2.1) : ∀ (es : List (Value × Value × Nat)) (en : List MapEntry),Qq ι es en→(∀ e∈es,∃ s,e.2.1=.map (some s))→en.map (fun x=>(x.key,x.val))=es.map (fun e=>(e.1,ZdJ ι e.2.1))
 | [],[],_,_=>rfl
 | [],_ :: _,h,_=>h.elim
 | _ :: _,[],h,_=>h.elim
 | e :: es,n :: ns,h,hs=>by
  simp only [List.map_cons]
  rw [Zk2 hle es ns h.2 (fun e he=>hs e (by simp [he])),h.1.2.1,hle e _ h.1.2.2.1 (hs e (by simp))]
theorem ZsL {e : Value × Value × Nat} {n : Value} (h : RV ι e.2.1 n) (hs : ∃ s,e.2.1=.map (some s)) : n=ZdJ ι e.2.1:=by
 obtain ⟨s,hs⟩:=hs
 rw [hs] at h ⊢
 obtain ⟨l,hl,rfl⟩:=h.map_inv
 simp [ZdJ,hl]
theorem Zpp {g : FuncId} (hC : ZoG P g) : Zb9 P G w0 g ZiU:=by
 intro args H v H1 h
 refine .inl ⟨hC.c,fun ι w args' hS hr=>?_⟩
 obtain ⟨gi,o,e1,es,ks,l,rfl,hg,hes,hk,hl,rfl,rfl⟩:=ZpG h
 obtain ⟨x,r,rfl,hx,hr2⟩:=hr.cons_inv
 rw [hr2.nil_inv]
 obtain ⟨lc,hlc,rfl⟩:=hx.ptr_inv
 obtain ⟨cc,el,fr,_,hgrow,hbc,hb5,hb6,hrc,hro,_⟩:=hS.cellsR hg hlc
 have hbase : lc.base=0:=(hro rfl).2.2 hgrow
 have hbl : lc.blk < w.heap.size:=by
  rcases Nat.lt_or_ge lc.blk w.heap.size with h1 | h1
  ·exact h1
  ·rw [Array.getElem?_eq_none h1] at hbc;cases hbc
 obtain ⟨u,hu1,hu2⟩:=hrc.at (o:=0) (by simp)
 obtain ⟨lm,hlm,hu3⟩:=RV.map_inv (id:=o) hu2
 subst hu3
 have hcell : w.cell? ⟨lc.blk,0,none⟩=some (.map (some lm.blk)):=by
  rw [ZcI hbc]
  simpa [hbase] using hu1
 have hsets:=ZiL hl
 have hismap : ∀ e∈es,∃ s,e.2.1=.map (some s):=fun e he=>by obtain ⟨s,_,h1,_⟩:=hsets e he;exact ⟨s,h1⟩
 obtain ⟨en,clock,es2,hmb,hE,hperm,hst⟩ : ∃ (en : Array MapEntry) (clock : Nat) (es2 : List (Value × Value × Nat)),w.heap[lm.blk]?=some (.map en clock)∧WA ι es2 en∧(es2.map kv).Perm (es.map kv)∧Ws es2 clock:=by
  unfold Znk at hes
  split at hes
  ·rename_i es0 clk hid
   split at hes
   ·rename_i hst
    cases hes
    obtain ⟨en,hb,_,hE⟩:=hS.mapR hid hlm
    exact ⟨en,_,_,hb,hE,.refl _,hst⟩
   ·cases hes
  ·rename_i es0 hid
   cases hes
   obtain ⟨en,clk,es2,hb,_,hE,hp⟩:=hS.mapUR hid hlm
   exact ⟨en,clk,es2,hb,hE,hp.perm,hp.st⟩
  ·cases hes
 have hmem2 : ∀ e∈es2,∃ f∈es,f.1=e.1∧f.2.1=e.2.1:=fun e he=>by
  have : kv e∈es.map kv:=hperm.mem_iff.1 (List.mem_map.2 ⟨e,he,rfl⟩)
  obtain ⟨f,hf,h1⟩:=List.mem_map.1 this
  unfold kv at h1
  simp only [Prod.mk.injEq] at h1
  exact ⟨f,hf,h1.1,h1.2⟩
 have hismap2 : ∀ e∈es2,∃ s,e.2.1=.map (some s):=fun e he=>by
  obtain ⟨f,hf,_,h2⟩:=hmem2 e he
  rw [← h2];exact hismap f hf
 obtain ⟨k1,k2⟩:=Qq.keys hE
 have hkv:=Zk2 (fun e n h hs=>ZsL h hs) es2 en.toList hE hismap2
 have hkeyp : (es2.map (·.1)).Perm (ks.map strv):=by
  have h3:=hperm.map (·.1)
  rw [Zb0,Zb0] at h3
  rw [← hk.keys];exact h3
 have hstr : ∀ x∈en.toList,∃ k : List UInt8,x.key=strv k:=fun x hx=>by
  have h3 : x.key∈es2.map (·.1):=by rw [← k1];exact List.mem_map.2 ⟨x,hx,rfl⟩
  obtain ⟨k,_,h4⟩:=List.mem_map.1 (hkeyp.mem_iff.1 h3)
  exact ⟨k,h4.symm⟩
 have hsets2 : ∀ x∈en.toList,∃ sb ses sclk,x.val=.map (some sb)∧w.heap[sb]?=some (.map ses sclk):=fun x hx=>by
  have h3 : (x.key,x.val)∈es2.map (fun e=>(e.1,ZdJ ι e.2.1)):=by rw [← hkv];exact List.mem_map.2 ⟨x,hx,rfl⟩
  obtain ⟨e,he,h4⟩:=List.mem_map.1 h3
  obtain ⟨f,hf,_,hf2⟩:=hmem2 e he
  obtain ⟨s,y,hy1,hy2,hy3⟩:=hsets f hf
  simp only [Prod.mk.injEq] at h4
  rw [← hf2,hy1] at h4
  have hd : y≠.dead:=by rintro rfl;simp [ZdW] at hy3
  obtain ⟨ls,hls,_⟩:=(hS.obj s y hy2).loc hd
  have h5 : x.val=.map (some ls.blk):=by rw [← h4.2];simp [ZdJ,hls]
  cases y with
  | map es' clk=>
   obtain ⟨en',hb,_,_⟩:=hS.mapR hy2 hls
   exact ⟨_,_,_,h5,hb⟩
  | mapU es'=>
   obtain ⟨en',clk,_,hb,_,_⟩:=hS.mapUR hy2 hls
   exact ⟨_,_,_,h5,hb⟩
  | _=>simp [ZdW] at hy3
 have hstamp : Go.MapKept.Stamped en clock:=by
  refine ⟨fun x hx=>?_,by rw [k2];exact hst.nod,by rw [k1];exact hkeyp.nodup_iff.2 (Zd8 hk.nod)⟩
  have h3 : x.born∈en.toList.map (·.born):=List.mem_map.2 ⟨x,hx,rfl⟩
  rw [k2] at h3
  obtain ⟨e',h1,h2⟩:=List.mem_map.1 h3
  rw [← h2];exact hst.lt e' h1
 simp only [Nat.add_zero,hbase]
 refine (hC.run w lc.blk lm.blk en clock hbl hcell hmb hstamp hstr hsets2).mono fun ee w' ⟨gb',ob,el',en',ck,L,he,hgb,hob,hst',hen',hL,hcp,hnd,hge,hb⟩=>?_
 have hS':=hS.below hb
 have hLkv : (L.map fun p=>(p.1.key,p.1.val)).Perm (es.map fun e=>(e.1,ZdJ ι e.2.1)):=by
  have h3:=hL.map (fun x : MapEntry=>(x.key,x.val))
  rw [List.map_map,hkv] at h3
  have h4:=hperm.map (fun q : Value × Value=>(q.1,ZdJ ι q.2))
  rw [List.map_map,List.map_map] at h4
  exact h3.trans h4
 obtain ⟨L',hL',hLm⟩:=ZkZ hLkv rfl
 simp only [List.nodup_cons,List.mem_cons,not_or] at hnd
 obtain ⟨⟨n1,n2⟩,n3,n4⟩:=hnd
 have hnod' : (L'.map (·.2)).Nodup:=(hL'.map _).nodup_iff.2 n4
 have hgeL : ∀ p∈L',w.heap.size≤p.2:=fun p hp=>hge _ (by simp only [List.mem_cons,List.mem_map];exact .inr (.inr ⟨p,hL'.mem_iff.1 hp,rfl⟩))
 obtain ⟨ι1,a1,a2,a3,a4,a5⟩:=Zql hS es L' l ι H hS' (.refl _) hl hLm (fun p hp=>hcp p (hL'.mem_iff.1 hp)) hnod' (fun p hp=>⟨Zbn.sim hS (hgeL p hp),Nat.le_trans hS.size (hgeL p hp),ZkT hS (hgeL p hp)⟩)
 have hobge:=hge ob (by simp)
 have hgbge:=hge gb' (by simp)
 have hobF : Zbn ι1 (H++l) ob:=a5 ob (Zbn.sim hS hobge) fun hm=>n3 ((hL'.map (·.2)).mem_iff.1 hm)
 have hgbF : Zbn ι1 (H++l) gb':=a5 gb' (Zbn.sim hS hgbge) fun hm=>n2 ((hL'.map (·.2)).mem_iff.1 hm)
 obtain ⟨B,hB,hBm⟩:=ZkZ (f:=Prod.fst) (l:=L'.zipIdx H.length) (m':=L) (by rw [List.zipIdx_map_fst];exact hL') rfl
 have hBi : ∀ b∈B,ZV b.1.1.key=true∧ι1 b.2=some (Zc7 b.1.2):=fun b hb=>by
  have hb':=hB.mem_iff.1 hb
  obtain ⟨i,hi⟩:=List.getElem?_of_mem hb'
  rw [List.getElem?_zipIdx] at hi
  cases hq : L'[i]? with
  | none=>rw [hq] at hi;cases hi
  | some q=>
   rw [hq] at hi
   have hi : (q,H.length+i)=b:=by simpa using hi
   subst hi
   refine ⟨?_,a4 i q hq⟩
   have hqL : q.1∈L.map (·.1):=List.mem_map.2 ⟨q,hL'.mem_iff.1 (List.mem_of_getElem? hq),rfl⟩
   obtain ⟨k,hk⟩:=hstr q.1 (hL.mem_iff.1 hqL)
   show ZV q.1.key=true
   rw [hk];rfl
 have hen2 : en'.toList.map (fun x=>(x.key,x.val))=B.map (fun b=>(b.1.1.key,Value.map (some b.1.2))):=by
  rw [hen',← hBm,List.map_map];rfl
 obtain ⟨z1,z2,z3⟩:=ZmS B en'.toList hen2 hBi
 have hkeysL : L'.map (fun p=>p.1.key)=es.map (·.1):=by
  have:=congrArg (List.map Prod.fst) hLm
  simpa [List.map_map,Function.comp_def] using this
 obtain ⟨y1,y2⟩:=Zoj es L' H.length hkeysL
 have hle1 : Le ι ι1:=a1
 have hlen : (H++l).length=H.length+l.length:=List.length_append
 have hPU : YV (Zmd B en'.toList) ck (ZbG H.length es):=by
  refine ⟨?_,⟨fun e he=>?_,?_⟩,⟨fun e he=>?_,?_⟩⟩
  ·rw [z2,y1]
   exact hB.map _
  ·have : e.1∈(ZbG H.length es).map (·.1):=List.mem_map.2 ⟨e,he,rfl⟩
   rw [y2,hk.keys] at this
   obtain ⟨k,_,h4⟩:=List.mem_map.1 this
   exact ⟨_,h4.symm⟩
  ·rw [y2,hk.keys];exact Zd8 hk.nod
  ·have : e.2.2∈(Zmd B en'.toList).map (·.2.2):=List.mem_map.2 ⟨e,he,rfl⟩
   rw [z3] at this
   obtain ⟨x,hx,h4⟩:=List.mem_map.1 this
   rw [← h4];exact hst'.1 x hx
  ·rw [z3];exact hst'.2.1
 have hO:=a2.add (o:=.mapU (ZbG H.length es)) (l:=Zc7 ob) ⟨Zc7 ob,en',ck,_,ZJ _ _ _,hob,Nat.le_trans hS.size hobge,z1.mono (QV a2 _),hPU⟩ hobF.1 (ZkT hS hobge) (fun _=>hobF.2)
 have hgbF2 : Zbn (JN ι1 (H++l).length (Zc7 ob)) (H++l++[.mapU (ZbG H.length es)]) gb':=hgbF.add a2 (Ne.symm n1)
 have hN:=hO.add (o:=.cells [.map (some (H.length+l.length))] 1 false false) (l:=⟨gb',0,1,1,false⟩) (by
  refine ⟨⟨gb',0,1,1,false⟩,_,_,_,ZJ _ _ _,rfl,rfl,hgb,by simp,by simp,?_,fun _=>⟨Nat.le_trans hS.size hgbge,.inl rfl,fun _=>rfl⟩,by simp,by simp [oneCell]⟩
  refine ⟨rfl,fun i hi=>?_⟩
  have : i=0:=by simpa using hi
  subst this
  refine .mp (l:=Zc7 ob) (QV hO _ _ _ ?_)
  rw [← hlen]
  exact ZJ _ _ _) hgbF2.1 (ZkT hS hgbge) (fun _=>hgbF2.2)
 refine ⟨_,_,(hle1.trans (QV a2 _)).trans (QV hO _),he,?_,hN⟩
 have hp:=RV.ptr (ι:=JN (JN ι1 (H++l).length (Zc7 ob)) (H++l++[Zi.mapU (ZbG H.length es)]).length ⟨gb',0,1,1,false⟩) (o:=0) (ZJ _ _ _)
 have hlen2 : (H++l++[Zi.mapU (ZbG H.length es)]).length=H.length+l.length+1:=by rw [List.length_append,List.length_append,List.length_singleton]
 rw [hlen2] at hp ⊢
 exact hp
end
end Go.Proofs.YtedkoimihknggaaGreatDoor.A

namespace Go.Proofs.YtedkoimihknggaaGreatDoor.A
set_option linter.unusedVariables false
set_option linter.unusedSimpArgs false
open Go.RowKit Go.Maps Go.ChangeMaps Go.MapKept
section
variable {P : Program} (w : World) {ops : Array Oper} {rest : List Oper} {o : Oper} {a : Act} {Q : Exit→Act→World→Prop}
theorem Zid (hg : o.guard=none) (m : Operand) (t : TypeId) (hop : o.op=Op.range t m) (k e : TypeId) (ht : P.underlying t=some (.map k e)) (b : Nat) (es : Array MapEntry) (clock : Nat)
  (hm : a.eval m=.map (some b)) (hb : w.heap[b]?=some (.map es clock))
  (hK : wpList P ops Q rest (a.put o.dst (.pointer (some ⟨w.heap.size,0,none⟩))) (w.alloc (.mapIter (some b) clock #[] clock))) :
  wpList P ops Q (o :: rest) a w:=by
 refine wpList_plain hg fun K' hK'=>?_
 have hrun:=run_range_map (P:=P) w t k e b es clock ht hb
 unfold Oper.wp
 simp [execOp,hop,hm,hrun,Result.andThen]
 exact hK' _ _ hK
theorem Zju (hg : o.guard=none) (it : Operand) (hop : o.op=Op.next it false) (b r since c0 clock : Nat) (seen : Array Nat) (es : Array MapEntry)
  (hit : a.eval it=.pointer (some ⟨r,0,none⟩)) (hr : w.heap[r]?=some (.mapIter (some b) since seen c0)) (hb : w.heap[b]?=some (.map es clock)) (hst : Go.MapKept.Stamped es clock) (hsince : since=clock) (hsc : since≤c0)
  (hDone : (∀ x∈es.toList,x.born∈seen)→wpList P ops Q rest (a.put o.dst (.tuple #[.bool false])) w)
  (hMore : ∀ (e : MapEntry) (w' : World),e∈es.toList→e.born∉seen→w'.heap[r]?=some (.mapIter (some b) since (seen.push e.born) clock)→(leftOf es (seen.push e.born)).size < (leftOf es seen).size→
   w.grownBy w' (some r)→w'.heap.size=w.heap.size→(Instr.entry (.pointer (some ⟨r,0,none⟩))).run P w'=.ok (.tuple #[e.key,e.val]) w'→wpList P ops Q rest (a.put o.dst (.tuple #[.bool true,e.key,e.val])) w') :
  wpList P ops Q (o :: rest) a w:=by
 refine wpList_plain hg fun K' hK'=>?_
 unfold Oper.wp
 have hold : ∀ x∈es.toList,x.born < since:=by rw [hsince];exact hst.1
 rcases run_next_at (P:=P) w o.type r b since c0 seen es clock hr hb hold hsc with ⟨h0,hrun⟩ | ⟨e,he,w1,hal,hrun⟩
 ·simp [execOp,hop,hit,hrun,Result.andThen]
  refine hK' _ _ (hDone fun x hx=>?_)
  have:=all_seen es seen h0 x hx
  simpa using this
 ·obtain ⟨hem,hes⟩:=mem_left he
  have hr1 : w1.heap[r]?=some (.mapIter (some b) since seen c0):=by rcases hal with rfl | rfl <;> exact hr
  have hb1 : w1.heap[b]?=some (.map es clock):=by rcases hal with rfl | rfl <;> exact hb
  have hset:=heap_set (o':=.mapIter (some b) since (seen.push e.born) clock) hr1
  have hne : r≠b:=by
   intro e1
   rw [e1,hb] at hr
   cases hr
  have hb' : (setBlock w1 r (.mapIter (some b) since (seen.push e.born) clock)).heap[b]?=some (.map es clock):=(hset.2 b (fun e1=>hne e1.symm)).trans hb1
  simp [execOp,hop,hit,hrun,Result.andThen]
  refine hK' _ _ (hMore e _ hem (by simpa using hes) hset.1 (left_shrinks es seen e he) ?_ ?_ (run_entry_at _ r b since seen es clock e hset.1 hb' hem ((stamped_iff es clock).1 hst).2.1))
  ·rcases hal with rfl | rfl <;> exact ⟨rfl,rfl,rfl,by simp [setBlock],fun i _ hi=>hset.2 i (fun e1=>hi (by rw [e1]))⟩
  ·rcases hal with rfl | rfl <;> simp [setBlock]
end
theorem JR {w : World} {o : Obj} {b : Nat} (h : b < w.heap.size) : (w.alloc o).heap[b]?=w.heap[b]?:=(MapKept.heap_alloc w o).2 b h
theorem Znt {P : Program} {t kt e : TypeId} {k : List UInt8} {en : Array MapEntry} {ck ob : Nat} {W : World} (ht : P.underlying t=some (.map kt e)) (htk : tkT P kt=.str) (hb : W.heap[ob]?=some (.map en ck)) (hkeys : ∀ x∈en.toList,∃ k',x.key=strv k'∧k'≠k) (v : Value) :
  ∃ W2,(Instr.mapUpdate t (.map (some ob)) (strv k) v).run P W=.ok () W2∧W2=setB W ob (.map (en.push { key:=strv k,val:=v,born:=ck }) (ck+1)):=by
 have hok : okK (tkT P kt) (strv k)=true:=by rw [htk];rfl
 obtain ⟨d,hd,hsk,hchk⟩:=KG hok
 have hE : ∀ l : List MapEntry,(∀ x∈l,∃ k',x.key=strv k'∧k'≠k)→Qq (fun _=>none) (l.map fun x=>(x.key,Value.tuple #[],x.born)) l∧∀ i,QP .str (strv k) (l.map fun x=>(x.key,Value.tuple #[],x.born)) i=some none:=by
  intro l
  induction l with
  | nil=>intro _;exact ⟨trivial,fun _=>rfl⟩
  | cons x l ih=>
   intro h
   obtain ⟨k',hk1,hk2⟩:=h x (by simp)
   obtain ⟨h1,h2⟩:=ih fun y hy=>h y (by simp [hy])
   refine ⟨⟨⟨by show ZV x.key=true;rw [hk1];rfl,rfl,.un,rfl⟩,h1⟩,fun i=>?_⟩
   have hs : WE .str (strv k) x.key=some (k==k'):=by rw [hk1];simp only [WE,strv,Zp3]
   simp only [List.map_cons,QP,hs]
   rw [show (k==k')=false by rw [beq_eq_false_iff_ne];exact Ne.symm hk2]
   exact h2 _
 obtain ⟨h1,h2⟩:=hE en.toList hkeys
 obtain ⟨r',h3,h4⟩:=JD (k:=strv k) hd 0 h1 (by rw [htk];exact h2 0)
 cases r' with
 | some p=>exact h4.elim
 | none=>
  refine ⟨_,?_,rfl⟩
  simp only [Instr.mapUpdate,Sem.run_bind,run_underlying ht,Result.andThen_ok,Qs hb,hchk,Qx hd h3,Jm hb]
structure CpR (w : World) (b r gb' ob : Nat) (es : Array MapEntry) (clock : Nat) (seen : Array Nat) (c0 : Nat) (en : Array MapEntry) (ck : Nat) (L : List (MapEntry × Nat)) (el : TypeId) (wr : World) : Prop where
 it : wr.heap[r]?=some (.mapIter (some b) clock seen c0)
 c0 : clock≤c0
 g : wr.heap[gb']?=some (.cells #[.map (some ob)] el (0,0))
 o : wr.heap[ob]?=some (.map en ck)
 st : Go.MapKept.Stamped en ck
 ent : en.toList.map (fun x=>(x.key,x.val))=L.map (fun p=>(p.1.key,Value.map (some p.2)))
 sn : L.map (·.1.born)=seen.toList
 mem : ∀ p∈L,p.1∈es.toList∧∃ sb ses sclk,p.1.val=.map (some sb)∧w.heap[sb]?=some (.map ses sclk)∧wr.heap[p.2]?=some (.map ses sclk)
 nod : (r :: gb' :: ob :: L.map (·.2)).Nodup
 ge : ∀ q∈r :: gb' :: ob :: L.map (·.2),w.heap.size≤q
 snod : seen.toList.Nodup
 bel : Below w.heap.size w wr
section
variable {w wr w1 : World} {b r g o : Nat} {es : Array MapEntry} {clock : Nat} {seen : Array Nat} {c0 : Nat} {en : Array MapEntry} {ck : Nat} {L : List (MapEntry × Nat)} {el : TypeId}
theorem CpR.lts (h : CpR w b r g o es clock seen c0 en ck L el wr) : r < wr.heap.size∧g < wr.heap.size∧o < wr.heap.size:=⟨(Array.getElem?_eq_some_iff.1 h.it).1,(Array.getElem?_eq_some_iff.1 h.g).1,(Array.getElem?_eq_some_iff.1 h.o).1⟩
theorem CpR.keys (h : CpR w b r g o es clock seen c0 en ck L el wr) (hst : Go.MapKept.Stamped es clock) {e : MapEntry} (he1 : e∈es.toList) (he2 : e.born∉seen) : ∀ x∈en.toList,x.key≠e.key:=fun x hx e4=>by
 have h3 : (x.key,x.val)∈L.map (fun p=>(p.1.key,Value.map (some p.2))):=by rw [← h.ent];exact List.mem_map.2 ⟨x,hx,rfl⟩
 obtain ⟨p,hp,h4⟩:=List.mem_map.1 h3
 simp only [Prod.mk.injEq] at h4
 obtain ⟨hm,_⟩:=h.mem p hp
 have h5 : p.1=e:=entry_eq_of_key ((stamped_iff es clock).1 hst).2.2 hm he1 (h4.1.trans e4)
 have : p.1.born∈seen.toList:=by rw [← h.sn];exact List.mem_map.2 ⟨p,hp,rfl⟩
 rw [h5] at this
 exact he2 (by simpa using this)
theorem CpR.next (h : CpR w b r g o es clock seen c0 en ck L el wr) (hst : Go.MapKept.Stamped es clock) {e : MapEntry} {sb sclk : Nat} {ses : Array MapEntry} (he1 : e∈es.toList) (he2 : e.born∉seen) (hev : e.val=.map (some sb)) (hsb : w.heap[sb]?=some (.map ses sclk))
  (hit : w1.heap[r]?=some (.mapIter (some b) clock (seen.push e.born) clock)) (hgr : wr.grownBy w1 (some r)) (hsz : w1.heap.size=wr.heap.size) :
  CpR w b r g o es clock (seen.push e.born) clock (en.push { key:=e.key,val:=.map (some wr.heap.size),born:=ck }) (ck+1) (L++[(e,wr.heap.size)]) el
   (setB (w1.alloc (.map ses sclk)).drew o (.map (en.push { key:=e.key,val:=.map (some wr.heap.size),born:=ck }) (ck+1))):=by
 obtain ⟨l1,l2,l3⟩:=h.lts
 have hnod:=h.nod
 simp only [List.nodup_cons,List.mem_cons,not_or] at hnod
 obtain ⟨⟨n1,n2,n3⟩,⟨n4,n5⟩,n6,n7⟩:=hnod
 generalize hX : Obj.map (en.push { key:=e.key,val:=.map (some wr.heap.size),born:=ck }) (ck+1)=X
 have hge:=h.ge
 have hLlt : ∀ p∈L,p.2 < wr.heap.size:=fun p hp=>by
  obtain ⟨_,sb',ses',sclk',h1,h2,h3⟩:=h.mem p hp
  exact (Array.getElem?_eq_some_iff.1 h3).1
 have keep : ∀ c,c < wr.heap.size→c≠o→c≠r→(setB (w1.alloc (.map ses sclk)).drew o X).heap[c]?=wr.heap[c]?:=fun c hc h1 h2=>by
  rw [Qt h1]
  show (w1.alloc (.map ses sclk)).heap[c]?=_
  rw [JR (by omega),hgr.block c hc (by simpa using h2)]
 have hk:=h.keys hst he1 he2
 have hst2:=(stamped_iff en ck).1 h.st
 refine ⟨?_,Nat.le_refl _,by rw [keep g l2 n4 (Ne.symm n1)];exact h.g,?_,?_,?_,?_,?_,?_,?_,?_,?_⟩
 ·rw [Qt n2]
  show (w1.alloc (.map ses sclk)).heap[r]?=_
  rw [JR (by omega)];exact hit
 ·rw [ZaN (by show o < (w1.alloc (.map ses sclk)).heap.size;simp;omega),hX]
 ·refine (stamped_iff _ _).2 ⟨fun x hx=>?_,?_,?_⟩
  ·rw [Array.toList_push,List.mem_append] at hx
   rcases hx with hx | hx
   ·exact Nat.lt_succ_of_lt (hst2.1 x hx)
   ·have : x={ key:=e.key,val:=.map (some wr.heap.size),born:=ck }:=by simpa using hx
    rw [this];exact Nat.lt_succ_self _
  ·rw [Array.toList_push,List.map_append,List.nodup_append]
   refine ⟨hst2.2.1,by simp,fun a ha c hc=>?_⟩
   have hc : c=ck:=by simpa using hc
   obtain ⟨x,hx,rfl⟩:=List.mem_map.1 ha
   have:=hst2.1 x hx
   omega
  ·rw [Array.toList_push,List.pairwise_append]
   refine ⟨hst2.2.2,by simp,fun x hx y hy=>?_⟩
   have : y={ key:=e.key,val:=.map (some wr.heap.size),born:=ck }:=by simpa using hy
   rw [this];exact hk x hx
 ·rw [Array.toList_push,List.map_append,List.map_append,h.ent];rfl
 ·rw [List.map_append,h.sn,Array.toList_push];rfl
 ·intro p hp
  rcases List.mem_append.1 hp with hp | hp
  ·obtain ⟨h1,sb',ses',sclk',h2,h4,h3⟩:=h.mem p hp
   have hp2 : p.2∈L.map (·.2):=List.mem_map.2 ⟨p,hp,rfl⟩
   exact ⟨h1,sb',ses',sclk',h2,h4,by rw [keep p.2 (hLlt p hp) (fun e1=>n6 (e1 ▸ hp2)) (fun e1=>n3 (e1 ▸ hp2))];exact h3⟩
  ·have : p=(e,wr.heap.size):=by simpa using hp
   subst this
   refine ⟨he1,sb,ses,sclk,hev,hsb,?_⟩
   rw [Qt (by show wr.heap.size≠o;omega)]
   show (w1.alloc (.map ses sclk)).heap[wr.heap.size]?=_
   rw [← hsz]
   exact (MapKept.heap_alloc w1 _).1
 ·have hnew : ∀ q∈r :: g :: o :: L.map (·.2),q≠wr.heap.size:=fun q hq=>by
   simp only [List.mem_cons] at hq
   rcases hq with rfl | rfl | rfl | hq
   ·omega
   ·omega
   ·omega
   ·obtain ⟨p,hp,rfl⟩:=List.mem_map.1 hq
    exact Nat.ne_of_lt (hLlt p hp)
  have : r :: g :: o :: (L++[(e,wr.heap.size)]).map (·.2)=(r :: g :: o :: L.map (·.2))++[wr.heap.size]:=by simp
  rw [this,List.nodup_append]
  refine ⟨h.nod,by simp,fun a ha c hc=>?_⟩
  have hc : c=wr.heap.size:=by simpa using hc
  rw [hc];exact hnew a ha
 ·intro q hq
  have : r :: g :: o :: (L++[(e,wr.heap.size)]).map (·.2)=(r :: g :: o :: L.map (·.2))++[wr.heap.size]:=by simp
  rw [this] at hq
  rcases List.mem_append.1 hq with hq | hq
  ·exact hge q hq
  ·have : q=wr.heap.size:=by simpa using hq
   rw [this];exact h.bel.size
 ·rw [Array.toList_push,List.nodup_append]
  refine ⟨h.snod,by simp,fun a ha c hc=>?_⟩
  have hc : c=e.born:=by simpa using hc
  rw [hc];rintro rfl;exact he2 (by simpa using ha)
 ·refine ⟨(show w1.os=_ from hgr.os.trans h.bel.os),(show w1.tape=_ from hgr.tape.trans h.bel.tape),(show w1.output=_ from hgr.output.trans h.bel.output),?_,fun i hi=>?_⟩
  ·rw [Zqy]
   show _≤(w1.alloc (.map ses sclk)).heap.size
   have:=h.bel.size
   simp;omega
  ·have ho:=hge o (by simp)
   have hr:=hge r (by simp)
   rw [keep i (Nat.lt_of_lt_of_le hi h.bel.size) (by omega) (by omega)]
   exact h.bel.block i hi
theorem CpR.left (h : CpR w b r g o es clock seen c0 en ck L el wr) (hb : w.heap[b]?=some (.map es clock)) : wr.heap[b]?=some (.map es clock)∧wr.rangeLeft b r=(leftOf es seen).size:=by
 have hbl : b < w.heap.size:=(Array.getElem?_eq_some_iff.1 hb).1
 have h1 : wr.heap[b]?=some (.map es clock):=(h.bel.block b hbl).trans hb
 refine ⟨h1,?_⟩
 simp only [World.rangeLeft,h1,h.it]
theorem CpR.perm (h : CpR w b r g o es clock seen c0 en ck L el wr) (hst : Go.MapKept.Stamped es clock) (hall : ∀ x∈es.toList,x.born∈seen) : (L.map (·.1)).Perm es.toList:=by
 have hst2:=(stamped_iff es clock).1 hst
 have n1 : (L.map (·.1)).Nodup:=by
  have : ((L.map (·.1)).map (·.born)).Nodup:=by rw [List.map_map];exact h.sn ▸ h.snod
  exact List.Pairwise.of_map _ (fun a b h e=>h (congrArg _ e)) this
 have n2 : es.toList.Nodup:=List.Pairwise.of_map _ (fun a b h e=>h (congrArg _ e)) hst2.2.1
 refine (List.perm_ext_iff_of_nodup n1 n2).2 fun x=>⟨fun hx=>?_,fun hx=>?_⟩
 ·obtain ⟨p,hp,rfl⟩:=List.mem_map.1 hx
  exact (h.mem p hp).1
 ·have h1 : x.born∈L.map (·.1.born):=by rw [h.sn];simpa using hall x hx
  obtain ⟨p,hp,h2⟩:=List.mem_map.1 h1
  have : p.1=x:=born_inj hst2.2.1 (h.mem p hp).1 hx h2
  exact List.mem_map.2 ⟨p,hp,this⟩
end
set_option maxRecDepth 100000 in
theorem Zto (hCl : Zc5 Tryz.prog 196) : ZoG Tryz.prog 158 where
 c:=⟨Tryz.f158,Tryz.func158,by kernel_rfl,by kernel_rfl⟩
 run:=fun w gb b es clock hgb hcell hb hst hks hvs=>by
  have hmm:=@run_makeMap Tryz.prog
  have hbl : b < w.heap.size:=(Array.getElem?_eq_some_iff.1 hb).1
  go_enter Tryz.func158,Tryz.ntmps158
  go_wp2_with (first
   | (at_range;refine Zid _ rfl _ 154 rfl _ _ Tryz.underlying154 b es clock rfl ?_ ?_)
   | go_in)
  ·rw [JR (by simp;omega),JR hbl];exact hb
  ·go_frame
   have e1 : ((w.alloc (.map #[] 0)).alloc (.cells #[.map (some w.heap.size)] 156)).heap.size=w.heap.size+2:=by simp
   have e2 : (w.alloc (.map #[] 0)).heap.size=w.heap.size+1:=by simp
   rw [e1]
   try rw [e2]
   go_loopw [4,5] (fun _ _ wr=>∃ seen c0 en ck L,CpR w b (w.heap.size+2) (w.heap.size+1) w.heap.size es clock seen c0 en ck L 156 wr) (fun _ _ wr=>wr.rangeLeft b (w.heap.size+2))
   case atStart=>
    refine ⟨#[],clock,#[],0,[],?_⟩
    have hA:=fun (w : World) (o : Obj)=>(MapKept.heap_alloc w o).1
    refine ⟨?_,Nat.le_refl _,?_,?_,⟨by simp,by simp,by simp⟩,rfl,rfl,by simp,by simp,?_,by simp,?_⟩
    ·rw [← e1];exact hA _ _
    ·rw [JR (by rw [e1];omega),← e2];exact hA _ _
    ·rw [JR (by rw [e1];omega),JR (by rw [e2];omega)];exact hA _ _
    ·intro q hq
     simp only [List.map_nil,List.mem_cons,List.not_mem_nil,or_false] at hq
     omega
    ·exact (((Below.refl _ _).alloc (Nat.le_refl _) _).alloc (by rw [e2];omega) _).alloc (by rw [e1];omega) _
   case round=>
    obtain ⟨seen,c0,en,ck,L,hR⟩:=hrel
    go_wp2_with (first
     | (at_next;refine Zju _ rfl _ rfl b (w.heap.size+2) clock c0 clock seen es rfl hR.it ?_ hst rfl hR.c0 ?_ ?_)
     | go_in)
    ·exact (hR.left hb).1
    ·intro hdone
     go_wp2
     go_ret
     have hp:=hR.perm hst (by simpa using hdone)
     have hnod:=hR.nod
     have hge:=hR.ge
     exact ⟨_,_,_,_,_,_,rfl,hR.g,hR.o,hR.st,hR.ent,hp,fun p hp=>(by obtain ⟨_,sb,ses,sclk,h1,h2,h3⟩:=hR.mem p hp;exact ⟨sb,h1,h3.trans h2.symm⟩),(List.nodup_cons.1 hnod).2,fun q hq=>hge q (List.mem_cons_of_mem _ hq),hR.bel⟩
    ·intro e w1 he1 he2 hit1 hlt hgr hsz hen
     go_upto_region 5 with fail
     have he1 : e∈es.toList:=by simpa using he1
     obtain ⟨sb,ses,sclk,hev,hsb⟩:=hvs e he1
     obtain ⟨k,hek⟩:=hks e he1
     obtain ⟨W2,hcg,hcg2,hsz1,hsb1,hmu,hW2⟩ : ∃ W2,w1.cell? ⟨w.heap.size+1,0,none⟩=some (.map (some w.heap.size))∧(w1.alloc (.map ses sclk)).cell? ⟨w.heap.size+1,0,none⟩=some (.map (some w.heap.size))∧w.heap.size+1 < wr.heap.size∧w1.heap[sb]?=some (.map ses sclk)∧
       (Instr.mapUpdate 154 (.map (some w.heap.size)) (strv k) (.map (some wr.heap.size))).run Tryz.prog (w1.alloc (.map ses sclk)).drew=.ok () W2∧W2=setB (w1.alloc (.map ses sclk)).drew w.heap.size (.map (en.push { key:=strv k,val:=.map (some wr.heap.size),born:=ck }) (ck+1)):=by
      have hw : w.heap.size < wr.heap.size:=(Array.getElem?_eq_some_iff.1 hR.o).1
      have hg1 : w1.heap[w.heap.size+1]?=some (.cells #[.map (some w.heap.size)] 156 (0,0)):=by
       rw [hgr.block _ (Array.getElem?_eq_some_iff.1 hR.g).1 (by simp)];exact hR.g
      have ho1 : w1.heap[w.heap.size]?=some (.map en ck):=by
       rw [hgr.block _ hw (by simp)];exact hR.o
      have hcg : w1.cell? ⟨w.heap.size+1,0,none⟩=some (.map (some w.heap.size)):=by
       rw [ZcI hg1];rfl
      have hsbl : sb < w.heap.size:=(Array.getElem?_eq_some_iff.1 hsb).1
      have hsb1 : w1.heap[sb]?=some (.map ses sclk):=by
       rw [hgr.block _ (by omega) (by simp;omega),hR.bel.block sb hsbl];exact hsb
      have hoD : (w1.alloc (.map ses sclk)).drew.heap[w.heap.size]?=some (.map en ck):=by
       show (w1.alloc (.map ses sclk)).heap[w.heap.size]?=_
       rw [JR (by omega)];exact ho1
      have hkn : ∀ x∈en.toList,∃ k',x.key=strv k'∧k'≠k:=fun x hx=>by
       have h3 : (x.key,x.val)∈L.map (fun p=>(p.1.key,Value.map (some p.2))):=by rw [← hR.ent];exact List.mem_map.2 ⟨x,hx,rfl⟩
       obtain ⟨p,hp,h4⟩:=List.mem_map.1 h3
       simp only [Prod.mk.injEq] at h4
       obtain ⟨hm,_⟩:=hR.mem p hp
       obtain ⟨k',hk'⟩:=hks p.1 hm
       refine ⟨k',by rw [← h4.1];exact hk',fun e4=>he2 ?_⟩
       have h5 : p.1=e:=entry_eq_of_key ((stamped_iff es clock).1 hst).2.2 hm he1 (by rw [hk',hek,e4])
       have : p.1.born∈seen.toList:=by rw [← hR.sn];exact List.mem_map.2 ⟨p,hp,rfl⟩
       rw [h5] at this
       simpa using this
      obtain ⟨W2,hmu,hW2⟩:=Znt (P:=Tryz.prog) (t:=154) (k:=k) (v:=.map (some wr.heap.size)) Tryz.underlying154 (by kernel_rfl) hoD hkn
      have hs1 : w.heap.size+1 < wr.heap.size:=(Array.getElem?_eq_some_iff.1 hR.g).1
      have hg2 : (w1.alloc (.map ses sclk)).heap[w.heap.size+1]?=some (.cells #[.map (some w.heap.size)] 156 (0,0)):=by
       rw [JR (by omega)];exact hg1
      exact ⟨W2,hcg,by rw [ZcI hg2];rfl,hs1,hsb1,hmu,hW2⟩
     rw [hev,hek]
     go_region_with (first
      | (go_at_call 196;refine (hCl.some sb ses sclk _ ?_).mono ?_;exact hsb1;rintro e w' ⟨rfl,rfl⟩)
      | fail)
     ·have hN:=hR.next hst he1 he2 hev hsb hit1 hgr hsz
      rw [hek] at hN
      go_roundw
      case rel=>(repeat apply Exists.intro);exact ⟨⟨_,_,_,_,_,hN⟩,rfl⟩
      case measure=>rw [(hN.left hb).2,(hR.left hb).2];exact hlt
     ·have hN:=hR.next hst he1 he2 hev hsb hit1 hgr hsz
      rw [hek] at hN
      go_roundw
      case rel=>(repeat apply Exists.intro);exact ⟨⟨_,_,_,_,_,hN⟩,rfl⟩
      case measure=>rw [(hN.left hb).2,(hR.left hb).2];exact hlt
end Go.Proofs.YtedkoimihknggaaGreatDoor.A

namespace Go.Proofs
open Go.RowKit Go.Maps Go.Sort Go.Shelf
def Tryz.cloneA_ren : Go.Shelf.Ren := ⟨fun | 5 => 156 | 7 => 194 | n => n, fun | 23 => 82 | 25 => 9 | 3 => 89 | 4 => 4 | 20 => 20 | n => n, fun | n => n⟩
theorem Tryz.cloneA : Go.Proofs.SlLaysW.n5 Tryz.prog Tryz.cloneA_ren := {
  mixed := by kernel_rfl
  f5 := ⟨Tryz.f156.name, by decide, Tryz.func156.trans (congrArg some (by kernel_rfl))⟩
  f7 := Tryz.func194.trans (congrArg some (by kernel_rfl))
  t4 := Tryz.underlying4
  a4 := Tryz.isAgg4
  z4 := Tryz.sizeOf4
  v4 := Tryz.zeroValue4
  t20 := Tryz.underlying20
  a20 := Tryz.isAgg20
  z20 := Tryz.sizeOf20
  v20 := Tryz.zeroValue20
  t23 := Tryz.underlying82
  a23 := Tryz.isAgg82
  z23 := Tryz.sizeOf82
  v23 := Tryz.zeroValue82 }
def Tryz.cloneB_ren : Go.Shelf.Ren := ⟨fun | 5 => 195 | 7 => 194 | n => n, fun | 23 => 130 | 25 => 9 | 3 => 9 | 4 => 4 | 20 => 20 | n => n, fun | n => n⟩
theorem Tryz.cloneB : Go.Proofs.SlLaysW.n5 Tryz.prog Tryz.cloneB_ren := {
  mixed := by kernel_rfl
  f5 := ⟨Tryz.f195.name, by decide, Tryz.func195.trans (congrArg some (by kernel_rfl))⟩
  f7 := Tryz.func194.trans (congrArg some (by kernel_rfl))
  t4 := Tryz.underlying4
  a4 := Tryz.isAgg4
  z4 := Tryz.sizeOf4
  v4 := Tryz.zeroValue4
  t20 := Tryz.underlying20
  a20 := Tryz.isAgg20
  z20 := Tryz.sizeOf20
  v20 := Tryz.zeroValue20
  t23 := Tryz.underlying130
  a23 := Tryz.isAgg130
  z23 := Tryz.sizeOf130
  v23 := Tryz.zeroValue130 }
def Tryz.cloneC_ren : Go.Shelf.Ren := ⟨fun | 5 => 196 | 7 => 194 | n => n, fun | 23 => 151 | 25 => 9 | 3 => 157 | 4 => 4 | 20 => 20 | n => n, fun | n => n⟩
theorem Tryz.cloneC : Go.Proofs.SlLaysW.n5 Tryz.prog Tryz.cloneC_ren := {
  mixed := by kernel_rfl
  f5 := ⟨Tryz.f196.name, by decide, Tryz.func196.trans (congrArg some (by kernel_rfl))⟩
  f7 := Tryz.func194.trans (congrArg some (by kernel_rfl))
  t4 := Tryz.underlying4
  a4 := Tryz.isAgg4
  z4 := Tryz.sizeOf4
  v4 := Tryz.zeroValue4
  t20 := Tryz.underlying20
  a20 := Tryz.isAgg20
  z20 := Tryz.sizeOf20
  v20 := Tryz.zeroValue20
  t23 := Tryz.underlying151
  a23 := Tryz.isAgg151
  z23 := Tryz.sizeOf151
  v23 := Tryz.zeroValue151 }
def Tryz.keysA_ren : Go.Shelf.Ren := ⟨fun | 7 => 171 | 10 => 202 | n => n, fun | 23 => 130 | 26 => 9 | 3 => 9 | 28 => 208 | 0 => 0 | 27 => 207 | 33 => 143 | 4 => 4 | n => n, fun | n => n⟩
theorem Tryz.keysA : Go.Proofs.SlLaysZ.n7 Tryz.prog Tryz.keysA_ren := {
  mixed := by kernel_rfl
  f7 := ⟨Tryz.f171.name, by decide, Tryz.func171.trans (congrArg some (by kernel_rfl))⟩
  f10 := ⟨Tryz.f202.name, by decide, Tryz.func202.trans (congrArg some (by kernel_rfl))⟩
  t0 := Tryz.underlying0
  a0 := Tryz.isAgg0
  z0 := Tryz.sizeOf0
  v0 := Tryz.zeroValue0
  t4 := Tryz.underlying4
  a4 := Tryz.isAgg4
  z4 := Tryz.sizeOf4
  v4 := Tryz.zeroValue4
  t23 := Tryz.underlying130
  a23 := Tryz.isAgg130
  z23 := Tryz.sizeOf130
  v23 := Tryz.zeroValue130
  t26 := Tryz.underlying9
  a26 := Tryz.isAgg9
  z26 := Tryz.sizeOf9
  v26 := Tryz.zeroValue9
  t27 := Tryz.underlying207
  a27 := Tryz.isAgg207
  z27 := Tryz.sizeOf207
  v27 := Tryz.zeroValue207
  t28 := Tryz.underlying208
  a28 := Tryz.isAgg208
  z28 := Tryz.sizeOf208
  v28 := Tryz.zeroValue208
  t33 := Tryz.underlying143
  a33 := Tryz.isAgg143
  z33 := Tryz.sizeOf143
  v33 := Tryz.zeroValue143 }
def Tryz.keysB_ren : Go.Shelf.Ren := ⟨fun | 7 => 174 | 10 => 204 | n => n, fun | 23 => 82 | 26 => 9 | 3 => 89 | 28 => 208 | 0 => 0 | 27 => 207 | 33 => 143 | 4 => 4 | n => n, fun | n => n⟩
theorem Tryz.keysB : Go.Proofs.SlLaysZ.n7 Tryz.prog Tryz.keysB_ren := {
  mixed := by kernel_rfl
  f7 := ⟨Tryz.f174.name, by decide, Tryz.func174.trans (congrArg some (by kernel_rfl))⟩
  f10 := ⟨Tryz.f204.name, by decide, Tryz.func204.trans (congrArg some (by kernel_rfl))⟩
  t0 := Tryz.underlying0
  a0 := Tryz.isAgg0
  z0 := Tryz.sizeOf0
  v0 := Tryz.zeroValue0
  t4 := Tryz.underlying4
  a4 := Tryz.isAgg4
  z4 := Tryz.sizeOf4
  v4 := Tryz.zeroValue4
  t23 := Tryz.underlying82
  a23 := Tryz.isAgg82
  z23 := Tryz.sizeOf82
  v23 := Tryz.zeroValue82
  t26 := Tryz.underlying9
  a26 := Tryz.isAgg9
  z26 := Tryz.sizeOf9
  v26 := Tryz.zeroValue9
  t27 := Tryz.underlying207
  a27 := Tryz.isAgg207
  z27 := Tryz.sizeOf207
  v27 := Tryz.zeroValue207
  t28 := Tryz.underlying208
  a28 := Tryz.isAgg208
  z28 := Tryz.sizeOf208
  v28 := Tryz.zeroValue208
  t33 := Tryz.underlying143
  a33 := Tryz.isAgg143
  z33 := Tryz.sizeOf143
  v33 := Tryz.zeroValue143 }
def Tryz.keysC_ren : Go.Shelf.Ren := ⟨fun | 7 => 207 | 10 => 216 | n => n, fun | 23 => 154 | 26 => 9 | 3 => 151 | 28 => 208 | 0 => 0 | 27 => 207 | 33 => 143 | 4 => 4 | n => n, fun | n => n⟩
theorem Tryz.keysC : Go.Proofs.SlLaysZ.n7 Tryz.prog Tryz.keysC_ren := {
  mixed := by kernel_rfl
  f7 := ⟨Tryz.f207.name, by decide, Tryz.func207.trans (congrArg some (by kernel_rfl))⟩
  f10 := ⟨Tryz.f216.name, by decide, Tryz.func216.trans (congrArg some (by kernel_rfl))⟩
  t0 := Tryz.underlying0
  a0 := Tryz.isAgg0
  z0 := Tryz.sizeOf0
  v0 := Tryz.zeroValue0
  t4 := Tryz.underlying4
  a4 := Tryz.isAgg4
  z4 := Tryz.sizeOf4
  v4 := Tryz.zeroValue4
  t23 := Tryz.underlying154
  a23 := Tryz.isAgg154
  z23 := Tryz.sizeOf154
  v23 := Tryz.zeroValue154
  t26 := Tryz.underlying9
  a26 := Tryz.isAgg9
  z26 := Tryz.sizeOf9
  v26 := Tryz.zeroValue9
  t27 := Tryz.underlying207
  a27 := Tryz.isAgg207
  z27 := Tryz.sizeOf207
  v27 := Tryz.zeroValue207
  t28 := Tryz.underlying208
  a28 := Tryz.isAgg208
  z28 := Tryz.sizeOf208
  v28 := Tryz.zeroValue208
  t33 := Tryz.underlying143
  a33 := Tryz.isAgg143
  z33 := Tryz.sizeOf143
  v33 := Tryz.zeroValue143 }
def Tryz.collA_ren : Go.Shelf.Ren := ⟨fun | 8 => 200 | 11 => 208 | n => n, fun | 26 => 9 | 28 => 208 | 24 => 25 | 0 => 0 | 33 => 143 | 4 => 4 | n => n, fun | n => n⟩
theorem Tryz.collA : Go.Proofs.SlLaysZ.n8 Tryz.prog Tryz.collA_ren := {
  mixed := by kernel_rfl
  f8 := ⟨Tryz.f200.name, by decide, Tryz.func200.trans (congrArg some (by kernel_rfl))⟩
  f11 := ⟨Tryz.f208.name, by decide, Tryz.func208.trans (congrArg some (by kernel_rfl))⟩
  t0 := Tryz.underlying0
  a0 := Tryz.isAgg0
  z0 := Tryz.sizeOf0
  v0 := Tryz.zeroValue0
  t24 := Tryz.underlying25
  a24 := Tryz.isAgg25
  z24 := Tryz.sizeOf25
  v24 := Tryz.zeroValue25
  t26 := Tryz.underlying9
  a26 := Tryz.isAgg9
  z26 := Tryz.sizeOf9
  v26 := Tryz.zeroValue9
  t28 := Tryz.underlying208
  a28 := Tryz.isAgg208
  z28 := Tryz.sizeOf208
  v28 := Tryz.zeroValue208
  i26 := by kernel_rfl }
def Tryz.sortA_ren : Go.Shelf.Ren := ⟨fun | 6 => 201 | 15 => 210 | 14 => 209 | 28 => 225 | 29 => 226 | 20 => 217 | 21 => 218 | 22 => 219 | 23 => 220 | 24 => 221 | 25 => 222 | 26 => 223 | 27 => 224 | 46 => 234 | 47 => 235 | 48 => 236 | 49 => 237 | 50 => 238 | 57 => 242 | n => n, fun | 22 => 25 | 24 => 9 | 25 => 210 | 3 => 3 | 39 => 219 | 0 => 0 | 53 => 248 | 55 => 113 | 4 => 4 | 46 => 241 | 45 => 240 | 50 => 245 | 5 => 5 | 9 => 9 | 66 => 253 | 70 => 257 | 76 => 261 | 77 => 262 | n => n, fun | n => n⟩
theorem Tryz.sortA : Go.Proofs.SlLaysF.n6 Tryz.prog Tryz.sortA_ren := {
  mixed := by kernel_rfl
  f6 := ⟨Tryz.f201.name, by decide, Tryz.func201.trans (congrArg some (by kernel_rfl))⟩
  f14 := ⟨Tryz.f209.name, by decide, Tryz.func209.trans (congrArg some (by kernel_rfl))⟩
  f15 := Tryz.func210.trans (congrArg some (by kernel_rfl))
  f20 := ⟨Tryz.f217.name, by decide, Tryz.func217.trans (congrArg some (by kernel_rfl))⟩
  f21 := ⟨Tryz.f218.name, by decide, Tryz.func218.trans (congrArg some (by kernel_rfl))⟩
  f22 := ⟨Tryz.f219.name, by decide, Tryz.func219.trans (congrArg some (by kernel_rfl))⟩
  f23 := ⟨Tryz.f220.name, by decide, Tryz.func220.trans (congrArg some (by kernel_rfl))⟩
  f24 := ⟨Tryz.f221.name, by decide, Tryz.func221.trans (congrArg some (by kernel_rfl))⟩
  f25 := ⟨Tryz.f222.name, by decide, Tryz.func222.trans (congrArg some (by kernel_rfl))⟩
  f26 := ⟨Tryz.f223.name, by decide, Tryz.func223.trans (congrArg some (by kernel_rfl))⟩
  f27 := ⟨Tryz.f224.name, by decide, Tryz.func224.trans (congrArg some (by kernel_rfl))⟩
  f28 := Tryz.func225.trans (congrArg some (by kernel_rfl))
  f29 := Tryz.func226.trans (congrArg some (by kernel_rfl))
  f46 := ⟨Tryz.f234.name, by decide, Tryz.func234.trans (congrArg some (by kernel_rfl))⟩
  f47 := Tryz.func235.trans (congrArg some (by kernel_rfl))
  f48 := Tryz.func236.trans (congrArg some (by kernel_rfl))
  f49 := ⟨Tryz.f237.name, by decide, Tryz.func237.trans (congrArg some (by kernel_rfl))⟩
  f50 := ⟨Tryz.f238.name, by decide, Tryz.func238.trans (congrArg some (by kernel_rfl))⟩
  f57 := ⟨Tryz.f242.name, by decide, Tryz.func242.trans (congrArg some (by kernel_rfl))⟩
  t0 := Tryz.underlying0
  a0 := Tryz.isAgg0
  z0 := Tryz.sizeOf0
  v0 := Tryz.zeroValue0
  t3 := Tryz.underlying3
  a3 := Tryz.isAgg3
  z3 := Tryz.sizeOf3
  v3 := Tryz.zeroValue3
  t4 := Tryz.underlying4
  a4 := Tryz.isAgg4
  z4 := Tryz.sizeOf4
  v4 := Tryz.zeroValue4
  t5 := Tryz.underlying5
  a5 := Tryz.isAgg5
  z5 := Tryz.sizeOf5
  v5 := Tryz.zeroValue5
  t9 := Tryz.underlying9
  a9 := Tryz.isAgg9
  z9 := Tryz.sizeOf9
  v9 := Tryz.zeroValue9
  t22 := Tryz.underlying25
  a22 := Tryz.isAgg25
  z22 := Tryz.sizeOf25
  v22 := Tryz.zeroValue25
  a24 := Tryz.isAgg9
  z24 := Tryz.sizeOf9
  t25 := Tryz.underlying210
  a25 := Tryz.isAgg210
  z25 := Tryz.sizeOf210
  v25 := Tryz.zeroValue210
  t39 := Tryz.underlying219
  a39 := Tryz.isAgg219
  z39 := Tryz.sizeOf219
  v39 := Tryz.zeroValue219
  t45 := Tryz.underlying240
  a45 := Tryz.isAgg240
  z45 := Tryz.sizeOf240
  v45 := Tryz.zeroValue240
  t46 := Tryz.underlying241
  a46 := Tryz.isAgg241
  z46 := Tryz.sizeOf241
  v46 := Tryz.zeroValue241
  t50 := Tryz.underlying245
  a50 := Tryz.isAgg245
  z50 := Tryz.sizeOf245
  v50 := Tryz.zeroValue245
  t53 := Tryz.underlying248
  a53 := Tryz.isAgg248
  z53 := Tryz.sizeOf248
  v53 := Tryz.zeroValue248
  t55 := Tryz.underlying113
  a55 := Tryz.isAgg113
  z55 := Tryz.sizeOf113
  v55 := Tryz.zeroValue113
  t66 := Tryz.underlying253
  a66 := Tryz.isAgg253
  z66 := Tryz.sizeOf253
  v66 := Tryz.zeroValue253
  t70 := Tryz.underlying257
  a70 := Tryz.isAgg257
  z70 := Tryz.sizeOf257
  v70 := Tryz.zeroValue257
  t76 := Tryz.underlying261
  a76 := Tryz.isAgg261
  z76 := Tryz.sizeOf261
  v76 := Tryz.zeroValue261
  t77 := Tryz.underlying262
  a77 := Tryz.isAgg262
  z77 := Tryz.sizeOf262
  v77 := Tryz.zeroValue262 }
end Go.Proofs
namespace Go.Proofs.YtedkoimihknggaaGreatDoor.A
set_option linter.unusedVariables false
set_option linter.unusedSimpArgs false
open Go.RowKit Go.Maps Go.Sort Go.Shelf Go.Proofs
theorem clA : Zc5 Tryz.prog 156 where
 c:=⟨Tryz.f156,Tryz.func156,by kernel_rfl,by kernel_rfl⟩
 nil:=fun w=>AnyW.maps_Clone_nil Tryz.cloneA w
 some:=fun b es clock w hb=>AnyW.maps_Clone Tryz.cloneA b es clock w hb
theorem clB : Zc5 Tryz.prog 195 where
 c:=⟨Tryz.f195,Tryz.func195,by kernel_rfl,by kernel_rfl⟩
 nil:=fun w=>AnyW.maps_Clone_nil Tryz.cloneB w
 some:=fun b es clock w hb=>AnyW.maps_Clone Tryz.cloneB b es clock w hb
theorem clC : Zc5 Tryz.prog 196 where
 c:=⟨Tryz.f196,Tryz.func196,by kernel_rfl,by kernel_rfl⟩
 nil:=fun w=>AnyW.maps_Clone_nil Tryz.cloneC w
 some:=fun b es clock w hb=>AnyW.maps_Clone Tryz.cloneC b es clock w hb
def Zag (x y : List UInt8) : Int:=if x < y then -1 else if y < x then 1 else 0
theorem Zr3 (x : List UInt8) (w : World) : Calls Tryz.prog 211 #[encStr x] w fun e w'=>e=.returned (.bool false)∧w'=w:=by
 go_enter Tryz.func211,Tryz.ntmps211
 go_wp2
 go_ret
 exact ⟨by simp,rfl⟩
theorem Zjg (x y : List UInt8) : x < y∨x=y∨y < x:=by
 by_cases h : x < y
 ·exact .inl h
 ·by_cases h2 : y < x
  ·exact .inr (.inr h2)
  ·exact .inr (.inl (List.le_antisymm h2 h))
theorem Zqm (x y : List UInt8) (w : World) : Calls Tryz.prog 203 #[encStr x,encStr y] w fun e w'=>e=.returned (.int .i64 (Zag x y))∧w'=w:=by
 have e211 : ∀ args w,(callFunc 211 args).run Tryz.prog w=.ok (.enter 211 args) w:=enters_of Tryz.func211 (by kernel_rfl) rfl
 have hb : Op.bytesLess x y=decide (x < y):=bytesLess_eq x y
 have ht:=Zjg x y
 have hn : ∀ a : List UInt8,¬ a < a:=fun a=>List.lt_irrefl a
 have has : x < y→¬ y < x:=fun h=>List.lt_asymm h
 go_enter Tryz.func203,Tryz.ntmps203
 go_wp2_with (go_at_call 211;refine (Zr3 _ _).mono ?_;rintro e w' ⟨rfl,hw⟩;rw [hw])
 all_goals (go_ret;refine ⟨?_,rfl⟩;unfold Zag;rw [hb] at *;by_cases h1 : x < y <;> by_cases h2 : y < x <;> simp_all <;> exact absurd h2 (List.lt_irrefl _))
theorem ZlN (x y : List UInt8) (w : World) : Calls Tryz.prog 172 #[encStr x,encStr y] w fun e w'=>e=.returned (.int .i64 (Zag x y))∧w'=w:=by
 have e203 : ∀ args w,(callFunc 203 args).run Tryz.prog w=.ok (.enter 203 args) w:=enters_of Tryz.func203 (by kernel_rfl) rfl
 go_enter Tryz.func172,Tryz.ntmps172
 go_wp2_with (go_at_call 203;refine (Zqm _ _ _).mono ?_;rintro e w' ⟨rfl,hw⟩;rw [hw])
 go_ret
 exact ⟨rfl,rfl⟩
theorem Zsz (blk off size : Nat) (w : World) : CmpLays1 Tryz.prog 172 #[] encStr Zag blk off size w:=fun m os dk hd x y=>
 (ZlN x y _).mono fun e w' ⟨he,hw⟩=>⟨he,0,#[],by rw [hw];simp [grow,World.drewN]⟩
theorem Zdv (x y : List UInt8) : ltOf Zag x y=decide (x < y):=by
 unfold ltOf Zag
 by_cases h1 : x < y
 ·simp [h1]
 ·by_cases h2 : y < x <;> simp [h1,h2]
theorem ZtY : SWO (ltOf Zag) where
 irrefl x:=by rw [Zdv];exact decide_eq_false (List.lt_irrefl x)
 trans x y z h1 h2:=by rw [Zdv] at *;simp only [decide_eq_true_eq] at *;exact List.lt_trans h1 h2
 ntrans x y z h1 h2:=by
  rw [Zdv] at *
  simp only [decide_eq_false_iff_not] at *
  exact List.le_trans h2 h1
theorem Zqc {ss : List (List UInt8)} {d' : Array (List UInt8)} (hp : PermIn 0 ss.toArray.size ss.toArray d') (hs : SortedIn (ltOf Zag) 0 ss.toArray.size d') : d'=(ss.mergeSort fun x y=>decide (x≤y)).toArray:=by
 have hsz : d'.size=ss.length:=by simpa using hp.1
 have hperm : d'.toList.Perm ss:=by
  have h3 : d'.toList.Perm (ss.take d'.size):=by simpa [← hsz] using hp.2.2
  rwa [List.take_of_length_le (by omega)] at h3
 have hpw : d'.toList.Pairwise fun x y=>(decide (x≤y))=true:=by
  rw [List.pairwise_iff_getElem]
  intro i j hi hj hij
  have hi' : i < d'.size:=by simpa using hi
  have hj' : j < d'.size:=by simpa using hj
  have:=hs i j (Nat.zero_le _) hij (by simpa [hsz] using hj')
  rw [Zdv,getElem!_pos d' j hj',getElem!_pos d' i hi'] at this
  simp only [decide_eq_false_iff_not] at this
  simp only [Array.getElem_toList,decide_eq_true_eq]
  exact this
 have h1 : d'.toList.mergeSort (fun x y=>decide (x≤y))=d'.toList:=List.mergeSort_of_pairwise hpw
 have h2:=mergeSort_of_perm hperm
 apply Array.ext'
 rw [← h1]
 exact h2
theorem Zrz {g : FuncId} {args : List Value} {v : Value} {n : Nat} (hg : g < Wb) (hc : WP Tryz.prog g) (hx : ∀ w : World,RVs (ι0 Tryz.prog.globals.size) args args) (hrun : ∃ H',run Tryz.prog (fun _=>none) lvs n g args (List.replicate Tryz.prog.globals.size Zi.dead)=some (v,H')) (w : World) :
  Calls Tryz.prog g args.toArray w fun e w'=>∃ v',e=.returned v'∧Go.RowKit.Below w.heap.size w w':=by
 obtain ⟨H',hrun⟩:=hrun
 have hs:=ZdC (P:=Tryz.prog) (prim:=fun _=>none) (lvs:=lvs) (by kernel_rfl) (fun b g m h=>by cases h) n (b0 w) g args _ v H' hrun
 rcases hs with ⟨_,hC | ⟨e,⟨fn',h1,_,h2,_⟩,_⟩⟩ | ⟨hno,_⟩
 ·obtain ⟨_,hC⟩:=hC
  refine (hC (ι0 Tryz.prog.globals.size) w args Ztw (hx w)).mono fun e w' ⟨ι1,v',_,he,_,hS⟩=>⟨v',he,?_⟩
  exact ⟨hS.rest.1,hS.rest.2.1,hS.rest.2.2,hS.size,hS.old⟩
 ·obtain ⟨fn,h3,_,h4⟩:=hc
  rw [h3] at h1;cases h1
  rw [h4] at h2;cases h2
 ·exact absurd hg (Nat.not_lt_of_le hno)
noncomputable abbrev R0 (n : Nat) : Zc:=run Tryz.prog (fun _=>none) lvs n
section
variable {H : Zb} {n : Nat} {f : Value}
theorem Zs3 : R0 (n+1) Qj [.slice none 0 0,iv 0,iv 0,f] H=some (.tuple #[],H):=by
 rw [R0,WH rfl]
 unfold ZF
 have w1 : IntKind.i64.wrap (0+1)=1:=w64 (by omega) (by omega)
 rw [Za ZD,w1]
 refine (Q0 (j:=0) (vs:=[]) (H':=H) (Qb ?_)).trans ?_
 ·simp [ZF.l1,↓ZY,ZZ,↓QB,Qd,Qe,Qc,↓Zd,JW,Zt,YG,Qk,Jt,Qm,Js,Jr,QI,JA,QH,QX,QZ,Q1,QF,ZC,Qa,YM,Ym,Jg,Jd,JV,ZD,QR,JS,JU,JH,Qi,Zr,Zm,JB,QG,QN,JQ,JT,JL,JI,↓YR,JY,↓g_r,YQ,Bool.not_true,Bool.not_false,Bool.false_eq_true,Bool.true_eq_false,reduceIte,List.tail_cons,List.headD_cons,decide_true,decide_false,cond_true,cond_false,Nat.beq_refl,Ko,Yw,QU,Z3,ZW,JP,YH,YO,YL,Kq,Yo,Yn,Yp,ZG,List.replicate,Zu,Zv,Q5,Q6,Q4,Zz,Jf,ZU,ZN]
 ·rw [ZG];rfl
theorem Ztl {l : Value} : R0 (n+2) Z5 [.slice none 0 0,iv 0,iv 0,l,f] H=some (.tuple #[],H):=by
 have e1 : run Tryz.prog (fun _=>none) lvs (n+1) Qj [.slice none 0 0,iv 0,iv 0,f] H=_:=Zs3
 rw [R0,Zbi rfl]
 unfold Qn
 refine (Ke (v:=.tuple #[]) (H':=H) (JF ?_)).trans rfl
 have w1 : IntKind.i64.wrap (0 - 0)=0:=w64 (by omega) (by omega)
 rw [YO]
 unfold Qn.l1
 refine Ke ?_
 rw [Za QR,w1,Za JB,Zd,if_pos (by simp),Za e1]
 rfl
theorem ZsE {s : ByteArray} {i : Nat} (hi : i < s.size) (q : IntKind) (H : Zb) : ∃ b : UInt8,ixs (.string s) (.int q i) H=some (.int .u8 b.toNat,H):=by
 refine ⟨s[i],?_⟩
 unfold ixs
 simp only [Int.toNat_natCast]
 rw [if_pos (by omega),getElem?_pos s i hi]
set_option maxRecDepth 100000 in
theorem Ztb : ∃ v,R0 (n+2) Zav [.int .u64 0] H=some (v,H):=by
 have e : ∃ v,R0 (n+1) WD [.int .u64 0] H=some (v,H):=by
  rw [R0,Zhb rfl]
  unfold Zbd
  have w1 : IntKind.u8.wrap 0=((0 : Nat) : Int):=by rw [wu8];rfl
  generalize ht : (⟨#[0,1,2,2,3,3,3,3,4,4,4,4,4,4,4,4,5,5,5,5,5,5,5,5,5,5,5,5,5,5,5,5,6,6,6,6,6,6,6,6,6,6,6,6,6,6,6,6,6,6,6,6,6,6,6,6,6,6,6,6,6,6,6,6,7,7,7,7,7,7,7,7,7,7,7,7,7,7,7,7,7,7,7,7,7,7,7,7,7,7,7,7,7,7,7,7,7,7,7,7,7,7,7,7,7,7,7,7,7,7,7,7,7,7,7,7,7,7,7,7,7,7,7,7,7,7,7,7,8,8,8,8,8,8,8,8,8,8,8,8,8,8,8,8,8,8,8,8,8,8,8,8,8,8,8,8,8,8,8,8,8,8,8,8,8,8,8,8,8,8,8,8,8,8,8,8,8,8,8,8,8,8,8,8,8,8,8,8,8,8,8,8,8,8,8,8,8,8,8,8,8,8,8,8,8,8,8,8,8,8,8,8,8,8,8,8,8,8,8,8,8,8,8,8,8,8,8,8,8,8,8,8,8,8,8,8,8,8,8,8,8,8,8,8,8,8,8,8,8,8,8,8,8,8,8,8]⟩ : ByteArray)=tab
  have hs : tab.size=256:=by rw [← ht];rfl
  obtain ⟨b,hb⟩:=ZsE (s:=tab) (i:=0) (by omega) .u8 H
  refine ⟨iv (IntKind.i64.wrap (0+IntKind.i64.wrap b.toNat)),?_⟩
  rw [Za QN]
  refine (Wq (vs:=[.int .u64 0,iv 0]) (H':=H) (by rw [Zd,if_neg (by simp)];rfl)).trans ?_
  rw [QU,Za QN]
  refine (Wq (vs:=[.int .u64 0,iv 0]) (H':=H) (by rw [Zd,if_neg (by simp)];rfl)).trans ?_
  rw [QU,Za QN]
  refine (Wq (vs:=[.int .u64 0,iv 0]) (H':=H) (by rw [Zd,if_neg (by simp)];rfl)).trans ?_
  rw [QU,Za QF,w1,Za hb,Za QF,Za ZD]
  rfl
 obtain ⟨v,e⟩:=e
 refine ⟨v,?_⟩
 rw [R0,ZjK rfl]
 unfold Zcj
 rw [Zd,if_neg (by simp),Za e]
 rfl
theorem Zso : R0 (n+3) Yt [.slice none 0 0,f] H=some (.tuple #[],H):=by
 obtain ⟨v,e1⟩:=Ztb (n:=n) (H:=H)
 have e2 : R0 (n+2) Z5 [.slice none 0 0,iv 0,iv 0,v,f] H=some (.tuple #[],H):=Ztl
 rw [R0,ZaY rfl]
 unfold Yx
 have w1 : IntKind.u64.wrap ((0 : Nat) : Int)=0:=by rw [Zrq];rfl
 rw [Za QZ,Za QF,w1,Za e1]
 refine (Za e2).trans rfl
end
theorem Zq2 (w : World) : Calls Tryz.prog 201 #[.slice none 0 0,.func (.func 172) #[] #[]] w fun e w'=>∃ v',e=.returned v'∧Go.RowKit.Below w.heap.size w w':=
 Zrz (args:=[.slice none 0 0,.func (.func 172) #[] #[]]) (n:=3) (by decide) ⟨Tryz.f201,Tryz.func201,by kernel_rfl,by kernel_rfl⟩ (fun w=>.cons (.sc rfl) (.cons (.fn (fun l h=>by cases h) rfl (fun i hi=>by cases hi) rfl (fun i hi=>by cases hi)) .nil)) ⟨_,Zso (n:=0)⟩ w
theorem Zen {gk : FuncId} (hg : ∀ args w,(callFunc gk args).run Tryz.prog w=.ok (.enter gk args) w)
  (hseq : ∀ (w : World) (Bm b : Nat) (es : Array MapEntry) (clock : Nat) (ks : List (List UInt8)),Bm < w.heap.size→w.cell? ⟨Bm,0,none⟩=some (.map (some b))→w.heap[b]?=some (.map es clock)→es.toList.map (·.key)=ks.map strv→Go.MapKept.Stamped es clock→
   (∀ k∈ks,k.length≤1000000)→ks.length≤1000000→SeqGives Fence.wide 3 Tryz.prog gk #[.pointer (some ⟨Bm,0,none⟩)] encStr (fun ss=>ss.Perm ks) ks.length w) : ZdV Tryz.prog 170 gk 172 where
 c:=⟨Tryz.f170,Tryz.func170,by kernel_rfl,by kernel_rfl⟩
 run:=fun w Bm b es clock ks hB hc hb hk hst hl hf=>by
  have e201 : ∀ args w,(callFunc 201 args).run Tryz.prog w=.ok (.enter 201 args) w:=enters_of Tryz.func201 (by kernel_rfl) rfl
  have e172 : ∀ args w,(callFunc 172 args).run Tryz.prog w=.ok (.enter 172 args) w:=enters_of Tryz.func172 (by kernel_rfl) rfl
  have hmax : ks.length≤maxLen:=Nat.le_trans hf (by decide)
  have cC:=AnyZ.collect_in Tryz.collA Fence.wide 5 trivial trivial rfl (by omega) gk #[.pointer (some ⟨Bm,0,none⟩)] trivial hg _ _ hmax (by omega) w (hseq w Bm b es clock ks hB hc hb hk hst hl hf)
  have cC:=(callsIn_wide (n:=5)).1 cC
  change Calls Tryz.prog 200 _ _ _ at cC
  go_enter Tryz.func170,Tryz.ntmps170
  go_wp2_with (go_at_call 200;refine cC.mono ?_;rintro e W ⟨v,ss,rfl,hS,hrow,hnil,hbl⟩)
  have hlen : ss.length=ks.length:=hS.length_eq
  rcases hrow.2 with ⟨rfl,hz⟩ | ⟨gb,cap,cur,rfl,hbase,hgb,r1,r2,r3,r4⟩
  ·have hss : ss=[]:=List.eq_nil_of_length_eq_zero hz
   go_wp2_with (go_at_call 201;refine (Zq2 W).mono ?_;rintro e w' ⟨v',rfl,hb2⟩)
   go_ret
   have hks : ks=[]:=List.eq_nil_of_length_eq_zero (by rw [← hlen,hss];rfl)
   subst hks
   exact ⟨_,0,rfl,⟨by simp [Z0],.inl ⟨rfl,rfl⟩⟩,by simp,hbl.trans (hb2.mono (by have:=hbl.size;omega))⟩
  ·have hH : Holds encStr W gb 0 ss.toArray:=holds_of_block hgb (by simpa using r4)
   have hgl : gb < W.heap.size:=(Array.getElem?_eq_some_iff.1 hgb).1
   have cS:=Any.slices_SortFunc Tryz.sortA encStr (fun _=>rfl) Zag ZtY 172 #[] gb 0 cap ss.toArray W e172 (Zsz gb 0 _ W) hH hgl (by simp;omega)
   change Calls Tryz.prog 201 #[.slice (some ⟨gb,0,none⟩) ss.length cap,.func (.func 172) #[] #[]] W _ at cS
   go_wp2_with (go_at_call 201;refine cS.mono ?_;rintro e w' ⟨rfl,d',nn,os,hp,hs,rfl⟩)
   go_ret
   have hd:=Zqc hp hs
   subst hd
   have hks : Z0 ks=ss.mergeSort (fun x y=>decide (x≤y)):=(mergeSort_of_perm hS).symm
   rw [← hlen,hks]
   exact ⟨_,_,rfl,ownsRow_sorted (by simp) hbase hgb r1 r2 r3,hnil.trans ⟨fun h=>List.eq_nil_of_length_eq_zero (by rw [← hlen,h];rfl),fun h=>List.eq_nil_of_length_eq_zero (by rw [hlen,h];rfl)⟩,hbl.grown (grownBy_sorted _) hbl.size (fun j hj=>by cases hj;exact hbase)⟩
section
variable {H : Type}
def Zm4 (v : Value) : Option (DataW H × List MemPlace):=some (.nil,[])
theorem own_of {P : Program} {k : TypeId} (hk : P.underlying k=some .string) {w : World} {b clock : Nat} {es : Array MapEntry} {ks : List (List UInt8)} (hb : w.heap[b]?=some (.map es clock)) (hks : es.toList.map (·.key)=ks.map strv) (hst : Go.MapKept.Stamped es clock)
  (hl : ∀ k∈ks,k.length≤1000000) (hf : ks.length≤1000000) : ∃ D0 : DataW H,w.ownsMap P k Zm4 b ks.length D0∧ks.Perm (strKeys D0)∧Maps.size D0=ks.length:=by
 have hsz : es.size=ks.length:=by
  have:=congrArg List.length hks
  simpa using this
 have hrd : ∀ (x : MapEntry) (s : List UInt8),x.key=strv s→s.length≤1000000→Go.WideElems.rd (H:=H) P k Zm4 x=some (.string s,.nil):=fun x s hs hlen=>by
  have h1 : (⟨s.toArray⟩ : ByteArray).size≤maxLen:=Nat.le_trans (by simpa [ByteArray.size] using hlen) (by decide)
  simp [Go.WideElems.rd,hs,keyOf,hk,mapKey,Zm4,h1,strv]
 have hmap : ∀ (l : List MapEntry) (q : List (List UInt8)),l.map (·.key)=q.map strv→(∀ s∈q,s.length≤1000000)→l.map (Go.WideElems.rg (H:=H) P k Zm4)=q.map fun s=>(Lit.string s,DataW.nil):=by
  intro l
  induction l with
  | nil=>intro q h _;cases q with | nil=>rfl | cons a q=>simp at h
  | cons x l ih=>
   intro q h hq
   cases q with
   | nil=>simp at h
   | cons a q=>
    simp only [List.map_cons,List.cons.injEq] at h
    rw [List.map_cons,List.map_cons,ih q h.2 (fun s hs=>hq s (List.mem_cons_of_mem _ hs))]
    congr 1
    unfold Go.WideElems.rg
    rw [hrd x a h.1 (hq a (by simp))]
    rfl
 refine ⟨.map ((es.toList.map (Go.WideElems.rg P k Zm4)).foldr DataW.insert []),⟨es,clock,hb,⟨by rw [hsz];exact Nat.le_trans hf (by decide),hst,fun x hx=>?_⟩,by omega,rfl⟩,?_,?_⟩
 ·have : x.key∈ks.map strv:=by rw [← hks];exact List.mem_map.2 ⟨x,hx,rfl⟩
  obtain ⟨s,h1,h2⟩:=List.mem_map.1 this
  exact ⟨_,hrd x s h2.symm (hl s h1)⟩
 ·rw [hmap _ _ hks hl]
  have h1:=(Go.WideShapes.sorted_perm (H:=H) (ks.map fun s=>(Lit.string s,DataW.nil))).map fun p=>Go.strOf p.1
  have h2 : (ks.map fun s=>(Lit.string s,(DataW.nil : DataW H))).map (fun p=>Go.strOf p.1)=ks:=by
   rw [List.map_map];exact (List.map_congr_left fun a _=>rfl).trans (List.map_id ks)
  rw [h2] at h1
  exact h1.symm
 ·rw [hmap _ _ hks hl]
  have:=(Go.WideShapes.sorted_perm (H:=H) (ks.map fun s=>(Lit.string s,DataW.nil))).length_eq
  rw [List.length_map] at this
  exact this
end
theorem Zh8 {g Bm n : Nat} {ks ks' : List (List UInt8)} {w : World} (h : SeqGives Fence.wide 3 Tryz.prog g #[.pointer (some ⟨Bm,0,none⟩)] encStr (fun ss=>ss.Perm ks') n w) (hn : n=ks.length) (hp : ks.Perm ks') : SeqGives Fence.wide 3 Tryz.prog g #[.pointer (some ⟨Bm,0,none⟩)] encStr (fun ss=>ss.Perm ks) ks.length w:=by
 subst hn
 intro l J W hW hJ hY h0
 refine (h l J W hW hJ hY h0).mono fun e w' ⟨h1,xs,h2,h3⟩=>⟨h1,xs,h2.trans hp.symm,h3⟩
theorem keysA : ZdV Tryz.prog 170 202 172:=Zen (enters_of Tryz.func202 (by kernel_rfl) rfl) fun w Bm b es clock ks hB hc hb hk hst hl hf=>by
 obtain ⟨D0,hown,hp,hs⟩:=own_of (H:=Unit) (P:=Tryz.prog) (k:=Tryz.keysA_ren.t 26) (by kernel_rfl) hb hk hst hl hf
 exact Zh8 (AnyZ.keys_gives (ρ:=Tryz.keysA_ren) { Tryz.keysA with } Fence.wide 3 trivial rfl (by omega) Bm b ks.length D0 w hB hc hown) hs hp
theorem keysB : ZdV Tryz.prog 170 204 172:=Zen (enters_of Tryz.func204 (by kernel_rfl) rfl) fun w Bm b es clock ks hB hc hb hk hst hl hf=>by
 obtain ⟨D0,hown,hp,hs⟩:=own_of (H:=Unit) (P:=Tryz.prog) (k:=Tryz.keysB_ren.t 26) (by kernel_rfl) hb hk hst hl hf
 exact Zh8 (AnyZ.keys_gives (ρ:=Tryz.keysB_ren) { Tryz.keysB with } Fence.wide 3 trivial rfl (by omega) Bm b ks.length D0 w hB hc hown) hs hp
theorem keysC : ZdV Tryz.prog 170 216 172:=Zen (enters_of Tryz.func216 (by kernel_rfl) rfl) fun w Bm b es clock ks hB hc hb hk hst hl hf=>by
 obtain ⟨D0,hown,hp,hs⟩:=own_of (H:=Unit) (P:=Tryz.prog) (k:=Tryz.keysC_ren.t 26) (by kernel_rfl) hb hk hst hl hf
 exact Zh8 (AnyZ.keys_gives (ρ:=Tryz.keysC_ren) { Tryz.keysC with } Fence.wide 3 trivial rfl (by omega) Bm b ks.length D0 w hB hc hown) hs hp
abbrev ZgA : List Nat:=[202,204,216]
noncomputable def np : Nat→Option (List Value→M Value)
 | 156=>some ZgD
 | 195=>some ZgD
 | 196=>some ZgD
 | 158=>some ZiU
 | 170=>some (Za6 ZgA QC)
 | 239=>some ZeI
 | 233=>some Zex
 | _=>none
theorem np_sound (w0 : ZI) : ∀ g m,np g=some m→Zb9 Tryz.prog Tryz.prog.globals.size w0 g m:=by
 intro g m h
 unfold np at h
 split at h
 ·cases h;exact ZdK clA
 ·cases h;exact ZdK clB
 ·cases h;exact ZdK clC
 ·cases h;exact Zpp (Zto clC)
 ·cases h
  exact ZnS (by simp) fun gk hg=>by
   simp only [List.mem_cons,List.not_mem_nil,or_false] at hg
   rcases hg with rfl | rfl | rfl
   ·exact keysA
   ·exact keysB
   ·exact keysC
 ·cases h;exact (ZoN ⟨Tryz.f239,Tryz.func239,by kernel_rfl,by kernel_rfl,by kernel_rfl,by kernel_rfl⟩)
 ·cases h;exact (ZoM ⟨Tryz.f233,Tryz.func233,by kernel_rfl,by kernel_rfl,by kernel_rfl,by kernel_rfl⟩)
 ·cases h
noncomputable abbrev R (n : Nat) : Zc:=run Tryz.prog np lvs n
end Go.Proofs.YtedkoimihknggaaGreatDoor.A

