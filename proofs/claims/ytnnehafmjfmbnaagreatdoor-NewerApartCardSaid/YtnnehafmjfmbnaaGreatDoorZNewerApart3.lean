/- What the law NewerApart needs (part 3). -/
import Derived.Test.YtnnehafmjfmbnaaGreatDoorZNewerApart2
import Derived.Test.YtnnehafmjfmbnaaGreatDoorProg
import Derived.KernelRfl
import Derived.Maps.Own
import Derived.Sort.KeysCollected
import Derived.Lib.Bytealg
import Derived.WalkKit
import Derived.Maps.RangeWalk
import Derived.Deep.RegionWith
import Derived.Deep.Cut
namespace Go.Proofs.YtnnehafmjfmbnaaGreatDoor.A
set_option linter.unusedVariables false
set_option maxRecDepth 100000
set_option linter.unusedSimpArgs false
open Go.Proofs Go.Proofs.YtnnehafmjfmbnaaGreatDoor
noncomputable def ZS.l1 (Γ : Zd) (s3 s5 s6 s37 s38 s39 : Value) : M Out:=
 bind (bop .int .lss s39 s38) fun y18=>
 cnd y18
 (bind (ixa 4 s37 s39) fun y19=>
 bind (ldA 4 y19) fun y20=>
 bind (alc 1 (.agg #[.int .u8 0,.string ⟨#[]⟩,.string ⟨#[]⟩,.bool false])) fun y21=>
 bind (stA 4 y21 y20) fun _=>
 bind (ldA 2 s6) fun y22=>
 bind (ldA 4 y21) fun y23=>
 bind (Γ Jh [s5,y22,y23]) fun y24=>
 bind (Zk y24 0) fun y25=>
 bind (Zk y24 1) fun y26=>
 bind (stA 2 s6 y25) fun _=>
 bind (bop .int .add s39 (Value.int .i64 1)) fun y27=>
 ret (.nrm [s3,s5,s6,s37,s38,y27]))
 (ret (.ext 0 [s3,s5,s6]))
noncomputable def ZS.l2 (Γ : Zd) (s5 s9 s74 s75 s76 : Value) : M Out:=
 bind (bop .int .lss s76 s75) fun y52=>
 cnd y52
 (jn (bind (ixa 5 s74 s76) fun y53=>
 bind (ldA 5 y53) fun y54=>
 bind (alc 1 (.agg #[.string ⟨#[]⟩,.string ⟨#[]⟩,.string ⟨#[]⟩,.bool false,.slice none 0 0])) fun y55=>
 bind (stA 5 y55 y54) fun _=>
 bind (fa 0 y55) fun y56=>
 bind (ld1 y56) fun y57=>
 bind (bop .str .eql y57 s9) fun y58=>
 cnd y58
 (ret (.nrm [s5,s9,s74,s75,s76]))
 (bind (fa 0 y55) fun y59=>
 bind (ld1 y59) fun y60=>
 bind (Γ QA [s5,y60]) fun y61=>
 bind (Zk y61 0) fun y62=>
 bind (Zk y61 1) fun y63=>
 bind (alc 1 (.agg #[.string ⟨#[]⟩,.string ⟨#[]⟩,.string ⟨#[]⟩,.bool false,.slice none 0 0])) fun y64=>
 bind (stA 5 y64 y62) fun _=>
 bind (bop .int .neq y63 (Value.int .i64 0)) fun y65=>
 bind (Zx y65 false 6 (bind (ldA 5 y55) fun y66=>
 bind (bsl 5 1 (.agg #[.string ⟨#[]⟩,.string ⟨#[]⟩,.string ⟨#[]⟩,.bool false,.slice none 0 0]) [(0,5,y66)]) fun y67=>
 bind (ldA 5 y64) fun y68=>
 bind (bsl 5 1 (.agg #[.string ⟨#[]⟩,.string ⟨#[]⟩,.string ⟨#[]⟩,.bool false,.slice none 0 0]) [(0,5,y68)]) fun y69=>
 bind (Γ Ka [y67,y69]) fun y70=>
 bind (uop .not y70) fun y71=>
 ret [y66,y67,y68,y69,y70,y71])) (c6 fun _ _ _ _ _ q72_5=>
 bind (pick y65 (Value.bool true) q72_5) fun y73=>
 cnd y73
 (ret (.ret (Value.bool false)))
 (ret (.nrm [s5,s9,s74,s75,s76]))))) (c5 fun q74_0 q74_1 q74_2 q74_3 q74_4=>
 bind (bop .int .add q74_4 (Value.int .i64 1)) fun y75=>
 ret (.nrm [q74_0,q74_1,q74_2,q74_3,y75])) noX ZP)
 (ret (.ext 2 [s5,s9]))
noncomputable def ZS (Γ : Zd) (x0 x1 : Value) : M Value:=
 bind (alc 1 x1) fun y1=>
 bind (Γ Yy []) fun y2=>
 bind (uop .not y2) fun y3=>
 bind (Zx y3 false 3 (bind (Γ Km [x0]) fun y4=>
 bind (uop .not y4) fun y5=>
 ret [x0,y4,y5])) (c3 fun _ _ q6_2=>
 bind (pick y3 (Value.bool true) q6_2) fun y7=>
 bind (Zx y7 false 4 (bind (ldA 4 y1) fun y8=>
 bind (bsl 4 1 (.agg #[.int .u8 0,.string ⟨#[]⟩,.string ⟨#[]⟩,.bool false]) [(0,4,y8)]) fun y9=>
 bind (Γ Km [y9]) fun y10=>
 bind (uop .not y10) fun y11=>
 ret [y8,y9,y10,y11])) (c4 fun _ _ _ q12_3=>
 bind (pick y7 (Value.bool true) q12_3) fun y13=>
 cnd y13
 (bind (Γ Yy []) fun y14=>
 ret y14)
 (bind (Γ Kq []) fun y15=>
 bind (alc 1 (.agg #[.slice none 0 0,.slice none 0 0])) fun y16=>
 bind (ZB x0) fun y17=>
 jn (Zh (c6 (ZS.l1 Γ)) [y1,y15,y16,x0,y17,(Value.int .i64 0)]) noN (xk 0 (c3 fun q29_0 q29_1 q29_2=>
 bind (fa 1 q29_0) fun y30=>
 bind (ld1 y30) fun y31=>
 bind (fa 0 q29_0) fun y32=>
 bind (ld1 y32) fun y33=>
 bind (bop .int .rem y33 (Value.int .u8 11)) fun y34=>
 bind (bop .int .geq y34 (Value.int .u8 8)) fun y35=>
 jn (cnd y35
 (bind (fa 2 q29_0) fun y36=>
 bind (ld1 y36) fun y37=>
 ret (.nrm [q29_0,q29_1,q29_2,y37]))
 (ret (.nrm [q29_0,q29_1,q29_2,y31]))) (c4 fun q38_0 q38_1 q38_2 q38_3=>
 bind (Γ Wb [q38_1]) fun y39=>
 bind (fa 0 q38_0) fun y40=>
 bind (ld1 y40) fun y41=>
 bind (bop .int .rem y41 (Value.int .u8 11)) fun y42=>
 bind (bop .int .neq y42 (Value.int .u8 6)) fun y43=>
 bind (Zx y43 true 2 (bind (bop .int .neq y42 (Value.int .u8 7)) fun y44=>
 ret [y42,y44])) (c2 fun _ q45_1=>
 bind (pick y43 q45_1 (Value.bool false)) fun y46=>
 jn (cnd y46
 (bind (ldA 2 q38_2) fun y47=>
 bind (ldA 4 q38_0) fun y48=>
 bind (Γ Jh [q38_1,y47,y48]) fun y49=>
 ret (.nrm [q38_1,q38_3,y39]))
 (ret (.nrm [q38_1,q38_3,y39]))) (c3 fun q50_0 q50_1 q50_2=>
 bind (ZB q50_2) fun y51=>
 jn (Zh (c5 (ZS.l2 Γ)) [q50_0,q50_1,q50_2,y51,(Value.int .i64 0)]) noN (xk 2 (c2 fun q78_0 q78_1=>
 bind (Γ QA [q78_0,q78_1]) fun y79=>
 bind (Zk y79 0) fun y80=>
 bind (Zk y79 1) fun y81=>
 bind (alc 1 (.agg #[.string ⟨#[]⟩,.string ⟨#[]⟩,.string ⟨#[]⟩,.bool false,.slice none 0 0])) fun y82=>
 bind (stA 5 y82 y80) fun _=>
 bind (bop .int .neq y81 (Value.int .i64 0)) fun y83=>
 bind (Zx y83 false 4 (bind (Γ Ju [q78_0,q78_1]) fun y84=>
 bind (bop .int .neq y84 (Value.int .i64 0)) fun y85=>
 ret [q78_0,q78_1,y84,y85])) (c4 fun _ _ _ q86_3=>
 bind (pick y83 (Value.bool true) q86_3) fun y87=>
 cnd y87
 (bind (bop .int .neq y81 (Value.int .i64 0)) fun y88=>
 ret y88)
 (bind (fa 2 y82) fun y89=>
 bind (ld1 y89) fun y90=>
 bind (Γ YG [q78_0,y90]) fun y91=>
 bind (Zk y91 0) fun y92=>
 bind (Zk y91 1) fun y93=>
 bind (fa 2 y82) fun y94=>
 bind (ld1 y94) fun y95=>
 bind (bop .str .neq y95 (Value.string ⟨#[]⟩)) fun y96=>
 bind (Zx y96 true 3 (bind (bop .int .neq y93 (Value.int .i64 8)) fun y97=>
 ret [y93,y97,y97])) (c3 fun _ _ q98_2=>
 bind (Zx q98_2 false 2 (bind (bop .str .neq y92 (Value.string ⟨#[]⟩)) fun y99=>
 ret [y92,y99])) (c2 fun _ q100_1=>
 bind (Zx y96 true 1 (bind (pick q98_2 (Value.bool true) q100_1) fun y101=>
 ret [y101])) (c1 fun q102_0=>
 bind (pick y96 q102_0 (Value.bool false)) fun y103=>
 cnd y103
 (ret (Value.bool false))
 (bind (Γ QK [q78_0,q78_1,(Value.string ⟨#[49]⟩)]) fun y104=>
 bind (bop .int .neq y104 (Value.int .i64 0)) fun y105=>
 cnd y105
 (ret (Value.bool false))
 (bind (Γ QA [q78_0,q78_1]) fun y106=>
 bind (Zk y106 0) fun y107=>
 bind (Zk y106 1) fun y108=>
 bind (alc 1 (.agg #[.string ⟨#[]⟩,.string ⟨#[]⟩,.string ⟨#[]⟩,.bool false,.slice none 0 0])) fun y109=>
 bind (stA 5 y109 y107) fun _=>
 bind (bop .int .eql y108 (Value.int .i64 0)) fun y110=>
 bind (Zx y110 true 3 (bind (fa 2 y109) fun y111=>
 bind (ld1 y111) fun y112=>
 bind (bop .str .eql y112 (Value.string ⟨#[]⟩)) fun y113=>
 ret [y111,y112,y113])) (c3 fun _ _ q114_2=>
 bind (pick y110 q114_2 (Value.bool false)) fun y115=>
 bind (Zx y115 true 3 (bind (fa 3 y109) fun y116=>
 bind (ld1 y116) fun y117=>
 bind (uop .not y117) fun y118=>
 ret [y116,y117,y118])) (c3 fun _ _ q119_2=>
 bind (pick y115 q119_2 (Value.bool false)) fun y120=>
 bind (Zx y120 true 4 (bind (fa 4 y109) fun y121=>
 bind (ld1 y121) fun y122=>
 bind (ZB y122) fun y123=>
 bind (bop .int .eql y123 (Value.int .i64 0)) fun y124=>
 ret [y121,y122,y123,y124])) (c4 fun _ _ _ q125_3=>
 bind (pick y120 q125_3 (Value.bool false)) fun y126=>
 bind (Zx y126 true 3 (bind (fa 1 y109) fun y127=>
 bind (ld1 y127) fun y128=>
 bind (bop .str .eql y128 (Value.string ⟨#[49]⟩)) fun y129=>
 ret [y127,y128,y129])) (c3 fun _ _ q130_2=>
 bind (pick y126 q130_2 (Value.bool false)) fun y131=>
 ret y131)))))))))))) noX) ret) noX ret)) noX ret) noX) ret)))
theorem ZiH (Γ : Zd) (x0 x1 : Value) : ZG Tryz.prog Γ Tryz.f3 ZdV [x0,x1]=ZS Γ x0 x1:=by kernel_rfl
theorem Zhz {prim : FuncId→Option (List Value→M Value)} (hp : prim Wg=none) (n : Nat) (x0 x1 : Value) : run Tryz.prog prim lvs (n+1) Wg [x0,x1]=ZS (run Tryz.prog prim lvs n) x0 x1:=
 (Zs hp (by kernel_rfl) Tryz.func3 (by kernel_rfl)).trans (ZiH _ x0 x1)
noncomputable def JK.l1 (Γ : Zd) (s0 s1 s5 s30 s31 s32 : Value) : M Out:=
 bind (bop .int .lss s32 s31) fun y13=>
 cnd y13
 (bind (ixa 5 s30 s32) fun y14=>
 bind (ldA 5 y14) fun y15=>
 bind (alc 1 (.agg #[.string ⟨#[]⟩,.string ⟨#[]⟩,.string ⟨#[]⟩,.bool false,.slice none 0 0])) fun y16=>
 bind (stA 5 y16 y15) fun _=>
 bind (ldA 5 y16) fun y17=>
 bind (Γ Zrw [y17]) fun y18=>
 bind (uop .not y18) fun y19=>
 cnd y19
 (ret (.ret (Value.bool true)))
 (bind (bsl 1 0 (.string ⟨#[]⟩) []) fun y20=>
 bind (fa 4 y16) fun y21=>
 bind (ld1 y21) fun y22=>
 bind (app 1 16 y20 y22) fun y23=>
 bind (fa 4 y16) fun y24=>
 bind (st1 y24 y23) fun _=>
 bind (ldA 5 y16) fun y25=>
 bind (bsl 5 1 (.agg #[.string ⟨#[]⟩,.string ⟨#[]⟩,.string ⟨#[]⟩,.bool false,.slice none 0 0]) [(0,5,y25)]) fun y26=>
 bind (app 5 80 s5 y26) fun y27=>
 bind (bop .int .add s32 (Value.int .i64 1)) fun y28=>
 ret (.nrm [s0,s1,y27,s30,s31,y28])))
 (ret (.ext 0 [s0,s1,s5]))
noncomputable def JK.l2 (Γ : Zd) (s0 s1 s5 s49 s50 s51 : Value) : M Out:=
 bind (bop .int .lss s51 s50) fun y32=>
 cnd y32
 (bind (ixa 1 s49 s51) fun y33=>
 bind (ld1 y33) fun y34=>
 bind (Je y34) fun y35=>
 bind (bop .int .gtr y35 (Value.int .i64 50)) fun y36=>
 cnd y36
 (ret (.ret (Value.bool true)))
 (bind (bop .int .add s51 (Value.int .i64 1)) fun y37=>
 ret (.nrm [s0,s1,s5,s49,s50,y37])))
 (ret (.ext 2 [s0,s1,s5]))
noncomputable def JK.l4 (Γ : Zd) (s0 s1 s5 s10 s12 s75 s76 s84 s85 : Value) : M Out:=
 bind (bop .int .lss s85 s84) fun y53=>
 cnd y53
 (bind (ixa 5 s5 s12) fun y54=>
 bind (fa 4 y54) fun y55=>
 bind (ld1 y55) fun y56=>
 bind (ixa 1 y56 s85) fun y57=>
 bind (st1 y57 (Value.string ⟨#[122,122,122]⟩)) fun _=>
 bind (bop .int .add s85 (Value.int .i64 1)) fun y58=>
 ret (.nrm [s0,s1,s5,s10,s12,s75,s76,s84,y58]))
 (ret (.ext 6 [s0,s1,s5,s10,s75,s76]))
noncomputable def JK.l3 (Γ : Zd) (s0 s1 s5 s10 s75 s76 : Value) : M Out:=
 bind (bop .int .lss s76 s75) fun y48=>
 cnd y48
 (bind (ixa 5 s5 s76) fun y49=>
 bind (fa 4 y49) fun y50=>
 bind (ld1 y50) fun y51=>
 bind (ZB y51) fun y52=>
 jn (Zh (c9 (JK.l4 Γ)) [s0,s1,s5,s10,s76,s75,s76,y52,(Value.int .i64 0)]) noN (xk 6 (c6 fun q60_0 q60_1 q60_2 q60_3 q60_4 q60_5=>
 bind (bop .int .add q60_5 (Value.int .i64 1)) fun y61=>
 ret (.nrm [q60_0,q60_1,q60_2,q60_3,q60_4,y61])) noX) ZP)
 (ret (.ext 4 [s0,s1,s10]))
noncomputable def JK.l6 (Γ : Zd) (s0 s1 s10 s14 s15 s100 s101 s109 s110 : Value) : M Out:=
 bind (bop .int .lss s110 s109) fun y72=>
 cnd y72
 (bind (ixa 5 s14 s15) fun y73=>
 bind (fa 4 y73) fun y74=>
 bind (ld1 y74) fun y75=>
 bind (ixa 1 y75 s110) fun y76=>
 bind (st1 y76 (Value.string ⟨#[121,121,121]⟩)) fun _=>
 bind (bop .int .add s110 (Value.int .i64 1)) fun y77=>
 ret (.nrm [s0,s1,s10,s14,s15,s100,s101,s109,y77]))
 (ret (.ext 10 [s0,s1,s10,s14,s100,s101]))
noncomputable def JK.l5 (Γ : Zd) (s0 s1 s10 s14 s100 s101 : Value) : M Out:=
 bind (bop .int .lss s101 s100) fun y67=>
 cnd y67
 (bind (ixa 5 s14 s101) fun y68=>
 bind (fa 4 y68) fun y69=>
 bind (ld1 y69) fun y70=>
 bind (ZB y70) fun y71=>
 jn (Zh (c9 (JK.l6 Γ)) [s0,s1,s10,s14,s101,s100,s101,y71,(Value.int .i64 0)]) noN (xk 10 (c6 fun q79_0 q79_1 q79_2 q79_3 q79_4 q79_5=>
 bind (bop .int .add q79_5 (Value.int .i64 1)) fun y80=>
 ret (.nrm [q79_0,q79_1,q79_2,q79_3,q79_4,y80])) noX) ZP)
 (ret (.ext 8 [s0,s1,s10]))
noncomputable def JK (Γ : Zd) (x0 x1 : Value) : M Value:=
 bind (Γ Yy []) fun y1=>
 bind (uop .not y1) fun y2=>
 bind (Zx y2 false 3 (bind (ZB x0) fun y3=>
 bind (bop .int .gtr y3 (Value.int .i64 30)) fun y4=>
 ret [x0,y3,y4])) (c3 fun _ _ q5_2=>
 bind (pick y2 (Value.bool true) q5_2) fun y6=>
 bind (Zx y6 false 3 (bind (ZB x1) fun y7=>
 bind (bop .int .gtr y7 (Value.int .i64 20)) fun y8=>
 ret [x1,y7,y8])) (c3 fun _ _ q9_2=>
 bind (pick y6 (Value.bool true) q9_2) fun y10=>
 cnd y10
 (bind (Γ Yy []) fun y11=>
 ret y11)
 (bind (ZB x0) fun y12=>
 jn (Zh (c6 (JK.l1 Γ)) [x0,x1,(Value.slice none 0 0),x0,y12,(Value.int .i64 0)]) noN (xk 0 (c3 fun q30_0 q30_1 q30_2=>
 bind (ZB q30_1) fun y31=>
 jn (Zh (c6 (JK.l2 Γ)) [q30_0,q30_1,q30_2,q30_1,y31,(Value.int .i64 0)]) noN (xk 2 (c3 fun q39_0 q39_1 q39_2=>
 bind (Γ Zr4 [q39_2,q39_1]) fun y40=>
 bind (Zk y40 0) fun y41=>
 bind (Zk y40 1) fun y42=>
 bind (Γ ZrK [q39_0,q39_1]) fun y43=>
 bind (bop .int .neq y42 y43) fun y44=>
 cnd y44
 (ret (Value.bool false))
 (bind (bop .int .neq y42 (Value.int .i64 0)) fun y45=>
 cnd y45
 (bind (bop .ptr .eql y41 (Value.pointer none)) fun y46=>
 ret y46)
 (bind (ZB q39_2) fun y47=>
 jn (Zh (c6 (JK.l3 Γ)) [q39_0,q39_1,q39_2,y41,y47,(Value.int .i64 0)]) noN (xk 4 (c3 fun q64_0 q64_1 q64_2=>
 bind (Γ Wb [q64_2]) fun y65=>
 bind (ZB y65) fun y66=>
 jn (Zh (c6 (JK.l5 Γ)) [q64_0,q64_1,q64_2,y65,y66,(Value.int .i64 0)]) noN (xk 8 (c3 fun q83_0 q83_1 q83_2=>
 bind (bld (.agg #[.slice none 0 0,.slice none 0 0]) [(0,1,q83_0),(1,1,q83_1)]) fun y84=>
 bind (Γ ZjK [q83_2,y84]) fun y85=>
 ret y85) noX) ret) noX) ret))) noX) ret) noX) ret)))
noncomputable def Zew.l1 (Γ : Zd) (s3 s4 s17 s18 s19 : Value) : M Out:=
 bind (bop .int .lss s19 s18) fun y11=>
 cnd y11
 (bind (ixa 4 s17 s19) fun y12=>
 bind (ldA 4 y12) fun y13=>
 bind (alc 1 (.agg #[.int .u8 0,.string ⟨#[]⟩,.string ⟨#[]⟩,.bool false])) fun y14=>
 bind (stA 4 y14 y13) fun _=>
 bind (ldA 2 s4) fun y15=>
 bind (ldA 4 y14) fun y16=>
 bind (Γ Jh [s3,y15,y16]) fun y17=>
 bind (Zk y17 0) fun y18=>
 bind (Zk y17 1) fun y19=>
 bind (stA 2 s4 y18) fun _=>
 bind (uop .not y19) fun y20=>
 bind (Zx y20 false 4 (bind (ldA 2 s4) fun y21=>
 bind (Γ ZjK [s3,y21]) fun y22=>
 bind (uop .not y22) fun y23=>
 ret [s3,y21,y22,y23])) (c4 fun _ _ _ q24_3=>
 bind (pick y20 (Value.bool true) q24_3) fun y25=>
 cnd y25
 (ret (.ret (Value.bool false)))
 (bind (bop .int .add s19 (Value.int .i64 1)) fun y26=>
 ret (.nrm [s3,s4,s17,s18,y26]))))
 (ret (.ext 0 []))
noncomputable def Zew (Γ : Zd) (x0 : Value) : M Value:=
 bind (Γ Yy []) fun y1=>
 bind (uop .not y1) fun y2=>
 bind (Zx y2 false 3 (bind (Γ Km [x0]) fun y3=>
 bind (uop .not y3) fun y4=>
 ret [x0,y3,y4])) (c3 fun _ _ q5_2=>
 bind (pick y2 (Value.bool true) q5_2) fun y6=>
 cnd y6
 (bind (Γ Yy []) fun y7=>
 ret y7)
 (bind (Γ Kq []) fun y8=>
 bind (alc 1 (.agg #[.slice none 0 0,.slice none 0 0])) fun y9=>
 bind (ZB x0) fun y10=>
 jn (Zh (c5 (Zew.l1 Γ)) [y8,y9,x0,y10,(Value.int .i64 0)]) noN (xk 0 (c0 (ret (Value.bool true))) noX) ret))
noncomputable def Ze8.l1 (Γ : Zd) (s1 s2 s3 s4 s11 s12 s60 s61 s62 : Value) : M Out:=
 bind (bop .int .lss s62 s61) fun y27=>
 cnd y27
 (bind (ixa 4 s60 s62) fun y28=>
 bind (ldA 4 y28) fun y29=>
 bind (alc 1 (.agg #[.int .u8 0,.string ⟨#[]⟩,.string ⟨#[]⟩,.bool false])) fun y30=>
 bind (stA 4 y30 y29) fun _=>
 bind (ldA 2 s12) fun y31=>
 bind (ldA 4 y30) fun y32=>
 bind (Γ Jh [s11,y31,y32]) fun y33=>
 bind (Zk y33 0) fun y34=>
 bind (Zk y33 1) fun y35=>
 bind (stA 2 s12 y34) fun _=>
 bind (bop .int .add s62 (Value.int .i64 1)) fun y36=>
 ret (.nrm [s1,s2,s3,s4,s11,s12,s60,s61,y36]))
 (ret (.ext 0 [s1,s2,s3,s4,s11,s12]))
noncomputable def Ze8 (Γ : Zd) (x0 x1 x2 x3 x4 : Value) : M Value:=
 bind (Γ Yy []) fun y1=>
 bind (uop .not y1) fun y2=>
 bind (Zx y2 false 3 (bind (Γ Km [x0]) fun y3=>
 bind (uop .not y3) fun y4=>
 ret [x0,y3,y4])) (c3 fun _ _ q5_2=>
 bind (pick y2 (Value.bool true) q5_2) fun y6=>
 bind (Zx y6 false 3 (bind (Je x1) fun y7=>
 bind (bop .int .gtr y7 (Value.int .i64 50)) fun y8=>
 ret [x1,y7,y8])) (c3 fun _ _ q9_2=>
 bind (pick y6 (Value.bool true) q9_2) fun y10=>
 bind (Zx y10 false 3 (bind (Je x2) fun y11=>
 bind (bop .int .gtr y11 (Value.int .i64 50)) fun y12=>
 ret [x2,y11,y12])) (c3 fun _ _ q13_2=>
 bind (pick y10 (Value.bool true) q13_2) fun y14=>
 bind (Zx y14 false 3 (bind (Je x3) fun y15=>
 bind (bop .int .gtr y15 (Value.int .i64 50)) fun y16=>
 ret [x3,y15,y16])) (c3 fun _ _ q17_2=>
 bind (pick y14 (Value.bool true) q17_2) fun y18=>
 bind (Zx y18 false 3 (bind (Je x4) fun y19=>
 bind (bop .int .gtr y19 (Value.int .i64 50)) fun y20=>
 ret [x4,y19,y20])) (c3 fun _ _ q21_2=>
 bind (pick y18 (Value.bool true) q21_2) fun y22=>
 cnd y22
 (bind (Γ Yy []) fun y23=>
 ret y23)
 (bind (Γ Kq []) fun y24=>
 bind (alc 1 (.agg #[.slice none 0 0,.slice none 0 0])) fun y25=>
 bind (ZB x0) fun y26=>
 jn (Zh (c9 (Ze8.l1 Γ)) [x1,x2,x3,x4,y24,y25,x0,y26,(Value.int .i64 0)]) noN (xk 0 (c6 fun q38_0 q38_1 q38_2 q38_3 q38_4 q38_5=>
 bind (Γ QA [q38_4,q38_0]) fun y39=>
 bind (Zk y39 0) fun y40=>
 bind (Zk y39 1) fun y41=>
 bind (alc 1 (.agg #[.string ⟨#[]⟩,.string ⟨#[]⟩,.string ⟨#[]⟩,.bool false,.slice none 0 0])) fun y42=>
 bind (stA 5 y42 y40) fun _=>
 bind (ldA 2 q38_5) fun y43=>
 bind (Γ ZnN [y43,q38_0]) fun y44=>
 bind (Zk y44 0) fun y45=>
 bind (Zk y44 1) fun y46=>
 bind (alc 1 (.agg #[.string ⟨#[]⟩,.string ⟨#[]⟩,.string ⟨#[]⟩,.bool false,.slice none 0 0])) fun y47=>
 bind (stA 5 y47 y45) fun _=>
 bind (Γ YG [q38_4,q38_1]) fun y48=>
 bind (Zk y48 0) fun y49=>
 bind (Zk y48 1) fun y50=>
 bind (ldA 2 q38_5) fun y51=>
 bind (Γ Zp0 [y51,q38_1]) fun y52=>
 bind (Zk y52 0) fun y53=>
 bind (Zk y52 1) fun y54=>
 bind (ldA 5 y42) fun y55=>
 bind (bsl 5 1 (.agg #[.string ⟨#[]⟩,.string ⟨#[]⟩,.string ⟨#[]⟩,.bool false,.slice none 0 0]) [(0,5,y55)]) fun y56=>
 bind (ldA 5 y47) fun y57=>
 bind (bsl 5 1 (.agg #[.string ⟨#[]⟩,.string ⟨#[]⟩,.string ⟨#[]⟩,.bool false,.slice none 0 0]) [(0,5,y57)]) fun y58=>
 bind (Γ Ka [y56,y58]) fun y59=>
 bind (uop .not y59) fun y60=>
 bind (Zx y60 false 3 (bind (bop .int .neq y41 y46) fun y61=>
 ret [y41,y46,y61])) (c3 fun _ _ q62_2=>
 bind (pick y60 (Value.bool true) q62_2) fun y63=>
 bind (Zx y63 false 3 (bind (bop .str .neq y49 y53) fun y64=>
 ret [y49,y53,y64])) (c3 fun _ _ q65_2=>
 bind (pick y63 (Value.bool true) q65_2) fun y66=>
 bind (Zx y66 false 3 (bind (bop .int .neq y50 y54) fun y67=>
 ret [y50,y54,y67])) (c3 fun _ _ q68_2=>
 bind (pick y66 (Value.bool true) q68_2) fun y69=>
 cnd y69
 (ret (Value.bool false))
 (bind (Γ ZmH [q38_4,q38_2]) fun y70=>
 bind (Zk y70 0) fun y71=>
 bind (Zk y70 1) fun y72=>
 bind (fa 0 q38_5) fun y73=>
 bind (ld1 y73) fun y74=>
 bind (Γ Zqf [y74,q38_2]) fun y75=>
 bind (Zk y75 0) fun y76=>
 bind (Zk y75 1) fun y77=>
 bind (Γ Zjn [q38_4,q38_3]) fun y78=>
 bind (Zk y78 0) fun y79=>
 bind (Zk y78 1) fun y80=>
 bind (ldA 2 q38_5) fun y81=>
 bind (Γ Zmr [y81,q38_3]) fun y82=>
 bind (Zk y82 0) fun y83=>
 bind (Zk y82 1) fun y84=>
 bind (Γ Zfd [y71,y76]) fun y85=>
 bind (Zx y85 true 3 (bind (bop .int .eql y72 y77) fun y86=>
 ret [y72,y77,y86])) (c3 fun _ _ q87_2=>
 bind (pick y85 q87_2 (Value.bool false)) fun y88=>
 bind (Zx y88 true 3 (bind (Γ Zfd [y79,y83]) fun y89=>
 ret [y79,y83,y89])) (c3 fun _ _ q90_2=>
 bind (pick y88 q90_2 (Value.bool false)) fun y91=>
 bind (Zx y91 true 3 (bind (bop .int .eql y80 y84) fun y92=>
 ret [y80,y84,y92])) (c3 fun _ _ q93_2=>
 bind (pick y91 q93_2 (Value.bool false)) fun y94=>
 ret y94)))))))) noX) ret))))))
noncomputable def Zff (Γ : Zd) : M Value:=
 bind (Γ Kq []) fun y1=>
 bind (bop .ptr .eql y1 (Value.pointer none)) fun y2=>
 cnd y2
 (ret (Value.bool false))
 (bind (Γ QK [y1,(Value.string ⟨#[97,110,110]⟩),(Value.string ⟨#[49]⟩)]) fun y3=>
 bind (Γ JE [y1,(Value.string ⟨#[97,110,110]⟩),(Value.string ⟨#[65,64,98,46,99]⟩)]) fun y4=>
 bind (Γ YC [y1,(Value.string ⟨#[97,110,110]⟩),(Value.string ⟨#[98,111,98]⟩)]) fun y5=>
 bind (Γ YG [y1,(Value.string ⟨#[97,64,98,46,99]⟩)]) fun y6=>
 bind (Zk y6 0) fun y7=>
 bind (Zk y6 1) fun y8=>
 bind (bop .int .eql y3 (Value.int .i64 0)) fun y9=>
 bind (Zx y9 true 2 (bind (bop .int .eql y4 (Value.int .i64 0)) fun y10=>
 ret [y4,y10])) (c2 fun _ q11_1=>
 bind (pick y9 q11_1 (Value.bool false)) fun y12=>
 bind (Zx y12 true 2 (bind (bop .int .eql y5 (Value.int .i64 0)) fun y13=>
 ret [y5,y13])) (c2 fun _ q14_1=>
 bind (pick y12 q14_1 (Value.bool false)) fun y15=>
 bind (Zx y15 true 2 (bind (bop .int .eql y8 (Value.int .i64 0)) fun y16=>
 ret [y8,y16])) (c2 fun _ q17_1=>
 bind (pick y15 q17_1 (Value.bool false)) fun y18=>
 bind (Zx y18 true 2 (bind (bop .str .eql y7 (Value.string ⟨#[98,111,98]⟩)) fun y19=>
 ret [y7,y19])) (c2 fun _ q20_1=>
 bind (pick y18 q20_1 (Value.bool false)) fun y21=>
 ret y21)))))
theorem ZnJ (Γ : Zd) : ZG Tryz.prog Γ Tryz.f7 Zhw []=Zff Γ :=by kernel_rfl
theorem Zmi {prim : FuncId→Option (List Value→M Value)} (hp : prim Yy=none) (n : Nat) : run Tryz.prog prim lvs (n+1) Yy []=Zff (run Tryz.prog prim lvs n) :=
 (Zs hp (by kernel_rfl) Tryz.func7 (by kernel_rfl)).trans (ZnJ _ )
noncomputable def KY.l1 (Γ : Zd) (s0 s5 s6 s7 : Value) : M Out:=
 bind (bop .int .lss s7 s6) fun y2=>
 cnd y2
 (bind (ixa 4 s5 s7) fun y3=>
 bind (ldA 4 y3) fun y4=>
 bind (alc 1 (.agg #[.int .u8 0,.string ⟨#[]⟩,.string ⟨#[]⟩,.bool false])) fun y5=>
 bind (stA 4 y5 y4) fun _=>
 bind (fa 1 y5) fun y6=>
 bind (ld1 y6) fun y7=>
 bind (Je y7) fun y8=>
 bind (bop .int .gtr y8 (Value.int .i64 50)) fun y9=>
 bind (Zx y9 false 4 (bind (fa 2 y5) fun y10=>
 bind (ld1 y10) fun y11=>
 bind (Je y11) fun y12=>
 bind (bop .int .gtr y12 (Value.int .i64 50)) fun y13=>
 ret [y10,y11,y12,y13])) (c4 fun _ _ _ q14_3=>
 bind (pick y9 (Value.bool true) q14_3) fun y15=>
 cnd y15
 (ret (.ret (Value.bool false)))
 (bind (bop .int .add s7 (Value.int .i64 1)) fun y16=>
 ret (.nrm [s0,s5,s6,y16]))))
 (ret (.ext 0 [s0]))
noncomputable def KY (Γ : Zd) (x0 : Value) : M Value:=
 bind (ZB x0) fun y1=>
 jn (Zh (c4 (KY.l1 Γ)) [x0,x0,y1,(Value.int .i64 0)]) noN (xk 0 (c1 fun q18_0=>
 bind (ZB q18_0) fun y19=>
 bind (bop .int .leq y19 (Value.int .i64 60)) fun y20=>
 ret y20) noX) ret
theorem ZpT (Γ : Zd) (x0 : Value) : ZG Tryz.prog Γ Tryz.f8 ZjQ [x0]=KY Γ x0:=by kernel_rfl
theorem Zos {prim : FuncId→Option (List Value→M Value)} (hp : prim Km=none) (n : Nat) (x0 : Value) : run Tryz.prog prim lvs (n+1) Km [x0]=KY (run Tryz.prog prim lvs n) x0:=
 (Zs hp (by kernel_rfl) Tryz.func8 (by kernel_rfl)).trans (ZpT _ x0)
noncomputable def Zgx (Γ : Zd) : M Value:=
 bind (mkm) fun y1=>
 bind (Γ ZfF []) fun y2=>
 bind (Γ ZeH []) fun y3=>
 bind (bld (.agg #[.map none,.pointer none,.pointer none]) [(0,1,y1),(1,1,y2),(2,1,y3)]) fun y4=>
 bind (alc 1 y4) fun y5=>
 ret y5
theorem ZpB (Γ : Zd) : ZG Tryz.prog Γ Tryz.f9 Zj0 []=Zgx Γ :=by kernel_rfl
theorem ZoB {prim : FuncId→Option (List Value→M Value)} (hp : prim Kq=none) (n : Nat) : run Tryz.prog prim lvs (n+1) Kq []=Zgx (run Tryz.prog prim lvs n) :=
 (Zs hp (by kernel_rfl) Tryz.func9 (by kernel_rfl)).trans (ZpB _ )
noncomputable def Ki (Γ : Zd) (x0 x1 x2 : Value) : M Value:=
 bind (alc 1 x1) fun y1=>
 bind (alc 1 x2) fun y2=>
 bind (alc 1 (.agg #[.slice none 0 0,.slice none 0 0])) fun y3=>
 bind (fa 0 y2) fun y4=>
 bind (ld1 y4) fun y5=>
 bind (bop .int .rem y5 (Value.int .u8 11)) fun y6=>
 bind (bop .int .eql y6 (Value.int .u8 0)) fun y7=>
 jn (cnd y7
 (bind (ldA 2 y1) fun y8=>
 bind (fa 1 y2) fun y9=>
 bind (ld1 y9) fun y10=>
 bind (fa 2 y2) fun y11=>
 bind (ld1 y11) fun y12=>
 bind (Γ Zbb [y8,y10,y12]) fun y13=>
 bind (Zk y13 0) fun y14=>
 bind (Zk y13 1) fun y15=>
 bind (stA 2 y1 y14) fun _=>
 bind (fa 1 y2) fun y16=>
 bind (ld1 y16) fun y17=>
 bind (fa 2 y2) fun y18=>
 bind (ld1 y18) fun y19=>
 bind (Γ QK [x0,y17,y19]) fun y20=>
 ret (.nrm [y1,y3,y20,y15]))
 (bind (bop .int .eql y6 (Value.int .u8 1)) fun y21=>
 jn (cnd y21
 (bind (ldA 2 y1) fun y22=>
 bind (fa 1 y2) fun y23=>
 bind (ld1 y23) fun y24=>
 bind (Γ Zba [y22,y24]) fun y25=>
 bind (Zk y25 0) fun y26=>
 bind (Zk y25 1) fun y27=>
 bind (stA 2 y1 y26) fun _=>
 bind (fa 1 y2) fun y28=>
 bind (ld1 y28) fun y29=>
 bind (Γ Ju [x0,y29]) fun y30=>
 ret (.nrm [y1,y3,y30,y27]))
 (bind (bop .int .eql y6 (Value.int .u8 2)) fun y31=>
 jn (cnd y31
 (bind (ldA 2 y1) fun y32=>
 bind (fa 1 y2) fun y33=>
 bind (ld1 y33) fun y34=>
 bind (fa 2 y2) fun y35=>
 bind (ld1 y35) fun y36=>
 bind (Γ WK [y32,y34,y36]) fun y37=>
 bind (Zk y37 0) fun y38=>
 bind (Zk y37 1) fun y39=>
 bind (stA 2 y1 y38) fun _=>
 bind (fa 1 y2) fun y40=>
 bind (ld1 y40) fun y41=>
 bind (fa 2 y2) fun y42=>
 bind (ld1 y42) fun y43=>
 bind (Γ Kz [x0,y41,y43]) fun y44=>
 ret (.nrm [y1,y3,y44,y39]))
 (bind (bop .int .eql y6 (Value.int .u8 3)) fun y45=>
 jn (cnd y45
 (bind (ldA 2 y1) fun y46=>
 bind (fa 1 y2) fun y47=>
 bind (ld1 y47) fun y48=>
 bind (fa 2 y2) fun y49=>
 bind (ld1 y49) fun y50=>
 bind (Γ WE [y46,y48,y50]) fun y51=>
 bind (Zk y51 0) fun y52=>
 bind (Zk y51 1) fun y53=>
 bind (stA 2 y1 y52) fun _=>
 bind (fa 1 y2) fun y54=>
 bind (ld1 y54) fun y55=>
 bind (fa 2 y2) fun y56=>
 bind (ld1 y56) fun y57=>
 bind (Γ JE [x0,y55,y57]) fun y58=>
 ret (.nrm [y1,y3,y58,y53]))
 (bind (bop .int .eql y6 (Value.int .u8 4)) fun y59=>
 jn (cnd y59
 (bind (ldA 2 y1) fun y60=>
 bind (fa 1 y2) fun y61=>
 bind (ld1 y61) fun y62=>
 bind (fa 3 y2) fun y63=>
 bind (ld1 y63) fun y64=>
 bind (Γ WG [y60,y62,y64]) fun y65=>
 bind (Zk y65 0) fun y66=>
 bind (Zk y65 1) fun y67=>
 bind (stA 2 y1 y66) fun _=>
 bind (fa 1 y2) fun y68=>
 bind (ld1 y68) fun y69=>
 bind (fa 3 y2) fun y70=>
 bind (ld1 y70) fun y71=>
 bind (Γ KA [x0,y69,y71]) fun y72=>
 ret (.nrm [y1,y3,y72,y67]))
 (bind (bop .int .eql y6 (Value.int .u8 5)) fun y73=>
 jn (cnd y73
 (bind (ldA 2 y1) fun y74=>
 bind (fa 1 y2) fun y75=>
 bind (ld1 y75) fun y76=>
 bind (fa 2 y2) fun y77=>
 bind (ld1 y77) fun y78=>
 bind (Γ W9 [y74,y76,y78]) fun y79=>
 bind (Zk y79 0) fun y80=>
 bind (Zk y79 1) fun y81=>
 bind (stA 2 y1 y80) fun _=>
 bind (fa 1 y2) fun y82=>
 bind (ld1 y82) fun y83=>
 bind (fa 2 y2) fun y84=>
 bind (ld1 y84) fun y85=>
 bind (Γ YC [x0,y83,y85]) fun y86=>
 ret (.nrm [y1,y3,y86,y81]))
 (bind (bop .int .eql y6 (Value.int .u8 6)) fun y87=>
 jn (cnd y87
 (bind (ldA 2 y1) fun y88=>
 bind (fa 1 y2) fun y89=>
 bind (ld1 y89) fun y90=>
 bind (Γ WQ [y88,y90]) fun y91=>
 bind (Zk y91 0) fun y92=>
 bind (Zk y91 1) fun y93=>
 bind (stA 2 y1 y92) fun _=>
 bind (fa 1 y2) fun y94=>
 bind (ld1 y94) fun y95=>
 bind (Γ KH [x0,y95]) fun y96=>
 ret (.nrm [y1,y3,y96,y93]))
 (bind (bop .int .eql y6 (Value.int .u8 7)) fun y97=>
 jn (cnd y97
 (bind (ldA 2 y1) fun y98=>
 bind (fa 1 y2) fun y99=>
 bind (ld1 y99) fun y100=>
 bind (Γ KQ [y98,y100]) fun y101=>
 bind (Zk y101 0) fun y102=>
 bind (Zk y101 1) fun y103=>
 bind (stA 2 y1 y102) fun _=>
 bind (fa 1 y2) fun y104=>
 bind (ld1 y104) fun y105=>
 bind (Γ Yl [x0,y105]) fun y106=>
 ret (.nrm [y1,y3,y106,y103]))
 (bind (bop .int .eql y6 (Value.int .u8 8)) fun y107=>
 jn (cnd y107
 (bind (ldA 2 y1) fun y108=>
 bind (fa 1 y2) fun y109=>
 bind (ld1 y109) fun y110=>
 bind (fa 2 y2) fun y111=>
 bind (ld1 y111) fun y112=>
 bind (Γ Zbg [y108,y110,y112]) fun y113=>
 bind (Zk y113 0) fun y114=>
 bind (Zk y113 1) fun y115=>
 bind (stA 2 y1 y114) fun _=>
 bind (fa 1 y2) fun y116=>
 bind (ld1 y116) fun y117=>
 bind (fa 2 y2) fun y118=>
 bind (ld1 y118) fun y119=>
 bind (Γ WL [x0,y117,y119]) fun y120=>
 ret (.nrm [y1,y3,y120,y115]))
 (bind (bop .int .eql y6 (Value.int .u8 9)) fun y121=>
 jn (cnd y121
 (bind (ldA 2 y1) fun y122=>
 bind (fa 1 y2) fun y123=>
 bind (ld1 y123) fun y124=>
 bind (fa 2 y2) fun y125=>
 bind (ld1 y125) fun y126=>
 bind (Γ ZaU [y122,y124,y126]) fun y127=>
 bind (Zk y127 0) fun y128=>
 bind (Zk y127 1) fun y129=>
 bind (stA 2 y1 y128) fun _=>
 bind (fa 1 y2) fun y130=>
 bind (ld1 y130) fun y131=>
 bind (fa 2 y2) fun y132=>
 bind (ld1 y132) fun y133=>
 bind (Γ K7 [x0,y131,y133]) fun y134=>
 ret (.nrm [y1,y3,y134,y129]))
 (bind (Γ ZaK [x0]) fun y135=>
 bind (fa 1 y2) fun y136=>
 bind (ld1 y136) fun y137=>
 bind (Γ QK [y135,y137,(Value.string ⟨#[49]⟩)]) fun y138=>
 bind (Γ Ju [y135,(Value.string ⟨#[97,110,110]⟩)]) fun y139=>
 bind (Γ Yl [y135,(Value.string ⟨#[100,101,118]⟩)]) fun y140=>
 bind (Γ JE [y135,(Value.string ⟨#[98,111,98]⟩),(Value.string ⟨#[113,64,113,46,113]⟩)]) fun y141=>
 ret (.nrm [y1,y3,(Value.int .i64 0),(Value.int .i64 0)]))) (c4 fun q142_0 q142_1 q142_2 q142_3=>
 ret (.nrm [q142_0,q142_1,q142_2,q142_3])) noX ZP)) (c4 fun q144_0 q144_1 q144_2 q144_3=>
 ret (.nrm [q144_0,q144_1,q144_2,q144_3])) noX ZP)) (c4 fun q146_0 q146_1 q146_2 q146_3=>
 ret (.nrm [q146_0,q146_1,q146_2,q146_3])) noX ZP)) (c4 fun q148_0 q148_1 q148_2 q148_3=>
 ret (.nrm [q148_0,q148_1,q148_2,q148_3])) noX ZP)) (c4 fun q150_0 q150_1 q150_2 q150_3=>
 ret (.nrm [q150_0,q150_1,q150_2,q150_3])) noX ZP)) (c4 fun q152_0 q152_1 q152_2 q152_3=>
 ret (.nrm [q152_0,q152_1,q152_2,q152_3])) noX ZP)) (c4 fun q154_0 q154_1 q154_2 q154_3=>
 ret (.nrm [q154_0,q154_1,q154_2,q154_3])) noX ZP)) (c4 fun q156_0 q156_1 q156_2 q156_3=>
 ret (.nrm [q156_0,q156_1,q156_2,q156_3])) noX ZP)) (c4 fun q158_0 q158_1 q158_2 q158_3=>
 ret (.nrm [q158_0,q158_1,q158_2,q158_3])) noX ZP)) (c4 fun q160_0 q160_1 q160_2 q160_3=>
 bind (ldA 2 q160_0) fun y161=>
 bind (bop .int .eql q160_2 q160_3) fun y162=>
 bind (stA 2 q160_1 y161) fun _=>
 bind (ldA 2 q160_1) fun y163=>
 ret (Value.tuple #[y163,y162])) noX ret
theorem ZqS (Γ : Zd) (x0 x1 x2 : Value) : ZG Tryz.prog Γ Tryz.f10 ZlT [x0,x1,x2]=Ki Γ x0 x1 x2:=by kernel_rfl
theorem YU {prim : FuncId→Option (List Value→M Value)} (hp : prim Jh=none) (n : Nat) (x0 x1 x2 : Value) : run Tryz.prog prim lvs (n+1) Jh [x0,x1,x2]=Ki (run Tryz.prog prim lvs n) x0 x1 x2:=
 (Zs hp (by kernel_rfl) Tryz.func10 (by kernel_rfl)).trans (ZqS _ x0 x1 x2)
noncomputable def YZ.l1 (Γ : Zd) (s0 s3 s9 s10 s11 : Value) : M Out:=
 bind (bop .int .lss s11 s10) fun y3=>
 cnd y3
 (bind (ixa 1 s9 s11) fun y4=>
 bind (ld1 y4) fun y5=>
 bind (Γ QA [s0,y5]) fun y6=>
 bind (Zk y6 0) fun y7=>
 bind (Zk y6 1) fun y8=>
 bind (alc 1 (.agg #[.string ⟨#[]⟩,.string ⟨#[]⟩,.string ⟨#[]⟩,.bool false,.slice none 0 0])) fun y9=>
 bind (stA 5 y9 y7) fun _=>
 bind (ldA 5 y9) fun y10=>
 bind (bsl 5 1 (.agg #[.string ⟨#[]⟩,.string ⟨#[]⟩,.string ⟨#[]⟩,.bool false,.slice none 0 0]) [(0,5,y10)]) fun y11=>
 bind (app 5 80 s3 y11) fun y12=>
 bind (bop .int .add s11 (Value.int .i64 1)) fun y13=>
 ret (.nrm [s0,y12,s9,s10,y13]))
 (ret (.ext 0 [s3]))
noncomputable def YZ (Γ : Zd) (x0 : Value) : M Value:=
 bind (Γ Zam [x0]) fun y1=>
 bind (ZB y1) fun y2=>
 jn (Zh (c5 (YZ.l1 Γ)) [x0,(Value.slice none 0 0),y1,y2,(Value.int .i64 0)]) noN (xk 0 (c1 fun q15_0=>
 ret q15_0) noX) ret
theorem ZmV (Γ : Zd) (x0 : Value) : ZG Tryz.prog Γ Tryz.f11 Zgc [x0]=YZ Γ x0:=by kernel_rfl
theorem ZlI {prim : FuncId→Option (List Value→M Value)} (hp : prim Wb=none) (n : Nat) (x0 : Value) : run Tryz.prog prim lvs (n+1) Wb [x0]=YZ (run Tryz.prog prim lvs n) x0:=
 (Zs hp (by kernel_rfl) Tryz.func11 (by kernel_rfl)).trans (ZmV _ x0)
noncomputable def WY (Γ : Zd) (x0 x1 : Value) : M Value:=
 bind (alc 1 (.agg #[.string ⟨#[]⟩,.string ⟨#[]⟩,.string ⟨#[]⟩,.bool false,.slice none 0 0])) fun y1=>
 bind (Γ Qs [x0,x1]) fun y2=>
 bind (Zk y2 0) fun y3=>
 bind (Zk y2 1) fun y4=>
 bind (alc 1 (.agg #[.string ⟨#[]⟩,.bool false])) fun y5=>
 bind (stA 2 y5 y3) fun _=>
 bind (bop .int .neq y4 (Value.int .i64 0)) fun y6=>
 cnd y6
 (bind (bld (.agg #[.string ⟨#[]⟩,.string ⟨#[]⟩,.string ⟨#[]⟩,.bool false,.slice none 0 0]) []) fun y7=>
 bind (stA 5 y1 y7) fun _=>
 bind (ldA 5 y1) fun y8=>
 ret (Value.tuple #[y8,y4]))
 (bind (QJ x0) fun y9=>
 bind (fa 1 y9) fun y10=>
 bind (ld1 y10) fun y11=>
 bind (Γ Zbd [y11,x1]) fun y12=>
 bind (Zk y12 0) fun y13=>
 bind (Zk y12 1) fun y14=>
 bind (fa 0 y5) fun y15=>
 bind (ld1 y15) fun y16=>
 bind (fa 1 y5) fun y17=>
 bind (ld1 y17) fun y18=>
 bind (QJ x0) fun y19=>
 bind (fa 2 y19) fun y20=>
 bind (ld1 y20) fun y21=>
 bind (Γ JL [y21,x1]) fun y22=>
 bind (ld1 y17) fun u_23=>same u_23 y18 <|
 bind (ld1 y15) fun u_24=>same u_24 y16 <|
 bind (bld (.agg #[.string ⟨#[]⟩,.string ⟨#[]⟩,.string ⟨#[]⟩,.bool false,.slice none 0 0]) [(0,1,x1),(1,1,y16),(2,1,y13),(3,1,y18),(4,1,y22)]) fun y25=>
 bind (stA 5 y1 y25) fun _=>
 bind (ldA 5 y1) fun y26=>
 ret (Value.tuple #[y26,(Value.int .i64 0)]))
theorem Zjc (Γ : Zd) (x0 x1 : Value) : ZG Tryz.prog Γ Tryz.f12 Zex [x0,x1]=WY Γ x0 x1:=by kernel_rfl
theorem ZiI {prim : FuncId→Option (List Value→M Value)} (hp : prim QA=none) (n : Nat) (x0 x1 : Value) : run Tryz.prog prim lvs (n+1) QA [x0,x1]=WY (run Tryz.prog prim lvs n) x0 x1:=
 (Zs hp (by kernel_rfl) Tryz.func12 (by kernel_rfl)).trans (Zjc _ x0 x1)
noncomputable def Q2.l1 (Γ : Zd) (s0 s1 s12 s13 : Value) : M Out:=
 bind (bop .int .lss s13 s12) fun y5=>
 cnd y5
 (bind (ixa 5 s0 s13) fun y6=>
 bind (ldA 5 y6) fun y7=>
 bind (ixa 5 s1 s13) fun y8=>
 bind (ldA 5 y8) fun y9=>
 bind (Γ ZdK [y7,y9]) fun y10=>
 bind (uop .not y10) fun y11=>
 cnd y11
 (ret (.ret (Value.bool false)))
 (bind (bop .int .add s13 (Value.int .i64 1)) fun y12=>
 ret (.nrm [s0,s1,s12,y12])))
 (ret (.ext 0 []))
noncomputable def Q2 (Γ : Zd) (x0 x1 : Value) : M Value:=
 bind (ZB x0) fun y1=>
 bind (ZB x1) fun y2=>
 bind (bop .int .neq y1 y2) fun y3=>
 cnd y3
 (ret (Value.bool false))
 (bind (ZB x0) fun y4=>
 jn (Zh (c4 (Q2.l1 Γ)) [x0,x1,y4,(Value.int .i64 0)]) noN (xk 0 (c0 (ret (Value.bool true))) noX) ret)
theorem Zjj (Γ : Zd) (x0 x1 : Value) : ZG Tryz.prog Γ Tryz.f13 Zeq [x0,x1]=Q2 Γ x0 x1:=by kernel_rfl
theorem Zig {prim : FuncId→Option (List Value→M Value)} (hp : prim Ka=none) (n : Nat) (x0 x1 : Value) : run Tryz.prog prim lvs (n+1) Ka [x0,x1]=Q2 (run Tryz.prog prim lvs n) x0 x1:=
 (Zs hp (by kernel_rfl) Tryz.func13 (by kernel_rfl)).trans (Zjj _ x0 x1)
noncomputable def WW (Γ : Zd) (x0 x1 : Value) : M Value:=
 bind (Γ Qs [x0,x1]) fun y1=>
 bind (Zk y1 0) fun y2=>
 bind (Zk y1 1) fun y3=>
 bind (alc 1 (.agg #[.string ⟨#[]⟩,.bool false])) fun y4=>
 bind (stA 2 y4 y2) fun _=>
 bind (bop .int .neq y3 (Value.int .i64 0)) fun y5=>
 cnd y5
 (ret y3)
 (bind (QJ x0) fun y6=>
 bind (fa 0 y6) fun y7=>
 bind (ld1 y7) fun y8=>
 bind (mde .str y8 x1) fun _=>
 bind (QJ x0) fun y9=>
 bind (fa 1 y9) fun y10=>
 bind (ld1 y10) fun y11=>
 bind (Γ Jo [y11,x1]) fun y12=>
 bind (QJ x0) fun y13=>
 bind (fa 2 y13) fun y14=>
 bind (ld1 y14) fun y15=>
 bind (Γ KK [y15,x1]) fun y16=>
 ret (Value.int .i64 0))
theorem Zjw (Γ : Zd) (x0 x1 : Value) : ZG Tryz.prog Γ Tryz.f14 Zev [x0,x1]=WW Γ x0 x1:=by kernel_rfl
theorem Zio {prim : FuncId→Option (List Value→M Value)} (hp : prim Ju=none) (n : Nat) (x0 x1 : Value) : run Tryz.prog prim lvs (n+1) Ju [x0,x1]=WW (run Tryz.prog prim lvs n) x0 x1:=
 (Zs hp (by kernel_rfl) Tryz.func14 (by kernel_rfl)).trans (Zjw _ x0 x1)
noncomputable def Zdv (Γ : Zd) (x0 x1 : Value) : M Value:=
 bind (QJ x0) fun y1=>
 bind (fa 1 y1) fun y2=>
 bind (ld1 y2) fun y3=>
 bind (Γ Zaq [y3,x1]) fun y4=>
 bind (Zk y4 0) fun y5=>
 bind (Zk y4 1) fun y6=>
 ret (Value.tuple #[y5,y6])
theorem Zlm (Γ : Zd) (x0 x1 : Value) : ZG Tryz.prog Γ Tryz.f15 Zfn [x0,x1]=Zdv Γ x0 x1:=by kernel_rfl
theorem ZkP {prim : FuncId→Option (List Value→M Value)} (hp : prim YG=none) (n : Nat) (x0 x1 : Value) : run Tryz.prog prim lvs (n+1) YG [x0,x1]=Zdv (run Tryz.prog prim lvs n) x0 x1:=
 (Zs hp (by kernel_rfl) Tryz.func15 (by kernel_rfl)).trans (Zlm _ x0 x1)
noncomputable def WR (Γ : Zd) (x0 x1 x2 : Value) : M Value:=
 bind (Γ Qs [x0,x1]) fun y1=>
 bind (Zk y1 0) fun y2=>
 bind (Zk y1 1) fun y3=>
 bind (alc 1 (.agg #[.string ⟨#[]⟩,.bool false])) fun y4=>
 bind (stA 2 y4 y2) fun _=>
 bind (bop .int .eql y3 (Value.int .i64 10)) fun y5=>
 cnd y5
 (ret y3)
 (bind (Γ Zb2 [x2]) fun y6=>
 bind (bop .int .neq y6 (Value.int .i64 0)) fun y7=>
 cnd y7
 (ret (Value.int .i64 4))
 (bind (bop .int .eql y3 (Value.int .i64 0)) fun y8=>
 cnd y8
 (ret (Value.int .i64 9))
 (bind (QJ x0) fun y9=>
 bind (fa 0 y9) fun y10=>
 bind (ld1 y10) fun y11=>
 bind (lenM y11) fun y12=>
 bind (bop .int .geq y12 (Value.int .i64 12)) fun y13=>
 cnd y13
 (ret (Value.int .i64 7))
 (bind (QJ x0) fun y14=>
 bind (fa 0 y14) fun y15=>
 bind (ld1 y15) fun y16=>
 bind (bld (.agg #[.string ⟨#[]⟩,.bool false]) [(0,1,x2)]) fun y17=>
 bind (mup .str y16 x1 y17) fun _=>
 ret (Value.int .i64 0)))))
theorem ZjA (Γ : Zd) (x0 x1 x2 : Value) : ZG Tryz.prog Γ Tryz.f16 Zeo [x0,x1,x2]=WR Γ x0 x1 x2:=by kernel_rfl
theorem ZiP {prim : FuncId→Option (List Value→M Value)} (hp : prim QK=none) (n : Nat) (x0 x1 x2 : Value) : run Tryz.prog prim lvs (n+1) QK [x0,x1,x2]=WR (run Tryz.prog prim lvs n) x0 x1 x2:=
 (Zs hp (by kernel_rfl) Tryz.func16 (by kernel_rfl)).trans (ZjA _ x0 x1 x2)
noncomputable def ZlF.l1 (Γ : Zd) (s1 s3 s23 s24 s25 : Value) : M Out:=
 bind (bop .int .lss s25 s24) fun y21=>
 cnd y21
 (bind (ixa 1 s23 s25) fun y22=>
 bind (ld1 y22) fun y23=>
 bind (Je y23) fun y24=>
 bind (mxi false y24 (Value.int .i64 1000)) fun y25=>
 bind (bop .int .add s3 y25) fun y26=>
 bind (bop .int .add s25 (Value.int .i64 1)) fun y27=>
 ret (.nrm [s1,y26,s23,s24,y27]))
 (ret (.ext 0 [s1,s3]))
noncomputable def ZlF (Γ : Zd) (x0 : Value) : M Value:=
 bind (alc 1 x0) fun y1=>
 bind (fa 0 y1) fun y2=>
 bind (ld1 y2) fun y3=>
 bind (Je y3) fun y4=>
 bind (fa 1 y1) fun y5=>
 bind (ld1 y5) fun y6=>
 bind (Je y6) fun y7=>
 bind (bop .int .add y4 y7) fun y8=>
 bind (fa 2 y1) fun y9=>
 bind (ld1 y9) fun y10=>
 bind (Je y10) fun y11=>
 bind (bop .int .add y8 y11) fun y12=>
 bind (fa 4 y1) fun y13=>
 bind (ld1 y13) fun y14=>
 bind (fa 4 y1) fun y15=>
 bind (ld1 y15) fun y16=>
 bind (ZB y16) fun y17=>
 bind (mxi false y17 (Value.int .i64 30)) fun y18=>
 bind (slv 1 y14 none (some y18) none) fun y19=>
 bind (ZB y19) fun y20=>
 jn (Zh (c5 (ZlF.l1 Γ)) [y1,y12,y19,y20,(Value.int .i64 0)]) noN (xk 0 (c2 fun q29_0 q29_1=>
 bind (bop .int .leq q29_1 (Value.int .i64 400)) fun y30=>
 bind (Zx y30 true 4 (bind (fa 4 q29_0) fun y31=>
 bind (ld1 y31) fun y32=>
 bind (ZB y32) fun y33=>
 bind (bop .int .leq y33 (Value.int .i64 20)) fun y34=>
 ret [y31,y32,y33,y34])) (c4 fun _ _ _ q35_3=>
 bind (pick y30 q35_3 (Value.bool false)) fun y36=>
 ret y36)) noX) ret
noncomputable def ZcH.l1 (Γ : Zd) (s0 s7 s23 s24 s25 : Value) : M Out:=
 bind (bop .int .lss s25 s24) fun y5=>
 cnd y5
 (bind (ixa 1 s23 s25) fun y6=>
 bind (ld1 y6) fun y7=>
 bind (QJ s7) fun y8=>
 bind (fa 2 y8) fun y9=>
 bind (ld1 y9) fun y10=>
 bind (Γ Yj [y10,y7]) fun y11=>
 bind (bop .int .add s25 (Value.int .i64 1)) fun y12=>
 ret (.nrm [s0,s7,s23,s24,y12]))
 (ret (.ext 0 [s0,s7]))
noncomputable def ZcH.l3 (Γ : Zd) (s7 s11 s36 s37 s38 s54 s55 s56 : Value) : M Out:=
 bind (bop .int .lss s56 s55) fun y33=>
 cnd y33
 (bind (ixa 1 s54 s56) fun y34=>
 bind (ld1 y34) fun y35=>
 bind (QJ s7) fun y36=>
 bind (fa 2 y36) fun y37=>
 bind (ld1 y37) fun y38=>
 bind (fa 0 s11) fun y39=>
 bind (ld1 y39) fun y40=>
 bind (Γ YL [y38,y35,y40]) fun y41=>
 bind (bop .int .neq y41 (Value.int .i64 0)) fun y42=>
 cnd y42
 (ret (.ret (Value.tuple #[(Value.pointer none),y41])))
 (bind (bop .int .add s56 (Value.int .i64 1)) fun y43=>
 ret (.nrm [s7,s11,s36,s37,s38,s54,s55,y43])))
 (ret (.ext 4 [s7,s11,s36,s37,s38]))
noncomputable def ZcH.l2 (Γ : Zd) (s7 s36 s37 s38 : Value) : M Out:=
 bind (bop .int .lss s38 s37) fun y16=>
 cnd y16
 (bind (ixa 5 s36 s38) fun y17=>
 bind (ldA 5 y17) fun y18=>
 bind (alc 1 (.agg #[.string ⟨#[]⟩,.string ⟨#[]⟩,.string ⟨#[]⟩,.bool false,.slice none 0 0])) fun y19=>
 bind (stA 5 y19 y18) fun _=>
 bind (QJ s7) fun y20=>
 bind (fa 0 y20) fun y21=>
 bind (ld1 y21) fun y22=>
 bind (fa 0 y19) fun y23=>
 bind (ld1 y23) fun y24=>
 bind (fa 1 y19) fun y25=>
 bind (ld1 y25) fun y26=>
 bind (fa 3 y19) fun y27=>
 bind (ld1 y27) fun y28=>
 bind (bld (.agg #[.string ⟨#[]⟩,.bool false]) [(0,1,y26),(1,1,y28)]) fun y29=>
 bind (mup .str y22 y24 y29) fun _=>
 bind (fa 4 y19) fun y30=>
 bind (ld1 y30) fun y31=>
 bind (ZB y31) fun y32=>
 jn (Zh (c8 (ZcH.l3 Γ)) [s7,y19,s36,s37,s38,y31,y32,(Value.int .i64 0)]) noN (xk 4 (c5 fun q45_0 q45_1 q45_2 q45_3 q45_4=>
 bind (QJ q45_0) fun y46=>
 bind (fa 1 y46) fun y47=>
 bind (ld1 y47) fun y48=>
 bind (fa 0 q45_1) fun y49=>
 bind (ld1 y49) fun y50=>
 bind (fa 2 q45_1) fun y51=>
 bind (ld1 y51) fun y52=>
 bind (Γ KP [y48,y50,y52]) fun y53=>
 bind (bop .int .neq y53 (Value.int .i64 0)) fun y54=>
 cnd y54
 (ret (.ret (Value.tuple #[(Value.pointer none),y53])))
 (bind (bop .int .add q45_4 (Value.int .i64 1)) fun y55=>
 ret (.nrm [q45_0,q45_2,q45_3,y55]))) noX) ZP)
 (ret (.ext 2 [s7]))
noncomputable def ZcH (Γ : Zd) (x0 x1 : Value) : M Value:=
 bind (Γ ZoV [x0,x1]) fun y1=>
 bind (bop .int .neq y1 (Value.int .i64 0)) fun y2=>
 cnd y2
 (ret (Value.tuple #[(Value.pointer none),y1]))
 (bind (Γ Kq []) fun y3=>
 bind (ZB x1) fun y4=>
 jn (Zh (c5 (ZcH.l1 Γ)) [x0,y3,x1,y4,(Value.int .i64 0)]) noN (xk 0 (c2 fun q14_0 q14_1=>
 bind (ZB q14_0) fun y15=>
 jn (Zh (c4 (ZcH.l2 Γ)) [q14_1,q14_0,y15,(Value.int .i64 0)]) noN (xk 2 (c1 fun q58_0=>
 ret (Value.tuple #[q58_0,(Value.int .i64 0)])) noX) ret) noX) ret)
noncomputable def WB.l1 (Γ : Zd) (s0 s1 s21 s22 s23 : Value) : M Out:=
 bind (bop .int .lss s23 s22) fun y4=>
 cnd y4
 (bind (ixa 1 s21 s23) fun y5=>
 bind (ld1 y5) fun y6=>
 bind (Γ Qt [y6]) fun y7=>
 bind (uop .not y7) fun y8=>
 cnd y8
 (ret (.ret (Value.int .i64 10)))
 (bind (bop .int .add s23 (Value.int .i64 1)) fun y9=>
 ret (.nrm [s0,s1,s21,s22,y9])))
 (ret (.ext 0 [s0,s1]))
noncomputable def WB.l2 (Γ : Zd) (s0 s1 s31 s32 s33 : Value) : M Out:=
 bind (bop .int .lss s33 s32) fun y13=>
 cnd y13
 (bind (ixa 1 s31 s33) fun y14=>
 bind (ld1 y14) fun y15=>
 bind (bop .int .gtr s33 (Value.int .i64 0)) fun y16=>
 bind (Zx y16 true 7 (bind (bop .int .sub s33 (Value.int .i64 1)) fun y17=>
 bind (ixa 1 s1 y17) fun y18=>
 bind (ld1 y18) fun y19=>
 bind (bop .str .geq y19 y15) fun y20=>
 ret [s1,s33,y17,y18,y19,y15,y20])) (c7 fun _ _ _ _ _ _ q21_6=>
 bind (pick y16 q21_6 (Value.bool false)) fun y22=>
 cnd y22
 (ret (.ret (Value.int .i64 9)))
 (bind (bop .int .add s33 (Value.int .i64 1)) fun y23=>
 ret (.nrm [s0,s1,s31,s32,y23]))))
 (ret (.ext 2 [s0,s1]))
noncomputable def WB.l4 (Γ : Zd) (s0 s1 s10 s11 s53 s54 s55 s61 s62 s63 : Value) : M Out:=
 bind (bop .int .lss s63 s62) fun y36=>
 cnd y36
 (bind (ixa 1 s61 s63) fun y37=>
 bind (ld1 y37) fun y38=>
 bind (Γ YI [s1,y38]) fun y39=>
 bind (uop .not y39) fun y40=>
 cnd y40
 (ret (.ret (Value.int .i64 8)))
 (bind (bop .int .add s63 (Value.int .i64 1)) fun y41=>
 ret (.nrm [s0,s1,s10,s11,s53,s54,s55,s61,s62,y41])))
 (ret (.ext 6 [s0,s1,s10,s11,s53,s54,s55]))
noncomputable def WB.l5 (Γ : Zd) (s0 s1 s11 s53 s54 s55 s74 s75 s76 : Value) : M Out:=
 bind (bop .int .lss s76 s75) fun y46=>
 cnd y46
 (bind (ixa 5 s74 s76) fun y47=>
 bind (ldA 5 y47) fun y48=>
 bind (alc 1 (.agg #[.string ⟨#[]⟩,.string ⟨#[]⟩,.string ⟨#[]⟩,.bool false,.slice none 0 0])) fun y49=>
 bind (stA 5 y49 y48) fun _=>
 bind (fa 2 s11) fun y50=>
 bind (ld1 y50) fun y51=>
 bind (bop .str .neq y51 (Value.string ⟨#[]⟩)) fun y52=>
 bind (Zx y52 true 5 (bind (fa 2 s11) fun y53=>
 bind (ld1 y53) fun y54=>
 bind (fa 2 y49) fun y55=>
 bind (ld1 y55) fun y56=>
 bind (bop .str .eql y54 y56) fun y57=>
 ret [y53,y54,y55,y56,y57])) (c5 fun _ _ _ _ q58_4=>
 bind (pick y52 q58_4 (Value.bool false)) fun y59=>
 cnd y59
 (ret (.ret (Value.int .i64 9)))
 (bind (bop .int .add s76 (Value.int .i64 1)) fun y60=>
 ret (.nrm [s0,s1,s11,s53,s54,s55,s74,s75,y60]))))
 (ret (.ext 8 [s0,s1,s53,s54,s55]))
noncomputable def WB.l3 (Γ : Zd) (s0 s1 s53 s54 s55 : Value) : M Out:=
 bind (bop .int .lss s55 s54) fun y29=>
 cnd y29
 (bind (ixa 5 s53 s55) fun y30=>
 bind (ldA 5 y30) fun y31=>
 bind (alc 1 (.agg #[.string ⟨#[]⟩,.string ⟨#[]⟩,.string ⟨#[]⟩,.bool false,.slice none 0 0])) fun y32=>
 bind (stA 5 y32 y31) fun _=>
 bind (fa 4 y32) fun y33=>
 bind (ld1 y33) fun y34=>
 bind (ZB y34) fun y35=>
 jn (Zh (c10 (WB.l4 Γ)) [s0,s1,s55,y32,s53,s54,s55,y34,y35,(Value.int .i64 0)]) noN (xk 6 (c7 fun q43_0 q43_1 q43_2 q43_3 q43_4 q43_5 q43_6=>
 bind (slv 5 q43_0 none (some q43_2) none) fun y44=>
 bind (ZB y44) fun y45=>
 jn (Zh (c9 (WB.l5 Γ)) [q43_0,q43_1,q43_3,q43_4,q43_5,q43_6,y44,y45,(Value.int .i64 0)]) noN (xk 8 (c5 fun q62_0 q62_1 q62_2 q62_3 q62_4=>
 bind (bop .int .add q62_4 (Value.int .i64 1)) fun y63=>
 ret (.nrm [q62_0,q62_1,q62_2,q62_3,y63])) noX) ZP) noX) ZP)
 (ret (.ext 4 []))
noncomputable def WB (Γ : Zd) (x0 x1 : Value) : M Value:=
 bind (Γ Zr8 [x0,(Value.int .i64 2)]) fun y1=>
 bind (bop .int .neq y1 (Value.int .i64 0)) fun y2=>
 cnd y2
 (ret y1)
 (bind (ZB x1) fun y3=>
 jn (Zh (c5 (WB.l1 Γ)) [x0,x1,x1,y3,(Value.int .i64 0)]) noN (xk 0 (c2 fun q11_0 q11_1=>
 bind (ZB q11_1) fun y12=>
 jn (Zh (c5 (WB.l2 Γ)) [q11_0,q11_1,q11_1,y12,(Value.int .i64 0)]) noN (xk 2 (c2 fun q25_0 q25_1=>
 bind (ZB q25_1) fun y26=>
 bind (bop .int .gtr y26 (Value.int .i64 6)) fun y27=>
 cnd y27
 (ret (Value.int .i64 7))
 (bind (ZB q25_0) fun y28=>
 jn (Zh (c5 (WB.l3 Γ)) [q25_0,q25_1,q25_0,y28,(Value.int .i64 0)]) noN (xk 4 (c0 (ret (Value.int .i64 0))) noX) ret)) noX) ret) noX) ret)
noncomputable def Zj4.l1 (Γ : Zd) (s6 s18 s19 s20 : Value) : M Out:=
 bind (bop .int .lss s20 s19) fun y9=>
 cnd y9
 (bind (ixa 5 s18 s20) fun y10=>
 bind (ldA 5 y10) fun y11=>
 bind (alc 1 (.agg #[.string ⟨#[]⟩,.string ⟨#[]⟩,.string ⟨#[]⟩,.bool false,.slice none 0 0])) fun y12=>
 bind (stA 5 y12 y11) fun _=>
 bind (fa 2 y12) fun y13=>
 bind (ld1 y13) fun y14=>
 bind (bop .str .eql y14 s6) fun y15=>
 cnd y15
 (bind (fa 0 y12) fun y16=>
 bind (ld1 y16) fun y17=>
 ret (.ret (Value.tuple #[y17,(Value.int .i64 0)])))
 (bind (bop .int .add s20 (Value.int .i64 1)) fun y18=>
 ret (.nrm [s6,s18,s19,y18])))
 (ret (.ext 0 []))
noncomputable def Zj4 (Γ : Zd) (x0 x1 : Value) : M Value:=
 bind (alc 1 x0) fun y1=>
 bind (Γ Wy [x1]) fun y2=>
 bind (Zk y2 0) fun y3=>
 bind (Zk y2 1) fun y4=>
 bind (uop .not y4) fun y5=>
 cnd y5
 (ret (Value.tuple #[(Value.string ⟨#[]⟩),(Value.int .i64 11)]))
 (bind (fa 0 y1) fun y6=>
 bind (ld1 y6) fun y7=>
 bind (ZB y7) fun y8=>
 jn (Zh (c4 (Zj4.l1 Γ)) [y3,y7,y8,(Value.int .i64 0)]) noN (xk 0 (c0 (ret (Value.tuple #[(Value.string ⟨#[]⟩),(Value.int .i64 8)]))) noX) ret)
noncomputable def ZjC.l1 (Γ : Zd) (s1 s6 s12 s13 s14 : Value) : M Out:=
 bind (bop .int .lss s14 s13) fun y4=>
 cnd y4
 (bind (ixa 5 s12 s14) fun y5=>
 bind (ldA 5 y5) fun y6=>
 bind (alc 1 (.agg #[.string ⟨#[]⟩,.string ⟨#[]⟩,.string ⟨#[]⟩,.bool false,.slice none 0 0])) fun y7=>
 bind (stA 5 y7 y6) fun _=>
 bind (fa 0 y7) fun y8=>
 bind (ld1 y8) fun y9=>
 bind (Je y9) fun y10=>
 bind (Je s1) fun y11=>
 bind (bop .int .geq y10 y11) fun y12=>
 bind (Zx y12 true 7 (bind (fa 0 y7) fun y13=>
 bind (ld1 y13) fun y14=>
 bind (Je s1) fun y15=>
 bind (sls y14 none (some y15)) fun y16=>
 bind (bop .str .eql y16 s1) fun y17=>
 ret [y13,y14,s1,y15,y16,s1,y17])) (c7 fun _ _ _ _ _ _ q18_6=>
 bind (pick y12 q18_6 (Value.bool false)) fun y19=>
 jn (cnd y19
 (bind (fa 0 y7) fun y20=>
 bind (ld1 y20) fun y21=>
 bind (bsl 1 1 (.string ⟨#[]⟩) [(0,1,y21)]) fun y22=>
 bind (app 1 16 s6 y22) fun y23=>
 ret (.nrm [s1,y23,s12,s13,s14]))
 (ret (.nrm [s1,s6,s12,s13,s14]))) (c5 fun q24_0 q24_1 q24_2 q24_3 q24_4=>
 bind (bop .int .add q24_4 (Value.int .i64 1)) fun y25=>
 ret (.nrm [q24_0,q24_1,q24_2,q24_3,y25])) noX ZP))
 (ret (.ext 0 [s6]))
noncomputable def ZjC (Γ : Zd) (x0 x1 : Value) : M Value:=
 bind (Γ ZnP [x1]) fun y1=>
 bind (uop .not y1) fun y2=>
 cnd y2
 (ret (Value.tuple #[(Value.slice none 0 0),(Value.int .i64 10)]))
 (bind (ZB x0) fun y3=>
 jn (Zh (c5 (ZjC.l1 Γ)) [x1,(Value.slice none 0 0),x0,y3,(Value.int .i64 0)]) noN (xk 0 (c1 fun q28_0=>
 ret (Value.tuple #[q28_0,(Value.int .i64 0)])) noX) ret)
noncomputable def Zgb.l1 (Γ : Zd) (s1 s6 s18 s19 s20 : Value) : M Out:=
 bind (bop .int .lss s20 s19) fun y11=>
 cnd y11
 (bind (ixa 5 s18 s20) fun y12=>
 bind (ldA 5 y12) fun y13=>
 bind (alc 1 (.agg #[.string ⟨#[]⟩,.string ⟨#[]⟩,.string ⟨#[]⟩,.bool false,.slice none 0 0])) fun y14=>
 bind (stA 5 y14 y13) fun _=>
 bind (fa 4 y14) fun y15=>
 bind (ld1 y15) fun y16=>
 bind (Γ YI [y16,s1]) fun y17=>
 jn (cnd y17
 (bind (fa 0 y14) fun y18=>
 bind (ld1 y18) fun y19=>
 bind (bsl 1 1 (.string ⟨#[]⟩) [(0,1,y19)]) fun y20=>
 bind (app 1 16 s6 y20) fun y21=>
 ret (.nrm [s1,y21,s18,s19,s20]))
 (ret (.nrm [s1,s6,s18,s19,s20]))) (c5 fun q22_0 q22_1 q22_2 q22_3 q22_4=>
 bind (bop .int .add q22_4 (Value.int .i64 1)) fun y23=>
 ret (.nrm [q22_0,q22_1,q22_2,q22_3,y23])) noX ZP)
 (ret (.ext 0 [s6]))
noncomputable def Zgb (Γ : Zd) (x0 x1 : Value) : M Value:=
 bind (alc 1 x0) fun y1=>
 bind (Γ Qt [x1]) fun y2=>
 bind (uop .not y2) fun y3=>
 cnd y3
 (ret (Value.tuple #[(Value.slice none 0 0),(Value.int .i64 10)]))
 (bind (fa 1 y1) fun y4=>
 bind (ld1 y4) fun y5=>
 bind (Γ YI [y5,x1]) fun y6=>
 bind (uop .not y6) fun y7=>
 cnd y7
 (ret (Value.tuple #[(Value.slice none 0 0),(Value.int .i64 8)]))
 (bind (fa 0 y1) fun y8=>
 bind (ld1 y8) fun y9=>
 bind (ZB y9) fun y10=>
 jn (Zh (c5 (Zgb.l1 Γ)) [x1,(Value.slice none 0 0),y9,y10,(Value.int .i64 0)]) noN (xk 0 (c1 fun q26_0=>
 ret (Value.tuple #[q26_0,(Value.int .i64 0)])) noX) ret))
noncomputable def ZeZ.l1 (Γ : Zd) (s0 s1 s12 s13 : Value) : M Out:=
 bind (bop .int .lss s13 s12) fun y5=>
 cnd y5
 (bind (ixa 1 s0 s13) fun y6=>
 bind (ld1 y6) fun y7=>
 bind (ixa 1 s1 s13) fun y8=>
 bind (ld1 y8) fun y9=>
 bind (bop .str .neq y7 y9) fun y10=>
 cnd y10
 (ret (.ret (Value.bool false)))
 (bind (bop .int .add s13 (Value.int .i64 1)) fun y11=>
 ret (.nrm [s0,s1,s12,y11])))
 (ret (.ext 0 []))
noncomputable def ZeZ (Γ : Zd) (x0 x1 : Value) : M Value:=
 bind (ZB x0) fun y1=>
 bind (ZB x1) fun y2=>
 bind (bop .int .neq y1 y2) fun y3=>
 cnd y3
 (ret (Value.bool false))
 (bind (ZB x0) fun y4=>
 jn (Zh (c4 (ZeZ.l1 Γ)) [x0,x1,y4,(Value.int .i64 0)]) noN (xk 0 (c0 (ret (Value.bool true))) noX) ret)
noncomputable def YM (Γ : Zd) (x0 x1 x2 : Value) : M Value:=
 bind (Γ Qs [x0,x1]) fun y1=>
 bind (Zk y1 0) fun y2=>
 bind (Zk y1 1) fun y3=>
 bind (alc 1 (.agg #[.string ⟨#[]⟩,.bool false])) fun y4=>
 bind (stA 2 y4 y2) fun _=>
 bind (Γ Zaj [x2]) fun y5=>
 bind (Zk y5 0) fun y6=>
 bind (Zk y5 1) fun y7=>
 bind (bop .int .eql y3 (Value.int .i64 10)) fun y8=>
 cnd y8
 (ret y3)
 (bind (bop .str .neq x2 (Value.string ⟨#[]⟩)) fun y9=>
 bind (Zx y9 true 2 (bind (bop .int .neq y7 (Value.int .i64 0)) fun y10=>
 ret [y7,y10])) (c2 fun _ q11_1=>
 bind (pick y9 q11_1 (Value.bool false)) fun y12=>
 cnd y12
 (ret y7)
 (bind (bop .int .neq y3 (Value.int .i64 0)) fun y13=>
 cnd y13
 (ret y3)
 (bind (QJ x0) fun y14=>
 bind (fa 1 y14) fun y15=>
 bind (ld1 y15) fun y16=>
 bind (Γ KP [y16,x1,x2]) fun y17=>
 ret y17))))
theorem ZhX (Γ : Zd) (x0 x1 x2 : Value) : ZG Tryz.prog Γ Tryz.f28 Zd1 [x0,x1,x2]=YM Γ x0 x1 x2:=by kernel_rfl
theorem ZhA {prim : FuncId→Option (List Value→M Value)} (hp : prim JE=none) (n : Nat) (x0 x1 x2 : Value) : run Tryz.prog prim lvs (n+1) JE [x0,x1,x2]=YM (run Tryz.prog prim lvs n) x0 x1 x2:=
 (Zs hp (by kernel_rfl) Tryz.func28 (by kernel_rfl)).trans (ZhX _ x0 x1 x2)
noncomputable def WP (Γ : Zd) (x0 x1 x2 : Value) : M Value:=
 bind (Γ Qs [x0,x1]) fun y1=>
 bind (Zk y1 0) fun y2=>
 bind (Zk y1 1) fun y3=>
 bind (alc 1 (.agg #[.string ⟨#[]⟩,.bool false])) fun y4=>
 bind (stA 2 y4 y2) fun _=>
 bind (Γ Qs [x0,x2]) fun y5=>
 bind (Zk y5 0) fun y6=>
 bind (Zk y5 1) fun y7=>
 bind (alc 1 (.agg #[.string ⟨#[]⟩,.bool false])) fun y8=>
 bind (stA 2 y8 y6) fun _=>
 bind (bop .int .eql y3 (Value.int .i64 10)) fun y9=>
 bind (Zx y9 false 2 (bind (bop .int .eql y7 (Value.int .i64 10)) fun y10=>
 ret [y7,y10])) (c2 fun _ q11_1=>
 bind (pick y9 (Value.bool true) q11_1) fun y12=>
 cnd y12
 (ret (Value.int .i64 10))
 (bind (bop .int .neq y3 (Value.int .i64 0)) fun y13=>
 cnd y13
 (ret y3)
 (bind (bop .int .eql y7 (Value.int .i64 0)) fun y14=>
 cnd y14
 (ret (Value.int .i64 9))
 (bind (QJ x0) fun y15=>
 bind (fa 0 y15) fun y16=>
 bind (ld1 y16) fun y17=>
 bind (mde .str y17 x1) fun _=>
 bind (QJ x0) fun y18=>
 bind (fa 0 y18) fun y19=>
 bind (ld1 y19) fun y20=>
 bind (ldA 2 y4) fun y21=>
 bind (mup .str y20 x2 y21) fun _=>
 bind (QJ x0) fun y22=>
 bind (fa 1 y22) fun y23=>
 bind (ld1 y23) fun y24=>
 bind (Γ Kw [y24,x1,x2]) fun y25=>
 bind (QJ x0) fun y26=>
 bind (fa 2 y26) fun y27=>
 bind (ld1 y27) fun y28=>
 bind (Γ YR [y28,x1,x2]) fun y29=>
 ret (Value.int .i64 0)))))
theorem Zjl (Γ : Zd) (x0 x1 x2 : Value) : ZG Tryz.prog Γ Tryz.f29 Zep [x0,x1,x2]=WP Γ x0 x1 x2:=by kernel_rfl
theorem Zih {prim : FuncId→Option (List Value→M Value)} (hp : prim YC=none) (n : Nat) (x0 x1 x2 : Value) : run Tryz.prog prim lvs (n+1) YC [x0,x1,x2]=WP (run Tryz.prog prim lvs n) x0 x1 x2:=
 (Zs hp (by kernel_rfl) Tryz.func29 (by kernel_rfl)).trans (Zjl _ x0 x1 x2)
noncomputable def ZiQ (Γ : Zd) : M Value:=
 bind (mkm) fun y1=>
 bind (mkm) fun y2=>
 bind (bld (.agg #[.map none,.map none]) [(0,1,y1),(1,1,y2)]) fun y3=>
 bind (alc 1 y3) fun y4=>
 ret y4
theorem Zru (Γ : Zd) : ZG Tryz.prog Γ Tryz.f30 Zlf []=ZiQ Γ :=by kernel_rfl
theorem Zp8 {prim : FuncId→Option (List Value→M Value)} (hp : prim ZfF=none) (n : Nat) : run Tryz.prog prim lvs (n+1) ZfF []=ZiQ (run Tryz.prog prim lvs n) :=
 (Zs hp (by kernel_rfl) Tryz.func30 (by kernel_rfl)).trans (Zru _ )
noncomputable def ZgH (Γ : Zd) : M Value:=
 bind (mkm) fun y1=>
 bind (bld (.agg #[.map none]) [(0,1,y1)]) fun y2=>
 bind (alc 1 y2) fun y3=>
 ret y3
theorem ZpZ (Γ : Zd) : ZG Tryz.prog Γ Tryz.f31 ZjR []=ZgH Γ :=by kernel_rfl
theorem Zoz {prim : FuncId→Option (List Value→M Value)} (hp : prim ZeH=none) (n : Nat) : run Tryz.prog prim lvs (n+1) ZeH []=ZgH (run Tryz.prog prim lvs n) :=
 (Zs hp (by kernel_rfl) Tryz.func31 (by kernel_rfl)).trans (ZpZ _ )
noncomputable def Zei (Γ : Zd) (x0 x1 x2 : Value) : M Value:=
 bind (alc 1 x0) fun y1=>
 bind (alc 1 (.agg #[.slice none 0 0,.slice none 0 0])) fun y2=>
 bind (fa 0 y1) fun y3=>
 bind (ld1 y3) fun y4=>
 bind (Γ Zaa [y4,x1,x2]) fun y5=>
 bind (Zk y5 0) fun y6=>
 bind (Zk y5 1) fun y7=>
 bind (fa 0 y1) fun y8=>
 bind (st1 y8 y6) fun _=>
 bind (ldA 2 y1) fun y9=>
 bind (stA 2 y2 y9) fun _=>
 bind (ldA 2 y2) fun y10=>
 ret (Value.tuple #[y10,y7])
theorem ZmO (Γ : Zd) (x0 x1 x2 : Value) : ZG Tryz.prog Γ Tryz.f32 Zgi [x0,x1,x2]=Zei Γ x0 x1 x2:=by kernel_rfl
theorem Zlp {prim : FuncId→Option (List Value→M Value)} (hp : prim Zbb=none) (n : Nat) (x0 x1 x2 : Value) : run Tryz.prog prim lvs (n+1) Zbb [x0,x1,x2]=Zei (run Tryz.prog prim lvs n) x0 x1 x2:=
 (Zs hp (by kernel_rfl) Tryz.func32 (by kernel_rfl)).trans (ZmO _ x0 x1 x2)
noncomputable def Zeg (Γ : Zd) (x0 x1 : Value) : M Value:=
 bind (alc 1 x0) fun y1=>
 bind (alc 1 (.agg #[.slice none 0 0,.slice none 0 0])) fun y2=>
 bind (fa 0 y1) fun y3=>
 bind (ld1 y3) fun y4=>
 bind (Γ Zab [y4,x1]) fun y5=>
 bind (Zk y5 0) fun y6=>
 bind (Zk y5 1) fun y7=>
 bind (fa 0 y1) fun y8=>
 bind (st1 y8 y6) fun _=>
 bind (ldA 2 y1) fun y9=>
 bind (stA 2 y2 y9) fun _=>
 bind (ldA 2 y2) fun y10=>
 ret (Value.tuple #[y10,y7])
theorem Zmg (Γ : Zd) (x0 x1 : Value) : ZG Tryz.prog Γ Tryz.f33 Zf4 [x0,x1]=Zeg Γ x0 x1:=by kernel_rfl
theorem Zln {prim : FuncId→Option (List Value→M Value)} (hp : prim Zba=none) (n : Nat) (x0 x1 : Value) : run Tryz.prog prim lvs (n+1) Zba [x0,x1]=Zeg (run Tryz.prog prim lvs n) x0 x1:=
 (Zs hp (by kernel_rfl) Tryz.func33 (by kernel_rfl)).trans (Zmg _ x0 x1)
noncomputable def ZaV (Γ : Zd) (x0 x1 x2 : Value) : M Value:=
 bind (alc 1 x0) fun y1=>
 bind (alc 1 (.agg #[.slice none 0 0,.slice none 0 0])) fun y2=>
 bind (ldA 2 y1) fun y3=>
 bind (Γ JT [y3,x1]) fun y4=>
 bind (Zk y4 0) fun y5=>
 bind (Zk y4 1) fun y6=>
 bind (alc 1 (.agg #[.string ⟨#[]⟩,.string ⟨#[]⟩,.string ⟨#[]⟩,.bool false,.slice none 0 0])) fun y7=>
 bind (stA 5 y7 y5) fun _=>
 bind (bop .int .eql y6 (Value.int .i64 10)) fun y8=>
 cnd y8
 (bind (ldA 2 y1) fun y9=>
 bind (stA 2 y2 y9) fun _=>
 bind (ldA 2 y2) fun y10=>
 ret (Value.tuple #[y10,y6]))
 (bind (Γ Wz [x2]) fun y11=>
 bind (uop .not y11) fun y12=>
 cnd y12
 (bind (ldA 2 y1) fun y13=>
 bind (stA 2 y2 y13) fun _=>
 bind (ldA 2 y2) fun y14=>
 ret (Value.tuple #[y14,(Value.int .i64 4)]))
 (bind (bop .int .neq y6 (Value.int .i64 0)) fun y15=>
 cnd y15
 (bind (ldA 2 y1) fun y16=>
 bind (stA 2 y2 y16) fun _=>
 bind (ldA 2 y2) fun y17=>
 ret (Value.tuple #[y17,y6]))
 (bind (fa 3 y7) fun y18=>
 bind (ld1 y18) fun y19=>
 cnd y19
 (bind (ldA 2 y1) fun y20=>
 bind (stA 2 y2 y20) fun _=>
 bind (ldA 2 y2) fun y21=>
 ret (Value.tuple #[y21,(Value.int .i64 12)]))
 (bind (fa 1 y7) fun y22=>
 bind (st1 y22 x2) fun _=>
 bind (ldA 2 y1) fun y23=>
 bind (ldA 5 y7) fun y24=>
 bind (Γ KX [y23,y24]) fun y25=>
 bind (stA 2 y2 y25) fun _=>
 bind (ldA 2 y2) fun y26=>
 ret (Value.tuple #[y26,(Value.int .i64 0)])))))
theorem Zk4 (Γ : Zd) (x0 x1 x2 : Value) : ZG Tryz.prog Γ Tryz.f34 Zfp [x0,x1,x2]=ZaV Γ x0 x1 x2:=by kernel_rfl
theorem Zj5 {prim : FuncId→Option (List Value→M Value)} (hp : prim WK=none) (n : Nat) (x0 x1 x2 : Value) : run Tryz.prog prim lvs (n+1) WK [x0,x1,x2]=ZaV (run Tryz.prog prim lvs n) x0 x1 x2:=
 (Zs hp (by kernel_rfl) Tryz.func34 (by kernel_rfl)).trans (Zk4 _ x0 x1 x2)
noncomputable def Wk (Γ : Zd) (x0 x1 x2 : Value) : M Value:=
 bind (Γ Qs [x0,x1]) fun y1=>
 bind (Zk y1 0) fun y2=>
 bind (Zk y1 1) fun y3=>
 bind (alc 1 (.agg #[.string ⟨#[]⟩,.bool false])) fun y4=>
 bind (stA 2 y4 y2) fun _=>
 bind (bop .int .eql y3 (Value.int .i64 10)) fun y5=>
 cnd y5
 (ret y3)
 (bind (Γ Zb2 [x2]) fun y6=>
 bind (bop .int .neq y6 (Value.int .i64 0)) fun y7=>
 cnd y7
 (ret (Value.int .i64 4))
 (bind (bop .int .neq y3 (Value.int .i64 0)) fun y8=>
 cnd y8
 (ret y3)
 (bind (fa 1 y4) fun y9=>
 bind (ld1 y9) fun y10=>
 cnd y10
 (ret (Value.int .i64 12))
 (bind (fa 0 y4) fun y11=>
 bind (st1 y11 x2) fun _=>
 bind (QJ x0) fun y12=>
 bind (fa 0 y12) fun y13=>
 bind (ld1 y13) fun y14=>
 bind (ldA 2 y4) fun y15=>
 bind (mup .str y14 x1 y15) fun _=>
 ret (Value.int .i64 0)))))
theorem Zh8 (Γ : Zd) (x0 x1 x2 : Value) : ZG Tryz.prog Γ Tryz.f35 ZdY [x0,x1,x2]=Wk Γ x0 x1 x2:=by kernel_rfl
theorem ZhD {prim : FuncId→Option (List Value→M Value)} (hp : prim Kz=none) (n : Nat) (x0 x1 x2 : Value) : run Tryz.prog prim lvs (n+1) Kz [x0,x1,x2]=Wk (run Tryz.prog prim lvs n) x0 x1 x2:=
 (Zs hp (by kernel_rfl) Tryz.func35 (by kernel_rfl)).trans (Zh8 _ x0 x1 x2)
noncomputable def Qk.l1 (Γ : Zd) (s1 s3 s6 s8 s10 s41 s42 s43 : Value) : M Out:=
 bind (bop .int .lss s43 s42) fun y26=>
 cnd y26
 (bind (ixa 5 s41 s43) fun y27=>
 bind (ldA 5 y27) fun y28=>
 bind (alc 1 (.agg #[.string ⟨#[]⟩,.string ⟨#[]⟩,.string ⟨#[]⟩,.bool false,.slice none 0 0])) fun y29=>
 bind (stA 5 y29 y28) fun _=>
 bind (bop .str .neq s10 (Value.string ⟨#[]⟩)) fun y30=>
 bind (Zx y30 true 4 (bind (fa 2 y29) fun y31=>
 bind (ld1 y31) fun y32=>
 bind (bop .str .eql y32 s10) fun y33=>
 ret [y31,y32,s10,y33])) (c4 fun _ _ _ q34_3=>
 bind (pick y30 q34_3 (Value.bool false)) fun y35=>
 bind (Zx y35 true 4 (bind (fa 0 y29) fun y36=>
 bind (ld1 y36) fun y37=>
 bind (bop .str .neq y37 s1) fun y38=>
 ret [y36,y37,s1,y38])) (c4 fun _ _ _ q39_3=>
 bind (pick y35 q39_3 (Value.bool false)) fun y40=>
 cnd y40
 (bind (ldA 2 s3) fun y41=>
 bind (stA 2 s6 y41) fun _=>
 bind (ldA 2 s6) fun y42=>
 ret (.ret (Value.tuple #[y42,(Value.int .i64 9)])))
 (bind (bop .int .add s43 (Value.int .i64 1)) fun y43=>
 ret (.nrm [s1,s3,s6,s8,s10,s41,s42,y43])))))
 (ret (.ext 0 [s3,s6,s8,s10]))
noncomputable def Qk (Γ : Zd) (x0 x1 x2 : Value) : M Value:=
 bind (alc 1 x0) fun y1=>
 bind (alc 1 (.agg #[.slice none 0 0,.slice none 0 0])) fun y2=>
 bind (ldA 2 y1) fun y3=>
 bind (Γ JT [y3,x1]) fun y4=>
 bind (Zk y4 0) fun y5=>
 bind (Zk y4 1) fun y6=>
 bind (alc 1 (.agg #[.string ⟨#[]⟩,.string ⟨#[]⟩,.string ⟨#[]⟩,.bool false,.slice none 0 0])) fun y7=>
 bind (stA 5 y7 y5) fun _=>
 bind (Γ Wy [x2]) fun y8=>
 bind (Zk y8 0) fun y9=>
 bind (Zk y8 1) fun y10=>
 bind (bop .int .eql y6 (Value.int .i64 10)) fun y11=>
 cnd y11
 (bind (ldA 2 y1) fun y12=>
 bind (stA 2 y2 y12) fun _=>
 bind (ldA 2 y2) fun y13=>
 ret (Value.tuple #[y13,y6]))
 (bind (bop .str .neq x2 (Value.string ⟨#[]⟩)) fun y14=>
 bind (Zx y14 true 2 (bind (uop .not y10) fun y15=>
 ret [y10,y15])) (c2 fun _ q16_1=>
 bind (pick y14 q16_1 (Value.bool false)) fun y17=>
 cnd y17
 (bind (ldA 2 y1) fun y18=>
 bind (stA 2 y2 y18) fun _=>
 bind (ldA 2 y2) fun y19=>
 ret (Value.tuple #[y19,(Value.int .i64 11)]))
 (bind (bop .int .neq y6 (Value.int .i64 0)) fun y20=>
 cnd y20
 (bind (ldA 2 y1) fun y21=>
 bind (stA 2 y2 y21) fun _=>
 bind (ldA 2 y2) fun y22=>
 ret (Value.tuple #[y22,y6]))
 (bind (fa 0 y1) fun y23=>
 bind (ld1 y23) fun y24=>
 bind (ZB y24) fun y25=>
 jn (Zh (c8 (Qk.l1 Γ)) [x1,y1,y2,y7,y9,y24,y25,(Value.int .i64 0)]) noN (xk 0 (c4 fun q45_0 q45_1 q45_2 q45_3=>
 bind (fa 2 q45_2) fun y46=>
 bind (st1 y46 q45_3) fun _=>
 bind (ldA 2 q45_0) fun y47=>
 bind (ldA 5 q45_2) fun y48=>
 bind (Γ KX [y47,y48]) fun y49=>
 bind (stA 2 q45_1 y49) fun _=>
 bind (ldA 2 q45_1) fun y50=>
 ret (Value.tuple #[y50,(Value.int .i64 0)])) noX) ret))))
theorem ZkY (Γ : Zd) (x0 x1 x2 : Value) : ZG Tryz.prog Γ Tryz.f36 Zfw [x0,x1,x2]=Qk Γ x0 x1 x2:=by kernel_rfl
theorem Zkc {prim : FuncId→Option (List Value→M Value)} (hp : prim WE=none) (n : Nat) (x0 x1 x2 : Value) : run Tryz.prog prim lvs (n+1) WE [x0,x1,x2]=Qk (run Tryz.prog prim lvs n) x0 x1 x2:=
 (Zs hp (by kernel_rfl) Tryz.func36 (by kernel_rfl)).trans (ZkY _ x0 x1 x2)
noncomputable def WJ (Γ : Zd) (x0 x1 x2 : Value) : M Value:=
 bind (alc 1 x0) fun y1=>
 bind (alc 1 (.agg #[.slice none 0 0,.slice none 0 0])) fun y2=>
 bind (ldA 2 y1) fun y3=>
 bind (Γ JT [y3,x1]) fun y4=>
 bind (Zk y4 0) fun y5=>
 bind (Zk y4 1) fun y6=>
 bind (alc 1 (.agg #[.string ⟨#[]⟩,.string ⟨#[]⟩,.string ⟨#[]⟩,.bool false,.slice none 0 0])) fun y7=>
 bind (stA 5 y7 y5) fun _=>
 bind (bop .int .neq y6 (Value.int .i64 0)) fun y8=>
 cnd y8
 (bind (ldA 2 y1) fun y9=>
 bind (stA 2 y2 y9) fun _=>
 bind (ldA 2 y2) fun y10=>
 ret (Value.tuple #[y10,y6]))
 (bind (fa 3 y7) fun y11=>
 bind (ld1 y11) fun y12=>
 bind (bop .bool .eql y12 x2) fun y13=>
 cnd y13
 (bind (ldA 2 y1) fun y14=>
 bind (stA 2 y2 y14) fun _=>
 bind (ldA 2 y2) fun y15=>
 ret (Value.tuple #[y15,(Value.int .i64 12)]))
 (bind (fa 3 y7) fun y16=>
 bind (st1 y16 x2) fun _=>
 bind (ldA 2 y1) fun y17=>
 bind (ldA 5 y7) fun y18=>
 bind (Γ KX [y17,y18]) fun y19=>
 bind (stA 2 y2 y19) fun _=>
 bind (ldA 2 y2) fun y20=>
 ret (Value.tuple #[y20,(Value.int .i64 0)])))
theorem Zk9 (Γ : Zd) (x0 x1 x2 : Value) : ZG Tryz.prog Γ Tryz.f37 Zfo [x0,x1,x2]=WJ Γ x0 x1 x2:=by kernel_rfl
theorem ZkN {prim : FuncId→Option (List Value→M Value)} (hp : prim WG=none) (n : Nat) (x0 x1 x2 : Value) : run Tryz.prog prim lvs (n+1) WG [x0,x1,x2]=WJ (run Tryz.prog prim lvs n) x0 x1 x2:=
 (Zs hp (by kernel_rfl) Tryz.func37 (by kernel_rfl)).trans (Zk9 _ x0 x1 x2)
noncomputable def Ky (Γ : Zd) (x0 x1 x2 : Value) : M Value:=
 bind (Γ Qs [x0,x1]) fun y1=>
 bind (Zk y1 0) fun y2=>
 bind (Zk y1 1) fun y3=>
 bind (alc 1 (.agg #[.string ⟨#[]⟩,.bool false])) fun y4=>
 bind (stA 2 y4 y2) fun _=>
 bind (bop .int .neq y3 (Value.int .i64 0)) fun y5=>
 cnd y5
 (ret y3)
 (bind (fa 1 y4) fun y6=>
 bind (ld1 y6) fun y7=>
 bind (bop .bool .eql y7 x2) fun y8=>
 cnd y8
 (ret (Value.int .i64 12))
 (bind (fa 1 y4) fun y9=>
 bind (st1 y9 x2) fun _=>
 bind (QJ x0) fun y10=>
 bind (fa 0 y10) fun y11=>
 bind (ld1 y11) fun y12=>
 bind (ldA 2 y4) fun y13=>
 bind (mup .str y12 x1 y13) fun _=>
 ret (Value.int .i64 0)))
theorem Zif (Γ : Zd) (x0 x1 x2 : Value) : ZG Tryz.prog Γ Tryz.f38 Zd9 [x0,x1,x2]=Ky Γ x0 x1 x2:=by kernel_rfl
theorem ZhE {prim : FuncId→Option (List Value→M Value)} (hp : prim KA=none) (n : Nat) (x0 x1 x2 : Value) : run Tryz.prog prim lvs (n+1) KA [x0,x1,x2]=Ky (run Tryz.prog prim lvs n) x0 x1 x2:=
 (Zs hp (by kernel_rfl) Tryz.func38 (by kernel_rfl)).trans (Zif _ x0 x1 x2)
noncomputable def Zbe (Γ : Zd) (x0 x1 x2 : Value) : M Value:=
 bind (alc 1 x0) fun y1=>
 bind (alc 1 (.agg #[.slice none 0 0,.slice none 0 0])) fun y2=>
 bind (ldA 2 y1) fun y3=>
 bind (Γ JT [y3,x1]) fun y4=>
 bind (Zk y4 0) fun y5=>
 bind (Zk y4 1) fun y6=>
 bind (alc 1 (.agg #[.string ⟨#[]⟩,.string ⟨#[]⟩,.string ⟨#[]⟩,.bool false,.slice none 0 0])) fun y7=>
 bind (stA 5 y7 y5) fun _=>
 bind (ldA 2 y1) fun y8=>
 bind (Γ JT [y8,x2]) fun y9=>
 bind (Zk y9 0) fun y10=>
 bind (Zk y9 1) fun y11=>
 bind (alc 1 (.agg #[.string ⟨#[]⟩,.string ⟨#[]⟩,.string ⟨#[]⟩,.bool false,.slice none 0 0])) fun y12=>
 bind (stA 5 y12 y10) fun _=>
 bind (bop .int .eql y6 (Value.int .i64 10)) fun y13=>
 bind (Zx y13 false 2 (bind (bop .int .eql y11 (Value.int .i64 10)) fun y14=>
 ret [y11,y14])) (c2 fun _ q15_1=>
 bind (pick y13 (Value.bool true) q15_1) fun y16=>
 cnd y16
 (bind (ldA 2 y1) fun y17=>
 bind (stA 2 y2 y17) fun _=>
 bind (ldA 2 y2) fun y18=>
 ret (Value.tuple #[y18,(Value.int .i64 10)]))
 (bind (bop .int .neq y6 (Value.int .i64 0)) fun y19=>
 cnd y19
 (bind (ldA 2 y1) fun y20=>
 bind (stA 2 y2 y20) fun _=>
 bind (ldA 2 y2) fun y21=>
 ret (Value.tuple #[y21,y6]))
 (bind (bop .int .eql y11 (Value.int .i64 0)) fun y22=>
 cnd y22
 (bind (ldA 2 y1) fun y23=>
 bind (stA 2 y2 y23) fun _=>
 bind (ldA 2 y2) fun y24=>
 ret (Value.tuple #[y24,(Value.int .i64 9)]))
 (bind (fa 0 y7) fun y25=>
 bind (st1 y25 x2) fun _=>
 bind (fa 0 y1) fun y26=>
 bind (ld1 y26) fun y27=>
 bind (ldA 5 y7) fun y28=>
 bind (Γ Zat [y27,x1]) fun y29=>
 bind (ldA 5 y7) fun u_30=>same u_30 y28 <|
 bind (Γ Wr [y29,y28]) fun y31=>
 bind (fa 0 y1) fun y32=>
 bind (st1 y32 y31) fun _=>
 bind (ldA 2 y1) fun y33=>
 bind (stA 2 y2 y33) fun _=>
 bind (ldA 2 y2) fun y34=>
 ret (Value.tuple #[y34,(Value.int .i64 0)])))))
theorem ZmN (Γ : Zd) (x0 x1 x2 : Value) : ZG Tryz.prog Γ Tryz.f39 Zf8 [x0,x1,x2]=Zbe Γ x0 x1 x2:=by kernel_rfl
theorem Zlq {prim : FuncId→Option (List Value→M Value)} (hp : prim W9=none) (n : Nat) (x0 x1 x2 : Value) : run Tryz.prog prim lvs (n+1) W9 [x0,x1,x2]=Zbe (run Tryz.prog prim lvs n) x0 x1 x2:=
 (Zs hp (by kernel_rfl) Tryz.func39 (by kernel_rfl)).trans (ZmN _ x0 x1 x2)
noncomputable def Zcw (Γ : Zd) (x0 x1 : Value) : M Value:=
 bind (alc 1 x0) fun y1=>
 bind (alc 1 (.agg #[.slice none 0 0,.slice none 0 0])) fun y2=>
 bind (fa 1 y1) fun y3=>
 bind (ld1 y3) fun y4=>
 bind (bld (.agg #[.slice none 0 0,.slice none 0 0]) [(0,1,y4)]) fun y5=>
 bind (Γ Zci [y5,x1]) fun y6=>
 bind (Zk y6 0) fun y7=>
 bind (Zk y6 1) fun y8=>
 bind (alc 1 (.agg #[.slice none 0 0,.slice none 0 0])) fun y9=>
 bind (stA 2 y9 y7) fun _=>
 bind (fa 0 y9) fun y10=>
 bind (ld1 y10) fun y11=>
 bind (fa 1 y1) fun y12=>
 bind (st1 y12 y11) fun _=>
 bind (ldA 2 y1) fun y13=>
 bind (stA 2 y2 y13) fun _=>
 bind (ldA 2 y2) fun y14=>
 ret (Value.tuple #[y14,y8])
theorem Zji (Γ : Zd) (x0 x1 : Value) : ZG Tryz.prog Γ Tryz.f40 Zes [x0,x1]=Zcw Γ x0 x1:=by kernel_rfl
theorem ZiM {prim : FuncId→Option (List Value→M Value)} (hp : prim WQ=none) (n : Nat) (x0 x1 : Value) : run Tryz.prog prim lvs (n+1) WQ [x0,x1]=Zcw (run Tryz.prog prim lvs n) x0 x1:=
 (Zs hp (by kernel_rfl) Tryz.func40 (by kernel_rfl)).trans (Zji _ x0 x1)
noncomputable def Zbn (Γ : Zd) (x0 x1 : Value) : M Value:=
 bind (QJ x0) fun y1=>
 bind (fa 2 y1) fun y2=>
 bind (ld1 y2) fun y3=>
 bind (Γ Yj [y3,x1]) fun y4=>
 ret y4
theorem ZgG (Γ : Zd) (x0 x1 : Value) : ZG Tryz.prog Γ Tryz.f41 Zdd [x0,x1]=Zbn Γ x0 x1:=by kernel_rfl
theorem Zgg {prim : FuncId→Option (List Value→M Value)} (hp : prim KH=none) (n : Nat) (x0 x1 : Value) : run Tryz.prog prim lvs (n+1) KH [x0,x1]=Zbn (run Tryz.prog prim lvs n) x0 x1:=
 (Zs hp (by kernel_rfl) Tryz.func41 (by kernel_rfl)).trans (ZgG _ x0 x1)
noncomputable def Jq.l1 (Γ : Zd) (s1 s2 s4 s8 s27 s28 s29 : Value) : M Out:=
 bind (bop .int .lss s29 s28) fun y19=>
 cnd y19
 (bind (ixa 5 s27 s29) fun y20=>
 bind (ldA 5 y20) fun y21=>
 bind (alc 1 (.agg #[.string ⟨#[]⟩,.string ⟨#[]⟩,.string ⟨#[]⟩,.bool false,.slice none 0 0])) fun y22=>
 bind (stA 5 y22 y21) fun _=>
 bind (fa 4 y22) fun y23=>
 bind (ld1 y23) fun y24=>
 bind (Γ WF [y24,s1]) fun y25=>
 bind (fa 4 y22) fun y26=>
 bind (st1 y26 y25) fun _=>
 bind (ldA 5 y22) fun y27=>
 bind (bsl 5 1 (.agg #[.string ⟨#[]⟩,.string ⟨#[]⟩,.string ⟨#[]⟩,.bool false,.slice none 0 0]) [(0,5,y27)]) fun y28=>
 bind (app 5 80 s8 y28) fun y29=>
 bind (bop .int .add s29 (Value.int .i64 1)) fun y30=>
 ret (.nrm [s1,s2,s4,y29,s27,s28,y30]))
 (ret (.ext 0 [s2,s4,s8]))
noncomputable def Jq (Γ : Zd) (x0 x1 : Value) : M Value:=
 bind (alc 1 x0) fun y1=>
 bind (alc 1 (.agg #[.slice none 0 0,.slice none 0 0])) fun y2=>
 bind (fa 1 y1) fun y3=>
 bind (ld1 y3) fun y4=>
 bind (bld (.agg #[.slice none 0 0,.slice none 0 0]) [(0,1,y4)]) fun y5=>
 bind (Γ Zcg [y5,x1]) fun y6=>
 bind (Zk y6 0) fun y7=>
 bind (Zk y6 1) fun y8=>
 bind (alc 1 (.agg #[.slice none 0 0,.slice none 0 0])) fun y9=>
 bind (stA 2 y9 y7) fun _=>
 bind (bop .int .neq y8 (Value.int .i64 0)) fun y10=>
 cnd y10
 (bind (ldA 2 y1) fun y11=>
 bind (stA 2 y2 y11) fun _=>
 bind (ldA 2 y2) fun y12=>
 ret (Value.tuple #[y12,y8]))
 (bind (fa 0 y9) fun y13=>
 bind (ld1 y13) fun y14=>
 bind (fa 1 y1) fun y15=>
 bind (st1 y15 y14) fun _=>
 bind (fa 0 y1) fun y16=>
 bind (ld1 y16) fun y17=>
 bind (ZB y17) fun y18=>
 jn (Zh (c7 (Jq.l1 Γ)) [x1,y1,y2,(Value.slice none 0 0),y17,y18,(Value.int .i64 0)]) noN (xk 0 (c3 fun q32_0 q32_1 q32_2=>
 bind (fa 0 q32_0) fun y33=>
 bind (st1 y33 q32_2) fun _=>
 bind (ldA 2 q32_0) fun y34=>
 bind (stA 2 q32_1 y34) fun _=>
 bind (ldA 2 q32_1) fun y35=>
 ret (Value.tuple #[y35,(Value.int .i64 0)])) noX) ret)
theorem Zjd (Γ : Zd) (x0 x1 : Value) : ZG Tryz.prog Γ Tryz.f42 Zeu [x0,x1]=Jq Γ x0 x1:=by kernel_rfl
theorem Zic {prim : FuncId→Option (List Value→M Value)} (hp : prim KQ=none) (n : Nat) (x0 x1 : Value) : run Tryz.prog prim lvs (n+1) KQ [x0,x1]=Jq (run Tryz.prog prim lvs n) x0 x1:=
 (Zs hp (by kernel_rfl) Tryz.func42 (by kernel_rfl)).trans (Zjd _ x0 x1)
noncomputable def Zbl (Γ : Zd) (x0 x1 : Value) : M Value:=
 bind (QJ x0) fun y1=>
 bind (fa 2 y1) fun y2=>
 bind (ld1 y2) fun y3=>
 bind (Γ Kv [y3,x1]) fun y4=>
 ret y4
theorem ZgK (Γ : Zd) (x0 x1 : Value) : ZG Tryz.prog Γ Tryz.f43 Zdm [x0,x1]=Zbl Γ x0 x1:=by kernel_rfl
theorem Zf5 {prim : FuncId→Option (List Value→M Value)} (hp : prim Yl=none) (n : Nat) (x0 x1 : Value) : run Tryz.prog prim lvs (n+1) Yl [x0,x1]=Zbl (run Tryz.prog prim lvs n) x0 x1:=
 (Zs hp (by kernel_rfl) Tryz.func43 (by kernel_rfl)).trans (ZgK _ x0 x1)
noncomputable def Zbi (Γ : Zd) (x0 x1 x2 : Value) : M Value:=
 bind (alc 1 x0) fun y1=>
 bind (alc 1 (.agg #[.slice none 0 0,.slice none 0 0])) fun y2=>
 bind (ldA 2 y1) fun y3=>
 bind (Γ Zac [y3,x1,x2]) fun y4=>
 bind (Zk y4 0) fun y5=>
 bind (Zk y4 1) fun y6=>
 bind (alc 1 (.agg #[.string ⟨#[]⟩,.string ⟨#[]⟩,.string ⟨#[]⟩,.bool false,.slice none 0 0])) fun y7=>
 bind (stA 5 y7 y5) fun _=>
 bind (bop .int .neq y6 (Value.int .i64 0)) fun y8=>
 cnd y8
 (bind (ldA 2 y1) fun y9=>
 bind (stA 2 y2 y9) fun _=>
 bind (ldA 2 y2) fun y10=>
 ret (Value.tuple #[y10,y6]))
 (bind (fa 4 y7) fun y11=>
 bind (ld1 y11) fun y12=>
 bind (Γ YI [y12,x1]) fun y13=>
 cnd y13
 (bind (ldA 2 y1) fun y14=>
 bind (stA 2 y2 y14) fun _=>
 bind (ldA 2 y2) fun y15=>
 ret (Value.tuple #[y15,(Value.int .i64 9)]))
 (bind (bsl 1 0 (.string ⟨#[]⟩) []) fun y16=>
 bind (fa 4 y7) fun y17=>
 bind (ld1 y17) fun y18=>
 bind (app 1 16 y16 y18) fun y19=>
 bind (bsl 1 1 (.string ⟨#[]⟩) [(0,1,x1)]) fun y20=>
 bind (app 1 16 y19 y20) fun y21=>
 bind (Γ Wa [y21]) fun y22=>
 bind (fa 4 y7) fun y23=>
 bind (st1 y23 y22) fun _=>
 bind (ldA 2 y1) fun y24=>
 bind (ldA 5 y7) fun y25=>
 bind (Γ KX [y24,y25]) fun y26=>
 bind (stA 2 y2 y26) fun _=>
 bind (ldA 2 y2) fun y27=>
 ret (Value.tuple #[y27,(Value.int .i64 0)])))
theorem Zpb (Γ : Zd) (x0 x1 x2 : Value) : ZG Tryz.prog Γ Tryz.f44 ZhN [x0,x1,x2]=Zbi Γ x0 x1 x2:=by kernel_rfl
theorem ZnH {prim : FuncId→Option (List Value→M Value)} (hp : prim Zbg=none) (n : Nat) (x0 x1 x2 : Value) : run Tryz.prog prim lvs (n+1) Zbg [x0,x1,x2]=Zbi (run Tryz.prog prim lvs n) x0 x1 x2:=
 (Zs hp (by kernel_rfl) Tryz.func44 (by kernel_rfl)).trans (Zpb _ x0 x1 x2)
noncomputable def ZaQ (Γ : Zd) (x0 x1 x2 : Value) : M Value:=
 bind (Γ KN [x0,x1,x2]) fun y1=>
 bind (bop .int .neq y1 (Value.int .i64 0)) fun y2=>
 cnd y2
 (ret y1)
 (bind (QJ x0) fun y3=>
 bind (fa 2 y3) fun y4=>
 bind (ld1 y4) fun y5=>
 bind (Γ YL [y5,x1,x2]) fun y6=>
 ret y6)
theorem ZlY (Γ : Zd) (x0 x1 x2 : Value) : ZG Tryz.prog Γ Tryz.f45 Zfl [x0,x1,x2]=ZaQ Γ x0 x1 x2:=by kernel_rfl
theorem Zkh {prim : FuncId→Option (List Value→M Value)} (hp : prim WL=none) (n : Nat) (x0 x1 x2 : Value) : run Tryz.prog prim lvs (n+1) WL [x0,x1,x2]=ZaQ (run Tryz.prog prim lvs n) x0 x1 x2:=
 (Zs hp (by kernel_rfl) Tryz.func45 (by kernel_rfl)).trans (ZlY _ x0 x1 x2)
noncomputable def ZaP (Γ : Zd) (x0 x1 x2 : Value) : M Value:=
 bind (alc 1 x0) fun y1=>
 bind (alc 1 (.agg #[.slice none 0 0,.slice none 0 0])) fun y2=>
 bind (ldA 2 y1) fun y3=>
 bind (Γ Zac [y3,x1,x2]) fun y4=>
 bind (Zk y4 0) fun y5=>
 bind (Zk y4 1) fun y6=>
 bind (alc 1 (.agg #[.string ⟨#[]⟩,.string ⟨#[]⟩,.string ⟨#[]⟩,.bool false,.slice none 0 0])) fun y7=>
 bind (stA 5 y7 y5) fun _=>
 bind (bop .int .neq y6 (Value.int .i64 0)) fun y8=>
 cnd y8
 (bind (ldA 2 y1) fun y9=>
 bind (stA 2 y2 y9) fun _=>
 bind (ldA 2 y2) fun y10=>
 ret (Value.tuple #[y10,y6]))
 (bind (fa 4 y7) fun y11=>
 bind (ld1 y11) fun y12=>
 bind (Γ YI [y12,x1]) fun y13=>
 bind (uop .not y13) fun y14=>
 cnd y14
 (bind (ldA 2 y1) fun y15=>
 bind (stA 2 y2 y15) fun _=>
 bind (ldA 2 y2) fun y16=>
 ret (Value.tuple #[y16,(Value.int .i64 12)]))
 (bind (fa 4 y7) fun y17=>
 bind (ld1 y17) fun y18=>
 bind (Γ WF [y18,x1]) fun y19=>
 bind (fa 4 y7) fun y20=>
 bind (st1 y20 y19) fun _=>
 bind (ldA 2 y1) fun y21=>
 bind (ldA 5 y7) fun y22=>
 bind (Γ KX [y21,y22]) fun y23=>
 bind (stA 2 y2 y23) fun _=>
 bind (ldA 2 y2) fun y24=>
 ret (Value.tuple #[y24,(Value.int .i64 0)])))
theorem Znw (Γ : Zd) (x0 x1 x2 : Value) : ZG Tryz.prog Γ Tryz.f46 Zhv [x0,x1,x2]=ZaP Γ x0 x1 x2:=by kernel_rfl
theorem Zmn {prim : FuncId→Option (List Value→M Value)} (hp : prim ZaU=none) (n : Nat) (x0 x1 x2 : Value) : run Tryz.prog prim lvs (n+1) ZaU [x0,x1,x2]=ZaP (run Tryz.prog prim lvs n) x0 x1 x2:=
 (Zs hp (by kernel_rfl) Tryz.func46 (by kernel_rfl)).trans (Znw _ x0 x1 x2)
noncomputable def Zaf (Γ : Zd) (x0 x1 x2 : Value) : M Value:=
 bind (Γ KN [x0,x1,x2]) fun y1=>
 bind (bop .int .neq y1 (Value.int .i64 0)) fun y2=>
 cnd y2
 (ret y1)
 (bind (QJ x0) fun y3=>
 bind (fa 2 y3) fun y4=>
 bind (ld1 y4) fun y5=>
 bind (Γ Kb [y5,x1,x2]) fun y6=>
 ret y6)
theorem Zka (Γ : Zd) (x0 x1 x2 : Value) : ZG Tryz.prog Γ Tryz.f47 ZeX [x0,x1,x2]=Zaf Γ x0 x1 x2:=by kernel_rfl
theorem Zjt {prim : FuncId→Option (List Value→M Value)} (hp : prim K7=none) (n : Nat) (x0 x1 x2 : Value) : run Tryz.prog prim lvs (n+1) K7 [x0,x1,x2]=Zaf (run Tryz.prog prim lvs n) x0 x1 x2:=
 (Zs hp (by kernel_rfl) Tryz.func47 (by kernel_rfl)).trans (Zka _ x0 x1 x2)
noncomputable def ZdG (Γ : Zd) (x0 : Value) : M Value:=
 bind (QJ x0) fun y1=>
 bind (fa 0 y1) fun y2=>
 bind (ld1 y2) fun y3=>
 bind (QJ x0) fun y4=>
 bind (fa 1 y4) fun y5=>
 bind (ld1 y5) fun y6=>
 bind (QJ x0) fun y7=>
 bind (fa 2 y7) fun y8=>
 bind (ld1 y8) fun y9=>
 bind (Γ Jb [y3]) fun y10=>
 bind (ld1 y8) fun u_11=>same u_11 y9 <|
 bind (ld1 y5) fun u_12=>same u_12 y6 <|
 bind (Γ Zai [y6]) fun y13=>
 bind (ld1 y8) fun u_14=>same u_14 y9 <|
 bind (Γ Wf [y9]) fun y15=>
 bind (bld (.agg #[.map none,.pointer none,.pointer none]) [(0,1,y10),(1,1,y13),(2,1,y15)]) fun y16=>
 bind (alc 1 y16) fun y17=>
 ret y17
theorem Zll (Γ : Zd) (x0 : Value) : ZG Tryz.prog Γ Tryz.f48 Zfz [x0]=ZdG Γ x0:=by kernel_rfl
theorem Zkb {prim : FuncId→Option (List Value→M Value)} (hp : prim ZaK=none) (n : Nat) (x0 : Value) : run Tryz.prog prim lvs (n+1) ZaK [x0]=ZdG (run Tryz.prog prim lvs n) x0:=
 (Zs hp (by kernel_rfl) Tryz.func48 (by kernel_rfl)).trans (Zll _ x0)
noncomputable def Zc8 (Γ : Zd) (x0 : Value) : M Value:=
 bind (QJ x0) fun y1=>
 bind (fa 0 y1) fun y2=>
 bind (ld1 y2) fun y3=>
 bind (Γ Qz [y3]) fun y4=>
 bind (Γ J9 [y4,(Value.func (.func 97) #[] #[])]) fun y5=>
 ret y5
theorem Zkf (Γ : Zd) (x0 : Value) : ZG Tryz.prog Γ Tryz.f49 ZeV [x0]=Zc8 Γ x0:=by kernel_rfl
theorem Zjy {prim : FuncId→Option (List Value→M Value)} (hp : prim Zam=none) (n : Nat) (x0 : Value) : run Tryz.prog prim lvs (n+1) Zam [x0]=Zc8 (run Tryz.prog prim lvs n) x0:=
 (Zs hp (by kernel_rfl) Tryz.func49 (by kernel_rfl)).trans (Zkf _ x0)
noncomputable def KS (Γ : Zd) (x0 x1 : Value) : M Value:=
 bind (alc 1 (.agg #[.string ⟨#[]⟩,.bool false])) fun y1=>
 bind (Γ Yd [x1]) fun y2=>
 bind (bop .int .neq y2 (Value.int .i64 0)) fun y3=>
 cnd y3
 (bind (bld (.agg #[.string ⟨#[]⟩,.bool false]) []) fun y4=>
 bind (stA 2 y1 y4) fun _=>
 bind (ldA 2 y1) fun y5=>
 ret (Value.tuple #[y5,y2]))
 (bind (QJ x0) fun y6=>
 bind (fa 0 y6) fun y7=>
 bind (ld1 y7) fun y8=>
 bind (lkp .str (.agg #[.string ⟨#[]⟩,.bool false]) true y8 x1) fun y9=>
 bind (Zk y9 0) fun y10=>
 bind (Zk y9 1) fun y11=>
 bind (alc 1 (.agg #[.string ⟨#[]⟩,.bool false])) fun y12=>
 bind (stA 2 y12 y10) fun _=>
 bind (uop .not y11) fun y13=>
 cnd y13
 (bind (bld (.agg #[.string ⟨#[]⟩,.bool false]) []) fun y14=>
 bind (stA 2 y1 y14) fun _=>
 bind (ldA 2 y1) fun y15=>
 ret (Value.tuple #[y15,(Value.int .i64 8)]))
 (bind (ldA 2 y12) fun y16=>
 bind (stA 2 y1 y16) fun _=>
 bind (ldA 2 y1) fun y17=>
 ret (Value.tuple #[y17,(Value.int .i64 0)])))
theorem Zjq (Γ : Zd) (x0 x1 : Value) : ZG Tryz.prog Γ Tryz.f50 Zey [x0,x1]=KS Γ x0 x1:=by kernel_rfl
theorem ZiA {prim : FuncId→Option (List Value→M Value)} (hp : prim Qs=none) (n : Nat) (x0 x1 : Value) : run Tryz.prog prim lvs (n+1) Qs [x0,x1]=KS (run Tryz.prog prim lvs n) x0 x1:=
 (Zs hp (by kernel_rfl) Tryz.func50 (by kernel_rfl)).trans (Zjq _ x0 x1)
noncomputable def Zem (Γ : Zd) (x0 x1 : Value) : M Value:=
 bind (QJ x0) fun y1=>
 bind (fa 1 y1) fun y2=>
 bind (ld1 y2) fun y3=>
 bind (lkp .str (.string ⟨#[]⟩) true y3 x1) fun y4=>
 bind (Zk y4 0) fun y5=>
 bind (Zk y4 1) fun y6=>
 ret (Value.tuple #[y5,y6])
theorem Zma (Γ : Zd) (x0 x1 : Value) : ZG Tryz.prog Γ Tryz.f51 Zgq [x0,x1]=Zem Γ x0 x1:=by kernel_rfl
theorem Zlr {prim : FuncId→Option (List Value→M Value)} (hp : prim Zbd=none) (n : Nat) (x0 x1 : Value) : run Tryz.prog prim lvs (n+1) Zbd [x0,x1]=Zem (run Tryz.prog prim lvs n) x0 x1:=
 (Zs hp (by kernel_rfl) Tryz.func51 (by kernel_rfl)).trans (Zma _ x0 x1)
noncomputable def Zc5 (Γ : Zd) (x0 x1 : Value) : M Value:=
 bind (alc 1 x0) fun y1=>
 bind (alc 1 x1) fun y2=>
 bind (ld1 y1) fun y3=>
 bind (Γ WX [y3]) fun y4=>
 bind (Γ QZ [y4,(Value.func (.func 100) #[] #[y1,y2])]) fun y5=>
 ret y5
theorem ZkH (Γ : Zd) (x0 x1 : Value) : ZG Tryz.prog Γ Tryz.f52 Ze9 [x0,x1]=Zc5 Γ x0 x1:=by kernel_rfl
theorem Zju {prim : FuncId→Option (List Value→M Value)} (hp : prim JL=none) (n : Nat) (x0 x1 : Value) : run Tryz.prog prim lvs (n+1) JL [x0,x1]=Zc5 (run Tryz.prog prim lvs n) x0 x1:=
 (Zs hp (by kernel_rfl) Tryz.func52 (by kernel_rfl)).trans (ZkH _ x0 x1)
noncomputable def Kl.l1 (Γ : Zd) (s2 s3 s43 s44 : Value) : M Out:=
 bind (bop .int .lss s44 s43) fun y41=>
 cnd y41
 (bind (fa 4 s2) fun y42=>
 bind (ld1 y42) fun y43=>
 bind (ixa 1 y43 s44) fun y44=>
 bind (ld1 y44) fun y45=>
 bind (fa 4 s3) fun y46=>
 bind (ld1 y46) fun y47=>
 bind (ixa 1 y47 s44) fun y48=>
 bind (ld1 y48) fun y49=>
 bind (bop .str .neq y45 y49) fun y50=>
 cnd y50
 (ret (.ret (Value.bool false)))
 (bind (bop .int .add s44 (Value.int .i64 1)) fun y51=>
 ret (.nrm [s2,s3,s43,y51])))
 (ret (.ext 0 []))
noncomputable def Kl (Γ : Zd) (x0 x1 : Value) : M Value:=
 bind (alc 1 x0) fun y1=>
 bind (alc 1 x1) fun y2=>
 bind (fa 0 y1) fun y3=>
 bind (ld1 y3) fun y4=>
 bind (fa 0 y2) fun y5=>
 bind (ld1 y5) fun y6=>
 bind (bop .str .neq y4 y6) fun y7=>
 bind (Zx y7 false 5 (bind (fa 1 y1) fun y8=>
 bind (ld1 y8) fun y9=>
 bind (fa 1 y2) fun y10=>
 bind (ld1 y10) fun y11=>
 bind (bop .str .neq y9 y11) fun y12=>
 ret [y8,y9,y10,y11,y12])) (c5 fun _ _ _ _ q13_4=>
 bind (pick y7 (Value.bool true) q13_4) fun y14=>
 bind (Zx y14 false 5 (bind (fa 2 y1) fun y15=>
 bind (ld1 y15) fun y16=>
 bind (fa 2 y2) fun y17=>
 bind (ld1 y17) fun y18=>
 bind (bop .str .neq y16 y18) fun y19=>
 ret [y15,y16,y17,y18,y19])) (c5 fun _ _ _ _ q20_4=>
 bind (pick y14 (Value.bool true) q20_4) fun y21=>
 bind (Zx y21 false 5 (bind (fa 3 y1) fun y22=>
 bind (ld1 y22) fun y23=>
 bind (fa 3 y2) fun y24=>
 bind (ld1 y24) fun y25=>
 bind (bop .bool .neq y23 y25) fun y26=>
 ret [y22,y23,y24,y25,y26])) (c5 fun _ _ _ _ q27_4=>
 bind (pick y21 (Value.bool true) q27_4) fun y28=>
 bind (Zx y28 false 7 (bind (fa 4 y1) fun y29=>
 bind (ld1 y29) fun y30=>
 bind (ZB y30) fun y31=>
 bind (fa 4 y2) fun y32=>
 bind (ld1 y32) fun y33=>
 bind (ZB y33) fun y34=>
 bind (bop .int .neq y31 y34) fun y35=>
 ret [y29,y30,y31,y32,y33,y34,y35])) (c7 fun _ _ _ _ _ _ q36_6=>
 bind (pick y28 (Value.bool true) q36_6) fun y37=>
 cnd y37
 (ret (Value.bool false))
 (bind (fa 4 y1) fun y38=>
 bind (ld1 y38) fun y39=>
 bind (ZB y39) fun y40=>
 jn (Zh (c4 (Kl.l1 Γ)) [y1,y2,y40,(Value.int .i64 0)]) noN (xk 0 (c0 (ret (Value.bool true))) noX) ret)))))
theorem Zoa (Γ : Zd) (x0 x1 : Value) : ZG Tryz.prog Γ Tryz.f53 Zh7 [x0,x1]=Kl Γ x0 x1:=by kernel_rfl
theorem Zny {prim : FuncId→Option (List Value→M Value)} (hp : prim ZdK=none) (n : Nat) (x0 x1 : Value) : run Tryz.prog prim lvs (n+1) ZdK [x0,x1]=Kl (run Tryz.prog prim lvs n) x0 x1:=
 (Zs hp (by kernel_rfl) Tryz.func53 (by kernel_rfl)).trans (Zoa _ x0 x1)
noncomputable def Zag (Γ : Zd) (x0 x1 : Value) : M Value:=
 bind (QJ x0) fun y1=>
 bind (fa 1 y1) fun y2=>
 bind (ld1 y2) fun y3=>
 bind (lkp .str (.string ⟨#[]⟩) true y3 x1) fun y4=>
 bind (Zk y4 0) fun y5=>
 bind (Zk y4 1) fun y6=>
 jn (cnd y6
 (bind (QJ x0) fun y7=>
 bind (fa 0 y7) fun y8=>
 bind (ld1 y8) fun y9=>
 bind (mde .str y9 y5) fun _=>
 bind (QJ x0) fun y10=>
 bind (fa 1 y10) fun y11=>
 bind (ld1 y11) fun y12=>
 bind (mde .str y12 x1) fun _=>
 ret (.nrm [y6]))
 (ret (.nrm [y6]))) (c1 fun q13_0=>
 ret q13_0) noX ret
theorem Zke (Γ : Zd) (x0 x1 : Value) : ZG Tryz.prog Γ Tryz.f54 Zfa [x0,x1]=Zag Γ x0 x1:=by kernel_rfl
theorem Zjv {prim : FuncId→Option (List Value→M Value)} (hp : prim Jo=none) (n : Nat) (x0 x1 : Value) : run Tryz.prog prim lvs (n+1) Jo [x0,x1]=Zag (run Tryz.prog prim lvs n) x0 x1:=
 (Zs hp (by kernel_rfl) Tryz.func54 (by kernel_rfl)).trans (Zke _ x0 x1)
noncomputable def J3.l1 (Γ : Zd) (s0 s1 s5 s11 s12 s13 : Value) : M Out:=
 bind (bop .int .lss s13 s12) fun y3=>
 cnd y3
 (bind (ixa 1 s11 s13) fun y4=>
 bind (ld1 y4) fun y5=>
 bind (QJ s0) fun y6=>
 bind (fa 0 y6) fun y7=>
 bind (ld1 y7) fun y8=>
 bind (lkp .str (.map none) false y8 y5) fun y9=>
 bind (mde .str y9 s1) fun _=>
 bind (bop .int .add s13 (Value.int .i64 1)) fun y10=>
 ret (.nrm [s0,s1,s5,s11,s12,y10]))
 (ret (.ext 0 [s5]))
noncomputable def J3 (Γ : Zd) (x0 x1 : Value) : M Value:=
 bind (Γ JL [x0,x1]) fun y1=>
 bind (ZB y1) fun y2=>
 jn (Zh (c6 (J3.l1 Γ)) [x0,x1,y1,y1,y2,(Value.int .i64 0)]) noN (xk 0 (c1 fun q12_0=>
 bind (ZB q12_0) fun y13=>
 ret y13) noX) ret
theorem ZgS (Γ : Zd) (x0 x1 : Value) : ZG Tryz.prog Γ Tryz.f55 Zdk [x0,x1]=J3 Γ x0 x1:=by kernel_rfl
theorem Zf2 {prim : FuncId→Option (List Value→M Value)} (hp : prim KK=none) (n : Nat) (x0 x1 : Value) : run Tryz.prog prim lvs (n+1) KK [x0,x1]=J3 (run Tryz.prog prim lvs n) x0 x1:=
 (Zs hp (by kernel_rfl) Tryz.func55 (by kernel_rfl)).trans (ZgS _ x0 x1)
noncomputable def Zbs (Γ : Zd) (x0 x1 : Value) : M Value:=
 bind (Γ Zaj [x1]) fun y1=>
 bind (Zk y1 0) fun y2=>
 bind (Zk y1 1) fun y3=>
 bind (bop .int .neq y3 (Value.int .i64 0)) fun y4=>
 cnd y4
 (ret (Value.tuple #[(Value.string ⟨#[]⟩),y3]))
 (bind (QJ x0) fun y5=>
 bind (fa 0 y5) fun y6=>
 bind (ld1 y6) fun y7=>
 bind (lkp .str (.string ⟨#[]⟩) true y7 y2) fun y8=>
 bind (Zk y8 0) fun y9=>
 bind (Zk y8 1) fun y10=>
 bind (uop .not y10) fun y11=>
 cnd y11
 (ret (Value.tuple #[(Value.string ⟨#[]⟩),(Value.int .i64 8)]))
 (ret (Value.tuple #[y9,(Value.int .i64 0)])))
theorem Zks (Γ : Zd) (x0 x1 : Value) : ZG Tryz.prog Γ Tryz.f56 Ze0 [x0,x1]=Zbs Γ x0 x1:=by kernel_rfl
theorem Zjo {prim : FuncId→Option (List Value→M Value)} (hp : prim Zaq=none) (n : Nat) (x0 x1 : Value) : run Tryz.prog prim lvs (n+1) Zaq [x0,x1]=Zbs (run Tryz.prog prim lvs n) x0 x1:=
 (Zs hp (by kernel_rfl) Tryz.func56 (by kernel_rfl)).trans (Zks _ x0 x1)
noncomputable def Zhi (Γ : Zd) (x0 : Value) : M Value:=
 bind (bop .str .eql x0 (Value.string ⟨#[]⟩)) fun y1=>
 bind (Zx y1 false 3 (bind (Je x0) fun y2=>
 bind (bop .int .gtr y2 (Value.int .i64 12)) fun y3=>
 ret [x0,y2,y3])) (c3 fun _ _ q4_2=>
 bind (pick y1 (Value.bool true) q4_2) fun y5=>
 bind (Zx y5 false 4 (bind (Γ KB [x0,(Value.func (.func 101) #[] #[])]) fun y6=>
 bind (uop .not y6) fun y7=>
 ret [x0,(Value.func (.func 101) #[] #[]),y6,y7])) (c4 fun _ _ _ q8_3=>
 bind (pick y5 (Value.bool true) q8_3) fun y9=>
 cnd y9
 (ret (Value.int .i64 4))
 (ret (Value.int .i64 0))))
theorem ZpR (Γ : Zd) (x0 : Value) : ZG Tryz.prog Γ Tryz.f57 ZjB [x0]=Zhi Γ x0:=by kernel_rfl
theorem Zoo {prim : FuncId→Option (List Value→M Value)} (hp : prim Zb2=none) (n : Nat) (x0 : Value) : run Tryz.prog prim lvs (n+1) Zb2 [x0]=Zhi (run Tryz.prog prim lvs n) x0:=
 (Zs hp (by kernel_rfl) Tryz.func57 (by kernel_rfl)).trans (ZpR _ x0)
noncomputable def Zdp.l1 (Γ : Zd) (s1 s5 s13 s14 s15 : Value) : M Out:=
 bind (bop .int .lss s15 s14) fun y2=>
 cnd y2
 (bind (ixa 5 s13 s15) fun y3=>
 bind (ldA 5 y3) fun y4=>
 bind (alc 1 (.agg #[.string ⟨#[]⟩,.string ⟨#[]⟩,.string ⟨#[]⟩,.bool false,.slice none 0 0])) fun y5=>
 bind (stA 5 y5 y4) fun _=>
 bind (ldA 5 y5) fun y6=>
 bind (Γ ZpU [(Value.int .i64 2),y6]) fun y7=>
 bind (bop .int .neq y7 (Value.int .i64 0)) fun y8=>
 cnd y8
 (ret (.ret y7))
 (bind (fa 0 y5) fun y9=>
 bind (ld1 y9) fun y10=>
 bind (bsl 1 1 (.string ⟨#[]⟩) [(0,1,y10)]) fun y11=>
 bind (app 1 16 s5 y11) fun y12=>
 bind (bop .int .add s15 (Value.int .i64 1)) fun y13=>
 ret (.nrm [s1,y12,s13,s14,y13])))
 (ret (.ext 0 [s1,s5]))
noncomputable def Zdp.l2 (Γ : Zd) (s1 s35 s36 s37 : Value) : M Out:=
 bind (bop .int .lss s37 s36) fun y19=>
 cnd y19
 (bind (ixa 1 s35 s37) fun y20=>
 bind (ld1 y20) fun y21=>
 bind (Γ Yd [y21]) fun y22=>
 bind (bop .int .neq y22 (Value.int .i64 0)) fun y23=>
 cnd y23
 (ret (.ret y22))
 (bind (bop .int .add s37 (Value.int .i64 1)) fun y24=>
 ret (.nrm [s1,s35,s36,y24])))
 (ret (.ext 2 [s1]))
noncomputable def Zdp (Γ : Zd) (x0 x1 : Value) : M Value:=
 bind (ZB x0) fun y1=>
 jn (Zh (c5 (Zdp.l1 Γ)) [x1,(Value.slice none 0 0),x0,y1,(Value.int .i64 0)]) noN (xk 0 (c2 fun q15_0 q15_1=>
 bind (Γ ZjO [q15_1,(Value.int .i64 12)]) fun y16=>
 bind (bop .int .neq y16 (Value.int .i64 0)) fun y17=>
 cnd y17
 (ret y16)
 (bind (ZB q15_0) fun y18=>
 jn (Zh (c4 (Zdp.l2 Γ)) [q15_0,q15_0,y18,(Value.int .i64 0)]) noN (xk 2 (c1 fun q26_0=>
 bind (Γ ZjO [q26_0,(Value.int .i64 6)]) fun y27=>
 ret y27) noX) ret)) noX) ret
noncomputable def Yi (Γ : Zd) (x0 x1 : Value) : M Value:=
 bind (Γ J5 [x0,x1,(Value.slice none 0 0)]) fun y1=>
 bind (Zk y1 0) fun y2=>
 bind (Zk y1 1) fun y3=>
 bind (bop .int .eql y3 (Value.int .i64 0)) fun y4=>
 cnd y4
 (ret (Value.int .i64 9))
 (bind (bop .int .neq y3 (Value.int .i64 8)) fun y5=>
 cnd y5
 (ret y3)
 (bind (QJ x0) fun y6=>
 bind (fa 0 y6) fun y7=>
 bind (ld1 y7) fun y8=>
 bind (lenM y8) fun y9=>
 bind (bop .int .geq y9 (Value.int .i64 6)) fun y10=>
 cnd y10
 (ret (Value.int .i64 7))
 (bind (QJ x0) fun y11=>
 bind (fa 0 y11) fun y12=>
 bind (ld1 y12) fun y13=>
 bind (mkm) fun y14=>
 bind (mup .str y13 x1 y14) fun _=>
 ret (Value.int .i64 0))))
theorem Zh4 (Γ : Zd) (x0 x1 : Value) : ZG Tryz.prog Γ Tryz.f59 Zd7 [x0,x1]=Yi Γ x0 x1:=by kernel_rfl
theorem ZhJ {prim : FuncId→Option (List Value→M Value)} (hp : prim Yj=none) (n : Nat) (x0 x1 : Value) : run Tryz.prog prim lvs (n+1) Yj [x0,x1]=Yi (run Tryz.prog prim lvs n) x0 x1:=
 (Zs hp (by kernel_rfl) Tryz.func59 (by kernel_rfl)).trans (Zh4 _ x0 x1)
noncomputable def Ku (Γ : Zd) (x0 x1 x2 : Value) : M Value:=
 bind (bsl 1 1 (.string ⟨#[]⟩) [(0,1,x2)]) fun y1=>
 bind (Γ J5 [x0,x1,y1]) fun y2=>
 bind (Zk y2 0) fun y3=>
 bind (Zk y2 1) fun y4=>
 bind (bop .int .neq y4 (Value.int .i64 0)) fun y5=>
 cnd y5
 (ret y4)
 (bind (lkp .str (.agg #[]) true y3 x2) fun y6=>
 bind (Zk y6 0) fun y7=>
 bind (Zk y6 1) fun y8=>
 bind (alc 1 (.agg #[])) fun y9=>
 bind (stA 0 y9 y7) fun _=>
 cnd y8
 (ret (Value.int .i64 9))
 (bind (bld (.agg #[]) []) fun y10=>
 bind (mup .str y3 x2 y10) fun _=>
 ret (Value.int .i64 0)))
theorem Zis (Γ : Zd) (x0 x1 x2 : Value) : ZG Tryz.prog Γ Tryz.f60 Zec [x0,x1,x2]=Ku Γ x0 x1 x2:=by kernel_rfl
theorem ZhI {prim : FuncId→Option (List Value→M Value)} (hp : prim YL=none) (n : Nat) (x0 x1 x2 : Value) : run Tryz.prog prim lvs (n+1) YL [x0,x1,x2]=Ku (run Tryz.prog prim lvs n) x0 x1 x2:=
 (Zs hp (by kernel_rfl) Tryz.func60 (by kernel_rfl)).trans (Zis _ x0 x1 x2)
noncomputable def Kd (Γ : Zd) (x0 x1 x2 : Value) : M Value:=
 bind (Γ Yd [x1]) fun y1=>
 bind (bop .int .neq y1 (Value.int .i64 0)) fun y2=>
 cnd y2
 (ret y1)
 (bind (bop .str .eql x2 (Value.string ⟨#[]⟩)) fun y3=>
 cnd y3
 (bind (Γ Jo [x0,x1]) fun y4=>
 ret (Value.int .i64 0))
 (bind (Γ Zaj [x2]) fun y5=>
 bind (Zk y5 0) fun y6=>
 bind (Zk y5 1) fun y7=>
 bind (bop .int .neq y7 (Value.int .i64 0)) fun y8=>
 cnd y8
 (ret y7)
 (bind (QJ x0) fun y9=>
 bind (fa 0 y9) fun y10=>
 bind (ld1 y10) fun y11=>
 bind (lkp .str (.string ⟨#[]⟩) true y11 y6) fun y12=>
 bind (Zk y12 0) fun y13=>
 bind (Zk y12 1) fun y14=>
 bind (Zx y14 true 3 (bind (bop .str .neq y13 x1) fun y15=>
 ret [y13,x1,y15])) (c3 fun _ _ q16_2=>
 bind (pick y14 q16_2 (Value.bool false)) fun y17=>
 cnd y17
 (ret (Value.int .i64 9))
 (bind (Γ Jo [x0,x1]) fun y18=>
 bind (QJ x0) fun y19=>
 bind (fa 0 y19) fun y20=>
 bind (ld1 y20) fun y21=>
 bind (QJ x0) fun y22=>
 bind (fa 1 y22) fun y23=>
 bind (ld1 y23) fun y24=>
 bind (men .str (.string ⟨#[]⟩) y21 y6) fun y25=>
 bind (Zk y25 1) fun y26=>
 bind (ens y21 y26 x1) fun _=>
 bind (men .str (.string ⟨#[]⟩) y24 x1) fun y27=>
 bind (Zk y27 1) fun y28=>
 bind (ens y24 y28 y6) fun _=>
 ret (Value.int .i64 0))))))
theorem Zlt (Γ : Zd) (x0 x1 x2 : Value) : ZG Tryz.prog Γ Tryz.f61 Zfx [x0,x1,x2]=Kd Γ x0 x1 x2:=by kernel_rfl
theorem Zj7 {prim : FuncId→Option (List Value→M Value)} (hp : prim KP=none) (n : Nat) (x0 x1 x2 : Value) : run Tryz.prog prim lvs (n+1) KP [x0,x1,x2]=Kd (run Tryz.prog prim lvs n) x0 x1 x2:=
 (Zs hp (by kernel_rfl) Tryz.func61 (by kernel_rfl)).trans (Zlt _ x0 x1 x2)
noncomputable def ZfB.l1 (Γ : Zd) (s0 s1 s10 s11 s12 : Value) : M Out:=
 bind (bop .int .lss s12 s11) fun y2=>
 cnd y2
 (bind (ixa 5 s10 s12) fun y3=>
 bind (ldA 5 y3) fun y4=>
 bind (alc 1 (.agg #[.string ⟨#[]⟩,.string ⟨#[]⟩,.string ⟨#[]⟩,.bool false,.slice none 0 0])) fun y5=>
 bind (stA 5 y5 y4) fun _=>
 bind (ldA 5 y5) fun y6=>
 bind (Γ Zpx [s1,y6]) fun y7=>
 bind (bop .int .neq y7 (Value.int .i64 0)) fun y8=>
 cnd y8
 (ret (.ret y7))
 (bind (bop .int .add s12 (Value.int .i64 1)) fun y9=>
 ret (.nrm [s0,s1,s10,s11,y9])))
 (ret (.ext 0 [s0]))
noncomputable def ZfB.l2 (Γ : Zd) (s0 s23 s24 s25 : Value) : M Out:=
 bind (bop .int .lss s25 s24) fun y13=>
 cnd y13
 (bind (ixa 5 s23 s25) fun y14=>
 bind (ldA 5 y14) fun y15=>
 bind (alc 1 (.agg #[.string ⟨#[]⟩,.string ⟨#[]⟩,.string ⟨#[]⟩,.bool false,.slice none 0 0])) fun y16=>
 bind (stA 5 y16 y15) fun _=>
 bind (bop .int .gtr s25 (Value.int .i64 0)) fun y17=>
 bind (Zp y17 true (ret s0)) fun y18=>
 bind (Zp y17 true (ret s25)) fun y19=>
 bind (Zp y17 true (bop .int .sub y19 (Value.int .i64 1))) fun y20=>
 bind (Zp y17 true (ixa 5 y18 y20)) fun y21=>
 bind (Zp y17 true (fa 0 y21)) fun y22=>
 bind (Zp y17 true (ld1 y22)) fun y23=>
 bind (Zp y17 true (fa 0 y16)) fun y24=>
 bind (Zp y17 true (ld1 y24)) fun y25=>
 bind (Zp y17 true (bop .str .geq y23 y25)) fun y26=>
 bind (pick y17 y26 (Value.bool false)) fun y27=>
 cnd y27
 (ret (.ret (Value.int .i64 9)))
 (bind (bop .int .add s25 (Value.int .i64 1)) fun y28=>
 ret (.nrm [s0,s23,s24,y28])))
 (ret (.ext 2 [s0]))
noncomputable def ZfB (Γ : Zd) (x0 x1 : Value) : M Value:=
 bind (ZB x0) fun y1=>
 jn (Zh (c5 (ZfB.l1 Γ)) [x0,x1,x0,y1,(Value.int .i64 0)]) noN (xk 0 (c1 fun q11_0=>
 bind (ZB q11_0) fun y12=>
 jn (Zh (c4 (ZfB.l2 Γ)) [q11_0,q11_0,y12,(Value.int .i64 0)]) noN (xk 2 (c1 fun q30_0=>
 bind (ZB q30_0) fun y31=>
 bind (bop .int .gtr y31 (Value.int .i64 12)) fun y32=>
 cnd y32
 (ret (Value.int .i64 7))
 (ret (Value.int .i64 0))) noX) ret) noX) ret
noncomputable def ZfP (Γ : Zd) (x0 : Value) : M Value:=
 bind (Je x0) fun y1=>
 bind (bop .int .geq y1 (Value.int .i64 1)) fun y2=>
 bind (Zx y2 true 2 (bind (bop .int .leq y1 (Value.int .i64 12)) fun y3=>
 ret [y1,y3])) (c2 fun _ q4_1=>
 bind (pick y2 q4_1 (Value.bool false)) fun y5=>
 bind (Zx y5 true 2 (bind (Γ ZbS [x0,(Value.string ⟨#[97,98,99,100,101,102,103,104,105,106,107,108,109,110,111,112,113,114,115,116,117,118,119,120,121,122,48,49,50,51,52,53,54,55,56,57,45,46]⟩)]) fun y6=>
 ret [x0,y6])) (c2 fun _ q7_1=>
 bind (pick y5 q7_1 (Value.bool false)) fun y8=>
 bind (Zx y8 true 3 (bind (ixs x0 (Value.int .i64 0)) fun y9=>
 bind (Γ Ww [y9,(Value.string ⟨#[97,98,99,100,101,102,103,104,105,106,107,108,109,110,111,112,113,114,115,116,117,118,119,120,121,122]⟩)]) fun y10=>
 ret [x0,y9,y10])) (c3 fun _ _ q11_2=>
 bind (pick y8 q11_2 (Value.bool false)) fun y12=>
 bind (Zx y12 true 5 (bind (bop .int .sub y1 (Value.int .i64 1)) fun y13=>
 bind (ixs x0 y13) fun y14=>
 bind (Γ Ww [y14,(Value.string ⟨#[97,98,99,100,101,102,103,104,105,106,107,108,109,110,111,112,113,114,115,116,117,118,119,120,121,122,48,49,50,51,52,53,54,55,56,57]⟩)]) fun y15=>
 ret [x0,y1,y13,y14,y15])) (c5 fun _ _ _ _ q16_4=>
 bind (pick y12 q16_4 (Value.bool false)) fun y17=>
 ret y17))))
theorem Zpj (Γ : Zd) (x0 : Value) : ZG Tryz.prog Γ Tryz.f63 ZiY [x0]=ZfP Γ x0:=by kernel_rfl
theorem ZnB {prim : FuncId→Option (List Value→M Value)} (hp : prim Qt=none) (n : Nat) (x0 : Value) : run Tryz.prog prim lvs (n+1) Qt [x0]=ZfP (run Tryz.prog prim lvs n) x0:=
 (Zs hp (by kernel_rfl) Tryz.func63 (by kernel_rfl)).trans (Zpj _ x0)
noncomputable def Wt.l1 (Γ : Zd) (s1 s7 s8 s9 : Value) : M Out:=
 bind (bop .int .lss s9 s8) fun y2=>
 cnd y2
 (bind (ixa 1 s7 s9) fun y3=>
 bind (ld1 y3) fun y4=>
 bind (bop .str .eql y4 s1) fun y5=>
 cnd y5
 (ret (.ret (Value.bool true)))
 (bind (bop .int .add s9 (Value.int .i64 1)) fun y6=>
 ret (.nrm [s1,s7,s8,y6])))
 (ret (.ext 0 []))
noncomputable def Wt (Γ : Zd) (x0 x1 : Value) : M Value:=
 bind (ZB x0) fun y1=>
 jn (Zh (c4 (Wt.l1 Γ)) [x1,x0,y1,(Value.int .i64 0)]) noN (xk 0 (c0 (ret (Value.bool false))) noX) ret
theorem Zp2 (Γ : Zd) (x0 x1 : Value) : ZG Tryz.prog Γ Tryz.f64 ZjX [x0,x1]=Wt Γ x0 x1:=by kernel_rfl
theorem Zpw {prim : FuncId→Option (List Value→M Value)} (hp : prim YI=none) (n : Nat) (x0 x1 : Value) : run Tryz.prog prim lvs (n+1) YI [x0,x1]=Wt (run Tryz.prog prim lvs n) x0 x1:=
 (Zs hp (by kernel_rfl) Tryz.func64 (by kernel_rfl)).trans (Zp2 _ x0 x1)
noncomputable def Zbj (Γ : Zd) (x0 x1 : Value) : M Value:=
 bind (alc 1 x0) fun y1=>
 bind (alc 1 (.agg #[.string ⟨#[]⟩,.string ⟨#[]⟩,.string ⟨#[]⟩,.bool false,.slice none 0 0])) fun y2=>
 bind (Γ Qt [x1]) fun y3=>
 bind (uop .not y3) fun y4=>
 cnd y4
 (bind (bld (.agg #[.string ⟨#[]⟩,.string ⟨#[]⟩,.string ⟨#[]⟩,.bool false,.slice none 0 0]) []) fun y5=>
 bind (stA 5 y2 y5) fun _=>
 bind (ldA 5 y2) fun y6=>
 ret (Value.tuple #[y6,(Value.int .i64 10)]))
 (bind (fa 0 y1) fun y7=>
 bind (ld1 y7) fun y8=>
 bind (Γ KW [y8,x1]) fun y9=>
 bind (bop .int .lss y9 (Value.int .i64 0)) fun y10=>
 cnd y10
 (bind (bld (.agg #[.string ⟨#[]⟩,.string ⟨#[]⟩,.string ⟨#[]⟩,.bool false,.slice none 0 0]) []) fun y11=>
 bind (stA 5 y2 y11) fun _=>
 bind (ldA 5 y2) fun y12=>
 ret (Value.tuple #[y12,(Value.int .i64 8)]))
 (bind (fa 0 y1) fun y13=>
 bind (ld1 y13) fun y14=>
 bind (ixa 5 y14 y9) fun y15=>
 bind (ldA 5 y15) fun y16=>
 bind (stA 5 y2 y16) fun _=>
 bind (ldA 5 y2) fun y17=>
 ret (Value.tuple #[y17,(Value.int .i64 0)])))
theorem ZoM (Γ : Zd) (x0 x1 : Value) : ZG Tryz.prog Γ Tryz.f67 ZhP [x0,x1]=Zbj Γ x0 x1:=by kernel_rfl
theorem Znp {prim : FuncId→Option (List Value→M Value)} (hp : prim JT=none) (n : Nat) (x0 x1 : Value) : run Tryz.prog prim lvs (n+1) JT [x0,x1]=Zbj (run Tryz.prog prim lvs n) x0 x1:=
 (Zs hp (by kernel_rfl) Tryz.func67 (by kernel_rfl)).trans (ZoM _ x0 x1)
noncomputable def QQ.l1 (Γ : Zd) (s0 s4 : Value) : M Out:=
 bind (Je s0) fun y4=>
 bind (bop .int .lss s4 y4) fun y5=>
 bind (Zx y5 true 4 (bind (ixs s0 s4) fun y6=>
 bind (bop .int .neq y6 (Value.int .u8 64)) fun y7=>
 ret [s0,s4,y6,y7])) (c4 fun _ _ _ q8_3=>
 bind (pick y5 q8_3 (Value.bool false)) fun y9=>
 cnd y9
 (bind (bop .int .add s4 (Value.int .i64 1)) fun y10=>
 ret (.nrm [s0,y10]))
 (ret (.ext 0 [s0,s4])))
noncomputable def QQ.l2 (Γ : Zd) (s0 s5 s6 s7 : Value) : M Out:=
 bind (Je s0) fun y21=>
 bind (bop .int .lss s7 y21) fun y22=>
 cnd y22
 (bind (ixs s0 s7) fun y23=>
 bind (bop .int .eql y23 (Value.int .u8 46)) fun y24=>
 jn (cnd y24
 (bind (bop .int .eql s6 (Value.int .i64 0)) fun y25=>
 cnd y25
 (ret (.ret (Value.tuple #[(Value.string ⟨#[]⟩),(Value.bool false)])))
 (bind (bop .int .add s5 (Value.int .i64 1)) fun y26=>
 ret (.nrm [s0,y26,(Value.int .i64 0),s7])))
 (bind (ixs s0 s7) fun y27=>
 bind (Γ Ww [y27,(Value.string ⟨#[97,98,99,100,101,102,103,104,105,106,107,108,109,110,111,112,113,114,115,116,117,118,119,120,121,122,48,49,50,51,52,53,54,55,56,57]⟩)]) fun y28=>
 bind (uop .not y28) fun y29=>
 cnd y29
 (ret (.ret (Value.tuple #[(Value.string ⟨#[]⟩),(Value.bool false)])))
 (bind (bop .int .add s6 (Value.int .i64 1)) fun y30=>
 ret (.nrm [s0,s5,y30,s7])))) (c4 fun q31_0 q31_1 q31_2 q31_3=>
 bind (bop .int .add q31_3 (Value.int .i64 1)) fun y32=>
 ret (.nrm [q31_0,q31_1,q31_2,y32])) noX ZP)
 (ret (.ext 2 [s0,s5,s6]))
noncomputable def QQ (Γ : Zd) (x0 : Value) : M Value:=
 bind (Je x0) fun y1=>
 bind (bop .int .gtr y1 (Value.int .i64 20)) fun y2=>
 cnd y2
 (ret (Value.tuple #[(Value.string ⟨#[]⟩),(Value.bool false)]))
 (bind (Γ Zcd [x0]) fun y3=>
 jn (Zh (c2 (QQ.l1 Γ)) [y3,(Value.int .i64 0)]) noN (xk 0 (c2 fun q12_0 q12_1=>
 bind (Je q12_0) fun y13=>
 bind (bop .int .eql q12_1 y13) fun y14=>
 bind (Zx y14 false 5 (bind (sls q12_0 none (some q12_1)) fun y15=>
 bind (Γ Qt [y15]) fun y16=>
 bind (uop .not y16) fun y17=>
 ret [q12_0,q12_1,y15,y16,y17])) (c5 fun _ _ _ _ q18_4=>
 bind (pick y14 (Value.bool true) q18_4) fun y19=>
 cnd y19
 (ret (Value.tuple #[(Value.string ⟨#[]⟩),(Value.bool false)]))
 (bind (bop .int .add q12_1 (Value.int .i64 1)) fun y20=>
 jn (Zh (c4 (QQ.l2 Γ)) [q12_0,(Value.int .i64 0),(Value.int .i64 0),y20]) noN (xk 2 (c3 fun q35_0 q35_1 q35_2=>
 bind (bop .int .eql q35_1 (Value.int .i64 0)) fun y36=>
 bind (Zx y36 false 2 (bind (bop .int .eql q35_2 (Value.int .i64 0)) fun y37=>
 ret [q35_2,y37])) (c2 fun _ q38_1=>
 bind (pick y36 (Value.bool true) q38_1) fun y39=>
 cnd y39
 (ret (Value.tuple #[(Value.string ⟨#[]⟩),(Value.bool false)]))
 (ret (Value.tuple #[q35_0,(Value.bool true)])))) noX) ret))) noX) ret)
theorem Zo3 (Γ : Zd) (x0 : Value) : ZG Tryz.prog Γ Tryz.f68 ZiS [x0]=QQ Γ x0:=by kernel_rfl
theorem Znt {prim : FuncId→Option (List Value→M Value)} (hp : prim Wy=none) (n : Nat) (x0 : Value) : run Tryz.prog prim lvs (n+1) Wy [x0]=QQ (run Tryz.prog prim lvs n) x0:=
 (Zs hp (by kernel_rfl) Tryz.func68 (by kernel_rfl)).trans (Zo3 _ x0)
noncomputable def ZX.l1 (Γ : Zd) (s0 s1 s5 s6 : Value) : M Out:=
 bind (ZB s0) fun y4=>
 bind (bop .int .lss s6 y4) fun y5=>
 cnd y5
 (bind (ixa 1 s0 s6) fun y6=>
 bind (ld1 y6) fun y7=>
 bind (JQ Γ s1 [y7]) fun y8=>
 bind (uop .not y8) fun y9=>
 jn (cnd y9
 (bind (ixa 1 s0 s5) fun y10=>
 bind (st1 y10 y7) fun _=>
 bind (bop .int .add s5 (Value.int .i64 1)) fun y11=>
 ret (.nrm [s0,s1,y11,s6]))
 (ret (.nrm [s0,s1,s5,s6]))) (c4 fun q12_0 q12_1 q12_2 q12_3=>
 bind (bop .int .add q12_3 (Value.int .i64 1)) fun y13=>
 ret (.nrm [q12_0,q12_1,q12_2,y13])) noX ZP)
 (ret (.ext 0 [s0,s5]))
noncomputable def ZX (Γ : Zd) (x0 x1 : Value) : M Value:=
 bind (Γ J2 [x0,x1]) fun y1=>
 bind (bop .int .eql y1 (Value.int .i64 (-1))) fun y2=>
 cnd y2
 (ret x0)
 (bind (bop .int .add y1 (Value.int .i64 1)) fun y3=>
 jn (Zh (c4 (ZX.l1 Γ)) [x0,x1,y1,y3]) noN (xk 0 (c2 fun q16_0 q16_1=>
 bind (slv 1 q16_0 (some q16_1) none none) fun y17=>
 bind (clr (.string ⟨#[]⟩) 1 y17) fun _=>
 bind (slv 1 q16_0 none (some q16_1) none) fun y18=>
 ret y18) noX) ret)
theorem ZcO (Γ : Zd) (x0 x1 : Value) : ZG Tryz.prog Γ Tryz.f70 W4 [x0,x1]=ZX Γ x0 x1:=by kernel_rfl
theorem Zct {prim : FuncId→Option (List Value→M Value)} (hp : prim QZ=none) (n : Nat) (x0 x1 : Value) : run Tryz.prog prim lvs (n+1) QZ [x0,x1]=ZX (run Tryz.prog prim lvs n) x0 x1:=
 (Zs hp (by kernel_rfl) Tryz.func70 (by kernel_rfl)).trans (ZcO _ x0 x1)
noncomputable def YX.l1 (Γ : Zd) (s0 s35 s36 s37 : Value) : M Out:=
 bind (bop .int .lss s37 s36) fun y19=>
 cnd y19
 (bind (ixa 1 s35 s37) fun y20=>
 bind (ld1 y20) fun y21=>
 bind (bop .str .eql y21 (Value.string ⟨#[]⟩)) fun y22=>
 bind (Zx y22 false 3 (bind (Γ KB [y21,(Value.func (.func 120) #[] #[])]) fun y23=>
 bind (uop .not y23) fun y24=>
 ret [y21,y23,y24])) (c3 fun _ _ q25_2=>
 bind (pick y22 (Value.bool true) q25_2) fun y26=>
 cnd y26
 (ret (.ret (Value.tuple #[(Value.string ⟨#[]⟩),(Value.int .i64 11)])))
 (bind (bop .int .add s37 (Value.int .i64 1)) fun y27=>
 ret (.nrm [s0,s35,s36,y27]))))
 (ret (.ext 0 [s0]))
noncomputable def YX (Γ : Zd) (x0 : Value) : M Value:=
 bind (Je x0) fun y1=>
 bind (bop .int .gtr y1 (Value.int .i64 20)) fun y2=>
 cnd y2
 (ret (Value.tuple #[(Value.string ⟨#[]⟩),(Value.int .i64 11)]))
 (bind (Γ Zc1 [x0]) fun y3=>
 bind (Γ WO [y3,(Value.string ⟨#[64]⟩)]) fun y4=>
 bind (Zk y4 0) fun y5=>
 bind (Zk y4 1) fun y6=>
 bind (Zk y4 2) fun y7=>
 bind (Γ ZaJ [y6,(Value.string ⟨#[46]⟩)]) fun y8=>
 bind (uop .not y7) fun y9=>
 bind (Zx y9 false 3 (bind (Γ WN [y5]) fun y10=>
 bind (uop .not y10) fun y11=>
 ret [y5,y10,y11])) (c3 fun _ _ q12_2=>
 bind (pick y9 (Value.bool true) q12_2) fun y13=>
 bind (Zx y13 false 3 (bind (ZB y8) fun y14=>
 bind (bop .int .lss y14 (Value.int .i64 2)) fun y15=>
 ret [y8,y14,y15])) (c3 fun _ _ q16_2=>
 bind (pick y13 (Value.bool true) q16_2) fun y17=>
 cnd y17
 (ret (Value.tuple #[(Value.string ⟨#[]⟩),(Value.int .i64 11)]))
 (bind (ZB y8) fun y18=>
 jn (Zh (c4 (YX.l1 Γ)) [y3,y8,y18,(Value.int .i64 0)]) noN (xk 0 (c1 fun q29_0=>
 ret (Value.tuple #[q29_0,(Value.int .i64 0)])) noX) ret))))
theorem Zqa (Γ : Zd) (x0 : Value) : ZG Tryz.prog Γ Tryz.f75 ZjS [x0]=YX Γ x0:=by kernel_rfl
theorem Zoi {prim : FuncId→Option (List Value→M Value)} (hp : prim Zaj=none) (n : Nat) (x0 : Value) : run Tryz.prog prim lvs (n+1) Zaj [x0]=YX (run Tryz.prog prim lvs n) x0:=
 (Zs hp (by kernel_rfl) Tryz.func75 (by kernel_rfl)).trans (Zqa _ x0)
noncomputable def YP (Γ : Zd) (x0 x1 x2 : Value) : M Value:=
 bind (Γ Yd [x2]) fun y1=>
 bind (bop .int .neq y1 (Value.int .i64 0)) fun y2=>
 cnd y2
 (ret y1)
 (bind (QJ x0) fun y3=>
 bind (fa 1 y3) fun y4=>
 bind (ld1 y4) fun y5=>
 bind (lkp .str (.string ⟨#[]⟩) true y5 x1) fun y6=>
 bind (Zk y6 0) fun y7=>
 bind (Zk y6 1) fun y8=>
 bind (QJ x0) fun y9=>
 bind (fa 1 y9) fun y10=>
 bind (ld1 y10) fun y11=>
 bind (lkp .str (.string ⟨#[]⟩) true y11 x2) fun y12=>
 bind (Zk y12 0) fun y13=>
 bind (Zk y12 1) fun y14=>
 bind (uop .not y8) fun y15=>
 cnd y15
 (ret (Value.int .i64 8))
 (bind (Zx y14 true 3 (bind (bop .str .neq x2 x1) fun y16=>
 ret [x2,x1,y16])) (c3 fun _ _ q17_2=>
 bind (pick y14 q17_2 (Value.bool false)) fun y18=>
 cnd y18
 (ret (Value.int .i64 9))
 (bind (Γ Jo [x0,x1]) fun y19=>
 bind (QJ x0) fun y20=>
 bind (fa 0 y20) fun y21=>
 bind (ld1 y21) fun y22=>
 bind (QJ x0) fun y23=>
 bind (fa 1 y23) fun y24=>
 bind (ld1 y24) fun y25=>
 bind (men .str (.string ⟨#[]⟩) y22 y7) fun y26=>
 bind (Zk y26 1) fun y27=>
 bind (ens y22 y27 x2) fun _=>
 bind (men .str (.string ⟨#[]⟩) y25 x2) fun y28=>
 bind (Zk y28 1) fun y29=>
 bind (ens y25 y29 y7) fun _=>
 ret (Value.int .i64 0)))))
theorem Ziv (Γ : Zd) (x0 x1 x2 : Value) : ZG Tryz.prog Γ Tryz.f76 ZdT [x0,x1,x2]=YP Γ x0 x1 x2:=by kernel_rfl
theorem ZhG {prim : FuncId→Option (List Value→M Value)} (hp : prim Kw=none) (n : Nat) (x0 x1 x2 : Value) : run Tryz.prog prim lvs (n+1) Kw [x0,x1,x2]=YP (run Tryz.prog prim lvs n) x0 x1 x2:=
 (Zs hp (by kernel_rfl) Tryz.func76 (by kernel_rfl)).trans (Ziv _ x0 x1 x2)
noncomputable def Qw.l1 (Γ : Zd) (s0 s1 s2 s26 s27 s28 : Value) : M Out:=
 bind (bop .int .lss s28 s27) fun y10=>
 cnd y10
 (bind (ixa 1 s26 s28) fun y11=>
 bind (ld1 y11) fun y12=>
 bind (QJ s0) fun y13=>
 bind (fa 0 y13) fun y14=>
 bind (ld1 y14) fun y15=>
 bind (lkp .str (.map none) false y15 y12) fun y16=>
 bind (mde .str y16 s1) fun _=>
 bind (QJ s0) fun y17=>
 bind (fa 0 y17) fun y18=>
 bind (ld1 y18) fun y19=>
 bind (lkp .str (.map none) false y19 y12) fun y20=>
 bind (bld (.agg #[]) []) fun y21=>
 bind (mup .str y20 s2 y21) fun _=>
 bind (bop .int .add s28 (Value.int .i64 1)) fun y22=>
 ret (.nrm [s0,s1,s2,s26,s27,y22]))
 (ret (.ext 0 []))
noncomputable def Qw (Γ : Zd) (x0 x1 x2 : Value) : M Value:=
 bind (bsl 1 1 (.string ⟨#[]⟩) [(0,1,x2)]) fun y1=>
 bind (Γ WU [y1]) fun y2=>
 bind (bop .int .neq y2 (Value.int .i64 0)) fun y3=>
 cnd y3
 (ret y2)
 (bind (bop .str .eql x1 x2) fun y4=>
 cnd y4
 (ret (Value.int .i64 0))
 (bind (Γ JL [x0,x2]) fun y5=>
 bind (ZB y5) fun y6=>
 bind (bop .int .gtr y6 (Value.int .i64 0)) fun y7=>
 cnd y7
 (ret (Value.int .i64 9))
 (bind (Γ JL [x0,x1]) fun y8=>
 bind (ZB y8) fun y9=>
 jn (Zh (c6 (Qw.l1 Γ)) [x0,x1,x2,y8,y9,(Value.int .i64 0)]) noN (xk 0 (c0 (ret (Value.int .i64 0))) noX) ret)))
theorem Zhe (Γ : Zd) (x0 x1 x2 : Value) : ZG Tryz.prog Γ Tryz.f77 Zdo [x0,x1,x2]=Qw Γ x0 x1 x2:=by kernel_rfl
theorem Zf1 {prim : FuncId→Option (List Value→M Value)} (hp : prim YR=none) (n : Nat) (x0 x1 x2 : Value) : run Tryz.prog prim lvs (n+1) YR [x0,x1,x2]=Qw (run Tryz.prog prim lvs n) x0 x1 x2:=
 (Zs hp (by kernel_rfl) Tryz.func77 (by kernel_rfl)).trans (Zhe _ x0 x1 x2)
noncomputable def Zbc (Γ : Zd) (x0 x1 x2 : Value) : M Value:=
 bind (Γ Qt [x1]) fun y1=>
 bind (uop .not y1) fun y2=>
 cnd y2
 (ret (Value.tuple #[x0,(Value.int .i64 10)]))
 (bind (Γ Wz [x2]) fun y3=>
 bind (uop .not y3) fun y4=>
 cnd y4
 (ret (Value.tuple #[x0,(Value.int .i64 4)]))
 (bind (Γ KW [x0,x1]) fun y5=>
 bind (bop .int .geq y5 (Value.int .i64 0)) fun y6=>
 cnd y6
 (ret (Value.tuple #[x0,(Value.int .i64 9)]))
 (bind (ZB x0) fun y7=>
 bind (bop .int .geq y7 (Value.int .i64 12)) fun y8=>
 cnd y8
 (ret (Value.tuple #[x0,(Value.int .i64 7)]))
 (bind (bld (.agg #[.string ⟨#[]⟩,.string ⟨#[]⟩,.string ⟨#[]⟩,.bool false,.slice none 0 0]) [(0,1,x1),(1,1,x2)]) fun y9=>
 bind (Γ Wr [x0,y9]) fun y10=>
 ret (Value.tuple #[y10,(Value.int .i64 0)])))))
theorem Zmf (Γ : Zd) (x0 x1 x2 : Value) : ZG Tryz.prog Γ Tryz.f78 Zgl [x0,x1,x2]=Zbc Γ x0 x1 x2:=by kernel_rfl
theorem ZlW {prim : FuncId→Option (List Value→M Value)} (hp : prim Zaa=none) (n : Nat) (x0 x1 x2 : Value) : run Tryz.prog prim lvs (n+1) Zaa [x0,x1,x2]=Zbc (run Tryz.prog prim lvs n) x0 x1 x2:=
 (Zs hp (by kernel_rfl) Tryz.func78 (by kernel_rfl)).trans (Zmf _ x0 x1 x2)
noncomputable def W8 (Γ : Zd) (x0 x1 : Value) : M Value:=
 bind (Γ Qt [x1]) fun y1=>
 bind (uop .not y1) fun y2=>
 cnd y2
 (ret (Value.tuple #[x0,(Value.int .i64 10)]))
 (bind (Γ KW [x0,x1]) fun y3=>
 bind (bop .int .lss y3 (Value.int .i64 0)) fun y4=>
 cnd y4
 (ret (Value.tuple #[x0,(Value.int .i64 8)]))
 (bind (Γ Zat [x0,x1]) fun y5=>
 ret (Value.tuple #[y5,(Value.int .i64 0)])))
theorem Zmh (Γ : Zd) (x0 x1 : Value) : ZG Tryz.prog Γ Tryz.f79 Zgm [x0,x1]=W8 Γ x0 x1:=by kernel_rfl
theorem Zk6 {prim : FuncId→Option (List Value→M Value)} (hp : prim Zab=none) (n : Nat) (x0 x1 : Value) : run Tryz.prog prim lvs (n+1) Zab [x0,x1]=W8 (run Tryz.prog prim lvs n) x0 x1:=
 (Zs hp (by kernel_rfl) Tryz.func79 (by kernel_rfl)).trans (Zmh _ x0 x1)
noncomputable def ZfY (Γ : Zd) (x0 : Value) : M Value:=
 bind (Je x0) fun y1=>
 bind (bop .int .geq y1 (Value.int .i64 1)) fun y2=>
 bind (Zx y2 true 3 (bind (Je x0) fun y3=>
 bind (bop .int .leq y3 (Value.int .i64 12)) fun y4=>
 ret [x0,y3,y4])) (c3 fun _ _ q5_2=>
 bind (pick y2 q5_2 (Value.bool false)) fun y6=>
 bind (Zx y6 true 2 (bind (Γ ZbS [x0,(Value.string ⟨#[48,49,50,51,52,53,54,55,56,57,97,98,99,100,101,102]⟩)]) fun y7=>
 ret [x0,y7])) (c2 fun _ q8_1=>
 bind (pick y6 q8_1 (Value.bool false)) fun y9=>
 ret y9))
theorem Zo0 (Γ : Zd) (x0 : Value) : ZG Tryz.prog Γ Tryz.f80 Zie [x0]=ZfY Γ x0:=by kernel_rfl
theorem ZnD {prim : FuncId→Option (List Value→M Value)} (hp : prim Wz=none) (n : Nat) (x0 : Value) : run Tryz.prog prim lvs (n+1) Wz [x0]=ZfY (run Tryz.prog prim lvs n) x0:=
 (Zs hp (by kernel_rfl) Tryz.func80 (by kernel_rfl)).trans (Zo0 _ x0)
noncomputable def Zgv (Γ : Zd) (x0 x1 : Value) : M Value:=
 bind (alc 1 x0) fun y1=>
 bind (alc 1 x1) fun y2=>
 bind (alc 1 (.agg #[.slice none 0 0,.slice none 0 0])) fun y3=>
 bind (fa 0 y1) fun y4=>
 bind (ld1 y4) fun y5=>
 bind (ldA 5 y2) fun y6=>
 bind (Γ Wr [y5,y6]) fun y7=>
 bind (fa 0 y1) fun y8=>
 bind (st1 y8 y7) fun _=>
 bind (ldA 2 y1) fun y9=>
 bind (stA 2 y3 y9) fun _=>
 bind (ldA 2 y3) fun y10=>
 ret y10
theorem ZpM (Γ : Zd) (x0 x1 : Value) : ZG Tryz.prog Γ Tryz.f81 ZjP [x0,x1]=Zgv Γ x0 x1:=by kernel_rfl
theorem Zom {prim : FuncId→Option (List Value→M Value)} (hp : prim KX=none) (n : Nat) (x0 x1 : Value) : run Tryz.prog prim lvs (n+1) KX [x0,x1]=Zgv (run Tryz.prog prim lvs n) x0 x1:=
 (Zs hp (by kernel_rfl) Tryz.func81 (by kernel_rfl)).trans (ZpM _ x0 x1)
noncomputable def Wu.l1 (Γ : Zd) (s3 s5 s6 s9 s10 s11 : Value) : M Out:=
 bind (bop .int .lss s11 s10) fun y3=>
 cnd y3
 (bind (ixa 5 s9 s11) fun y4=>
 bind (ldA 5 y4) fun y5=>
 bind (alc 1 (.agg #[.string ⟨#[]⟩,.string ⟨#[]⟩,.string ⟨#[]⟩,.bool false,.slice none 0 0])) fun y6=>
 bind (stA 5 y6 y5) fun _=>
 bind (uop .not s6) fun y7=>
 bind (Zx y7 true 5 (bind (fa 0 s3) fun y8=>
 bind (ld1 y8) fun y9=>
 bind (fa 0 y6) fun y10=>
 bind (ld1 y10) fun y11=>
 bind (bop .str .leq y9 y11) fun y12=>
 ret [y8,y9,y10,y11,y12])) (c5 fun _ _ _ _ q13_4=>
 bind (pick y7 q13_4 (Value.bool false)) fun y14=>
 jn (cnd y14
 (bind (ldA 5 s3) fun y15=>
 bind (bsl 5 1 (.agg #[.string ⟨#[]⟩,.string ⟨#[]⟩,.string ⟨#[]⟩,.bool false,.slice none 0 0]) [(0,5,y15)]) fun y16=>
 bind (app 5 80 s5 y16) fun y17=>
 ret (.nrm [s3,y17,(Value.bool true),y6,s9,s10,s11]))
 (ret (.nrm [s3,s5,s6,y6,s9,s10,s11]))) (c7 fun q18_0 q18_1 q18_2 q18_3 q18_4 q18_5 q18_6=>
 bind (fa 0 q18_3) fun y19=>
 bind (ld1 y19) fun y20=>
 bind (fa 0 q18_0) fun y21=>
 bind (ld1 y21) fun y22=>
 bind (bop .str .neq y20 y22) fun y23=>
 jn (cnd y23
 (bind (ldA 5 q18_3) fun y24=>
 bind (bsl 5 1 (.agg #[.string ⟨#[]⟩,.string ⟨#[]⟩,.string ⟨#[]⟩,.bool false,.slice none 0 0]) [(0,5,y24)]) fun y25=>
 bind (app 5 80 q18_1 y25) fun y26=>
 ret (.nrm [q18_0,y26,q18_2,q18_4,q18_5,q18_6]))
 (ret (.nrm [q18_0,q18_1,q18_2,q18_4,q18_5,q18_6]))) (c6 fun q27_0 q27_1 q27_2 q27_3 q27_4 q27_5=>
 bind (bop .int .add q27_5 (Value.int .i64 1)) fun y28=>
 ret (.nrm [q27_0,q27_1,q27_2,q27_3,q27_4,y28])) noX ZP) noX ZP))
 (ret (.ext 0 [s3,s5,s6]))
noncomputable def Wu (Γ : Zd) (x0 x1 : Value) : M Value:=
 bind (alc 1 x1) fun y1=>
 bind (ZB x0) fun y2=>
 jn (Zh (c6 (Wu.l1 Γ)) [y1,(Value.slice none 0 0),(Value.bool false),x0,y2,(Value.int .i64 0)]) noN (xk 0 (c3 fun q32_0 q32_1 q32_2=>
 bind (uop .not q32_2) fun y33=>
 jn (cnd y33
 (bind (ldA 5 q32_0) fun y34=>
 bind (bsl 5 1 (.agg #[.string ⟨#[]⟩,.string ⟨#[]⟩,.string ⟨#[]⟩,.bool false,.slice none 0 0]) [(0,5,y34)]) fun y35=>
 bind (app 5 80 q32_1 y35) fun y36=>
 ret (.nrm [y36]))
 (ret (.nrm [q32_1]))) (c1 fun q37_0=>
 ret q37_0) noX ret) noX) ret
theorem Zp9 (Γ : Zd) (x0 x1 : Value) : ZG Tryz.prog Γ Tryz.f82 Zj3 [x0,x1]=Wu Γ x0 x1:=by kernel_rfl
theorem Zn5 {prim : FuncId→Option (List Value→M Value)} (hp : prim Wr=none) (n : Nat) (x0 x1 : Value) : run Tryz.prog prim lvs (n+1) Wr [x0,x1]=Wu (run Tryz.prog prim lvs n) x0 x1:=
 (Zs hp (by kernel_rfl) Tryz.func82 (by kernel_rfl)).trans (Zp9 _ x0 x1)
noncomputable def Kj.l1 (Γ : Zd) (s1 s5 s8 s9 s10 : Value) : M Out:=
 bind (bop .int .lss s10 s9) fun y2=>
 cnd y2
 (bind (ixa 5 s8 s10) fun y3=>
 bind (ldA 5 y3) fun y4=>
 bind (alc 1 (.agg #[.string ⟨#[]⟩,.string ⟨#[]⟩,.string ⟨#[]⟩,.bool false,.slice none 0 0])) fun y5=>
 bind (stA 5 y5 y4) fun _=>
 bind (fa 0 y5) fun y6=>
 bind (ld1 y6) fun y7=>
 bind (bop .str .neq y7 s1) fun y8=>
 jn (cnd y8
 (bind (ldA 5 y5) fun y9=>
 bind (bsl 5 1 (.agg #[.string ⟨#[]⟩,.string ⟨#[]⟩,.string ⟨#[]⟩,.bool false,.slice none 0 0]) [(0,5,y9)]) fun y10=>
 bind (app 5 80 s5 y10) fun y11=>
 ret (.nrm [s1,y11,s8,s9,s10]))
 (ret (.nrm [s1,s5,s8,s9,s10]))) (c5 fun q12_0 q12_1 q12_2 q12_3 q12_4=>
 bind (bop .int .add q12_4 (Value.int .i64 1)) fun y13=>
 ret (.nrm [q12_0,q12_1,q12_2,q12_3,y13])) noX ZP)
 (ret (.ext 0 [s5]))
noncomputable def Kj (Γ : Zd) (x0 x1 : Value) : M Value:=
 bind (ZB x0) fun y1=>
 jn (Zh (c5 (Kj.l1 Γ)) [x1,(Value.slice none 0 0),x0,y1,(Value.int .i64 0)]) noN (xk 0 (c1 fun q16_0=>
 ret q16_0) noX) ret
theorem ZoI (Γ : Zd) (x0 x1 : Value) : ZG Tryz.prog Γ Tryz.f83 ZhM [x0,x1]=Kj Γ x0 x1:=by kernel_rfl
theorem ZnA {prim : FuncId→Option (List Value→M Value)} (hp : prim Zat=none) (n : Nat) (x0 x1 : Value) : run Tryz.prog prim lvs (n+1) Zat [x0,x1]=Kj (run Tryz.prog prim lvs n) x0 x1:=
 (Zs hp (by kernel_rfl) Tryz.func83 (by kernel_rfl)).trans (ZoI _ x0 x1)
noncomputable def Zar (Γ : Zd) (x0 x1 : Value) : M Value:=
 bind (alc 1 x0) fun y1=>
 bind (alc 1 (.agg #[.slice none 0 0,.slice none 0 0])) fun y2=>
 bind (Γ Qt [x1]) fun y3=>
 bind (uop .not y3) fun y4=>
 cnd y4
 (bind (ldA 2 y1) fun y5=>
 bind (stA 2 y2 y5) fun _=>
 bind (ldA 2 y2) fun y6=>
 ret (Value.tuple #[y6,(Value.int .i64 10)]))
 (bind (fa 0 y1) fun y7=>
 bind (ld1 y7) fun y8=>
 bind (Γ Ws [y8,x1]) fun y9=>
 cnd y9
 (bind (ldA 2 y1) fun y10=>
 bind (stA 2 y2 y10) fun _=>
 bind (ldA 2 y2) fun y11=>
 ret (Value.tuple #[y11,(Value.int .i64 9)]))
 (bind (fa 0 y1) fun y12=>
 bind (ld1 y12) fun y13=>
 bind (ZB y13) fun y14=>
 bind (bop .int .geq y14 (Value.int .i64 6)) fun y15=>
 cnd y15
 (bind (ldA 2 y1) fun y16=>
 bind (stA 2 y2 y16) fun _=>
 bind (ldA 2 y2) fun y17=>
 ret (Value.tuple #[y17,(Value.int .i64 7)]))
 (bind (bsl 1 0 (.string ⟨#[]⟩) []) fun y18=>
 bind (fa 0 y1) fun y19=>
 bind (ld1 y19) fun y20=>
 bind (app 1 16 y18 y20) fun y21=>
 bind (bsl 1 1 (.string ⟨#[]⟩) [(0,1,x1)]) fun y22=>
 bind (app 1 16 y21 y22) fun y23=>
 bind (Γ Wa [y23]) fun y24=>
 bind (fa 0 y1) fun y25=>
 bind (st1 y25 y24) fun _=>
 bind (ldA 2 y1) fun y26=>
 bind (stA 2 y2 y26) fun _=>
 bind (ldA 2 y2) fun y27=>
 ret (Value.tuple #[y27,(Value.int .i64 0)]))))
theorem ZoT (Γ : Zd) (x0 x1 : Value) : ZG Tryz.prog Γ Tryz.f84 ZhK [x0,x1]=Zar Γ x0 x1:=by kernel_rfl
theorem Znq {prim : FuncId→Option (List Value→M Value)} (hp : prim Zci=none) (n : Nat) (x0 x1 : Value) : run Tryz.prog prim lvs (n+1) Zci [x0,x1]=Zar (run Tryz.prog prim lvs n) x0 x1:=
 (Zs hp (by kernel_rfl) Tryz.func84 (by kernel_rfl)).trans (ZoT _ x0 x1)
noncomputable def Q1.l1 (Γ : Zd) (s1 s2 s4 s6 s23 s24 s25 : Value) : M Out:=
 bind (bop .int .lss s25 s24) fun y16=>
 cnd y16
 (bind (ixa 1 s23 s25) fun y17=>
 bind (ld1 y17) fun y18=>
 bind (bop .str .neq y18 s1) fun y19=>
 jn (cnd y19
 (bind (bsl 1 1 (.string ⟨#[]⟩) [(0,1,y18)]) fun y20=>
 bind (app 1 16 s6 y20) fun y21=>
 ret (.nrm [s1,s2,s4,y21,s23,s24,s25]))
 (ret (.nrm [s1,s2,s4,s6,s23,s24,s25]))) (c7 fun q22_0 q22_1 q22_2 q22_3 q22_4 q22_5 q22_6=>
 bind (bop .int .add q22_6 (Value.int .i64 1)) fun y23=>
 ret (.nrm [q22_0,q22_1,q22_2,q22_3,q22_4,q22_5,y23])) noX ZP)
 (ret (.ext 0 [s1,s2,s4,s6]))
noncomputable def Q1.l2 (Γ : Zd) (s1 s4 s6 s9 s38 s39 s40 : Value) : M Out:=
 bind (bop .int .lss s40 s39) fun y30=>
 cnd y30
 (bind (ixa 2 s38 s40) fun y31=>
 bind (ldA 2 y31) fun y32=>
 bind (alc 1 (.agg #[.string ⟨#[]⟩,.string ⟨#[]⟩])) fun y33=>
 bind (stA 2 y33 y32) fun _=>
 bind (fa 0 y33) fun y34=>
 bind (ld1 y34) fun y35=>
 bind (bop .str .neq y35 s1) fun y36=>
 jn (cnd y36
 (bind (ldA 2 y33) fun y37=>
 bind (bsl 2 1 (.agg #[.string ⟨#[]⟩,.string ⟨#[]⟩]) [(0,2,y37)]) fun y38=>
 bind (app 2 32 s9 y38) fun y39=>
 ret (.nrm [s1,s4,s6,y39,s38,s39,s40]))
 (ret (.nrm [s1,s4,s6,s9,s38,s39,s40]))) (c7 fun q40_0 q40_1 q40_2 q40_3 q40_4 q40_5 q40_6=>
 bind (bop .int .add q40_6 (Value.int .i64 1)) fun y41=>
 ret (.nrm [q40_0,q40_1,q40_2,q40_3,q40_4,q40_5,y41])) noX ZP)
 (ret (.ext 2 [s4,s6,s9]))
noncomputable def Q1 (Γ : Zd) (x0 x1 : Value) : M Value:=
 bind (alc 1 x0) fun y1=>
 bind (alc 1 (.agg #[.slice none 0 0,.slice none 0 0])) fun y2=>
 bind (Γ Qt [x1]) fun y3=>
 bind (uop .not y3) fun y4=>
 cnd y4
 (bind (ldA 2 y1) fun y5=>
 bind (stA 2 y2 y5) fun _=>
 bind (ldA 2 y2) fun y6=>
 ret (Value.tuple #[y6,(Value.int .i64 10)]))
 (bind (fa 0 y1) fun y7=>
 bind (ld1 y7) fun y8=>
 bind (Γ Ws [y8,x1]) fun y9=>
 bind (uop .not y9) fun y10=>
 cnd y10
 (bind (ldA 2 y1) fun y11=>
 bind (stA 2 y2 y11) fun _=>
 bind (ldA 2 y2) fun y12=>
 ret (Value.tuple #[y12,(Value.int .i64 8)]))
 (bind (fa 0 y1) fun y13=>
 bind (ld1 y13) fun y14=>
 bind (ZB y14) fun y15=>
 jn (Zh (c7 (Q1.l1 Γ)) [x1,y1,y2,(Value.slice none 0 0),y14,y15,(Value.int .i64 0)]) noN (xk 0 (c4 fun q26_0 q26_1 q26_2 q26_3=>
 bind (fa 1 q26_1) fun y27=>
 bind (ld1 y27) fun y28=>
 bind (ZB y28) fun y29=>
 jn (Zh (c7 (Q1.l2 Γ)) [q26_0,q26_2,q26_3,(Value.slice none 0 0),y28,y29,(Value.int .i64 0)]) noN (xk 2 (c3 fun q44_0 q44_1 q44_2=>
 bind (bld (.agg #[.slice none 0 0,.slice none 0 0]) [(0,1,q44_1),(1,1,q44_2)]) fun y45=>
 bind (stA 2 q44_0 y45) fun _=>
 bind (ldA 2 q44_0) fun y46=>
 ret (Value.tuple #[y46,(Value.int .i64 0)])) noX) ret) noX) ret))
theorem Zo9 (Γ : Zd) (x0 x1 : Value) : ZG Tryz.prog Γ Tryz.f85 ZiN [x0,x1]=Q1 Γ x0 x1:=by kernel_rfl
theorem Znn {prim : FuncId→Option (List Value→M Value)} (hp : prim Zcg=none) (n : Nat) (x0 x1 : Value) : run Tryz.prog prim lvs (n+1) Zcg [x0,x1]=Q1 (run Tryz.prog prim lvs n) x0 x1:=
 (Zs hp (by kernel_rfl) Tryz.func85 (by kernel_rfl)).trans (Zo9 _ x0 x1)
noncomputable def Yh.l1 (Γ : Zd) (s1 s5 s8 s9 s10 : Value) : M Out:=
 bind (bop .int .lss s10 s9) fun y2=>
 cnd y2
 (bind (ixa 1 s8 s10) fun y3=>
 bind (ld1 y3) fun y4=>
 bind (bop .str .neq y4 s1) fun y5=>
 jn (cnd y5
 (bind (bsl 1 1 (.string ⟨#[]⟩) [(0,1,y4)]) fun y6=>
 bind (app 1 16 s5 y6) fun y7=>
 ret (.nrm [s1,y7,s8,s9,s10]))
 (ret (.nrm [s1,s5,s8,s9,s10]))) (c5 fun q8_0 q8_1 q8_2 q8_3 q8_4=>
 bind (bop .int .add q8_4 (Value.int .i64 1)) fun y9=>
 ret (.nrm [q8_0,q8_1,q8_2,q8_3,y9])) noX ZP)
 (ret (.ext 0 [s5]))
noncomputable def Yh (Γ : Zd) (x0 x1 : Value) : M Value:=
 bind (ZB x0) fun y1=>
 jn (Zh (c5 (Yh.l1 Γ)) [x1,(Value.slice none 0 0),x0,y1,(Value.int .i64 0)]) noN (xk 0 (c1 fun q12_0=>
 ret q12_0) noX) ret
theorem Zl1 (Γ : Zd) (x0 x1 : Value) : ZG Tryz.prog Γ Tryz.f86 ZfA [x0,x1]=Yh Γ x0 x1:=by kernel_rfl
theorem Zkw {prim : FuncId→Option (List Value→M Value)} (hp : prim WF=none) (n : Nat) (x0 x1 : Value) : run Tryz.prog prim lvs (n+1) WF [x0,x1]=Yh (run Tryz.prog prim lvs n) x0 x1:=
 (Zs hp (by kernel_rfl) Tryz.func86 (by kernel_rfl)).trans (Zl1 _ x0 x1)
noncomputable def We (Γ : Zd) (x0 x1 : Value) : M Value:=
 bind (Γ J5 [x0,x1,(Value.slice none 0 0)]) fun y1=>
 bind (Zk y1 0) fun y2=>
 bind (Zk y1 1) fun y3=>
 bind (bop .int .eql y3 (Value.int .i64 0)) fun y4=>
 jn (cnd y4
 (bind (QJ x0) fun y5=>
 bind (fa 0 y5) fun y6=>
 bind (ld1 y6) fun y7=>
 bind (mde .str y7 x1) fun _=>
 ret (.nrm [y3]))
 (ret (.nrm [y3]))) (c1 fun q8_0=>
 ret q8_0) noX ret
theorem Zin (Γ : Zd) (x0 x1 : Value) : ZG Tryz.prog Γ Tryz.f87 ZdS [x0,x1]=We Γ x0 x1:=by kernel_rfl
theorem ZhH {prim : FuncId→Option (List Value→M Value)} (hp : prim Kv=none) (n : Nat) (x0 x1 : Value) : run Tryz.prog prim lvs (n+1) Kv [x0,x1]=We (run Tryz.prog prim lvs n) x0 x1:=
 (Zs hp (by kernel_rfl) Tryz.func87 (by kernel_rfl)).trans (Zin _ x0 x1)
noncomputable def Zel (Γ : Zd) (x0 x1 x2 : Value) : M Value:=
 bind (alc 1 x0) fun y1=>
 bind (alc 1 (.agg #[.string ⟨#[]⟩,.string ⟨#[]⟩,.string ⟨#[]⟩,.bool false,.slice none 0 0])) fun y2=>
 bind (ldA 2 y1) fun y3=>
 bind (Γ JT [y3,x2]) fun y4=>
 bind (Zk y4 0) fun y5=>
 bind (Zk y4 1) fun y6=>
 bind (alc 1 (.agg #[.string ⟨#[]⟩,.string ⟨#[]⟩,.string ⟨#[]⟩,.bool false,.slice none 0 0])) fun y7=>
 bind (stA 5 y7 y5) fun _=>
 bind (bop .int .eql y6 (Value.int .i64 10)) fun y8=>
 bind (Zx y8 false 3 (bind (Γ Qt [x1]) fun y9=>
 bind (uop .not y9) fun y10=>
 ret [x1,y9,y10])) (c3 fun _ _ q11_2=>
 bind (pick y8 (Value.bool true) q11_2) fun y12=>
 cnd y12
 (bind (ldA 5 y7) fun y13=>
 bind (stA 5 y2 y13) fun _=>
 bind (ldA 5 y2) fun y14=>
 ret (Value.tuple #[y14,(Value.int .i64 10)]))
 (bind (bop .int .neq y6 (Value.int .i64 0)) fun y15=>
 bind (Zx y15 false 5 (bind (fa 1 y1) fun y16=>
 bind (ld1 y16) fun y17=>
 bind (Γ YI [y17,x1]) fun y18=>
 bind (uop .not y18) fun y19=>
 ret [y16,y17,x1,y18,y19])) (c5 fun _ _ _ _ q20_4=>
 bind (pick y15 (Value.bool true) q20_4) fun y21=>
 cnd y21
 (bind (ldA 5 y7) fun y22=>
 bind (stA 5 y2 y22) fun _=>
 bind (ldA 5 y2) fun y23=>
 ret (Value.tuple #[y23,(Value.int .i64 8)]))
 (bind (ldA 5 y7) fun y24=>
 bind (stA 5 y2 y24) fun _=>
 bind (ldA 5 y2) fun y25=>
 ret (Value.tuple #[y25,(Value.int .i64 0)])))))
theorem Zl8 (Γ : Zd) (x0 x1 x2 : Value) : ZG Tryz.prog Γ Tryz.f88 Zgs [x0,x1,x2]=Zel Γ x0 x1 x2:=by kernel_rfl
theorem ZlG {prim : FuncId→Option (List Value→M Value)} (hp : prim Zac=none) (n : Nat) (x0 x1 x2 : Value) : run Tryz.prog prim lvs (n+1) Zac [x0,x1,x2]=Zel (run Tryz.prog prim lvs n) x0 x1 x2:=
 (Zs hp (by kernel_rfl) Tryz.func88 (by kernel_rfl)).trans (Zl8 _ x0 x1 x2)
noncomputable def Q3.l2 (Γ : Zd) (s5 s6 s7 s10 s11 s12 s19 s20 s21 : Value) : M Out:=
 bind (bop .int .lss s21 s20) fun y7=>
 cnd y7
 (bind (ixa 1 s19 s21) fun y8=>
 bind (ld1 y8) fun y9=>
 bind (uop .not s7) fun y10=>
 bind (Zx y10 true 3 (bind (bop .str .lss s5 y9) fun y11=>
 ret [s5,y9,y11])) (c3 fun _ _ q12_2=>
 bind (pick y10 q12_2 (Value.bool false)) fun y13=>
 jn (cnd y13
 (bind (bsl 1 1 (.string ⟨#[]⟩) [(0,1,s5)]) fun y14=>
 bind (app 1 16 s6 y14) fun y15=>
 ret (.nrm [s5,y15,(Value.bool true),y9,s10,s11,s12,s19,s20,s21]))
 (ret (.nrm [s5,s6,s7,y9,s10,s11,s12,s19,s20,s21]))) (c10 fun q16_0 q16_1 q16_2 q16_3 q16_4 q16_5 q16_6 q16_7 q16_8 q16_9=>
 bind (bsl 1 1 (.string ⟨#[]⟩) [(0,1,q16_3)]) fun y17=>
 bind (app 1 16 q16_1 y17) fun y18=>
 bind (bop .int .add q16_9 (Value.int .i64 1)) fun y19=>
 ret (.nrm [q16_0,y18,q16_2,q16_4,q16_5,q16_6,q16_7,q16_8,y19])) noX ZP))
 (ret (.ext 2 [s5,s6,s7,s10,s11,s12]))
noncomputable def Q3.l1 (Γ : Zd) (s3 s10 s11 s12 : Value) : M Out:=
 bind (bop .int .lss s12 s11) fun y2=>
 cnd y2
 (jn (bind (ixa 1 s10 s12) fun y3=>
 bind (ld1 y3) fun y4=>
 bind (Γ Ws [s3,y4]) fun y5=>
 cnd y5
 (ret (.nrm [s3,s10,s11,s12]))
 (bind (ZB s3) fun y6=>
 jn (Zh (c9 (Q3.l2 Γ)) [y4,(Value.slice none 0 0),(Value.bool false),s10,s11,s12,s3,y6,(Value.int .i64 0)]) noN (xk 2 (c6 fun q22_0 q22_1 q22_2 q22_3 q22_4 q22_5=>
 bind (uop .not q22_2) fun y23=>
 jn (cnd y23
 (bind (bsl 1 1 (.string ⟨#[]⟩) [(0,1,q22_0)]) fun y24=>
 bind (app 1 16 q22_1 y24) fun y25=>
 ret (.nrm [y25,q22_3,q22_4,q22_5]))
 (ret (.nrm [q22_1,q22_3,q22_4,q22_5]))) (c4 fun q26_0 q26_1 q26_2 q26_3=>
 ret (.nrm [q26_0,q26_1,q26_2,q26_3])) noX ZP) noX) ZP)) (c4 fun q29_0 q29_1 q29_2 q29_3=>
 bind (bop .int .add q29_3 (Value.int .i64 1)) fun y30=>
 ret (.nrm [q29_0,q29_1,q29_2,y30])) noX ZP)
 (ret (.ext 0 [s3]))
noncomputable def Q3 (Γ : Zd) (x0 : Value) : M Value:=
 bind (ZB x0) fun y1=>
 jn (Zh (c4 (Q3.l1 Γ)) [(Value.slice none 0 0),x0,y1,(Value.int .i64 0)]) noN (xk 0 (c1 fun q33_0=>
 ret q33_0) noX) ret
theorem ZmE (Γ : Zd) (x0 : Value) : ZG Tryz.prog Γ Tryz.f89 Zga [x0]=Q3 Γ x0:=by kernel_rfl
theorem Zl0 {prim : FuncId→Option (List Value→M Value)} (hp : prim Wa=none) (n : Nat) (x0 : Value) : run Tryz.prog prim lvs (n+1) Wa [x0]=Q3 (run Tryz.prog prim lvs n) x0:=
 (Zs hp (by kernel_rfl) Tryz.func89 (by kernel_rfl)).trans (ZmE _ x0)
noncomputable def WZ (Γ : Zd) (x0 x1 x2 : Value) : M Value:=
 bind (Γ Yd [x1]) fun y1=>
 bind (bop .int .neq y1 (Value.int .i64 0)) fun y2=>
 cnd y2
 (ret y1)
 (bind (Γ Qs [x0,x2]) fun y3=>
 bind (Zk y3 0) fun y4=>
 bind (Zk y3 1) fun y5=>
 bind (alc 1 (.agg #[.string ⟨#[]⟩,.bool false])) fun y6=>
 bind (stA 2 y6 y4) fun _=>
 ret y5)
theorem Zjx (Γ : Zd) (x0 x1 x2 : Value) : ZG Tryz.prog Γ Tryz.f90 Zen [x0,x1,x2]=WZ Γ x0 x1 x2:=by kernel_rfl
theorem Ziy {prim : FuncId→Option (List Value→M Value)} (hp : prim KN=none) (n : Nat) (x0 x1 x2 : Value) : run Tryz.prog prim lvs (n+1) KN [x0,x1,x2]=WZ (run Tryz.prog prim lvs n) x0 x1 x2:=
 (Zs hp (by kernel_rfl) Tryz.func90 (by kernel_rfl)).trans (Zjx _ x0 x1 x2)
noncomputable def Kc (Γ : Zd) (x0 x1 x2 : Value) : M Value:=
 bind (bsl 1 1 (.string ⟨#[]⟩) [(0,1,x2)]) fun y1=>
 bind (Γ J5 [x0,x1,y1]) fun y2=>
 bind (Zk y2 0) fun y3=>
 bind (Zk y2 1) fun y4=>
 bind (bop .int .neq y4 (Value.int .i64 0)) fun y5=>
 cnd y5
 (ret y4)
 (bind (lkp .str (.agg #[]) true y3 x2) fun y6=>
 bind (Zk y6 0) fun y7=>
 bind (Zk y6 1) fun y8=>
 bind (alc 1 (.agg #[])) fun y9=>
 bind (stA 0 y9 y7) fun _=>
 bind (uop .not y8) fun y10=>
 cnd y10
 (ret (Value.int .i64 12))
 (bind (mde .str y3 x2) fun _=>
 ret (Value.int .i64 0)))
theorem ZhB (Γ : Zd) (x0 x1 x2 : Value) : ZG Tryz.prog Γ Tryz.f91 Zdt [x0,x1,x2]=Kc Γ x0 x1 x2:=by kernel_rfl
theorem ZgX {prim : FuncId→Option (List Value→M Value)} (hp : prim Kb=none) (n : Nat) (x0 x1 x2 : Value) : run Tryz.prog prim lvs (n+1) Kb [x0,x1,x2]=Kc (run Tryz.prog prim lvs n) x0 x1 x2:=
 (Zs hp (by kernel_rfl) Tryz.func91 (by kernel_rfl)).trans (ZhB _ x0 x1 x2)
noncomputable def Zc0 (Γ : Zd) (x0 : Value) : M Value:=
 bind (QJ x0) fun y1=>
 bind (fa 0 y1) fun y2=>
 bind (ld1 y2) fun y3=>
 bind (QJ x0) fun y4=>
 bind (fa 1 y4) fun y5=>
 bind (ld1 y5) fun y6=>
 bind (Γ Qi [y3]) fun y7=>
 bind (ld1 y5) fun u_8=>same u_8 y6 <|
 bind (Γ Qi [y6]) fun y9=>
 bind (bld (.agg #[.map none,.map none]) [(0,1,y7),(1,1,y9)]) fun y10=>
 bind (alc 1 y10) fun y11=>
 ret y11
theorem ZkA (Γ : Zd) (x0 : Value) : ZG Tryz.prog Γ Tryz.f93 ZeW [x0]=Zc0 Γ x0:=by kernel_rfl
theorem Zjf {prim : FuncId→Option (List Value→M Value)} (hp : prim Zai=none) (n : Nat) (x0 : Value) : run Tryz.prog prim lvs (n+1) Zai [x0]=Zc0 (run Tryz.prog prim lvs n) x0:=
 (Zs hp (by kernel_rfl) Tryz.func93 (by kernel_rfl)).trans (ZkA _ x0)
noncomputable def Jm (Γ : Zd) (x0 : Value) : M Value:=
 bind (alc 1 x0) fun y1=>
 ret (Value.func (.func 129) #[] #[y1])
theorem Wl (Γ : Zd) (x0 : Value) : ZG Tryz.prog Γ Tryz.f96 Yo [x0]=Jm Γ x0:=by kernel_rfl
theorem Wh {prim : FuncId→Option (List Value→M Value)} (hp : prim Qz=none) (n : Nat) (x0 : Value) : run Tryz.prog prim lvs (n+1) Qz [x0]=Jm (run Tryz.prog prim lvs n) x0:=
 (Zs hp (by kernel_rfl) Tryz.func96 (by kernel_rfl)).trans (Wl _ x0)
noncomputable def ZgJ (Γ : Zd) (x0 : Value) : M Value:=
 bind (Γ WN [x0]) fun y1=>
 bind (uop .not y1) fun y2=>
 cnd y2
 (ret (Value.int .i64 10))
 (ret (Value.int .i64 0))
theorem Zp1 (Γ : Zd) (x0 : Value) : ZG Tryz.prog Γ Tryz.f98 ZjI [x0]=ZgJ Γ x0:=by kernel_rfl
theorem Zox {prim : FuncId→Option (List Value→M Value)} (hp : prim Yd=none) (n : Nat) (x0 : Value) : run Tryz.prog prim lvs (n+1) Yd [x0]=ZgJ (run Tryz.prog prim lvs n) x0:=
 (Zs hp (by kernel_rfl) Tryz.func98 (by kernel_rfl)).trans (Zp1 _ x0)
noncomputable def Zcr (Γ : Zd) (x0 : Value) : M Value:=
 bind (QJ x0) fun y1=>
 bind (fa 0 y1) fun y2=>
 bind (ld1 y2) fun y3=>
 bind (Γ K8 [y3]) fun y4=>
 ret y4
theorem Zjr (Γ : Zd) (x0 : Value) : ZG Tryz.prog Γ Tryz.f99 Zet [x0]=Zcr Γ x0:=by kernel_rfl
theorem ZhO {prim : FuncId→Option (List Value→M Value)} (hp : prim WX=none) (n : Nat) (x0 : Value) : run Tryz.prog prim lvs (n+1) WX [x0]=Zcr (run Tryz.prog prim lvs n) x0:=
 (Zs hp (by kernel_rfl) Tryz.func99 (by kernel_rfl)).trans (Zjr _ x0)
noncomputable def Zcp (Γ : Zd) (x0 x1 x2 : Value) : M Value:=
 bind (ld1 x1) fun y1=>
 bind (QJ y1) fun y2=>
 bind (fa 0 y2) fun y3=>
 bind (ld1 y3) fun y4=>
 bind (lkp .str (.map none) false y4 x0) fun y5=>
 bind (ld1 x2) fun y6=>
 bind (lkp .str (.agg #[]) true y5 y6) fun y7=>
 bind (Zk y7 0) fun y8=>
 bind (Zk y7 1) fun y9=>
 bind (alc 1 (.agg #[])) fun y10=>
 bind (lkp .str (.agg #[]) true y5 y6) fun u_11=>same u_11 y7 <|
 bind (ld1 x2) fun u_12=>same u_12 y6 <|
 bind (lkp .str (.map none) false y4 x0) fun u_13=>same u_13 y5 <|
 bind (ld1 y3) fun u_14=>same u_14 y4 <|
 bind (ld1 x1) fun u_15=>same u_15 y1 <|
 bind (stA 0 y10 y8) fun _=>
 bind (uop .not y9) fun y16=>
 ret y16
theorem Zje (Γ : Zd) (x0 x1 x2 : Value) : ZG Tryz.prog Γ Tryz.f100 Zer [x0,x1,x2]=Zcp Γ x0 x1 x2:=by kernel_rfl
theorem Zij {prim : FuncId→Option (List Value→M Value)} (hp : prim Y9=none) (n : Nat) (x0 x1 x2 : Value) : run Tryz.prog prim lvs (n+1) Y9 [x0,x1,x2]=Zcp (run Tryz.prog prim lvs n) x0 x1 x2:=
 (Zs hp (by kernel_rfl) Tryz.func100 (by kernel_rfl)).trans (Zje _ x0 x1 x2)
noncomputable def Zbh (Γ : Zd) (x0 : Value) : M Value:=
 bind (Γ YT [x0]) fun y1=>
 bind (Zx y1 false 3 (bind (bop .int .geq x0 (Value.int .u8 97)) fun y2=>
 ret [x0,y2,y2])) (c3 fun _ _ q3_2=>
 bind (Zx q3_2 true 2 (bind (bop .int .leq x0 (Value.int .u8 102)) fun y4=>
 ret [x0,y4])) (c2 fun _ q5_1=>
 bind (Zx y1 false 1 (bind (pick q3_2 q5_1 (Value.bool false)) fun y6=>
 ret [y6])) (c1 fun q7_0=>
 bind (pick y1 (Value.bool true) q7_0) fun y8=>
 ret y8)))
theorem Zo1 (Γ : Zd) (x0 : Value) : ZG Tryz.prog Γ Tryz.f101 Zh6 [x0]=Zbh Γ x0:=by kernel_rfl
theorem ZnC {prim : FuncId→Option (List Value→M Value)} (hp : prim Zch=none) (n : Nat) (x0 : Value) : run Tryz.prog prim lvs (n+1) Zch [x0]=Zbh (run Tryz.prog prim lvs n) x0:=
 (Zs hp (by kernel_rfl) Tryz.func101 (by kernel_rfl)).trans (Zo1 _ x0)
noncomputable def Zcb (Γ : Zd) (x0 : Value) : M Value:=
 bind (bop .int .geq x0 (Value.int .u8 48)) fun y1=>
 bind (Zx y1 true 2 (bind (bop .int .leq x0 (Value.int .u8 57)) fun y2=>
 ret [x0,y2])) (c2 fun _ q3_1=>
 bind (pick y1 q3_1 (Value.bool false)) fun y4=>
 ret y4)
theorem Zpl (Γ : Zd) (x0 : Value) : ZG Tryz.prog Γ Tryz.f102 ZiW [x0]=Zcb Γ x0:=by kernel_rfl
theorem Znv {prim : FuncId→Option (List Value→M Value)} (hp : prim YT=none) (n : Nat) (x0 : Value) : run Tryz.prog prim lvs (n+1) YT [x0]=Zcb (run Tryz.prog prim lvs n) x0:=
 (Zs hp (by kernel_rfl) Tryz.func102 (by kernel_rfl)).trans (Zpl _ x0)
noncomputable def WC.l1 (Γ : Zd) (s0 s1 s7 s8 : Value) : M Out:=
 bind (bop .int .lss s8 s7) fun y2=>
 cnd y2
 (bind (ixs s0 s8) fun y3=>
 bind (JQ Γ s1 [y3]) fun y4=>
 bind (uop .not y4) fun y5=>
 cnd y5
 (ret (.ret (Value.bool false)))
 (bind (bop .int .add s8 (Value.int .i64 1)) fun y6=>
 ret (.nrm [s0,s1,s7,y6])))
 (ret (.ext 0 []))
noncomputable def WC (Γ : Zd) (x0 x1 : Value) : M Value:=
 bind (Je x0) fun y1=>
 jn (Zh (c4 (WC.l1 Γ)) [x0,x1,y1,(Value.int .i64 0)]) noN (xk 0 (c0 (ret (Value.bool true))) noX) ret
theorem ZqY (Γ : Zd) (x0 x1 : Value) : ZG Tryz.prog Γ Tryz.f103 ZlO [x0,x1]=WC Γ x0 x1:=by kernel_rfl
theorem Zqb {prim : FuncId→Option (List Value→M Value)} (hp : prim KB=none) (n : Nat) (x0 x1 : Value) : run Tryz.prog prim lvs (n+1) KB [x0,x1]=WC (run Tryz.prog prim lvs n) x0 x1:=
 (Zs hp (by kernel_rfl) Tryz.func103 (by kernel_rfl)).trans (ZqY _ x0 x1)
noncomputable def ZjH.l1 (Γ : Zd) (s0 s1 s5 : Value) : M Out:=
 bind (ZB s0) fun y1=>
 bind (bop .int .lss s5 y1) fun y2=>
 cnd y2
 (bind (bop .int .sub s5 (Value.int .i64 1)) fun y3=>
 bind (ixa 1 s0 y3) fun y4=>
 bind (ld1 y4) fun y5=>
 bind (ixa 1 s0 s5) fun y6=>
 bind (ld1 y6) fun y7=>
 bind (Γ KE [y5,y7]) fun y8=>
 bind (bop .int .geq y8 (Value.int .i64 0)) fun y9=>
 cnd y9
 (ret (.ret (Value.int .i64 9)))
 (bind (bop .int .add s5 (Value.int .i64 1)) fun y10=>
 ret (.nrm [s0,s1,y10])))
 (ret (.ext 0 [s0,s1]))
noncomputable def ZjH (Γ : Zd) (x0 x1 : Value) : M Value:=
 jn (Zh (c3 (ZjH.l1 Γ)) [x0,x1,(Value.int .i64 1)]) noN (xk 0 (c2 fun q12_0 q12_1=>
 bind (ZB q12_0) fun y13=>
 bind (bop .int .gtr y13 q12_1) fun y14=>
 cnd y14
 (ret (Value.int .i64 7))
 (ret (Value.int .i64 0))) noX) ret
noncomputable def Zb7 (Γ : Zd) (x0 x1 x2 : Value) : M Value:=
 bind (bsl 1 1 (.string ⟨#[]⟩) [(0,1,x1)]) fun y1=>
 bind (app 1 16 y1 x2) fun y2=>
 bind (Γ WU [y2]) fun y3=>
 bind (bop .int .neq y3 (Value.int .i64 0)) fun y4=>
 cnd y4
 (ret (Value.tuple #[(Value.map none),y3]))
 (bind (QJ x0) fun y5=>
 bind (fa 0 y5) fun y6=>
 bind (ld1 y6) fun y7=>
 bind (lkp .str (.map none) true y7 x1) fun y8=>
 bind (Zk y8 0) fun y9=>
 bind (Zk y8 1) fun y10=>
 bind (uop .not y10) fun y11=>
 cnd y11
 (ret (Value.tuple #[(Value.map none),(Value.int .i64 8)]))
 (ret (Value.tuple #[y9,(Value.int .i64 0)])))
theorem ZiB (Γ : Zd) (x0 x1 x2 : Value) : ZG Tryz.prog Γ Tryz.f106 ZdR [x0,x1,x2]=Zb7 Γ x0 x1 x2:=by kernel_rfl
theorem ZhF {prim : FuncId→Option (List Value→M Value)} (hp : prim J5=none) (n : Nat) (x0 x1 x2 : Value) : run Tryz.prog prim lvs (n+1) J5 [x0,x1,x2]=Zb7 (run Tryz.prog prim lvs n) x0 x1 x2:=
 (Zs hp (by kernel_rfl) Tryz.func106 (by kernel_rfl)).trans (ZiB _ x0 x1 x2)
noncomputable def Zc4.l1 (Γ : Zd) (s3 s62 s63 s64 : Value) : M Out:=
 bind (bop .int .lss s64 s63) fun y50=>
 cnd y50
 (bind (ixa 1 s62 s64) fun y51=>
 bind (ld1 y51) fun y52=>
 bind (Γ Qt [y52]) fun y53=>
 bind (uop .not y53) fun y54=>
 cnd y54
 (ret (.ret (Value.int .i64 10)))
 (bind (bop .int .add s64 (Value.int .i64 1)) fun y55=>
 ret (.nrm [s3,s62,s63,y55])))
 (ret (.ext 0 [s3]))
noncomputable def Zc4.l2 (Γ : Zd) (s3 s73 s74 s75 : Value) : M Out:=
 bind (bop .int .lss s75 s74) fun y61=>
 cnd y61
 (bind (ixa 1 s73 s75) fun y62=>
 bind (ld1 y62) fun y63=>
 bind (bop .int .gtr s75 (Value.int .i64 0)) fun y64=>
 bind (Zx y64 true 8 (bind (fa 4 s3) fun y65=>
 bind (ld1 y65) fun y66=>
 bind (bop .int .sub s75 (Value.int .i64 1)) fun y67=>
 bind (ixa 1 y66 y67) fun y68=>
 bind (ld1 y68) fun y69=>
 bind (bop .str .leq y63 y69) fun y70=>
 ret [y63,y65,y66,s75,y67,y68,y69,y70])) (c8 fun _ _ _ _ _ _ _ q71_7=>
 bind (pick y64 q71_7 (Value.bool false)) fun y72=>
 cnd y72
 (ret (.ret (Value.int .i64 9)))
 (bind (bop .int .add s75 (Value.int .i64 1)) fun y73=>
 ret (.nrm [s3,s73,s74,y73]))))
 (ret (.ext 2 []))
noncomputable def Zc4 (Γ : Zd) (x0 x1 : Value) : M Value:=
 bind (alc 1 x1) fun y1=>
 bind (bop .int .lss x0 (Value.int .i64 1)) fun y2=>
 bind (Zx y2 false 2 (bind (bop .int .gtr x0 (Value.int .i64 2)) fun y3=>
 ret [x0,y3])) (c2 fun _ q4_1=>
 bind (pick y2 (Value.bool true) q4_1) fun y5=>
 cnd y5
 (ret (Value.int .i64 6))
 (bind (fa 0 y1) fun y6=>
 bind (ld1 y6) fun y7=>
 bind (Γ Qt [y7]) fun y8=>
 bind (uop .not y8) fun y9=>
 cnd y9
 (ret (Value.int .i64 10))
 (bind (fa 1 y1) fun y10=>
 bind (ld1 y10) fun y11=>
 bind (Γ Wz [y11]) fun y12=>
 bind (uop .not y12) fun y13=>
 cnd y13
 (ret (Value.int .i64 4))
 (bind (bop .int .eql x0 (Value.int .i64 1)) fun y14=>
 cnd y14
 (bind (fa 2 y1) fun y15=>
 bind (ld1 y15) fun y16=>
 bind (bop .str .neq y16 (Value.string ⟨#[]⟩)) fun y17=>
 bind (Zx y17 false 2 (bind (fa 3 y1) fun y18=>
 bind (ld1 y18) fun y19=>
 ret [y18,y19])) (c2 fun _ q20_1=>
 bind (pick y17 (Value.bool true) q20_1) fun y21=>
 bind (Zx y21 false 4 (bind (fa 4 y1) fun y22=>
 bind (ld1 y22) fun y23=>
 bind (ZB y23) fun y24=>
 bind (bop .int .gtr y24 (Value.int .i64 0)) fun y25=>
 ret [y22,y23,y24,y25])) (c4 fun _ _ _ q26_3=>
 bind (pick y21 (Value.bool true) q26_3) fun y27=>
 cnd y27
 (ret (Value.int .i64 12))
 (ret (Value.int .i64 0)))))
 (bind (fa 2 y1) fun y28=>
 bind (ld1 y28) fun y29=>
 bind (bop .str .neq y29 (Value.string ⟨#[]⟩)) fun y30=>
 jn (cnd y30
 (bind (fa 2 y1) fun y31=>
 bind (ld1 y31) fun y32=>
 bind (Γ Wy [y32]) fun y33=>
 bind (Zk y33 0) fun y34=>
 bind (Zk y33 1) fun y35=>
 bind (uop .not y35) fun y36=>
 bind (Zx y36 false 4 (bind (fa 2 y1) fun y37=>
 bind (ld1 y37) fun y38=>
 bind (bop .str .neq y34 y38) fun y39=>
 ret [y34,y37,y38,y39])) (c4 fun _ _ _ q40_3=>
 bind (pick y36 (Value.bool true) q40_3) fun y41=>
 cnd y41
 (ret (.ret (Value.int .i64 11)))
 (ret (.nrm [y1]))))
 (ret (.nrm [y1]))) (c1 fun q42_0=>
 bind (fa 4 q42_0) fun y43=>
 bind (ld1 y43) fun y44=>
 bind (ZB y44) fun y45=>
 bind (bop .int .gtr y45 (Value.int .i64 6)) fun y46=>
 cnd y46
 (ret (Value.int .i64 7))
 (bind (fa 4 q42_0) fun y47=>
 bind (ld1 y47) fun y48=>
 bind (ZB y48) fun y49=>
 jn (Zh (c4 (Zc4.l1 Γ)) [q42_0,y48,y49,(Value.int .i64 0)]) noN (xk 0 (c1 fun q57_0=>
 bind (fa 4 q57_0) fun y58=>
 bind (ld1 y58) fun y59=>
 bind (ZB y59) fun y60=>
 jn (Zh (c4 (Zc4.l2 Γ)) [q57_0,y59,y60,(Value.int .i64 0)]) noN (xk 2 (c0 (ret (Value.int .i64 0))) noX) ret) noX) ret)) noX ret)))))
noncomputable def Wx.l1 (Γ : Zd) (s0 s1 s5 : Value) : M Out:=
 bind (Je s0) fun y1=>
 bind (bop .int .lss s5 y1) fun y2=>
 cnd y2
 (bind (ixs s0 s5) fun y3=>
 bind (Γ Ww [y3,s1]) fun y4=>
 bind (uop .not y4) fun y5=>
 cnd y5
 (ret (.ret (Value.bool false)))
 (bind (bop .int .add s5 (Value.int .i64 1)) fun y6=>
 ret (.nrm [s0,s1,y6])))
 (ret (.ext 0 []))
noncomputable def Wx (Γ : Zd) (x0 x1 : Value) : M Value:=
 jn (Zh (c3 (Wx.l1 Γ)) [x0,x1,(Value.int .i64 0)]) noN (xk 0 (c0 (ret (Value.bool true))) noX) ret
theorem ZrA (Γ : Zd) (x0 x1 : Value) : ZG Tryz.prog Γ Tryz.f108 Zlx [x0,x1]=Wx Γ x0 x1:=by kernel_rfl
theorem Zqd {prim : FuncId→Option (List Value→M Value)} (hp : prim ZbS=none) (n : Nat) (x0 x1 : Value) : run Tryz.prog prim lvs (n+1) ZbS [x0,x1]=Wx (run Tryz.prog prim lvs n) x0 x1:=
 (Zs hp (by kernel_rfl) Tryz.func108 (by kernel_rfl)).trans (ZrA _ x0 x1)
noncomputable def WA.l1 (Γ : Zd) (s0 s1 s5 : Value) : M Out:=
 bind (Je s1) fun y1=>
 bind (bop .int .lss s5 y1) fun y2=>
 cnd y2
 (bind (ixs s1 s5) fun y3=>
 bind (bop .int .eql y3 s0) fun y4=>
 cnd y4
 (ret (.ret (Value.bool true)))
 (bind (bop .int .add s5 (Value.int .i64 1)) fun y5=>
 ret (.nrm [s0,s1,y5])))
 (ret (.ext 0 []))
noncomputable def WA (Γ : Zd) (x0 x1 : Value) : M Value:=
 jn (Zh (c3 (WA.l1 Γ)) [x0,x1,(Value.int .i64 0)]) noN (xk 0 (c0 (ret (Value.bool false))) noX) ret
theorem Zrq (Γ : Zd) (x0 x1 : Value) : ZG Tryz.prog Γ Tryz.f109 Zlb [x0,x1]=WA Γ x0 x1:=by kernel_rfl
theorem ZpK {prim : FuncId→Option (List Value→M Value)} (hp : prim Ww=none) (n : Nat) (x0 x1 : Value) : run Tryz.prog prim lvs (n+1) Ww [x0,x1]=WA (run Tryz.prog prim lvs n) x0 x1:=
 (Zs hp (by kernel_rfl) Tryz.func109 (by kernel_rfl)).trans (Zrq _ x0 x1)
noncomputable def Kk.l1 (Γ : Zd) (s1 s7 s8 s9 : Value) : M Out:=
 bind (bop .int .lss s9 s8) fun y2=>
 cnd y2
 (bind (ixa 5 s7 s9) fun y3=>
 bind (ldA 5 y3) fun y4=>
 bind (alc 1 (.agg #[.string ⟨#[]⟩,.string ⟨#[]⟩,.string ⟨#[]⟩,.bool false,.slice none 0 0])) fun y5=>
 bind (stA 5 y5 y4) fun _=>
 bind (fa 0 y5) fun y6=>
 bind (ld1 y6) fun y7=>
 bind (bop .str .eql y7 s1) fun y8=>
 cnd y8
 (ret (.ret s9))
 (bind (bop .int .add s9 (Value.int .i64 1)) fun y9=>
 ret (.nrm [s1,s7,s8,y9])))
 (ret (.ext 0 []))
noncomputable def Kk (Γ : Zd) (x0 x1 : Value) : M Value:=
 bind (ZB x0) fun y1=>
 jn (Zh (c4 (Kk.l1 Γ)) [x1,x0,y1,(Value.int .i64 0)]) noN (xk 0 (c0 (ret (Value.int .i64 (-1)))) noX) ret
theorem ZoA (Γ : Zd) (x0 x1 : Value) : ZG Tryz.prog Γ Tryz.f110 Zib [x0,x1]=Kk Γ x0 x1:=by kernel_rfl
theorem ZnI {prim : FuncId→Option (List Value→M Value)} (hp : prim KW=none) (n : Nat) (x0 x1 : Value) : run Tryz.prog prim lvs (n+1) KW [x0,x1]=Kk (run Tryz.prog prim lvs n) x0 x1:=
 (Zs hp (by kernel_rfl) Tryz.func110 (by kernel_rfl)).trans (ZoA _ x0 x1)
noncomputable def JC.l2 (Γ : Zd) (s0 s3 s4 s5 s6 s19 : Value) : M Out:=
 bind (bop .int .lss s19 (Value.int .i64 26)) fun y5=>
 cnd y5
 (bind (ixs s0 s5) fun y6=>
 bind (ixs s3 s19) fun y7=>
 bind (bop .int .eql y6 y7) fun y8=>
 jn (cnd y8
 (bind (bop .int .add s19 (Value.int .i64 1)) fun y9=>
 bind (sls (Value.string ⟨#[97,98,99,100,101,102,103,104,105,106,107,108,109,110,111,112,113,114,115,116,117,118,119,120,121,122]⟩) (some s19) (some y9)) fun y10=>
 ret (.nrm [s0,s3,s4,s5,y10,s19]))
 (ret (.nrm [s0,s3,s4,s5,s6,s19]))) (c6 fun q11_0 q11_1 q11_2 q11_3 q11_4 q11_5=>
 bind (bop .int .add q11_5 (Value.int .i64 1)) fun y12=>
 ret (.nrm [q11_0,q11_1,q11_2,q11_3,q11_4,y12])) noX ZP)
 (ret (.ext 2 [s0,s3,s4,s5,s6]))
noncomputable def JC.l1 (Γ : Zd) (s0 s3 s4 s5 : Value) : M Out:=
 bind (Je s0) fun y1=>
 bind (bop .int .lss s5 y1) fun y2=>
 cnd y2
 (bind (bop .int .add s5 (Value.int .i64 1)) fun y3=>
 bind (sls s0 (some s5) (some y3)) fun y4=>
 jn (Zh (c6 (JC.l2 Γ)) [s0,s3,s4,s5,y4,(Value.int .i64 0)]) noN (xk 2 (c5 fun q15_0 q15_1 q15_2 q15_3 q15_4=>
 bind (bop .str .add q15_2 q15_4) fun y16=>
 bind (bop .int .add q15_3 (Value.int .i64 1)) fun y17=>
 ret (.nrm [q15_0,q15_1,y16,y17])) noX) ZP)
 (ret (.ext 0 [s4]))
noncomputable def JC (Γ : Zd) (x0 : Value) : M Value:=
 jn (Zh (c4 (JC.l1 Γ)) [x0,(Value.string ⟨#[65,66,67,68,69,70,71,72,73,74,75,76,77,78,79,80,81,82,83,84,85,86,87,88,89,90]⟩),(Value.string ⟨#[]⟩),(Value.int .i64 0)]) noN (xk 0 (c1 fun q20_0=>
 ret q20_0) noX) ret
theorem ZoH (Γ : Zd) (x0 : Value) : ZG Tryz.prog Γ Tryz.f111 ZhR [x0]=JC Γ x0:=by kernel_rfl
theorem Znx {prim : FuncId→Option (List Value→M Value)} (hp : prim Zcd=none) (n : Nat) (x0 : Value) : run Tryz.prog prim lvs (n+1) Zcd [x0]=JC (run Tryz.prog prim lvs n) x0:=
 (Zs hp (by kernel_rfl) Tryz.func111 (by kernel_rfl)).trans (ZoH _ x0)
noncomputable def ZgL (Γ : Zd) (x0 : Value) : M Value:=
 bind (Γ YD [x0]) fun y1=>
 bind (Zx y1 false 2 (bind (Γ YT [x0]) fun y2=>
 ret [x0,y2])) (c2 fun _ q3_1=>
 bind (pick y1 (Value.bool true) q3_1) fun y4=>
 bind (Zx y4 false 2 (bind (bop .int .eql x0 (Value.int .u8 45)) fun y5=>
 ret [x0,y5])) (c2 fun _ q6_1=>
 bind (pick y4 (Value.bool true) q6_1) fun y7=>
 bind (Zx y7 false 2 (bind (bop .int .eql x0 (Value.int .u8 46)) fun y8=>
 ret [x0,y8])) (c2 fun _ q9_1=>
 bind (pick y7 (Value.bool true) q9_1) fun y10=>
 ret y10)))
theorem ZpV (Γ : Zd) (x0 : Value) : ZG Tryz.prog Γ Tryz.f112 ZjT [x0]=ZgL Γ x0:=by kernel_rfl
theorem Zn9 {prim : FuncId→Option (List Value→M Value)} (hp : prim ZcU=none) (n : Nat) (x0 : Value) : run Tryz.prog prim lvs (n+1) ZcU [x0]=ZgL (run Tryz.prog prim lvs n) x0:=
 (Zs hp (by kernel_rfl) Tryz.func112 (by kernel_rfl)).trans (ZpV _ x0)
noncomputable def ZF.l1 (Γ : Zd) (s0 s1 s7 s8 : Value) : M Out:=
 bind (bop .int .lss s8 s7) fun y2=>
 cnd y2
 (bind (ixa 1 s0 s8) fun y3=>
 bind (ld1 y3) fun y4=>
 bind (JQ Γ s1 [y4]) fun y5=>
 cnd y5
 (ret (.ret s8))
 (bind (bop .int .add s8 (Value.int .i64 1)) fun y6=>
 ret (.nrm [s0,s1,s7,y6])))
 (ret (.ext 0 []))
noncomputable def ZF (Γ : Zd) (x0 x1 : Value) : M Value:=
 bind (ZB x0) fun y1=>
 jn (Zh (c4 (ZF.l1 Γ)) [x0,x1,y1,(Value.int .i64 0)]) noN (xk 0 (c0 (ret (Value.int .i64 (-1)))) noX) ret
theorem Zdh (Γ : Zd) (x0 x1 : Value) : ZG Tryz.prog Γ Tryz.f113 Zah [x0,x1]=ZF Γ x0 x1:=by kernel_rfl
theorem ZcN {prim : FuncId→Option (List Value→M Value)} (hp : prim J2=none) (n : Nat) (x0 x1 : Value) : run Tryz.prog prim lvs (n+1) J2 [x0,x1]=ZF (run Tryz.prog prim lvs n) x0 x1:=
 (Zs hp (by kernel_rfl) Tryz.func113 (by kernel_rfl)).trans (Zdh _ x0 x1)
noncomputable def KV.l1 (Γ : Zd) (s3 s8 s9 s10 : Value) : M Out:=
 bind (bop .int .lss s10 s9) fun y3=>
 cnd y3
 (bind (ixa 1 s8 s10) fun y4=>
 bind (ld1 y4) fun y5=>
 bind (bop .int .geq y5 (Value.int .u8 65)) fun y6=>
 bind (Zx y6 true 2 (bind (bop .int .leq y5 (Value.int .u8 90)) fun y7=>
 ret [y5,y7])) (c2 fun _ q8_1=>
 bind (pick y6 q8_1 (Value.bool false)) fun y9=>
 jn (cnd y9
 (bind (bop .int .add y5 (Value.int .u8 97)) fun y10=>
 bind (bop .int .sub y10 (Value.int .u8 65)) fun y11=>
 bind (ixa 1 s3 s10) fun y12=>
 bind (st1 y12 y11) fun _=>
 ret (.nrm [s3,s8,s9,s10]))
 (ret (.nrm [s3,s8,s9,s10]))) (c4 fun q13_0 q13_1 q13_2 q13_3=>
 bind (bop .int .add q13_3 (Value.int .i64 1)) fun y14=>
 ret (.nrm [q13_0,q13_1,q13_2,y14])) noX ZP))
 (ret (.ext 0 [s3]))
noncomputable def KV (Γ : Zd) (x0 : Value) : M Value:=
 bind (s2b x0) fun y1=>
 bind (ZB y1) fun y2=>
 jn (Zh (c4 (KV.l1 Γ)) [y1,y1,y2,(Value.int .i64 0)]) noN (xk 0 (c1 fun q17_0=>
 bind (b2s q17_0) fun y18=>
 ret y18) noX) ret
theorem ZpY (Γ : Zd) (x0 : Value) : ZG Tryz.prog Γ Tryz.f116 ZjF [x0]=KV Γ x0:=by kernel_rfl
theorem ZoP {prim : FuncId→Option (List Value→M Value)} (hp : prim Zc1=none) (n : Nat) (x0 : Value) : run Tryz.prog prim lvs (n+1) Zc1 [x0]=KV (run Tryz.prog prim lvs n) x0:=
 (Zs hp (by kernel_rfl) Tryz.func116 (by kernel_rfl)).trans (ZpY _ x0)
noncomputable def Zfb (Γ : Zd) (x0 x1 : Value) : M Value:=
 bind (Γ Ks [x0,x1]) fun y1=>
 bind (Zk y1 0) fun y2=>
 bind (Zk y1 1) fun y3=>
 bind (Zk y1 2) fun y4=>
 ret (Value.tuple #[y2,y3,y4])
theorem Zno (Γ : Zd) (x0 x1 : Value) : ZG Tryz.prog Γ Tryz.f117 Zhr [x0,x1]=Zfb Γ x0 x1:=by kernel_rfl
theorem Zmo {prim : FuncId→Option (List Value→M Value)} (hp : prim WO=none) (n : Nat) (x0 x1 : Value) : run Tryz.prog prim lvs (n+1) WO [x0,x1]=Zfb (run Tryz.prog prim lvs n) x0 x1:=
 (Zs hp (by kernel_rfl) Tryz.func117 (by kernel_rfl)).trans (Zno _ x0 x1)
noncomputable def Zdz (Γ : Zd) (x0 x1 : Value) : M Value:=
 bind (Γ ZaC [x0,x1,(Value.int .i64 0),(Value.int .i64 (-1))]) fun y1=>
 ret y1
theorem ZkW (Γ : Zd) (x0 x1 : Value) : ZG Tryz.prog Γ Tryz.f118 ZfD [x0,x1]=Zdz Γ x0 x1:=by kernel_rfl
theorem ZkF {prim : FuncId→Option (List Value→M Value)} (hp : prim ZaJ=none) (n : Nat) (x0 x1 : Value) : run Tryz.prog prim lvs (n+1) ZaJ [x0,x1]=Zdz (run Tryz.prog prim lvs n) x0 x1:=
 (Zs hp (by kernel_rfl) Tryz.func118 (by kernel_rfl)).trans (ZkW _ x0 x1)
noncomputable def ZbN (Γ : Zd) (x0 : Value) : M Value:=
 bind (bop .str .eql x0 (Value.string ⟨#[]⟩)) fun y1=>
 bind (Zx y1 false 3 (bind (Je x0) fun y2=>
 bind (bop .int .gtr y2 (Value.int .i64 12)) fun y3=>
 ret [x0,y2,y3])) (c3 fun _ _ q4_2=>
 bind (pick y1 (Value.bool true) q4_2) fun y5=>
 bind (Zx y5 false 4 (bind (ixs x0 (Value.int .i64 0)) fun y6=>
 bind (Γ YD [y6]) fun y7=>
 bind (uop .not y7) fun y8=>
 ret [x0,y6,y7,y8])) (c4 fun _ _ _ q9_3=>
 bind (pick y5 (Value.bool true) q9_3) fun y10=>
 bind (Zx y10 false 3 (bind (Γ KB [x0,(Value.func (.func 112) #[] #[])]) fun y11=>
 bind (uop .not y11) fun y12=>
 ret [x0,y11,y12])) (c3 fun _ _ q13_2=>
 bind (pick y10 (Value.bool true) q13_2) fun y14=>
 cnd y14
 (ret (Value.bool false))
 (bind (Je x0) fun y15=>
 bind (bop .int .sub y15 (Value.int .i64 1)) fun y16=>
 bind (ixs x0 y16) fun y17=>
 bind (Γ YD [y17]) fun y18=>
 bind (Zx y18 false 2 (bind (Γ YT [y17]) fun y19=>
 ret [y17,y19])) (c2 fun _ q20_1=>
 bind (pick y18 (Value.bool true) q20_1) fun y21=>
 ret y21)))))
theorem Zns (Γ : Zd) (x0 : Value) : ZG Tryz.prog Γ Tryz.f119 Zho [x0]=ZbN Γ x0:=by kernel_rfl
theorem Zmp {prim : FuncId→Option (List Value→M Value)} (hp : prim WN=none) (n : Nat) (x0 : Value) : run Tryz.prog prim lvs (n+1) WN [x0]=ZbN (run Tryz.prog prim lvs n) x0:=
 (Zs hp (by kernel_rfl) Tryz.func119 (by kernel_rfl)).trans (Zns _ x0)
noncomputable def ZfO (Γ : Zd) (x0 : Value) : M Value:=
 bind (Γ YD [x0]) fun y1=>
 bind (Zx y1 false 2 (bind (Γ YT [x0]) fun y2=>
 ret [x0,y2])) (c2 fun _ q3_1=>
 bind (pick y1 (Value.bool true) q3_1) fun y4=>
 ret y4)
theorem ZoN (Γ : Zd) (x0 : Value) : ZG Tryz.prog Γ Tryz.f120 ZhZ [x0]=ZfO Γ x0:=by kernel_rfl
theorem ZnL {prim : FuncId→Option (List Value→M Value)} (hp : prim Zcf=none) (n : Nat) (x0 : Value) : run Tryz.prog prim lvs (n+1) Zcf [x0]=ZfO (run Tryz.prog prim lvs n) x0:=
 (Zs hp (by kernel_rfl) Tryz.func120 (by kernel_rfl)).trans (ZoN _ x0)
noncomputable def ZbA (Γ : Zd) (x0 : Value) : M Value:=
 bind (bop .int .geq x0 (Value.int .u8 97)) fun y1=>
 bind (Zx y1 true 2 (bind (bop .int .leq x0 (Value.int .u8 122)) fun y2=>
 ret [x0,y2])) (c2 fun _ q3_1=>
 bind (pick y1 q3_1 (Value.bool false)) fun y4=>
 ret y4)
theorem ZnK (Γ : Zd) (x0 : Value) : ZG Tryz.prog Γ Tryz.f121 Zht [x0]=ZbA Γ x0:=by kernel_rfl
theorem Zmx {prim : FuncId→Option (List Value→M Value)} (hp : prim YD=none) (n : Nat) (x0 : Value) : run Tryz.prog prim lvs (n+1) YD [x0]=ZbA (run Tryz.prog prim lvs n) x0:=
 (Zs hp (by kernel_rfl) Tryz.func121 (by kernel_rfl)).trans (ZnK _ x0)
noncomputable def Kt.l1 (Γ : Zd) (s6 s7 s8 : Value) : M Out:=
 bind (bop .int .lss s8 s7) fun y2=>
 cnd y2
 (bind (ixa 1 s6 s8) fun y3=>
 bind (ld1 y3) fun y4=>
 bind (Γ Yd [y4]) fun y5=>
 bind (bop .int .neq y5 (Value.int .i64 0)) fun y6=>
 cnd y6
 (ret (.ret y5))
 (bind (bop .int .add s8 (Value.int .i64 1)) fun y7=>
 ret (.nrm [s6,s7,y7])))
 (ret (.ext 0 []))
noncomputable def Kt (Γ : Zd) (x0 : Value) : M Value:=
 bind (ZB x0) fun y1=>
 jn (Zh (c3 (Kt.l1 Γ)) [x0,y1,(Value.int .i64 0)]) noN (xk 0 (c0 (ret (Value.int .i64 0))) noX) ret
theorem ZnF (Γ : Zd) (x0 : Value) : ZG Tryz.prog Γ Tryz.f122 Zhp [x0]=Kt Γ x0:=by kernel_rfl
theorem Zmb {prim : FuncId→Option (List Value→M Value)} (hp : prim WU=none) (n : Nat) (x0 : Value) : run Tryz.prog prim lvs (n+1) WU [x0]=Kt (run Tryz.prog prim lvs n) x0:=
 (Zs hp (by kernel_rfl) Tryz.func122 (by kernel_rfl)).trans (ZnF _ x0)
noncomputable def Wp.l1 (Γ : Zd) (s1 s7 s8 s9 : Value) : M Out:=
 bind (bop .int .lss s9 s8) fun y2=>
 cnd y2
 (bind (ixa 1 s7 s9) fun y3=>
 bind (ld1 y3) fun y4=>
 bind (bop .str .eql y4 s1) fun y5=>
 cnd y5
 (ret (.ret (Value.bool true)))
 (bind (bop .int .add s9 (Value.int .i64 1)) fun y6=>
 ret (.nrm [s1,s7,s8,y6])))
 (ret (.ext 0 []))
noncomputable def Wp (Γ : Zd) (x0 x1 : Value) : M Value:=
 bind (ZB x0) fun y1=>
 jn (Zh (c4 (Wp.l1 Γ)) [x1,x0,y1,(Value.int .i64 0)]) noN (xk 0 (c0 (ret (Value.bool false))) noX) ret
theorem Zqc (Γ : Zd) (x0 x1 : Value) : ZG Tryz.prog Γ Tryz.f123 ZjN [x0,x1]=Wp Γ x0 x1:=by kernel_rfl
theorem Zo8 {prim : FuncId→Option (List Value→M Value)} (hp : prim Ws=none) (n : Nat) (x0 x1 : Value) : run Tryz.prog prim lvs (n+1) Ws [x0,x1]=Wp (run Tryz.prog prim lvs n) x0 x1:=
 (Zs hp (by kernel_rfl) Tryz.func123 (by kernel_rfl)).trans (Zqc _ x0 x1)
noncomputable def KT (Γ : Zd) (x0 x1 : Value) : M Value:=
 bind (ZB x0) fun y1=>
 bind (cvi .u64 y1) fun y2=>
 bind (Γ Zcm [y2]) fun y3=>
 bind (Γ QM [x0,(Value.int .i64 0),y1,y3,x1]) fun y4=>
 ret (Value.tuple #[])
theorem Zdr (Γ : Zd) (x0 x1 : Value) : ZG Tryz.prog Γ Tryz.f128 Zaw [x0,x1]=KT Γ x0 x1:=by kernel_rfl
theorem Zdb {prim : FuncId→Option (List Value→M Value)} (hp : prim KO=none) (n : Nat) (x0 x1 : Value) : run Tryz.prog prim lvs (n+1) KO [x0,x1]=KT (run Tryz.prog prim lvs n) x0 x1:=
 (Zs hp (by kernel_rfl) Tryz.func128 (by kernel_rfl)).trans (Zdr _ x0 x1)
noncomputable def ZaT (Γ : Zd) (x0 : Value) : M Value:=
 bind (Γ Q5 [x0]) fun y1=>
 bind (Γ J9 [y1,(Value.func (.func 97) #[] #[])]) fun y2=>
 ret y2
theorem Zf0 (Γ : Zd) (x0 : Value) : ZG Tryz.prog Γ Tryz.f131 Zcc [x0]=ZaT Γ x0:=by kernel_rfl
theorem Zfh {prim : FuncId→Option (List Value→M Value)} (hp : prim K8=none) (n : Nat) (x0 : Value) : run Tryz.prog prim lvs (n+1) K8 [x0]=ZaT (run Tryz.prog prim lvs n) x0:=
 (Zs hp (by kernel_rfl) Tryz.func131 (by kernel_rfl)).trans (Zf0 _ x0)
noncomputable def ZjV.l1 (Γ : Zd) (s5 s6 s7 : Value) : M Out:=
 bind (bop .int .lss s7 s6) fun y2=>
 cnd y2
 (bind (ixa 1 s5 s7) fun y3=>
 bind (ld1 y3) fun y4=>
 bind (bop .int .neq y4 (Value.int .i64 0)) fun y5=>
 cnd y5
 (ret (.ret y4))
 (bind (bop .int .add s7 (Value.int .i64 1)) fun y6=>
 ret (.nrm [s5,s6,y6])))
 (ret (.ext 0 []))
noncomputable def ZjV (Γ : Zd) (x0 : Value) : M Value:=
 bind (ZB x0) fun y1=>
 jn (Zh (c3 (ZjV.l1 Γ)) [x0,y1,(Value.int .i64 0)]) noN (xk 0 (c0 (ret (Value.int .i64 0))) noX) ret
noncomputable def Zc7.l1 (Γ : Zd) (s0 s10 s11 s12 : Value) : M Out:=
 bind (bop .int .lss s12 s11) fun y4=>
 cnd y4
 (bind (ixa 1 s10 s12) fun y5=>
 bind (ld1 y5) fun y6=>
 bind (Γ Yd [y6]) fun y7=>
 bind (bop .int .neq y7 (Value.int .i64 0)) fun y8=>
 cnd y8
 (ret (.ret y7))
 (bind (bop .int .add s12 (Value.int .i64 1)) fun y9=>
 ret (.nrm [s0,s10,s11,y9])))
 (ret (.ext 0 [s0]))
noncomputable def Zc7.l2 (Γ : Zd) (s0 s6 : Value) : M Out:=
 bind (ZB s0) fun y12=>
 bind (bop .int .lss s6 y12) fun y13=>
 cnd y13
 (bind (bop .int .sub s6 (Value.int .i64 1)) fun y14=>
 bind (ixa 1 s0 y14) fun y15=>
 bind (ld1 y15) fun y16=>
 bind (ixa 1 s0 s6) fun y17=>
 bind (ld1 y17) fun y18=>
 bind (bop .str .geq y16 y18) fun y19=>
 cnd y19
 (ret (.ret (Value.int .i64 9)))
 (bind (bop .int .add s6 (Value.int .i64 1)) fun y20=>
 ret (.nrm [s0,y20])))
 (ret (.ext 2 []))
noncomputable def Zc7 (Γ : Zd) (x0 : Value) : M Value:=
 bind (ZB x0) fun y1=>
 bind (bop .int .gtr y1 (Value.int .i64 6)) fun y2=>
 cnd y2
 (ret (Value.int .i64 7))
 (bind (ZB x0) fun y3=>
 jn (Zh (c4 (Zc7.l1 Γ)) [x0,x0,y3,(Value.int .i64 0)]) noN (xk 0 (c1 fun q11_0=>
 jn (Zh (c2 (Zc7.l2 Γ)) [q11_0,(Value.int .i64 1)]) noN (xk 2 (c0 (ret (Value.int .i64 0))) noX) ret) noX) ret)
noncomputable def WT (Γ : Zd) (x0 x1 : Value) : M Value:=
 bind (Γ Q4 [x0,x1]) fun y1=>
 bind (bop .int .geq y1 (Value.int .i64 0)) fun y2=>
 cnd y2
 (bind (sls x0 none (some y1)) fun y3=>
 bind (Je x1) fun y4=>
 bind (bop .int .add y1 y4) fun y5=>
 bind (sls x0 (some y5) none) fun y6=>
 ret (Value.tuple #[y3,y6,(Value.bool true)]))
 (ret (Value.tuple #[x0,(Value.string ⟨#[]⟩),(Value.bool false)]))
theorem Zez (Γ : Zd) (x0 x1 : Value) : ZG Tryz.prog Γ Tryz.f136 Zbx [x0,x1]=WT Γ x0 x1:=by kernel_rfl
theorem Zee {prim : FuncId→Option (List Value→M Value)} (hp : prim Ks=none) (n : Nat) (x0 x1 : Value) : run Tryz.prog prim lvs (n+1) Ks [x0,x1]=WT (run Tryz.prog prim lvs n) x0 x1:=
 (Zs hp (by kernel_rfl) Tryz.func136 (by kernel_rfl)).trans (Zez _ x0 x1)
noncomputable def J4.l1 (Γ : Zd) (s0 s1 s2 s3 s9 s10 : Value) : M Out:=
 bind (bop .int .lss s10 s3) fun y13=>
 cnd y13
 (bind (Γ WH [s0,s1]) fun y14=>
 bind (bop .int .lss y14 (Value.int .i64 0)) fun y15=>
 cnd y15
 (ret (.ext 0 [s0,s9,s10]))
 (bind (bop .int .add y14 s2) fun y16=>
 bind (sls s0 none (some y16)) fun y17=>
 bind (ixa 1 s9 s10) fun y18=>
 bind (st1 y18 y17) fun _=>
 bind (Je s1) fun y19=>
 bind (bop .int .add y14 y19) fun y20=>
 bind (sls s0 (some y20) none) fun y21=>
 bind (bop .int .add s10 (Value.int .i64 1)) fun y22=>
 ret (.nrm [y21,s1,s2,s3,s9,y22])))
 (ret (.ext 0 [s0,s9,s10]))
noncomputable def J4 (Γ : Zd) (x0 x1 x2 x3 : Value) : M Value:=
 bind (bop .int .eql x3 (Value.int .i64 0)) fun y1=>
 cnd y1
 (ret (Value.slice none 0 0))
 (bind (bop .str .eql x1 (Value.string ⟨#[]⟩)) fun y2=>
 cnd y2
 (bind (Γ Zj6 [x0,x3]) fun y3=>
 ret y3)
 (bind (bop .int .lss x3 (Value.int .i64 0)) fun y4=>
 jn (cnd y4
 (bind (Γ ZaN [x0,x1]) fun y5=>
 bind (bop .int .add y5 (Value.int .i64 1)) fun y6=>
 ret (.nrm [x0,x1,x2,y6]))
 (ret (.nrm [x0,x1,x2,x3]))) (c4 fun q7_0 q7_1 q7_2 q7_3=>
 bind (Je q7_0) fun y8=>
 bind (bop .int .add y8 (Value.int .i64 1)) fun y9=>
 bind (mxi false q7_3 y9) fun y10=>
 bind (mks 1 16 (.string ⟨#[]⟩) y10 y10) fun y11=>
 bind (bop .int .sub y10 (Value.int .i64 1)) fun y12=>
 jn (jn (Zh (c6 (J4.l1 Γ)) [q7_0,q7_1,q7_2,y12,y11,(Value.int .i64 0)]) noN (xk 0 (c3 fun q24_0 q24_1 q24_2=>
 ret (.nrm [q24_0,q24_1,q24_2])) noX) ZP) (c3 fun q26_0 q26_1 q26_2=>
 bind (ixa 1 q26_1 q26_2) fun y27=>
 bind (st1 y27 q26_0) fun _=>
 bind (bop .int .add q26_2 (Value.int .i64 1)) fun y28=>
 bind (slv 1 q26_1 none (some y28) none) fun y29=>
 ret y29) noX ret) noX ret))
theorem ZiU (Γ : Zd) (x0 x1 x2 x3 : Value) : ZG Tryz.prog Γ Tryz.f137 Zd0 [x0,x1,x2,x3]=J4 Γ x0 x1 x2 x3:=by kernel_rfl
theorem Zhx {prim : FuncId→Option (List Value→M Value)} (hp : prim ZaC=none) (n : Nat) (x0 x1 x2 x3 : Value) : run Tryz.prog prim lvs (n+1) ZaC [x0,x1,x2,x3]=J4 (run Tryz.prog prim lvs n) x0 x1 x2 x3:=
 (Zs hp (by kernel_rfl) Tryz.func137 (by kernel_rfl)).trans (ZiU _ x0 x1 x2 x3)
noncomputable abbrev Zay.o1 (s2 : Value) (st : LoopState) (pd : Option Code) : Zf:=.loop Tryz.f138 Kr 26 [0] (Zvt Tryz.f138 26) [(2,s2)] st pd
noncomputable def Zay.r1 (Γ : Zd) (L : Nat) (s2 : Value) (a0 : Value) : M Value:=
 ZtK L (
 bind (ld1 s2) fun y2=>
 bind (bsl 1 1 (.string ⟨#[]⟩) [(0,1,a0)]) fun y3=>
 bind (app 1 16 y2 y3) fun y4=>
 bind (st1 s2 y4) fun _=>
 ZmB L none)
noncomputable def Zay (Γ : Zd) (x0 x1 : Value) : M Value:=
 bind (alc 1 x0) fun y1=>
 Ziq (ZnT Tryz.prog) Γ x1 Tryz.f138 Kr 26 [0] (Zvt Tryz.f138 26) [(2,y1)] fun pd_5=>
 (match pd_5 with
 | none=>bind (ld1 y1) fun y6=>
 ret y6
 | some (.exit j_5)=>fail
 | some .ret=>ret (Value.slice none 0 0)
 | _=>fail)
noncomputable def Jj.l1 (Γ : Zd) (s0 s1 s2 s3 s4 s10 s11 : Value) : M Out:=
 jn (bind (bop .int .sub s2 s1) fun y1=>
 bind (bop .int .leq y1 (Value.int .i64 12)) fun y2=>
 cnd y2
 (bind (Γ Q6 [s0,s1,s2,s4]) fun y3=>
 ret (.ret (Value.tuple #[])))
 (bind (bop .int .eql s3 (Value.int .i64 0)) fun y4=>
 cnd y4
 (bind (Γ Zds [s0,s1,s2,s4]) fun y5=>
 ret (.ret (Value.tuple #[])))
 (bind (uop .not s10) fun y6=>
 jn (cnd y6
 (bind (Γ Zb5 [s0,s1,s2,s4]) fun y7=>
 bind (bop .int .sub s3 (Value.int .i64 1)) fun y8=>
 ret (.nrm [s0,s1,s2,y8,s4,s10,s11,y1]))
 (ret (.nrm [s0,s1,s2,s3,s4,s10,s11,y1]))) (c8 fun q9_0 q9_1 q9_2 q9_3 q9_4 q9_5 q9_6 q9_7=>
 bind (Γ Zcy [q9_0,q9_1,q9_2,q9_4]) fun y10=>
 bind (Zk y10 0) fun y11=>
 bind (Zk y10 1) fun y12=>
 bind (bop .int .eql y12 (Value.int .i64 2)) fun y13=>
 jn (cnd y13
 (bind (Γ Zca [q9_0,q9_1,q9_2,q9_4]) fun y14=>
 bind (bop .int .sub q9_2 (Value.int .i64 1)) fun y15=>
 bind (bop .int .sub y11 q9_1) fun y16=>
 bind (bop .int .sub y15 y16) fun y17=>
 ret (.nrm [q9_0,q9_1,q9_2,q9_3,q9_4,q9_5,q9_6,q9_7,y17,(Value.int .i64 1)]))
 (ret (.nrm [q9_0,q9_1,q9_2,q9_3,q9_4,q9_5,q9_6,q9_7,y11,y12]))) (c10 fun q18_0 q18_1 q18_2 q18_3 q18_4 q18_5 q18_6 q18_7 q18_8 q18_9=>
 bind (Zx q18_5 true 1 (ret [q18_6])) (c1 fun q19_0=>
 bind (pick q18_5 q19_0 (Value.bool false)) fun y20=>
 bind (Zx y20 true 2 (bind (bop .int .eql q18_9 (Value.int .i64 1)) fun y21=>
 ret [q18_9,y21])) (c2 fun _ q22_1=>
 bind (pick y20 q22_1 (Value.bool false)) fun y23=>
 jn (cnd y23
 (bind (Γ ZaW [q18_0,q18_1,q18_2,q18_4]) fun y24=>
 cnd y24
 (ret (.ret (Value.tuple #[])))
 (ret (.nrm [q18_0,q18_1,q18_2,q18_3,q18_4,q18_5,q18_6,q18_7,q18_8])))
 (ret (.nrm [q18_0,q18_1,q18_2,q18_3,q18_4,q18_5,q18_6,q18_7,q18_8]))) (c9 fun q25_0 q25_1 q25_2 q25_3 q25_4 q25_5 q25_6 q25_7 q25_8=>
 bind (bop .int .gtr q25_1 (Value.int .i64 0)) fun y26=>
 bind (Zp y26 true (ret q25_4)) fun y27=>
 bind (Zp y26 true (ret q25_0)) fun y28=>
 bind (Zp y26 true (ret q25_1)) fun y29=>
 bind (Zp y26 true (bop .int .sub y29 (Value.int .i64 1))) fun y30=>
 bind (Zp y26 true (ixa 1 y28 y30)) fun y31=>
 bind (Zp y26 true (ld1 y31)) fun y32=>
 bind (Zp y26 true (ret q25_0)) fun y33=>
 bind (Zp y26 true (ret q25_8)) fun y34=>
 bind (Zp y26 true (ixa 1 y33 y34)) fun y35=>
 bind (Zp y26 true (ld1 y35)) fun y36=>
 bind (Zp y26 true (JQ Γ y27 [y32,y36])) fun y37=>
 bind (Zp y26 true (bop .int .lss y37 (Value.int .i64 0))) fun y38=>
 bind (Zp y26 true (uop .not y38)) fun y39=>
 bind (pick y26 y39 (Value.bool false)) fun y40=>
 cnd y40
 (bind (Γ ZbV [q25_0,q25_1,q25_2,q25_8,q25_4]) fun y41=>
 ret (.nrm [q25_0,y41,q25_2,q25_3,q25_4,q25_5,q25_6]))
 (bind (Γ Zdg [q25_0,q25_1,q25_2,q25_8,q25_4]) fun y42=>
 bind (Zk y42 0) fun y43=>
 bind (Zk y42 1) fun y44=>
 bind (bop .int .sub y43 q25_1) fun y45=>
 bind (bop .int .sub q25_2 y43) fun y46=>
 bind (bop .int .quo q25_7 (Value.int .i64 8)) fun y47=>
 bind (bop .int .lss y45 y46) fun y48=>
 jn (cnd y48
 (bind (bop .int .geq y45 y47) fun y49=>
 bind (Γ QM [q25_0,q25_1,y43,q25_3,q25_4]) fun y50=>
 bind (bop .int .add y43 (Value.int .i64 1)) fun y51=>
 ret (.nrm [q25_0,y51,q25_2,q25_3,q25_4,y49,y44]))
 (bind (bop .int .geq y46 y47) fun y52=>
 bind (bop .int .add y43 (Value.int .i64 1)) fun y53=>
 bind (Γ QM [q25_0,y53,q25_2,q25_3,q25_4]) fun y54=>
 ret (.nrm [q25_0,q25_1,y43,q25_3,q25_4,y52,y44]))) (c7 fun q55_0 q55_1 q55_2 q55_3 q55_4 q55_5 q55_6=>
 ret (.nrm [q55_0,q55_1,q55_2,q55_3,q55_4,q55_5,q55_6])) noX ZP)) noX ZP))) noX ZP) noX ZP))) (c7 fun q60_0 q60_1 q60_2 q60_3 q60_4 q60_5 q60_6=>
 ret (.nrm [q60_0,q60_1,q60_2,q60_3,q60_4,q60_5,q60_6])) noX ZP
noncomputable def Jj (Γ : Zd) (x0 x1 x2 x3 x4 : Value) : M Value:=
 jn (Zh (c7 (Jj.l1 Γ)) [x0,x1,x2,x3,x4,(Value.bool true),(Value.bool true)]) noN noX ret
theorem Zdq (Γ : Zd) (x0 x1 x2 x3 x4 : Value) : ZG Tryz.prog Γ Tryz.f139 Zaz [x0,x1,x2,x3,x4]=Jj Γ x0 x1 x2 x3 x4:=by kernel_rfl
theorem ZcY {prim : FuncId→Option (List Value→M Value)} (hp : prim QM=none) (n : Nat) (x0 x1 x2 x3 x4 : Value) : run Tryz.prog prim lvs (n+1) QM [x0,x1,x2,x3,x4]=Jj (run Tryz.prog prim lvs n) x0 x1 x2 x3 x4:=
 (Zs hp (by kernel_rfl) Tryz.func139 (by kernel_rfl)).trans (Zdq _ x0 x1 x2 x3 x4)
noncomputable def Zeh (Γ : Zd) (x0 : Value) : M Value:=
 cnd (Value.bool false)
 (bind (cvi .u32 x0) fun y1=>
 bind (Γ Zlv [y1]) fun y2=>
 ret y2)
 (bind (Γ Zby [x0]) fun y3=>
 ret y3)
theorem Zmu (Γ : Zd) (x0 : Value) : ZG Tryz.prog Γ Tryz.f140 Zgr [x0]=Zeh Γ x0:=by kernel_rfl
theorem ZlS {prim : FuncId→Option (List Value→M Value)} (hp : prim Zcm=none) (n : Nat) (x0 : Value) : run Tryz.prog prim lvs (n+1) Zcm [x0]=Zeh (run Tryz.prog prim lvs n) x0:=
 (Zs hp (by kernel_rfl) Tryz.func140 (by kernel_rfl)).trans (Zmu _ x0)
noncomputable def Yb (Γ : Zd) (x0 : Value) : M Value:=
 bind (alc 1 x0) fun y1=>
 ret (Value.func (.func 158) #[] #[y1])
theorem ZaI (Γ : Zd) (x0 : Value) : ZG Tryz.prog Γ Tryz.f142 Ke [x0]=Yb Γ x0:=by kernel_rfl
theorem ZaB {prim : FuncId→Option (List Value→M Value)} (hp : prim Q5=none) (n : Nat) (x0 : Value) : run Tryz.prog prim lvs (n+1) Q5 [x0]=Yb (run Tryz.prog prim lvs n) x0:=
 (Zs hp (by kernel_rfl) Tryz.func142 (by kernel_rfl)).trans (ZaI _ x0)
noncomputable def Ye.l1 (Γ : Zd) (s0 s1 s5 s6 s7 s8 s9 s10 : Value) : M Out:=
 bind (bop .int .lss s8 s9) fun y23=>
 cnd y23
 (bind (ixs s0 s8) fun y24=>
 bind (bop .int .neq y24 s6) fun y25=>
 jn (cnd y25
 (bind (bop .int .add s8 (Value.int .i64 1)) fun y26=>
 bind (sls s0 (some y26) (some s9)) fun y27=>
 bind (Γ JN [y27,s6]) fun y28=>
 bind (bop .int .lss y28 (Value.int .i64 0)) fun y29=>
 cnd y29
 (ret (.ret (Value.int .i64 (-1))))
 (bind (bop .int .add y28 (Value.int .i64 1)) fun y30=>
 bind (bop .int .add s8 y30) fun y31=>
 ret (.nrm [s0,s1,s5,s6,s7,y31,s9,s10])))
 (ret (.nrm [s0,s1,s5,s6,s7,s8,s9,s10]))) (c8 fun q32_0 q32_1 q32_2 q32_3 q32_4 q32_5 q32_6 q32_7=>
 bind (bop .int .add q32_5 (Value.int .i64 1)) fun y33=>
 bind (ixs q32_0 y33) fun y34=>
 bind (bop .int .eql y34 q32_4) fun y35=>
 bind (Zx y35 true 8 (bind (bop .int .add q32_5 q32_2) fun y36=>
 bind (sls q32_0 (some q32_5) (some y36)) fun y37=>
 bind (bop .str .eql y37 q32_1) fun y38=>
 ret [q32_0,q32_5,q32_5,q32_2,y36,y37,q32_1,y38])) (c8 fun _ _ _ _ _ _ _ q39_7=>
 bind (pick y35 q39_7 (Value.bool false)) fun y40=>
 cnd y40
 (ret (.ret q32_5))
 (bind (bop .int .add q32_5 (Value.int .i64 1)) fun y41=>
 bind (bop .int .add q32_7 (Value.int .i64 1)) fun y42=>
 bind (ld1 (Value.pointer (some ⟨0,0,none⟩))) fun y43=>
 bind (bop .int .leq q32_2 y43) fun y44=>
 bind (Zx y44 true 4 (bind (Γ ZeT [y41]) fun y45=>
 bind (bop .int .gtr y42 y45) fun y46=>
 ret [y42,y41,y45,y46])) (c4 fun _ _ _ q47_3=>
 bind (pick y44 q47_3 (Value.bool false)) fun y48=>
 cnd y48
 (bind (sls q32_0 (some y41) none) fun y49=>
 bind (Γ ZaF [y49,q32_1]) fun y50=>
 bind (bop .int .geq y50 (Value.int .i64 0)) fun y51=>
 cnd y51
 (bind (bop .int .add y50 y41) fun y52=>
 ret (.ret y52))
 (ret (.ret (Value.int .i64 (-1)))))
 (bind (ld1 (Value.pointer (some ⟨0,0,none⟩))) fun y53=>
 bind (bop .int .gtr q32_2 y53) fun y54=>
 bind (Zx y54 true 5 (bind (bop .int .shr y41 (Value.int .u64 4)) fun y55=>
 bind (bop .int .add (Value.int .i64 4) y55) fun y56=>
 bind (bop .int .geq y42 y56) fun y57=>
 ret [y42,y41,y55,y56,y57])) (c5 fun _ _ _ _ q58_4=>
 bind (pick y54 q58_4 (Value.bool false)) fun y59=>
 bind (Zx y59 true 3 (bind (bop .int .lss y41 q32_6) fun y60=>
 ret [y41,q32_6,y60])) (c3 fun _ _ q61_2=>
 bind (pick y59 q61_2 (Value.bool false)) fun y62=>
 cnd y62
 (bind (sls q32_0 (some y41) none) fun y63=>
 bind (Γ Zbz [y63,q32_1]) fun y64=>
 bind (bop .int .lss y64 (Value.int .i64 0)) fun y65=>
 cnd y65
 (ret (.ret (Value.int .i64 (-1))))
 (bind (bop .int .add y41 y64) fun y66=>
 ret (.ret y66)))
 (ret (.nrm [q32_0,q32_1,q32_2,q32_3,q32_4,y41,q32_6,y42]))))))))) noX ZP)
 (ret (.ext 1 []))
noncomputable def Ye (Γ : Zd) (x0 x1 : Value) : M Value:=
 bind (Je x1) fun y1=>
 bind (bop .int .eql y1 (Value.int .i64 0)) fun y2=>
 bind (Zx y2 false 3 (bind (bop .str .eql x1 x0) fun y3=>
 ret [x1,x0,y3])) (c3 fun _ _ q4_2=>
 bind (pick y2 (Value.bool true) q4_2) fun y5=>
 cnd y5
 (ret (Value.int .i64 0))
 (bind (bop .int .eql y1 (Value.int .i64 1)) fun y6=>
 cnd y6
 (bind (ixs x1 (Value.int .i64 0)) fun y7=>
 bind (Γ JN [x0,y7]) fun y8=>
 ret y8)
 (bind (Je x0) fun y9=>
 bind (bop .int .geq y1 y9) fun y10=>
 cnd y10
 (ret (Value.int .i64 (-1)))
 (bind (ld1 (Value.pointer (some ⟨0,0,none⟩))) fun y11=>
 bind (bop .int .leq y1 y11) fun y12=>
 bind (Zx y12 true 3 (bind (Je x0) fun y13=>
 bind (bop .int .leq y13 (Value.int .i64 64)) fun y14=>
 ret [x0,y13,y14])) (c3 fun _ _ q15_2=>
 bind (pick y12 q15_2 (Value.bool false)) fun y16=>
 cnd y16
 (bind (Γ ZaF [x0,x1]) fun y17=>
 ret y17)
 (bind (ixs x1 (Value.int .i64 0)) fun y18=>
 bind (ixs x1 (Value.int .i64 1)) fun y19=>
 bind (Je x0) fun y20=>
 bind (bop .int .sub y20 y1) fun y21=>
 bind (bop .int .add y21 (Value.int .i64 1)) fun y22=>
 jn (Zh (c8 (Ye.l1 Γ)) [x0,x1,y1,y18,y19,(Value.int .i64 0),y22,(Value.int .i64 0)]) noN (xk 1 (c0 (ret (Value.int .i64 (-1)))) noX) ret))))))
theorem ZdZ (Γ : Zd) (x0 x1 : Value) : ZG Tryz.prog Γ Tryz.f144 ZaZ [x0,x1]=Ye Γ x0 x1:=by kernel_rfl
theorem ZdD {prim : FuncId→Option (List Value→M Value)} (hp : prim Q4=none) (n : Nat) (x0 x1 : Value) : run Tryz.prog prim lvs (n+1) Q4 [x0,x1]=Ye (run Tryz.prog prim lvs n) x0 x1:=
 (Zs hp (by kernel_rfl) Tryz.func144 (by kernel_rfl)).trans (ZdZ _ x0 x1)
noncomputable def Ze1.l1 (Γ : Zd) (s0 s1 s6 s7 : Value) : M Out:=
 bind (bop .int .sub s1 (Value.int .i64 1)) fun y8=>
 bind (bop .int .lss s7 y8) fun y9=>
 cnd y9
 (bind (Γ ZcQ [s0]) fun y10=>
 bind (Zk y10 0) fun y11=>
 bind (Zk y10 1) fun y12=>
 bind (sls s0 none (some y12)) fun y13=>
 bind (ixa 1 s6 s7) fun y14=>
 bind (st1 y14 y13) fun _=>
 bind (sls s0 (some y12) none) fun y15=>
 bind (bop .int .add s7 (Value.int .i64 1)) fun y16=>
 ret (.nrm [y15,s1,s6,y16]))
 (ret (.ext 0 [s0,s1,s6]))
noncomputable def Ze1 (Γ : Zd) (x0 x1 : Value) : M Value:=
 bind (Γ Zao [x0]) fun y1=>
 bind (bop .int .lss x1 (Value.int .i64 0)) fun y2=>
 bind (Zx y2 false 3 (bind (bop .int .gtr x1 y1) fun y3=>
 ret [x1,y1,y3])) (c3 fun _ _ q4_2=>
 bind (pick y2 (Value.bool true) q4_2) fun y5=>
 jn (cnd y5
 (ret (.nrm [x0,y1]))
 (ret (.nrm [x0,x1]))) (c2 fun q6_0 q6_1=>
 bind (mks 1 16 (.string ⟨#[]⟩) q6_1 q6_1) fun y7=>
 jn (Zh (c4 (Ze1.l1 Γ)) [q6_0,q6_1,y7,(Value.int .i64 0)]) noN (xk 0 (c3 fun q18_0 q18_1 q18_2=>
 bind (bop .int .gtr q18_1 (Value.int .i64 0)) fun y19=>
 jn (cnd y19
 (bind (bop .int .sub q18_1 (Value.int .i64 1)) fun y20=>
 bind (ixa 1 q18_2 y20) fun y21=>
 bind (st1 y21 q18_0) fun _=>
 ret (.nrm [q18_2]))
 (ret (.nrm [q18_2]))) (c1 fun q22_0=>
 ret q22_0) noX ret) noX) ret) noX ret)
noncomputable def ZaO.l1 (Γ : Zd) (s0 s1 s5 : Value) : M Out:=
 bind (Γ WH [s0,s1]) fun y9=>
 bind (bop .int .eql y9 (Value.int .i64 (-1))) fun y10=>
 cnd y10
 (ret (.ret s5))
 (bind (bop .int .add s5 (Value.int .i64 1)) fun y11=>
 bind (Je s1) fun y12=>
 bind (bop .int .add y9 y12) fun y13=>
 bind (sls s0 (some y13) none) fun y14=>
 ret (.nrm [y14,s1,y11]))
noncomputable def ZaO (Γ : Zd) (x0 x1 : Value) : M Value:=
 bind (Je x1) fun y1=>
 bind (bop .int .eql y1 (Value.int .i64 0)) fun y2=>
 cnd y2
 (bind (Γ Zao [x0]) fun y3=>
 bind (bop .int .add y3 (Value.int .i64 1)) fun y4=>
 ret y4)
 (bind (Je x1) fun y5=>
 bind (bop .int .eql y5 (Value.int .i64 1)) fun y6=>
 cnd y6
 (bind (ixs x1 (Value.int .i64 0)) fun y7=>
 bind (Γ YF [x0,y7]) fun y8=>
 ret y8)
 (jn (Zh (c3 (ZaO.l1 Γ)) [x0,x1,(Value.int .i64 0)]) noN noX ret))
theorem Zlc (Γ : Zd) (x0 x1 : Value) : ZG Tryz.prog Γ Tryz.f146 ZfC [x0,x1]=ZaO Γ x0 x1:=by kernel_rfl
theorem Zkj {prim : FuncId→Option (List Value→M Value)} (hp : prim ZaN=none) (n : Nat) (x0 x1 : Value) : run Tryz.prog prim lvs (n+1) ZaN [x0,x1]=ZaO (run Tryz.prog prim lvs n) x0 x1:=
 (Zs hp (by kernel_rfl) Tryz.func146 (by kernel_rfl)).trans (Zlc _ x0 x1)
noncomputable def Zdy (Γ : Zd) (x0 x1 : Value) : M Value:=
 bind (Γ Q4 [x0,x1]) fun y1=>
 ret y1
theorem ZlR (Γ : Zd) (x0 x1 : Value) : ZG Tryz.prog Γ Tryz.f147 Zfs [x0,x1]=Zdy Γ x0 x1:=by kernel_rfl
theorem Zkd {prim : FuncId→Option (List Value→M Value)} (hp : prim WH=none) (n : Nat) (x0 x1 : Value) : run Tryz.prog prim lvs (n+1) WH [x0,x1]=Zdy (run Tryz.prog prim lvs n) x0 x1:=
 (Zs hp (by kernel_rfl) Tryz.func147 (by kernel_rfl)).trans (ZlR _ x0 x1)
noncomputable def Z3.l2 (Γ : Zd) (s0 s1 s2 s3 s8 s9 : Value) : M Out:=
 bind (bop .int .gtr s9 s1) fun y3=>
 bind (Zp y3 true (ret s3)) fun y4=>
 bind (Zp y3 true (ret s0)) fun y5=>
 bind (Zp y3 true (ret s9)) fun y6=>
 bind (Zp y3 true (ixa 1 y5 y6)) fun y7=>
 bind (Zp y3 true (ld1 y7)) fun y8=>
 bind (Zp y3 true (ret s0)) fun y9=>
 bind (Zp y3 true (ret s9)) fun y10=>
 bind (Zp y3 true (bop .int .sub y10 (Value.int .i64 1))) fun y11=>
 bind (Zp y3 true (ixa 1 y9 y11)) fun y12=>
 bind (Zp y3 true (ld1 y12)) fun y13=>
 bind (Zp y3 true (JQ Γ y4 [y8,y13])) fun y14=>
 bind (Zp y3 true (bop .int .lss y14 (Value.int .i64 0))) fun y15=>
 bind (pick y3 y15 (Value.bool false)) fun y16=>
 cnd y16
 (bind (bop .int .sub s9 (Value.int .i64 1)) fun y17=>
 bind (bop .int .sub s9 (Value.int .i64 1)) fun y18=>
 bind (ixa 1 s0 y18) fun y19=>
 bind (ld1 y19) fun y20=>
 bind (ixa 1 s0 s9) fun y21=>
 bind (ld1 y21) fun y22=>
 bind (ixa 1 s0 s9) fun y23=>
 bind (st1 y23 y20) fun _=>
 bind (ixa 1 s0 y17) fun y24=>
 bind (st1 y24 y22) fun _=>
 bind (bop .int .sub s9 (Value.int .i64 1)) fun y25=>
 ret (.nrm [s0,s1,s2,s3,s8,y25]))
 (ret (.ext 2 [s0,s1,s2,s3,s8]))
noncomputable def Z3.l1 (Γ : Zd) (s0 s1 s2 s3 s8 : Value) : M Out:=
 bind (bop .int .lss s8 s2) fun y2=>
 cnd y2
 (jn (Zh (c6 (Z3.l2 Γ)) [s0,s1,s2,s3,s8,s8]) noN (xk 2 (c5 fun q27_0 q27_1 q27_2 q27_3 q27_4=>
 bind (bop .int .add q27_4 (Value.int .i64 1)) fun y28=>
 ret (.nrm [q27_0,q27_1,q27_2,q27_3,y28])) noX) ZP)
 (ret (.ext 0 []))
noncomputable def Z3 (Γ : Zd) (x0 x1 x2 x3 : Value) : M Value:=
 bind (bop .int .add x1 (Value.int .i64 1)) fun y1=>
 jn (Zh (c5 (Z3.l1 Γ)) [x0,x1,x2,x3,y1]) noN (xk 0 (c0 (ret (Value.tuple #[]))) noX) ret
theorem ZbY (Γ : Zd) (x0 x1 x2 x3 : Value) : ZG Tryz.prog Γ Tryz.f148 K2 [x0,x1,x2,x3]=Z3 Γ x0 x1 x2 x3:=by kernel_rfl
theorem ZbO {prim : FuncId→Option (List Value→M Value)} (hp : prim Q6=none) (n : Nat) (x0 x1 x2 x3 : Value) : run Tryz.prog prim lvs (n+1) Q6 [x0,x1,x2,x3]=Z3 (run Tryz.prog prim lvs n) x0 x1 x2 x3:=
 (Zs hp (by kernel_rfl) Tryz.func148 (by kernel_rfl)).trans (ZbY _ x0 x1 x2 x3)
noncomputable def Yv.l1 (Γ : Zd) (s0 s3 s8 s9 s10 s11 : Value) : M Out:=
 bind (bop .int .geq s11 (Value.int .i64 0)) fun y4=>
 cnd y4
 (bind (Γ Zax [s0,s11,s10,s8,s3]) fun y5=>
 bind (bop .int .sub s11 (Value.int .i64 1)) fun y6=>
 ret (.nrm [s0,s3,s8,s9,s10,y6]))
 (ret (.ext 0 [s0,s3,s8,s9,s10]))
noncomputable def Yv.l2 (Γ : Zd) (s0 s3 s8 s9 s12 : Value) : M Out:=
 bind (bop .int .geq s12 (Value.int .i64 0)) fun y10=>
 cnd y10
 (bind (bop .int .add s8 s12) fun y11=>
 bind (bop .int .add s8 s12) fun y12=>
 bind (ixa 1 s0 y12) fun y13=>
 bind (ld1 y13) fun y14=>
 bind (ixa 1 s0 s8) fun y15=>
 bind (ld1 y15) fun y16=>
 bind (ixa 1 s0 s8) fun y17=>
 bind (st1 y17 y14) fun _=>
 bind (ixa 1 s0 y11) fun y18=>
 bind (st1 y18 y16) fun _=>
 bind (Γ Zax [s0,s9,s12,s8,s3]) fun y19=>
 bind (bop .int .sub s12 (Value.int .i64 1)) fun y20=>
 ret (.nrm [s0,s3,s8,s9,y20]))
 (ret (.ext 2 []))
noncomputable def Yv (Γ : Zd) (x0 x1 x2 x3 : Value) : M Value:=
 bind (bop .int .sub x2 x1) fun y1=>
 bind (bop .int .sub y1 (Value.int .i64 1)) fun y2=>
 bind (bop .int .quo y2 (Value.int .i64 2)) fun y3=>
 jn (Zh (c6 (Yv.l1 Γ)) [x0,x3,x1,(Value.int .i64 0),y1,y3]) noN (xk 0 (c5 fun q8_0 q8_1 q8_2 q8_3 q8_4=>
 bind (bop .int .sub q8_4 (Value.int .i64 1)) fun y9=>
 jn (Zh (c5 (Yv.l2 Γ)) [q8_0,q8_1,q8_2,q8_3,y9]) noN (xk 2 (c0 (ret (Value.tuple #[]))) noX) ret) noX) ret
noncomputable def Wj.l1 (Γ : Zd) (s0 s1 s8 s9 s10 s11 : Value) : M Out:=
 bind (bop .int .quo s8 (Value.int .i64 4)) fun y10=>
 bind (bop .int .mul y10 (Value.int .i64 2)) fun y11=>
 bind (bop .int .add s1 y11) fun y12=>
 bind (bop .int .add y12 (Value.int .i64 1)) fun y13=>
 bind (bop .int .leq s11 y13) fun y14=>
 cnd y14
 (bind (Γ ZgY [s9]) fun y15=>
 bind (bop .int .sub s10 (Value.int .u64 1)) fun y16=>
 bind (bop .int .and y15 y16) fun y17=>
 bind (cvi .i64 y17) fun y18=>
 bind (bop .int .geq y18 s8) fun y19=>
 jn (cnd y19
 (bind (bop .int .sub y18 s8) fun y20=>
 ret (.nrm [s0,s1,s8,s9,s10,s11,y20]))
 (ret (.nrm [s0,s1,s8,s9,s10,s11,y18]))) (c7 fun q21_0 q21_1 q21_2 q21_3 q21_4 q21_5 q21_6=>
 bind (bop .int .add q21_1 q21_6) fun y22=>
 bind (bop .int .add q21_1 q21_6) fun y23=>
 bind (ixa 1 q21_0 y23) fun y24=>
 bind (ld1 y24) fun y25=>
 bind (ixa 1 q21_0 q21_5) fun y26=>
 bind (ld1 y26) fun y27=>
 bind (ixa 1 q21_0 q21_5) fun y28=>
 bind (st1 y28 y25) fun _=>
 bind (ixa 1 q21_0 y22) fun y29=>
 bind (st1 y29 y27) fun _=>
 bind (bop .int .add q21_5 (Value.int .i64 1)) fun y30=>
 ret (.nrm [q21_0,q21_1,q21_2,q21_3,q21_4,y30])) noX ZP)
 (ret (.ext 0 []))
noncomputable def Wj (Γ : Zd) (x0 x1 x2 x3 : Value) : M Value:=
 bind (bop .int .sub x2 x1) fun y1=>
 bind (bop .int .geq y1 (Value.int .i64 8)) fun y2=>
 jn (cnd y2
 (bind (cvi .u64 y1) fun y3=>
 bind (alc 1 (.int .u64 0)) fun y4=>
 bind (st1 y4 y3) fun _=>
 bind (Γ ZfT [y1]) fun y5=>
 bind (bop .int .quo y1 (Value.int .i64 4)) fun y6=>
 bind (bop .int .mul y6 (Value.int .i64 2)) fun y7=>
 bind (bop .int .add x1 y7) fun y8=>
 bind (bop .int .sub y8 (Value.int .i64 1)) fun y9=>
 jn (Zh (c6 (Wj.l1 Γ)) [x0,x1,y1,y4,y5,y9]) noN (xk 0 (c0 (ret (.nrm []))) noX) ZP)
 (ret (.nrm []))) (c0 (ret (Value.tuple #[]))) noX ret
noncomputable def WD.l1 (Γ : Zd) (s0 s8 s9 : Value) : M Out:=
 bind (bop .int .lss s8 s9) fun y2=>
 cnd y2
 (bind (ixa 1 s0 s9) fun y3=>
 bind (ld1 y3) fun y4=>
 bind (ixa 1 s0 s8) fun y5=>
 bind (ld1 y5) fun y6=>
 bind (ixa 1 s0 s8) fun y7=>
 bind (st1 y7 y4) fun _=>
 bind (ixa 1 s0 s9) fun y8=>
 bind (st1 y8 y6) fun _=>
 bind (bop .int .add s8 (Value.int .i64 1)) fun y9=>
 bind (bop .int .sub s9 (Value.int .i64 1)) fun y10=>
 ret (.nrm [s0,y9,y10]))
 (ret (.ext 0 []))
noncomputable def WD (Γ : Zd) (x0 x1 x2 x3 : Value) : M Value:=
 bind (bop .int .sub x2 (Value.int .i64 1)) fun y1=>
 jn (Zh (c3 (WD.l1 Γ)) [x0,x1,y1]) noN (xk 0 (c0 (ret (Value.tuple #[]))) noX) ret
noncomputable def ZO.l2 (Γ : Zd) (s0 s1 s2 s3 s9 s10 : Value) : M Out:=
 bind (bop .int .lss s9 s2) fun y3=>
 bind (Zp y3 true (ret s3)) fun y4=>
 bind (Zp y3 true (ret s0)) fun y5=>
 bind (Zp y3 true (ret s9)) fun y6=>
 bind (Zp y3 true (ixa 1 y5 y6)) fun y7=>
 bind (Zp y3 true (ld1 y7)) fun y8=>
 bind (Zp y3 true (ret s0)) fun y9=>
 bind (Zp y3 true (ret s9)) fun y10=>
 bind (Zp y3 true (bop .int .sub y10 (Value.int .i64 1))) fun y11=>
 bind (Zp y3 true (ixa 1 y9 y11)) fun y12=>
 bind (Zp y3 true (ld1 y12)) fun y13=>
 bind (Zp y3 true (JQ Γ y4 [y8,y13])) fun y14=>
 bind (Zp y3 true (bop .int .lss y14 (Value.int .i64 0))) fun y15=>
 bind (Zp y3 true (uop .not y15)) fun y16=>
 bind (pick y3 y16 (Value.bool false)) fun y17=>
 cnd y17
 (bind (bop .int .add s9 (Value.int .i64 1)) fun y18=>
 ret (.nrm [s0,s1,s2,s3,y18,s10]))
 (ret (.ext 2 [s0,s1,s2,s3,s9,s10]))
noncomputable def ZO.l3 (Γ : Zd) (s0 s1 s2 s3 s9 s10 s11 : Value) : M Out:=
 bind (bop .int .geq s11 (Value.int .i64 1)) fun y35=>
 cnd y35
 (bind (ixa 1 s0 s11) fun y36=>
 bind (ld1 y36) fun y37=>
 bind (bop .int .sub s11 (Value.int .i64 1)) fun y38=>
 bind (ixa 1 s0 y38) fun y39=>
 bind (ld1 y39) fun y40=>
 bind (JQ Γ s3 [y37,y40]) fun y41=>
 bind (bop .int .lss y41 (Value.int .i64 0)) fun y42=>
 bind (uop .not y42) fun y43=>
 cnd y43
 (ret (.ext 4 [s0,s1,s2,s3,s9,s10]))
 (bind (bop .int .sub s11 (Value.int .i64 1)) fun y44=>
 bind (bop .int .sub s11 (Value.int .i64 1)) fun y45=>
 bind (ixa 1 s0 y45) fun y46=>
 bind (ld1 y46) fun y47=>
 bind (ixa 1 s0 s11) fun y48=>
 bind (ld1 y48) fun y49=>
 bind (ixa 1 s0 s11) fun y50=>
 bind (st1 y50 y47) fun _=>
 bind (ixa 1 s0 y44) fun y51=>
 bind (st1 y51 y49) fun _=>
 bind (bop .int .sub s11 (Value.int .i64 1)) fun y52=>
 ret (.nrm [s0,s1,s2,s3,s9,s10,y52])))
 (ret (.ext 4 [s0,s1,s2,s3,s9,s10]))
noncomputable def ZO.l4 (Γ : Zd) (s0 s1 s2 s3 s9 s10 s12 : Value) : M Out:=
 bind (bop .int .lss s12 s2) fun y62=>
 cnd y62
 (bind (ixa 1 s0 s12) fun y63=>
 bind (ld1 y63) fun y64=>
 bind (bop .int .sub s12 (Value.int .i64 1)) fun y65=>
 bind (ixa 1 s0 y65) fun y66=>
 bind (ld1 y66) fun y67=>
 bind (JQ Γ s3 [y64,y67]) fun y68=>
 bind (bop .int .lss y68 (Value.int .i64 0)) fun y69=>
 bind (uop .not y69) fun y70=>
 cnd y70
 (ret (.ext 6 [s0,s1,s2,s3,s9,s10]))
 (bind (bop .int .sub s12 (Value.int .i64 1)) fun y71=>
 bind (bop .int .sub s12 (Value.int .i64 1)) fun y72=>
 bind (ixa 1 s0 y72) fun y73=>
 bind (ld1 y73) fun y74=>
 bind (ixa 1 s0 s12) fun y75=>
 bind (ld1 y75) fun y76=>
 bind (ixa 1 s0 s12) fun y77=>
 bind (st1 y77 y74) fun _=>
 bind (ixa 1 s0 y71) fun y78=>
 bind (st1 y78 y76) fun _=>
 bind (bop .int .add s12 (Value.int .i64 1)) fun y79=>
 ret (.nrm [s0,s1,s2,s3,s9,s10,y79])))
 (ret (.ext 6 [s0,s1,s2,s3,s9,s10]))
noncomputable def ZO.l1 (Γ : Zd) (s0 s1 s2 s3 s9 s10 : Value) : M Out:=
 bind (bop .int .lss s10 (Value.int .i64 5)) fun y2=>
 cnd y2
 (jn (Zh (c6 (ZO.l2 Γ)) [s0,s1,s2,s3,s9,s10]) noN (xk 2 (c6 fun q20_0 q20_1 q20_2 q20_3 q20_4 q20_5=>
 bind (bop .int .eql q20_4 q20_2) fun y21=>
 cnd y21
 (ret (.ret (Value.bool true)))
 (bind (bop .int .sub q20_2 q20_1) fun y22=>
 bind (bop .int .lss y22 (Value.int .i64 50)) fun y23=>
 cnd y23
 (ret (.ret (Value.bool false)))
 (bind (bop .int .sub q20_4 (Value.int .i64 1)) fun y24=>
 bind (bop .int .sub q20_4 (Value.int .i64 1)) fun y25=>
 bind (ixa 1 q20_0 y25) fun y26=>
 bind (ld1 y26) fun y27=>
 bind (ixa 1 q20_0 q20_4) fun y28=>
 bind (ld1 y28) fun y29=>
 bind (ixa 1 q20_0 q20_4) fun y30=>
 bind (st1 y30 y27) fun _=>
 bind (ixa 1 q20_0 y24) fun y31=>
 bind (st1 y31 y29) fun _=>
 bind (bop .int .sub q20_4 q20_1) fun y32=>
 bind (bop .int .geq y32 (Value.int .i64 2)) fun y33=>
 jn (cnd y33
 (bind (bop .int .sub q20_4 (Value.int .i64 1)) fun y34=>
 jn (jn (Zh (c7 (ZO.l3 Γ)) [q20_0,q20_1,q20_2,q20_3,q20_4,q20_5,y34]) noN (xk 4 (c6 fun q54_0 q54_1 q54_2 q54_3 q54_4 q54_5=>
 ret (.nrm [q54_0,q54_1,q54_2,q54_3,q54_4,q54_5])) noX) ZP) (c6 fun q56_0 q56_1 q56_2 q56_3 q56_4 q56_5=>
 ret (.nrm [q56_0,q56_1,q56_2,q56_3,q56_4,q56_5])) noX ZP)
 (ret (.nrm [q20_0,q20_1,q20_2,q20_3,q20_4,q20_5]))) (c6 fun q58_0 q58_1 q58_2 q58_3 q58_4 q58_5=>
 bind (bop .int .sub q58_2 q58_4) fun y59=>
 bind (bop .int .geq y59 (Value.int .i64 2)) fun y60=>
 jn (cnd y60
 (bind (bop .int .add q58_4 (Value.int .i64 1)) fun y61=>
 jn (jn (Zh (c7 (ZO.l4 Γ)) [q58_0,q58_1,q58_2,q58_3,q58_4,q58_5,y61]) noN (xk 6 (c6 fun q81_0 q81_1 q81_2 q81_3 q81_4 q81_5=>
 ret (.nrm [q81_0,q81_1,q81_2,q81_3,q81_4,q81_5])) noX) ZP) (c6 fun q83_0 q83_1 q83_2 q83_3 q83_4 q83_5=>
 ret (.nrm [q83_0,q83_1,q83_2,q83_3,q83_4,q83_5])) noX ZP)
 (ret (.nrm [q58_0,q58_1,q58_2,q58_3,q58_4,q58_5]))) (c6 fun q85_0 q85_1 q85_2 q85_3 q85_4 q85_5=>
 bind (bop .int .add q85_5 (Value.int .i64 1)) fun y86=>
 ret (.nrm [q85_0,q85_1,q85_2,q85_3,q85_4,y86])) noX ZP) noX ZP))) noX) ZP)
 (ret (.ext 0 []))
noncomputable def ZO (Γ : Zd) (x0 x1 x2 x3 : Value) : M Value:=
 bind (bop .int .add x1 (Value.int .i64 1)) fun y1=>
 jn (Zh (c6 (ZO.l1 Γ)) [x0,x1,x2,x3,y1,(Value.int .i64 0)]) noN (xk 0 (c0 (ret (Value.bool false))) noX) ret
noncomputable def Qy.l2 (Γ : Zd) (s0 s1 s4 s11 s12 : Value) : M Out:=
 bind (bop .int .leq s11 s12) fun y9=>
 bind (Zp y9 true (ret s4)) fun y10=>
 bind (Zp y9 true (ret s0)) fun y11=>
 bind (Zp y9 true (ret s1)) fun y12=>
 bind (Zp y9 true (ixa 1 y11 y12)) fun y13=>
 bind (Zp y9 true (ld1 y13)) fun y14=>
 bind (Zp y9 true (ret s0)) fun y15=>
 bind (Zp y9 true (ret s11)) fun y16=>
 bind (Zp y9 true (ixa 1 y15 y16)) fun y17=>
 bind (Zp y9 true (ld1 y17)) fun y18=>
 bind (Zp y9 true (JQ Γ y10 [y14,y18])) fun y19=>
 bind (Zp y9 true (bop .int .lss y19 (Value.int .i64 0))) fun y20=>
 bind (Zp y9 true (uop .not y20)) fun y21=>
 bind (pick y9 y21 (Value.bool false)) fun y22=>
 cnd y22
 (bind (bop .int .add s11 (Value.int .i64 1)) fun y23=>
 ret (.nrm [s0,s1,s4,y23,s12]))
 (ret (.ext 2 [s0,s1,s4,s11,s12]))
noncomputable def Qy.l3 (Γ : Zd) (s0 s1 s4 s11 s12 : Value) : M Out:=
 bind (bop .int .leq s11 s12) fun y26=>
 bind (Zp y26 true (ret s4)) fun y27=>
 bind (Zp y26 true (ret s0)) fun y28=>
 bind (Zp y26 true (ret s1)) fun y29=>
 bind (Zp y26 true (ixa 1 y28 y29)) fun y30=>
 bind (Zp y26 true (ld1 y30)) fun y31=>
 bind (Zp y26 true (ret s0)) fun y32=>
 bind (Zp y26 true (ret s12)) fun y33=>
 bind (Zp y26 true (ixa 1 y32 y33)) fun y34=>
 bind (Zp y26 true (ld1 y34)) fun y35=>
 bind (Zp y26 true (JQ Γ y27 [y31,y35])) fun y36=>
 bind (Zp y26 true (bop .int .lss y36 (Value.int .i64 0))) fun y37=>
 bind (pick y26 y37 (Value.bool false)) fun y38=>
 cnd y38
 (bind (bop .int .sub s12 (Value.int .i64 1)) fun y39=>
 ret (.nrm [s0,s1,s4,s11,y39]))
 (ret (.ext 4 [s0,s1,s4,s11,s12]))
noncomputable def Qy.l1 (Γ : Zd) (s0 s1 s4 s11 s12 : Value) : M Out:=
 jn (Zh (c5 (Qy.l2 Γ)) [s0,s1,s4,s11,s12]) noN (xk 2 (c5 fun q25_0 q25_1 q25_2 q25_3 q25_4=>
 jn (Zh (c5 (Qy.l3 Γ)) [q25_0,q25_1,q25_2,q25_3,q25_4]) noN (xk 4 (c5 fun q41_0 q41_1 q41_2 q41_3 q41_4=>
 bind (bop .int .gtr q41_3 q41_4) fun y42=>
 cnd y42
 (ret (.ext 0 [q41_3]))
 (bind (ixa 1 q41_0 q41_4) fun y43=>
 bind (ld1 y43) fun y44=>
 bind (ixa 1 q41_0 q41_3) fun y45=>
 bind (ld1 y45) fun y46=>
 bind (ixa 1 q41_0 q41_3) fun y47=>
 bind (st1 y47 y44) fun _=>
 bind (ixa 1 q41_0 q41_4) fun y48=>
 bind (st1 y48 y46) fun _=>
 bind (bop .int .add q41_3 (Value.int .i64 1)) fun y49=>
 bind (bop .int .sub q41_4 (Value.int .i64 1)) fun y50=>
 ret (.nrm [q41_0,q41_1,q41_2,y49,y50]))) noX) ZP) noX) ZP
noncomputable def Qy (Γ : Zd) (x0 x1 x2 x3 x4 : Value) : M Value:=
 bind (ixa 1 x0 x3) fun y1=>
 bind (ld1 y1) fun y2=>
 bind (ixa 1 x0 x1) fun y3=>
 bind (ld1 y3) fun y4=>
 bind (ixa 1 x0 x1) fun y5=>
 bind (st1 y5 y2) fun _=>
 bind (ixa 1 x0 x3) fun y6=>
 bind (st1 y6 y4) fun _=>
 bind (bop .int .add x1 (Value.int .i64 1)) fun y7=>
 bind (bop .int .sub x2 (Value.int .i64 1)) fun y8=>
 jn (Zh (c5 (Qy.l1 Γ)) [x0,x1,x4,y7,y8]) noN (xk 0 (c1 fun q54_0=>
 ret q54_0) noX) ret
noncomputable def ZW.l1 (Γ : Zd) (s0 s1 s4 s12 s13 : Value) : M Out:=
 bind (bop .int .leq s12 s13) fun y9=>
 bind (Zp y9 true (ret s4)) fun y10=>
 bind (Zp y9 true (ret s0)) fun y11=>
 bind (Zp y9 true (ret s12)) fun y12=>
 bind (Zp y9 true (ixa 1 y11 y12)) fun y13=>
 bind (Zp y9 true (ld1 y13)) fun y14=>
 bind (Zp y9 true (ret s0)) fun y15=>
 bind (Zp y9 true (ret s1)) fun y16=>
 bind (Zp y9 true (ixa 1 y15 y16)) fun y17=>
 bind (Zp y9 true (ld1 y17)) fun y18=>
 bind (Zp y9 true (JQ Γ y10 [y14,y18])) fun y19=>
 bind (Zp y9 true (bop .int .lss y19 (Value.int .i64 0))) fun y20=>
 bind (pick y9 y20 (Value.bool false)) fun y21=>
 cnd y21
 (bind (bop .int .add s12 (Value.int .i64 1)) fun y22=>
 ret (.nrm [s0,s1,s4,y22,s13]))
 (ret (.ext 0 [s0,s1,s4,s12,s13]))
noncomputable def ZW.l2 (Γ : Zd) (s0 s1 s4 s12 s13 : Value) : M Out:=
 bind (bop .int .leq s12 s13) fun y25=>
 bind (Zp y25 true (ret s4)) fun y26=>
 bind (Zp y25 true (ret s0)) fun y27=>
 bind (Zp y25 true (ret s13)) fun y28=>
 bind (Zp y25 true (ixa 1 y27 y28)) fun y29=>
 bind (Zp y25 true (ld1 y29)) fun y30=>
 bind (Zp y25 true (ret s0)) fun y31=>
 bind (Zp y25 true (ret s1)) fun y32=>
 bind (Zp y25 true (ixa 1 y31 y32)) fun y33=>
 bind (Zp y25 true (ld1 y33)) fun y34=>
 bind (Zp y25 true (JQ Γ y26 [y30,y34])) fun y35=>
 bind (Zp y25 true (bop .int .lss y35 (Value.int .i64 0))) fun y36=>
 bind (Zp y25 true (uop .not y36)) fun y37=>
 bind (pick y25 y37 (Value.bool false)) fun y38=>
 cnd y38
 (bind (bop .int .sub s13 (Value.int .i64 1)) fun y39=>
 ret (.nrm [s0,s1,s4,s12,y39]))
 (ret (.ext 2 [s0,s1,s4,s12,s13]))
noncomputable def ZW.l4 (Γ : Zd) (s0 s1 s4 s12 s13 : Value) : M Out:=
 bind (bop .int .leq s12 s13) fun y57=>
 bind (Zp y57 true (ret s4)) fun y58=>
 bind (Zp y57 true (ret s0)) fun y59=>
 bind (Zp y57 true (ret s12)) fun y60=>
 bind (Zp y57 true (ixa 1 y59 y60)) fun y61=>
 bind (Zp y57 true (ld1 y61)) fun y62=>
 bind (Zp y57 true (ret s0)) fun y63=>
 bind (Zp y57 true (ret s1)) fun y64=>
 bind (Zp y57 true (ixa 1 y63 y64)) fun y65=>
 bind (Zp y57 true (ld1 y65)) fun y66=>
 bind (Zp y57 true (JQ Γ y58 [y62,y66])) fun y67=>
 bind (Zp y57 true (bop .int .lss y67 (Value.int .i64 0))) fun y68=>
 bind (pick y57 y68 (Value.bool false)) fun y69=>
 cnd y69
 (bind (bop .int .add s12 (Value.int .i64 1)) fun y70=>
 ret (.nrm [s0,s1,s4,y70,s13]))
 (ret (.ext 6 [s0,s1,s4,s12,s13]))
noncomputable def ZW.l5 (Γ : Zd) (s0 s1 s4 s12 s13 : Value) : M Out:=
 bind (bop .int .leq s12 s13) fun y73=>
 bind (Zp y73 true (ret s4)) fun y74=>
 bind (Zp y73 true (ret s0)) fun y75=>
 bind (Zp y73 true (ret s13)) fun y76=>
 bind (Zp y73 true (ixa 1 y75 y76)) fun y77=>
 bind (Zp y73 true (ld1 y77)) fun y78=>
 bind (Zp y73 true (ret s0)) fun y79=>
 bind (Zp y73 true (ret s1)) fun y80=>
 bind (Zp y73 true (ixa 1 y79 y80)) fun y81=>
 bind (Zp y73 true (ld1 y81)) fun y82=>
 bind (Zp y73 true (JQ Γ y74 [y78,y82])) fun y83=>
 bind (Zp y73 true (bop .int .lss y83 (Value.int .i64 0))) fun y84=>
 bind (Zp y73 true (uop .not y84)) fun y85=>
 bind (pick y73 y85 (Value.bool false)) fun y86=>
 cnd y86
 (bind (bop .int .sub s13 (Value.int .i64 1)) fun y87=>
 ret (.nrm [s0,s1,s4,s12,y87]))
 (ret (.ext 8 [s0,s1,s4,s12,s13]))
noncomputable def ZW.l3 (Γ : Zd) (s0 s1 s4 s12 s13 : Value) : M Out:=
 jn (Zh (c5 (ZW.l4 Γ)) [s0,s1,s4,s12,s13]) noN (xk 6 (c5 fun q72_0 q72_1 q72_2 q72_3 q72_4=>
 jn (Zh (c5 (ZW.l5 Γ)) [q72_0,q72_1,q72_2,q72_3,q72_4]) noN (xk 8 (c5 fun q89_0 q89_1 q89_2 q89_3 q89_4=>
 bind (bop .int .gtr q89_3 q89_4) fun y90=>
 cnd y90
 (ret (.ext 4 [q89_0,q89_1,q89_4]))
 (bind (ixa 1 q89_0 q89_4) fun y91=>
 bind (ld1 y91) fun y92=>
 bind (ixa 1 q89_0 q89_3) fun y93=>
 bind (ld1 y93) fun y94=>
 bind (ixa 1 q89_0 q89_3) fun y95=>
 bind (st1 y95 y92) fun _=>
 bind (ixa 1 q89_0 q89_4) fun y96=>
 bind (st1 y96 y94) fun _=>
 bind (bop .int .add q89_3 (Value.int .i64 1)) fun y97=>
 bind (bop .int .sub q89_4 (Value.int .i64 1)) fun y98=>
 ret (.nrm [q89_0,q89_1,q89_2,y97,y98]))) noX) ZP) noX) ZP
noncomputable def ZW (Γ : Zd) (x0 x1 x2 x3 x4 : Value) : M Value:=
 bind (ixa 1 x0 x3) fun y1=>
 bind (ld1 y1) fun y2=>
 bind (ixa 1 x0 x1) fun y3=>
 bind (ld1 y3) fun y4=>
 bind (ixa 1 x0 x1) fun y5=>
 bind (st1 y5 y2) fun _=>
 bind (ixa 1 x0 x3) fun y6=>
 bind (st1 y6 y4) fun _=>
 bind (bop .int .add x1 (Value.int .i64 1)) fun y7=>
 bind (bop .int .sub x2 (Value.int .i64 1)) fun y8=>
 jn (Zh (c5 (ZW.l1 Γ)) [x0,x1,x4,y7,y8]) noN (xk 0 (c5 fun q24_0 q24_1 q24_2 q24_3 q24_4=>
 jn (Zh (c5 (ZW.l2 Γ)) [q24_0,q24_1,q24_2,q24_3,q24_4]) noN (xk 2 (c5 fun q41_0 q41_1 q41_2 q41_3 q41_4=>
 bind (bop .int .gtr q41_3 q41_4) fun y42=>
 cnd y42
 (bind (ixa 1 q41_0 q41_1) fun y43=>
 bind (ld1 y43) fun y44=>
 bind (ixa 1 q41_0 q41_4) fun y45=>
 bind (ld1 y45) fun y46=>
 bind (ixa 1 q41_0 q41_4) fun y47=>
 bind (st1 y47 y44) fun _=>
 bind (ixa 1 q41_0 q41_1) fun y48=>
 bind (st1 y48 y46) fun _=>
 ret (Value.tuple #[q41_4,(Value.bool true)]))
 (bind (ixa 1 q41_0 q41_4) fun y49=>
 bind (ld1 y49) fun y50=>
 bind (ixa 1 q41_0 q41_3) fun y51=>
 bind (ld1 y51) fun y52=>
 bind (ixa 1 q41_0 q41_3) fun y53=>
 bind (st1 y53 y50) fun _=>
 bind (ixa 1 q41_0 q41_4) fun y54=>
 bind (st1 y54 y52) fun _=>
 bind (bop .int .add q41_3 (Value.int .i64 1)) fun y55=>
 bind (bop .int .sub q41_4 (Value.int .i64 1)) fun y56=>
 jn (Zh (c5 (ZW.l3 Γ)) [q41_0,q41_1,q41_2,y55,y56]) noN (xk 4 (c3 fun q102_0 q102_1 q102_2=>
 bind (ixa 1 q102_0 q102_1) fun y103=>
 bind (ld1 y103) fun y104=>
 bind (ixa 1 q102_0 q102_2) fun y105=>
 bind (ld1 y105) fun y106=>
 bind (ixa 1 q102_0 q102_2) fun y107=>
 bind (st1 y107 y104) fun _=>
 bind (ixa 1 q102_0 q102_1) fun y108=>
 bind (st1 y108 y106) fun _=>
 ret (Value.tuple #[q102_2,(Value.bool false)])) noX) ret)) noX) ret) noX) ret
noncomputable def Zdj (Γ : Zd) (x0 : Value) : M Value:=
 bind (bop .int .geq x0 (Value.int .u64 4294967296)) fun y1=>
 jn (cnd y1
 (bind (bop .int .shr x0 (Value.int .u64 32)) fun y2=>
 ret (.nrm [y2,(Value.int .i64 32)]))
 (ret (.nrm [x0,(Value.int .i64 0)]))) (c2 fun q3_0 q3_1=>
 bind (bop .int .geq q3_0 (Value.int .u64 65536)) fun y4=>
 jn (cnd y4
 (bind (bop .int .shr q3_0 (Value.int .u64 16)) fun y5=>
 bind (bop .int .add q3_1 (Value.int .i64 16)) fun y6=>
 ret (.nrm [y5,y6]))
 (ret (.nrm [q3_0,q3_1]))) (c2 fun q7_0 q7_1=>
 bind (bop .int .geq q7_0 (Value.int .u64 256)) fun y8=>
 jn (cnd y8
 (bind (bop .int .shr q7_0 (Value.int .u64 8)) fun y9=>
 bind (bop .int .add q7_1 (Value.int .i64 8)) fun y10=>
 ret (.nrm [y9,y10]))
 (ret (.nrm [q7_0,q7_1]))) (c2 fun q11_0 q11_1=>
 bind (cvi .u8 q11_0) fun y12=>
 bind (ixs (Value.string ⟨#[0,1,2,2,3,3,3,3,4,4,4,4,4,4,4,4,5,5,5,5,5,5,5,5,5,5,5,5,5,5,5,5,6,6,6,6,6,6,6,6,6,6,6,6,6,6,6,6,6,6,6,6,6,6,6,6,6,6,6,6,6,6,6,6,7,7,7,7,7,7,7,7,7,7,7,7,7,7,7,7,7,7,7,7,7,7,7,7,7,7,7,7,7,7,7,7,7,7,7,7,7,7,7,7,7,7,7,7,7,7,7,7,7,7,7,7,7,7,7,7,7,7,7,7,7,7,7,7,8,8,8,8,8,8,8,8,8,8,8,8,8,8,8,8,8,8,8,8,8,8,8,8,8,8,8,8,8,8,8,8,8,8,8,8,8,8,8,8,8,8,8,8,8,8,8,8,8,8,8,8,8,8,8,8,8,8,8,8,8,8,8,8,8,8,8,8,8,8,8,8,8,8,8,8,8,8,8,8,8,8,8,8,8,8,8,8,8,8,8,8,8,8,8,8,8,8,8,8,8,8,8,8,8,8,8,8,8,8,8,8,8,8,8,8,8,8,8,8,8,8,8,8,8,8,8,8]⟩) y12) fun y13=>
 bind (cvi .i64 y13) fun y14=>
 bind (bop .int .add q11_1 y14) fun y15=>
 ret y15) noX ret) noX ret) noX ret
theorem Zj8 (Γ : Zd) (x0 : Value) : ZG Tryz.prog Γ Tryz.f157 ZeU [x0]=Zdj Γ x0:=by kernel_rfl
theorem Zjs {prim : FuncId→Option (List Value→M Value)} (hp : prim Zby=none) (n : Nat) (x0 : Value) : run Tryz.prog prim lvs (n+1) Zby [x0]=Zdj (run Tryz.prog prim lvs n) x0:=
 (Zs hp (by kernel_rfl) Tryz.func157 (by kernel_rfl)).trans (Zj8 _ x0)
noncomputable def Kp (Γ : Zd) (x0 x1 : Value) : M Value:=
 bind (Γ Yc [x0,x1]) fun y1=>
 ret y1
theorem ZcP (Γ : Zd) (x0 x1 : Value) : ZG Tryz.prog Γ Tryz.f159 W3 [x0,x1]=Kp Γ x0 x1:=by kernel_rfl
theorem ZcA {prim : FuncId→Option (List Value→M Value)} (hp : prim JN=none) (n : Nat) (x0 x1 : Value) : run Tryz.prog prim lvs (n+1) JN [x0,x1]=Kp (run Tryz.prog prim lvs n) x0 x1:=
 (Zs hp (by kernel_rfl) Tryz.func159 (by kernel_rfl)).trans (ZcP _ x0 x1)
noncomputable def JG.l1 (Γ : Zd) (s0 s1 s5 s6 s7 s8 s9 : Value) : M Out:=
 bind (bop .int .lss s9 s7) fun y5=>
 cnd y5
 (bind (bop .int .mul s8 (Value.int .u32 16777619)) fun y6=>
 bind (ixs s0 s9) fun y7=>
 bind (cvi .u32 y7) fun y8=>
 bind (bop .int .add y6 y8) fun y9=>
 bind (bop .int .add s9 (Value.int .i64 1)) fun y10=>
 ret (.nrm [s0,s1,s5,s6,s7,y9,y10]))
 (ret (.ext 0 [s0,s1,s5,s6,s7,s8]))
noncomputable def JG.l2 (Γ : Zd) (s0 s1 s5 s6 s7 s8 s10 : Value) : M Out:=
 bind (Je s0) fun y18=>
 bind (bop .int .lss s10 y18) fun y19=>
 cnd y19
 (bind (bop .int .mul s8 (Value.int .u32 16777619)) fun y20=>
 bind (ixs s0 s10) fun y21=>
 bind (cvi .u32 y21) fun y22=>
 bind (bop .int .add y20 y22) fun y23=>
 bind (bop .int .sub s10 s7) fun y24=>
 bind (ixs s0 y24) fun y25=>
 bind (cvi .u32 y25) fun y26=>
 bind (bop .int .mul s6 y26) fun y27=>
 bind (bop .int .sub y23 y27) fun y28=>
 bind (bop .int .add s10 (Value.int .i64 1)) fun y29=>
 bind (bop .int .eql y28 s5) fun y30=>
 bind (Zx y30 true 8 (bind (bop .int .sub y29 s7) fun y31=>
 bind (sls s0 (some y31) (some y29)) fun y32=>
 bind (bop .str .eql y32 s1) fun y33=>
 ret [s0,y29,s7,y31,y29,y32,s1,y33])) (c8 fun _ _ _ _ _ _ _ q34_7=>
 bind (pick y30 q34_7 (Value.bool false)) fun y35=>
 cnd y35
 (bind (bop .int .sub y29 s7) fun y36=>
 ret (.ret y36))
 (ret (.nrm [s0,s1,s5,s6,s7,y28,y29]))))
 (ret (.ext 2 []))
noncomputable def JG (Γ : Zd) (x0 x1 : Value) : M Value:=
 bind (Γ ZcR [x1]) fun y1=>
 bind (Zk y1 0) fun y2=>
 bind (Zk y1 1) fun y3=>
 bind (Je x1) fun y4=>
 jn (Zh (c7 (JG.l1 Γ)) [x0,x1,y2,y3,y4,(Value.int .u32 0),(Value.int .i64 0)]) noN (xk 0 (c6 fun q12_0 q12_1 q12_2 q12_3 q12_4 q12_5=>
 bind (bop .int .eql q12_5 q12_2) fun y13=>
 bind (Zx y13 true 5 (bind (sls q12_0 none (some q12_4)) fun y14=>
 bind (bop .str .eql y14 q12_1) fun y15=>
 ret [q12_0,q12_4,y14,q12_1,y15])) (c5 fun _ _ _ _ q16_4=>
 bind (pick y13 q16_4 (Value.bool false)) fun y17=>
 cnd y17
 (ret (Value.int .i64 0))
 (jn (Zh (c7 (JG.l2 Γ)) [q12_0,q12_1,q12_2,q12_3,q12_4,q12_5,q12_4]) noN (xk 2 (c0 (ret (Value.int .i64 (-1)))) noX) ret))) noX) ret
noncomputable def ZaA.l1 (Γ : Zd) (s0 s2 s3 s4 s10 : Value) : M Out:=
 bind (bop .int .mul (Value.int .i64 2) s10) fun y1=>
 bind (bop .int .add y1 (Value.int .i64 1)) fun y2=>
 bind (bop .int .geq y2 s2) fun y3=>
 cnd y3
 (ret (.ext 0 []))
 (bind (bop .int .add y2 (Value.int .i64 1)) fun y4=>
 bind (bop .int .lss y4 s2) fun y5=>
 bind (Zp y5 true (ret s4)) fun y6=>
 bind (Zp y5 true (ret s0)) fun y7=>
 bind (Zp y5 true (ret s3)) fun y8=>
 bind (Zp y5 true (ret y2)) fun y9=>
 bind (Zp y5 true (bop .int .add y8 y9)) fun y10=>
 bind (Zp y5 true (ixa 1 y7 y10)) fun y11=>
 bind (Zp y5 true (ld1 y11)) fun y12=>
 bind (Zp y5 true (ret s0)) fun y13=>
 bind (Zp y5 true (ret s3)) fun y14=>
 bind (Zp y5 true (ret y2)) fun y15=>
 bind (Zp y5 true (bop .int .add y14 y15)) fun y16=>
 bind (Zp y5 true (bop .int .add y16 (Value.int .i64 1))) fun y17=>
 bind (Zp y5 true (ixa 1 y13 y17)) fun y18=>
 bind (Zp y5 true (ld1 y18)) fun y19=>
 bind (Zp y5 true (JQ Γ y6 [y12,y19])) fun y20=>
 bind (Zp y5 true (bop .int .lss y20 (Value.int .i64 0))) fun y21=>
 bind (pick y5 y21 (Value.bool false)) fun y22=>
 jn (cnd y22
 (bind (bop .int .add y2 (Value.int .i64 1)) fun y23=>
 ret (.nrm [s0,s2,s3,s4,s10,y23]))
 (ret (.nrm [s0,s2,s3,s4,s10,y2]))) (c6 fun q24_0 q24_1 q24_2 q24_3 q24_4 q24_5=>
 bind (bop .int .add q24_2 q24_4) fun y25=>
 bind (ixa 1 q24_0 y25) fun y26=>
 bind (ld1 y26) fun y27=>
 bind (bop .int .add q24_2 q24_5) fun y28=>
 bind (ixa 1 q24_0 y28) fun y29=>
 bind (ld1 y29) fun y30=>
 bind (JQ Γ q24_3 [y27,y30]) fun y31=>
 bind (bop .int .lss y31 (Value.int .i64 0)) fun y32=>
 bind (uop .not y32) fun y33=>
 cnd y33
 (ret (.ret (Value.tuple #[])))
 (bind (bop .int .add q24_2 q24_4) fun y34=>
 bind (bop .int .add q24_2 q24_5) fun y35=>
 bind (bop .int .add q24_2 q24_5) fun y36=>
 bind (ixa 1 q24_0 y36) fun y37=>
 bind (ld1 y37) fun y38=>
 bind (bop .int .add q24_2 q24_4) fun y39=>
 bind (ixa 1 q24_0 y39) fun y40=>
 bind (ld1 y40) fun y41=>
 bind (ixa 1 q24_0 y34) fun y42=>
 bind (st1 y42 y38) fun _=>
 bind (ixa 1 q24_0 y35) fun y43=>
 bind (st1 y43 y41) fun _=>
 ret (.nrm [q24_0,q24_1,q24_2,q24_3,q24_5]))) noX ZP)
noncomputable def ZaA (Γ : Zd) (x0 x1 x2 x3 x4 : Value) : M Value:=
 jn (Zh (c5 (ZaA.l1 Γ)) [x0,x2,x3,x4,x1]) noN (xk 0 (c0 (ret (Value.tuple #[]))) noX) ret
noncomputable def Yp.l1 (Γ : Zd) (s0 s4 s5 : Value) : M Out:=
 bind (Je s0) fun y1=>
 bind (bop .int .lss s5 y1) fun y2=>
 cnd y2
 (bind (bop .int .mul s4 (Value.int .u32 16777619)) fun y3=>
 bind (ixs s0 s5) fun y4=>
 bind (cvi .u32 y4) fun y5=>
 bind (bop .int .add y3 y5) fun y6=>
 bind (bop .int .add s5 (Value.int .i64 1)) fun y7=>
 ret (.nrm [s0,y6,y7]))
 (ret (.ext 0 [s0,s4]))
noncomputable def Yp.l2 (Γ : Zd) (s4 s6 s7 s8 : Value) : M Out:=
 bind (bop .int .gtr s8 (Value.int .i64 0)) fun y11=>
 cnd y11
 (bind (bop .int .and s8 (Value.int .i64 1)) fun y12=>
 bind (bop .int .neq y12 (Value.int .i64 0)) fun y13=>
 jn (cnd y13
 (bind (bop .int .mul s6 s7) fun y14=>
 ret (.nrm [s4,y14,s7,s8]))
 (ret (.nrm [s4,s6,s7,s8]))) (c4 fun q15_0 q15_1 q15_2 q15_3=>
 bind (bop .int .mul q15_2 q15_2) fun y16=>
 bind (bop .int .shr q15_3 (Value.int .u64 1)) fun y17=>
 ret (.nrm [q15_0,q15_1,y16,y17])) noX ZP)
 (ret (.ext 2 [s4,s6]))
noncomputable def Yp (Γ : Zd) (x0 : Value) : M Value:=
 jn (Zh (c3 (Yp.l1 Γ)) [x0,(Value.int .u32 0),(Value.int .i64 0)]) noN (xk 0 (c2 fun q9_0 q9_1=>
 bind (Je q9_0) fun y10=>
 jn (Zh (c4 (Yp.l2 Γ)) [q9_1,(Value.int .u32 1),(Value.int .u32 16777619),y10]) noN (xk 2 (c2 fun q20_0 q20_1=>
 ret (Value.tuple #[q20_0,q20_1])) noX) ret) noX) ret
end Go.Proofs.YtnnehafmjfmbnaaGreatDoor.A

namespace Go.Proofs.YtnnehafmjfmbnaaGreatDoor.A
set_option linter.unusedVariables false
set_option linter.unusedSimpArgs false
open Go.Sort
section
variable {P : Program} {w0 : Z6} {ι : Nat→Option Loc} {H H1 : Zc} {w w' : World} {v : Value} {G : Nat}
def ZaL (args : List Value) : M Value:=fun H=>
 match args with
 | [.map none]=>some (.map none,H)
 | [.map (some id)]=>match H[id]? with
  | some (.map es clk)=>some (.map (some H.length),H++[.map es clk])
  | some (.mapU es)=>some (.map (some H.length),H++[.mapU es])
  | _=>none
 | _=>none
structure ZeY (P : Program) (g : FuncId) : Prop where
 c : ZbG P g
 nil : ∀ w,Calls P g #[.map none] w fun e w'=>e=.returned (.map none)∧w'=w
 some : ∀ b es clock w,w.heap[b]?=some (.map es clock)→Calls P g #[.map (some b)] w fun e w'=>e=.returned (.map (some w.heap.size))∧w'=w.alloc (.map es clock)
theorem ZfX {g : FuncId} (hC : ZeY P g) : Zd5 P G w0 g ZaL:=by
 intro args H v H1 h
 refine .inl ⟨hC.c,fun ι w args' hS hr=>?_⟩
 unfold ZaL at h
 split at h
 ·cases h
  obtain ⟨x,r,rfl,hx,hr2⟩:=hr.cons_inv
  rw [hr2.nil_inv,hx.scalar_inv rfl]
  refine (hC.nil w).mono fun e w' ⟨he,hw⟩=>⟨ι,_,.refl ι,he,.sc rfl,by rw [hw];exact hS⟩
 ·obtain ⟨x,r,rfl,hx,hr2⟩:=hr.cons_inv
  obtain ⟨l,hl,rfl⟩:=hx.map_inv
  rw [hr2.nil_inv]
  split at h
  ·rename_i id _ es clk hid
   cases h
   obtain ⟨en,hb,hge,hE⟩:=hS.mapR hid hl
   refine (hC.some l.blk en clk w hb).mono fun e w' ⟨he,hw⟩=>?_
   have hnew:=hS.new (x:=.map es clk) (l:=⟨w.heap.size,0,0,0,false⟩) (.map en clk) rfl ⟨_,en,Qf _ _ _,ZcD w _,hS.size,hE.mono (J7 hS _)⟩
   exact ⟨_,_,J7 hS _,he,.mp (Qf _ _ _),by rw [hw];exact hnew⟩
  ·rename_i id _ es hid
   cases h
   obtain ⟨en,clk,es2,hb,hge,hE,hp⟩:=hS.mapUR hid hl
   refine (hC.some l.blk en clk w hb).mono fun e w' ⟨he,hw⟩=>?_
   have hnew:=hS.new (x:=.mapU es) (l:=⟨w.heap.size,0,0,0,false⟩) (.map en clk) rfl ⟨_,en,clk,es2,Qf _ _ _,ZcD w _,hS.size,hE.mono (J7 hS _),hp⟩
   exact ⟨_,_,J7 hS _,he,.mp (Qf _ _ _),by rw [hw];exact hnew⟩
  ·cases h
 ·cases h
abbrev YH (ks : List (List UInt8)) : List (List UInt8):=ks.mergeSort leB
structure Zd8 (es : List (Value × Value × Nat)) (ks : List (List UInt8)) : Prop where
 keys : es.map (·.1)=ks.map strv
 nod : ks.Nodup
 few : ks.length≤1000000
 len : ∀ k∈ks,k.length≤1000000
theorem Zki {a b : List UInt8} (h : strv a=strv b) : a=b:=by simpa [strv] using h
theorem Zow {a b : List (List UInt8)} (h : a.map strv=b.map strv) : a=b:=by
 have : Function.Injective strv:=fun _ _ h=>Zki h
 exact (List.map_inj_right (fun _ _ h=>Zki h)).1 h
def Zgn (ks : List (List UInt8)) (H : Zc) : Option (Value × Zc):=
 if ks=[] then some (.slice none 0 0,H)
 else some (.slice (some ⟨H.length,0,none⟩) ks.length ks.length,H++[.cells ((YH ks).map strv) 1 true false])
open Classical in
noncomputable def ZcS (gks : List FuncId) (gc : FuncId) (args : List Value) : M Value:=fun H=>
 if h : ∃ gk c id es ks,gk∈gks∧args=[.func (.func gk) #[] #[pt c],.func (.func gc) #[] #[]]∧(∃ e,H[c]?=some (.cells [.map (some id)] e false false))∧Zd8 es ks∧((∃ clk,H[id]?=some (.map es clk)∧Za9 es clk)∨H[id]?=some (.mapU es)) then
  Zgn (Classical.choose (Classical.choose_spec (Classical.choose_spec (Classical.choose_spec (Classical.choose_spec h))))) H
 else none
theorem Zpm {gks : List FuncId} {gc gk : FuncId} {c id e : Nat} {es : List (Value × Value × Nat)} {ks : List (List UInt8)} (hg : gk∈gks) (hc : H[c]?=some (.cells [.map (some id)] e false false)) (hk : Zd8 es ks)
  (hm : (∃ clk,H[id]?=some (.map es clk)∧Za9 es clk)∨H[id]?=some (.mapU es)) : ZcS gks gc [.func (.func gk) #[] #[pt c],.func (.func gc) #[] #[]] H=Zgn ks H:=by
 have hex : ∃ gk' c' id' es' ks',gk'∈gks∧[Value.func (.func gk) #[] #[pt c],.func (.func gc) #[] #[]]=[.func (.func gk') #[] #[pt c'],.func (.func gc) #[] #[]]∧(∃ e,H[c']?=some (.cells [.map (some id')] e false false))∧Zd8 es' ks'∧((∃ clk,H[id']?=some (.map es' clk)∧Za9 es' clk)∨H[id']?=some (.mapU es')):=
  ⟨gk,c,id,es,ks,hg,rfl,⟨e,hc⟩,hk,hm⟩
 unfold ZcS
 rw [dif_pos hex]
 congr 1
 obtain ⟨_,h2,⟨e',h3⟩,h4,h5⟩:=Classical.choose_spec (Classical.choose_spec (Classical.choose_spec (Classical.choose_spec (Classical.choose_spec hex))))
 generalize Classical.choose (Classical.choose_spec (Classical.choose_spec (Classical.choose_spec (Classical.choose_spec hex))))=ks' at h4 ⊢
 generalize Classical.choose (Classical.choose_spec (Classical.choose_spec (Classical.choose_spec hex)))=es' at h4 h5
 generalize Classical.choose (Classical.choose_spec (Classical.choose_spec hex))=id' at h3 h5
 generalize Classical.choose (Classical.choose_spec hex)=c' at h2 h3
 have ec : c=c':=by simp at h2;exact h2.2
 subst ec
 rw [hc] at h3
 have ei : id=id':=by simp at h3;exact h3.1
 subst ei
 have ees : es'=es:=by
  rcases hm with ⟨clk,h6,_⟩ | h6 <;> rcases h5 with ⟨clk',h7,_⟩ | h7 <;> rw [h6] at h7 <;> cases h7 <;> rfl
 subst ees
 exact Zow (h4.keys.symm.trans hk.keys)
theorem ZrM {gks : List FuncId} {gc : FuncId} {args : List Value} (h : ZcS gks gc args H=some (v,H1)) :
  ∃ gk c id e es ks,gk∈gks∧args=[.func (.func gk) #[] #[pt c],.func (.func gc) #[] #[]]∧H[c]?=some (.cells [.map (some id)] e false false)∧Zd8 es ks∧((∃ clk,H[id]?=some (.map es clk)∧Za9 es clk)∨H[id]?=some (.mapU es))∧Zgn ks H=some (v,H1):=by
 have h0:=h
 unfold ZcS at h
 split at h
 ·rename_i hex
  obtain ⟨gk,c,id,es,ks,h1,rfl,⟨e,h3⟩,h4,h5⟩:=hex
  rw [Zpm h1 h3 h4 h5] at h0
  exact ⟨gk,c,id,e,es,ks,h1,rfl,h3,h4,h5,h0⟩
 ·cases h
structure Zgk (P : Program) (g gk gc : FuncId) : Prop where
 c : ZbG P g
 run : ∀ (w : World) (Bm b : Nat) (es : Array MapEntry) (clock : Nat) (ks : List (List UInt8)),Bm < w.heap.size→w.cell? ⟨Bm,0,none⟩=some (.map (some b))→w.heap[b]?=some (.map es clock)→es.toList.map (·.key)=ks.map strv→Go.MapKept.Stamped es clock→
  (∀ k∈ks,k.length≤1000000)→ks.length≤1000000→
  Calls P g #[.func (.func gk) #[] #[.pointer (some ⟨Bm,0,none⟩)],.func (.func gc) #[] #[]] w fun e w'=>∃ (v : Value) (t : TypeId),e=.returned v∧w'.ownsRow w.heap.size t 1 v ks.length ((YH ks).map strv)∧(v=.slice none 0 0↔ks=[])∧Go.RowKit.Below w.heap.size w w'
theorem Sim.below (h : Sim G w0 ι H w) (hb : Go.RowKit.Below w.heap.size w w') : Sim G w0 ι H w':=by
 refine ⟨fun i x hx=>(h.obj i x hx).blk fun l hl hd=>?_,h.inj,Nat.le_trans h.size hb.size,fun b hlt=>by rw [hb.block b (Nat.lt_of_lt_of_le hlt h.size)];exact h.old b hlt,h.dom,h.glob,?_,fun b hbp=>?_,fun j cs es nx l hj hl=>(h.views j cs es nx l hj hl).to (.refl ι) fun h1 ⟨c0,el0,fr0,hc0⟩=>⟨fun c el fr hc=>⟨fr,by rw [hb.block _ (Array.getElem?_eq_some_iff.1 hc0).1];exact hc⟩,h1⟩⟩
 ·obtain ⟨l',hl',hlt⟩:=(h.obj i x hx).loc hd
  rw [hl] at hl';cases hl'
  exact hb.block _ hlt
 ·rw [hb.os,hb.tape,hb.output];exact h.rest
 ·obtain ⟨p1,p2,p3⟩:=h.prot b hbp
  have hlt : b < w.heap.size:=by
   rcases Nat.lt_or_ge b w.heap.size with h1 | h1
   ·exact h1
   ·rw [Array.getElem?_eq_none h1] at p1;cases p1
  exact ⟨by rw [hb.block b hlt];exact p1,p2,p3⟩
theorem Jt.keys {ι : Nat→Option Loc} : ∀ {es : List (Value × Value × Nat)} {en : List MapEntry},Jt ι es en→en.map (·.key)=es.map (·.1)∧en.map (·.born)=es.map (·.2.2)
 | [],[],_=>⟨rfl,rfl⟩
 | e :: es,n :: ns,h=>by
  obtain ⟨h1,h2⟩:=Jt.keys h.2
  exact ⟨by rw [List.map_cons,List.map_cons,h1,h.1.2.1],by rw [List.map_cons,List.map_cons,h2,h.1.2.2.2]⟩
 | [],_ :: _,h=>h.elim
 | _ :: _,[],h=>h.elim
theorem Zq8 {a b : List (List UInt8)} (h : a.Perm b) : YH a=YH b:=mergeSort_of_perm h
theorem ZmY (ks : List (List UInt8)) : (YH ks).length=ks.length:=List.length_mergeSort ks
theorem Zgt {ks : List (List UInt8)} (h : ks.Nodup) : (ks.map strv).Nodup:=by
 rw [List.nodup_iff_pairwise_ne] at h ⊢
 rw [List.pairwise_map]
 exact h.imp fun h e=>h (Zki e)
theorem ZpX {gks : List FuncId} {g gc : FuncId} (hgks : gks≠[]) (hC : ∀ gk∈gks,Zgk P g gk gc) : Zd5 P G w0 g (ZcS gks gc):=by
 intro args H v H1 h
 have hcall : ZbG P g:=by
  cases gks with
  | nil=>exact absurd rfl hgks
  | cons a l=>exact (hC a (by simp)).c
 refine .inl ⟨hcall,fun ι w args' hS hr=>?_⟩
 obtain ⟨gk,c,id,e,es,ks,hg,rfl,hc,hk,hm,ho⟩:=ZrM h
 obtain ⟨x,r,rfl,hx,hr2⟩:=hr.cons_inv
 obtain ⟨y,r,rfl,hy,hr3⟩:=hr2.cons_inv
 rw [hr3.nil_inv]
 obtain ⟨a1,b1,rfl,ha1,hb1⟩:=hx.fn_inv
 obtain ⟨a2,b2,rfl,ha2,hb2⟩:=hy.fn_inv
 have ea1 : a1=#[]:=by have:=ha1.nil_inv;simpa using this
 have ea2 : a2=#[]:=by have:=ha2.nil_inv;simpa using this
 have eb2 : b2=#[]:=by have:=hb2.nil_inv;simpa using this
 obtain ⟨p',q',eb1,hp',hq'⟩:=hb1.cons_inv
 have:=hq'.nil_inv
 subst this
 obtain ⟨lc,hlc,rfl⟩:=hp'.ptr_inv
 have eb1 : b1=#[.pointer (some ⟨lc.blk,lc.base+0,none⟩)]:=by
  apply Array.ext'
  simpa using eb1
 subst ea1
 subst ea2
 subst eb2
 subst eb1
 obtain ⟨cc,el,fr,_,hgrow,hbc,hb5,hb6,hrc,hro,_⟩:=hS.cellsR hc hlc
 have hbase : lc.base=0:=(hro rfl).2.2 hgrow
 have hbl : lc.blk < w.heap.size:=by
  rcases Nat.lt_or_ge lc.blk w.heap.size with h1 | h1
  ·exact h1
  ·rw [Array.getElem?_eq_none h1] at hbc;cases hbc
 obtain ⟨u,hu1,hu2⟩:=hrc.at (o:=0) (by simp)
 obtain ⟨lm,hlm,hu3⟩:=RV.map_inv (id:=id) hu2
 subst hu3
 have hcell : w.cell? ⟨lc.blk,0,none⟩=some (.map (some lm.blk)):=by
  rw [ZeD hbc]
  simpa [hbase] using hu1
 obtain ⟨en,clock,ks',hmb,hkeys,hst,hperm⟩ : ∃ (en : Array MapEntry) (clock : Nat) (ks' : List (List UInt8)),w.heap[lm.blk]?=some (.map en clock)∧en.toList.map (·.key)=ks'.map strv∧Go.MapKept.Stamped en clock∧ks'.Perm ks:=by
  rcases hm with ⟨clk,hid,hst⟩ | hid
  ·obtain ⟨en,hb,_,hE⟩:=hS.mapR hid hlm
   obtain ⟨k1,k2⟩:=Jt.keys hE
   refine ⟨en,clk,ks,hb,k1.trans hk.keys,⟨fun x hx=>?_,by rw [k2];exact hst.nod,by rw [k1,hk.keys];exact Zgt hk.nod⟩,.refl _⟩
   have : x.born∈en.toList.map (·.born):=List.mem_map.2 ⟨x,hx,rfl⟩
   rw [k2] at this
   obtain ⟨e',h1,h2⟩:=List.mem_map.1 this
   rw [← h2];exact hst.lt e' h1
  ·obtain ⟨en,clk,es2,hb,_,hE,hp⟩:=hS.mapUR hid hlm
   obtain ⟨k1,k2⟩:=Jt.keys hE
   have hpk : (es2.map (·.1)).Perm (es.map (·.1)):=by
    have:=hp.perm.map (·.1)
    rwa [ZcZ,ZcZ] at this
   obtain ⟨ks2,hks2⟩ : ∃ ks2 : List (List UInt8),es2.map (·.1)=ks2.map strv:=by
    refine ⟨es2.map fun e=>match e.1 with | .string s=>s.data.toList | _=>[],?_⟩
    rw [List.map_map]
    refine List.map_congr_left fun e he=>?_
    obtain ⟨s,hs⟩:=hp.strs e he
    simp [hs,strv]
   rw [hks2,hk.keys] at hpk
   have hpk2 : ks2.Perm ks:=by
    have h3:=hpk.map fun v : Value=>match v with | .string s=>s.data.toList | _=>([] : List UInt8)
    simpa [List.map_map,Function.comp_def,strv] using h3
   refine ⟨en,clk,ks2,hb,k1.trans hks2,⟨fun x hx=>?_,by rw [k2];exact hp.st.nod,by rw [k1];exact hp.nod2⟩,hpk2⟩
   have : x.born∈en.toList.map (·.born):=List.mem_map.2 ⟨x,hx,rfl⟩
   rw [k2] at this
   obtain ⟨e',h1,h2⟩:=List.mem_map.1 this
   rw [← h2];exact hp.st.lt e' h1
 have hfew:=hk.few
 have hcon:=(hC gk hg).run w lc.blk lm.blk en clock ks' hbl hcell hmb hkeys hst (fun k hm=>hk.len k (hperm.mem_iff.1 hm)) (by rw [hperm.length_eq];exact hfew)
 rw [Zq8 hperm,hperm.length_eq] at hcon
 simp only [Nat.add_zero,hbase]
 refine hcon.mono fun ee w' ⟨v',t,he,hrow,hnil,hb⟩=>?_
 have hnil2 : v'=.slice none 0 0↔ks=[]:=by
  rw [hnil]
  constructor
  ·rintro rfl;exact List.eq_nil_of_length_eq_zero (by rw [← hperm.length_eq];rfl)
  ·rintro rfl;exact List.eq_nil_of_length_eq_zero (by rw [hperm.length_eq];rfl)
 have hS':=hS.below hb
 unfold Zgn at ho
 by_cases h0 : ks=[]
 ·rw [if_pos h0] at ho
  cases ho
  exact ⟨ι,_,.refl ι,he,by rw [hnil2.2 h0];exact .sc rfl,hS'⟩
 ·rw [if_neg h0] at ho
  cases ho
  rcases hrow.2 with ⟨hv,_⟩ | ⟨gb,cap,cur,rfl,hge,hgb,r1,r2,r3,r4⟩
  ·exact absurd (hnil2.1 hv) h0
  have hlen : ((YH ks).map strv).length=ks.length:=by rw [List.length_map,ZmY]
  rw [Nat.mul_one] at r3 r4
  have hadd:=hS'.add (o:=.cells ((YH ks).map strv) 1 true false) (l:=⟨gb,0,cap,1,true⟩) ⟨⟨gb,0,cap,1,true⟩,cur,t,(0,0),Qf _ _ _,rfl,rfl,hgb,by show 0+_≤cap;omega,by show cap≤cur.size;omega,by
   show RVs _ _ ((cur.toList.drop 0).take _)
   rw [List.drop_zero,hlen,r4]
   refine ⟨rfl,fun i hi=>?_⟩
   rw [List.getD_eq_getElem?_getD,List.getElem?_eq_getElem hi]
   simp only [List.getElem_map,Option.getD_some]
   exact .sc rfl,fun _=>⟨Nat.le_trans hS.size hge,.inl rfl,fun h=>by cases h⟩,by simp,fun x hx=>by
   obtain ⟨k,_,rfl⟩:=List.mem_map.1 hx
   rfl⟩ (fun i oi li hi hw hl=>by
   have:=((hS.obj i oi hi).newer hw li hl).2
   show li.blk≠gb
   omega) (fun b hbp=>by
   have p1:=(hS.prot b hbp).1
   show gb≠b
   rintro rfl
   rw [Array.getElem?_eq_none hge] at p1;cases p1) (fun _ j cs es nx lj hj hlj hbe=>by
   rcases hS.views j cs es nx lj hj hlj with ⟨l',k1,k2⟩ | ⟨⟨c,el,fr,k1,_⟩,_⟩
   ·exact ⟨l',k1,k2⟩
   ·have:=(Array.getElem?_eq_some_iff.1 k1).1
    have hbe : lj.blk=gb:=hbe
    omega)
  refine ⟨_,_,J7 hS' _,he,?_,hadd⟩
  have:=RV.slc (ι:=YV ι H.length ⟨gb,0,cap,1,true⟩) (id:=H.length) (o:=0) (n:=ks.length) (c:=ks.length) (c':=cap) (Qf _ _ _) (Nat.le_refl _) r1 (fun h=>by cases h) (by simp)
  simpa using this
end
end Go.Proofs.YtnnehafmjfmbnaaGreatDoor.A
namespace Go.Proofs.YtnnehafmjfmbnaaGreatDoor.A
set_option linter.unusedVariables false
set_option linter.unusedSimpArgs false
section
variable {α : Type}
def Ze (k : List UInt8) : List (List UInt8 × α)→Option α
 | []=>none
 | p :: m=>if p.1=k then some p.2 else Ze k m
def JR (k : List UInt8) (m : List (List UInt8 × α)) : List (List UInt8 × α):=m.filter fun p=>decide (p.1≠k)
def QD (k : List UInt8) (v : α) (m : List (List UInt8 × α)) : List (List UInt8 × α):=
 if (Ze k m).isSome then m.map fun p=>if p.1=k then (k,v) else p else m++[(k,v)]
variable {k : List UInt8} {v : α} {m : List (List UInt8 × α)}
theorem ZfI : ∀ {m : List (List UInt8 × α)},Ze k m=none↔∀ p∈m,p.1≠k
 | []=>by simp [Ze]
 | p :: m=>by
  simp only [Ze]
  split
  ·rename_i h;simp [h]
  ·rename_i h
   rw [ZfI]
   simp [h]
theorem K9 : ∀ {m : List (List UInt8 × α)} {v : α},Ze k m=some v→(k,v)∈m
 | [],v,h=>by cases h
 | p :: m,v,h=>by
  simp only [Ze] at h
  split at h
  ·rename_i hp
   cases h
   subst hp
   simp
  ·exact List.mem_cons_of_mem _ (K9 h)
theorem Zcj : ∀ {m : List (List UInt8 × α)} {v : α},(m.map (·.1)).Nodup→(k,v)∈m→Ze k m=some v
 | [],v,_,h=>by cases h
 | p :: m,v,hn,h=>by
  simp only [List.map_cons,List.nodup_cons,List.mem_map,not_exists,not_and] at hn
  simp only [Ze]
  rcases List.mem_cons.1 h with h | h
  ·subst h;rw [if_pos rfl]
  ·rw [if_neg fun e=>hn.1 _ h e.symm]
   exact Zcj hn.2 h
theorem Ztp : ∀ {m : List (List UInt8 × α)} {v : α},Ze k m=some v→∃ j : Nat,m[j]?=some (k,v)
 | m,v,h=>List.getElem?_of_mem (K9 h)
theorem ZgQ : ∀ {m : List (List UInt8 × α)} {j : Nat} {v0 : α},(m.map (·.1)).Nodup→m[j]?=some (k,v0)→m.set j (k,v)=m.map fun p=>if p.1=k then (k,v) else p
 | [],j,v0,_,h=>by simp at h
 | p :: m,0,v0,hn,h=>by
  have : p=(k,v0):=by simpa using h
  subst this
  simp only [List.map_cons,List.nodup_cons,List.mem_map,not_exists,not_and] at hn
  simp only [List.set_cons_zero,List.map_cons,if_true]
  congr 1
  conv=>lhs;rw [← List.map_id m]
  refine List.map_congr_left fun q hq=>?_
  rw [if_neg (hn.1 q hq)];rfl
 | p :: m,j+1,v0,hn,h=>by
  have h' : m[j]?=some (k,v0):=by simpa using h
  simp only [List.map_cons,List.nodup_cons,List.mem_map,not_exists,not_and] at hn
  have hp : ¬ p.1=k:=fun e=>hn.1 (k,v0) (List.mem_of_getElem? h') e.symm
  simp only [List.set_cons_succ,List.map_cons,if_neg hp]
  rw [ZgQ hn.2 h']
theorem Zc9 : ∀ {m : List (List UInt8 × α)} {j : Nat} {v0 : α},(m.map (·.1)).Nodup→m[j]?=some (k,v0)→m.eraseIdx j=JR k m
 | [],j,v0,_,h=>by simp at h
 | p :: m,0,v0,hn,h=>by
  have : p=(k,v0):=by simpa using h
  subst this
  simp only [List.map_cons,List.nodup_cons,List.mem_map,not_exists,not_and] at hn
  unfold JR
  rw [List.eraseIdx_cons_zero,List.filter_cons,if_neg (by simp)]
  symm
  rw [List.filter_eq_self]
  exact fun q hq=>decide_eq_true (hn.1 q hq)
 | p :: m,j+1,v0,hn,h=>by
  have h' : m[j]?=some (k,v0):=by simpa using h
  simp only [List.map_cons,List.nodup_cons,List.mem_map,not_exists,not_and] at hn
  have hp : ¬ p.1=k:=fun e=>hn.1 (k,v0) (List.mem_of_getElem? h') e.symm
  have ih:=Zc9 hn.2 h'
  unfold JR at ih ⊢
  rw [List.eraseIdx_cons_succ,List.filter_cons,if_pos (by simpa using hp),ih]
theorem Zng (h : Ze k m=none) : JR k m=m:=by
 unfold JR
 rw [List.filter_eq_self]
 exact fun p hp=>decide_eq_true (ZfI.1 h p hp)
theorem ZkS (h : (m.map (·.1)).Nodup) : ((QD k v m).map (·.1)).Nodup:=by
 unfold QD
 split
 ·rw [List.map_map]
  have : ((fun p : List UInt8 × α=>p.1) ∘ fun p=>if p.1=k then (k,v) else p)=fun p=>p.1:=by
   funext p
   simp only [Function.comp]
   split
   ·rename_i h;exact h.symm
   ·rfl
  rw [this];exact h
 ·rename_i hs
  have hn : Ze k m=none:=by cases e : Ze k m <;> simp_all
  rw [List.map_append,List.nodup_append]
  refine ⟨h,by simp,fun a ha b hb=>?_⟩
  have hb : b=k:=by simpa using hb
  obtain ⟨p,hp,rfl⟩:=List.mem_map.1 ha
  rw [hb];exact ZfI.1 hn p hp
theorem ZlJ (h : (m.map (·.1)).Nodup) : ((JR k m).map (·.1)).Nodup:=(List.filter_sublist.map _).nodup h
end
theorem ZsG {a b : List UInt8} : ((⟨a.toArray⟩ : ByteArray)==⟨b.toArray⟩)=(a==b):=by
 rw [Zmz]
 simp
theorem ZeO {α : Type} {enc : α→Value} {k : List UInt8} : ∀ {es : List (Value × Value × Nat)} {m : List (List UInt8 × α)} (i : Nat),es.map kv=m.map (fun p=>(strv p.1,enc p.2))→
  (Ze k m=none∧J6 .str (strv k) es i=some none)∨∃ j v,m[j]?=some (k,v)∧Ze k m=some v∧J6 .str (strv k) es i=some (some (i+j,enc v))
 | [],[],i,_=>.inl ⟨rfl,rfl⟩
 | e :: es,p :: m,i,h=>by
  simp only [List.map_cons,List.cons.injEq,kv,Prod.mk.injEq] at h
  obtain ⟨⟨h1,h2⟩,h3⟩:=h
  have hs : Zbr .str (strv k) e.1=some (k==p.1):=by rw [h1];simp only [Zbr,strv,ZsG]
  simp only [J6,hs,Ze]
  by_cases hk : p.1=k
  ·rw [show (k==p.1)=true by rw [hk];simp,if_pos hk]
   exact .inr ⟨0,p.2,by rw [← hk];rfl,rfl,by rw [h2];rfl⟩
  ·rw [show (k==p.1)=false by rw [beq_eq_false_iff_ne];exact Ne.symm hk,if_neg hk]
   rcases ZeO (i+1) h3 with ⟨h4,h5⟩ | ⟨j,v,h4,h5,h6⟩
   ·exact .inl ⟨h4,h5⟩
   ·exact .inr ⟨j+1,v,by simpa using h4,h5,by simp only;rw [h6];congr 3;omega⟩
 | [],_ :: _,_,h=>by cases h
 | _ :: _,[],_,h=>by cases h
theorem ZgN {u : Value} : ∀ {es : List (Value × Value × Nat)} {j : Nat} {p : Value × Value},(es.map kv)[j]?=some p→(Yq es j u).map kv=(es.map kv).set j (p.1,u)
 | [],j,p,h=>by simp at h
 | e :: es,0,p,h=>by
  have : kv e=p:=by simpa using h
  subst this
  simp [Yq,kv]
 | e :: es,j+1,p,h=>by
  have:=ZgN (u:=u) (es:=es) (j:=j) (p:=p) (by simpa using h)
  simp only [Yq] at this
  simp only [Yq,List.modify_succ_cons,List.map_cons,List.set_cons_succ,this]
section
variable {α : Type} {enc : α→Value} {H H' : Zc} {id : Nat} {m : List (List UInt8 × α)} {k : List UInt8} {v : α}
structure JS (enc : α→Value) (H : Zc) (id : Nat) (m : List (List UInt8 × α)) : Prop where
 ex : ∃ es,es.map kv=m.map (fun p=>(strv p.1,enc p.2))∧((∃ clk,H[id]?=some (.map es clk)∧Za9 es clk)∨H[id]?=some (.mapU es))
 nod : (m.map (·.1)).Nodup
theorem JS.lt (h : JS enc H id m) : id < H.length:=by
 obtain ⟨es,_,h1 | h1⟩:=h.ex
 ·obtain ⟨clk,h1,_⟩:=h1;exact Jg h1
 ·exact Jg h1
theorem JS.keep (h : JS enc H id m) (hk : H'[id]?=H[id]?) : JS enc H' id m:=by
 obtain ⟨es,h1,h2⟩:=h.ex
 exact ⟨⟨es,h1,by rw [hk];exact h2⟩,h.nod⟩
theorem JS.hle (h : JS enc H id m) (hl : HLe H H') : JS enc H' id m:=h.keep (hl.step.keep id h.lt (by simp))
theorem JS.step {o1 o2 : List Nat} (h : JS enc H id m) (hs : ZH o1 H o2 H') (hn : id∉o1) : JS enc H' id m:=h.keep (hs.keep id h.lt hn)
theorem WI : okK .str (strv k)=true:=rfl
theorem JS.len (h : JS enc H id m) : lenM (.map (some id)) H=some (iv m.length,H):=by
 obtain ⟨es,h1,h2⟩:=h.ex
 have hl : es.length=m.length:=by have:=congrArg List.length h1;simpa using this
 unfold lenM
 rcases h2 with ⟨clk,h2,_⟩ | h2 <;> simp only [h2,hl]
theorem JS.lkp (h : JS enc H id m) {z : Value} {ok : Bool} : A.lkp .str z ok (.map (some id)) (strv k) H=
  some (match Ze k m with
   | some v=>bif ok then .tuple #[enc v,.bool true] else enc v
   | none=>bif ok then .tuple #[z,.bool false] else z,H):=by
 obtain ⟨es,h1,h2⟩:=h.ex
 unfold A.lkp
 rcases ZeO (k:=k) 0 h1 with ⟨h3,h4⟩ | ⟨j,v,h3,h4,h5⟩
 ·rcases h2 with ⟨clk,h2,_⟩ | h2 <;> simp only [h2,WI,cond_true,h3,h4]
 ·rcases h2 with ⟨clk,h2,_⟩ | h2 <;> simp only [h2,WI,cond_true,h4,h5]
theorem JS.mup (h : JS enc H id m) : ∃ H',A.mup .str (.map (some id)) (strv k) (enc v) H=some (undef,H')∧JS enc H' id (QD k v m)∧ZH [id] H [id] H'∧H'.length=H.length:=by
 obtain ⟨es,h1,h2⟩:=h.ex
 have hst : ∀ o,ZH [id] H [id] (H.set id o):=fun o=>⟨by simp,fun j hj hn=>List.getElem?_set_ne (fun e=>hn (by simp [e])),fun j hj=>.inl hj⟩
 have hnod:=ZkS (k:=k) (v:=v) h.nod
 have hget : ∀ {j : Nat} {v0 : α},m[j]?=some (k,v0)→(es.map kv)[j]?=some (strv k,enc v0):=fun hj=>by rw [h1,List.getElem?_map,hj];rfl
 rcases ZeO (k:=k) 0 h1 with ⟨h3,h4⟩ | ⟨j,v0,h3,h4,h5⟩
 ·have ha : QD k v m=m++[(k,v)]:=by unfold QD;rw [h3];rfl
  rw [ha] at hnod ⊢
  have hm : ∀ b,(es++[(strv k,enc v,b)]).map kv=(m++[(k,v)]).map fun p=>(strv p.1,enc p.2):=fun b=>by rw [List.map_append,List.map_append,h1];rfl
  rcases h2 with ⟨clk,h2,hs⟩ | h2
  ·refine ⟨H.set id (.map (es++[(strv k,enc v,clk)]) (clk+1)),?_,⟨⟨_,hm clk,.inl ⟨clk+1,ZT h2,⟨fun e he=>?_,?_⟩⟩⟩,hnod⟩,hst _,by simp⟩
   ·unfold A.mup;simp only [h2,WI,cond_true,h4]
   ·rcases List.mem_append.1 he with he | he
    ·have:=hs.lt e he;omega
    ·have : e=(strv k,enc v,clk):=by simpa using he
     rw [this];exact Nat.lt_succ_self _
   ·rw [List.map_append,List.nodup_append]
    refine ⟨hs.nod,by simp,fun a ha b hb=>?_⟩
    have hb : b=clk:=by simpa using hb
    obtain ⟨e,he,rfl⟩:=List.mem_map.1 ha
    have:=hs.lt e he;omega
  ·refine ⟨H.set id (.mapU (es++[(strv k,enc v,0)])),?_,⟨⟨_,hm 0,.inr (ZT h2)⟩,hnod⟩,hst _,by simp⟩
   unfold A.mup;simp only [h2,WI,cond_true,h4];rfl
 ·have ha : QD k v m=m.set j (k,v):=by unfold QD;rw [h4];exact (ZgQ h.nod h3).symm
  rw [ha] at hnod ⊢
  rw [Nat.zero_add] at h5
  have hm : (Yq es j (enc v)).map kv=(m.set j (k,v)).map fun p=>(strv p.1,enc p.2):=by
   rw [ZgN (hget h3),h1,List.map_set]
  rcases h2 with ⟨clk,h2,hs⟩ | h2
  ·refine ⟨H.set id (.map (Yq es j (enc v)) clk),?_,⟨⟨_,hm,.inl ⟨clk,ZT h2,Zi9 hs⟩⟩,hnod⟩,hst _,by simp⟩
   unfold A.mup;simp only [h2,WI,cond_true,h5]
  ·refine ⟨H.set id (.mapU (Yq es j (enc v))),?_,⟨⟨_,hm,.inr (ZT h2)⟩,hnod⟩,hst _,by simp⟩
   unfold A.mup;simp only [h2,WI,cond_true,h5]
theorem JS.mde (h : JS enc H id m) : ∃ H',A.mde .str (.map (some id)) (strv k) H=some (.tuple #[],H')∧JS enc H' id (JR k m)∧ZH [id] H [id] H'∧H'.length=H.length:=by
 obtain ⟨es,h1,h2⟩:=h.ex
 have hst : ∀ o,ZH [id] H [id] (H.set id o):=fun o=>⟨by simp,fun j hj hn=>List.getElem?_set_ne (fun e=>hn (by simp [e])),fun j hj=>.inl hj⟩
 have hnod:=ZlJ (k:=k) h.nod
 rcases ZeO (k:=k) 0 h1 with ⟨h3,h4⟩ | ⟨j,v0,h3,h4,h5⟩
 ·refine ⟨H,?_,by rw [Zng h3];exact h,.refl _ _,rfl⟩
  unfold A.mde
  rcases h2 with ⟨clk,h2,hs⟩ | h2 <;> simp only [h2,WI,cond_true,h4]
 ·have ha : JR k m=m.eraseIdx j:=(Zc9 h.nod h3).symm
  rw [ha] at hnod ⊢
  rw [Nat.zero_add] at h5
  have hm : (es.eraseIdx j).map kv=(m.eraseIdx j).map fun p=>(strv p.1,enc p.2):=by
   have hg : ∀ {β γ : Type} (f : β→γ) (l : List β) (j : Nat),(l.eraseIdx j).map f=(l.map f).eraseIdx j:=fun f l j=>by
    rw [List.eraseIdx_eq_take_drop_succ,List.eraseIdx_eq_take_drop_succ,List.map_append,List.map_take,List.map_drop]
   rw [hg,hg,h1]
  rcases h2 with ⟨clk,h2,hs⟩ | h2
  ·refine ⟨H.set id (.map (es.eraseIdx j) clk),?_,⟨⟨_,hm,.inl ⟨clk,ZT h2,⟨fun e he=>hs.lt e ((List.eraseIdx_sublist es j).subset he),((List.eraseIdx_sublist es j).map _).nodup hs.nod⟩⟩⟩,hnod⟩,hst _,by simp⟩
   unfold A.mde;simp only [h2,WI,cond_true,h5]
  ·refine ⟨H.set id (.mapU (es.eraseIdx j)),?_,⟨⟨_,hm,.inr (ZT h2)⟩,hnod⟩,hst _,by simp⟩
   unfold A.mde;simp only [h2,WI,cond_true,h5]
theorem JS.clone (h : JS enc H id m) : ∃ H',ZaL [.map (some id)] H=some (.map (some H.length),H')∧JS enc H' H.length m∧HLe H H':=by
 obtain ⟨es,h1,h2⟩:=h.ex
 rcases h2 with ⟨clk,h2,hs⟩ | h2
 ·exact ⟨_,by unfold ZaL;simp only [h2],⟨⟨es,h1,.inl ⟨clk,ZD,hs⟩⟩,h.nod⟩,.app _ _⟩
 ·exact ⟨_,by unfold ZaL;simp only [h2],⟨⟨es,h1,.inr ZD⟩,h.nod⟩,.app _ _⟩
theorem Zrl (H : Zc) : ∃ H',mkm H=some (.map (some H.length),H')∧JS enc H' H.length []∧HLe H H':=
 ⟨_,rfl,⟨⟨[],rfl,.inl ⟨0,ZD,⟨by simp,by simp⟩⟩⟩,by simp⟩,.app _ _⟩
theorem JS.keys (h : JS enc H id m) {gks : List FuncId} {gc gk : FuncId} {c e : Nat} (hg : gk∈gks) (hc : H[c]?=some (.cells [.map (some id)] e false false)) (hf : m.length≤1000000) (hl : ∀ p∈m,p.1.length≤1000000) :
  ∃ v q H',ZcS gks gc [.func (.func gk) #[] #[pt c],.func (.func gc) #[] #[]] H=some (v,H')∧ZE H' v ((YH (m.map (·.1))).map strv) q∧HLe H H'∧∀ j∈q,H.length≤j:=by
 obtain ⟨es,h1,h2⟩:=h.ex
 have hk : Zd8 es (m.map (·.1)):=⟨by
  have:=congrArg (List.map (·.1)) h1
  rw [ZcZ] at this
  rw [this];simp [Function.comp_def],h.nod,by simpa using hf,fun k hk=>by
  obtain ⟨p,hp,rfl⟩:=List.mem_map.1 hk
  exact hl p hp⟩
 rw [Zpm hg hc hk h2]
 unfold Zgn
 by_cases h0 : m.map (·.1)=[]
 ·rw [if_pos h0,h0]
  have hz : YH ([] : List (List UInt8))=[]:=List.mergeSort_nil
  rw [hz]
  exact ⟨_,[],_,rfl,ZE.nil,.refl _,by simp⟩
 ·rw [if_neg h0]
  refine ⟨_,[H.length],_,rfl,.inr ⟨H.length,[],true,?_,rfl,by simp⟩,.app _ _,by simp⟩
  simp [ZmY]
end
end Go.Proofs.YtnnehafmjfmbnaaGreatDoor.A

namespace Go.Proofs.YtnnehafmjfmbnaaGreatDoor.A
set_option linter.unusedVariables false
set_option linter.unusedSimpArgs false
def ZgU (args : List Value) : M Value:=fun H=>
 match args with
 | [.string s,.int .u8 c]=>some (iv (Go.Lib.indexByte s.data.toList c.toNat.toUInt8),H)
 | _=>none
def Zg5 (args : List Value) : M Value:=fun H=>
 match args with
 | [.string s,.int .u8 c]=>some (iv (Go.Lib.countByte s.data.toList c.toNat.toUInt8),H)
 | _=>none
section
variable {P : Program} {G : Nat} {w0 : Z6}
theorem Zq4 {g : FuncId} (he : ZmC P g Extern.BytealgIndexByte.indexByte) : Zd5 P G w0 g ZgU:=by
 intro args H v H1 h
 refine .inr ⟨_,he,fun ι w args' hS hr=>?_⟩
 unfold ZgU at h
 split at h
 ·rename_i s c
  cases h
  obtain ⟨p',r',rfl,hp',hr'⟩:=hr.cons_inv
  obtain ⟨y',r2,rfl,hy',hr2⟩:=hr'.cons_inv
  have:=hr2.nil_inv;subst this
  have:=hy'.int_inv;subst this
  have:=hp'.scalar_inv rfl;subst this
  exact ⟨ι,_,w,.refl ι,hS,.sc rfl,Go.Lib.run_indexByteString s c w⟩
 ·cases h
theorem ZqM {g : FuncId} (he : ZmC P g Extern.BytealgCount.count) : Zd5 P G w0 g Zg5:=by
 intro args H v H1 h
 refine .inr ⟨_,he,fun ι w args' hS hr=>?_⟩
 unfold Zg5 at h
 split at h
 ·rename_i s c
  cases h
  obtain ⟨p',r',rfl,hp',hr'⟩:=hr.cons_inv
  obtain ⟨y',r2,rfl,hy',hr2⟩:=hr'.cons_inv
  have:=hr2.nil_inv;subst this
  have:=hy'.int_inv;subst this
  have:=hp'.scalar_inv rfl;subst this
  exact ⟨ι,_,w,.refl ι,hS,.sc rfl,Go.Lib.run_countString s c w⟩
 ·cases h
end
theorem Zqj (b : UInt8) : (b.toNat : Int).toNat.toUInt8=b:=by
 rw [Int.toNat_natCast]
 simp
theorem ZvO {s : List UInt8} {b : UInt8} {H : Zc} : ZgU [strv s,.int .u8 b.toNat] H=some (iv (Go.Lib.indexByte s b),H):=by
 unfold ZgU strv
 simp only [Zqj]
theorem ZvK {s : List UInt8} {b : UInt8} {H : Zc} : Zg5 [strv s,.int .u8 b.toNat] H=some (iv (s.count b),H):=by
 unfold Zg5 strv Go.Lib.countByte
 simp only [Zqj]
theorem Zdw {b : UInt8} : ∀ {s : List UInt8},Go.Lib.indexByte s b=if b∈s then (((s.takeWhile (· !=b)).length : Nat) : Int) else -1
 | []=>rfl
 | c :: s=>by
  have ih:=Zdw (b:=b) (s:=s)
  unfold Go.Lib.indexByte
  by_cases hc : c=b
  ·subst hc;simp
  ·have h1 : (c==b)=false:=beq_eq_false_iff_ne.2 hc
   have h2 : (c !=b)=true:=by simp [hc]
   rw [h1,List.takeWhile_cons,h2,ih]
   by_cases hm : b∈s
   ·have : ¬ ((((s.takeWhile (· !=b)).length : Nat) : Int)==-1)=true:=by simp
    simp [hm,this]
   ·have hm2 : ¬ b∈c :: s:=by simp [hm,Ne.symm hc]
    simp [hm,Ne.symm hc]
end Go.Proofs.YtnnehafmjfmbnaaGreatDoor.A

namespace Go.Proofs.YtnnehafmjfmbnaaGreatDoor.A
set_option linter.unusedVariables false
set_option linter.unusedSimpArgs false
theorem Znf {α β : Type} {f : α→β} {m m' : List β} (h : m.Perm m') : ∀ {l : List α},l.map f=m→∃ l' : List α,l'.Perm l∧l'.map f=m':=by
 induction h with
 | nil=>intro l h;exact ⟨l,.refl _,h⟩
 | cons x _ ih=>
  intro l h
  cases l with
  | nil=>cases h
  | cons a l=>
   simp only [List.map_cons,List.cons.injEq] at h
   obtain ⟨l',h1,h2⟩:=ih h.2
   exact ⟨a :: l',h1.cons a,by simp [h.1,h2]⟩
 | swap x y l=>
  intro q h
  match q,h with
  | a :: b :: q,h=>
   simp only [List.map_cons,List.cons.injEq] at h
   exact ⟨b :: a :: q,.swap a b q,by simp [h.1,h.2.1,h.2.2]⟩
 | trans _ _ ih1 ih2=>
  intro l h
  obtain ⟨l1,h1,h2⟩:=ih1 h
  obtain ⟨l2,h3,h4⟩:=ih2 h2
  exact ⟨l2,h3.trans h1,h4⟩
def Ze4 : Zf→Bool
 | .map _ _=>true
 | .mapU _=>true
 | _=>false
def Zdn (H : Zc) : List (Value × Value × Nat)→Option (List Zf)
 | []=>some []
 | e :: es=>match e.2.1,Zdn H es with
  | .map (some s),some l=>match H[s]? with
   | some x=>if Ze4 x then some (x :: l) else none
   | none=>none
  | _,_=>none
def Za4 (base : Nat) : List (Value × Value × Nat)→List (Value × Value × Nat)
 | []=>[]
 | e :: es=>(e.1,.map (some base),0) :: Za4 (base+1) es
open Classical in
noncomputable def Zia (H : Zc) (o : Nat) : Option (List (Value × Value × Nat)):=
 match H[o]? with
 | some (.map es clk)=>if Za9 es clk then some es else none
 | some (.mapU es)=>some es
 | _=>none
open Classical in
noncomputable def Zge (args : List Value) : M Value:=fun H=>
 match args with
 | [.pointer (some ⟨g,0,none⟩)]=>match H[g]? with
  | some (.cells [.map (some o)] _ false false)=>match Zia H o with
   | some es=>match Zdn H es with
    | some l=>if ∃ ks,Zd8 es ks then some (pt (H.length+l.length+1),H++l++[.mapU (Za4 H.length es)]++[.cells [.map (some (H.length+l.length))] 1 false false]) else none
    | none=>none
   | none=>none
  | _=>none
 | _=>none
section
variable {P : Program} {w0 : Z6} {ι : Nat→Option Loc} {H H1 : Zc} {w w' : World} {v : Value} {G : Nat}
theorem ZsC {args : List Value} (h : Zge args H=some (v,H1)) : ∃ g o e es ks l,args=[pt g]∧H[g]?=some (.cells [.map (some o)] e false false)∧Zia H o=some es∧Zd8 es ks∧Zdn H es=some l∧v=pt (H.length+l.length+1)∧H1=H++l++[.mapU (Za4 H.length es)]++[.cells [.map (some (H.length+l.length))] 1 false false]:=by
 unfold Zge at h
 split at h
 ·rename_i g
  split at h
  ·rename_i o e hg
   split at h
   ·rename_i es hes
    split at h
    ·rename_i l hl
     split at h
     ·rename_i hk
      obtain ⟨ks,hk⟩:=hk
      cases h
      exact ⟨g,o,e,es,ks,l,rfl,hg,hes,hk,hl,rfl,rfl⟩
     ·cases h
    ·cases h
   ·cases h
  ·cases h
 ·cases h
structure Zqu (P : Program) (g : FuncId) : Prop where
 c : ZbG P g
 run : ∀ (w : World) (gb b : Nat) (es : Array MapEntry) (clock : Nat),gb < w.heap.size→w.cell? ⟨gb,0,none⟩=some (.map (some b))→w.heap[b]?=some (.map es clock)→Go.MapKept.Stamped es clock→
  (∀ x∈es.toList,∃ k : List UInt8,x.key=strv k)→(∀ x∈es.toList,∃ sb ses sclk,x.val=.map (some sb)∧w.heap[sb]?=some (.map ses sclk))→
  Calls P g #[.pointer (some ⟨gb,0,none⟩)] w fun e w'=>∃ (gb' ob : Nat) (el : TypeId) (en : Array MapEntry) (ck : Nat) (L : List (MapEntry × Nat)),e=.returned (.pointer (some ⟨gb',0,none⟩))∧
   w'.heap[gb']?=some (.cells #[.map (some ob)] el (0,0))∧w'.heap[ob]?=some (.map en ck)∧Go.MapKept.Stamped en ck∧
   en.toList.map (fun x=>(x.key,x.val))=L.map (fun p=>(p.1.key,Value.map (some p.2)))∧(L.map (·.1)).Perm es.toList∧
   (∀ p∈L,∃ sb,p.1.val=.map (some sb)∧w'.heap[p.2]?=w.heap[sb]?)∧(gb' :: ob :: L.map (·.2)).Nodup∧(∀ q∈gb' :: ob :: L.map (·.2),w.heap.size≤q)∧Go.RowKit.Below w.heap.size w w'
def Zdc (ι : Nat→Option Loc) (H : Zc) (b : Nat) : Prop:=(∀ i oi li,H[i]?=some oi→oi.wr=true→ι i=some li→li.blk≠b)∧
 ∀ j cs es nx lj,H[j]?=some (.view cs es nx)→ι j=some lj→lj.blk=b→∃ l',ι nx=some l'∧l'.blk=lj.blk∧l'.base=lj.base
theorem Zdc.add {o : Zf} {l : Loc} {b : Nat} (h : Zdc ι H b) (hS : Sim G w0 ι H w) (hb : l.blk≠b) (hov : o.isV=false:=by rfl) : Zdc (YV ι H.length l) (H++[o]) b:=by
 refine ⟨?_,fun j cs es nx lj hj hlj hbe=>?_⟩
 rotate_left
 ·rcases Nat.lt_trichotomy j H.length with hlt | rfl | hgt
  ·rw [List.getElem?_append_left hlt] at hj
   have : YV ι H.length l j=ι j:=by unfold YV;simp [Nat.ne_of_lt hlt]
   rw [this] at hlj
   obtain ⟨l',k1,k2⟩:=h.2 j cs es nx lj hj hlj hbe
   exact ⟨l',J7 hS _ _ _ k1,k2⟩
  ·rw [ZD] at hj
   rw [Option.some.inj hj] at hov;cases hov
  ·rw [List.getElem?_eq_none (by simp;omega)] at hj;cases hj
 intro i oi li hi hw hl
 rcases Nat.lt_trichotomy i H.length with hlt | rfl | hgt
 ·rw [List.getElem?_append_left hlt] at hi
  have : YV ι H.length l i=ι i:=by unfold YV;simp [Nat.ne_of_lt hlt]
  rw [this] at hl
  exact h.1 i oi li hi hw hl
 ·have : YV ι H.length l H.length=some l:=Qf _ _ _
  rw [this] at hl
  cases hl
  exact hb
 ·rw [List.getElem?_eq_none (by simp;omega)] at hi;cases hi
abbrev Ze7 (b : Nat) : Loc:=⟨b,0,0,0,false⟩
def ZfQ (ι : Nat→Option Loc) : Value→Value
 | .map (some s)=>.map ((ι s).map (·.blk))
 | v=>v
theorem Zsm {H : Zc} {w' : World} (hS : Sim G w0 ι H w) : ∀ (es : List (Value × Value × Nat)) (L : List (MapEntry × Nat)) (l : List Zf) (ι0 : Nat→Option Loc) (H0 : Zc),Sim G w0 ι0 H0 w'→Le ι ι0→Zdn H es=some l→
  L.map (fun p=>(p.1.key,p.1.val))=es.map (fun e=>(e.1,ZfQ ι e.2.1))→(∀ p∈L,∃ sb,p.1.val=.map (some sb)∧w'.heap[p.2]?=w.heap[sb]?)→(L.map (·.2)).Nodup→(∀ p∈L,Zdc ι0 H0 p.2∧w0.heap.size≤p.2∧∀ b∈w0.prot,p.2≠b)→
  ∃ ι1,Le ι0 ι1∧Sim G w0 ι1 (H0++l) w'∧l.length=es.length∧(∀ i p,L[i]?=some p→ι1 (H0.length+i)=some (Ze7 p.2))∧(∀ b,Zdc ι0 H0 b→b∉L.map (·.2)→Zdc ι1 (H0++l) b)
 | [],L,l,ι0,H0,h0,hle,hl,hm,_,_,_=>by
  cases hl
  have : L=[]:=by simpa using hm
  subst this
  exact ⟨ι0,.refl _,by rw [List.append_nil];exact h0,rfl,fun i p h=>by simp at h,fun b h _=>by rw [List.append_nil];exact h⟩
 | e :: es,L,l,ι0,H0,h0,hle,hl,hm,hc,hn,hf=>by
  cases L with
  | nil=>simp at hm
  | cons p L=>
   simp only [List.map_cons,List.cons.injEq,Prod.mk.injEq] at hm
   unfold Zdn at hl
   split at hl
   ·rename_i _ _ s l' he hl'
    split at hl
    ·rename_i x hx
     split at hl
     ·rename_i hmp
      cases hl
      obtain ⟨sb,hsb,hcp⟩:=hc p (by simp)
      obtain ⟨hfp,hgp,hpp⟩:=hf p (by simp)
      rw [he] at hm
      have hv:=hm.1.2
      rw [hsb] at hv
      have hsl : ∃ ls,ι s=some ls∧ls.blk=sb:=by
       simp only [ZfQ] at hv
       cases hs : ι s with
       | none=>rw [hs] at hv;simp at hv
       | some ls=>rw [hs] at hv;exact ⟨ls,rfl,by simpa using hv.symm⟩
      obtain ⟨ls,hls,rfl⟩:=hsl
      have hR : ZbH w0 (YV ι0 H0.length (Ze7 p.2)) H0.length x w':=by
       have hle2 : Le ι (YV ι0 H0.length (Ze7 p.2)):=hle.trans (J7 h0 _)
       cases x with
       | map es' clk=>
        obtain ⟨en,hb,hge,hE⟩:=hS.mapR hx hls
        exact ⟨_,en,Qf _ _ _,hcp.trans hb,hgp,hE.mono hle2⟩
       | mapU es'=>
        obtain ⟨en,clk,es2,hb,hge,hE,hp⟩:=hS.mapUR hx hls
        exact ⟨_,en,clk,es2,Qf _ _ _,hcp.trans hb,hgp,hE.mono hle2,hp⟩
       | _=>simp [Ze4] at hmp
      have hov : x.isV=false:=by cases x <;> first | rfl | simp [Ze4] at hmp
      have h1:=h0.add hR hfp.1 hpp (fun _=>hfp.2) hov
      simp only [List.map_cons,List.nodup_cons] at hn
      obtain ⟨ι1,a1,a2,a3,a4,a5⟩:=Zsm hS es L l' _ _ h1 (hle.trans (J7 h0 _)) hl' hm.2 (fun q hq=>hc q (by simp [hq])) hn.2 (fun q hq=>by
       obtain ⟨b1,b2⟩:=hf q (by simp [hq])
       exact ⟨b1.add h0 (fun e=>hn.1 (List.mem_map.2 ⟨q,hq,e.symm⟩)) hov,b2⟩)
      refine ⟨ι1,(J7 h0 _).trans a1,by rw [List.append_assoc,List.singleton_append] at a2;exact a2,by simp [a3],fun i q hi=>?_,fun b hb hnb=>?_⟩
      ·cases i with
       | zero=>
        have : p=q:=by simpa using hi
        subst this
        exact a1 _ _ (Qf _ _ _)
       | succ i=>
        have:=a4 i q (by simpa using hi)
        rwa [List.length_append,List.length_singleton,Nat.add_assoc,Nat.add_comm 1 i] at this
      ·simp only [List.map_cons,List.mem_cons,not_or] at hnb
       have:=a5 b (hb.add h0 (Ne.symm hnb.1) hov) hnb.2
       rwa [List.append_assoc,List.singleton_append] at this
     ·cases hl
    ·cases hl
   ·cases hl
theorem Zdc.sim (h : Sim G w0 ι H w) {b : Nat} (hb : w.heap.size≤b) : Zdc ι H b:=⟨fun i oi li hi hw hl=>by
 have:=((h.obj i oi hi).newer hw li hl).2
 omega,fun j cs es nx lj hj hlj hbe=>by
 rcases h.views j cs es nx lj hj hlj with ⟨l',k1,k2⟩ | ⟨⟨c,el,fr,k1,_⟩,_⟩
 ·exact ⟨l',k1,k2⟩
 ·have:=(Array.getElem?_eq_some_iff.1 k1).1
  omega⟩
theorem Zmq (h : Sim G w0 ι H w) {b : Nat} (hb : w.heap.size≤b) : ∀ c∈w0.prot,b≠c:=fun c hc e=>by
 have p1:=(h.prot c hc).1
 subst e
 rw [Array.getElem?_eq_none hb] at p1;cases p1
def ZoD (B : List ((MapEntry × Nat) × Nat)) (en : List MapEntry) : List (Value × Value × Nat):=List.zipWith (fun b x=>(b.1.1.key,Value.map (some b.2),x.born)) B en
theorem ZoS : ∀ (B : List ((MapEntry × Nat) × Nat)) (en : List MapEntry),en.map (fun x=>(x.key,x.val))=B.map (fun b=>(b.1.1.key,Value.map (some b.1.2)))→(∀ b∈B,QB b.1.1.key=true∧ι b.2=some (Ze7 b.1.2))→
  Jt ι (ZoD B en) en∧(ZoD B en).map kv=B.map (fun b=>(b.1.1.key,Value.map (some b.2)))∧(ZoD B en).map (·.2.2)=en.map (·.born)
 | [],[],_,_=>⟨trivial,rfl,rfl⟩
 | [],_ :: _,h,_=>by simp at h
 | _ :: _,[],h,_=>by simp at h
 | b :: B,x :: en,h,hb=>by
  simp only [List.map_cons,List.cons.injEq,Prod.mk.injEq] at h
  obtain ⟨h1,h2,h3⟩:=ZoS B en h.2 (fun c hc=>hb c (by simp [hc]))
  obtain ⟨g1,g2⟩:=hb b (by simp)
  have hm : RV ι (.map (some b.2)) (.map (some b.1.2)):=.mp (l:=Ze7 b.1.2) g2
  refine ⟨⟨⟨g1,h.1.1,by rw [h.1.2];exact hm,rfl⟩,h1⟩,?_,?_⟩
  ·simp only [List.map_cons]
   rw [← h2];rfl
  ·simp only [List.map_cons]
   rw [← h3];rfl
theorem Zqh : ∀ (es : List (Value × Value × Nat)) (L : List (MapEntry × Nat)) (base : Nat),L.map (fun p=>p.1.key)=es.map (·.1)→
  (Za4 base es).map kv=(L.zipIdx base).map (fun b=>(b.1.1.key,Value.map (some b.2)))∧(Za4 base es).map (·.1)=es.map (·.1)
 | [],L,base,h=>by
  have : L=[]:=by simpa using h
  subst this
  exact ⟨rfl,rfl⟩
 | e :: es,[],base,h=>by simp at h
 | e :: es,p :: L,base,h=>by
  simp only [List.map_cons,List.cons.injEq] at h
  obtain ⟨h1,h2⟩:=Zqh es L (base+1) h.2
  refine ⟨?_,?_⟩
  ·simp only [Za4,List.map_cons,List.zipIdx_cons]
   rw [h1,← h.1];rfl
  ·simp only [Za4,List.map_cons]
   rw [h2]
theorem Zk7 : ∀ {es : List (Value × Value × Nat)} {l : List Zf},Zdn H es=some l→∀ e∈es,∃ s x,e.2.1=.map (some s)∧H[s]?=some x∧Ze4 x=true
 | [],l,h,e,he=>by cases he
 | e0 :: es,l,h,e,he=>by
  unfold Zdn at h
  split at h
  ·rename_i _ _ s l' hv hl'
   split at h
   ·rename_i x hx
    split at h
    ·rename_i hm
     rcases List.mem_cons.1 he with rfl | he
     ·exact ⟨s,x,hv,hx,hm⟩
     ·exact Zk7 hl' e he
    ·cases h
   ·cases h
  ·cases h
theorem Znc (hle : ∀ e : Value × Value × Nat,∀ n,RV ι e.2.1 n→(∃ s,e.2.1=.map (some s))→n=ZfQ ι e.2.1) : ∀ (es : List (Value × Value × Nat)) (en : List MapEntry),Jt ι es en→(∀ e∈es,∃ s,e.2.1=.map (some s))→en.map (fun x=>(x.key,x.val))=es.map (fun e=>(e.1,ZfQ ι e.2.1))
 | [],[],_,_=>rfl
 | [],_ :: _,h,_=>h.elim
 | _ :: _,[],h,_=>h.elim
 | e :: es,n :: ns,h,hs=>by
  simp only [List.map_cons]
  rw [Znc hle es ns h.2 (fun e he=>hs e (by simp [he])),h.1.2.1,hle e _ h.1.2.2.1 (hs e (by simp))]
theorem Zt8 {e : Value × Value × Nat} {n : Value} (h : RV ι e.2.1 n) (hs : ∃ s,e.2.1=.map (some s)) : n=ZfQ ι e.2.1:=by
 obtain ⟨s,hs⟩:=hs
 rw [hs] at h ⊢
 obtain ⟨l,hl,rfl⟩:=h.map_inv
 simp [ZfQ,hl]
theorem ZrB {g : FuncId} (hC : Zqu P g) : Zd5 P G w0 g Zge:=by
 intro args H v H1 h
 refine .inl ⟨hC.c,fun ι w args' hS hr=>?_⟩
 obtain ⟨gi,o,e1,es,ks,l,rfl,hg,hes,hk,hl,rfl,rfl⟩:=ZsC h
 obtain ⟨x,r,rfl,hx,hr2⟩:=hr.cons_inv
 rw [hr2.nil_inv]
 obtain ⟨lc,hlc,rfl⟩:=hx.ptr_inv
 obtain ⟨cc,el,fr,_,hgrow,hbc,hb5,hb6,hrc,hro,_⟩:=hS.cellsR hg hlc
 have hbase : lc.base=0:=(hro rfl).2.2 hgrow
 have hbl : lc.blk < w.heap.size:=by
  rcases Nat.lt_or_ge lc.blk w.heap.size with h1 | h1
  ·exact h1
  ·rw [Array.getElem?_eq_none h1] at hbc;cases hbc
 obtain ⟨u,hu1,hu2⟩:=hrc.at (o:=0) (by simp)
 obtain ⟨lm,hlm,hu3⟩:=RV.map_inv (id:=o) hu2
 subst hu3
 have hcell : w.cell? ⟨lc.blk,0,none⟩=some (.map (some lm.blk)):=by
  rw [ZeD hbc]
  simpa [hbase] using hu1
 have hsets:=Zk7 hl
 have hismap : ∀ e∈es,∃ s,e.2.1=.map (some s):=fun e he=>by obtain ⟨s,_,h1,_⟩:=hsets e he;exact ⟨s,h1⟩
 obtain ⟨en,clock,es2,hmb,hE,hperm,hst⟩ : ∃ (en : Array MapEntry) (clock : Nat) (es2 : List (Value × Value × Nat)),w.heap[lm.blk]?=some (.map en clock)∧Zbp ι es2 en∧(es2.map kv).Perm (es.map kv)∧Za9 es2 clock:=by
  unfold Zia at hes
  split at hes
  ·rename_i es0 clk hid
   split at hes
   ·rename_i hst
    cases hes
    obtain ⟨en,hb,_,hE⟩:=hS.mapR hid hlm
    exact ⟨en,_,_,hb,hE,.refl _,hst⟩
   ·cases hes
  ·rename_i es0 hid
   cases hes
   obtain ⟨en,clk,es2,hb,_,hE,hp⟩:=hS.mapUR hid hlm
   exact ⟨en,clk,es2,hb,hE,hp.perm,hp.st⟩
  ·cases hes
 have hmem2 : ∀ e∈es2,∃ f∈es,f.1=e.1∧f.2.1=e.2.1:=fun e he=>by
  have : kv e∈es.map kv:=hperm.mem_iff.1 (List.mem_map.2 ⟨e,he,rfl⟩)
  obtain ⟨f,hf,h1⟩:=List.mem_map.1 this
  unfold kv at h1
  simp only [Prod.mk.injEq] at h1
  exact ⟨f,hf,h1.1,h1.2⟩
 have hismap2 : ∀ e∈es2,∃ s,e.2.1=.map (some s):=fun e he=>by
  obtain ⟨f,hf,_,h2⟩:=hmem2 e he
  rw [← h2];exact hismap f hf
 obtain ⟨k1,k2⟩:=Jt.keys hE
 have hkv:=Znc (fun e n h hs=>Zt8 h hs) es2 en.toList hE hismap2
 have hkeyp : (es2.map (·.1)).Perm (ks.map strv):=by
  have h3:=hperm.map (·.1)
  rw [ZcZ,ZcZ] at h3
  rw [← hk.keys];exact h3
 have hstr : ∀ x∈en.toList,∃ k : List UInt8,x.key=strv k:=fun x hx=>by
  have h3 : x.key∈es2.map (·.1):=by rw [← k1];exact List.mem_map.2 ⟨x,hx,rfl⟩
  obtain ⟨k,_,h4⟩:=List.mem_map.1 (hkeyp.mem_iff.1 h3)
  exact ⟨k,h4.symm⟩
 have hsets2 : ∀ x∈en.toList,∃ sb ses sclk,x.val=.map (some sb)∧w.heap[sb]?=some (.map ses sclk):=fun x hx=>by
  have h3 : (x.key,x.val)∈es2.map (fun e=>(e.1,ZfQ ι e.2.1)):=by rw [← hkv];exact List.mem_map.2 ⟨x,hx,rfl⟩
  obtain ⟨e,he,h4⟩:=List.mem_map.1 h3
  obtain ⟨f,hf,_,hf2⟩:=hmem2 e he
  obtain ⟨s,y,hy1,hy2,hy3⟩:=hsets f hf
  simp only [Prod.mk.injEq] at h4
  rw [← hf2,hy1] at h4
  have hd : y≠.dead:=by rintro rfl;simp [Ze4] at hy3
  obtain ⟨ls,hls,_⟩:=(hS.obj s y hy2).loc hd
  have h5 : x.val=.map (some ls.blk):=by rw [← h4.2];simp [ZfQ,hls]
  cases y with
  | map es' clk=>
   obtain ⟨en',hb,_,_⟩:=hS.mapR hy2 hls
   exact ⟨_,_,_,h5,hb⟩
  | mapU es'=>
   obtain ⟨en',clk,_,hb,_,_⟩:=hS.mapUR hy2 hls
   exact ⟨_,_,_,h5,hb⟩
  | _=>simp [Ze4] at hy3
 have hstamp : Go.MapKept.Stamped en clock:=by
  refine ⟨fun x hx=>?_,by rw [k2];exact hst.nod,by rw [k1];exact hkeyp.nodup_iff.2 (Zgt hk.nod)⟩
  have h3 : x.born∈en.toList.map (·.born):=List.mem_map.2 ⟨x,hx,rfl⟩
  rw [k2] at h3
  obtain ⟨e',h1,h2⟩:=List.mem_map.1 h3
  rw [← h2];exact hst.lt e' h1
 simp only [Nat.add_zero,hbase]
 refine (hC.run w lc.blk lm.blk en clock hbl hcell hmb hstamp hstr hsets2).mono fun ee w' ⟨gb',ob,el',en',ck,L,he,hgb,hob,hst',hen',hL,hcp,hnd,hge,hb⟩=>?_
 have hS':=hS.below hb
 have hLkv : (L.map fun p=>(p.1.key,p.1.val)).Perm (es.map fun e=>(e.1,ZfQ ι e.2.1)):=by
  have h3:=hL.map (fun x : MapEntry=>(x.key,x.val))
  rw [List.map_map,hkv] at h3
  have h4:=hperm.map (fun q : Value × Value=>(q.1,ZfQ ι q.2))
  rw [List.map_map,List.map_map] at h4
  exact h3.trans h4
 obtain ⟨L',hL',hLm⟩:=Znf hLkv rfl
 simp only [List.nodup_cons,List.mem_cons,not_or] at hnd
 obtain ⟨⟨n1,n2⟩,n3,n4⟩:=hnd
 have hnod' : (L'.map (·.2)).Nodup:=(hL'.map _).nodup_iff.2 n4
 have hgeL : ∀ p∈L',w.heap.size≤p.2:=fun p hp=>hge _ (by simp only [List.mem_cons,List.mem_map];exact .inr (.inr ⟨p,hL'.mem_iff.1 hp,rfl⟩))
 obtain ⟨ι1,a1,a2,a3,a4,a5⟩:=Zsm hS es L' l ι H hS' (.refl _) hl hLm (fun p hp=>hcp p (hL'.mem_iff.1 hp)) hnod' (fun p hp=>⟨Zdc.sim hS (hgeL p hp),Nat.le_trans hS.size (hgeL p hp),Zmq hS (hgeL p hp)⟩)
 have hobge:=hge ob (by simp)
 have hgbge:=hge gb' (by simp)
 have hobF : Zdc ι1 (H++l) ob:=a5 ob (Zdc.sim hS hobge) fun hm=>n3 ((hL'.map (·.2)).mem_iff.1 hm)
 have hgbF : Zdc ι1 (H++l) gb':=a5 gb' (Zdc.sim hS hgbge) fun hm=>n2 ((hL'.map (·.2)).mem_iff.1 hm)
 obtain ⟨B,hB,hBm⟩:=Znf (f:=Prod.fst) (l:=L'.zipIdx H.length) (m':=L) (by rw [List.zipIdx_map_fst];exact hL') rfl
 have hBi : ∀ b∈B,QB b.1.1.key=true∧ι1 b.2=some (Ze7 b.1.2):=fun b hb=>by
  have hb':=hB.mem_iff.1 hb
  obtain ⟨i,hi⟩:=List.getElem?_of_mem hb'
  rw [List.getElem?_zipIdx] at hi
  cases hq : L'[i]? with
  | none=>rw [hq] at hi;cases hi
  | some q=>
   rw [hq] at hi
   have hi : (q,H.length+i)=b:=by simpa using hi
   subst hi
   refine ⟨?_,a4 i q hq⟩
   have hqL : q.1∈L.map (·.1):=List.mem_map.2 ⟨q,hL'.mem_iff.1 (List.mem_of_getElem? hq),rfl⟩
   obtain ⟨k,hk⟩:=hstr q.1 (hL.mem_iff.1 hqL)
   show QB q.1.key=true
   rw [hk];rfl
 have hen2 : en'.toList.map (fun x=>(x.key,x.val))=B.map (fun b=>(b.1.1.key,Value.map (some b.1.2))):=by
  rw [hen',← hBm,List.map_map];rfl
 obtain ⟨z1,z2,z3⟩:=ZoS B en'.toList hen2 hBi
 have hkeysL : L'.map (fun p=>p.1.key)=es.map (·.1):=by
  have:=congrArg (List.map Prod.fst) hLm
  simpa [List.map_map,Function.comp_def] using this
 obtain ⟨y1,y2⟩:=Zqh es L' H.length hkeysL
 have hle1 : Le ι ι1:=a1
 have hlen : (H++l).length=H.length+l.length:=List.length_append
 have hPU : Wv (ZoD B en'.toList) ck (Za4 H.length es):=by
  refine ⟨?_,⟨fun e he=>?_,?_⟩,⟨fun e he=>?_,?_⟩⟩
  ·rw [z2,y1]
   exact hB.map _
  ·have : e.1∈(Za4 H.length es).map (·.1):=List.mem_map.2 ⟨e,he,rfl⟩
   rw [y2,hk.keys] at this
   obtain ⟨k,_,h4⟩:=List.mem_map.1 this
   exact ⟨_,h4.symm⟩
  ·rw [y2,hk.keys];exact Zgt hk.nod
  ·have : e.2.2∈(ZoD B en'.toList).map (·.2.2):=List.mem_map.2 ⟨e,he,rfl⟩
   rw [z3] at this
   obtain ⟨x,hx,h4⟩:=List.mem_map.1 this
   rw [← h4];exact hst'.1 x hx
  ·rw [z3];exact hst'.2.1
 have hO:=a2.add (o:=.mapU (Za4 H.length es)) (l:=Ze7 ob) ⟨Ze7 ob,en',ck,_,Qf _ _ _,hob,Nat.le_trans hS.size hobge,z1.mono (J7 a2 _),hPU⟩ hobF.1 (Zmq hS hobge) (fun _=>hobF.2)
 have hgbF2 : Zdc (YV ι1 (H++l).length (Ze7 ob)) (H++l++[.mapU (Za4 H.length es)]) gb':=hgbF.add a2 (Ne.symm n1)
 have hN:=hO.add (o:=.cells [.map (some (H.length+l.length))] 1 false false) (l:=⟨gb',0,1,1,false⟩) (by
  refine ⟨⟨gb',0,1,1,false⟩,_,_,_,Qf _ _ _,rfl,rfl,hgb,by simp,by simp,?_,fun _=>⟨Nat.le_trans hS.size hgbge,.inl rfl,fun _=>rfl⟩,by simp,by simp [oneCell]⟩
  refine ⟨rfl,fun i hi=>?_⟩
  have : i=0:=by simpa using hi
  subst this
  refine .mp (l:=Ze7 ob) (J7 hO _ _ _ ?_)
  rw [← hlen]
  exact Qf _ _ _) hgbF2.1 (Zmq hS hgbge) (fun _=>hgbF2.2)
 refine ⟨_,_,(hle1.trans (J7 a2 _)).trans (J7 hO _),he,?_,hN⟩
 have hp:=RV.ptr (ι:=YV (YV ι1 (H++l).length (Ze7 ob)) (H++l++[Zf.mapU (Za4 H.length es)]).length ⟨gb',0,1,1,false⟩) (o:=0) (Qf _ _ _)
 have hlen2 : (H++l++[Zf.mapU (Za4 H.length es)]).length=H.length+l.length+1:=by rw [List.length_append,List.length_append,List.length_singleton]
 rw [hlen2] at hp ⊢
 exact hp
end
end Go.Proofs.YtnnehafmjfmbnaaGreatDoor.A

namespace Go.Proofs.YtnnehafmjfmbnaaGreatDoor.A
set_option linter.unusedVariables false
set_option linter.unusedSimpArgs false
open Go.RowKit Go.Maps Go.ChangeMaps Go.MapKept
section
variable {P : Program} (w : World) {ops : Array Oper} {rest : List Oper} {o : Oper} {a : Act} {Q : Exit→Act→World→Prop}
theorem Zko (hg : o.guard=none) (m : Operand) (t : TypeId) (hop : o.op=Op.range t m) (k e : TypeId) (ht : P.underlying t=some (.map k e)) (b : Nat) (es : Array MapEntry) (clock : Nat)
  (hm : a.eval m=.map (some b)) (hb : w.heap[b]?=some (.map es clock))
  (hK : wpList P ops Q rest (a.put o.dst (.pointer (some ⟨w.heap.size,0,none⟩))) (w.alloc (.mapIter (some b) clock #[] clock))) :
  wpList P ops Q (o :: rest) a w:=by
 refine wpList_plain hg fun K' hK'=>?_
 have hrun:=run_range_map (P:=P) w t k e b es clock ht hb
 unfold Oper.wp
 simp [execOp,hop,hm,hrun,Result.andThen]
 exact hK' _ _ hK
theorem Zls (hg : o.guard=none) (it : Operand) (hop : o.op=Op.next it false) (b r since c0 clock : Nat) (seen : Array Nat) (es : Array MapEntry)
  (hit : a.eval it=.pointer (some ⟨r,0,none⟩)) (hr : w.heap[r]?=some (.mapIter (some b) since seen c0)) (hb : w.heap[b]?=some (.map es clock)) (hst : Go.MapKept.Stamped es clock) (hsince : since=clock) (hsc : since≤c0)
  (hDone : (∀ x∈es.toList,x.born∈seen)→wpList P ops Q rest (a.put o.dst (.tuple #[.bool false])) w)
  (hMore : ∀ (e : MapEntry) (w' : World),e∈es.toList→e.born∉seen→w'.heap[r]?=some (.mapIter (some b) since (seen.push e.born) clock)→(leftOf es (seen.push e.born)).size < (leftOf es seen).size→
   w.grownBy w' (some r)→w'.heap.size=w.heap.size→(Instr.entry (.pointer (some ⟨r,0,none⟩))).run P w'=.ok (.tuple #[e.key,e.val]) w'→wpList P ops Q rest (a.put o.dst (.tuple #[.bool true,e.key,e.val])) w') :
  wpList P ops Q (o :: rest) a w:=by
 refine wpList_plain hg fun K' hK'=>?_
 unfold Oper.wp
 have hold : ∀ x∈es.toList,x.born < since:=by rw [hsince];exact hst.1
 rcases run_next_at (P:=P) w o.type r b since c0 seen es clock hr hb hold hsc with ⟨h0,hrun⟩ | ⟨e,he,w1,hal,hrun⟩
 ·simp [execOp,hop,hit,hrun,Result.andThen]
  refine hK' _ _ (hDone fun x hx=>?_)
  have:=all_seen es seen h0 x hx
  simpa using this
 ·obtain ⟨hem,hes⟩:=mem_left he
  have hr1 : w1.heap[r]?=some (.mapIter (some b) since seen c0):=by rcases hal with rfl | rfl <;> exact hr
  have hb1 : w1.heap[b]?=some (.map es clock):=by rcases hal with rfl | rfl <;> exact hb
  have hset:=heap_set (o':=.mapIter (some b) since (seen.push e.born) clock) hr1
  have hne : r≠b:=by
   intro e1
   rw [e1,hb] at hr
   cases hr
  have hb' : (setBlock w1 r (.mapIter (some b) since (seen.push e.born) clock)).heap[b]?=some (.map es clock):=(hset.2 b (fun e1=>hne e1.symm)).trans hb1
  simp [execOp,hop,hit,hrun,Result.andThen]
  refine hK' _ _ (hMore e _ hem (by simpa using hes) hset.1 (left_shrinks es seen e he) ?_ ?_ (run_entry_at _ r b since seen es clock e hset.1 hb' hem ((stamped_iff es clock).1 hst).2.1))
  ·rcases hal with rfl | rfl <;> exact ⟨rfl,rfl,rfl,by simp [setBlock],fun i _ hi=>hset.2 i (fun e1=>hi (by rw [e1]))⟩
  ·rcases hal with rfl | rfl <;> simp [setBlock]
end
theorem YW {w : World} {o : Obj} {b : Nat} (h : b < w.heap.size) : (w.alloc o).heap[b]?=w.heap[b]?:=(MapKept.heap_alloc w o).2 b h
theorem ZpG {P : Program} {t kt e : TypeId} {k : List UInt8} {en : Array MapEntry} {ck ob : Nat} {W : World} (ht : P.underlying t=some (.map kt e)) (htk : tkT P kt=.str) (hb : W.heap[ob]?=some (.map en ck)) (hkeys : ∀ x∈en.toList,∃ k',x.key=strv k'∧k'≠k) (v : Value) :
  ∃ W2,(Instr.mapUpdate t (.map (some ob)) (strv k) v).run P W=.ok () W2∧W2=setB W ob (.map (en.push { key:=strv k,val:=v,born:=ck }) (ck+1)):=by
 have hok : okK (tkT P kt) (strv k)=true:=by rw [htk];rfl
 obtain ⟨d,hd,hsk,hchk⟩:=Zav hok
 have hE : ∀ l : List MapEntry,(∀ x∈l,∃ k',x.key=strv k'∧k'≠k)→Jt (fun _=>none) (l.map fun x=>(x.key,Value.tuple #[],x.born)) l∧∀ i,J6 .str (strv k) (l.map fun x=>(x.key,Value.tuple #[],x.born)) i=some none:=by
  intro l
  induction l with
  | nil=>intro _;exact ⟨trivial,fun _=>rfl⟩
  | cons x l ih=>
   intro h
   obtain ⟨k',hk1,hk2⟩:=h x (by simp)
   obtain ⟨h1,h2⟩:=ih fun y hy=>h y (by simp [hy])
   refine ⟨⟨⟨by show QB x.key=true;rw [hk1];rfl,rfl,.un,rfl⟩,h1⟩,fun i=>?_⟩
   have hs : Zbr .str (strv k) x.key=some (k==k'):=by rw [hk1];simp only [Zbr,strv,ZsG]
   simp only [List.map_cons,J6,hs]
   rw [show (k==k')=false by rw [beq_eq_false_iff_ne];exact Ne.symm hk2]
   exact h2 _
 obtain ⟨h1,h2⟩:=hE en.toList hkeys
 obtain ⟨r',h3,h4⟩:=YN (k:=strv k) hd 0 h1 (by rw [htk];exact h2 0)
 cases r' with
 | some p=>exact h4.elim
 | none=>
  refine ⟨_,?_,rfl⟩
  simp only [Instr.mapUpdate,Sem.run_bind,run_underlying ht,Result.andThen_ok,Jz hb,hchk,JD hd h3,Ym hb]
structure CpR (w : World) (b r gb' ob : Nat) (es : Array MapEntry) (clock : Nat) (seen : Array Nat) (c0 : Nat) (en : Array MapEntry) (ck : Nat) (L : List (MapEntry × Nat)) (el : TypeId) (wr : World) : Prop where
 it : wr.heap[r]?=some (.mapIter (some b) clock seen c0)
 c0 : clock≤c0
 g : wr.heap[gb']?=some (.cells #[.map (some ob)] el (0,0))
 o : wr.heap[ob]?=some (.map en ck)
 st : Go.MapKept.Stamped en ck
 ent : en.toList.map (fun x=>(x.key,x.val))=L.map (fun p=>(p.1.key,Value.map (some p.2)))
 sn : L.map (·.1.born)=seen.toList
 mem : ∀ p∈L,p.1∈es.toList∧∃ sb ses sclk,p.1.val=.map (some sb)∧w.heap[sb]?=some (.map ses sclk)∧wr.heap[p.2]?=some (.map ses sclk)
 nod : (r :: gb' :: ob :: L.map (·.2)).Nodup
 ge : ∀ q∈r :: gb' :: ob :: L.map (·.2),w.heap.size≤q
 snod : seen.toList.Nodup
 bel : Below w.heap.size w wr
section
variable {w wr w1 : World} {b r g o : Nat} {es : Array MapEntry} {clock : Nat} {seen : Array Nat} {c0 : Nat} {en : Array MapEntry} {ck : Nat} {L : List (MapEntry × Nat)} {el : TypeId}
theorem CpR.lts (h : CpR w b r g o es clock seen c0 en ck L el wr) : r < wr.heap.size∧g < wr.heap.size∧o < wr.heap.size:=⟨(Array.getElem?_eq_some_iff.1 h.it).1,(Array.getElem?_eq_some_iff.1 h.g).1,(Array.getElem?_eq_some_iff.1 h.o).1⟩
theorem CpR.keys (h : CpR w b r g o es clock seen c0 en ck L el wr) (hst : Go.MapKept.Stamped es clock) {e : MapEntry} (he1 : e∈es.toList) (he2 : e.born∉seen) : ∀ x∈en.toList,x.key≠e.key:=fun x hx e4=>by
 have h3 : (x.key,x.val)∈L.map (fun p=>(p.1.key,Value.map (some p.2))):=by rw [← h.ent];exact List.mem_map.2 ⟨x,hx,rfl⟩
 obtain ⟨p,hp,h4⟩:=List.mem_map.1 h3
 simp only [Prod.mk.injEq] at h4
 obtain ⟨hm,_⟩:=h.mem p hp
 have h5 : p.1=e:=entry_eq_of_key ((stamped_iff es clock).1 hst).2.2 hm he1 (h4.1.trans e4)
 have : p.1.born∈seen.toList:=by rw [← h.sn];exact List.mem_map.2 ⟨p,hp,rfl⟩
 rw [h5] at this
 exact he2 (by simpa using this)
theorem CpR.next (h : CpR w b r g o es clock seen c0 en ck L el wr) (hst : Go.MapKept.Stamped es clock) {e : MapEntry} {sb sclk : Nat} {ses : Array MapEntry} (he1 : e∈es.toList) (he2 : e.born∉seen) (hev : e.val=.map (some sb)) (hsb : w.heap[sb]?=some (.map ses sclk))
  (hit : w1.heap[r]?=some (.mapIter (some b) clock (seen.push e.born) clock)) (hgr : wr.grownBy w1 (some r)) (hsz : w1.heap.size=wr.heap.size) :
  CpR w b r g o es clock (seen.push e.born) clock (en.push { key:=e.key,val:=.map (some wr.heap.size),born:=ck }) (ck+1) (L++[(e,wr.heap.size)]) el
   (setB (w1.alloc (.map ses sclk)).drew o (.map (en.push { key:=e.key,val:=.map (some wr.heap.size),born:=ck }) (ck+1))):=by
 obtain ⟨l1,l2,l3⟩:=h.lts
 have hnod:=h.nod
 simp only [List.nodup_cons,List.mem_cons,not_or] at hnod
 obtain ⟨⟨n1,n2,n3⟩,⟨n4,n5⟩,n6,n7⟩:=hnod
 generalize hX : Obj.map (en.push { key:=e.key,val:=.map (some wr.heap.size),born:=ck }) (ck+1)=X
 have hge:=h.ge
 have hLlt : ∀ p∈L,p.2 < wr.heap.size:=fun p hp=>by
  obtain ⟨_,sb',ses',sclk',h1,h2,h3⟩:=h.mem p hp
  exact (Array.getElem?_eq_some_iff.1 h3).1
 have keep : ∀ c,c < wr.heap.size→c≠o→c≠r→(setB (w1.alloc (.map ses sclk)).drew o X).heap[c]?=wr.heap[c]?:=fun c hc h1 h2=>by
  rw [Jw h1]
  show (w1.alloc (.map ses sclk)).heap[c]?=_
  rw [YW (by omega),hgr.block c hc (by simpa using h2)]
 have hk:=h.keys hst he1 he2
 have hst2:=(stamped_iff en ck).1 h.st
 refine ⟨?_,Nat.le_refl _,by rw [keep g l2 n4 (Ne.symm n1)];exact h.g,?_,?_,?_,?_,?_,?_,?_,?_,?_⟩
 ·rw [Jw n2]
  show (w1.alloc (.map ses sclk)).heap[r]?=_
  rw [YW (by omega)];exact hit
 ·rw [ZcF (by show o < (w1.alloc (.map ses sclk)).heap.size;simp;omega),hX]
 ·refine (stamped_iff _ _).2 ⟨fun x hx=>?_,?_,?_⟩
  ·rw [Array.toList_push,List.mem_append] at hx
   rcases hx with hx | hx
   ·exact Nat.lt_succ_of_lt (hst2.1 x hx)
   ·have : x={ key:=e.key,val:=.map (some wr.heap.size),born:=ck }:=by simpa using hx
    rw [this];exact Nat.lt_succ_self _
  ·rw [Array.toList_push,List.map_append,List.nodup_append]
   refine ⟨hst2.2.1,by simp,fun a ha c hc=>?_⟩
   have hc : c=ck:=by simpa using hc
   obtain ⟨x,hx,rfl⟩:=List.mem_map.1 ha
   have:=hst2.1 x hx
   omega
  ·rw [Array.toList_push,List.pairwise_append]
   refine ⟨hst2.2.2,by simp,fun x hx y hy=>?_⟩
   have : y={ key:=e.key,val:=.map (some wr.heap.size),born:=ck }:=by simpa using hy
   rw [this];exact hk x hx
 ·rw [Array.toList_push,List.map_append,List.map_append,h.ent];rfl
 ·rw [List.map_append,h.sn,Array.toList_push];rfl
 ·intro p hp
  rcases List.mem_append.1 hp with hp | hp
  ·obtain ⟨h1,sb',ses',sclk',h2,h4,h3⟩:=h.mem p hp
   have hp2 : p.2∈L.map (·.2):=List.mem_map.2 ⟨p,hp,rfl⟩
   exact ⟨h1,sb',ses',sclk',h2,h4,by rw [keep p.2 (hLlt p hp) (fun e1=>n6 (e1 ▸ hp2)) (fun e1=>n3 (e1 ▸ hp2))];exact h3⟩
  ·have : p=(e,wr.heap.size):=by simpa using hp
   subst this
   refine ⟨he1,sb,ses,sclk,hev,hsb,?_⟩
   rw [Jw (by show wr.heap.size≠o;omega)]
   show (w1.alloc (.map ses sclk)).heap[wr.heap.size]?=_
   rw [← hsz]
   exact (MapKept.heap_alloc w1 _).1
 ·have hnew : ∀ q∈r :: g :: o :: L.map (·.2),q≠wr.heap.size:=fun q hq=>by
   simp only [List.mem_cons] at hq
   rcases hq with rfl | rfl | rfl | hq
   ·omega
   ·omega
   ·omega
   ·obtain ⟨p,hp,rfl⟩:=List.mem_map.1 hq
    exact Nat.ne_of_lt (hLlt p hp)
  have : r :: g :: o :: (L++[(e,wr.heap.size)]).map (·.2)=(r :: g :: o :: L.map (·.2))++[wr.heap.size]:=by simp
  rw [this,List.nodup_append]
  refine ⟨h.nod,by simp,fun a ha c hc=>?_⟩
  have hc : c=wr.heap.size:=by simpa using hc
  rw [hc];exact hnew a ha
 ·intro q hq
  have : r :: g :: o :: (L++[(e,wr.heap.size)]).map (·.2)=(r :: g :: o :: L.map (·.2))++[wr.heap.size]:=by simp
  rw [this] at hq
  rcases List.mem_append.1 hq with hq | hq
  ·exact hge q hq
  ·have : q=wr.heap.size:=by simpa using hq
   rw [this];exact h.bel.size
 ·rw [Array.toList_push,List.nodup_append]
  refine ⟨h.snod,by simp,fun a ha c hc=>?_⟩
  have hc : c=e.born:=by simpa using hc
  rw [hc];rintro rfl;exact he2 (by simpa using ha)
 ·refine ⟨(show w1.os=_ from hgr.os.trans h.bel.os),(show w1.tape=_ from hgr.tape.trans h.bel.tape),(show w1.output=_ from hgr.output.trans h.bel.output),?_,fun i hi=>?_⟩
  ·rw [Zr3]
   show _≤(w1.alloc (.map ses sclk)).heap.size
   have:=h.bel.size
   simp;omega
  ·have ho:=hge o (by simp)
   have hr:=hge r (by simp)
   rw [keep i (Nat.lt_of_lt_of_le hi h.bel.size) (by omega) (by omega)]
   exact h.bel.block i hi
theorem CpR.left (h : CpR w b r g o es clock seen c0 en ck L el wr) (hb : w.heap[b]?=some (.map es clock)) : wr.heap[b]?=some (.map es clock)∧wr.rangeLeft b r=(leftOf es seen).size:=by
 have hbl : b < w.heap.size:=(Array.getElem?_eq_some_iff.1 hb).1
 have h1 : wr.heap[b]?=some (.map es clock):=(h.bel.block b hbl).trans hb
 refine ⟨h1,?_⟩
 simp only [World.rangeLeft,h1,h.it]
theorem CpR.perm (h : CpR w b r g o es clock seen c0 en ck L el wr) (hst : Go.MapKept.Stamped es clock) (hall : ∀ x∈es.toList,x.born∈seen) : (L.map (·.1)).Perm es.toList:=by
 have hst2:=(stamped_iff es clock).1 hst
 have n1 : (L.map (·.1)).Nodup:=by
  have : ((L.map (·.1)).map (·.born)).Nodup:=by rw [List.map_map];exact h.sn ▸ h.snod
  exact List.Pairwise.of_map _ (fun a b h e=>h (congrArg _ e)) this
 have n2 : es.toList.Nodup:=List.Pairwise.of_map _ (fun a b h e=>h (congrArg _ e)) hst2.2.1
 refine (List.perm_ext_iff_of_nodup n1 n2).2 fun x=>⟨fun hx=>?_,fun hx=>?_⟩
 ·obtain ⟨p,hp,rfl⟩:=List.mem_map.1 hx
  exact (h.mem p hp).1
 ·have h1 : x.born∈L.map (·.1.born):=by rw [h.sn];simpa using hall x hx
  obtain ⟨p,hp,h2⟩:=List.mem_map.1 h1
  have : p.1=x:=born_inj hst2.2.1 (h.mem p hp).1 hx h2
  exact List.mem_map.2 ⟨p,hp,this⟩
end
set_option maxRecDepth 100000 in
theorem Zu9 (hCl : ZeY Tryz.prog 126) : Zqu Tryz.prog 94 where
 c:=⟨Tryz.f94,Tryz.func94,by kernel_rfl,by kernel_rfl⟩
 run:=fun w gb b es clock hgb hcell hb hst hks hvs=>by
  have hmm:=@run_makeMap Tryz.prog
  have hbl : b < w.heap.size:=(Array.getElem?_eq_some_iff.1 hb).1
  go_enter Tryz.func94,Tryz.ntmps94
  go_wp2_with (first
   | (at_range;refine Zko _ rfl _ 96 rfl _ _ Tryz.underlying96 b es clock rfl ?_ ?_)
   | go_in)
  ·rw [YW (by simp;omega),YW hbl];exact hb
  ·go_frame
   have e1 : ((w.alloc (.map #[] 0)).alloc (.cells #[.map (some w.heap.size)] 98)).heap.size=w.heap.size+2:=by simp
   have e2 : (w.alloc (.map #[] 0)).heap.size=w.heap.size+1:=by simp
   rw [e1]
   try rw [e2]
   go_loopw [4,5] (fun _ _ wr=>∃ seen c0 en ck L,CpR w b (w.heap.size+2) (w.heap.size+1) w.heap.size es clock seen c0 en ck L 98 wr) (fun _ _ wr=>wr.rangeLeft b (w.heap.size+2))
   case atStart=>
    refine ⟨#[],clock,#[],0,[],?_⟩
    have hA:=fun (w : World) (o : Obj)=>(MapKept.heap_alloc w o).1
    refine ⟨?_,Nat.le_refl _,?_,?_,⟨by simp,by simp,by simp⟩,rfl,rfl,by simp,by simp,?_,by simp,?_⟩
    ·rw [← e1];exact hA _ _
    ·rw [YW (by rw [e1];omega),← e2];exact hA _ _
    ·rw [YW (by rw [e1];omega),YW (by rw [e2];omega)];exact hA _ _
    ·intro q hq
     simp only [List.map_nil,List.mem_cons,List.not_mem_nil,or_false] at hq
     omega
    ·exact (((Below.refl _ _).alloc (Nat.le_refl _) _).alloc (by rw [e2];omega) _).alloc (by rw [e1];omega) _
   case round=>
    obtain ⟨seen,c0,en,ck,L,hR⟩:=hrel
    go_wp2_with (first
     | (at_next;refine Zls _ rfl _ rfl b (w.heap.size+2) clock c0 clock seen es rfl hR.it ?_ hst rfl hR.c0 ?_ ?_)
     | go_in)
    ·exact (hR.left hb).1
    ·intro hdone
     go_wp2
     go_ret
     have hp:=hR.perm hst (by simpa using hdone)
     have hnod:=hR.nod
     have hge:=hR.ge
     exact ⟨_,_,_,_,_,_,rfl,hR.g,hR.o,hR.st,hR.ent,hp,fun p hp=>(by obtain ⟨_,sb,ses,sclk,h1,h2,h3⟩:=hR.mem p hp;exact ⟨sb,h1,h3.trans h2.symm⟩),(List.nodup_cons.1 hnod).2,fun q hq=>hge q (List.mem_cons_of_mem _ hq),hR.bel⟩
    ·intro e w1 he1 he2 hit1 hlt hgr hsz hen
     go_upto_region 5 with fail
     have he1 : e∈es.toList:=by simpa using he1
     obtain ⟨sb,ses,sclk,hev,hsb⟩:=hvs e he1
     obtain ⟨k,hek⟩:=hks e he1
     obtain ⟨W2,hcg,hcg2,hsz1,hsb1,hmu,hW2⟩ : ∃ W2,w1.cell? ⟨w.heap.size+1,0,none⟩=some (.map (some w.heap.size))∧(w1.alloc (.map ses sclk)).cell? ⟨w.heap.size+1,0,none⟩=some (.map (some w.heap.size))∧w.heap.size+1 < wr.heap.size∧w1.heap[sb]?=some (.map ses sclk)∧
       (Instr.mapUpdate 96 (.map (some w.heap.size)) (strv k) (.map (some wr.heap.size))).run Tryz.prog (w1.alloc (.map ses sclk)).drew=.ok () W2∧W2=setB (w1.alloc (.map ses sclk)).drew w.heap.size (.map (en.push { key:=strv k,val:=.map (some wr.heap.size),born:=ck }) (ck+1)):=by
      have hw : w.heap.size < wr.heap.size:=(Array.getElem?_eq_some_iff.1 hR.o).1
      have hg1 : w1.heap[w.heap.size+1]?=some (.cells #[.map (some w.heap.size)] 98 (0,0)):=by
       rw [hgr.block _ (Array.getElem?_eq_some_iff.1 hR.g).1 (by simp)];exact hR.g
      have ho1 : w1.heap[w.heap.size]?=some (.map en ck):=by
       rw [hgr.block _ hw (by simp)];exact hR.o
      have hcg : w1.cell? ⟨w.heap.size+1,0,none⟩=some (.map (some w.heap.size)):=by
       rw [ZeD hg1];rfl
      have hsbl : sb < w.heap.size:=(Array.getElem?_eq_some_iff.1 hsb).1
      have hsb1 : w1.heap[sb]?=some (.map ses sclk):=by
       rw [hgr.block _ (by omega) (by simp;omega),hR.bel.block sb hsbl];exact hsb
      have hoD : (w1.alloc (.map ses sclk)).drew.heap[w.heap.size]?=some (.map en ck):=by
       show (w1.alloc (.map ses sclk)).heap[w.heap.size]?=_
       rw [YW (by omega)];exact ho1
      have hkn : ∀ x∈en.toList,∃ k',x.key=strv k'∧k'≠k:=fun x hx=>by
       have h3 : (x.key,x.val)∈L.map (fun p=>(p.1.key,Value.map (some p.2))):=by rw [← hR.ent];exact List.mem_map.2 ⟨x,hx,rfl⟩
       obtain ⟨p,hp,h4⟩:=List.mem_map.1 h3
       simp only [Prod.mk.injEq] at h4
       obtain ⟨hm,_⟩:=hR.mem p hp
       obtain ⟨k',hk'⟩:=hks p.1 hm
       refine ⟨k',by rw [← h4.1];exact hk',fun e4=>he2 ?_⟩
       have h5 : p.1=e:=entry_eq_of_key ((stamped_iff es clock).1 hst).2.2 hm he1 (by rw [hk',hek,e4])
       have : p.1.born∈seen.toList:=by rw [← hR.sn];exact List.mem_map.2 ⟨p,hp,rfl⟩
       rw [h5] at this
       simpa using this
      obtain ⟨W2,hmu,hW2⟩:=ZpG (P:=Tryz.prog) (t:=96) (k:=k) (v:=.map (some wr.heap.size)) Tryz.underlying96 (by kernel_rfl) hoD hkn
      have hs1 : w.heap.size+1 < wr.heap.size:=(Array.getElem?_eq_some_iff.1 hR.g).1
      have hg2 : (w1.alloc (.map ses sclk)).heap[w.heap.size+1]?=some (.cells #[.map (some w.heap.size)] 98 (0,0)):=by
       rw [YW (by omega)];exact hg1
      exact ⟨W2,hcg,by rw [ZeD hg2];rfl,hs1,hsb1,hmu,hW2⟩
     rw [hev,hek]
     go_region_with (first
      | (go_at_call 126;refine (hCl.some sb ses sclk _ ?_).mono ?_;exact hsb1;rintro e w' ⟨rfl,rfl⟩)
      | fail)
     ·have hN:=hR.next hst he1 he2 hev hsb hit1 hgr hsz
      rw [hek] at hN
      go_roundw
      case rel=>(repeat apply Exists.intro);exact ⟨⟨_,_,_,_,_,hN⟩,rfl⟩
      case measure=>rw [(hN.left hb).2,(hR.left hb).2];exact hlt
     ·have hN:=hR.next hst he1 he2 hev hsb hit1 hgr hsz
      rw [hek] at hN
      go_roundw
      case rel=>(repeat apply Exists.intro);exact ⟨⟨_,_,_,_,_,hN⟩,rfl⟩
      case measure=>rw [(hN.left hb).2,(hR.left hb).2];exact hlt
end Go.Proofs.YtnnehafmjfmbnaaGreatDoor.A

