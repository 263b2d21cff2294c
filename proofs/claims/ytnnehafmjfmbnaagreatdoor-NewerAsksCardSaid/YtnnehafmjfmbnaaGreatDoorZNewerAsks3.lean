/- What the law NewerAsks needs (part 3). -/
import Derived.Test.YtnnehafmjfmbnaaGreatDoorZNewerAsks2
import Derived.Test.YtnnehafmjfmbnaaGreatDoorProg
import Derived.KernelRfl
import Derived.Maps.Own
import Derived.Sort.KeysCollected
import Derived.Lib.Bytealg
namespace Go.Proofs.YtnnehafmjfmbnaaGreatDoor.A
set_option linter.unusedVariables false
set_option maxRecDepth 100000
set_option linter.unusedSimpArgs false
open Go.Proofs Go.Proofs.YtnnehafmjfmbnaaGreatDoor
noncomputable def Za2.l1 (Γ : Zd) (s3 s5 s6 s37 s38 s39 : Value) : M Out:=
 bind (bop .int .lss s39 s38) fun y18=>
 cnd y18
 (bind (ixa 4 s37 s39) fun y19=>
 bind (ldA 4 y19) fun y20=>
 bind (alc 1 (.agg #[.int .u8 0,.string ⟨#[]⟩,.string ⟨#[]⟩,.bool false])) fun y21=>
 bind (stA 4 y21 y20) fun _=>
 bind (ldA 2 s6) fun y22=>
 bind (ldA 4 y21) fun y23=>
 bind (Γ JW [s5,y22,y23]) fun y24=>
 bind (Zh y24 0) fun y25=>
 bind (Zh y24 1) fun y26=>
 bind (stA 2 s6 y25) fun _=>
 bind (bop .int .add s39 (Value.int .i64 1)) fun y27=>
 ret (.nrm [s3,s5,s6,s37,s38,y27]))
 (ret (.ext 0 [s3,s5,s6]))
noncomputable def Za2.l2 (Γ : Zd) (s5 s9 s74 s75 s76 : Value) : M Out:=
 bind (bop .int .lss s76 s75) fun y52=>
 cnd y52
 (jn (bind (ixa 5 s74 s76) fun y53=>
 bind (ldA 5 y53) fun y54=>
 bind (alc 1 (.agg #[.string ⟨#[]⟩,.string ⟨#[]⟩,.string ⟨#[]⟩,.bool false,.slice none 0 0])) fun y55=>
 bind (stA 5 y55 y54) fun _=>
 bind (fa 0 y55) fun y56=>
 bind (ld1 y56) fun y57=>
 bind (bop .str .eql y57 s9) fun y58=>
 cnd y58
 (ret (.nrm [s5,s9,s74,s75,s76]))
 (bind (fa 0 y55) fun y59=>
 bind (ld1 y59) fun y60=>
 bind (Γ JH [s5,y60]) fun y61=>
 bind (Zh y61 0) fun y62=>
 bind (Zh y61 1) fun y63=>
 bind (alc 1 (.agg #[.string ⟨#[]⟩,.string ⟨#[]⟩,.string ⟨#[]⟩,.bool false,.slice none 0 0])) fun y64=>
 bind (stA 5 y64 y62) fun _=>
 bind (bop .int .neq y63 (Value.int .i64 0)) fun y65=>
 bind (ZA y65 false 6 (bind (ldA 5 y55) fun y66=>
 bind (bsl 5 1 (.agg #[.string ⟨#[]⟩,.string ⟨#[]⟩,.string ⟨#[]⟩,.bool false,.slice none 0 0]) [(0,5,y66)]) fun y67=>
 bind (ldA 5 y64) fun y68=>
 bind (bsl 5 1 (.agg #[.string ⟨#[]⟩,.string ⟨#[]⟩,.string ⟨#[]⟩,.bool false,.slice none 0 0]) [(0,5,y68)]) fun y69=>
 bind (Γ YL [y67,y69]) fun y70=>
 bind (uop .not y70) fun y71=>
 ret [y66,y67,y68,y69,y70,y71])) (c6 fun _ _ _ _ _ q72_5=>
 bind (pick y65 (Value.bool true) q72_5) fun y73=>
 cnd y73
 (ret (.ret (Value.bool false)))
 (ret (.nrm [s5,s9,s74,s75,s76]))))) (c5 fun q74_0 q74_1 q74_2 q74_3 q74_4=>
 bind (bop .int .add q74_4 (Value.int .i64 1)) fun y75=>
 ret (.nrm [q74_0,q74_1,q74_2,q74_3,y75])) noX ZP)
 (ret (.ext 2 [s5,s9]))
noncomputable def Za2 (Γ : Zd) (x0 x1 : Value) : M Value:=
 bind (alc 1 x1) fun y1=>
 bind (Γ YP []) fun y2=>
 bind (uop .not y2) fun y3=>
 bind (ZA y3 false 3 (bind (Γ WG [x0]) fun y4=>
 bind (uop .not y4) fun y5=>
 ret [x0,y4,y5])) (c3 fun _ _ q6_2=>
 bind (pick y3 (Value.bool true) q6_2) fun y7=>
 bind (ZA y7 false 4 (bind (ldA 4 y1) fun y8=>
 bind (bsl 4 1 (.agg #[.int .u8 0,.string ⟨#[]⟩,.string ⟨#[]⟩,.bool false]) [(0,4,y8)]) fun y9=>
 bind (Γ WG [y9]) fun y10=>
 bind (uop .not y10) fun y11=>
 ret [y8,y9,y10,y11])) (c4 fun _ _ _ q12_3=>
 bind (pick y7 (Value.bool true) q12_3) fun y13=>
 cnd y13
 (bind (Γ YP []) fun y14=>
 ret y14)
 (bind (Γ KC []) fun y15=>
 bind (alc 1 (.agg #[.slice none 0 0,.slice none 0 0])) fun y16=>
 bind (ZF x0) fun y17=>
 jn (Zi (c6 (Za2.l1 Γ)) [y1,y15,y16,x0,y17,(Value.int .i64 0)]) noN (xk 0 (c3 fun q29_0 q29_1 q29_2=>
 bind (fa 1 q29_0) fun y30=>
 bind (ld1 y30) fun y31=>
 bind (fa 0 q29_0) fun y32=>
 bind (ld1 y32) fun y33=>
 bind (bop .int .rem y33 (Value.int .u8 11)) fun y34=>
 bind (bop .int .geq y34 (Value.int .u8 8)) fun y35=>
 jn (cnd y35
 (bind (fa 2 q29_0) fun y36=>
 bind (ld1 y36) fun y37=>
 ret (.nrm [q29_0,q29_1,q29_2,y37]))
 (ret (.nrm [q29_0,q29_1,q29_2,y31]))) (c4 fun q38_0 q38_1 q38_2 q38_3=>
 bind (Γ Zif [q38_1]) fun y39=>
 bind (fa 0 q38_0) fun y40=>
 bind (ld1 y40) fun y41=>
 bind (bop .int .rem y41 (Value.int .u8 11)) fun y42=>
 bind (bop .int .neq y42 (Value.int .u8 6)) fun y43=>
 bind (ZA y43 true 2 (bind (bop .int .neq y42 (Value.int .u8 7)) fun y44=>
 ret [y42,y44])) (c2 fun _ q45_1=>
 bind (pick y43 q45_1 (Value.bool false)) fun y46=>
 jn (cnd y46
 (bind (ldA 2 q38_2) fun y47=>
 bind (ldA 4 q38_0) fun y48=>
 bind (Γ JW [q38_1,y47,y48]) fun y49=>
 ret (.nrm [q38_1,q38_3,y39]))
 (ret (.nrm [q38_1,q38_3,y39]))) (c3 fun q50_0 q50_1 q50_2=>
 bind (ZF q50_2) fun y51=>
 jn (Zi (c5 (Za2.l2 Γ)) [q50_0,q50_1,q50_2,y51,(Value.int .i64 0)]) noN (xk 2 (c2 fun q78_0 q78_1=>
 bind (Γ JH [q78_0,q78_1]) fun y79=>
 bind (Zh y79 0) fun y80=>
 bind (Zh y79 1) fun y81=>
 bind (alc 1 (.agg #[.string ⟨#[]⟩,.string ⟨#[]⟩,.string ⟨#[]⟩,.bool false,.slice none 0 0])) fun y82=>
 bind (stA 5 y82 y80) fun _=>
 bind (bop .int .neq y81 (Value.int .i64 0)) fun y83=>
 bind (ZA y83 false 4 (bind (Γ Yh [q78_0,q78_1]) fun y84=>
 bind (bop .int .neq y84 (Value.int .i64 0)) fun y85=>
 ret [q78_0,q78_1,y84,y85])) (c4 fun _ _ _ q86_3=>
 bind (pick y83 (Value.bool true) q86_3) fun y87=>
 cnd y87
 (bind (bop .int .neq y81 (Value.int .i64 0)) fun y88=>
 ret y88)
 (bind (fa 2 y82) fun y89=>
 bind (ld1 y89) fun y90=>
 bind (Γ YU [q78_0,y90]) fun y91=>
 bind (Zh y91 0) fun y92=>
 bind (Zh y91 1) fun y93=>
 bind (fa 2 y82) fun y94=>
 bind (ld1 y94) fun y95=>
 bind (bop .str .neq y95 (Value.string ⟨#[]⟩)) fun y96=>
 bind (ZA y96 true 3 (bind (bop .int .neq y93 (Value.int .i64 8)) fun y97=>
 ret [y93,y97,y97])) (c3 fun _ _ q98_2=>
 bind (ZA q98_2 false 2 (bind (bop .str .neq y92 (Value.string ⟨#[]⟩)) fun y99=>
 ret [y92,y99])) (c2 fun _ q100_1=>
 bind (ZA y96 true 1 (bind (pick q98_2 (Value.bool true) q100_1) fun y101=>
 ret [y101])) (c1 fun q102_0=>
 bind (pick y96 q102_0 (Value.bool false)) fun y103=>
 cnd y103
 (ret (Value.bool false))
 (bind (Γ JD [q78_0,q78_1,(Value.string ⟨#[49]⟩)]) fun y104=>
 bind (bop .int .neq y104 (Value.int .i64 0)) fun y105=>
 cnd y105
 (ret (Value.bool false))
 (bind (Γ JH [q78_0,q78_1]) fun y106=>
 bind (Zh y106 0) fun y107=>
 bind (Zh y106 1) fun y108=>
 bind (alc 1 (.agg #[.string ⟨#[]⟩,.string ⟨#[]⟩,.string ⟨#[]⟩,.bool false,.slice none 0 0])) fun y109=>
 bind (stA 5 y109 y107) fun _=>
 bind (bop .int .eql y108 (Value.int .i64 0)) fun y110=>
 bind (ZA y110 true 3 (bind (fa 2 y109) fun y111=>
 bind (ld1 y111) fun y112=>
 bind (bop .str .eql y112 (Value.string ⟨#[]⟩)) fun y113=>
 ret [y111,y112,y113])) (c3 fun _ _ q114_2=>
 bind (pick y110 q114_2 (Value.bool false)) fun y115=>
 bind (ZA y115 true 3 (bind (fa 3 y109) fun y116=>
 bind (ld1 y116) fun y117=>
 bind (uop .not y117) fun y118=>
 ret [y116,y117,y118])) (c3 fun _ _ q119_2=>
 bind (pick y115 q119_2 (Value.bool false)) fun y120=>
 bind (ZA y120 true 4 (bind (fa 4 y109) fun y121=>
 bind (ld1 y121) fun y122=>
 bind (ZF y122) fun y123=>
 bind (bop .int .eql y123 (Value.int .i64 0)) fun y124=>
 ret [y121,y122,y123,y124])) (c4 fun _ _ _ q125_3=>
 bind (pick y120 q125_3 (Value.bool false)) fun y126=>
 bind (ZA y126 true 3 (bind (fa 1 y109) fun y127=>
 bind (ld1 y127) fun y128=>
 bind (bop .str .eql y128 (Value.string ⟨#[49]⟩)) fun y129=>
 ret [y127,y128,y129])) (c3 fun _ _ q130_2=>
 bind (pick y126 q130_2 (Value.bool false)) fun y131=>
 ret y131)))))))))))) noX) ret) noX ret)) noX ret) noX) ret)))
noncomputable def JT.l1 (Γ : Zd) (s0 s1 s5 s30 s31 s32 : Value) : M Out:=
 bind (bop .int .lss s32 s31) fun y13=>
 cnd y13
 (bind (ixa 5 s30 s32) fun y14=>
 bind (ldA 5 y14) fun y15=>
 bind (alc 1 (.agg #[.string ⟨#[]⟩,.string ⟨#[]⟩,.string ⟨#[]⟩,.bool false,.slice none 0 0])) fun y16=>
 bind (stA 5 y16 y15) fun _=>
 bind (ldA 5 y16) fun y17=>
 bind (Γ Zsb [y17]) fun y18=>
 bind (uop .not y18) fun y19=>
 cnd y19
 (ret (.ret (Value.bool true)))
 (bind (bsl 1 0 (.string ⟨#[]⟩) []) fun y20=>
 bind (fa 4 y16) fun y21=>
 bind (ld1 y21) fun y22=>
 bind (app 1 16 y20 y22) fun y23=>
 bind (fa 4 y16) fun y24=>
 bind (st1 y24 y23) fun _=>
 bind (ldA 5 y16) fun y25=>
 bind (bsl 5 1 (.agg #[.string ⟨#[]⟩,.string ⟨#[]⟩,.string ⟨#[]⟩,.bool false,.slice none 0 0]) [(0,5,y25)]) fun y26=>
 bind (app 5 80 s5 y26) fun y27=>
 bind (bop .int .add s32 (Value.int .i64 1)) fun y28=>
 ret (.nrm [s0,s1,y27,s30,s31,y28])))
 (ret (.ext 0 [s0,s1,s5]))
noncomputable def JT.l2 (Γ : Zd) (s0 s1 s5 s49 s50 s51 : Value) : M Out:=
 bind (bop .int .lss s51 s50) fun y32=>
 cnd y32
 (bind (ixa 1 s49 s51) fun y33=>
 bind (ld1 y33) fun y34=>
 bind (QE y34) fun y35=>
 bind (bop .int .gtr y35 (Value.int .i64 50)) fun y36=>
 cnd y36
 (ret (.ret (Value.bool true)))
 (bind (bop .int .add s51 (Value.int .i64 1)) fun y37=>
 ret (.nrm [s0,s1,s5,s49,s50,y37])))
 (ret (.ext 2 [s0,s1,s5]))
noncomputable def JT.l4 (Γ : Zd) (s0 s1 s5 s10 s12 s75 s76 s84 s85 : Value) : M Out:=
 bind (bop .int .lss s85 s84) fun y53=>
 cnd y53
 (bind (ixa 5 s5 s12) fun y54=>
 bind (fa 4 y54) fun y55=>
 bind (ld1 y55) fun y56=>
 bind (ixa 1 y56 s85) fun y57=>
 bind (st1 y57 (Value.string ⟨#[122,122,122]⟩)) fun _=>
 bind (bop .int .add s85 (Value.int .i64 1)) fun y58=>
 ret (.nrm [s0,s1,s5,s10,s12,s75,s76,s84,y58]))
 (ret (.ext 6 [s0,s1,s5,s10,s75,s76]))
noncomputable def JT.l3 (Γ : Zd) (s0 s1 s5 s10 s75 s76 : Value) : M Out:=
 bind (bop .int .lss s76 s75) fun y48=>
 cnd y48
 (bind (ixa 5 s5 s76) fun y49=>
 bind (fa 4 y49) fun y50=>
 bind (ld1 y50) fun y51=>
 bind (ZF y51) fun y52=>
 jn (Zi (c9 (JT.l4 Γ)) [s0,s1,s5,s10,s76,s75,s76,y52,(Value.int .i64 0)]) noN (xk 6 (c6 fun q60_0 q60_1 q60_2 q60_3 q60_4 q60_5=>
 bind (bop .int .add q60_5 (Value.int .i64 1)) fun y61=>
 ret (.nrm [q60_0,q60_1,q60_2,q60_3,q60_4,y61])) noX) ZP)
 (ret (.ext 4 [s0,s1,s10]))
noncomputable def JT.l6 (Γ : Zd) (s0 s1 s10 s14 s15 s100 s101 s109 s110 : Value) : M Out:=
 bind (bop .int .lss s110 s109) fun y72=>
 cnd y72
 (bind (ixa 5 s14 s15) fun y73=>
 bind (fa 4 y73) fun y74=>
 bind (ld1 y74) fun y75=>
 bind (ixa 1 y75 s110) fun y76=>
 bind (st1 y76 (Value.string ⟨#[121,121,121]⟩)) fun _=>
 bind (bop .int .add s110 (Value.int .i64 1)) fun y77=>
 ret (.nrm [s0,s1,s10,s14,s15,s100,s101,s109,y77]))
 (ret (.ext 10 [s0,s1,s10,s14,s100,s101]))
noncomputable def JT.l5 (Γ : Zd) (s0 s1 s10 s14 s100 s101 : Value) : M Out:=
 bind (bop .int .lss s101 s100) fun y67=>
 cnd y67
 (bind (ixa 5 s14 s101) fun y68=>
 bind (fa 4 y68) fun y69=>
 bind (ld1 y69) fun y70=>
 bind (ZF y70) fun y71=>
 jn (Zi (c9 (JT.l6 Γ)) [s0,s1,s10,s14,s101,s100,s101,y71,(Value.int .i64 0)]) noN (xk 10 (c6 fun q79_0 q79_1 q79_2 q79_3 q79_4 q79_5=>
 bind (bop .int .add q79_5 (Value.int .i64 1)) fun y80=>
 ret (.nrm [q79_0,q79_1,q79_2,q79_3,q79_4,y80])) noX) ZP)
 (ret (.ext 8 [s0,s1,s10]))
noncomputable def JT (Γ : Zd) (x0 x1 : Value) : M Value:=
 bind (Γ YP []) fun y1=>
 bind (uop .not y1) fun y2=>
 bind (ZA y2 false 3 (bind (ZF x0) fun y3=>
 bind (bop .int .gtr y3 (Value.int .i64 30)) fun y4=>
 ret [x0,y3,y4])) (c3 fun _ _ q5_2=>
 bind (pick y2 (Value.bool true) q5_2) fun y6=>
 bind (ZA y6 false 3 (bind (ZF x1) fun y7=>
 bind (bop .int .gtr y7 (Value.int .i64 20)) fun y8=>
 ret [x1,y7,y8])) (c3 fun _ _ q9_2=>
 bind (pick y6 (Value.bool true) q9_2) fun y10=>
 cnd y10
 (bind (Γ YP []) fun y11=>
 ret y11)
 (bind (ZF x0) fun y12=>
 jn (Zi (c6 (JT.l1 Γ)) [x0,x1,(Value.slice none 0 0),x0,y12,(Value.int .i64 0)]) noN (xk 0 (c3 fun q30_0 q30_1 q30_2=>
 bind (ZF q30_1) fun y31=>
 jn (Zi (c6 (JT.l2 Γ)) [q30_0,q30_1,q30_2,q30_1,y31,(Value.int .i64 0)]) noN (xk 2 (c3 fun q39_0 q39_1 q39_2=>
 bind (Γ Ztn [q39_2,q39_1]) fun y40=>
 bind (Zh y40 0) fun y41=>
 bind (Zh y40 1) fun y42=>
 bind (Γ Ztw [q39_0,q39_1]) fun y43=>
 bind (bop .int .neq y42 y43) fun y44=>
 cnd y44
 (ret (Value.bool false))
 (bind (bop .int .neq y42 (Value.int .i64 0)) fun y45=>
 cnd y45
 (bind (bop .ptr .eql y41 (Value.pointer none)) fun y46=>
 ret y46)
 (bind (ZF q39_2) fun y47=>
 jn (Zi (c6 (JT.l3 Γ)) [q39_0,q39_1,q39_2,y41,y47,(Value.int .i64 0)]) noN (xk 4 (c3 fun q64_0 q64_1 q64_2=>
 bind (Γ Zif [q64_2]) fun y65=>
 bind (ZF y65) fun y66=>
 jn (Zi (c6 (JT.l5 Γ)) [q64_0,q64_1,q64_2,y65,y66,(Value.int .i64 0)]) noN (xk 8 (c3 fun q83_0 q83_1 q83_2=>
 bind (bld (.agg #[.slice none 0 0,.slice none 0 0]) [(0,1,q83_0),(1,1,q83_1)]) fun y84=>
 bind (Γ ZkR [q83_2,y84]) fun y85=>
 ret y85) noX) ret) noX) ret))) noX) ret) noX) ret)))
noncomputable def Ze2.l1 (Γ : Zd) (s3 s4 s17 s18 s19 : Value) : M Out:=
 bind (bop .int .lss s19 s18) fun y11=>
 cnd y11
 (bind (ixa 4 s17 s19) fun y12=>
 bind (ldA 4 y12) fun y13=>
 bind (alc 1 (.agg #[.int .u8 0,.string ⟨#[]⟩,.string ⟨#[]⟩,.bool false])) fun y14=>
 bind (stA 4 y14 y13) fun _=>
 bind (ldA 2 s4) fun y15=>
 bind (ldA 4 y14) fun y16=>
 bind (Γ JW [s3,y15,y16]) fun y17=>
 bind (Zh y17 0) fun y18=>
 bind (Zh y17 1) fun y19=>
 bind (stA 2 s4 y18) fun _=>
 bind (uop .not y19) fun y20=>
 bind (ZA y20 false 4 (bind (ldA 2 s4) fun y21=>
 bind (Γ ZkR [s3,y21]) fun y22=>
 bind (uop .not y22) fun y23=>
 ret [s3,y21,y22,y23])) (c4 fun _ _ _ q24_3=>
 bind (pick y20 (Value.bool true) q24_3) fun y25=>
 cnd y25
 (ret (.ret (Value.bool false)))
 (bind (bop .int .add s19 (Value.int .i64 1)) fun y26=>
 ret (.nrm [s3,s4,s17,s18,y26]))))
 (ret (.ext 0 []))
noncomputable def Ze2 (Γ : Zd) (x0 : Value) : M Value:=
 bind (Γ YP []) fun y1=>
 bind (uop .not y1) fun y2=>
 bind (ZA y2 false 3 (bind (Γ WG [x0]) fun y3=>
 bind (uop .not y3) fun y4=>
 ret [x0,y3,y4])) (c3 fun _ _ q5_2=>
 bind (pick y2 (Value.bool true) q5_2) fun y6=>
 cnd y6
 (bind (Γ YP []) fun y7=>
 ret y7)
 (bind (Γ KC []) fun y8=>
 bind (alc 1 (.agg #[.slice none 0 0,.slice none 0 0])) fun y9=>
 bind (ZF x0) fun y10=>
 jn (Zi (c5 (Ze2.l1 Γ)) [y8,y9,x0,y10,(Value.int .i64 0)]) noN (xk 0 (c0 (ret (Value.bool true))) noX) ret))
noncomputable def JF.l1 (Γ : Zd) (s1 s2 s3 s4 s11 s12 s60 s61 s62 : Value) : M Out:=
 bind (bop .int .lss s62 s61) fun y27=>
 cnd y27
 (bind (ixa 4 s60 s62) fun y28=>
 bind (ldA 4 y28) fun y29=>
 bind (alc 1 (.agg #[.int .u8 0,.string ⟨#[]⟩,.string ⟨#[]⟩,.bool false])) fun y30=>
 bind (stA 4 y30 y29) fun _=>
 bind (ldA 2 s12) fun y31=>
 bind (ldA 4 y30) fun y32=>
 bind (Γ JW [s11,y31,y32]) fun y33=>
 bind (Zh y33 0) fun y34=>
 bind (Zh y33 1) fun y35=>
 bind (stA 2 s12 y34) fun _=>
 bind (bop .int .add s62 (Value.int .i64 1)) fun y36=>
 ret (.nrm [s1,s2,s3,s4,s11,s12,s60,s61,y36]))
 (ret (.ext 0 [s1,s2,s3,s4,s11,s12]))
noncomputable def JF (Γ : Zd) (x0 x1 x2 x3 x4 : Value) : M Value:=
 bind (Γ YP []) fun y1=>
 bind (uop .not y1) fun y2=>
 bind (ZA y2 false 3 (bind (Γ WG [x0]) fun y3=>
 bind (uop .not y3) fun y4=>
 ret [x0,y3,y4])) (c3 fun _ _ q5_2=>
 bind (pick y2 (Value.bool true) q5_2) fun y6=>
 bind (ZA y6 false 3 (bind (QE x1) fun y7=>
 bind (bop .int .gtr y7 (Value.int .i64 50)) fun y8=>
 ret [x1,y7,y8])) (c3 fun _ _ q9_2=>
 bind (pick y6 (Value.bool true) q9_2) fun y10=>
 bind (ZA y10 false 3 (bind (QE x2) fun y11=>
 bind (bop .int .gtr y11 (Value.int .i64 50)) fun y12=>
 ret [x2,y11,y12])) (c3 fun _ _ q13_2=>
 bind (pick y10 (Value.bool true) q13_2) fun y14=>
 bind (ZA y14 false 3 (bind (QE x3) fun y15=>
 bind (bop .int .gtr y15 (Value.int .i64 50)) fun y16=>
 ret [x3,y15,y16])) (c3 fun _ _ q17_2=>
 bind (pick y14 (Value.bool true) q17_2) fun y18=>
 bind (ZA y18 false 3 (bind (QE x4) fun y19=>
 bind (bop .int .gtr y19 (Value.int .i64 50)) fun y20=>
 ret [x4,y19,y20])) (c3 fun _ _ q21_2=>
 bind (pick y18 (Value.bool true) q21_2) fun y22=>
 cnd y22
 (bind (Γ YP []) fun y23=>
 ret y23)
 (bind (Γ KC []) fun y24=>
 bind (alc 1 (.agg #[.slice none 0 0,.slice none 0 0])) fun y25=>
 bind (ZF x0) fun y26=>
 jn (Zi (c9 (JF.l1 Γ)) [x1,x2,x3,x4,y24,y25,x0,y26,(Value.int .i64 0)]) noN (xk 0 (c6 fun q38_0 q38_1 q38_2 q38_3 q38_4 q38_5=>
 bind (Γ JH [q38_4,q38_0]) fun y39=>
 bind (Zh y39 0) fun y40=>
 bind (Zh y39 1) fun y41=>
 bind (alc 1 (.agg #[.string ⟨#[]⟩,.string ⟨#[]⟩,.string ⟨#[]⟩,.bool false,.slice none 0 0])) fun y42=>
 bind (stA 5 y42 y40) fun _=>
 bind (ldA 2 q38_5) fun y43=>
 bind (Γ Zav [y43,q38_0]) fun y44=>
 bind (Zh y44 0) fun y45=>
 bind (Zh y44 1) fun y46=>
 bind (alc 1 (.agg #[.string ⟨#[]⟩,.string ⟨#[]⟩,.string ⟨#[]⟩,.bool false,.slice none 0 0])) fun y47=>
 bind (stA 5 y47 y45) fun _=>
 bind (Γ YU [q38_4,q38_1]) fun y48=>
 bind (Zh y48 0) fun y49=>
 bind (Zh y48 1) fun y50=>
 bind (ldA 2 q38_5) fun y51=>
 bind (Γ ZaT [y51,q38_1]) fun y52=>
 bind (Zh y52 0) fun y53=>
 bind (Zh y52 1) fun y54=>
 bind (ldA 5 y42) fun y55=>
 bind (bsl 5 1 (.agg #[.string ⟨#[]⟩,.string ⟨#[]⟩,.string ⟨#[]⟩,.bool false,.slice none 0 0]) [(0,5,y55)]) fun y56=>
 bind (ldA 5 y47) fun y57=>
 bind (bsl 5 1 (.agg #[.string ⟨#[]⟩,.string ⟨#[]⟩,.string ⟨#[]⟩,.bool false,.slice none 0 0]) [(0,5,y57)]) fun y58=>
 bind (Γ YL [y56,y58]) fun y59=>
 bind (uop .not y59) fun y60=>
 bind (ZA y60 false 3 (bind (bop .int .neq y41 y46) fun y61=>
 ret [y41,y46,y61])) (c3 fun _ _ q62_2=>
 bind (pick y60 (Value.bool true) q62_2) fun y63=>
 bind (ZA y63 false 3 (bind (bop .str .neq y49 y53) fun y64=>
 ret [y49,y53,y64])) (c3 fun _ _ q65_2=>
 bind (pick y63 (Value.bool true) q65_2) fun y66=>
 bind (ZA y66 false 3 (bind (bop .int .neq y50 y54) fun y67=>
 ret [y50,y54,y67])) (c3 fun _ _ q68_2=>
 bind (pick y66 (Value.bool true) q68_2) fun y69=>
 cnd y69
 (ret (Value.bool false))
 (bind (Γ WU [q38_4,q38_2]) fun y70=>
 bind (Zh y70 0) fun y71=>
 bind (Zh y70 1) fun y72=>
 bind (fa 0 q38_5) fun y73=>
 bind (ld1 y73) fun y74=>
 bind (Γ WN [y74,q38_2]) fun y75=>
 bind (Zh y75 0) fun y76=>
 bind (Zh y75 1) fun y77=>
 bind (Γ KP [q38_4,q38_3]) fun y78=>
 bind (Zh y78 0) fun y79=>
 bind (Zh y78 1) fun y80=>
 bind (ldA 2 q38_5) fun y81=>
 bind (Γ K5 [y81,q38_3]) fun y82=>
 bind (Zh y82 0) fun y83=>
 bind (Zh y82 1) fun y84=>
 bind (Γ Ye [y71,y76]) fun y85=>
 bind (ZA y85 true 3 (bind (bop .int .eql y72 y77) fun y86=>
 ret [y72,y77,y86])) (c3 fun _ _ q87_2=>
 bind (pick y85 q87_2 (Value.bool false)) fun y88=>
 bind (ZA y88 true 3 (bind (Γ Ye [y79,y83]) fun y89=>
 ret [y79,y83,y89])) (c3 fun _ _ q90_2=>
 bind (pick y88 q90_2 (Value.bool false)) fun y91=>
 bind (ZA y91 true 3 (bind (bop .int .eql y80 y84) fun y92=>
 ret [y80,y84,y92])) (c3 fun _ _ q93_2=>
 bind (pick y91 q93_2 (Value.bool false)) fun y94=>
 ret y94)))))))) noX) ret))))))
theorem Zkk (Γ : Zd) (x0 x1 x2 x3 x4 : Value) : ZG Tryz.prog Γ Tryz.f6 Zfa [x0,x1,x2,x3,x4]=JF Γ x0 x1 x2 x3 x4:=by kernel_rfl
theorem ZjK {prim : FuncId→Option (List Value→M Value)} (hp : prim W1=none) (n : Nat) (x0 x1 x2 x3 x4 : Value) : run Tryz.prog prim lvs (n+1) W1 [x0,x1,x2,x3,x4]=JF (run Tryz.prog prim lvs n) x0 x1 x2 x3 x4:=
 (Zr hp (by kernel_rfl) Tryz.func6 (by kernel_rfl)).trans (Zkk _ x0 x1 x2 x3 x4)
noncomputable def ZfO (Γ : Zd) : M Value:=
 bind (Γ KC []) fun y1=>
 bind (bop .ptr .eql y1 (Value.pointer none)) fun y2=>
 cnd y2
 (ret (Value.bool false))
 (bind (Γ JD [y1,(Value.string ⟨#[97,110,110]⟩),(Value.string ⟨#[49]⟩)]) fun y3=>
 bind (Γ JP [y1,(Value.string ⟨#[97,110,110]⟩),(Value.string ⟨#[65,64,98,46,99]⟩)]) fun y4=>
 bind (Γ YO [y1,(Value.string ⟨#[97,110,110]⟩),(Value.string ⟨#[98,111,98]⟩)]) fun y5=>
 bind (Γ YU [y1,(Value.string ⟨#[97,64,98,46,99]⟩)]) fun y6=>
 bind (Zh y6 0) fun y7=>
 bind (Zh y6 1) fun y8=>
 bind (bop .int .eql y3 (Value.int .i64 0)) fun y9=>
 bind (ZA y9 true 2 (bind (bop .int .eql y4 (Value.int .i64 0)) fun y10=>
 ret [y4,y10])) (c2 fun _ q11_1=>
 bind (pick y9 q11_1 (Value.bool false)) fun y12=>
 bind (ZA y12 true 2 (bind (bop .int .eql y5 (Value.int .i64 0)) fun y13=>
 ret [y5,y13])) (c2 fun _ q14_1=>
 bind (pick y12 q14_1 (Value.bool false)) fun y15=>
 bind (ZA y15 true 2 (bind (bop .int .eql y8 (Value.int .i64 0)) fun y16=>
 ret [y8,y16])) (c2 fun _ q17_1=>
 bind (pick y15 q17_1 (Value.bool false)) fun y18=>
 bind (ZA y18 true 2 (bind (bop .str .eql y7 (Value.string ⟨#[98,111,98]⟩)) fun y19=>
 ret [y7,y19])) (c2 fun _ q20_1=>
 bind (pick y18 q20_1 (Value.bool false)) fun y21=>
 ret y21)))))
theorem Zoi (Γ : Zd) : ZG Tryz.prog Γ Tryz.f7 Zie []=ZfO Γ :=by kernel_rfl
theorem Znq {prim : FuncId→Option (List Value→M Value)} (hp : prim YP=none) (n : Nat) : run Tryz.prog prim lvs (n+1) YP []=ZfO (run Tryz.prog prim lvs n) :=
 (Zr hp (by kernel_rfl) Tryz.func7 (by kernel_rfl)).trans (Zoi _ )
noncomputable def Wd.l1 (Γ : Zd) (s0 s5 s6 s7 : Value) : M Out:=
 bind (bop .int .lss s7 s6) fun y2=>
 cnd y2
 (bind (ixa 4 s5 s7) fun y3=>
 bind (ldA 4 y3) fun y4=>
 bind (alc 1 (.agg #[.int .u8 0,.string ⟨#[]⟩,.string ⟨#[]⟩,.bool false])) fun y5=>
 bind (stA 4 y5 y4) fun _=>
 bind (fa 1 y5) fun y6=>
 bind (ld1 y6) fun y7=>
 bind (QE y7) fun y8=>
 bind (bop .int .gtr y8 (Value.int .i64 50)) fun y9=>
 bind (ZA y9 false 4 (bind (fa 2 y5) fun y10=>
 bind (ld1 y10) fun y11=>
 bind (QE y11) fun y12=>
 bind (bop .int .gtr y12 (Value.int .i64 50)) fun y13=>
 ret [y10,y11,y12,y13])) (c4 fun _ _ _ q14_3=>
 bind (pick y9 (Value.bool true) q14_3) fun y15=>
 cnd y15
 (ret (.ret (Value.bool false)))
 (bind (bop .int .add s7 (Value.int .i64 1)) fun y16=>
 ret (.nrm [s0,s5,s6,y16]))))
 (ret (.ext 0 [s0]))
noncomputable def Wd (Γ : Zd) (x0 : Value) : M Value:=
 bind (ZF x0) fun y1=>
 jn (Zi (c4 (Wd.l1 Γ)) [x0,x0,y1,(Value.int .i64 0)]) noN (xk 0 (c1 fun q18_0=>
 bind (ZF q18_0) fun y19=>
 bind (bop .int .leq y19 (Value.int .i64 60)) fun y20=>
 ret y20) noX) ret
theorem ZqW (Γ : Zd) (x0 : Value) : ZG Tryz.prog Γ Tryz.f8 ZkQ [x0]=Wd Γ x0:=by kernel_rfl
theorem Zp9 {prim : FuncId→Option (List Value→M Value)} (hp : prim WG=none) (n : Nat) (x0 : Value) : run Tryz.prog prim lvs (n+1) WG [x0]=Wd (run Tryz.prog prim lvs n) x0:=
 (Zr hp (by kernel_rfl) Tryz.func8 (by kernel_rfl)).trans (ZqW _ x0)
noncomputable def Zho (Γ : Zd) : M Value:=
 bind (mkm) fun y1=>
 bind (Γ Zgn []) fun y2=>
 bind (Γ Zfp []) fun y3=>
 bind (bld (.agg #[.map none,.pointer none,.pointer none]) [(0,1,y1),(1,1,y2),(2,1,y3)]) fun y4=>
 bind (alc 1 y4) fun y5=>
 ret y5
theorem ZqK (Γ : Zd) : ZG Tryz.prog Γ Tryz.f9 ZkD []=Zho Γ :=by kernel_rfl
theorem Zpf {prim : FuncId→Option (List Value→M Value)} (hp : prim KC=none) (n : Nat) : run Tryz.prog prim lvs (n+1) KC []=Zho (run Tryz.prog prim lvs n) :=
 (Zr hp (by kernel_rfl) Tryz.func9 (by kernel_rfl)).trans (ZqK _ )
noncomputable def Kq (Γ : Zd) (x0 x1 x2 : Value) : M Value:=
 bind (alc 1 x1) fun y1=>
 bind (alc 1 x2) fun y2=>
 bind (alc 1 (.agg #[.slice none 0 0,.slice none 0 0])) fun y3=>
 bind (fa 0 y2) fun y4=>
 bind (ld1 y4) fun y5=>
 bind (bop .int .rem y5 (Value.int .u8 11)) fun y6=>
 bind (bop .int .eql y6 (Value.int .u8 0)) fun y7=>
 jn (cnd y7
 (bind (ldA 2 y1) fun y8=>
 bind (fa 1 y2) fun y9=>
 bind (ld1 y9) fun y10=>
 bind (fa 2 y2) fun y11=>
 bind (ld1 y11) fun y12=>
 bind (Γ ZbC [y8,y10,y12]) fun y13=>
 bind (Zh y13 0) fun y14=>
 bind (Zh y13 1) fun y15=>
 bind (stA 2 y1 y14) fun _=>
 bind (fa 1 y2) fun y16=>
 bind (ld1 y16) fun y17=>
 bind (fa 2 y2) fun y18=>
 bind (ld1 y18) fun y19=>
 bind (Γ JD [x0,y17,y19]) fun y20=>
 ret (.nrm [y1,y3,y20,y15]))
 (bind (bop .int .eql y6 (Value.int .u8 1)) fun y21=>
 jn (cnd y21
 (bind (ldA 2 y1) fun y22=>
 bind (fa 1 y2) fun y23=>
 bind (ld1 y23) fun y24=>
 bind (Γ ZbI [y22,y24]) fun y25=>
 bind (Zh y25 0) fun y26=>
 bind (Zh y25 1) fun y27=>
 bind (stA 2 y1 y26) fun _=>
 bind (fa 1 y2) fun y28=>
 bind (ld1 y28) fun y29=>
 bind (Γ Yh [x0,y29]) fun y30=>
 ret (.nrm [y1,y3,y30,y27]))
 (bind (bop .int .eql y6 (Value.int .u8 2)) fun y31=>
 jn (cnd y31
 (bind (ldA 2 y1) fun y32=>
 bind (fa 1 y2) fun y33=>
 bind (ld1 y33) fun y34=>
 bind (fa 2 y2) fun y35=>
 bind (ld1 y35) fun y36=>
 bind (Γ WR [y32,y34,y36]) fun y37=>
 bind (Zh y37 0) fun y38=>
 bind (Zh y37 1) fun y39=>
 bind (stA 2 y1 y38) fun _=>
 bind (fa 1 y2) fun y40=>
 bind (ld1 y40) fun y41=>
 bind (fa 2 y2) fun y42=>
 bind (ld1 y42) fun y43=>
 bind (Γ KM [x0,y41,y43]) fun y44=>
 ret (.nrm [y1,y3,y44,y39]))
 (bind (bop .int .eql y6 (Value.int .u8 3)) fun y45=>
 jn (cnd y45
 (bind (ldA 2 y1) fun y46=>
 bind (fa 1 y2) fun y47=>
 bind (ld1 y47) fun y48=>
 bind (fa 2 y2) fun y49=>
 bind (ld1 y49) fun y50=>
 bind (Γ WW [y46,y48,y50]) fun y51=>
 bind (Zh y51 0) fun y52=>
 bind (Zh y51 1) fun y53=>
 bind (stA 2 y1 y52) fun _=>
 bind (fa 1 y2) fun y54=>
 bind (ld1 y54) fun y55=>
 bind (fa 2 y2) fun y56=>
 bind (ld1 y56) fun y57=>
 bind (Γ JP [x0,y55,y57]) fun y58=>
 ret (.nrm [y1,y3,y58,y53]))
 (bind (bop .int .eql y6 (Value.int .u8 4)) fun y59=>
 jn (cnd y59
 (bind (ldA 2 y1) fun y60=>
 bind (fa 1 y2) fun y61=>
 bind (ld1 y61) fun y62=>
 bind (fa 3 y2) fun y63=>
 bind (ld1 y63) fun y64=>
 bind (Γ WS [y60,y62,y64]) fun y65=>
 bind (Zh y65 0) fun y66=>
 bind (Zh y65 1) fun y67=>
 bind (stA 2 y1 y66) fun _=>
 bind (fa 1 y2) fun y68=>
 bind (ld1 y68) fun y69=>
 bind (fa 3 y2) fun y70=>
 bind (ld1 y70) fun y71=>
 bind (Γ KK [x0,y69,y71]) fun y72=>
 ret (.nrm [y1,y3,y72,y67]))
 (bind (bop .int .eql y6 (Value.int .u8 5)) fun y73=>
 jn (cnd y73
 (bind (ldA 2 y1) fun y74=>
 bind (fa 1 y2) fun y75=>
 bind (ld1 y75) fun y76=>
 bind (fa 2 y2) fun y77=>
 bind (ld1 y77) fun y78=>
 bind (Γ Zaq [y74,y76,y78]) fun y79=>
 bind (Zh y79 0) fun y80=>
 bind (Zh y79 1) fun y81=>
 bind (stA 2 y1 y80) fun _=>
 bind (fa 1 y2) fun y82=>
 bind (ld1 y82) fun y83=>
 bind (fa 2 y2) fun y84=>
 bind (ld1 y84) fun y85=>
 bind (Γ YO [x0,y83,y85]) fun y86=>
 ret (.nrm [y1,y3,y86,y81]))
 (bind (bop .int .eql y6 (Value.int .u8 6)) fun y87=>
 jn (cnd y87
 (bind (ldA 2 y1) fun y88=>
 bind (fa 1 y2) fun y89=>
 bind (ld1 y89) fun y90=>
 bind (Γ Zae [y88,y90]) fun y91=>
 bind (Zh y91 0) fun y92=>
 bind (Zh y91 1) fun y93=>
 bind (stA 2 y1 y92) fun _=>
 bind (fa 1 y2) fun y94=>
 bind (ld1 y94) fun y95=>
 bind (Γ K0 [x0,y95]) fun y96=>
 ret (.nrm [y1,y3,y96,y93]))
 (bind (bop .int .eql y6 (Value.int .u8 7)) fun y97=>
 jn (cnd y97
 (bind (ldA 2 y1) fun y98=>
 bind (fa 1 y2) fun y99=>
 bind (ld1 y99) fun y100=>
 bind (Γ K7 [y98,y100]) fun y101=>
 bind (Zh y101 0) fun y102=>
 bind (Zh y101 1) fun y103=>
 bind (stA 2 y1 y102) fun _=>
 bind (fa 1 y2) fun y104=>
 bind (ld1 y104) fun y105=>
 bind (Γ Yx [x0,y105]) fun y106=>
 ret (.nrm [y1,y3,y106,y103]))
 (bind (bop .int .eql y6 (Value.int .u8 8)) fun y107=>
 jn (cnd y107
 (bind (ldA 2 y1) fun y108=>
 bind (fa 1 y2) fun y109=>
 bind (ld1 y109) fun y110=>
 bind (fa 2 y2) fun y111=>
 bind (ld1 y111) fun y112=>
 bind (Γ ZbM [y108,y110,y112]) fun y113=>
 bind (Zh y113 0) fun y114=>
 bind (Zh y113 1) fun y115=>
 bind (stA 2 y1 y114) fun _=>
 bind (fa 1 y2) fun y116=>
 bind (ld1 y116) fun y117=>
 bind (fa 2 y2) fun y118=>
 bind (ld1 y118) fun y119=>
 bind (Γ WQ [x0,y117,y119]) fun y120=>
 ret (.nrm [y1,y3,y120,y115]))
 (bind (bop .int .eql y6 (Value.int .u8 9)) fun y121=>
 jn (cnd y121
 (bind (ldA 2 y1) fun y122=>
 bind (fa 1 y2) fun y123=>
 bind (ld1 y123) fun y124=>
 bind (fa 2 y2) fun y125=>
 bind (ld1 y125) fun y126=>
 bind (Γ Zbg [y122,y124,y126]) fun y127=>
 bind (Zh y127 0) fun y128=>
 bind (Zh y127 1) fun y129=>
 bind (stA 2 y1 y128) fun _=>
 bind (fa 1 y2) fun y130=>
 bind (ld1 y130) fun y131=>
 bind (fa 2 y2) fun y132=>
 bind (ld1 y132) fun y133=>
 bind (Γ Wj [x0,y131,y133]) fun y134=>
 ret (.nrm [y1,y3,y134,y129]))
 (bind (Γ Zba [x0]) fun y135=>
 bind (fa 1 y2) fun y136=>
 bind (ld1 y136) fun y137=>
 bind (Γ JD [y135,y137,(Value.string ⟨#[49]⟩)]) fun y138=>
 bind (Γ Yh [y135,(Value.string ⟨#[97,110,110]⟩)]) fun y139=>
 bind (Γ Yx [y135,(Value.string ⟨#[100,101,118]⟩)]) fun y140=>
 bind (Γ JP [y135,(Value.string ⟨#[98,111,98]⟩),(Value.string ⟨#[113,64,113,46,113]⟩)]) fun y141=>
 ret (.nrm [y1,y3,(Value.int .i64 0),(Value.int .i64 0)]))) (c4 fun q142_0 q142_1 q142_2 q142_3=>
 ret (.nrm [q142_0,q142_1,q142_2,q142_3])) noX ZP)) (c4 fun q144_0 q144_1 q144_2 q144_3=>
 ret (.nrm [q144_0,q144_1,q144_2,q144_3])) noX ZP)) (c4 fun q146_0 q146_1 q146_2 q146_3=>
 ret (.nrm [q146_0,q146_1,q146_2,q146_3])) noX ZP)) (c4 fun q148_0 q148_1 q148_2 q148_3=>
 ret (.nrm [q148_0,q148_1,q148_2,q148_3])) noX ZP)) (c4 fun q150_0 q150_1 q150_2 q150_3=>
 ret (.nrm [q150_0,q150_1,q150_2,q150_3])) noX ZP)) (c4 fun q152_0 q152_1 q152_2 q152_3=>
 ret (.nrm [q152_0,q152_1,q152_2,q152_3])) noX ZP)) (c4 fun q154_0 q154_1 q154_2 q154_3=>
 ret (.nrm [q154_0,q154_1,q154_2,q154_3])) noX ZP)) (c4 fun q156_0 q156_1 q156_2 q156_3=>
 ret (.nrm [q156_0,q156_1,q156_2,q156_3])) noX ZP)) (c4 fun q158_0 q158_1 q158_2 q158_3=>
 ret (.nrm [q158_0,q158_1,q158_2,q158_3])) noX ZP)) (c4 fun q160_0 q160_1 q160_2 q160_3=>
 bind (ldA 2 q160_0) fun y161=>
 bind (bop .int .eql q160_2 q160_3) fun y162=>
 bind (stA 2 q160_1 y161) fun _=>
 bind (ldA 2 q160_1) fun y163=>
 ret (Value.tuple #[y163,y162])) noX ret
theorem ZrQ (Γ : Zd) (x0 x1 x2 : Value) : ZG Tryz.prog Γ Tryz.f10 ZmP [x0,x1,x2]=Kq Γ x0 x1 x2:=by kernel_rfl
theorem Kd {prim : FuncId→Option (List Value→M Value)} (hp : prim JW=none) (n : Nat) (x0 x1 x2 : Value) : run Tryz.prog prim lvs (n+1) JW [x0,x1,x2]=Kq (run Tryz.prog prim lvs n) x0 x1 x2:=
 (Zr hp (by kernel_rfl) Tryz.func10 (by kernel_rfl)).trans (ZrQ _ x0 x1 x2)
noncomputable def Zh7.l1 (Γ : Zd) (s0 s3 s9 s10 s11 : Value) : M Out:=
 bind (bop .int .lss s11 s10) fun y3=>
 cnd y3
 (bind (ixa 1 s9 s11) fun y4=>
 bind (ld1 y4) fun y5=>
 bind (Γ JH [s0,y5]) fun y6=>
 bind (Zh y6 0) fun y7=>
 bind (Zh y6 1) fun y8=>
 bind (alc 1 (.agg #[.string ⟨#[]⟩,.string ⟨#[]⟩,.string ⟨#[]⟩,.bool false,.slice none 0 0])) fun y9=>
 bind (stA 5 y9 y7) fun _=>
 bind (ldA 5 y9) fun y10=>
 bind (bsl 5 1 (.agg #[.string ⟨#[]⟩,.string ⟨#[]⟩,.string ⟨#[]⟩,.bool false,.slice none 0 0]) [(0,5,y10)]) fun y11=>
 bind (app 5 80 s3 y11) fun y12=>
 bind (bop .int .add s11 (Value.int .i64 1)) fun y13=>
 ret (.nrm [s0,y12,s9,s10,y13]))
 (ret (.ext 0 [s3]))
noncomputable def Zh7 (Γ : Zd) (x0 : Value) : M Value:=
 bind (Γ ZaB [x0]) fun y1=>
 bind (ZF y1) fun y2=>
 jn (Zi (c5 (Zh7.l1 Γ)) [x0,(Value.slice none 0 0),y1,y2,(Value.int .i64 0)]) noN (xk 0 (c1 fun q15_0=>
 ret q15_0) noX) ret
noncomputable def W8 (Γ : Zd) (x0 x1 : Value) : M Value:=
 bind (alc 1 (.agg #[.string ⟨#[]⟩,.string ⟨#[]⟩,.string ⟨#[]⟩,.bool false,.slice none 0 0])) fun y1=>
 bind (Γ Qv [x0,x1]) fun y2=>
 bind (Zh y2 0) fun y3=>
 bind (Zh y2 1) fun y4=>
 bind (alc 1 (.agg #[.string ⟨#[]⟩,.bool false])) fun y5=>
 bind (stA 2 y5 y3) fun _=>
 bind (bop .int .neq y4 (Value.int .i64 0)) fun y6=>
 cnd y6
 (bind (bld (.agg #[.string ⟨#[]⟩,.string ⟨#[]⟩,.string ⟨#[]⟩,.bool false,.slice none 0 0]) []) fun y7=>
 bind (stA 5 y1 y7) fun _=>
 bind (ldA 5 y1) fun y8=>
 ret (Value.tuple #[y8,y4]))
 (bind (QP x0) fun y9=>
 bind (fa 1 y9) fun y10=>
 bind (ld1 y10) fun y11=>
 bind (Γ ZbB [y11,x1]) fun y12=>
 bind (Zh y12 0) fun y13=>
 bind (Zh y12 1) fun y14=>
 bind (fa 0 y5) fun y15=>
 bind (ld1 y15) fun y16=>
 bind (fa 1 y5) fun y17=>
 bind (ld1 y17) fun y18=>
 bind (QP x0) fun y19=>
 bind (fa 2 y19) fun y20=>
 bind (ld1 y20) fun y21=>
 bind (Γ JX [y21,x1]) fun y22=>
 bind (ld1 y17) fun u_23=>same u_23 y18 <|
 bind (ld1 y15) fun u_24=>same u_24 y16 <|
 bind (bld (.agg #[.string ⟨#[]⟩,.string ⟨#[]⟩,.string ⟨#[]⟩,.bool false,.slice none 0 0]) [(0,1,x1),(1,1,y16),(2,1,y13),(3,1,y18),(4,1,y22)]) fun y25=>
 bind (stA 5 y1 y25) fun _=>
 bind (ldA 5 y1) fun y26=>
 ret (Value.tuple #[y26,(Value.int .i64 0)]))
theorem Zkm (Γ : Zd) (x0 x1 : Value) : ZG Tryz.prog Γ Tryz.f12 Zfb [x0,x1]=W8 Γ x0 x1:=by kernel_rfl
theorem ZiW {prim : FuncId→Option (List Value→M Value)} (hp : prim JH=none) (n : Nat) (x0 x1 : Value) : run Tryz.prog prim lvs (n+1) JH [x0,x1]=W8 (run Tryz.prog prim lvs n) x0 x1:=
 (Zr hp (by kernel_rfl) Tryz.func12 (by kernel_rfl)).trans (Zkm _ x0 x1)
noncomputable def Je.l1 (Γ : Zd) (s0 s1 s12 s13 : Value) : M Out:=
 bind (bop .int .lss s13 s12) fun y5=>
 cnd y5
 (bind (ixa 5 s0 s13) fun y6=>
 bind (ldA 5 y6) fun y7=>
 bind (ixa 5 s1 s13) fun y8=>
 bind (ldA 5 y8) fun y9=>
 bind (Γ Zes [y7,y9]) fun y10=>
 bind (uop .not y10) fun y11=>
 cnd y11
 (ret (.ret (Value.bool false)))
 (bind (bop .int .add s13 (Value.int .i64 1)) fun y12=>
 ret (.nrm [s0,s1,s12,y12])))
 (ret (.ext 0 []))
noncomputable def Je (Γ : Zd) (x0 x1 : Value) : M Value:=
 bind (ZF x0) fun y1=>
 bind (ZF x1) fun y2=>
 bind (bop .int .neq y1 y2) fun y3=>
 cnd y3
 (ret (Value.bool false))
 (bind (ZF x0) fun y4=>
 jn (Zi (c4 (Je.l1 Γ)) [x0,x1,y4,(Value.int .i64 0)]) noN (xk 0 (c0 (ret (Value.bool true))) noX) ret)
theorem Zj3 (Γ : Zd) (x0 x1 : Value) : ZG Tryz.prog Γ Tryz.f13 Zfe [x0,x1]=Je Γ x0 x1:=by kernel_rfl
theorem ZjH {prim : FuncId→Option (List Value→M Value)} (hp : prim YL=none) (n : Nat) (x0 x1 : Value) : run Tryz.prog prim lvs (n+1) YL [x0,x1]=Je (run Tryz.prog prim lvs n) x0 x1:=
 (Zr hp (by kernel_rfl) Tryz.func13 (by kernel_rfl)).trans (Zj3 _ x0 x1)
noncomputable def W5 (Γ : Zd) (x0 x1 : Value) : M Value:=
 bind (Γ Qv [x0,x1]) fun y1=>
 bind (Zh y1 0) fun y2=>
 bind (Zh y1 1) fun y3=>
 bind (alc 1 (.agg #[.string ⟨#[]⟩,.bool false])) fun y4=>
 bind (stA 2 y4 y2) fun _=>
 bind (bop .int .neq y3 (Value.int .i64 0)) fun y5=>
 cnd y5
 (ret y3)
 (bind (QP x0) fun y6=>
 bind (fa 0 y6) fun y7=>
 bind (ld1 y7) fun y8=>
 bind (mde .str y8 x1) fun _=>
 bind (QP x0) fun y9=>
 bind (fa 1 y9) fun y10=>
 bind (ld1 y10) fun y11=>
 bind (Γ Jz [y11,x1]) fun y12=>
 bind (QP x0) fun y13=>
 bind (fa 2 y13) fun y14=>
 bind (ld1 y14) fun y15=>
 bind (Γ KY [y15,x1]) fun y16=>
 ret (Value.int .i64 0))
theorem Zj4 (Γ : Zd) (x0 x1 : Value) : ZG Tryz.prog Γ Tryz.f14 Ze8 [x0,x1]=W5 Γ x0 x1:=by kernel_rfl
theorem Zjq {prim : FuncId→Option (List Value→M Value)} (hp : prim Yh=none) (n : Nat) (x0 x1 : Value) : run Tryz.prog prim lvs (n+1) Yh [x0,x1]=W5 (run Tryz.prog prim lvs n) x0 x1:=
 (Zr hp (by kernel_rfl) Tryz.func14 (by kernel_rfl)).trans (Zj4 _ x0 x1)
noncomputable def Zee (Γ : Zd) (x0 x1 : Value) : M Value:=
 bind (QP x0) fun y1=>
 bind (fa 1 y1) fun y2=>
 bind (ld1 y2) fun y3=>
 bind (Γ ZaJ [y3,x1]) fun y4=>
 bind (Zh y4 0) fun y5=>
 bind (Zh y4 1) fun y6=>
 ret (Value.tuple #[y5,y6])
theorem Zmk (Γ : Zd) (x0 x1 : Value) : ZG Tryz.prog Γ Tryz.f15 Zf6 [x0,x1]=Zee Γ x0 x1:=by kernel_rfl
theorem Zlm {prim : FuncId→Option (List Value→M Value)} (hp : prim YU=none) (n : Nat) (x0 x1 : Value) : run Tryz.prog prim lvs (n+1) YU [x0,x1]=Zee (run Tryz.prog prim lvs n) x0 x1:=
 (Zr hp (by kernel_rfl) Tryz.func15 (by kernel_rfl)).trans (Zmk _ x0 x1)
noncomputable def W3 (Γ : Zd) (x0 x1 x2 : Value) : M Value:=
 bind (Γ Qv [x0,x1]) fun y1=>
 bind (Zh y1 0) fun y2=>
 bind (Zh y1 1) fun y3=>
 bind (alc 1 (.agg #[.string ⟨#[]⟩,.bool false])) fun y4=>
 bind (stA 2 y4 y2) fun _=>
 bind (bop .int .eql y3 (Value.int .i64 10)) fun y5=>
 cnd y5
 (ret y3)
 (bind (Γ Zcs [x2]) fun y6=>
 bind (bop .int .neq y6 (Value.int .i64 0)) fun y7=>
 cnd y7
 (ret (Value.int .i64 4))
 (bind (bop .int .eql y3 (Value.int .i64 0)) fun y8=>
 cnd y8
 (ret (Value.int .i64 9))
 (bind (QP x0) fun y9=>
 bind (fa 0 y9) fun y10=>
 bind (ld1 y10) fun y11=>
 bind (lenM y11) fun y12=>
 bind (bop .int .geq y12 (Value.int .i64 12)) fun y13=>
 cnd y13
 (ret (Value.int .i64 7))
 (bind (QP x0) fun y14=>
 bind (fa 0 y14) fun y15=>
 bind (ld1 y15) fun y16=>
 bind (bld (.agg #[.string ⟨#[]⟩,.bool false]) [(0,1,x2)]) fun y17=>
 bind (mup .str y16 x1 y17) fun _=>
 ret (Value.int .i64 0)))))
theorem Zkd (Γ : Zd) (x0 x1 x2 : Value) : ZG Tryz.prog Γ Tryz.f16 Ze3 [x0,x1,x2]=W3 Γ x0 x1 x2:=by kernel_rfl
theorem Zjo {prim : FuncId→Option (List Value→M Value)} (hp : prim JD=none) (n : Nat) (x0 x1 x2 : Value) : run Tryz.prog prim lvs (n+1) JD [x0,x1,x2]=W3 (run Tryz.prog prim lvs n) x0 x1 x2:=
 (Zr hp (by kernel_rfl) Tryz.func16 (by kernel_rfl)).trans (Zkd _ x0 x1 x2)
noncomputable def ZlT.l1 (Γ : Zd) (s1 s3 s23 s24 s25 : Value) : M Out:=
 bind (bop .int .lss s25 s24) fun y21=>
 cnd y21
 (bind (ixa 1 s23 s25) fun y22=>
 bind (ld1 y22) fun y23=>
 bind (QE y23) fun y24=>
 bind (mxi false y24 (Value.int .i64 1000)) fun y25=>
 bind (bop .int .add s3 y25) fun y26=>
 bind (bop .int .add s25 (Value.int .i64 1)) fun y27=>
 ret (.nrm [s1,y26,s23,s24,y27]))
 (ret (.ext 0 [s1,s3]))
noncomputable def ZlT (Γ : Zd) (x0 : Value) : M Value:=
 bind (alc 1 x0) fun y1=>
 bind (fa 0 y1) fun y2=>
 bind (ld1 y2) fun y3=>
 bind (QE y3) fun y4=>
 bind (fa 1 y1) fun y5=>
 bind (ld1 y5) fun y6=>
 bind (QE y6) fun y7=>
 bind (bop .int .add y4 y7) fun y8=>
 bind (fa 2 y1) fun y9=>
 bind (ld1 y9) fun y10=>
 bind (QE y10) fun y11=>
 bind (bop .int .add y8 y11) fun y12=>
 bind (fa 4 y1) fun y13=>
 bind (ld1 y13) fun y14=>
 bind (fa 4 y1) fun y15=>
 bind (ld1 y15) fun y16=>
 bind (ZF y16) fun y17=>
 bind (mxi false y17 (Value.int .i64 30)) fun y18=>
 bind (slv 1 y14 none (some y18) none) fun y19=>
 bind (ZF y19) fun y20=>
 jn (Zi (c5 (ZlT.l1 Γ)) [y1,y12,y19,y20,(Value.int .i64 0)]) noN (xk 0 (c2 fun q29_0 q29_1=>
 bind (bop .int .leq q29_1 (Value.int .i64 400)) fun y30=>
 bind (ZA y30 true 4 (bind (fa 4 q29_0) fun y31=>
 bind (ld1 y31) fun y32=>
 bind (ZF y32) fun y33=>
 bind (bop .int .leq y33 (Value.int .i64 20)) fun y34=>
 ret [y31,y32,y33,y34])) (c4 fun _ _ _ q35_3=>
 bind (pick y30 q35_3 (Value.bool false)) fun y36=>
 ret y36)) noX) ret
noncomputable def Zdj.l1 (Γ : Zd) (s0 s7 s23 s24 s25 : Value) : M Out:=
 bind (bop .int .lss s25 s24) fun y5=>
 cnd y5
 (bind (ixa 1 s23 s25) fun y6=>
 bind (ld1 y6) fun y7=>
 bind (QP s7) fun y8=>
 bind (fa 2 y8) fun y9=>
 bind (ld1 y9) fun y10=>
 bind (Γ Yu [y10,y7]) fun y11=>
 bind (bop .int .add s25 (Value.int .i64 1)) fun y12=>
 ret (.nrm [s0,s7,s23,s24,y12]))
 (ret (.ext 0 [s0,s7]))
noncomputable def Zdj.l3 (Γ : Zd) (s7 s11 s36 s37 s38 s54 s55 s56 : Value) : M Out:=
 bind (bop .int .lss s56 s55) fun y33=>
 cnd y33
 (bind (ixa 1 s54 s56) fun y34=>
 bind (ld1 y34) fun y35=>
 bind (QP s7) fun y36=>
 bind (fa 2 y36) fun y37=>
 bind (ld1 y37) fun y38=>
 bind (fa 0 s11) fun y39=>
 bind (ld1 y39) fun y40=>
 bind (Γ Y7 [y38,y35,y40]) fun y41=>
 bind (bop .int .neq y41 (Value.int .i64 0)) fun y42=>
 cnd y42
 (ret (.ret (Value.tuple #[(Value.pointer none),y41])))
 (bind (bop .int .add s56 (Value.int .i64 1)) fun y43=>
 ret (.nrm [s7,s11,s36,s37,s38,s54,s55,y43])))
 (ret (.ext 4 [s7,s11,s36,s37,s38]))
noncomputable def Zdj.l2 (Γ : Zd) (s7 s36 s37 s38 : Value) : M Out:=
 bind (bop .int .lss s38 s37) fun y16=>
 cnd y16
 (bind (ixa 5 s36 s38) fun y17=>
 bind (ldA 5 y17) fun y18=>
 bind (alc 1 (.agg #[.string ⟨#[]⟩,.string ⟨#[]⟩,.string ⟨#[]⟩,.bool false,.slice none 0 0])) fun y19=>
 bind (stA 5 y19 y18) fun _=>
 bind (QP s7) fun y20=>
 bind (fa 0 y20) fun y21=>
 bind (ld1 y21) fun y22=>
 bind (fa 0 y19) fun y23=>
 bind (ld1 y23) fun y24=>
 bind (fa 1 y19) fun y25=>
 bind (ld1 y25) fun y26=>
 bind (fa 3 y19) fun y27=>
 bind (ld1 y27) fun y28=>
 bind (bld (.agg #[.string ⟨#[]⟩,.bool false]) [(0,1,y26),(1,1,y28)]) fun y29=>
 bind (mup .str y22 y24 y29) fun _=>
 bind (fa 4 y19) fun y30=>
 bind (ld1 y30) fun y31=>
 bind (ZF y31) fun y32=>
 jn (Zi (c8 (Zdj.l3 Γ)) [s7,y19,s36,s37,s38,y31,y32,(Value.int .i64 0)]) noN (xk 4 (c5 fun q45_0 q45_1 q45_2 q45_3 q45_4=>
 bind (QP q45_0) fun y46=>
 bind (fa 1 y46) fun y47=>
 bind (ld1 y47) fun y48=>
 bind (fa 0 q45_1) fun y49=>
 bind (ld1 y49) fun y50=>
 bind (fa 2 q45_1) fun y51=>
 bind (ld1 y51) fun y52=>
 bind (Γ K1 [y48,y50,y52]) fun y53=>
 bind (bop .int .neq y53 (Value.int .i64 0)) fun y54=>
 cnd y54
 (ret (.ret (Value.tuple #[(Value.pointer none),y53])))
 (bind (bop .int .add q45_4 (Value.int .i64 1)) fun y55=>
 ret (.nrm [q45_0,q45_2,q45_3,y55]))) noX) ZP)
 (ret (.ext 2 [s7]))
noncomputable def Zdj (Γ : Zd) (x0 x1 : Value) : M Value:=
 bind (Γ Zqi [x0,x1]) fun y1=>
 bind (bop .int .neq y1 (Value.int .i64 0)) fun y2=>
 cnd y2
 (ret (Value.tuple #[(Value.pointer none),y1]))
 (bind (Γ KC []) fun y3=>
 bind (ZF x1) fun y4=>
 jn (Zi (c5 (Zdj.l1 Γ)) [x0,y3,x1,y4,(Value.int .i64 0)]) noN (xk 0 (c2 fun q14_0 q14_1=>
 bind (ZF q14_0) fun y15=>
 jn (Zi (c4 (Zdj.l2 Γ)) [q14_1,q14_0,y15,(Value.int .i64 0)]) noN (xk 2 (c1 fun q58_0=>
 ret (Value.tuple #[q58_0,(Value.int .i64 0)])) noX) ret) noX) ret)
noncomputable def WP.l1 (Γ : Zd) (s0 s1 s21 s22 s23 : Value) : M Out:=
 bind (bop .int .lss s23 s22) fun y4=>
 cnd y4
 (bind (ixa 1 s21 s23) fun y5=>
 bind (ld1 y5) fun y6=>
 bind (Γ Qq [y6]) fun y7=>
 bind (uop .not y7) fun y8=>
 cnd y8
 (ret (.ret (Value.int .i64 10)))
 (bind (bop .int .add s23 (Value.int .i64 1)) fun y9=>
 ret (.nrm [s0,s1,s21,s22,y9])))
 (ret (.ext 0 [s0,s1]))
noncomputable def WP.l2 (Γ : Zd) (s0 s1 s31 s32 s33 : Value) : M Out:=
 bind (bop .int .lss s33 s32) fun y13=>
 cnd y13
 (bind (ixa 1 s31 s33) fun y14=>
 bind (ld1 y14) fun y15=>
 bind (bop .int .gtr s33 (Value.int .i64 0)) fun y16=>
 bind (ZA y16 true 7 (bind (bop .int .sub s33 (Value.int .i64 1)) fun y17=>
 bind (ixa 1 s1 y17) fun y18=>
 bind (ld1 y18) fun y19=>
 bind (bop .str .geq y19 y15) fun y20=>
 ret [s1,s33,y17,y18,y19,y15,y20])) (c7 fun _ _ _ _ _ _ q21_6=>
 bind (pick y16 q21_6 (Value.bool false)) fun y22=>
 cnd y22
 (ret (.ret (Value.int .i64 9)))
 (bind (bop .int .add s33 (Value.int .i64 1)) fun y23=>
 ret (.nrm [s0,s1,s31,s32,y23]))))
 (ret (.ext 2 [s0,s1]))
noncomputable def WP.l4 (Γ : Zd) (s0 s1 s10 s11 s53 s54 s55 s61 s62 s63 : Value) : M Out:=
 bind (bop .int .lss s63 s62) fun y36=>
 cnd y36
 (bind (ixa 1 s61 s63) fun y37=>
 bind (ld1 y37) fun y38=>
 bind (Γ Yi [s1,y38]) fun y39=>
 bind (uop .not y39) fun y40=>
 cnd y40
 (ret (.ret (Value.int .i64 8)))
 (bind (bop .int .add s63 (Value.int .i64 1)) fun y41=>
 ret (.nrm [s0,s1,s10,s11,s53,s54,s55,s61,s62,y41])))
 (ret (.ext 6 [s0,s1,s10,s11,s53,s54,s55]))
noncomputable def WP.l5 (Γ : Zd) (s0 s1 s11 s53 s54 s55 s74 s75 s76 : Value) : M Out:=
 bind (bop .int .lss s76 s75) fun y46=>
 cnd y46
 (bind (ixa 5 s74 s76) fun y47=>
 bind (ldA 5 y47) fun y48=>
 bind (alc 1 (.agg #[.string ⟨#[]⟩,.string ⟨#[]⟩,.string ⟨#[]⟩,.bool false,.slice none 0 0])) fun y49=>
 bind (stA 5 y49 y48) fun _=>
 bind (fa 2 s11) fun y50=>
 bind (ld1 y50) fun y51=>
 bind (bop .str .neq y51 (Value.string ⟨#[]⟩)) fun y52=>
 bind (ZA y52 true 5 (bind (fa 2 s11) fun y53=>
 bind (ld1 y53) fun y54=>
 bind (fa 2 y49) fun y55=>
 bind (ld1 y55) fun y56=>
 bind (bop .str .eql y54 y56) fun y57=>
 ret [y53,y54,y55,y56,y57])) (c5 fun _ _ _ _ q58_4=>
 bind (pick y52 q58_4 (Value.bool false)) fun y59=>
 cnd y59
 (ret (.ret (Value.int .i64 9)))
 (bind (bop .int .add s76 (Value.int .i64 1)) fun y60=>
 ret (.nrm [s0,s1,s11,s53,s54,s55,s74,s75,y60]))))
 (ret (.ext 8 [s0,s1,s53,s54,s55]))
noncomputable def WP.l3 (Γ : Zd) (s0 s1 s53 s54 s55 : Value) : M Out:=
 bind (bop .int .lss s55 s54) fun y29=>
 cnd y29
 (bind (ixa 5 s53 s55) fun y30=>
 bind (ldA 5 y30) fun y31=>
 bind (alc 1 (.agg #[.string ⟨#[]⟩,.string ⟨#[]⟩,.string ⟨#[]⟩,.bool false,.slice none 0 0])) fun y32=>
 bind (stA 5 y32 y31) fun _=>
 bind (fa 4 y32) fun y33=>
 bind (ld1 y33) fun y34=>
 bind (ZF y34) fun y35=>
 jn (Zi (c10 (WP.l4 Γ)) [s0,s1,s55,y32,s53,s54,s55,y34,y35,(Value.int .i64 0)]) noN (xk 6 (c7 fun q43_0 q43_1 q43_2 q43_3 q43_4 q43_5 q43_6=>
 bind (slv 5 q43_0 none (some q43_2) none) fun y44=>
 bind (ZF y44) fun y45=>
 jn (Zi (c9 (WP.l5 Γ)) [q43_0,q43_1,q43_3,q43_4,q43_5,q43_6,y44,y45,(Value.int .i64 0)]) noN (xk 8 (c5 fun q62_0 q62_1 q62_2 q62_3 q62_4=>
 bind (bop .int .add q62_4 (Value.int .i64 1)) fun y63=>
 ret (.nrm [q62_0,q62_1,q62_2,q62_3,y63])) noX) ZP) noX) ZP)
 (ret (.ext 4 []))
noncomputable def WP (Γ : Zd) (x0 x1 : Value) : M Value:=
 bind (Γ ZsH [x0,(Value.int .i64 2)]) fun y1=>
 bind (bop .int .neq y1 (Value.int .i64 0)) fun y2=>
 cnd y2
 (ret y1)
 (bind (ZF x1) fun y3=>
 jn (Zi (c5 (WP.l1 Γ)) [x0,x1,x1,y3,(Value.int .i64 0)]) noN (xk 0 (c2 fun q11_0 q11_1=>
 bind (ZF q11_1) fun y12=>
 jn (Zi (c5 (WP.l2 Γ)) [q11_0,q11_1,q11_1,y12,(Value.int .i64 0)]) noN (xk 2 (c2 fun q25_0 q25_1=>
 bind (ZF q25_1) fun y26=>
 bind (bop .int .gtr y26 (Value.int .i64 6)) fun y27=>
 cnd y27
 (ret (Value.int .i64 7))
 (bind (ZF q25_0) fun y28=>
 jn (Zi (c5 (WP.l3 Γ)) [q25_0,q25_1,q25_0,y28,(Value.int .i64 0)]) noN (xk 4 (c0 (ret (Value.int .i64 0))) noX) ret)) noX) ret) noX) ret)
noncomputable def ZeS (Γ : Zd) (x0 x1 : Value) : M Value:=
 bind (alc 1 x0) fun y1=>
 bind (alc 1 (.agg #[.string ⟨#[]⟩,.string ⟨#[]⟩,.string ⟨#[]⟩,.bool false,.slice none 0 0])) fun y2=>
 bind (ldA 2 y1) fun y3=>
 bind (Γ JN [y3,x1]) fun y4=>
 bind (Zh y4 0) fun y5=>
 bind (Zh y4 1) fun y6=>
 bind (stA 5 y2 y5) fun _=>
 bind (ldA 5 y2) fun y7=>
 ret (Value.tuple #[y7,y6])
theorem ZnI (Γ : Zd) (x0 x1 : Value) : ZG Tryz.prog Γ Tryz.f21 Zg6 [x0,x1]=ZeS Γ x0 x1:=by kernel_rfl
theorem Zl4 {prim : FuncId→Option (List Value→M Value)} (hp : prim Zav=none) (n : Nat) (x0 x1 : Value) : run Tryz.prog prim lvs (n+1) Zav [x0,x1]=ZeS (run Tryz.prog prim lvs n) x0 x1:=
 (Zr hp (by kernel_rfl) Tryz.func21 (by kernel_rfl)).trans (ZnI _ x0 x1)
noncomputable def YT.l1 (Γ : Zd) (s6 s18 s19 s20 : Value) : M Out:=
 bind (bop .int .lss s20 s19) fun y9=>
 cnd y9
 (bind (ixa 5 s18 s20) fun y10=>
 bind (ldA 5 y10) fun y11=>
 bind (alc 1 (.agg #[.string ⟨#[]⟩,.string ⟨#[]⟩,.string ⟨#[]⟩,.bool false,.slice none 0 0])) fun y12=>
 bind (stA 5 y12 y11) fun _=>
 bind (fa 2 y12) fun y13=>
 bind (ld1 y13) fun y14=>
 bind (bop .str .eql y14 s6) fun y15=>
 cnd y15
 (bind (fa 0 y12) fun y16=>
 bind (ld1 y16) fun y17=>
 ret (.ret (Value.tuple #[y17,(Value.int .i64 0)])))
 (bind (bop .int .add s20 (Value.int .i64 1)) fun y18=>
 ret (.nrm [s6,s18,s19,y18])))
 (ret (.ext 0 []))
noncomputable def YT (Γ : Zd) (x0 x1 : Value) : M Value:=
 bind (alc 1 x0) fun y1=>
 bind (Γ Kv [x1]) fun y2=>
 bind (Zh y2 0) fun y3=>
 bind (Zh y2 1) fun y4=>
 bind (uop .not y4) fun y5=>
 cnd y5
 (ret (Value.tuple #[(Value.string ⟨#[]⟩),(Value.int .i64 11)]))
 (bind (fa 0 y1) fun y6=>
 bind (ld1 y6) fun y7=>
 bind (ZF y7) fun y8=>
 jn (Zi (c4 (YT.l1 Γ)) [y3,y7,y8,(Value.int .i64 0)]) noN (xk 0 (c0 (ret (Value.tuple #[(Value.string ⟨#[]⟩),(Value.int .i64 8)]))) noX) ret)
theorem Zql (Γ : Zd) (x0 x1 : Value) : ZG Tryz.prog Γ Tryz.f22 Zjn [x0,x1]=YT Γ x0 x1:=by kernel_rfl
theorem Zof {prim : FuncId→Option (List Value→M Value)} (hp : prim ZaT=none) (n : Nat) (x0 x1 : Value) : run Tryz.prog prim lvs (n+1) ZaT [x0,x1]=YT (run Tryz.prog prim lvs n) x0 x1:=
 (Zr hp (by kernel_rfl) Tryz.func22 (by kernel_rfl)).trans (Zql _ x0 x1)
noncomputable def Zcx (Γ : Zd) (x0 x1 : Value) : M Value:=
 bind (alc 1 x1) fun y1=>
 bind (ld1 y1) fun y2=>
 bind (Γ Zb4 [y2]) fun y3=>
 bind (bop .int .neq y3 (Value.int .i64 0)) fun y4=>
 cnd y4
 (ret (Value.tuple #[(Value.slice none 0 0),y3]))
 (bind (Γ ZaB [x0]) fun y5=>
 bind (Γ Qb [y5,(Value.func (.func 71) #[] #[y1])]) fun y6=>
 ret (Value.tuple #[y6,(Value.int .i64 0)]))
theorem Zme (Γ : Zd) (x0 x1 : Value) : ZG Tryz.prog Γ Tryz.f23 Zf9 [x0,x1]=Zcx Γ x0 x1:=by kernel_rfl
theorem ZfP {prim : FuncId→Option (List Value→M Value)} (hp : prim WU=none) (n : Nat) (x0 x1 : Value) : run Tryz.prog prim lvs (n+1) WU [x0,x1]=Zcx (run Tryz.prog prim lvs n) x0 x1:=
 (Zr hp (by kernel_rfl) Tryz.func23 (by kernel_rfl)).trans (Zme _ x0 x1)
noncomputable def YS.l1 (Γ : Zd) (s1 s6 s12 s13 s14 : Value) : M Out:=
 bind (bop .int .lss s14 s13) fun y4=>
 cnd y4
 (bind (ixa 5 s12 s14) fun y5=>
 bind (ldA 5 y5) fun y6=>
 bind (alc 1 (.agg #[.string ⟨#[]⟩,.string ⟨#[]⟩,.string ⟨#[]⟩,.bool false,.slice none 0 0])) fun y7=>
 bind (stA 5 y7 y6) fun _=>
 bind (fa 0 y7) fun y8=>
 bind (ld1 y8) fun y9=>
 bind (QE y9) fun y10=>
 bind (QE s1) fun y11=>
 bind (bop .int .geq y10 y11) fun y12=>
 bind (ZA y12 true 7 (bind (fa 0 y7) fun y13=>
 bind (ld1 y13) fun y14=>
 bind (QE s1) fun y15=>
 bind (sls y14 none (some y15)) fun y16=>
 bind (bop .str .eql y16 s1) fun y17=>
 ret [y13,y14,s1,y15,y16,s1,y17])) (c7 fun _ _ _ _ _ _ q18_6=>
 bind (pick y12 q18_6 (Value.bool false)) fun y19=>
 jn (cnd y19
 (bind (fa 0 y7) fun y20=>
 bind (ld1 y20) fun y21=>
 bind (bsl 1 1 (.string ⟨#[]⟩) [(0,1,y21)]) fun y22=>
 bind (app 1 16 s6 y22) fun y23=>
 ret (.nrm [s1,y23,s12,s13,s14]))
 (ret (.nrm [s1,s6,s12,s13,s14]))) (c5 fun q24_0 q24_1 q24_2 q24_3 q24_4=>
 bind (bop .int .add q24_4 (Value.int .i64 1)) fun y25=>
 ret (.nrm [q24_0,q24_1,q24_2,q24_3,y25])) noX ZP))
 (ret (.ext 0 [s6]))
noncomputable def YS (Γ : Zd) (x0 x1 : Value) : M Value:=
 bind (Γ ZbH [x1]) fun y1=>
 bind (uop .not y1) fun y2=>
 cnd y2
 (ret (Value.tuple #[(Value.slice none 0 0),(Value.int .i64 10)]))
 (bind (ZF x0) fun y3=>
 jn (Zi (c5 (YS.l1 Γ)) [x1,(Value.slice none 0 0),x0,y3,(Value.int .i64 0)]) noN (xk 0 (c1 fun q28_0=>
 ret (Value.tuple #[q28_0,(Value.int .i64 0)])) noX) ret)
theorem Zo3 (Γ : Zd) (x0 x1 : Value) : ZG Tryz.prog Γ Tryz.f24 Zi4 [x0,x1]=YS Γ x0 x1:=by kernel_rfl
theorem Zon {prim : FuncId→Option (List Value→M Value)} (hp : prim WN=none) (n : Nat) (x0 x1 : Value) : run Tryz.prog prim lvs (n+1) WN [x0,x1]=YS (run Tryz.prog prim lvs n) x0 x1:=
 (Zr hp (by kernel_rfl) Tryz.func24 (by kernel_rfl)).trans (Zo3 _ x0 x1)
noncomputable def ZcC (Γ : Zd) (x0 x1 : Value) : M Value:=
 bind (QP x0) fun y1=>
 bind (fa 2 y1) fun y2=>
 bind (ld1 y2) fun y3=>
 bind (Γ KJ [y3,x1]) fun y4=>
 bind (Zh y4 0) fun y5=>
 bind (Zh y4 1) fun y6=>
 ret (Value.tuple #[y5,y6])
theorem ZiR (Γ : Zd) (x0 x1 : Value) : ZG Tryz.prog Γ Tryz.f25 ZeD [x0,x1]=ZcC Γ x0 x1:=by kernel_rfl
theorem Zik {prim : FuncId→Option (List Value→M Value)} (hp : prim KP=none) (n : Nat) (x0 x1 : Value) : run Tryz.prog prim lvs (n+1) KP [x0,x1]=ZcC (run Tryz.prog prim lvs n) x0 x1:=
 (Zr hp (by kernel_rfl) Tryz.func25 (by kernel_rfl)).trans (ZiR _ x0 x1)
noncomputable def Jv.l1 (Γ : Zd) (s1 s6 s18 s19 s20 : Value) : M Out:=
 bind (bop .int .lss s20 s19) fun y11=>
 cnd y11
 (bind (ixa 5 s18 s20) fun y12=>
 bind (ldA 5 y12) fun y13=>
 bind (alc 1 (.agg #[.string ⟨#[]⟩,.string ⟨#[]⟩,.string ⟨#[]⟩,.bool false,.slice none 0 0])) fun y14=>
 bind (stA 5 y14 y13) fun _=>
 bind (fa 4 y14) fun y15=>
 bind (ld1 y15) fun y16=>
 bind (Γ Yi [y16,s1]) fun y17=>
 jn (cnd y17
 (bind (fa 0 y14) fun y18=>
 bind (ld1 y18) fun y19=>
 bind (bsl 1 1 (.string ⟨#[]⟩) [(0,1,y19)]) fun y20=>
 bind (app 1 16 s6 y20) fun y21=>
 ret (.nrm [s1,y21,s18,s19,s20]))
 (ret (.nrm [s1,s6,s18,s19,s20]))) (c5 fun q22_0 q22_1 q22_2 q22_3 q22_4=>
 bind (bop .int .add q22_4 (Value.int .i64 1)) fun y23=>
 ret (.nrm [q22_0,q22_1,q22_2,q22_3,y23])) noX ZP)
 (ret (.ext 0 [s6]))
noncomputable def Jv (Γ : Zd) (x0 x1 : Value) : M Value:=
 bind (alc 1 x0) fun y1=>
 bind (Γ Qq [x1]) fun y2=>
 bind (uop .not y2) fun y3=>
 cnd y3
 (ret (Value.tuple #[(Value.slice none 0 0),(Value.int .i64 10)]))
 (bind (fa 1 y1) fun y4=>
 bind (ld1 y4) fun y5=>
 bind (Γ Yi [y5,x1]) fun y6=>
 bind (uop .not y6) fun y7=>
 cnd y7
 (ret (Value.tuple #[(Value.slice none 0 0),(Value.int .i64 8)]))
 (bind (fa 0 y1) fun y8=>
 bind (ld1 y8) fun y9=>
 bind (ZF y9) fun y10=>
 jn (Zi (c5 (Jv.l1 Γ)) [x1,(Value.slice none 0 0),y9,y10,(Value.int .i64 0)]) noN (xk 0 (c1 fun q26_0=>
 ret (Value.tuple #[q26_0,(Value.int .i64 0)])) noX) ret))
theorem Zl1 (Γ : Zd) (x0 x1 : Value) : ZG Tryz.prog Γ Tryz.f26 Zgk [x0,x1]=Jv Γ x0 x1:=by kernel_rfl
theorem Zll {prim : FuncId→Option (List Value→M Value)} (hp : prim K5=none) (n : Nat) (x0 x1 : Value) : run Tryz.prog prim lvs (n+1) K5 [x0,x1]=Jv (run Tryz.prog prim lvs n) x0 x1:=
 (Zr hp (by kernel_rfl) Tryz.func26 (by kernel_rfl)).trans (Zl1 _ x0 x1)
noncomputable def Yg.l1 (Γ : Zd) (s0 s1 s12 s13 : Value) : M Out:=
 bind (bop .int .lss s13 s12) fun y5=>
 cnd y5
 (bind (ixa 1 s0 s13) fun y6=>
 bind (ld1 y6) fun y7=>
 bind (ixa 1 s1 s13) fun y8=>
 bind (ld1 y8) fun y9=>
 bind (bop .str .neq y7 y9) fun y10=>
 cnd y10
 (ret (.ret (Value.bool false)))
 (bind (bop .int .add s13 (Value.int .i64 1)) fun y11=>
 ret (.nrm [s0,s1,s12,y11])))
 (ret (.ext 0 []))
noncomputable def Yg (Γ : Zd) (x0 x1 : Value) : M Value:=
 bind (ZF x0) fun y1=>
 bind (ZF x1) fun y2=>
 bind (bop .int .neq y1 y2) fun y3=>
 cnd y3
 (ret (Value.bool false))
 (bind (ZF x0) fun y4=>
 jn (Zi (c4 (Yg.l1 Γ)) [x0,x1,y4,(Value.int .i64 0)]) noN (xk 0 (c0 (ret (Value.bool true))) noX) ret)
theorem Zkh (Γ : Zd) (x0 x1 : Value) : ZG Tryz.prog Γ Tryz.f27 Ze4 [x0,x1]=Yg Γ x0 x1:=by kernel_rfl
theorem ZiJ {prim : FuncId→Option (List Value→M Value)} (hp : prim Ye=none) (n : Nat) (x0 x1 : Value) : run Tryz.prog prim lvs (n+1) Ye [x0,x1]=Yg (run Tryz.prog prim lvs n) x0 x1:=
 (Zr hp (by kernel_rfl) Tryz.func27 (by kernel_rfl)).trans (Zkh _ x0 x1)
noncomputable def YZ (Γ : Zd) (x0 x1 x2 : Value) : M Value:=
 bind (Γ Qv [x0,x1]) fun y1=>
 bind (Zh y1 0) fun y2=>
 bind (Zh y1 1) fun y3=>
 bind (alc 1 (.agg #[.string ⟨#[]⟩,.bool false])) fun y4=>
 bind (stA 2 y4 y2) fun _=>
 bind (Γ ZaI [x2]) fun y5=>
 bind (Zh y5 0) fun y6=>
 bind (Zh y5 1) fun y7=>
 bind (bop .int .eql y3 (Value.int .i64 10)) fun y8=>
 cnd y8
 (ret y3)
 (bind (bop .str .neq x2 (Value.string ⟨#[]⟩)) fun y9=>
 bind (ZA y9 true 2 (bind (bop .int .neq y7 (Value.int .i64 0)) fun y10=>
 ret [y7,y10])) (c2 fun _ q11_1=>
 bind (pick y9 q11_1 (Value.bool false)) fun y12=>
 cnd y12
 (ret y7)
 (bind (bop .int .neq y3 (Value.int .i64 0)) fun y13=>
 cnd y13
 (ret y3)
 (bind (QP x0) fun y14=>
 bind (fa 1 y14) fun y15=>
 bind (ld1 y15) fun y16=>
 bind (Γ K1 [y16,x1,x2]) fun y17=>
 ret y17))))
theorem Zi3 (Γ : Zd) (x0 x1 x2 : Value) : ZG Tryz.prog Γ Tryz.f28 ZeE [x0,x1,x2]=YZ Γ x0 x1 x2:=by kernel_rfl
theorem Zij {prim : FuncId→Option (List Value→M Value)} (hp : prim JP=none) (n : Nat) (x0 x1 x2 : Value) : run Tryz.prog prim lvs (n+1) JP [x0,x1,x2]=YZ (run Tryz.prog prim lvs n) x0 x1 x2:=
 (Zr hp (by kernel_rfl) Tryz.func28 (by kernel_rfl)).trans (Zi3 _ x0 x1 x2)
noncomputable def Zac (Γ : Zd) (x0 x1 x2 : Value) : M Value:=
 bind (Γ Qv [x0,x1]) fun y1=>
 bind (Zh y1 0) fun y2=>
 bind (Zh y1 1) fun y3=>
 bind (alc 1 (.agg #[.string ⟨#[]⟩,.bool false])) fun y4=>
 bind (stA 2 y4 y2) fun _=>
 bind (Γ Qv [x0,x2]) fun y5=>
 bind (Zh y5 0) fun y6=>
 bind (Zh y5 1) fun y7=>
 bind (alc 1 (.agg #[.string ⟨#[]⟩,.bool false])) fun y8=>
 bind (stA 2 y8 y6) fun _=>
 bind (bop .int .eql y3 (Value.int .i64 10)) fun y9=>
 bind (ZA y9 false 2 (bind (bop .int .eql y7 (Value.int .i64 10)) fun y10=>
 ret [y7,y10])) (c2 fun _ q11_1=>
 bind (pick y9 (Value.bool true) q11_1) fun y12=>
 cnd y12
 (ret (Value.int .i64 10))
 (bind (bop .int .neq y3 (Value.int .i64 0)) fun y13=>
 cnd y13
 (ret y3)
 (bind (bop .int .eql y7 (Value.int .i64 0)) fun y14=>
 cnd y14
 (ret (Value.int .i64 9))
 (bind (QP x0) fun y15=>
 bind (fa 0 y15) fun y16=>
 bind (ld1 y16) fun y17=>
 bind (mde .str y17 x1) fun _=>
 bind (QP x0) fun y18=>
 bind (fa 0 y18) fun y19=>
 bind (ld1 y19) fun y20=>
 bind (ldA 2 y4) fun y21=>
 bind (mup .str y20 x2 y21) fun _=>
 bind (QP x0) fun y22=>
 bind (fa 1 y22) fun y23=>
 bind (ld1 y23) fun y24=>
 bind (Γ KR [y24,x1,x2]) fun y25=>
 bind (QP x0) fun y26=>
 bind (fa 2 y26) fun y27=>
 bind (ld1 y27) fun y28=>
 bind (Γ Y9 [y28,x1,x2]) fun y29=>
 ret (Value.int .i64 0)))))
theorem Zj7 (Γ : Zd) (x0 x1 x2 : Value) : ZG Tryz.prog Γ Tryz.f29 Zfc [x0,x1,x2]=Zac Γ x0 x1 x2:=by kernel_rfl
theorem Zjg {prim : FuncId→Option (List Value→M Value)} (hp : prim YO=none) (n : Nat) (x0 x1 x2 : Value) : run Tryz.prog prim lvs (n+1) YO [x0,x1,x2]=Zac (run Tryz.prog prim lvs n) x0 x1 x2:=
 (Zr hp (by kernel_rfl) Tryz.func29 (by kernel_rfl)).trans (Zj7 _ x0 x1 x2)
noncomputable def ZjF (Γ : Zd) : M Value:=
 bind (mkm) fun y1=>
 bind (mkm) fun y2=>
 bind (bld (.agg #[.map none,.map none]) [(0,1,y1),(1,1,y2)]) fun y3=>
 bind (alc 1 y3) fun y4=>
 ret y4
theorem ZrJ (Γ : Zd) : ZG Tryz.prog Γ Tryz.f30 Zl5 []=ZjF Γ :=by kernel_rfl
theorem Zq4 {prim : FuncId→Option (List Value→M Value)} (hp : prim Zgn=none) (n : Nat) : run Tryz.prog prim lvs (n+1) Zgn []=ZjF (run Tryz.prog prim lvs n) :=
 (Zr hp (by kernel_rfl) Tryz.func30 (by kernel_rfl)).trans (ZrJ _ )
noncomputable def Zhi (Γ : Zd) : M Value:=
 bind (mkm) fun y1=>
 bind (bld (.agg #[.map none]) [(0,1,y1)]) fun y2=>
 bind (alc 1 y2) fun y3=>
 ret y3
theorem ZqH (Γ : Zd) : ZG Tryz.prog Γ Tryz.f31 ZkM []=Zhi Γ :=by kernel_rfl
theorem Zqg {prim : FuncId→Option (List Value→M Value)} (hp : prim Zfp=none) (n : Nat) : run Tryz.prog prim lvs (n+1) Zfp []=Zhi (run Tryz.prog prim lvs n) :=
 (Zr hp (by kernel_rfl) Tryz.func31 (by kernel_rfl)).trans (ZqH _ )
noncomputable def ZeV (Γ : Zd) (x0 x1 x2 : Value) : M Value:=
 bind (alc 1 x0) fun y1=>
 bind (alc 1 (.agg #[.slice none 0 0,.slice none 0 0])) fun y2=>
 bind (fa 0 y1) fun y3=>
 bind (ld1 y3) fun y4=>
 bind (Γ Zaw [y4,x1,x2]) fun y5=>
 bind (Zh y5 0) fun y6=>
 bind (Zh y5 1) fun y7=>
 bind (fa 0 y1) fun y8=>
 bind (st1 y8 y6) fun _=>
 bind (ldA 2 y1) fun y9=>
 bind (stA 2 y2 y9) fun _=>
 bind (ldA 2 y2) fun y10=>
 ret (Value.tuple #[y10,y7])
theorem Znt (Γ : Zd) (x0 x1 x2 : Value) : ZG Tryz.prog Γ Tryz.f32 ZgP [x0,x1,x2]=ZeV Γ x0 x1 x2:=by kernel_rfl
theorem ZlY {prim : FuncId→Option (List Value→M Value)} (hp : prim ZbC=none) (n : Nat) (x0 x1 x2 : Value) : run Tryz.prog prim lvs (n+1) ZbC [x0,x1,x2]=ZeV (run Tryz.prog prim lvs n) x0 x1 x2:=
 (Zr hp (by kernel_rfl) Tryz.func32 (by kernel_rfl)).trans (Znt _ x0 x1 x2)
noncomputable def ZeT (Γ : Zd) (x0 x1 : Value) : M Value:=
 bind (alc 1 x0) fun y1=>
 bind (alc 1 (.agg #[.slice none 0 0,.slice none 0 0])) fun y2=>
 bind (fa 0 y1) fun y3=>
 bind (ld1 y3) fun y4=>
 bind (Γ Zar [y4,x1]) fun y5=>
 bind (Zh y5 0) fun y6=>
 bind (Zh y5 1) fun y7=>
 bind (fa 0 y1) fun y8=>
 bind (st1 y8 y6) fun _=>
 bind (ldA 2 y1) fun y9=>
 bind (stA 2 y2 y9) fun _=>
 bind (ldA 2 y2) fun y10=>
 ret (Value.tuple #[y10,y7])
theorem Zm7 (Γ : Zd) (x0 x1 : Value) : ZG Tryz.prog Γ Tryz.f33 ZgZ [x0,x1]=ZeT Γ x0 x1:=by kernel_rfl
theorem ZmQ {prim : FuncId→Option (List Value→M Value)} (hp : prim ZbI=none) (n : Nat) (x0 x1 : Value) : run Tryz.prog prim lvs (n+1) ZbI [x0,x1]=ZeT (run Tryz.prog prim lvs n) x0 x1:=
 (Zr hp (by kernel_rfl) Tryz.func33 (by kernel_rfl)).trans (Zm7 _ x0 x1)
noncomputable def Za6 (Γ : Zd) (x0 x1 x2 : Value) : M Value:=
 bind (alc 1 x0) fun y1=>
 bind (alc 1 (.agg #[.slice none 0 0,.slice none 0 0])) fun y2=>
 bind (ldA 2 y1) fun y3=>
 bind (Γ JN [y3,x1]) fun y4=>
 bind (Zh y4 0) fun y5=>
 bind (Zh y4 1) fun y6=>
 bind (alc 1 (.agg #[.string ⟨#[]⟩,.string ⟨#[]⟩,.string ⟨#[]⟩,.bool false,.slice none 0 0])) fun y7=>
 bind (stA 5 y7 y5) fun _=>
 bind (bop .int .eql y6 (Value.int .i64 10)) fun y8=>
 cnd y8
 (bind (ldA 2 y1) fun y9=>
 bind (stA 2 y2 y9) fun _=>
 bind (ldA 2 y2) fun y10=>
 ret (Value.tuple #[y10,y6]))
 (bind (Γ WI [x2]) fun y11=>
 bind (uop .not y11) fun y12=>
 cnd y12
 (bind (ldA 2 y1) fun y13=>
 bind (stA 2 y2 y13) fun _=>
 bind (ldA 2 y2) fun y14=>
 ret (Value.tuple #[y14,(Value.int .i64 4)]))
 (bind (bop .int .neq y6 (Value.int .i64 0)) fun y15=>
 cnd y15
 (bind (ldA 2 y1) fun y16=>
 bind (stA 2 y2 y16) fun _=>
 bind (ldA 2 y2) fun y17=>
 ret (Value.tuple #[y17,y6]))
 (bind (fa 3 y7) fun y18=>
 bind (ld1 y18) fun y19=>
 cnd y19
 (bind (ldA 2 y1) fun y20=>
 bind (stA 2 y2 y20) fun _=>
 bind (ldA 2 y2) fun y21=>
 ret (Value.tuple #[y21,(Value.int .i64 12)]))
 (bind (fa 1 y7) fun y22=>
 bind (st1 y22 x2) fun _=>
 bind (ldA 2 y1) fun y23=>
 bind (ldA 5 y7) fun y24=>
 bind (Γ Wc [y23,y24]) fun y25=>
 bind (stA 2 y2 y25) fun _=>
 bind (ldA 2 y2) fun y26=>
 ret (Value.tuple #[y26,(Value.int .i64 0)])))))
theorem Zmc (Γ : Zd) (x0 x1 x2 : Value) : ZG Tryz.prog Γ Tryz.f34 Zf0 [x0,x1,x2]=Za6 Γ x0 x1 x2:=by kernel_rfl
theorem Zlg {prim : FuncId→Option (List Value→M Value)} (hp : prim WR=none) (n : Nat) (x0 x1 x2 : Value) : run Tryz.prog prim lvs (n+1) WR [x0,x1,x2]=Za6 (run Tryz.prog prim lvs n) x0 x1 x2:=
 (Zr hp (by kernel_rfl) Tryz.func34 (by kernel_rfl)).trans (Zmc _ x0 x1 x2)
noncomputable def Wt (Γ : Zd) (x0 x1 x2 : Value) : M Value:=
 bind (Γ Qv [x0,x1]) fun y1=>
 bind (Zh y1 0) fun y2=>
 bind (Zh y1 1) fun y3=>
 bind (alc 1 (.agg #[.string ⟨#[]⟩,.bool false])) fun y4=>
 bind (stA 2 y4 y2) fun _=>
 bind (bop .int .eql y3 (Value.int .i64 10)) fun y5=>
 cnd y5
 (ret y3)
 (bind (Γ Zcs [x2]) fun y6=>
 bind (bop .int .neq y6 (Value.int .i64 0)) fun y7=>
 cnd y7
 (ret (Value.int .i64 4))
 (bind (bop .int .neq y3 (Value.int .i64 0)) fun y8=>
 cnd y8
 (ret y3)
 (bind (fa 1 y4) fun y9=>
 bind (ld1 y9) fun y10=>
 cnd y10
 (ret (Value.int .i64 12))
 (bind (fa 0 y4) fun y11=>
 bind (st1 y11 x2) fun _=>
 bind (QP x0) fun y12=>
 bind (fa 0 y12) fun y13=>
 bind (ld1 y13) fun y14=>
 bind (ldA 2 y4) fun y15=>
 bind (mup .str y14 x1 y15) fun _=>
 ret (Value.int .i64 0)))))
theorem ZiX (Γ : Zd) (x0 x1 x2 : Value) : ZG Tryz.prog Γ Tryz.f35 Zet [x0,x1,x2]=Wt Γ x0 x1 x2:=by kernel_rfl
theorem Ziu {prim : FuncId→Option (List Value→M Value)} (hp : prim KM=none) (n : Nat) (x0 x1 x2 : Value) : run Tryz.prog prim lvs (n+1) KM [x0,x1,x2]=Wt (run Tryz.prog prim lvs n) x0 x1 x2:=
 (Zr hp (by kernel_rfl) Tryz.func35 (by kernel_rfl)).trans (ZiX _ x0 x1 x2)
noncomputable def Qo.l1 (Γ : Zd) (s1 s3 s6 s8 s10 s41 s42 s43 : Value) : M Out:=
 bind (bop .int .lss s43 s42) fun y26=>
 cnd y26
 (bind (ixa 5 s41 s43) fun y27=>
 bind (ldA 5 y27) fun y28=>
 bind (alc 1 (.agg #[.string ⟨#[]⟩,.string ⟨#[]⟩,.string ⟨#[]⟩,.bool false,.slice none 0 0])) fun y29=>
 bind (stA 5 y29 y28) fun _=>
 bind (bop .str .neq s10 (Value.string ⟨#[]⟩)) fun y30=>
 bind (ZA y30 true 4 (bind (fa 2 y29) fun y31=>
 bind (ld1 y31) fun y32=>
 bind (bop .str .eql y32 s10) fun y33=>
 ret [y31,y32,s10,y33])) (c4 fun _ _ _ q34_3=>
 bind (pick y30 q34_3 (Value.bool false)) fun y35=>
 bind (ZA y35 true 4 (bind (fa 0 y29) fun y36=>
 bind (ld1 y36) fun y37=>
 bind (bop .str .neq y37 s1) fun y38=>
 ret [y36,y37,s1,y38])) (c4 fun _ _ _ q39_3=>
 bind (pick y35 q39_3 (Value.bool false)) fun y40=>
 cnd y40
 (bind (ldA 2 s3) fun y41=>
 bind (stA 2 s6 y41) fun _=>
 bind (ldA 2 s6) fun y42=>
 ret (.ret (Value.tuple #[y42,(Value.int .i64 9)])))
 (bind (bop .int .add s43 (Value.int .i64 1)) fun y43=>
 ret (.nrm [s1,s3,s6,s8,s10,s41,s42,y43])))))
 (ret (.ext 0 [s3,s6,s8,s10]))
noncomputable def Qo (Γ : Zd) (x0 x1 x2 : Value) : M Value:=
 bind (alc 1 x0) fun y1=>
 bind (alc 1 (.agg #[.slice none 0 0,.slice none 0 0])) fun y2=>
 bind (ldA 2 y1) fun y3=>
 bind (Γ JN [y3,x1]) fun y4=>
 bind (Zh y4 0) fun y5=>
 bind (Zh y4 1) fun y6=>
 bind (alc 1 (.agg #[.string ⟨#[]⟩,.string ⟨#[]⟩,.string ⟨#[]⟩,.bool false,.slice none 0 0])) fun y7=>
 bind (stA 5 y7 y5) fun _=>
 bind (Γ Kv [x2]) fun y8=>
 bind (Zh y8 0) fun y9=>
 bind (Zh y8 1) fun y10=>
 bind (bop .int .eql y6 (Value.int .i64 10)) fun y11=>
 cnd y11
 (bind (ldA 2 y1) fun y12=>
 bind (stA 2 y2 y12) fun _=>
 bind (ldA 2 y2) fun y13=>
 ret (Value.tuple #[y13,y6]))
 (bind (bop .str .neq x2 (Value.string ⟨#[]⟩)) fun y14=>
 bind (ZA y14 true 2 (bind (uop .not y10) fun y15=>
 ret [y10,y15])) (c2 fun _ q16_1=>
 bind (pick y14 q16_1 (Value.bool false)) fun y17=>
 cnd y17
 (bind (ldA 2 y1) fun y18=>
 bind (stA 2 y2 y18) fun _=>
 bind (ldA 2 y2) fun y19=>
 ret (Value.tuple #[y19,(Value.int .i64 11)]))
 (bind (bop .int .neq y6 (Value.int .i64 0)) fun y20=>
 cnd y20
 (bind (ldA 2 y1) fun y21=>
 bind (stA 2 y2 y21) fun _=>
 bind (ldA 2 y2) fun y22=>
 ret (Value.tuple #[y22,y6]))
 (bind (fa 0 y1) fun y23=>
 bind (ld1 y23) fun y24=>
 bind (ZF y24) fun y25=>
 jn (Zi (c8 (Qo.l1 Γ)) [x1,y1,y2,y7,y9,y24,y25,(Value.int .i64 0)]) noN (xk 0 (c4 fun q45_0 q45_1 q45_2 q45_3=>
 bind (fa 2 q45_2) fun y46=>
 bind (st1 y46 q45_3) fun _=>
 bind (ldA 2 q45_0) fun y47=>
 bind (ldA 5 q45_2) fun y48=>
 bind (Γ Wc [y47,y48]) fun y49=>
 bind (stA 2 q45_1 y49) fun _=>
 bind (ldA 2 q45_1) fun y50=>
 ret (Value.tuple #[y50,(Value.int .i64 0)])) noX) ret))))
theorem ZlQ (Γ : Zd) (x0 x1 x2 : Value) : ZG Tryz.prog Γ Tryz.f36 Zf4 [x0,x1,x2]=Qo Γ x0 x1 x2:=by kernel_rfl
theorem Zk9 {prim : FuncId→Option (List Value→M Value)} (hp : prim WW=none) (n : Nat) (x0 x1 x2 : Value) : run Tryz.prog prim lvs (n+1) WW [x0,x1,x2]=Qo (run Tryz.prog prim lvs n) x0 x1 x2:=
 (Zr hp (by kernel_rfl) Tryz.func36 (by kernel_rfl)).trans (ZlQ _ x0 x1 x2)
noncomputable def WX (Γ : Zd) (x0 x1 x2 : Value) : M Value:=
 bind (alc 1 x0) fun y1=>
 bind (alc 1 (.agg #[.slice none 0 0,.slice none 0 0])) fun y2=>
 bind (ldA 2 y1) fun y3=>
 bind (Γ JN [y3,x1]) fun y4=>
 bind (Zh y4 0) fun y5=>
 bind (Zh y4 1) fun y6=>
 bind (alc 1 (.agg #[.string ⟨#[]⟩,.string ⟨#[]⟩,.string ⟨#[]⟩,.bool false,.slice none 0 0])) fun y7=>
 bind (stA 5 y7 y5) fun _=>
 bind (bop .int .neq y6 (Value.int .i64 0)) fun y8=>
 cnd y8
 (bind (ldA 2 y1) fun y9=>
 bind (stA 2 y2 y9) fun _=>
 bind (ldA 2 y2) fun y10=>
 ret (Value.tuple #[y10,y6]))
 (bind (fa 3 y7) fun y11=>
 bind (ld1 y11) fun y12=>
 bind (bop .bool .eql y12 x2) fun y13=>
 cnd y13
 (bind (ldA 2 y1) fun y14=>
 bind (stA 2 y2 y14) fun _=>
 bind (ldA 2 y2) fun y15=>
 ret (Value.tuple #[y15,(Value.int .i64 12)]))
 (bind (fa 3 y7) fun y16=>
 bind (st1 y16 x2) fun _=>
 bind (ldA 2 y1) fun y17=>
 bind (ldA 5 y7) fun y18=>
 bind (Γ Wc [y17,y18]) fun y19=>
 bind (stA 2 y2 y19) fun _=>
 bind (ldA 2 y2) fun y20=>
 ret (Value.tuple #[y20,(Value.int .i64 0)])))
theorem ZmH (Γ : Zd) (x0 x1 x2 : Value) : ZG Tryz.prog Γ Tryz.f37 Zgh [x0,x1,x2]=WX Γ x0 x1 x2:=by kernel_rfl
theorem Zld {prim : FuncId→Option (List Value→M Value)} (hp : prim WS=none) (n : Nat) (x0 x1 x2 : Value) : run Tryz.prog prim lvs (n+1) WS [x0,x1,x2]=WX (run Tryz.prog prim lvs n) x0 x1 x2:=
 (Zr hp (by kernel_rfl) Tryz.func37 (by kernel_rfl)).trans (ZmH _ x0 x1 x2)
noncomputable def KQ (Γ : Zd) (x0 x1 x2 : Value) : M Value:=
 bind (Γ Qv [x0,x1]) fun y1=>
 bind (Zh y1 0) fun y2=>
 bind (Zh y1 1) fun y3=>
 bind (alc 1 (.agg #[.string ⟨#[]⟩,.bool false])) fun y4=>
 bind (stA 2 y4 y2) fun _=>
 bind (bop .int .neq y3 (Value.int .i64 0)) fun y5=>
 cnd y5
 (ret y3)
 (bind (fa 1 y4) fun y6=>
 bind (ld1 y6) fun y7=>
 bind (bop .bool .eql y7 x2) fun y8=>
 cnd y8
 (ret (Value.int .i64 12))
 (bind (fa 1 y4) fun y9=>
 bind (st1 y9 x2) fun _=>
 bind (QP x0) fun y10=>
 bind (fa 0 y10) fun y11=>
 bind (ld1 y11) fun y12=>
 bind (ldA 2 y4) fun y13=>
 bind (mup .str y12 x1 y13) fun _=>
 ret (Value.int .i64 0)))
theorem Zjv (Γ : Zd) (x0 x1 x2 : Value) : ZG Tryz.prog Γ Tryz.f38 Zev [x0,x1,x2]=KQ Γ x0 x1 x2:=by kernel_rfl
theorem Zii {prim : FuncId→Option (List Value→M Value)} (hp : prim KK=none) (n : Nat) (x0 x1 x2 : Value) : run Tryz.prog prim lvs (n+1) KK [x0,x1,x2]=KQ (run Tryz.prog prim lvs n) x0 x1 x2:=
 (Zr hp (by kernel_rfl) Tryz.func38 (by kernel_rfl)).trans (Zjv _ x0 x1 x2)
noncomputable def ZbG (Γ : Zd) (x0 x1 x2 : Value) : M Value:=
 bind (alc 1 x0) fun y1=>
 bind (alc 1 (.agg #[.slice none 0 0,.slice none 0 0])) fun y2=>
 bind (ldA 2 y1) fun y3=>
 bind (Γ JN [y3,x1]) fun y4=>
 bind (Zh y4 0) fun y5=>
 bind (Zh y4 1) fun y6=>
 bind (alc 1 (.agg #[.string ⟨#[]⟩,.string ⟨#[]⟩,.string ⟨#[]⟩,.bool false,.slice none 0 0])) fun y7=>
 bind (stA 5 y7 y5) fun _=>
 bind (ldA 2 y1) fun y8=>
 bind (Γ JN [y8,x2]) fun y9=>
 bind (Zh y9 0) fun y10=>
 bind (Zh y9 1) fun y11=>
 bind (alc 1 (.agg #[.string ⟨#[]⟩,.string ⟨#[]⟩,.string ⟨#[]⟩,.bool false,.slice none 0 0])) fun y12=>
 bind (stA 5 y12 y10) fun _=>
 bind (bop .int .eql y6 (Value.int .i64 10)) fun y13=>
 bind (ZA y13 false 2 (bind (bop .int .eql y11 (Value.int .i64 10)) fun y14=>
 ret [y11,y14])) (c2 fun _ q15_1=>
 bind (pick y13 (Value.bool true) q15_1) fun y16=>
 cnd y16
 (bind (ldA 2 y1) fun y17=>
 bind (stA 2 y2 y17) fun _=>
 bind (ldA 2 y2) fun y18=>
 ret (Value.tuple #[y18,(Value.int .i64 10)]))
 (bind (bop .int .neq y6 (Value.int .i64 0)) fun y19=>
 cnd y19
 (bind (ldA 2 y1) fun y20=>
 bind (stA 2 y2 y20) fun _=>
 bind (ldA 2 y2) fun y21=>
 ret (Value.tuple #[y21,y6]))
 (bind (bop .int .eql y11 (Value.int .i64 0)) fun y22=>
 cnd y22
 (bind (ldA 2 y1) fun y23=>
 bind (stA 2 y2 y23) fun _=>
 bind (ldA 2 y2) fun y24=>
 ret (Value.tuple #[y24,(Value.int .i64 9)]))
 (bind (fa 0 y7) fun y25=>
 bind (st1 y25 x2) fun _=>
 bind (fa 0 y1) fun y26=>
 bind (ld1 y26) fun y27=>
 bind (ldA 5 y7) fun y28=>
 bind (Γ ZaQ [y27,x1]) fun y29=>
 bind (ldA 5 y7) fun u_30=>same u_30 y28 <|
 bind (Γ WC [y29,y28]) fun y31=>
 bind (fa 0 y1) fun y32=>
 bind (st1 y32 y31) fun _=>
 bind (ldA 2 y1) fun y33=>
 bind (stA 2 y2 y33) fun _=>
 bind (ldA 2 y2) fun y34=>
 ret (Value.tuple #[y34,(Value.int .i64 0)])))))
theorem Znh (Γ : Zd) (x0 x1 x2 : Value) : ZG Tryz.prog Γ Tryz.f39 ZgO [x0,x1,x2]=ZbG Γ x0 x1 x2:=by kernel_rfl
theorem ZlO {prim : FuncId→Option (List Value→M Value)} (hp : prim Zaq=none) (n : Nat) (x0 x1 x2 : Value) : run Tryz.prog prim lvs (n+1) Zaq [x0,x1,x2]=ZbG (run Tryz.prog prim lvs n) x0 x1 x2:=
 (Zr hp (by kernel_rfl) Tryz.func39 (by kernel_rfl)).trans (Znh _ x0 x1 x2)
noncomputable def Zc9 (Γ : Zd) (x0 x1 : Value) : M Value:=
 bind (alc 1 x0) fun y1=>
 bind (alc 1 (.agg #[.slice none 0 0,.slice none 0 0])) fun y2=>
 bind (fa 1 y1) fun y3=>
 bind (ld1 y3) fun y4=>
 bind (bld (.agg #[.slice none 0 0,.slice none 0 0]) [(0,1,y4)]) fun y5=>
 bind (Γ ZcP [y5,x1]) fun y6=>
 bind (Zh y6 0) fun y7=>
 bind (Zh y6 1) fun y8=>
 bind (alc 1 (.agg #[.slice none 0 0,.slice none 0 0])) fun y9=>
 bind (stA 2 y9 y7) fun _=>
 bind (fa 0 y9) fun y10=>
 bind (ld1 y10) fun y11=>
 bind (fa 1 y1) fun y12=>
 bind (st1 y12 y11) fun _=>
 bind (ldA 2 y1) fun y13=>
 bind (stA 2 y2 y13) fun _=>
 bind (ldA 2 y2) fun y14=>
 ret (Value.tuple #[y14,y8])
theorem Zka (Γ : Zd) (x0 x1 : Value) : ZG Tryz.prog Γ Tryz.f40 Ze7 [x0,x1]=Zc9 Γ x0 x1:=by kernel_rfl
theorem ZiQ {prim : FuncId→Option (List Value→M Value)} (hp : prim Zae=none) (n : Nat) (x0 x1 : Value) : run Tryz.prog prim lvs (n+1) Zae [x0,x1]=Zc9 (run Tryz.prog prim lvs n) x0 x1:=
 (Zr hp (by kernel_rfl) Tryz.func40 (by kernel_rfl)).trans (Zka _ x0 x1)
noncomputable def ZbR (Γ : Zd) (x0 x1 : Value) : M Value:=
 bind (QP x0) fun y1=>
 bind (fa 2 y1) fun y2=>
 bind (ld1 y2) fun y3=>
 bind (Γ Yu [y3,x1]) fun y4=>
 ret y4
theorem Zh4 (Γ : Zd) (x0 x1 : Value) : ZG Tryz.prog Γ Tryz.f41 ZdL [x0,x1]=ZbR Γ x0 x1:=by kernel_rfl
theorem Zg4 {prim : FuncId→Option (List Value→M Value)} (hp : prim K0=none) (n : Nat) (x0 x1 : Value) : run Tryz.prog prim lvs (n+1) K0 [x0,x1]=ZbR (run Tryz.prog prim lvs n) x0 x1:=
 (Zr hp (by kernel_rfl) Tryz.func41 (by kernel_rfl)).trans (Zh4 _ x0 x1)
noncomputable def JG.l1 (Γ : Zd) (s1 s2 s4 s8 s27 s28 s29 : Value) : M Out:=
 bind (bop .int .lss s29 s28) fun y19=>
 cnd y19
 (bind (ixa 5 s27 s29) fun y20=>
 bind (ldA 5 y20) fun y21=>
 bind (alc 1 (.agg #[.string ⟨#[]⟩,.string ⟨#[]⟩,.string ⟨#[]⟩,.bool false,.slice none 0 0])) fun y22=>
 bind (stA 5 y22 y21) fun _=>
 bind (fa 4 y22) fun y23=>
 bind (ld1 y23) fun y24=>
 bind (Γ WT [y24,s1]) fun y25=>
 bind (fa 4 y22) fun y26=>
 bind (st1 y26 y25) fun _=>
 bind (ldA 5 y22) fun y27=>
 bind (bsl 5 1 (.agg #[.string ⟨#[]⟩,.string ⟨#[]⟩,.string ⟨#[]⟩,.bool false,.slice none 0 0]) [(0,5,y27)]) fun y28=>
 bind (app 5 80 s8 y28) fun y29=>
 bind (bop .int .add s29 (Value.int .i64 1)) fun y30=>
 ret (.nrm [s1,s2,s4,y29,s27,s28,y30]))
 (ret (.ext 0 [s2,s4,s8]))
noncomputable def JG (Γ : Zd) (x0 x1 : Value) : M Value:=
 bind (alc 1 x0) fun y1=>
 bind (alc 1 (.agg #[.slice none 0 0,.slice none 0 0])) fun y2=>
 bind (fa 1 y1) fun y3=>
 bind (ld1 y3) fun y4=>
 bind (bld (.agg #[.slice none 0 0,.slice none 0 0]) [(0,1,y4)]) fun y5=>
 bind (Γ ZcL [y5,x1]) fun y6=>
 bind (Zh y6 0) fun y7=>
 bind (Zh y6 1) fun y8=>
 bind (alc 1 (.agg #[.slice none 0 0,.slice none 0 0])) fun y9=>
 bind (stA 2 y9 y7) fun _=>
 bind (bop .int .neq y8 (Value.int .i64 0)) fun y10=>
 cnd y10
 (bind (ldA 2 y1) fun y11=>
 bind (stA 2 y2 y11) fun _=>
 bind (ldA 2 y2) fun y12=>
 ret (Value.tuple #[y12,y8]))
 (bind (fa 0 y9) fun y13=>
 bind (ld1 y13) fun y14=>
 bind (fa 1 y1) fun y15=>
 bind (st1 y15 y14) fun _=>
 bind (fa 0 y1) fun y16=>
 bind (ld1 y16) fun y17=>
 bind (ZF y17) fun y18=>
 jn (Zi (c7 (JG.l1 Γ)) [x1,y1,y2,(Value.slice none 0 0),y17,y18,(Value.int .i64 0)]) noN (xk 0 (c3 fun q32_0 q32_1 q32_2=>
 bind (fa 0 q32_0) fun y33=>
 bind (st1 y33 q32_2) fun _=>
 bind (ldA 2 q32_0) fun y34=>
 bind (stA 2 q32_1 y34) fun _=>
 bind (ldA 2 q32_1) fun y35=>
 ret (Value.tuple #[y35,(Value.int .i64 0)])) noX) ret)
theorem Zj1 (Γ : Zd) (x0 x1 : Value) : ZG Tryz.prog Γ Tryz.f42 Zfd [x0,x1]=JG Γ x0 x1:=by kernel_rfl
theorem Zjz {prim : FuncId→Option (List Value→M Value)} (hp : prim K7=none) (n : Nat) (x0 x1 : Value) : run Tryz.prog prim lvs (n+1) K7 [x0,x1]=JG (run Tryz.prog prim lvs n) x0 x1:=
 (Zr hp (by kernel_rfl) Tryz.func42 (by kernel_rfl)).trans (Zj1 _ x0 x1)
noncomputable def ZbS (Γ : Zd) (x0 x1 : Value) : M Value:=
 bind (QP x0) fun y1=>
 bind (fa 2 y1) fun y2=>
 bind (ld1 y2) fun y3=>
 bind (Γ KO [y3,x1]) fun y4=>
 ret y4
theorem ZhQ (Γ : Zd) (x0 x1 : Value) : ZG Tryz.prog Γ Tryz.f43 Zdy [x0,x1]=ZbS Γ x0 x1:=by kernel_rfl
theorem ZgS {prim : FuncId→Option (List Value→M Value)} (hp : prim Yx=none) (n : Nat) (x0 x1 : Value) : run Tryz.prog prim lvs (n+1) Yx [x0,x1]=ZbS (run Tryz.prog prim lvs n) x0 x1:=
 (Zr hp (by kernel_rfl) Tryz.func43 (by kernel_rfl)).trans (ZhQ _ x0 x1)
noncomputable def ZbK (Γ : Zd) (x0 x1 x2 : Value) : M Value:=
 bind (alc 1 x0) fun y1=>
 bind (alc 1 (.agg #[.slice none 0 0,.slice none 0 0])) fun y2=>
 bind (ldA 2 y1) fun y3=>
 bind (Γ Zau [y3,x1,x2]) fun y4=>
 bind (Zh y4 0) fun y5=>
 bind (Zh y4 1) fun y6=>
 bind (alc 1 (.agg #[.string ⟨#[]⟩,.string ⟨#[]⟩,.string ⟨#[]⟩,.bool false,.slice none 0 0])) fun y7=>
 bind (stA 5 y7 y5) fun _=>
 bind (bop .int .neq y6 (Value.int .i64 0)) fun y8=>
 cnd y8
 (bind (ldA 2 y1) fun y9=>
 bind (stA 2 y2 y9) fun _=>
 bind (ldA 2 y2) fun y10=>
 ret (Value.tuple #[y10,y6]))
 (bind (fa 4 y7) fun y11=>
 bind (ld1 y11) fun y12=>
 bind (Γ Yi [y12,x1]) fun y13=>
 cnd y13
 (bind (ldA 2 y1) fun y14=>
 bind (stA 2 y2 y14) fun _=>
 bind (ldA 2 y2) fun y15=>
 ret (Value.tuple #[y15,(Value.int .i64 9)]))
 (bind (bsl 1 0 (.string ⟨#[]⟩) []) fun y16=>
 bind (fa 4 y7) fun y17=>
 bind (ld1 y17) fun y18=>
 bind (app 1 16 y16 y18) fun y19=>
 bind (bsl 1 1 (.string ⟨#[]⟩) [(0,1,x1)]) fun y20=>
 bind (app 1 16 y19 y20) fun y21=>
 bind (Γ Wo [y21]) fun y22=>
 bind (fa 4 y7) fun y23=>
 bind (st1 y23 y22) fun _=>
 bind (ldA 2 y1) fun y24=>
 bind (ldA 5 y7) fun y25=>
 bind (Γ Wc [y24,y25]) fun y26=>
 bind (stA 2 y2 y26) fun _=>
 bind (ldA 2 y2) fun y27=>
 ret (Value.tuple #[y27,(Value.int .i64 0)])))
theorem Zpm (Γ : Zd) (x0 x1 x2 : Value) : ZG Tryz.prog Γ Tryz.f44 Zjt [x0,x1,x2]=ZbK Γ x0 x1 x2:=by kernel_rfl
theorem Zot {prim : FuncId→Option (List Value→M Value)} (hp : prim ZbM=none) (n : Nat) (x0 x1 x2 : Value) : run Tryz.prog prim lvs (n+1) ZbM [x0,x1,x2]=ZbK (run Tryz.prog prim lvs n) x0 x1 x2:=
 (Zr hp (by kernel_rfl) Tryz.func44 (by kernel_rfl)).trans (Zpm _ x0 x1 x2)
noncomputable def Zbd (Γ : Zd) (x0 x1 x2 : Value) : M Value:=
 bind (Γ K8 [x0,x1,x2]) fun y1=>
 bind (bop .int .neq y1 (Value.int .i64 0)) fun y2=>
 cnd y2
 (ret y1)
 (bind (QP x0) fun y3=>
 bind (fa 2 y3) fun y4=>
 bind (ld1 y4) fun y5=>
 bind (Γ Y7 [y5,x1,x2]) fun y6=>
 ret y6)
theorem ZmF (Γ : Zd) (x0 x1 x2 : Value) : ZG Tryz.prog Γ Tryz.f45 Zgi [x0,x1,x2]=Zbd Γ x0 x1 x2:=by kernel_rfl
theorem Zk8 {prim : FuncId→Option (List Value→M Value)} (hp : prim WQ=none) (n : Nat) (x0 x1 x2 : Value) : run Tryz.prog prim lvs (n+1) WQ [x0,x1,x2]=Zbd (run Tryz.prog prim lvs n) x0 x1 x2:=
 (Zr hp (by kernel_rfl) Tryz.func45 (by kernel_rfl)).trans (ZmF _ x0 x1 x2)
noncomputable def Zbi (Γ : Zd) (x0 x1 x2 : Value) : M Value:=
 bind (alc 1 x0) fun y1=>
 bind (alc 1 (.agg #[.slice none 0 0,.slice none 0 0])) fun y2=>
 bind (ldA 2 y1) fun y3=>
 bind (Γ Zau [y3,x1,x2]) fun y4=>
 bind (Zh y4 0) fun y5=>
 bind (Zh y4 1) fun y6=>
 bind (alc 1 (.agg #[.string ⟨#[]⟩,.string ⟨#[]⟩,.string ⟨#[]⟩,.bool false,.slice none 0 0])) fun y7=>
 bind (stA 5 y7 y5) fun _=>
 bind (bop .int .neq y6 (Value.int .i64 0)) fun y8=>
 cnd y8
 (bind (ldA 2 y1) fun y9=>
 bind (stA 2 y2 y9) fun _=>
 bind (ldA 2 y2) fun y10=>
 ret (Value.tuple #[y10,y6]))
 (bind (fa 4 y7) fun y11=>
 bind (ld1 y11) fun y12=>
 bind (Γ Yi [y12,x1]) fun y13=>
 bind (uop .not y13) fun y14=>
 cnd y14
 (bind (ldA 2 y1) fun y15=>
 bind (stA 2 y2 y15) fun _=>
 bind (ldA 2 y2) fun y16=>
 ret (Value.tuple #[y16,(Value.int .i64 12)]))
 (bind (fa 4 y7) fun y17=>
 bind (ld1 y17) fun y18=>
 bind (Γ WT [y18,x1]) fun y19=>
 bind (fa 4 y7) fun y20=>
 bind (st1 y20 y19) fun _=>
 bind (ldA 2 y1) fun y21=>
 bind (ldA 5 y7) fun y22=>
 bind (Γ Wc [y21,y22]) fun y23=>
 bind (stA 2 y2 y23) fun _=>
 bind (ldA 2 y2) fun y24=>
 ret (Value.tuple #[y24,(Value.int .i64 0)])))
theorem Zol (Γ : Zd) (x0 x1 x2 : Value) : ZG Tryz.prog Γ Tryz.f46 Zic [x0,x1,x2]=Zbi Γ x0 x1 x2:=by kernel_rfl
theorem ZnG {prim : FuncId→Option (List Value→M Value)} (hp : prim Zbg=none) (n : Nat) (x0 x1 x2 : Value) : run Tryz.prog prim lvs (n+1) Zbg [x0,x1,x2]=Zbi (run Tryz.prog prim lvs n) x0 x1 x2:=
 (Zr hp (by kernel_rfl) Tryz.func46 (by kernel_rfl)).trans (Zol _ x0 x1 x2)
noncomputable def ZaL (Γ : Zd) (x0 x1 x2 : Value) : M Value:=
 bind (Γ K8 [x0,x1,x2]) fun y1=>
 bind (bop .int .neq y1 (Value.int .i64 0)) fun y2=>
 cnd y2
 (ret y1)
 (bind (QP x0) fun y3=>
 bind (fa 2 y3) fun y4=>
 bind (ld1 y4) fun y5=>
 bind (Γ Ko [y5,x1,x2]) fun y6=>
 ret y6)
theorem Zla (Γ : Zd) (x0 x1 x2 : Value) : ZG Tryz.prog Γ Tryz.f47 ZfI [x0,x1,x2]=ZaL Γ x0 x1 x2:=by kernel_rfl
theorem Zkg {prim : FuncId→Option (List Value→M Value)} (hp : prim Wj=none) (n : Nat) (x0 x1 x2 : Value) : run Tryz.prog prim lvs (n+1) Wj [x0,x1,x2]=ZaL (run Tryz.prog prim lvs n) x0 x1 x2:=
 (Zr hp (by kernel_rfl) Tryz.func47 (by kernel_rfl)).trans (Zla _ x0 x1 x2)
noncomputable def Zed (Γ : Zd) (x0 : Value) : M Value:=
 bind (QP x0) fun y1=>
 bind (fa 0 y1) fun y2=>
 bind (ld1 y2) fun y3=>
 bind (QP x0) fun y4=>
 bind (fa 1 y4) fun y5=>
 bind (ld1 y5) fun y6=>
 bind (QP x0) fun y7=>
 bind (fa 2 y7) fun y8=>
 bind (ld1 y8) fun y9=>
 bind (Γ Jl [y3]) fun y10=>
 bind (ld1 y8) fun u_11=>same u_11 y9 <|
 bind (ld1 y5) fun u_12=>same u_12 y6 <|
 bind (Γ ZaE [y6]) fun y13=>
 bind (ld1 y8) fun u_14=>same u_14 y9 <|
 bind (Γ Wr [y9]) fun y15=>
 bind (bld (.agg #[.map none,.pointer none,.pointer none]) [(0,1,y10),(1,1,y13),(2,1,y15)]) fun y16=>
 bind (alc 1 y16) fun y17=>
 ret y17
theorem Zmi (Γ : Zd) (x0 : Value) : ZG Tryz.prog Γ Tryz.f48 Zf5 [x0]=Zed Γ x0:=by kernel_rfl
theorem ZkX {prim : FuncId→Option (List Value→M Value)} (hp : prim Zba=none) (n : Nat) (x0 : Value) : run Tryz.prog prim lvs (n+1) Zba [x0]=Zed (run Tryz.prog prim lvs n) x0:=
 (Zr hp (by kernel_rfl) Tryz.func48 (by kernel_rfl)).trans (Zmi _ x0)
noncomputable def ZdB (Γ : Zd) (x0 : Value) : M Value:=
 bind (QP x0) fun y1=>
 bind (fa 0 y1) fun y2=>
 bind (ld1 y2) fun y3=>
 bind (Γ QD [y3]) fun y4=>
 bind (Γ QM [y4,(Value.func (.func 97) #[] #[])]) fun y5=>
 ret y5
theorem Zlo (Γ : Zd) (x0 : Value) : ZG Tryz.prog Γ Tryz.f49 ZfD [x0]=ZdB Γ x0:=by kernel_rfl
theorem Zkf {prim : FuncId→Option (List Value→M Value)} (hp : prim ZaB=none) (n : Nat) (x0 : Value) : run Tryz.prog prim lvs (n+1) ZaB [x0]=ZdB (run Tryz.prog prim lvs n) x0:=
 (Zr hp (by kernel_rfl) Tryz.func49 (by kernel_rfl)).trans (Zlo _ x0)
noncomputable def K6 (Γ : Zd) (x0 x1 : Value) : M Value:=
 bind (alc 1 (.agg #[.string ⟨#[]⟩,.bool false])) fun y1=>
 bind (Γ Yk [x1]) fun y2=>
 bind (bop .int .neq y2 (Value.int .i64 0)) fun y3=>
 cnd y3
 (bind (bld (.agg #[.string ⟨#[]⟩,.bool false]) []) fun y4=>
 bind (stA 2 y1 y4) fun _=>
 bind (ldA 2 y1) fun y5=>
 ret (Value.tuple #[y5,y2]))
 (bind (QP x0) fun y6=>
 bind (fa 0 y6) fun y7=>
 bind (ld1 y7) fun y8=>
 bind (lkp .str (.agg #[.string ⟨#[]⟩,.bool false]) true y8 x1) fun y9=>
 bind (Zh y9 0) fun y10=>
 bind (Zh y9 1) fun y11=>
 bind (alc 1 (.agg #[.string ⟨#[]⟩,.bool false])) fun y12=>
 bind (stA 2 y12 y10) fun _=>
 bind (uop .not y11) fun y13=>
 cnd y13
 (bind (bld (.agg #[.string ⟨#[]⟩,.bool false]) []) fun y14=>
 bind (stA 2 y1 y14) fun _=>
 bind (ldA 2 y1) fun y15=>
 ret (Value.tuple #[y15,(Value.int .i64 8)]))
 (bind (ldA 2 y12) fun y16=>
 bind (stA 2 y1 y16) fun _=>
 bind (ldA 2 y1) fun y17=>
 ret (Value.tuple #[y17,(Value.int .i64 0)])))
theorem Zkl (Γ : Zd) (x0 x1 : Value) : ZG Tryz.prog Γ Tryz.f50 Zff [x0,x1]=K6 Γ x0 x1:=by kernel_rfl
theorem Zi5 {prim : FuncId→Option (List Value→M Value)} (hp : prim Qv=none) (n : Nat) (x0 x1 : Value) : run Tryz.prog prim lvs (n+1) Qv [x0,x1]=K6 (run Tryz.prog prim lvs n) x0 x1:=
 (Zr hp (by kernel_rfl) Tryz.func50 (by kernel_rfl)).trans (Zkl _ x0 x1)
noncomputable def ZeQ (Γ : Zd) (x0 x1 : Value) : M Value:=
 bind (QP x0) fun y1=>
 bind (fa 1 y1) fun y2=>
 bind (ld1 y2) fun y3=>
 bind (lkp .str (.string ⟨#[]⟩) true y3 x1) fun y4=>
 bind (Zh y4 0) fun y5=>
 bind (Zh y4 1) fun y6=>
 ret (Value.tuple #[y5,y6])
theorem Zm3 (Γ : Zd) (x0 x1 : Value) : ZG Tryz.prog Γ Tryz.f51 Zhb [x0,x1]=ZeQ Γ x0 x1:=by kernel_rfl
theorem Zmr {prim : FuncId→Option (List Value→M Value)} (hp : prim ZbB=none) (n : Nat) (x0 x1 : Value) : run Tryz.prog prim lvs (n+1) ZbB [x0,x1]=ZeQ (run Tryz.prog prim lvs n) x0 x1:=
 (Zr hp (by kernel_rfl) Tryz.func51 (by kernel_rfl)).trans (Zm3 _ x0 x1)
noncomputable def Zdt (Γ : Zd) (x0 x1 : Value) : M Value:=
 bind (alc 1 x0) fun y1=>
 bind (alc 1 x1) fun y2=>
 bind (ld1 y1) fun y3=>
 bind (Γ W9 [y3]) fun y4=>
 bind (Γ Qb [y4,(Value.func (.func 100) #[] #[y1,y2])]) fun y5=>
 ret y5
theorem ZlD (Γ : Zd) (x0 x1 : Value) : ZG Tryz.prog Γ Tryz.f52 ZfB [x0,x1]=Zdt Γ x0 x1:=by kernel_rfl
theorem Zkc {prim : FuncId→Option (List Value→M Value)} (hp : prim JX=none) (n : Nat) (x0 x1 : Value) : run Tryz.prog prim lvs (n+1) JX [x0,x1]=Zdt (run Tryz.prog prim lvs n) x0 x1:=
 (Zr hp (by kernel_rfl) Tryz.func52 (by kernel_rfl)).trans (ZlD _ x0 x1)
noncomputable def Kx.l1 (Γ : Zd) (s2 s3 s43 s44 : Value) : M Out:=
 bind (bop .int .lss s44 s43) fun y41=>
 cnd y41
 (bind (fa 4 s2) fun y42=>
 bind (ld1 y42) fun y43=>
 bind (ixa 1 y43 s44) fun y44=>
 bind (ld1 y44) fun y45=>
 bind (fa 4 s3) fun y46=>
 bind (ld1 y46) fun y47=>
 bind (ixa 1 y47 s44) fun y48=>
 bind (ld1 y48) fun y49=>
 bind (bop .str .neq y45 y49) fun y50=>
 cnd y50
 (ret (.ret (Value.bool false)))
 (bind (bop .int .add s44 (Value.int .i64 1)) fun y51=>
 ret (.nrm [s2,s3,s43,y51])))
 (ret (.ext 0 []))
noncomputable def Kx (Γ : Zd) (x0 x1 : Value) : M Value:=
 bind (alc 1 x0) fun y1=>
 bind (alc 1 x1) fun y2=>
 bind (fa 0 y1) fun y3=>
 bind (ld1 y3) fun y4=>
 bind (fa 0 y2) fun y5=>
 bind (ld1 y5) fun y6=>
 bind (bop .str .neq y4 y6) fun y7=>
 bind (ZA y7 false 5 (bind (fa 1 y1) fun y8=>
 bind (ld1 y8) fun y9=>
 bind (fa 1 y2) fun y10=>
 bind (ld1 y10) fun y11=>
 bind (bop .str .neq y9 y11) fun y12=>
 ret [y8,y9,y10,y11,y12])) (c5 fun _ _ _ _ q13_4=>
 bind (pick y7 (Value.bool true) q13_4) fun y14=>
 bind (ZA y14 false 5 (bind (fa 2 y1) fun y15=>
 bind (ld1 y15) fun y16=>
 bind (fa 2 y2) fun y17=>
 bind (ld1 y17) fun y18=>
 bind (bop .str .neq y16 y18) fun y19=>
 ret [y15,y16,y17,y18,y19])) (c5 fun _ _ _ _ q20_4=>
 bind (pick y14 (Value.bool true) q20_4) fun y21=>
 bind (ZA y21 false 5 (bind (fa 3 y1) fun y22=>
 bind (ld1 y22) fun y23=>
 bind (fa 3 y2) fun y24=>
 bind (ld1 y24) fun y25=>
 bind (bop .bool .neq y23 y25) fun y26=>
 ret [y22,y23,y24,y25,y26])) (c5 fun _ _ _ _ q27_4=>
 bind (pick y21 (Value.bool true) q27_4) fun y28=>
 bind (ZA y28 false 7 (bind (fa 4 y1) fun y29=>
 bind (ld1 y29) fun y30=>
 bind (ZF y30) fun y31=>
 bind (fa 4 y2) fun y32=>
 bind (ld1 y32) fun y33=>
 bind (ZF y33) fun y34=>
 bind (bop .int .neq y31 y34) fun y35=>
 ret [y29,y30,y31,y32,y33,y34,y35])) (c7 fun _ _ _ _ _ _ q36_6=>
 bind (pick y28 (Value.bool true) q36_6) fun y37=>
 cnd y37
 (ret (Value.bool false))
 (bind (fa 4 y1) fun y38=>
 bind (ld1 y38) fun y39=>
 bind (ZF y39) fun y40=>
 jn (Zi (c4 (Kx.l1 Γ)) [y1,y2,y40,(Value.int .i64 0)]) noN (xk 0 (c0 (ret (Value.bool true))) noX) ret)))))
theorem Zqu (Γ : Zd) (x0 x1 : Value) : ZG Tryz.prog Γ Tryz.f53 Zjb [x0,x1]=Kx Γ x0 x1:=by kernel_rfl
theorem ZoE {prim : FuncId→Option (List Value→M Value)} (hp : prim Zes=none) (n : Nat) (x0 x1 : Value) : run Tryz.prog prim lvs (n+1) Zes [x0,x1]=Kx (run Tryz.prog prim lvs n) x0 x1:=
 (Zr hp (by kernel_rfl) Tryz.func53 (by kernel_rfl)).trans (Zqu _ x0 x1)
noncomputable def ZaP (Γ : Zd) (x0 x1 : Value) : M Value:=
 bind (QP x0) fun y1=>
 bind (fa 1 y1) fun y2=>
 bind (ld1 y2) fun y3=>
 bind (lkp .str (.string ⟨#[]⟩) true y3 x1) fun y4=>
 bind (Zh y4 0) fun y5=>
 bind (Zh y4 1) fun y6=>
 jn (cnd y6
 (bind (QP x0) fun y7=>
 bind (fa 0 y7) fun y8=>
 bind (ld1 y8) fun y9=>
 bind (mde .str y9 y5) fun _=>
 bind (QP x0) fun y10=>
 bind (fa 1 y10) fun y11=>
 bind (ld1 y11) fun y12=>
 bind (mde .str y12 x1) fun _=>
 ret (.nrm [y6]))
 (ret (.nrm [y6]))) (c1 fun q13_0=>
 ret q13_0) noX ret
theorem ZlC (Γ : Zd) (x0 x1 : Value) : ZG Tryz.prog Γ Tryz.f54 ZfH [x0,x1]=ZaP Γ x0 x1:=by kernel_rfl
theorem Zkb {prim : FuncId→Option (List Value→M Value)} (hp : prim Jz=none) (n : Nat) (x0 x1 : Value) : run Tryz.prog prim lvs (n+1) Jz [x0,x1]=ZaP (run Tryz.prog prim lvs n) x0 x1:=
 (Zr hp (by kernel_rfl) Tryz.func54 (by kernel_rfl)).trans (ZlC _ x0 x1)
noncomputable def J4.l1 (Γ : Zd) (s0 s1 s5 s11 s12 s13 : Value) : M Out:=
 bind (bop .int .lss s13 s12) fun y3=>
 cnd y3
 (bind (ixa 1 s11 s13) fun y4=>
 bind (ld1 y4) fun y5=>
 bind (QP s0) fun y6=>
 bind (fa 0 y6) fun y7=>
 bind (ld1 y7) fun y8=>
 bind (lkp .str (.map none) false y8 y5) fun y9=>
 bind (mde .str y9 s1) fun _=>
 bind (bop .int .add s13 (Value.int .i64 1)) fun y10=>
 ret (.nrm [s0,s1,s5,s11,s12,y10]))
 (ret (.ext 0 [s5]))
noncomputable def J4 (Γ : Zd) (x0 x1 : Value) : M Value:=
 bind (Γ JX [x0,x1]) fun y1=>
 bind (ZF y1) fun y2=>
 jn (Zi (c6 (J4.l1 Γ)) [x0,x1,y1,y1,y2,(Value.int .i64 0)]) noN (xk 0 (c1 fun q12_0=>
 bind (ZF q12_0) fun y13=>
 ret y13) noX) ret
theorem Zhq (Γ : Zd) (x0 x1 : Value) : ZG Tryz.prog Γ Tryz.f55 ZdJ [x0,x1]=J4 Γ x0 x1:=by kernel_rfl
theorem ZgL {prim : FuncId→Option (List Value→M Value)} (hp : prim KY=none) (n : Nat) (x0 x1 : Value) : run Tryz.prog prim lvs (n+1) KY [x0,x1]=J4 (run Tryz.prog prim lvs n) x0 x1:=
 (Zr hp (by kernel_rfl) Tryz.func55 (by kernel_rfl)).trans (Zhq _ x0 x1)
noncomputable def ZbY (Γ : Zd) (x0 x1 : Value) : M Value:=
 bind (Γ ZaI [x1]) fun y1=>
 bind (Zh y1 0) fun y2=>
 bind (Zh y1 1) fun y3=>
 bind (bop .int .neq y3 (Value.int .i64 0)) fun y4=>
 cnd y4
 (ret (Value.tuple #[(Value.string ⟨#[]⟩),y3]))
 (bind (QP x0) fun y5=>
 bind (fa 0 y5) fun y6=>
 bind (ld1 y6) fun y7=>
 bind (lkp .str (.string ⟨#[]⟩) true y7 y2) fun y8=>
 bind (Zh y8 0) fun y9=>
 bind (Zh y8 1) fun y10=>
 bind (uop .not y10) fun y11=>
 cnd y11
 (ret (Value.tuple #[(Value.string ⟨#[]⟩),(Value.int .i64 8)]))
 (ret (Value.tuple #[y9,(Value.int .i64 0)])))
theorem Zlf (Γ : Zd) (x0 x1 : Value) : ZG Tryz.prog Γ Tryz.f56 Zfy [x0,x1]=ZbY Γ x0 x1:=by kernel_rfl
theorem Zke {prim : FuncId→Option (List Value→M Value)} (hp : prim ZaJ=none) (n : Nat) (x0 x1 : Value) : run Tryz.prog prim lvs (n+1) ZaJ [x0,x1]=ZbY (run Tryz.prog prim lvs n) x0 x1:=
 (Zr hp (by kernel_rfl) Tryz.func56 (by kernel_rfl)).trans (Zlf _ x0 x1)
noncomputable def Zhu (Γ : Zd) (x0 : Value) : M Value:=
 bind (bop .str .eql x0 (Value.string ⟨#[]⟩)) fun y1=>
 bind (ZA y1 false 3 (bind (QE x0) fun y2=>
 bind (bop .int .gtr y2 (Value.int .i64 12)) fun y3=>
 ret [x0,y2,y3])) (c3 fun _ _ q4_2=>
 bind (pick y1 (Value.bool true) q4_2) fun y5=>
 bind (ZA y5 false 4 (bind (Γ Y8 [x0,(Value.func (.func 101) #[] #[])]) fun y6=>
 bind (uop .not y6) fun y7=>
 ret [x0,(Value.func (.func 101) #[] #[]),y6,y7])) (c4 fun _ _ _ q8_3=>
 bind (pick y5 (Value.bool true) q8_3) fun y9=>
 cnd y9
 (ret (Value.int .i64 4))
 (ret (Value.int .i64 0))))
theorem Zqy (Γ : Zd) (x0 : Value) : ZG Tryz.prog Γ Tryz.f57 Zkx [x0]=Zhu Γ x0:=by kernel_rfl
theorem Zo0 {prim : FuncId→Option (List Value→M Value)} (hp : prim Zcs=none) (n : Nat) (x0 : Value) : run Tryz.prog prim lvs (n+1) Zcs [x0]=Zhu (run Tryz.prog prim lvs n) x0:=
 (Zr hp (by kernel_rfl) Tryz.func57 (by kernel_rfl)).trans (Zqy _ x0)
noncomputable def ZdO.l1 (Γ : Zd) (s1 s5 s13 s14 s15 : Value) : M Out:=
 bind (bop .int .lss s15 s14) fun y2=>
 cnd y2
 (bind (ixa 5 s13 s15) fun y3=>
 bind (ldA 5 y3) fun y4=>
 bind (alc 1 (.agg #[.string ⟨#[]⟩,.string ⟨#[]⟩,.string ⟨#[]⟩,.bool false,.slice none 0 0])) fun y5=>
 bind (stA 5 y5 y4) fun _=>
 bind (ldA 5 y5) fun y6=>
 bind (Γ ZqZ [(Value.int .i64 2),y6]) fun y7=>
 bind (bop .int .neq y7 (Value.int .i64 0)) fun y8=>
 cnd y8
 (ret (.ret y7))
 (bind (fa 0 y5) fun y9=>
 bind (ld1 y9) fun y10=>
 bind (bsl 1 1 (.string ⟨#[]⟩) [(0,1,y10)]) fun y11=>
 bind (app 1 16 s5 y11) fun y12=>
 bind (bop .int .add s15 (Value.int .i64 1)) fun y13=>
 ret (.nrm [s1,y12,s13,s14,y13])))
 (ret (.ext 0 [s1,s5]))
noncomputable def ZdO.l2 (Γ : Zd) (s1 s35 s36 s37 : Value) : M Out:=
 bind (bop .int .lss s37 s36) fun y19=>
 cnd y19
 (bind (ixa 1 s35 s37) fun y20=>
 bind (ld1 y20) fun y21=>
 bind (Γ Yk [y21]) fun y22=>
 bind (bop .int .neq y22 (Value.int .i64 0)) fun y23=>
 cnd y23
 (ret (.ret y22))
 (bind (bop .int .add s37 (Value.int .i64 1)) fun y24=>
 ret (.nrm [s1,s35,s36,y24])))
 (ret (.ext 2 [s1]))
noncomputable def ZdO (Γ : Zd) (x0 x1 : Value) : M Value:=
 bind (ZF x0) fun y1=>
 jn (Zi (c5 (ZdO.l1 Γ)) [x1,(Value.slice none 0 0),x0,y1,(Value.int .i64 0)]) noN (xk 0 (c2 fun q15_0 q15_1=>
 bind (Γ Zkt [q15_1,(Value.int .i64 12)]) fun y16=>
 bind (bop .int .neq y16 (Value.int .i64 0)) fun y17=>
 cnd y17
 (ret y16)
 (bind (ZF q15_0) fun y18=>
 jn (Zi (c4 (ZdO.l2 Γ)) [q15_0,q15_0,y18,(Value.int .i64 0)]) noN (xk 2 (c1 fun q26_0=>
 bind (Γ Zkt [q26_0,(Value.int .i64 6)]) fun y27=>
 ret y27) noX) ret)) noX) ret
noncomputable def Yv (Γ : Zd) (x0 x1 : Value) : M Value:=
 bind (Γ JO [x0,x1,(Value.slice none 0 0)]) fun y1=>
 bind (Zh y1 0) fun y2=>
 bind (Zh y1 1) fun y3=>
 bind (bop .int .eql y3 (Value.int .i64 0)) fun y4=>
 cnd y4
 (ret (Value.int .i64 9))
 (bind (bop .int .neq y3 (Value.int .i64 8)) fun y5=>
 cnd y5
 (ret y3)
 (bind (QP x0) fun y6=>
 bind (fa 0 y6) fun y7=>
 bind (ld1 y7) fun y8=>
 bind (lenM y8) fun y9=>
 bind (bop .int .geq y9 (Value.int .i64 6)) fun y10=>
 cnd y10
 (ret (Value.int .i64 7))
 (bind (QP x0) fun y11=>
 bind (fa 0 y11) fun y12=>
 bind (ld1 y12) fun y13=>
 bind (mkm) fun y14=>
 bind (mup .str y13 x1 y14) fun _=>
 ret (Value.int .i64 0))))
theorem ZjB (Γ : Zd) (x0 x1 : Value) : ZG Tryz.prog Γ Tryz.f59 Zeu [x0,x1]=Yv Γ x0 x1:=by kernel_rfl
theorem Zil {prim : FuncId→Option (List Value→M Value)} (hp : prim Yu=none) (n : Nat) (x0 x1 : Value) : run Tryz.prog prim lvs (n+1) Yu [x0,x1]=Yv (run Tryz.prog prim lvs n) x0 x1:=
 (Zr hp (by kernel_rfl) Tryz.func59 (by kernel_rfl)).trans (ZjB _ x0 x1)
noncomputable def KL (Γ : Zd) (x0 x1 x2 : Value) : M Value:=
 bind (bsl 1 1 (.string ⟨#[]⟩) [(0,1,x2)]) fun y1=>
 bind (Γ JO [x0,x1,y1]) fun y2=>
 bind (Zh y2 0) fun y3=>
 bind (Zh y2 1) fun y4=>
 bind (bop .int .neq y4 (Value.int .i64 0)) fun y5=>
 cnd y5
 (ret y4)
 (bind (lkp .str (.agg #[]) true y3 x2) fun y6=>
 bind (Zh y6 0) fun y7=>
 bind (Zh y6 1) fun y8=>
 bind (alc 1 (.agg #[])) fun y9=>
 bind (stA 0 y9 y7) fun _=>
 cnd y8
 (ret (Value.int .i64 9))
 (bind (bld (.agg #[]) []) fun y10=>
 bind (mup .str y3 x2 y10) fun _=>
 ret (Value.int .i64 0)))
theorem Zi0 (Γ : Zd) (x0 x1 x2 : Value) : ZG Tryz.prog Γ Tryz.f60 ZeP [x0,x1,x2]=KL Γ x0 x1 x2:=by kernel_rfl
theorem Zis {prim : FuncId→Option (List Value→M Value)} (hp : prim Y7=none) (n : Nat) (x0 x1 x2 : Value) : run Tryz.prog prim lvs (n+1) Y7 [x0,x1,x2]=KL (run Tryz.prog prim lvs n) x0 x1 x2:=
 (Zr hp (by kernel_rfl) Tryz.func60 (by kernel_rfl)).trans (Zi0 _ x0 x1 x2)
noncomputable def Kr (Γ : Zd) (x0 x1 x2 : Value) : M Value:=
 bind (Γ Yk [x1]) fun y1=>
 bind (bop .int .neq y1 (Value.int .i64 0)) fun y2=>
 cnd y2
 (ret y1)
 (bind (bop .str .eql x2 (Value.string ⟨#[]⟩)) fun y3=>
 cnd y3
 (bind (Γ Jz [x0,x1]) fun y4=>
 ret (Value.int .i64 0))
 (bind (Γ ZaI [x2]) fun y5=>
 bind (Zh y5 0) fun y6=>
 bind (Zh y5 1) fun y7=>
 bind (bop .int .neq y7 (Value.int .i64 0)) fun y8=>
 cnd y8
 (ret y7)
 (bind (QP x0) fun y9=>
 bind (fa 0 y9) fun y10=>
 bind (ld1 y10) fun y11=>
 bind (lkp .str (.string ⟨#[]⟩) true y11 y6) fun y12=>
 bind (Zh y12 0) fun y13=>
 bind (Zh y12 1) fun y14=>
 bind (ZA y14 true 3 (bind (bop .str .neq y13 x1) fun y15=>
 ret [y13,x1,y15])) (c3 fun _ _ q16_2=>
 bind (pick y14 q16_2 (Value.bool false)) fun y17=>
 cnd y17
 (ret (Value.int .i64 9))
 (bind (Γ Jz [x0,x1]) fun y18=>
 bind (QP x0) fun y19=>
 bind (fa 0 y19) fun y20=>
 bind (ld1 y20) fun y21=>
 bind (QP x0) fun y22=>
 bind (fa 1 y22) fun y23=>
 bind (ld1 y23) fun y24=>
 bind (men .str (.string ⟨#[]⟩) y21 y6) fun y25=>
 bind (Zh y25 1) fun y26=>
 bind (ens y21 y26 x1) fun _=>
 bind (men .str (.string ⟨#[]⟩) y24 x1) fun y27=>
 bind (Zh y27 1) fun y28=>
 bind (ens y24 y28 y6) fun _=>
 ret (Value.int .i64 0))))))
theorem Zmg (Γ : Zd) (x0 x1 x2 : Value) : ZG Tryz.prog Γ Tryz.f61 Zf8 [x0,x1,x2]=Kr Γ x0 x1 x2:=by kernel_rfl
theorem Zlp {prim : FuncId→Option (List Value→M Value)} (hp : prim K1=none) (n : Nat) (x0 x1 x2 : Value) : run Tryz.prog prim lvs (n+1) K1 [x0,x1,x2]=Kr (run Tryz.prog prim lvs n) x0 x1 x2:=
 (Zr hp (by kernel_rfl) Tryz.func61 (by kernel_rfl)).trans (Zmg _ x0 x1 x2)
noncomputable def Zgl.l1 (Γ : Zd) (s0 s1 s10 s11 s12 : Value) : M Out:=
 bind (bop .int .lss s12 s11) fun y2=>
 cnd y2
 (bind (ixa 5 s10 s12) fun y3=>
 bind (ldA 5 y3) fun y4=>
 bind (alc 1 (.agg #[.string ⟨#[]⟩,.string ⟨#[]⟩,.string ⟨#[]⟩,.bool false,.slice none 0 0])) fun y5=>
 bind (stA 5 y5 y4) fun _=>
 bind (ldA 5 y5) fun y6=>
 bind (Γ ZpX [s1,y6]) fun y7=>
 bind (bop .int .neq y7 (Value.int .i64 0)) fun y8=>
 cnd y8
 (ret (.ret y7))
 (bind (bop .int .add s12 (Value.int .i64 1)) fun y9=>
 ret (.nrm [s0,s1,s10,s11,y9])))
 (ret (.ext 0 [s0]))
noncomputable def Zgl.l2 (Γ : Zd) (s0 s23 s24 s25 : Value) : M Out:=
 bind (bop .int .lss s25 s24) fun y13=>
 cnd y13
 (bind (ixa 5 s23 s25) fun y14=>
 bind (ldA 5 y14) fun y15=>
 bind (alc 1 (.agg #[.string ⟨#[]⟩,.string ⟨#[]⟩,.string ⟨#[]⟩,.bool false,.slice none 0 0])) fun y16=>
 bind (stA 5 y16 y15) fun _=>
 bind (bop .int .gtr s25 (Value.int .i64 0)) fun y17=>
 bind (Zq y17 true (ret s0)) fun y18=>
 bind (Zq y17 true (ret s25)) fun y19=>
 bind (Zq y17 true (bop .int .sub y19 (Value.int .i64 1))) fun y20=>
 bind (Zq y17 true (ixa 5 y18 y20)) fun y21=>
 bind (Zq y17 true (fa 0 y21)) fun y22=>
 bind (Zq y17 true (ld1 y22)) fun y23=>
 bind (Zq y17 true (fa 0 y16)) fun y24=>
 bind (Zq y17 true (ld1 y24)) fun y25=>
 bind (Zq y17 true (bop .str .geq y23 y25)) fun y26=>
 bind (pick y17 y26 (Value.bool false)) fun y27=>
 cnd y27
 (ret (.ret (Value.int .i64 9)))
 (bind (bop .int .add s25 (Value.int .i64 1)) fun y28=>
 ret (.nrm [s0,s23,s24,y28])))
 (ret (.ext 2 [s0]))
noncomputable def Zgl (Γ : Zd) (x0 x1 : Value) : M Value:=
 bind (ZF x0) fun y1=>
 jn (Zi (c5 (Zgl.l1 Γ)) [x0,x1,x0,y1,(Value.int .i64 0)]) noN (xk 0 (c1 fun q11_0=>
 bind (ZF q11_0) fun y12=>
 jn (Zi (c4 (Zgl.l2 Γ)) [q11_0,q11_0,y12,(Value.int .i64 0)]) noN (xk 2 (c1 fun q30_0=>
 bind (ZF q30_0) fun y31=>
 bind (bop .int .gtr y31 (Value.int .i64 12)) fun y32=>
 cnd y32
 (ret (Value.int .i64 7))
 (ret (Value.int .i64 0))) noX) ret) noX) ret
noncomputable def ZgD (Γ : Zd) (x0 : Value) : M Value:=
 bind (QE x0) fun y1=>
 bind (bop .int .geq y1 (Value.int .i64 1)) fun y2=>
 bind (ZA y2 true 2 (bind (bop .int .leq y1 (Value.int .i64 12)) fun y3=>
 ret [y1,y3])) (c2 fun _ q4_1=>
 bind (pick y2 q4_1 (Value.bool false)) fun y5=>
 bind (ZA y5 true 2 (bind (Γ ZaH [x0,(Value.string ⟨#[97,98,99,100,101,102,103,104,105,106,107,108,109,110,111,112,113,114,115,116,117,118,119,120,121,122,48,49,50,51,52,53,54,55,56,57,45,46]⟩)]) fun y6=>
 ret [x0,y6])) (c2 fun _ q7_1=>
 bind (pick y5 q7_1 (Value.bool false)) fun y8=>
 bind (ZA y8 true 3 (bind (ixs x0 (Value.int .i64 0)) fun y9=>
 bind (Γ WL [y9,(Value.string ⟨#[97,98,99,100,101,102,103,104,105,106,107,108,109,110,111,112,113,114,115,116,117,118,119,120,121,122]⟩)]) fun y10=>
 ret [x0,y9,y10])) (c3 fun _ _ q11_2=>
 bind (pick y8 q11_2 (Value.bool false)) fun y12=>
 bind (ZA y12 true 5 (bind (bop .int .sub y1 (Value.int .i64 1)) fun y13=>
 bind (ixs x0 y13) fun y14=>
 bind (Γ WL [y14,(Value.string ⟨#[97,98,99,100,101,102,103,104,105,106,107,108,109,110,111,112,113,114,115,116,117,118,119,120,121,122,48,49,50,51,52,53,54,55,56,57]⟩)]) fun y15=>
 ret [x0,y1,y13,y14,y15])) (c5 fun _ _ _ _ q16_4=>
 bind (pick y12 q16_4 (Value.bool false)) fun y17=>
 ret y17))))
theorem Zqq (Γ : Zd) (x0 : Value) : ZG Tryz.prog Γ Tryz.f63 ZiD [x0]=ZgD Γ x0:=by kernel_rfl
theorem Zor {prim : FuncId→Option (List Value→M Value)} (hp : prim Qq=none) (n : Nat) (x0 : Value) : run Tryz.prog prim lvs (n+1) Qq [x0]=ZgD (run Tryz.prog prim lvs n) x0:=
 (Zr hp (by kernel_rfl) Tryz.func63 (by kernel_rfl)).trans (Zqq _ x0)
noncomputable def Wy.l1 (Γ : Zd) (s1 s7 s8 s9 : Value) : M Out:=
 bind (bop .int .lss s9 s8) fun y2=>
 cnd y2
 (bind (ixa 1 s7 s9) fun y3=>
 bind (ld1 y3) fun y4=>
 bind (bop .str .eql y4 s1) fun y5=>
 cnd y5
 (ret (.ret (Value.bool true)))
 (bind (bop .int .add s9 (Value.int .i64 1)) fun y6=>
 ret (.nrm [s1,s7,s8,y6])))
 (ret (.ext 0 []))
noncomputable def Wy (Γ : Zd) (x0 x1 : Value) : M Value:=
 bind (ZF x0) fun y1=>
 jn (Zi (c4 (Wy.l1 Γ)) [x1,x0,y1,(Value.int .i64 0)]) noN (xk 0 (c0 (ret (Value.bool false))) noX) ret
theorem ZqJ (Γ : Zd) (x0 x1 : Value) : ZG Tryz.prog Γ Tryz.f64 ZkK [x0,x1]=Wy Γ x0 x1:=by kernel_rfl
theorem ZoY {prim : FuncId→Option (List Value→M Value)} (hp : prim Yi=none) (n : Nat) (x0 x1 : Value) : run Tryz.prog prim lvs (n+1) Yi [x0,x1]=Wy (run Tryz.prog prim lvs n) x0 x1:=
 (Zr hp (by kernel_rfl) Tryz.func64 (by kernel_rfl)).trans (ZqJ _ x0 x1)
noncomputable def ZbJ (Γ : Zd) (x0 x1 : Value) : M Value:=
 bind (alc 1 x0) fun y1=>
 bind (alc 1 (.agg #[.string ⟨#[]⟩,.string ⟨#[]⟩,.string ⟨#[]⟩,.bool false,.slice none 0 0])) fun y2=>
 bind (Γ Qq [x1]) fun y3=>
 bind (uop .not y3) fun y4=>
 cnd y4
 (bind (bld (.agg #[.string ⟨#[]⟩,.string ⟨#[]⟩,.string ⟨#[]⟩,.bool false,.slice none 0 0]) []) fun y5=>
 bind (stA 5 y2 y5) fun _=>
 bind (ldA 5 y2) fun y6=>
 ret (Value.tuple #[y6,(Value.int .i64 10)]))
 (bind (fa 0 y1) fun y7=>
 bind (ld1 y7) fun y8=>
 bind (Γ We [y8,x1]) fun y9=>
 bind (bop .int .lss y9 (Value.int .i64 0)) fun y10=>
 cnd y10
 (bind (bld (.agg #[.string ⟨#[]⟩,.string ⟨#[]⟩,.string ⟨#[]⟩,.bool false,.slice none 0 0]) []) fun y11=>
 bind (stA 5 y2 y11) fun _=>
 bind (ldA 5 y2) fun y12=>
 ret (Value.tuple #[y12,(Value.int .i64 8)]))
 (bind (fa 0 y1) fun y13=>
 bind (ld1 y13) fun y14=>
 bind (ixa 5 y14 y9) fun y15=>
 bind (ldA 5 y15) fun y16=>
 bind (stA 5 y2 y16) fun _=>
 bind (ldA 5 y2) fun y17=>
 ret (Value.tuple #[y17,(Value.int .i64 0)])))
theorem ZpH (Γ : Zd) (x0 x1 : Value) : ZG Tryz.prog Γ Tryz.f67 Zi6 [x0,x1]=ZbJ Γ x0 x1:=by kernel_rfl
theorem Zoh {prim : FuncId→Option (List Value→M Value)} (hp : prim JN=none) (n : Nat) (x0 x1 : Value) : run Tryz.prog prim lvs (n+1) JN [x0,x1]=ZbJ (run Tryz.prog prim lvs n) x0 x1:=
 (Zr hp (by kernel_rfl) Tryz.func67 (by kernel_rfl)).trans (ZpH _ x0 x1)
noncomputable def Q0.l1 (Γ : Zd) (s0 s4 : Value) : M Out:=
 bind (QE s0) fun y4=>
 bind (bop .int .lss s4 y4) fun y5=>
 bind (ZA y5 true 4 (bind (ixs s0 s4) fun y6=>
 bind (bop .int .neq y6 (Value.int .u8 64)) fun y7=>
 ret [s0,s4,y6,y7])) (c4 fun _ _ _ q8_3=>
 bind (pick y5 q8_3 (Value.bool false)) fun y9=>
 cnd y9
 (bind (bop .int .add s4 (Value.int .i64 1)) fun y10=>
 ret (.nrm [s0,y10]))
 (ret (.ext 0 [s0,s4])))
noncomputable def Q0.l2 (Γ : Zd) (s0 s5 s6 s7 : Value) : M Out:=
 bind (QE s0) fun y21=>
 bind (bop .int .lss s7 y21) fun y22=>
 cnd y22
 (bind (ixs s0 s7) fun y23=>
 bind (bop .int .eql y23 (Value.int .u8 46)) fun y24=>
 jn (cnd y24
 (bind (bop .int .eql s6 (Value.int .i64 0)) fun y25=>
 cnd y25
 (ret (.ret (Value.tuple #[(Value.string ⟨#[]⟩),(Value.bool false)])))
 (bind (bop .int .add s5 (Value.int .i64 1)) fun y26=>
 ret (.nrm [s0,y26,(Value.int .i64 0),s7])))
 (bind (ixs s0 s7) fun y27=>
 bind (Γ WL [y27,(Value.string ⟨#[97,98,99,100,101,102,103,104,105,106,107,108,109,110,111,112,113,114,115,116,117,118,119,120,121,122,48,49,50,51,52,53,54,55,56,57]⟩)]) fun y28=>
 bind (uop .not y28) fun y29=>
 cnd y29
 (ret (.ret (Value.tuple #[(Value.string ⟨#[]⟩),(Value.bool false)])))
 (bind (bop .int .add s6 (Value.int .i64 1)) fun y30=>
 ret (.nrm [s0,s5,y30,s7])))) (c4 fun q31_0 q31_1 q31_2 q31_3=>
 bind (bop .int .add q31_3 (Value.int .i64 1)) fun y32=>
 ret (.nrm [q31_0,q31_1,q31_2,y32])) noX ZP)
 (ret (.ext 2 [s0,s5,s6]))
noncomputable def Q0 (Γ : Zd) (x0 : Value) : M Value:=
 bind (QE x0) fun y1=>
 bind (bop .int .gtr y1 (Value.int .i64 20)) fun y2=>
 cnd y2
 (ret (Value.tuple #[(Value.string ⟨#[]⟩),(Value.bool false)]))
 (bind (Γ ZcJ [x0]) fun y3=>
 jn (Zi (c2 (Q0.l1 Γ)) [y3,(Value.int .i64 0)]) noN (xk 0 (c2 fun q12_0 q12_1=>
 bind (QE q12_0) fun y13=>
 bind (bop .int .eql q12_1 y13) fun y14=>
 bind (ZA y14 false 5 (bind (sls q12_0 none (some q12_1)) fun y15=>
 bind (Γ Qq [y15]) fun y16=>
 bind (uop .not y16) fun y17=>
 ret [q12_0,q12_1,y15,y16,y17])) (c5 fun _ _ _ _ q18_4=>
 bind (pick y14 (Value.bool true) q18_4) fun y19=>
 cnd y19
 (ret (Value.tuple #[(Value.string ⟨#[]⟩),(Value.bool false)]))
 (bind (bop .int .add q12_1 (Value.int .i64 1)) fun y20=>
 jn (Zi (c4 (Q0.l2 Γ)) [q12_0,(Value.int .i64 0),(Value.int .i64 0),y20]) noN (xk 2 (c3 fun q35_0 q35_1 q35_2=>
 bind (bop .int .eql q35_1 (Value.int .i64 0)) fun y36=>
 bind (ZA y36 false 2 (bind (bop .int .eql q35_2 (Value.int .i64 0)) fun y37=>
 ret [q35_2,y37])) (c2 fun _ q38_1=>
 bind (pick y36 (Value.bool true) q38_1) fun y39=>
 cnd y39
 (ret (Value.tuple #[(Value.string ⟨#[]⟩),(Value.bool false)]))
 (ret (Value.tuple #[q35_0,(Value.bool true)])))) noX) ret))) noX) ret)
theorem Zqc (Γ : Zd) (x0 : Value) : ZG Tryz.prog Γ Tryz.f68 Zjw [x0]=Q0 Γ x0:=by kernel_rfl
theorem Zoy {prim : FuncId→Option (List Value→M Value)} (hp : prim Kv=none) (n : Nat) (x0 : Value) : run Tryz.prog prim lvs (n+1) Kv [x0]=Q0 (run Tryz.prog prim lvs n) x0:=
 (Zr hp (by kernel_rfl) Tryz.func68 (by kernel_rfl)).trans (Zqc _ x0)
noncomputable def ZfR (Γ : Zd) (x0 : Value) : M Value:=
 bind (QE x0) fun y1=>
 bind (bop .int .gtr y1 (Value.int .i64 12)) fun y2=>
 bind (ZA y2 false 3 (bind (Γ Y8 [x0,(Value.func (.func 112) #[] #[])]) fun y3=>
 bind (uop .not y3) fun y4=>
 ret [x0,y3,y4])) (c3 fun _ _ q5_2=>
 bind (pick y2 (Value.bool true) q5_2) fun y6=>
 cnd y6
 (ret (Value.int .i64 10))
 (ret (Value.int .i64 0)))
theorem ZoF (Γ : Zd) (x0 : Value) : ZG Tryz.prog Γ Tryz.f69 Zh6 [x0]=ZfR Γ x0:=by kernel_rfl
theorem Zm6 {prim : FuncId→Option (List Value→M Value)} (hp : prim Zb4=none) (n : Nat) (x0 : Value) : run Tryz.prog prim lvs (n+1) Zb4 [x0]=ZfR (run Tryz.prog prim lvs n) x0:=
 (Zr hp (by kernel_rfl) Tryz.func69 (by kernel_rfl)).trans (ZoF _ x0)
noncomputable def ZC.l1 (Γ : Zd) (s0 s1 s5 s6 : Value) : M Out:=
 bind (ZF s0) fun y4=>
 bind (bop .int .lss s6 y4) fun y5=>
 cnd y5
 (bind (ixa 1 s0 s6) fun y6=>
 bind (ld1 y6) fun y7=>
 bind (Jf Γ s1 [y7]) fun y8=>
 bind (uop .not y8) fun y9=>
 jn (cnd y9
 (bind (ixa 1 s0 s5) fun y10=>
 bind (st1 y10 y7) fun _=>
 bind (bop .int .add s5 (Value.int .i64 1)) fun y11=>
 ret (.nrm [s0,s1,y11,s6]))
 (ret (.nrm [s0,s1,s5,s6]))) (c4 fun q12_0 q12_1 q12_2 q12_3=>
 bind (bop .int .add q12_3 (Value.int .i64 1)) fun y13=>
 ret (.nrm [q12_0,q12_1,q12_2,y13])) noX ZP)
 (ret (.ext 0 [s0,s5]))
noncomputable def ZC (Γ : Zd) (x0 x1 : Value) : M Value:=
 bind (Γ QQ [x0,x1]) fun y1=>
 bind (bop .int .eql y1 (Value.int .i64 (-1))) fun y2=>
 cnd y2
 (ret x0)
 (bind (bop .int .add y1 (Value.int .i64 1)) fun y3=>
 jn (Zi (c4 (ZC.l1 Γ)) [x0,x1,y1,y3]) noN (xk 0 (c2 fun q16_0 q16_1=>
 bind (slv 1 q16_0 (some q16_1) none none) fun y17=>
 bind (clr (.string ⟨#[]⟩) 1 y17) fun _=>
 bind (slv 1 q16_0 none (some q16_1) none) fun y18=>
 ret y18) noX) ret)
theorem Zds (Γ : Zd) (x0 x1 : Value) : ZG Tryz.prog Γ Tryz.f70 Zan [x0,x1]=ZC Γ x0 x1:=by kernel_rfl
theorem W0 {prim : FuncId→Option (List Value→M Value)} (hp : prim Qb=none) (n : Nat) (x0 x1 : Value) : run Tryz.prog prim lvs (n+1) Qb [x0,x1]=ZC (run Tryz.prog prim lvs n) x0 x1:=
 (Zr hp (by kernel_rfl) Tryz.func70 (by kernel_rfl)).trans (Zds _ x0 x1)
noncomputable def ZdZ (Γ : Zd) (x0 x1 : Value) : M Value:=
 bind (ld1 x1) fun y1=>
 bind (Γ Wi [x0,y1]) fun y2=>
 bind (uop .not y2) fun y3=>
 ret y3
theorem ZlF (Γ : Zd) (x0 x1 : Value) : ZG Tryz.prog Γ Tryz.f71 ZfE [x0,x1]=ZdZ Γ x0 x1:=by kernel_rfl
theorem Zj5 {prim : FuncId→Option (List Value→M Value)} (hp : prim ZaA=none) (n : Nat) (x0 x1 : Value) : run Tryz.prog prim lvs (n+1) ZaA [x0,x1]=ZdZ (run Tryz.prog prim lvs n) x0 x1:=
 (Zr hp (by kernel_rfl) Tryz.func71 (by kernel_rfl)).trans (ZlF _ x0 x1)
noncomputable def Zcd (Γ : Zd) (x0 x1 : Value) : M Value:=
 bind (Γ JU [x0,x1]) fun y1=>
 ret y1
theorem Zit (Γ : Zd) (x0 x1 : Value) : ZG Tryz.prog Γ Tryz.f72 Zd5 [x0,x1]=Zcd Γ x0 x1:=by kernel_rfl
theorem ZhA {prim : FuncId→Option (List Value→M Value)} (hp : prim Wi=none) (n : Nat) (x0 x1 : Value) : run Tryz.prog prim lvs (n+1) Wi [x0,x1]=Zcd (run Tryz.prog prim lvs n) x0 x1:=
 (Zr hp (by kernel_rfl) Tryz.func72 (by kernel_rfl)).trans (Zit _ x0 x1)
noncomputable def ZeZ (Γ : Zd) (x0 : Value) : M Value:=
 bind (QE x0) fun y1=>
 bind (bop .int .leq y1 (Value.int .i64 12)) fun y2=>
 bind (ZA y2 true 2 (bind (Γ ZaH [x0,(Value.string ⟨#[97,98,99,100,101,102,103,104,105,106,107,108,109,110,111,112,113,114,115,116,117,118,119,120,121,122,48,49,50,51,52,53,54,55,56,57,45,46]⟩)]) fun y3=>
 ret [x0,y3])) (c2 fun _ q4_1=>
 bind (pick y2 q4_1 (Value.bool false)) fun y5=>
 ret y5)
theorem ZmX (Γ : Zd) (x0 : Value) : ZG Tryz.prog Γ Tryz.f73 ZgR [x0]=ZeZ Γ x0:=by kernel_rfl
theorem ZlU {prim : FuncId→Option (List Value→M Value)} (hp : prim ZbH=none) (n : Nat) (x0 : Value) : run Tryz.prog prim lvs (n+1) ZbH [x0]=ZeZ (run Tryz.prog prim lvs n) x0:=
 (Zr hp (by kernel_rfl) Tryz.func73 (by kernel_rfl)).trans (ZmX _ x0)
noncomputable def KD (Γ : Zd) (x0 x1 : Value) : M Value:=
 bind (Γ JO [x0,x1,(Value.slice none 0 0)]) fun y1=>
 bind (Zh y1 0) fun y2=>
 bind (Zh y1 1) fun y3=>
 bind (bop .int .neq y3 (Value.int .i64 0)) fun y4=>
 cnd y4
 (ret (Value.tuple #[(Value.slice none 0 0),y3]))
 (bind (Γ KZ [y2]) fun y5=>
 ret (Value.tuple #[y5,(Value.int .i64 0)]))
theorem Zhd (Γ : Zd) (x0 x1 : Value) : ZG Tryz.prog Γ Tryz.f74 Zdl [x0,x1]=KD Γ x0 x1:=by kernel_rfl
theorem ZgC {prim : FuncId→Option (List Value→M Value)} (hp : prim KJ=none) (n : Nat) (x0 x1 : Value) : run Tryz.prog prim lvs (n+1) KJ [x0,x1]=KD (run Tryz.prog prim lvs n) x0 x1:=
 (Zr hp (by kernel_rfl) Tryz.func74 (by kernel_rfl)).trans (Zhd _ x0 x1)
noncomputable def Kk.l1 (Γ : Zd) (s0 s35 s36 s37 : Value) : M Out:=
 bind (bop .int .lss s37 s36) fun y19=>
 cnd y19
 (bind (ixa 1 s35 s37) fun y20=>
 bind (ld1 y20) fun y21=>
 bind (bop .str .eql y21 (Value.string ⟨#[]⟩)) fun y22=>
 bind (ZA y22 false 3 (bind (Γ Y8 [y21,(Value.func (.func 120) #[] #[])]) fun y23=>
 bind (uop .not y23) fun y24=>
 ret [y21,y23,y24])) (c3 fun _ _ q25_2=>
 bind (pick y22 (Value.bool true) q25_2) fun y26=>
 cnd y26
 (ret (.ret (Value.tuple #[(Value.string ⟨#[]⟩),(Value.int .i64 11)])))
 (bind (bop .int .add s37 (Value.int .i64 1)) fun y27=>
 ret (.nrm [s0,s35,s36,y27]))))
 (ret (.ext 0 [s0]))
noncomputable def Kk (Γ : Zd) (x0 : Value) : M Value:=
 bind (QE x0) fun y1=>
 bind (bop .int .gtr y1 (Value.int .i64 20)) fun y2=>
 cnd y2
 (ret (Value.tuple #[(Value.string ⟨#[]⟩),(Value.int .i64 11)]))
 (bind (Γ ZdG [x0]) fun y3=>
 bind (Γ Zaf [y3,(Value.string ⟨#[64]⟩)]) fun y4=>
 bind (Zh y4 0) fun y5=>
 bind (Zh y4 1) fun y6=>
 bind (Zh y4 2) fun y7=>
 bind (Γ Za7 [y6,(Value.string ⟨#[46]⟩)]) fun y8=>
 bind (uop .not y7) fun y9=>
 bind (ZA y9 false 3 (bind (Γ Zab [y5]) fun y10=>
 bind (uop .not y10) fun y11=>
 ret [y5,y10,y11])) (c3 fun _ _ q12_2=>
 bind (pick y9 (Value.bool true) q12_2) fun y13=>
 bind (ZA y13 false 3 (bind (ZF y8) fun y14=>
 bind (bop .int .lss y14 (Value.int .i64 2)) fun y15=>
 ret [y8,y14,y15])) (c3 fun _ _ q16_2=>
 bind (pick y13 (Value.bool true) q16_2) fun y17=>
 cnd y17
 (ret (Value.tuple #[(Value.string ⟨#[]⟩),(Value.int .i64 11)]))
 (bind (ZF y8) fun y18=>
 jn (Zi (c4 (Kk.l1 Γ)) [y3,y8,y18,(Value.int .i64 0)]) noN (xk 0 (c1 fun q29_0=>
 ret (Value.tuple #[q29_0,(Value.int .i64 0)])) noX) ret))))
theorem Zq2 (Γ : Zd) (x0 : Value) : ZG Tryz.prog Γ Tryz.f75 Zkq [x0]=Kk Γ x0:=by kernel_rfl
theorem Zqs {prim : FuncId→Option (List Value→M Value)} (hp : prim ZaI=none) (n : Nat) (x0 : Value) : run Tryz.prog prim lvs (n+1) ZaI [x0]=Kk (run Tryz.prog prim lvs n) x0:=
 (Zr hp (by kernel_rfl) Tryz.func75 (by kernel_rfl)).trans (Zq2 _ x0)
noncomputable def YY (Γ : Zd) (x0 x1 x2 : Value) : M Value:=
 bind (Γ Yk [x2]) fun y1=>
 bind (bop .int .neq y1 (Value.int .i64 0)) fun y2=>
 cnd y2
 (ret y1)
 (bind (QP x0) fun y3=>
 bind (fa 1 y3) fun y4=>
 bind (ld1 y4) fun y5=>
 bind (lkp .str (.string ⟨#[]⟩) true y5 x1) fun y6=>
 bind (Zh y6 0) fun y7=>
 bind (Zh y6 1) fun y8=>
 bind (QP x0) fun y9=>
 bind (fa 1 y9) fun y10=>
 bind (ld1 y10) fun y11=>
 bind (lkp .str (.string ⟨#[]⟩) true y11 x2) fun y12=>
 bind (Zh y12 0) fun y13=>
 bind (Zh y12 1) fun y14=>
 bind (uop .not y8) fun y15=>
 cnd y15
 (ret (Value.int .i64 8))
 (bind (ZA y14 true 3 (bind (bop .str .neq x2 x1) fun y16=>
 ret [x2,x1,y16])) (c3 fun _ _ q17_2=>
 bind (pick y14 q17_2 (Value.bool false)) fun y18=>
 cnd y18
 (ret (Value.int .i64 9))
 (bind (Γ Jz [x0,x1]) fun y19=>
 bind (QP x0) fun y20=>
 bind (fa 0 y20) fun y21=>
 bind (ld1 y21) fun y22=>
 bind (QP x0) fun y23=>
 bind (fa 1 y23) fun y24=>
 bind (ld1 y24) fun y25=>
 bind (men .str (.string ⟨#[]⟩) y22 y7) fun y26=>
 bind (Zh y26 1) fun y27=>
 bind (ens y22 y27 x2) fun _=>
 bind (men .str (.string ⟨#[]⟩) y25 x2) fun y28=>
 bind (Zh y28 1) fun y29=>
 bind (ens y25 y29 y7) fun _=>
 ret (Value.int .i64 0)))))
theorem Zix (Γ : Zd) (x0 x1 x2 : Value) : ZG Tryz.prog Γ Tryz.f76 ZeN [x0,x1,x2]=YY Γ x0 x1 x2:=by kernel_rfl
theorem Zip {prim : FuncId→Option (List Value→M Value)} (hp : prim KR=none) (n : Nat) (x0 x1 x2 : Value) : run Tryz.prog prim lvs (n+1) KR [x0,x1,x2]=YY (run Tryz.prog prim lvs n) x0 x1 x2:=
 (Zr hp (by kernel_rfl) Tryz.func76 (by kernel_rfl)).trans (Zix _ x0 x1 x2)
noncomputable def QA.l1 (Γ : Zd) (s0 s1 s2 s26 s27 s28 : Value) : M Out:=
 bind (bop .int .lss s28 s27) fun y10=>
 cnd y10
 (bind (ixa 1 s26 s28) fun y11=>
 bind (ld1 y11) fun y12=>
 bind (QP s0) fun y13=>
 bind (fa 0 y13) fun y14=>
 bind (ld1 y14) fun y15=>
 bind (lkp .str (.map none) false y15 y12) fun y16=>
 bind (mde .str y16 s1) fun _=>
 bind (QP s0) fun y17=>
 bind (fa 0 y17) fun y18=>
 bind (ld1 y18) fun y19=>
 bind (lkp .str (.map none) false y19 y12) fun y20=>
 bind (bld (.agg #[]) []) fun y21=>
 bind (mup .str y20 s2 y21) fun _=>
 bind (bop .int .add s28 (Value.int .i64 1)) fun y22=>
 ret (.nrm [s0,s1,s2,s26,s27,y22]))
 (ret (.ext 0 []))
noncomputable def QA (Γ : Zd) (x0 x1 x2 : Value) : M Value:=
 bind (bsl 1 1 (.string ⟨#[]⟩) [(0,1,x2)]) fun y1=>
 bind (Γ Zad [y1]) fun y2=>
 bind (bop .int .neq y2 (Value.int .i64 0)) fun y3=>
 cnd y3
 (ret y2)
 (bind (bop .str .eql x1 x2) fun y4=>
 cnd y4
 (ret (Value.int .i64 0))
 (bind (Γ JX [x0,x2]) fun y5=>
 bind (ZF y5) fun y6=>
 bind (bop .int .gtr y6 (Value.int .i64 0)) fun y7=>
 cnd y7
 (ret (Value.int .i64 9))
 (bind (Γ JX [x0,x1]) fun y8=>
 bind (ZF y8) fun y9=>
 jn (Zi (c6 (QA.l1 Γ)) [x0,x1,x2,y8,y9,(Value.int .i64 0)]) noN (xk 0 (c0 (ret (Value.int .i64 0))) noX) ret)))
theorem ZhH (Γ : Zd) (x0 x1 x2 : Value) : ZG Tryz.prog Γ Tryz.f77 ZdF [x0,x1,x2]=QA Γ x0 x1 x2:=by kernel_rfl
theorem Zhg {prim : FuncId→Option (List Value→M Value)} (hp : prim Y9=none) (n : Nat) (x0 x1 x2 : Value) : run Tryz.prog prim lvs (n+1) Y9 [x0,x1,x2]=QA (run Tryz.prog prim lvs n) x0 x1 x2:=
 (Zr hp (by kernel_rfl) Tryz.func77 (by kernel_rfl)).trans (ZhH _ x0 x1 x2)
noncomputable def ZbF (Γ : Zd) (x0 x1 x2 : Value) : M Value:=
 bind (Γ Qq [x1]) fun y1=>
 bind (uop .not y1) fun y2=>
 cnd y2
 (ret (Value.tuple #[x0,(Value.int .i64 10)]))
 (bind (Γ WI [x2]) fun y3=>
 bind (uop .not y3) fun y4=>
 cnd y4
 (ret (Value.tuple #[x0,(Value.int .i64 4)]))
 (bind (Γ We [x0,x1]) fun y5=>
 bind (bop .int .geq y5 (Value.int .i64 0)) fun y6=>
 cnd y6
 (ret (Value.tuple #[x0,(Value.int .i64 9)]))
 (bind (ZF x0) fun y7=>
 bind (bop .int .geq y7 (Value.int .i64 12)) fun y8=>
 cnd y8
 (ret (Value.tuple #[x0,(Value.int .i64 7)]))
 (bind (bld (.agg #[.string ⟨#[]⟩,.string ⟨#[]⟩,.string ⟨#[]⟩,.bool false,.slice none 0 0]) [(0,1,x1),(1,1,x2)]) fun y9=>
 bind (Γ WC [x0,y9]) fun y10=>
 ret (Value.tuple #[y10,(Value.int .i64 0)])))))
theorem Zm2 (Γ : Zd) (x0 x1 x2 : Value) : ZG Tryz.prog Γ Tryz.f78 Zg8 [x0,x1,x2]=ZbF Γ x0 x1 x2:=by kernel_rfl
theorem Zmn {prim : FuncId→Option (List Value→M Value)} (hp : prim Zaw=none) (n : Nat) (x0 x1 x2 : Value) : run Tryz.prog prim lvs (n+1) Zaw [x0,x1,x2]=ZbF (run Tryz.prog prim lvs n) x0 x1 x2:=
 (Zr hp (by kernel_rfl) Tryz.func78 (by kernel_rfl)).trans (Zm2 _ x0 x1 x2)
noncomputable def Zas (Γ : Zd) (x0 x1 : Value) : M Value:=
 bind (Γ Qq [x1]) fun y1=>
 bind (uop .not y1) fun y2=>
 cnd y2
 (ret (Value.tuple #[x0,(Value.int .i64 10)]))
 (bind (Γ We [x0,x1]) fun y3=>
 bind (bop .int .lss y3 (Value.int .i64 0)) fun y4=>
 cnd y4
 (ret (Value.tuple #[x0,(Value.int .i64 8)]))
 (bind (Γ ZaQ [x0,x1]) fun y5=>
 ret (Value.tuple #[y5,(Value.int .i64 0)])))
theorem ZnC (Γ : Zd) (x0 x1 : Value) : ZG Tryz.prog Γ Tryz.f79 Zhc [x0,x1]=Zas Γ x0 x1:=by kernel_rfl
theorem Zmt {prim : FuncId→Option (List Value→M Value)} (hp : prim Zar=none) (n : Nat) (x0 x1 : Value) : run Tryz.prog prim lvs (n+1) Zar [x0,x1]=Zas (run Tryz.prog prim lvs n) x0 x1:=
 (Zr hp (by kernel_rfl) Tryz.func79 (by kernel_rfl)).trans (ZnC _ x0 x1)
noncomputable def Zgy (Γ : Zd) (x0 : Value) : M Value:=
 bind (QE x0) fun y1=>
 bind (bop .int .geq y1 (Value.int .i64 1)) fun y2=>
 bind (ZA y2 true 3 (bind (QE x0) fun y3=>
 bind (bop .int .leq y3 (Value.int .i64 12)) fun y4=>
 ret [x0,y3,y4])) (c3 fun _ _ q5_2=>
 bind (pick y2 q5_2 (Value.bool false)) fun y6=>
 bind (ZA y6 true 2 (bind (Γ ZaH [x0,(Value.string ⟨#[48,49,50,51,52,53,54,55,56,57,97,98,99,100,101,102]⟩)]) fun y7=>
 ret [x0,y7])) (c2 fun _ q8_1=>
 bind (pick y6 q8_1 (Value.bool false)) fun y9=>
 ret y9))
theorem Zqw (Γ : Zd) (x0 : Value) : ZG Tryz.prog Γ Tryz.f80 Zjx [x0]=Zgy Γ x0:=by kernel_rfl
theorem Zom {prim : FuncId→Option (List Value→M Value)} (hp : prim WI=none) (n : Nat) (x0 : Value) : run Tryz.prog prim lvs (n+1) WI [x0]=Zgy (run Tryz.prog prim lvs n) x0:=
 (Zr hp (by kernel_rfl) Tryz.func80 (by kernel_rfl)).trans (Zqw _ x0)
noncomputable def ZhX (Γ : Zd) (x0 x1 : Value) : M Value:=
 bind (alc 1 x0) fun y1=>
 bind (alc 1 x1) fun y2=>
 bind (alc 1 (.agg #[.slice none 0 0,.slice none 0 0])) fun y3=>
 bind (fa 0 y1) fun y4=>
 bind (ld1 y4) fun y5=>
 bind (ldA 5 y2) fun y6=>
 bind (Γ WC [y5,y6]) fun y7=>
 bind (fa 0 y1) fun y8=>
 bind (st1 y8 y7) fun _=>
 bind (ldA 2 y1) fun y9=>
 bind (stA 2 y3 y9) fun _=>
 bind (ldA 2 y3) fun y10=>
 ret y10
theorem ZqC (Γ : Zd) (x0 x1 : Value) : ZG Tryz.prog Γ Tryz.f81 ZkE [x0,x1]=ZhX Γ x0 x1:=by kernel_rfl
theorem Zqv {prim : FuncId→Option (List Value→M Value)} (hp : prim Wc=none) (n : Nat) (x0 x1 : Value) : run Tryz.prog prim lvs (n+1) Wc [x0,x1]=ZhX (run Tryz.prog prim lvs n) x0 x1:=
 (Zr hp (by kernel_rfl) Tryz.func81 (by kernel_rfl)).trans (ZqC _ x0 x1)
noncomputable def Wz.l1 (Γ : Zd) (s3 s5 s6 s9 s10 s11 : Value) : M Out:=
 bind (bop .int .lss s11 s10) fun y3=>
 cnd y3
 (bind (ixa 5 s9 s11) fun y4=>
 bind (ldA 5 y4) fun y5=>
 bind (alc 1 (.agg #[.string ⟨#[]⟩,.string ⟨#[]⟩,.string ⟨#[]⟩,.bool false,.slice none 0 0])) fun y6=>
 bind (stA 5 y6 y5) fun _=>
 bind (uop .not s6) fun y7=>
 bind (ZA y7 true 5 (bind (fa 0 s3) fun y8=>
 bind (ld1 y8) fun y9=>
 bind (fa 0 y6) fun y10=>
 bind (ld1 y10) fun y11=>
 bind (bop .str .leq y9 y11) fun y12=>
 ret [y8,y9,y10,y11,y12])) (c5 fun _ _ _ _ q13_4=>
 bind (pick y7 q13_4 (Value.bool false)) fun y14=>
 jn (cnd y14
 (bind (ldA 5 s3) fun y15=>
 bind (bsl 5 1 (.agg #[.string ⟨#[]⟩,.string ⟨#[]⟩,.string ⟨#[]⟩,.bool false,.slice none 0 0]) [(0,5,y15)]) fun y16=>
 bind (app 5 80 s5 y16) fun y17=>
 ret (.nrm [s3,y17,(Value.bool true),y6,s9,s10,s11]))
 (ret (.nrm [s3,s5,s6,y6,s9,s10,s11]))) (c7 fun q18_0 q18_1 q18_2 q18_3 q18_4 q18_5 q18_6=>
 bind (fa 0 q18_3) fun y19=>
 bind (ld1 y19) fun y20=>
 bind (fa 0 q18_0) fun y21=>
 bind (ld1 y21) fun y22=>
 bind (bop .str .neq y20 y22) fun y23=>
 jn (cnd y23
 (bind (ldA 5 q18_3) fun y24=>
 bind (bsl 5 1 (.agg #[.string ⟨#[]⟩,.string ⟨#[]⟩,.string ⟨#[]⟩,.bool false,.slice none 0 0]) [(0,5,y24)]) fun y25=>
 bind (app 5 80 q18_1 y25) fun y26=>
 ret (.nrm [q18_0,y26,q18_2,q18_4,q18_5,q18_6]))
 (ret (.nrm [q18_0,q18_1,q18_2,q18_4,q18_5,q18_6]))) (c6 fun q27_0 q27_1 q27_2 q27_3 q27_4 q27_5=>
 bind (bop .int .add q27_5 (Value.int .i64 1)) fun y28=>
 ret (.nrm [q27_0,q27_1,q27_2,q27_3,q27_4,y28])) noX ZP) noX ZP))
 (ret (.ext 0 [s3,s5,s6]))
noncomputable def Wz (Γ : Zd) (x0 x1 : Value) : M Value:=
 bind (alc 1 x1) fun y1=>
 bind (ZF x0) fun y2=>
 jn (Zi (c6 (Wz.l1 Γ)) [y1,(Value.slice none 0 0),(Value.bool false),x0,y2,(Value.int .i64 0)]) noN (xk 0 (c3 fun q32_0 q32_1 q32_2=>
 bind (uop .not q32_2) fun y33=>
 jn (cnd y33
 (bind (ldA 5 q32_0) fun y34=>
 bind (bsl 5 1 (.agg #[.string ⟨#[]⟩,.string ⟨#[]⟩,.string ⟨#[]⟩,.bool false,.slice none 0 0]) [(0,5,y34)]) fun y35=>
 bind (app 5 80 q32_1 y35) fun y36=>
 ret (.nrm [y36]))
 (ret (.nrm [q32_1]))) (c1 fun q37_0=>
 ret q37_0) noX ret) noX) ret
theorem Zq5 (Γ : Zd) (x0 x1 : Value) : ZG Tryz.prog Γ Tryz.f82 Zkp [x0,x1]=Wz Γ x0 x1:=by kernel_rfl
theorem ZpV {prim : FuncId→Option (List Value→M Value)} (hp : prim WC=none) (n : Nat) (x0 x1 : Value) : run Tryz.prog prim lvs (n+1) WC [x0,x1]=Wz (run Tryz.prog prim lvs n) x0 x1:=
 (Zr hp (by kernel_rfl) Tryz.func82 (by kernel_rfl)).trans (Zq5 _ x0 x1)
noncomputable def Kw.l1 (Γ : Zd) (s1 s5 s8 s9 s10 : Value) : M Out:=
 bind (bop .int .lss s10 s9) fun y2=>
 cnd y2
 (bind (ixa 5 s8 s10) fun y3=>
 bind (ldA 5 y3) fun y4=>
 bind (alc 1 (.agg #[.string ⟨#[]⟩,.string ⟨#[]⟩,.string ⟨#[]⟩,.bool false,.slice none 0 0])) fun y5=>
 bind (stA 5 y5 y4) fun _=>
 bind (fa 0 y5) fun y6=>
 bind (ld1 y6) fun y7=>
 bind (bop .str .neq y7 s1) fun y8=>
 jn (cnd y8
 (bind (ldA 5 y5) fun y9=>
 bind (bsl 5 1 (.agg #[.string ⟨#[]⟩,.string ⟨#[]⟩,.string ⟨#[]⟩,.bool false,.slice none 0 0]) [(0,5,y9)]) fun y10=>
 bind (app 5 80 s5 y10) fun y11=>
 ret (.nrm [s1,y11,s8,s9,s10]))
 (ret (.nrm [s1,s5,s8,s9,s10]))) (c5 fun q12_0 q12_1 q12_2 q12_3 q12_4=>
 bind (bop .int .add q12_4 (Value.int .i64 1)) fun y13=>
 ret (.nrm [q12_0,q12_1,q12_2,q12_3,y13])) noX ZP)
 (ret (.ext 0 [s5]))
noncomputable def Kw (Γ : Zd) (x0 x1 : Value) : M Value:=
 bind (ZF x0) fun y1=>
 jn (Zi (c5 (Kw.l1 Γ)) [x1,(Value.slice none 0 0),x0,y1,(Value.int .i64 0)]) noN (xk 0 (c1 fun q16_0=>
 ret q16_0) noX) ret
theorem Zqf (Γ : Zd) (x0 x1 : Value) : ZG Tryz.prog Γ Tryz.f83 ZiI [x0,x1]=Kw Γ x0 x1:=by kernel_rfl
theorem Zos {prim : FuncId→Option (List Value→M Value)} (hp : prim ZaQ=none) (n : Nat) (x0 x1 : Value) : run Tryz.prog prim lvs (n+1) ZaQ [x0,x1]=Kw (run Tryz.prog prim lvs n) x0 x1:=
 (Zr hp (by kernel_rfl) Tryz.func83 (by kernel_rfl)).trans (Zqf _ x0 x1)
noncomputable def ZaV (Γ : Zd) (x0 x1 : Value) : M Value:=
 bind (alc 1 x0) fun y1=>
 bind (alc 1 (.agg #[.slice none 0 0,.slice none 0 0])) fun y2=>
 bind (Γ Qq [x1]) fun y3=>
 bind (uop .not y3) fun y4=>
 cnd y4
 (bind (ldA 2 y1) fun y5=>
 bind (stA 2 y2 y5) fun _=>
 bind (ldA 2 y2) fun y6=>
 ret (Value.tuple #[y6,(Value.int .i64 10)]))
 (bind (fa 0 y1) fun y7=>
 bind (ld1 y7) fun y8=>
 bind (Γ Ww [y8,x1]) fun y9=>
 cnd y9
 (bind (ldA 2 y1) fun y10=>
 bind (stA 2 y2 y10) fun _=>
 bind (ldA 2 y2) fun y11=>
 ret (Value.tuple #[y11,(Value.int .i64 9)]))
 (bind (fa 0 y1) fun y12=>
 bind (ld1 y12) fun y13=>
 bind (ZF y13) fun y14=>
 bind (bop .int .geq y14 (Value.int .i64 6)) fun y15=>
 cnd y15
 (bind (ldA 2 y1) fun y16=>
 bind (stA 2 y2 y16) fun _=>
 bind (ldA 2 y2) fun y17=>
 ret (Value.tuple #[y17,(Value.int .i64 7)]))
 (bind (bsl 1 0 (.string ⟨#[]⟩) []) fun y18=>
 bind (fa 0 y1) fun y19=>
 bind (ld1 y19) fun y20=>
 bind (app 1 16 y18 y20) fun y21=>
 bind (bsl 1 1 (.string ⟨#[]⟩) [(0,1,x1)]) fun y22=>
 bind (app 1 16 y21 y22) fun y23=>
 bind (Γ Wo [y23]) fun y24=>
 bind (fa 0 y1) fun y25=>
 bind (st1 y25 y24) fun _=>
 bind (ldA 2 y1) fun y26=>
 bind (stA 2 y2 y26) fun _=>
 bind (ldA 2 y2) fun y27=>
 ret (Value.tuple #[y27,(Value.int .i64 0)]))))
theorem Zpc (Γ : Zd) (x0 x1 : Value) : ZG Tryz.prog Γ Tryz.f84 ZiL [x0,x1]=ZaV Γ x0 x1:=by kernel_rfl
theorem Zoz {prim : FuncId→Option (List Value→M Value)} (hp : prim ZcP=none) (n : Nat) (x0 x1 : Value) : run Tryz.prog prim lvs (n+1) ZcP [x0,x1]=ZaV (run Tryz.prog prim lvs n) x0 x1:=
 (Zr hp (by kernel_rfl) Tryz.func84 (by kernel_rfl)).trans (Zpc _ x0 x1)
noncomputable def Jb.l1 (Γ : Zd) (s1 s2 s4 s6 s23 s24 s25 : Value) : M Out:=
 bind (bop .int .lss s25 s24) fun y16=>
 cnd y16
 (bind (ixa 1 s23 s25) fun y17=>
 bind (ld1 y17) fun y18=>
 bind (bop .str .neq y18 s1) fun y19=>
 jn (cnd y19
 (bind (bsl 1 1 (.string ⟨#[]⟩) [(0,1,y18)]) fun y20=>
 bind (app 1 16 s6 y20) fun y21=>
 ret (.nrm [s1,s2,s4,y21,s23,s24,s25]))
 (ret (.nrm [s1,s2,s4,s6,s23,s24,s25]))) (c7 fun q22_0 q22_1 q22_2 q22_3 q22_4 q22_5 q22_6=>
 bind (bop .int .add q22_6 (Value.int .i64 1)) fun y23=>
 ret (.nrm [q22_0,q22_1,q22_2,q22_3,q22_4,q22_5,y23])) noX ZP)
 (ret (.ext 0 [s1,s2,s4,s6]))
noncomputable def Jb.l2 (Γ : Zd) (s1 s4 s6 s9 s38 s39 s40 : Value) : M Out:=
 bind (bop .int .lss s40 s39) fun y30=>
 cnd y30
 (bind (ixa 2 s38 s40) fun y31=>
 bind (ldA 2 y31) fun y32=>
 bind (alc 1 (.agg #[.string ⟨#[]⟩,.string ⟨#[]⟩])) fun y33=>
 bind (stA 2 y33 y32) fun _=>
 bind (fa 0 y33) fun y34=>
 bind (ld1 y34) fun y35=>
 bind (bop .str .neq y35 s1) fun y36=>
 jn (cnd y36
 (bind (ldA 2 y33) fun y37=>
 bind (bsl 2 1 (.agg #[.string ⟨#[]⟩,.string ⟨#[]⟩]) [(0,2,y37)]) fun y38=>
 bind (app 2 32 s9 y38) fun y39=>
 ret (.nrm [s1,s4,s6,y39,s38,s39,s40]))
 (ret (.nrm [s1,s4,s6,s9,s38,s39,s40]))) (c7 fun q40_0 q40_1 q40_2 q40_3 q40_4 q40_5 q40_6=>
 bind (bop .int .add q40_6 (Value.int .i64 1)) fun y41=>
 ret (.nrm [q40_0,q40_1,q40_2,q40_3,q40_4,q40_5,y41])) noX ZP)
 (ret (.ext 2 [s4,s6,s9]))
noncomputable def Jb (Γ : Zd) (x0 x1 : Value) : M Value:=
 bind (alc 1 x0) fun y1=>
 bind (alc 1 (.agg #[.slice none 0 0,.slice none 0 0])) fun y2=>
 bind (Γ Qq [x1]) fun y3=>
 bind (uop .not y3) fun y4=>
 cnd y4
 (bind (ldA 2 y1) fun y5=>
 bind (stA 2 y2 y5) fun _=>
 bind (ldA 2 y2) fun y6=>
 ret (Value.tuple #[y6,(Value.int .i64 10)]))
 (bind (fa 0 y1) fun y7=>
 bind (ld1 y7) fun y8=>
 bind (Γ Ww [y8,x1]) fun y9=>
 bind (uop .not y9) fun y10=>
 cnd y10
 (bind (ldA 2 y1) fun y11=>
 bind (stA 2 y2 y11) fun _=>
 bind (ldA 2 y2) fun y12=>
 ret (Value.tuple #[y12,(Value.int .i64 8)]))
 (bind (fa 0 y1) fun y13=>
 bind (ld1 y13) fun y14=>
 bind (ZF y14) fun y15=>
 jn (Zi (c7 (Jb.l1 Γ)) [x1,y1,y2,(Value.slice none 0 0),y14,y15,(Value.int .i64 0)]) noN (xk 0 (c4 fun q26_0 q26_1 q26_2 q26_3=>
 bind (fa 1 q26_1) fun y27=>
 bind (ld1 y27) fun y28=>
 bind (ZF y28) fun y29=>
 jn (Zi (c7 (Jb.l2 Γ)) [q26_0,q26_2,q26_3,(Value.slice none 0 0),y28,y29,(Value.int .i64 0)]) noN (xk 2 (c3 fun q44_0 q44_1 q44_2=>
 bind (bld (.agg #[.slice none 0 0,.slice none 0 0]) [(0,1,q44_1),(1,1,q44_2)]) fun y45=>
 bind (stA 2 q44_0 y45) fun _=>
 bind (ldA 2 q44_0) fun y46=>
 ret (Value.tuple #[y46,(Value.int .i64 0)])) noX) ret) noX) ret))
theorem Zqp (Γ : Zd) (x0 x1 : Value) : ZG Tryz.prog Γ Tryz.f85 Zjp [x0,x1]=Jb Γ x0 x1:=by kernel_rfl
theorem Zoj {prim : FuncId→Option (List Value→M Value)} (hp : prim ZcL=none) (n : Nat) (x0 x1 : Value) : run Tryz.prog prim lvs (n+1) ZcL [x0,x1]=Jb (run Tryz.prog prim lvs n) x0 x1:=
 (Zr hp (by kernel_rfl) Tryz.func85 (by kernel_rfl)).trans (Zqp _ x0 x1)
noncomputable def Yt.l1 (Γ : Zd) (s1 s5 s8 s9 s10 : Value) : M Out:=
 bind (bop .int .lss s10 s9) fun y2=>
 cnd y2
 (bind (ixa 1 s8 s10) fun y3=>
 bind (ld1 y3) fun y4=>
 bind (bop .str .neq y4 s1) fun y5=>
 jn (cnd y5
 (bind (bsl 1 1 (.string ⟨#[]⟩) [(0,1,y4)]) fun y6=>
 bind (app 1 16 s5 y6) fun y7=>
 ret (.nrm [s1,y7,s8,s9,s10]))
 (ret (.nrm [s1,s5,s8,s9,s10]))) (c5 fun q8_0 q8_1 q8_2 q8_3 q8_4=>
 bind (bop .int .add q8_4 (Value.int .i64 1)) fun y9=>
 ret (.nrm [q8_0,q8_1,q8_2,q8_3,y9])) noX ZP)
 (ret (.ext 0 [s5]))
noncomputable def Yt (Γ : Zd) (x0 x1 : Value) : M Value:=
 bind (ZF x0) fun y1=>
 jn (Zi (c5 (Yt.l1 Γ)) [x1,(Value.slice none 0 0),x0,y1,(Value.int .i64 0)]) noN (xk 0 (c1 fun q12_0=>
 ret q12_0) noX) ret
theorem Zl3 (Γ : Zd) (x0 x1 : Value) : ZG Tryz.prog Γ Tryz.f86 Zga [x0,x1]=Yt Γ x0 x1:=by kernel_rfl
theorem ZkT {prim : FuncId→Option (List Value→M Value)} (hp : prim WT=none) (n : Nat) (x0 x1 : Value) : run Tryz.prog prim lvs (n+1) WT [x0,x1]=Yt (run Tryz.prog prim lvs n) x0 x1:=
 (Zr hp (by kernel_rfl) Tryz.func86 (by kernel_rfl)).trans (Zl3 _ x0 x1)
noncomputable def Wu (Γ : Zd) (x0 x1 : Value) : M Value:=
 bind (Γ JO [x0,x1,(Value.slice none 0 0)]) fun y1=>
 bind (Zh y1 0) fun y2=>
 bind (Zh y1 1) fun y3=>
 bind (bop .int .eql y3 (Value.int .i64 0)) fun y4=>
 jn (cnd y4
 (bind (QP x0) fun y5=>
 bind (fa 0 y5) fun y6=>
 bind (ld1 y6) fun y7=>
 bind (mde .str y7 x1) fun _=>
 ret (.nrm [y3]))
 (ret (.nrm [y3]))) (c1 fun q8_0=>
 ret q8_0) noX ret
theorem Zi2 (Γ : Zd) (x0 x1 : Value) : ZG Tryz.prog Γ Tryz.f87 ZeG [x0,x1]=Wu Γ x0 x1:=by kernel_rfl
theorem Zio {prim : FuncId→Option (List Value→M Value)} (hp : prim KO=none) (n : Nat) (x0 x1 : Value) : run Tryz.prog prim lvs (n+1) KO [x0,x1]=Wu (run Tryz.prog prim lvs n) x0 x1:=
 (Zr hp (by kernel_rfl) Tryz.func87 (by kernel_rfl)).trans (Zi2 _ x0 x1)
noncomputable def ZeU (Γ : Zd) (x0 x1 x2 : Value) : M Value:=
 bind (alc 1 x0) fun y1=>
 bind (alc 1 (.agg #[.string ⟨#[]⟩,.string ⟨#[]⟩,.string ⟨#[]⟩,.bool false,.slice none 0 0])) fun y2=>
 bind (ldA 2 y1) fun y3=>
 bind (Γ JN [y3,x2]) fun y4=>
 bind (Zh y4 0) fun y5=>
 bind (Zh y4 1) fun y6=>
 bind (alc 1 (.agg #[.string ⟨#[]⟩,.string ⟨#[]⟩,.string ⟨#[]⟩,.bool false,.slice none 0 0])) fun y7=>
 bind (stA 5 y7 y5) fun _=>
 bind (bop .int .eql y6 (Value.int .i64 10)) fun y8=>
 bind (ZA y8 false 3 (bind (Γ Qq [x1]) fun y9=>
 bind (uop .not y9) fun y10=>
 ret [x1,y9,y10])) (c3 fun _ _ q11_2=>
 bind (pick y8 (Value.bool true) q11_2) fun y12=>
 cnd y12
 (bind (ldA 5 y7) fun y13=>
 bind (stA 5 y2 y13) fun _=>
 bind (ldA 5 y2) fun y14=>
 ret (Value.tuple #[y14,(Value.int .i64 10)]))
 (bind (bop .int .neq y6 (Value.int .i64 0)) fun y15=>
 bind (ZA y15 false 5 (bind (fa 1 y1) fun y16=>
 bind (ld1 y16) fun y17=>
 bind (Γ Yi [y17,x1]) fun y18=>
 bind (uop .not y18) fun y19=>
 ret [y16,y17,x1,y18,y19])) (c5 fun _ _ _ _ q20_4=>
 bind (pick y15 (Value.bool true) q20_4) fun y21=>
 cnd y21
 (bind (ldA 5 y7) fun y22=>
 bind (stA 5 y2 y22) fun _=>
 bind (ldA 5 y2) fun y23=>
 ret (Value.tuple #[y23,(Value.int .i64 8)]))
 (bind (ldA 5 y7) fun y24=>
 bind (stA 5 y2 y24) fun _=>
 bind (ldA 5 y2) fun y25=>
 ret (Value.tuple #[y25,(Value.int .i64 0)])))))
theorem Zns (Γ : Zd) (x0 x1 x2 : Value) : ZG Tryz.prog Γ Tryz.f88 Zg5 [x0,x1,x2]=ZeU Γ x0 x1 x2:=by kernel_rfl
theorem ZmG {prim : FuncId→Option (List Value→M Value)} (hp : prim Zau=none) (n : Nat) (x0 x1 x2 : Value) : run Tryz.prog prim lvs (n+1) Zau [x0,x1,x2]=ZeU (run Tryz.prog prim lvs n) x0 x1 x2:=
 (Zr hp (by kernel_rfl) Tryz.func88 (by kernel_rfl)).trans (Zns _ x0 x1 x2)
noncomputable def Jc.l2 (Γ : Zd) (s5 s6 s7 s10 s11 s12 s19 s20 s21 : Value) : M Out:=
 bind (bop .int .lss s21 s20) fun y7=>
 cnd y7
 (bind (ixa 1 s19 s21) fun y8=>
 bind (ld1 y8) fun y9=>
 bind (uop .not s7) fun y10=>
 bind (ZA y10 true 3 (bind (bop .str .lss s5 y9) fun y11=>
 ret [s5,y9,y11])) (c3 fun _ _ q12_2=>
 bind (pick y10 q12_2 (Value.bool false)) fun y13=>
 jn (cnd y13
 (bind (bsl 1 1 (.string ⟨#[]⟩) [(0,1,s5)]) fun y14=>
 bind (app 1 16 s6 y14) fun y15=>
 ret (.nrm [s5,y15,(Value.bool true),y9,s10,s11,s12,s19,s20,s21]))
 (ret (.nrm [s5,s6,s7,y9,s10,s11,s12,s19,s20,s21]))) (c10 fun q16_0 q16_1 q16_2 q16_3 q16_4 q16_5 q16_6 q16_7 q16_8 q16_9=>
 bind (bsl 1 1 (.string ⟨#[]⟩) [(0,1,q16_3)]) fun y17=>
 bind (app 1 16 q16_1 y17) fun y18=>
 bind (bop .int .add q16_9 (Value.int .i64 1)) fun y19=>
 ret (.nrm [q16_0,y18,q16_2,q16_4,q16_5,q16_6,q16_7,q16_8,y19])) noX ZP))
 (ret (.ext 2 [s5,s6,s7,s10,s11,s12]))
noncomputable def Jc.l1 (Γ : Zd) (s3 s10 s11 s12 : Value) : M Out:=
 bind (bop .int .lss s12 s11) fun y2=>
 cnd y2
 (jn (bind (ixa 1 s10 s12) fun y3=>
 bind (ld1 y3) fun y4=>
 bind (Γ Ww [s3,y4]) fun y5=>
 cnd y5
 (ret (.nrm [s3,s10,s11,s12]))
 (bind (ZF s3) fun y6=>
 jn (Zi (c9 (Jc.l2 Γ)) [y4,(Value.slice none 0 0),(Value.bool false),s10,s11,s12,s3,y6,(Value.int .i64 0)]) noN (xk 2 (c6 fun q22_0 q22_1 q22_2 q22_3 q22_4 q22_5=>
 bind (uop .not q22_2) fun y23=>
 jn (cnd y23
 (bind (bsl 1 1 (.string ⟨#[]⟩) [(0,1,q22_0)]) fun y24=>
 bind (app 1 16 q22_1 y24) fun y25=>
 ret (.nrm [y25,q22_3,q22_4,q22_5]))
 (ret (.nrm [q22_1,q22_3,q22_4,q22_5]))) (c4 fun q26_0 q26_1 q26_2 q26_3=>
 ret (.nrm [q26_0,q26_1,q26_2,q26_3])) noX ZP) noX) ZP)) (c4 fun q29_0 q29_1 q29_2 q29_3=>
 bind (bop .int .add q29_3 (Value.int .i64 1)) fun y30=>
 ret (.nrm [q29_0,q29_1,q29_2,y30])) noX ZP)
 (ret (.ext 0 [s3]))
noncomputable def Jc (Γ : Zd) (x0 : Value) : M Value:=
 bind (ZF x0) fun y1=>
 jn (Zi (c4 (Jc.l1 Γ)) [(Value.slice none 0 0),x0,y1,(Value.int .i64 0)]) noN (xk 0 (c1 fun q33_0=>
 ret q33_0) noX) ret
theorem Zny (Γ : Zd) (x0 : Value) : ZG Tryz.prog Γ Tryz.f89 Zg2 [x0]=Jc Γ x0:=by kernel_rfl
theorem Zmf {prim : FuncId→Option (List Value→M Value)} (hp : prim Wo=none) (n : Nat) (x0 : Value) : run Tryz.prog prim lvs (n+1) Wo [x0]=Jc (run Tryz.prog prim lvs n) x0:=
 (Zr hp (by kernel_rfl) Tryz.func89 (by kernel_rfl)).trans (Zny _ x0)
noncomputable def Zah (Γ : Zd) (x0 x1 x2 : Value) : M Value:=
 bind (Γ Yk [x1]) fun y1=>
 bind (bop .int .neq y1 (Value.int .i64 0)) fun y2=>
 cnd y2
 (ret y1)
 (bind (Γ Qv [x0,x2]) fun y3=>
 bind (Zh y3 0) fun y4=>
 bind (Zh y3 1) fun y5=>
 bind (alc 1 (.agg #[.string ⟨#[]⟩,.bool false])) fun y6=>
 bind (stA 2 y6 y4) fun _=>
 ret y5)
theorem Zj2 (Γ : Zd) (x0 x1 x2 : Value) : ZG Tryz.prog Γ Tryz.f90 Ze9 [x0,x1,x2]=Zah Γ x0 x1 x2:=by kernel_rfl
theorem ZiP {prim : FuncId→Option (List Value→M Value)} (hp : prim K8=none) (n : Nat) (x0 x1 x2 : Value) : run Tryz.prog prim lvs (n+1) K8 [x0,x1,x2]=Zah (run Tryz.prog prim lvs n) x0 x1 x2:=
 (Zr hp (by kernel_rfl) Tryz.func90 (by kernel_rfl)).trans (Zj2 _ x0 x1 x2)
noncomputable def Ks (Γ : Zd) (x0 x1 x2 : Value) : M Value:=
 bind (bsl 1 1 (.string ⟨#[]⟩) [(0,1,x2)]) fun y1=>
 bind (Γ JO [x0,x1,y1]) fun y2=>
 bind (Zh y2 0) fun y3=>
 bind (Zh y2 1) fun y4=>
 bind (bop .int .neq y4 (Value.int .i64 0)) fun y5=>
 cnd y5
 (ret y4)
 (bind (lkp .str (.agg #[]) true y3 x2) fun y6=>
 bind (Zh y6 0) fun y7=>
 bind (Zh y6 1) fun y8=>
 bind (alc 1 (.agg #[])) fun y9=>
 bind (stA 0 y9 y7) fun _=>
 bind (uop .not y8) fun y10=>
 cnd y10
 (ret (Value.int .i64 12))
 (bind (mde .str y3 x2) fun _=>
 ret (Value.int .i64 0)))
theorem Zim (Γ : Zd) (x0 x1 x2 : Value) : ZG Tryz.prog Γ Tryz.f91 Zd4 [x0,x1,x2]=Ks Γ x0 x1 x2:=by kernel_rfl
theorem Zhk {prim : FuncId→Option (List Value→M Value)} (hp : prim Ko=none) (n : Nat) (x0 x1 x2 : Value) : run Tryz.prog prim lvs (n+1) Ko [x0,x1,x2]=Ks (run Tryz.prog prim lvs n) x0 x1 x2:=
 (Zr hp (by kernel_rfl) Tryz.func91 (by kernel_rfl)).trans (Zim _ x0 x1 x2)
noncomputable def ZdQ (Γ : Zd) (x0 : Value) : M Value:=
 bind (QP x0) fun y1=>
 bind (fa 0 y1) fun y2=>
 bind (ld1 y2) fun y3=>
 bind (QP x0) fun y4=>
 bind (fa 1 y4) fun y5=>
 bind (ld1 y5) fun y6=>
 bind (Γ Qp [y3]) fun y7=>
 bind (ld1 y5) fun u_8=>same u_8 y6 <|
 bind (Γ Qp [y6]) fun y9=>
 bind (bld (.agg #[.map none,.map none]) [(0,1,y7),(1,1,y9)]) fun y10=>
 bind (alc 1 y10) fun y11=>
 ret y11
theorem Zk4 (Γ : Zd) (x0 : Value) : ZG Tryz.prog Γ Tryz.f93 ZfT [x0]=ZdQ Γ x0:=by kernel_rfl
theorem Zj0 {prim : FuncId→Option (List Value→M Value)} (hp : prim ZaE=none) (n : Nat) (x0 : Value) : run Tryz.prog prim lvs (n+1) ZaE [x0]=ZdQ (run Tryz.prog prim lvs n) x0:=
 (Zr hp (by kernel_rfl) Tryz.func93 (by kernel_rfl)).trans (Zk4 _ x0)
noncomputable def Jt (Γ : Zd) (x0 : Value) : M Value:=
 bind (alc 1 x0) fun y1=>
 ret (Value.func (.func 129) #[] #[y1])
theorem Wx (Γ : Zd) (x0 : Value) : ZG Tryz.prog Γ Tryz.f96 YE [x0]=Jt Γ x0:=by kernel_rfl
theorem Ws {prim : FuncId→Option (List Value→M Value)} (hp : prim QD=none) (n : Nat) (x0 : Value) : run Tryz.prog prim lvs (n+1) QD [x0]=Jt (run Tryz.prog prim lvs n) x0:=
 (Zr hp (by kernel_rfl) Tryz.func96 (by kernel_rfl)).trans (Wx _ x0)
noncomputable def Zhm (Γ : Zd) (x0 : Value) : M Value:=
 bind (Γ Zab [x0]) fun y1=>
 bind (uop .not y1) fun y2=>
 cnd y2
 (ret (Value.int .i64 10))
 (ret (Value.int .i64 0))
theorem ZqL (Γ : Zd) (x0 : Value) : ZG Tryz.prog Γ Tryz.f98 ZkA [x0]=Zhm Γ x0:=by kernel_rfl
theorem Zpq {prim : FuncId→Option (List Value→M Value)} (hp : prim Yk=none) (n : Nat) (x0 : Value) : run Tryz.prog prim lvs (n+1) Yk [x0]=Zhm (run Tryz.prog prim lvs n) x0:=
 (Zr hp (by kernel_rfl) Tryz.func98 (by kernel_rfl)).trans (ZqL _ x0)
noncomputable def Zc2 (Γ : Zd) (x0 : Value) : M Value:=
 bind (QP x0) fun y1=>
 bind (fa 0 y1) fun y2=>
 bind (ld1 y2) fun y3=>
 bind (Γ Wl [y3]) fun y4=>
 ret y4
theorem Zj8 (Γ : Zd) (x0 : Value) : ZG Tryz.prog Γ Tryz.f99 Ze5 [x0]=Zc2 Γ x0:=by kernel_rfl
theorem Zjm {prim : FuncId→Option (List Value→M Value)} (hp : prim W9=none) (n : Nat) (x0 : Value) : run Tryz.prog prim lvs (n+1) W9 [x0]=Zc2 (run Tryz.prog prim lvs n) x0:=
 (Zr hp (by kernel_rfl) Tryz.func99 (by kernel_rfl)).trans (Zj8 _ x0)
noncomputable def Zc4 (Γ : Zd) (x0 x1 x2 : Value) : M Value:=
 bind (ld1 x1) fun y1=>
 bind (QP y1) fun y2=>
 bind (fa 0 y2) fun y3=>
 bind (ld1 y3) fun y4=>
 bind (lkp .str (.map none) false y4 x0) fun y5=>
 bind (ld1 x2) fun y6=>
 bind (lkp .str (.agg #[]) true y5 y6) fun y7=>
 bind (Zh y7 0) fun y8=>
 bind (Zh y7 1) fun y9=>
 bind (alc 1 (.agg #[])) fun y10=>
 bind (lkp .str (.agg #[]) true y5 y6) fun u_11=>same u_11 y7 <|
 bind (ld1 x2) fun u_12=>same u_12 y6 <|
 bind (lkp .str (.map none) false y4 x0) fun u_13=>same u_13 y5 <|
 bind (ld1 y3) fun u_14=>same u_14 y4 <|
 bind (ld1 x1) fun u_15=>same u_15 y1 <|
 bind (stA 0 y10 y8) fun _=>
 bind (uop .not y9) fun y16=>
 ret y16
theorem Zj9 (Γ : Zd) (x0 x1 x2 : Value) : ZG Tryz.prog Γ Tryz.f100 Ze6 [x0,x1,x2]=Zc4 Γ x0 x1 x2:=by kernel_rfl
theorem ZiM {prim : FuncId→Option (List Value→M Value)} (hp : prim Km=none) (n : Nat) (x0 x1 x2 : Value) : run Tryz.prog prim lvs (n+1) Km [x0,x1,x2]=Zc4 (run Tryz.prog prim lvs n) x0 x1 x2:=
 (Zr hp (by kernel_rfl) Tryz.func100 (by kernel_rfl)).trans (Zj9 _ x0 x1 x2)
noncomputable def ZbO (Γ : Zd) (x0 : Value) : M Value:=
 bind (Γ Ke [x0]) fun y1=>
 bind (ZA y1 false 3 (bind (bop .int .geq x0 (Value.int .u8 97)) fun y2=>
 ret [x0,y2,y2])) (c3 fun _ _ q3_2=>
 bind (ZA q3_2 true 2 (bind (bop .int .leq x0 (Value.int .u8 102)) fun y4=>
 ret [x0,y4])) (c2 fun _ q5_1=>
 bind (ZA y1 false 1 (bind (pick q3_2 q5_1 (Value.bool false)) fun y6=>
 ret [y6])) (c1 fun q7_0=>
 bind (pick y1 (Value.bool true) q7_0) fun y8=>
 ret y8)))
theorem Zp8 (Γ : Zd) (x0 : Value) : ZG Tryz.prog Γ Tryz.f101 Zjs [x0]=ZbO Γ x0:=by kernel_rfl
theorem Zov {prim : FuncId→Option (List Value→M Value)} (hp : prim ZcQ=none) (n : Nat) (x0 : Value) : run Tryz.prog prim lvs (n+1) ZcQ [x0]=ZbO (run Tryz.prog prim lvs n) x0:=
 (Zr hp (by kernel_rfl) Tryz.func101 (by kernel_rfl)).trans (Zp8 _ x0)
noncomputable def ZcM (Γ : Zd) (x0 : Value) : M Value:=
 bind (bop .int .geq x0 (Value.int .u8 48)) fun y1=>
 bind (ZA y1 true 2 (bind (bop .int .leq x0 (Value.int .u8 57)) fun y2=>
 ret [x0,y2])) (c2 fun _ q3_1=>
 bind (pick y1 q3_1 (Value.bool false)) fun y4=>
 ret y4)
theorem Zo9 (Γ : Zd) (x0 : Value) : ZG Tryz.prog Γ Tryz.f102 ZjL [x0]=ZcM Γ x0:=by kernel_rfl
theorem ZoG {prim : FuncId→Option (List Value→M Value)} (hp : prim Ke=none) (n : Nat) (x0 : Value) : run Tryz.prog prim lvs (n+1) Ke [x0]=ZcM (run Tryz.prog prim lvs n) x0:=
 (Zr hp (by kernel_rfl) Tryz.func102 (by kernel_rfl)).trans (Zo9 _ x0)
noncomputable def WK.l1 (Γ : Zd) (s0 s1 s7 s8 : Value) : M Out:=
 bind (bop .int .lss s8 s7) fun y2=>
 cnd y2
 (bind (ixs s0 s8) fun y3=>
 bind (Jf Γ s1 [y3]) fun y4=>
 bind (uop .not y4) fun y5=>
 cnd y5
 (ret (.ret (Value.bool false)))
 (bind (bop .int .add s8 (Value.int .i64 1)) fun y6=>
 ret (.nrm [s0,s1,s7,y6])))
 (ret (.ext 0 []))
noncomputable def WK (Γ : Zd) (x0 x1 : Value) : M Value:=
 bind (QE x0) fun y1=>
 jn (Zi (c4 (WK.l1 Γ)) [x0,x1,y1,(Value.int .i64 0)]) noN (xk 0 (c0 (ret (Value.bool true))) noX) ret
theorem Zss (Γ : Zd) (x0 x1 : Value) : ZG Tryz.prog Γ Tryz.f103 Zma [x0,x1]=WK Γ x0 x1:=by kernel_rfl
theorem Zqz {prim : FuncId→Option (List Value→M Value)} (hp : prim Y8=none) (n : Nat) (x0 x1 : Value) : run Tryz.prog prim lvs (n+1) Y8 [x0,x1]=WK (run Tryz.prog prim lvs n) x0 x1:=
 (Zr hp (by kernel_rfl) Tryz.func103 (by kernel_rfl)).trans (Zss _ x0 x1)
noncomputable def ZkN.l1 (Γ : Zd) (s0 s1 s5 : Value) : M Out:=
 bind (ZF s0) fun y1=>
 bind (bop .int .lss s5 y1) fun y2=>
 cnd y2
 (bind (bop .int .sub s5 (Value.int .i64 1)) fun y3=>
 bind (ixa 1 s0 y3) fun y4=>
 bind (ld1 y4) fun y5=>
 bind (ixa 1 s0 s5) fun y6=>
 bind (ld1 y6) fun y7=>
 bind (Γ Yo [y5,y7]) fun y8=>
 bind (bop .int .geq y8 (Value.int .i64 0)) fun y9=>
 cnd y9
 (ret (.ret (Value.int .i64 9)))
 (bind (bop .int .add s5 (Value.int .i64 1)) fun y10=>
 ret (.nrm [s0,s1,y10])))
 (ret (.ext 0 [s0,s1]))
noncomputable def ZkN (Γ : Zd) (x0 x1 : Value) : M Value:=
 jn (Zi (c3 (ZkN.l1 Γ)) [x0,x1,(Value.int .i64 1)]) noN (xk 0 (c2 fun q12_0 q12_1=>
 bind (ZF q12_0) fun y13=>
 bind (bop .int .gtr y13 q12_1) fun y14=>
 cnd y14
 (ret (Value.int .i64 7))
 (ret (Value.int .i64 0))) noX) ret
noncomputable def ZcE (Γ : Zd) (x0 x1 x2 : Value) : M Value:=
 bind (bsl 1 1 (.string ⟨#[]⟩) [(0,1,x1)]) fun y1=>
 bind (app 1 16 y1 x2) fun y2=>
 bind (Γ Zad [y2]) fun y3=>
 bind (bop .int .neq y3 (Value.int .i64 0)) fun y4=>
 cnd y4
 (ret (Value.tuple #[(Value.map none),y3]))
 (bind (QP x0) fun y5=>
 bind (fa 0 y5) fun y6=>
 bind (ld1 y6) fun y7=>
 bind (lkp .str (.map none) true y7 x1) fun y8=>
 bind (Zh y8 0) fun y9=>
 bind (Zh y8 1) fun y10=>
 bind (uop .not y10) fun y11=>
 cnd y11
 (ret (Value.tuple #[(Value.map none),(Value.int .i64 8)]))
 (ret (Value.tuple #[y9,(Value.int .i64 0)])))
theorem Zjd (Γ : Zd) (x0 x1 x2 : Value) : ZG Tryz.prog Γ Tryz.f106 ZeM [x0,x1,x2]=ZcE Γ x0 x1 x2:=by kernel_rfl
theorem Zin {prim : FuncId→Option (List Value→M Value)} (hp : prim JO=none) (n : Nat) (x0 x1 x2 : Value) : run Tryz.prog prim lvs (n+1) JO [x0,x1,x2]=ZcE (run Tryz.prog prim lvs n) x0 x1 x2:=
 (Zr hp (by kernel_rfl) Tryz.func106 (by kernel_rfl)).trans (Zjd _ x0 x1 x2)
noncomputable def Zdu.l1 (Γ : Zd) (s3 s62 s63 s64 : Value) : M Out:=
 bind (bop .int .lss s64 s63) fun y50=>
 cnd y50
 (bind (ixa 1 s62 s64) fun y51=>
 bind (ld1 y51) fun y52=>
 bind (Γ Qq [y52]) fun y53=>
 bind (uop .not y53) fun y54=>
 cnd y54
 (ret (.ret (Value.int .i64 10)))
 (bind (bop .int .add s64 (Value.int .i64 1)) fun y55=>
 ret (.nrm [s3,s62,s63,y55])))
 (ret (.ext 0 [s3]))
noncomputable def Zdu.l2 (Γ : Zd) (s3 s73 s74 s75 : Value) : M Out:=
 bind (bop .int .lss s75 s74) fun y61=>
 cnd y61
 (bind (ixa 1 s73 s75) fun y62=>
 bind (ld1 y62) fun y63=>
 bind (bop .int .gtr s75 (Value.int .i64 0)) fun y64=>
 bind (ZA y64 true 8 (bind (fa 4 s3) fun y65=>
 bind (ld1 y65) fun y66=>
 bind (bop .int .sub s75 (Value.int .i64 1)) fun y67=>
 bind (ixa 1 y66 y67) fun y68=>
 bind (ld1 y68) fun y69=>
 bind (bop .str .leq y63 y69) fun y70=>
 ret [y63,y65,y66,s75,y67,y68,y69,y70])) (c8 fun _ _ _ _ _ _ _ q71_7=>
 bind (pick y64 q71_7 (Value.bool false)) fun y72=>
 cnd y72
 (ret (.ret (Value.int .i64 9)))
 (bind (bop .int .add s75 (Value.int .i64 1)) fun y73=>
 ret (.nrm [s3,s73,s74,y73]))))
 (ret (.ext 2 []))
noncomputable def Zdu (Γ : Zd) (x0 x1 : Value) : M Value:=
 bind (alc 1 x1) fun y1=>
 bind (bop .int .lss x0 (Value.int .i64 1)) fun y2=>
 bind (ZA y2 false 2 (bind (bop .int .gtr x0 (Value.int .i64 2)) fun y3=>
 ret [x0,y3])) (c2 fun _ q4_1=>
 bind (pick y2 (Value.bool true) q4_1) fun y5=>
 cnd y5
 (ret (Value.int .i64 6))
 (bind (fa 0 y1) fun y6=>
 bind (ld1 y6) fun y7=>
 bind (Γ Qq [y7]) fun y8=>
 bind (uop .not y8) fun y9=>
 cnd y9
 (ret (Value.int .i64 10))
 (bind (fa 1 y1) fun y10=>
 bind (ld1 y10) fun y11=>
 bind (Γ WI [y11]) fun y12=>
 bind (uop .not y12) fun y13=>
 cnd y13
 (ret (Value.int .i64 4))
 (bind (bop .int .eql x0 (Value.int .i64 1)) fun y14=>
 cnd y14
 (bind (fa 2 y1) fun y15=>
 bind (ld1 y15) fun y16=>
 bind (bop .str .neq y16 (Value.string ⟨#[]⟩)) fun y17=>
 bind (ZA y17 false 2 (bind (fa 3 y1) fun y18=>
 bind (ld1 y18) fun y19=>
 ret [y18,y19])) (c2 fun _ q20_1=>
 bind (pick y17 (Value.bool true) q20_1) fun y21=>
 bind (ZA y21 false 4 (bind (fa 4 y1) fun y22=>
 bind (ld1 y22) fun y23=>
 bind (ZF y23) fun y24=>
 bind (bop .int .gtr y24 (Value.int .i64 0)) fun y25=>
 ret [y22,y23,y24,y25])) (c4 fun _ _ _ q26_3=>
 bind (pick y21 (Value.bool true) q26_3) fun y27=>
 cnd y27
 (ret (Value.int .i64 12))
 (ret (Value.int .i64 0)))))
 (bind (fa 2 y1) fun y28=>
 bind (ld1 y28) fun y29=>
 bind (bop .str .neq y29 (Value.string ⟨#[]⟩)) fun y30=>
 jn (cnd y30
 (bind (fa 2 y1) fun y31=>
 bind (ld1 y31) fun y32=>
 bind (Γ Kv [y32]) fun y33=>
 bind (Zh y33 0) fun y34=>
 bind (Zh y33 1) fun y35=>
 bind (uop .not y35) fun y36=>
 bind (ZA y36 false 4 (bind (fa 2 y1) fun y37=>
 bind (ld1 y37) fun y38=>
 bind (bop .str .neq y34 y38) fun y39=>
 ret [y34,y37,y38,y39])) (c4 fun _ _ _ q40_3=>
 bind (pick y36 (Value.bool true) q40_3) fun y41=>
 cnd y41
 (ret (.ret (Value.int .i64 11)))
 (ret (.nrm [y1]))))
 (ret (.nrm [y1]))) (c1 fun q42_0=>
 bind (fa 4 q42_0) fun y43=>
 bind (ld1 y43) fun y44=>
 bind (ZF y44) fun y45=>
 bind (bop .int .gtr y45 (Value.int .i64 6)) fun y46=>
 cnd y46
 (ret (Value.int .i64 7))
 (bind (fa 4 q42_0) fun y47=>
 bind (ld1 y47) fun y48=>
 bind (ZF y48) fun y49=>
 jn (Zi (c4 (Zdu.l1 Γ)) [q42_0,y48,y49,(Value.int .i64 0)]) noN (xk 0 (c1 fun q57_0=>
 bind (fa 4 q57_0) fun y58=>
 bind (ld1 y58) fun y59=>
 bind (ZF y59) fun y60=>
 jn (Zi (c4 (Zdu.l2 Γ)) [q57_0,y59,y60,(Value.int .i64 0)]) noN (xk 2 (c0 (ret (Value.int .i64 0))) noX) ret) noX) ret)) noX ret)))))
noncomputable def WJ.l1 (Γ : Zd) (s0 s1 s5 : Value) : M Out:=
 bind (QE s0) fun y1=>
 bind (bop .int .lss s5 y1) fun y2=>
 cnd y2
 (bind (ixs s0 s5) fun y3=>
 bind (Γ WL [y3,s1]) fun y4=>
 bind (uop .not y4) fun y5=>
 cnd y5
 (ret (.ret (Value.bool false)))
 (bind (bop .int .add s5 (Value.int .i64 1)) fun y6=>
 ret (.nrm [s0,s1,y6])))
 (ret (.ext 0 []))
noncomputable def WJ (Γ : Zd) (x0 x1 : Value) : M Value:=
 jn (Zi (c3 (WJ.l1 Γ)) [x0,x1,(Value.int .i64 0)]) noN (xk 0 (c0 (ret (Value.bool true))) noX) ret
theorem Zsc (Γ : Zd) (x0 x1 : Value) : ZG Tryz.prog Γ Tryz.f108 ZlJ [x0,x1]=WJ Γ x0 x1:=by kernel_rfl
theorem ZqG {prim : FuncId→Option (List Value→M Value)} (hp : prim ZaH=none) (n : Nat) (x0 x1 : Value) : run Tryz.prog prim lvs (n+1) ZaH [x0,x1]=WJ (run Tryz.prog prim lvs n) x0 x1:=
 (Zr hp (by kernel_rfl) Tryz.func108 (by kernel_rfl)).trans (Zsc _ x0 x1)
noncomputable def WM.l1 (Γ : Zd) (s0 s1 s5 : Value) : M Out:=
 bind (QE s1) fun y1=>
 bind (bop .int .lss s5 y1) fun y2=>
 cnd y2
 (bind (ixs s1 s5) fun y3=>
 bind (bop .int .eql y3 s0) fun y4=>
 cnd y4
 (ret (.ret (Value.bool true)))
 (bind (bop .int .add s5 (Value.int .i64 1)) fun y5=>
 ret (.nrm [s0,s1,y5])))
 (ret (.ext 0 []))
noncomputable def WM (Γ : Zd) (x0 x1 : Value) : M Value:=
 jn (Zi (c3 (WM.l1 Γ)) [x0,x1,(Value.int .i64 0)]) noN (xk 0 (c0 (ret (Value.bool false))) noX) ret
theorem Zr4 (Γ : Zd) (x0 x1 : Value) : ZG Tryz.prog Γ Tryz.f109 Zmd [x0,x1]=WM Γ x0 x1:=by kernel_rfl
theorem ZqX {prim : FuncId→Option (List Value→M Value)} (hp : prim WL=none) (n : Nat) (x0 x1 : Value) : run Tryz.prog prim lvs (n+1) WL [x0,x1]=WM (run Tryz.prog prim lvs n) x0 x1:=
 (Zr hp (by kernel_rfl) Tryz.func109 (by kernel_rfl)).trans (Zr4 _ x0 x1)
noncomputable def Ky.l1 (Γ : Zd) (s1 s7 s8 s9 : Value) : M Out:=
 bind (bop .int .lss s9 s8) fun y2=>
 cnd y2
 (bind (ixa 5 s7 s9) fun y3=>
 bind (ldA 5 y3) fun y4=>
 bind (alc 1 (.agg #[.string ⟨#[]⟩,.string ⟨#[]⟩,.string ⟨#[]⟩,.bool false,.slice none 0 0])) fun y5=>
 bind (stA 5 y5 y4) fun _=>
 bind (fa 0 y5) fun y6=>
 bind (ld1 y6) fun y7=>
 bind (bop .str .eql y7 s1) fun y8=>
 cnd y8
 (ret (.ret s9))
 (bind (bop .int .add s9 (Value.int .i64 1)) fun y9=>
 ret (.nrm [s1,s7,s8,y9])))
 (ret (.ext 0 []))
noncomputable def Ky (Γ : Zd) (x0 x1 : Value) : M Value:=
 bind (ZF x0) fun y1=>
 jn (Zi (c4 (Ky.l1 Γ)) [x1,x0,y1,(Value.int .i64 0)]) noN (xk 0 (c0 (ret (Value.int .i64 (-1)))) noX) ret
theorem ZpM (Γ : Zd) (x0 x1 : Value) : ZG Tryz.prog Γ Tryz.f110 ZiT [x0,x1]=Ky Γ x0 x1:=by kernel_rfl
theorem Zop {prim : FuncId→Option (List Value→M Value)} (hp : prim We=none) (n : Nat) (x0 x1 : Value) : run Tryz.prog prim lvs (n+1) We [x0,x1]=Ky (run Tryz.prog prim lvs n) x0 x1:=
 (Zr hp (by kernel_rfl) Tryz.func110 (by kernel_rfl)).trans (ZpM _ x0 x1)
noncomputable def JM.l2 (Γ : Zd) (s0 s3 s4 s5 s6 s19 : Value) : M Out:=
 bind (bop .int .lss s19 (Value.int .i64 26)) fun y5=>
 cnd y5
 (bind (ixs s0 s5) fun y6=>
 bind (ixs s3 s19) fun y7=>
 bind (bop .int .eql y6 y7) fun y8=>
 jn (cnd y8
 (bind (bop .int .add s19 (Value.int .i64 1)) fun y9=>
 bind (sls (Value.string ⟨#[97,98,99,100,101,102,103,104,105,106,107,108,109,110,111,112,113,114,115,116,117,118,119,120,121,122]⟩) (some s19) (some y9)) fun y10=>
 ret (.nrm [s0,s3,s4,s5,y10,s19]))
 (ret (.nrm [s0,s3,s4,s5,s6,s19]))) (c6 fun q11_0 q11_1 q11_2 q11_3 q11_4 q11_5=>
 bind (bop .int .add q11_5 (Value.int .i64 1)) fun y12=>
 ret (.nrm [q11_0,q11_1,q11_2,q11_3,q11_4,y12])) noX ZP)
 (ret (.ext 2 [s0,s3,s4,s5,s6]))
noncomputable def JM.l1 (Γ : Zd) (s0 s3 s4 s5 : Value) : M Out:=
 bind (QE s0) fun y1=>
 bind (bop .int .lss s5 y1) fun y2=>
 cnd y2
 (bind (bop .int .add s5 (Value.int .i64 1)) fun y3=>
 bind (sls s0 (some s5) (some y3)) fun y4=>
 jn (Zi (c6 (JM.l2 Γ)) [s0,s3,s4,s5,y4,(Value.int .i64 0)]) noN (xk 2 (c5 fun q15_0 q15_1 q15_2 q15_3 q15_4=>
 bind (bop .str .add q15_2 q15_4) fun y16=>
 bind (bop .int .add q15_3 (Value.int .i64 1)) fun y17=>
 ret (.nrm [q15_0,q15_1,y16,y17])) noX) ZP)
 (ret (.ext 0 [s4]))
noncomputable def JM (Γ : Zd) (x0 : Value) : M Value:=
 jn (Zi (c4 (JM.l1 Γ)) [x0,(Value.string ⟨#[65,66,67,68,69,70,71,72,73,74,75,76,77,78,79,80,81,82,83,84,85,86,87,88,89,90]⟩),(Value.string ⟨#[]⟩),(Value.int .i64 0)]) noN (xk 0 (c1 fun q20_0=>
 ret q20_0) noX) ret
theorem ZpZ (Γ : Zd) (x0 : Value) : ZG Tryz.prog Γ Tryz.f111 ZiN [x0]=JM Γ x0:=by kernel_rfl
theorem Zog {prim : FuncId→Option (List Value→M Value)} (hp : prim ZcJ=none) (n : Nat) (x0 : Value) : run Tryz.prog prim lvs (n+1) ZcJ [x0]=JM (run Tryz.prog prim lvs n) x0:=
 (Zr hp (by kernel_rfl) Tryz.func111 (by kernel_rfl)).trans (ZpZ _ x0)
noncomputable def Zh0 (Γ : Zd) (x0 : Value) : M Value:=
 bind (Γ YM [x0]) fun y1=>
 bind (ZA y1 false 2 (bind (Γ Ke [x0]) fun y2=>
 ret [x0,y2])) (c2 fun _ q3_1=>
 bind (pick y1 (Value.bool true) q3_1) fun y4=>
 bind (ZA y4 false 2 (bind (bop .int .eql x0 (Value.int .u8 45)) fun y5=>
 ret [x0,y5])) (c2 fun _ q6_1=>
 bind (pick y4 (Value.bool true) q6_1) fun y7=>
 bind (ZA y7 false 2 (bind (bop .int .eql x0 (Value.int .u8 46)) fun y8=>
 ret [x0,y8])) (c2 fun _ q9_1=>
 bind (pick y7 (Value.bool true) q9_1) fun y10=>
 ret y10)))
theorem Zq8 (Γ : Zd) (x0 : Value) : ZG Tryz.prog Γ Tryz.f112 Zkv [x0]=Zh0 Γ x0:=by kernel_rfl
theorem ZpO {prim : FuncId→Option (List Value→M Value)} (hp : prim ZcA=none) (n : Nat) (x0 : Value) : run Tryz.prog prim lvs (n+1) ZcA [x0]=Zh0 (run Tryz.prog prim lvs n) x0:=
 (Zr hp (by kernel_rfl) Tryz.func112 (by kernel_rfl)).trans (Zq8 _ x0)
noncomputable def ZE.l1 (Γ : Zd) (s0 s1 s7 s8 : Value) : M Out:=
 bind (bop .int .lss s8 s7) fun y2=>
 cnd y2
 (bind (ixa 1 s0 s8) fun y3=>
 bind (ld1 y3) fun y4=>
 bind (Jf Γ s1 [y4]) fun y5=>
 cnd y5
 (ret (.ret s8))
 (bind (bop .int .add s8 (Value.int .i64 1)) fun y6=>
 ret (.nrm [s0,s1,s7,y6])))
 (ret (.ext 0 []))
noncomputable def ZE (Γ : Zd) (x0 x1 : Value) : M Value:=
 bind (ZF x0) fun y1=>
 jn (Zi (c4 (ZE.l1 Γ)) [x0,x1,y1,(Value.int .i64 0)]) noN (xk 0 (c0 (ret (Value.int .i64 (-1)))) noX) ret
theorem ZdA (Γ : Zd) (x0 x1 : Value) : ZG Tryz.prog Γ Tryz.f113 Zaz [x0,x1]=ZE Γ x0 x1:=by kernel_rfl
theorem Zal {prim : FuncId→Option (List Value→M Value)} (hp : prim QQ=none) (n : Nat) (x0 x1 : Value) : run Tryz.prog prim lvs (n+1) QQ [x0,x1]=ZE (run Tryz.prog prim lvs n) x0 x1:=
 (Zr hp (by kernel_rfl) Tryz.func113 (by kernel_rfl)).trans (ZdA _ x0 x1)
noncomputable def KG (Γ : Zd) (x0 x1 : Value) : M Value:=
 bind (QE x0) fun y1=>
 bind (QE x1) fun y2=>
 bind (bop .int .geq y1 y2) fun y3=>
 bind (ZA y3 true 6 (bind (QE x1) fun y4=>
 bind (sls x0 none (some y4)) fun y5=>
 bind (bop .str .eql y5 x1) fun y6=>
 ret [x0,x1,y4,y5,x1,y6])) (c6 fun _ _ _ _ _ q7_5=>
 bind (pick y3 q7_5 (Value.bool false)) fun y8=>
 ret y8)
theorem Zdn (Γ : Zd) (x0 x1 : Value) : ZG Tryz.prog Γ Tryz.f114 Zao [x0,x1]=KG Γ x0 x1:=by kernel_rfl
theorem Zda {prim : FuncId→Option (List Value→M Value)} (hp : prim JU=none) (n : Nat) (x0 x1 : Value) : run Tryz.prog prim lvs (n+1) JU [x0,x1]=KG (run Tryz.prog prim lvs n) x0 x1:=
 (Zr hp (by kernel_rfl) Tryz.func114 (by kernel_rfl)).trans (Zdn _ x0 x1)
noncomputable def ZbV (Γ : Zd) (x0 : Value) : M Value:=
 bind (Γ JR [x0]) fun y1=>
 bind (Γ QM [y1,(Value.func (.func 97) #[] #[])]) fun y2=>
 ret y2
theorem ZhP (Γ : Zd) (x0 : Value) : ZG Tryz.prog Γ Tryz.f115 ZdR [x0]=ZbV Γ x0:=by kernel_rfl
theorem ZgW {prim : FuncId→Option (List Value→M Value)} (hp : prim KZ=none) (n : Nat) (x0 : Value) : run Tryz.prog prim lvs (n+1) KZ [x0]=ZbV (run Tryz.prog prim lvs n) x0:=
 (Zr hp (by kernel_rfl) Tryz.func115 (by kernel_rfl)).trans (ZhP _ x0)
noncomputable def Wf.l1 (Γ : Zd) (s3 s8 s9 s10 : Value) : M Out:=
 bind (bop .int .lss s10 s9) fun y3=>
 cnd y3
 (bind (ixa 1 s8 s10) fun y4=>
 bind (ld1 y4) fun y5=>
 bind (bop .int .geq y5 (Value.int .u8 65)) fun y6=>
 bind (ZA y6 true 2 (bind (bop .int .leq y5 (Value.int .u8 90)) fun y7=>
 ret [y5,y7])) (c2 fun _ q8_1=>
 bind (pick y6 q8_1 (Value.bool false)) fun y9=>
 jn (cnd y9
 (bind (bop .int .add y5 (Value.int .u8 97)) fun y10=>
 bind (bop .int .sub y10 (Value.int .u8 65)) fun y11=>
 bind (ixa 1 s3 s10) fun y12=>
 bind (st1 y12 y11) fun _=>
 ret (.nrm [s3,s8,s9,s10]))
 (ret (.nrm [s3,s8,s9,s10]))) (c4 fun q13_0 q13_1 q13_2 q13_3=>
 bind (bop .int .add q13_3 (Value.int .i64 1)) fun y14=>
 ret (.nrm [q13_0,q13_1,q13_2,y14])) noX ZP))
 (ret (.ext 0 [s3]))
noncomputable def Wf (Γ : Zd) (x0 : Value) : M Value:=
 bind (s2b x0) fun y1=>
 bind (ZF y1) fun y2=>
 jn (Zi (c4 (Wf.l1 Γ)) [y1,y1,y2,(Value.int .i64 0)]) noN (xk 0 (c1 fun q17_0=>
 bind (b2s q17_0) fun y18=>
 ret y18) noX) ret
theorem ZqS (Γ : Zd) (x0 : Value) : ZG Tryz.prog Γ Tryz.f116 ZkI [x0]=Wf Γ x0:=by kernel_rfl
theorem Zqx {prim : FuncId→Option (List Value→M Value)} (hp : prim ZdG=none) (n : Nat) (x0 : Value) : run Tryz.prog prim lvs (n+1) ZdG [x0]=Wf (run Tryz.prog prim lvs n) x0:=
 (Zr hp (by kernel_rfl) Tryz.func116 (by kernel_rfl)).trans (ZqS _ x0)
noncomputable def ZfU (Γ : Zd) (x0 x1 : Value) : M Value:=
 bind (Γ KF [x0,x1]) fun y1=>
 bind (Zh y1 0) fun y2=>
 bind (Zh y1 1) fun y3=>
 bind (Zh y1 2) fun y4=>
 ret (Value.tuple #[y2,y3,y4])
theorem ZoH (Γ : Zd) (x0 x1 : Value) : ZG Tryz.prog Γ Tryz.f117 Zig [x0,x1]=ZfU Γ x0 x1:=by kernel_rfl
theorem ZnA {prim : FuncId→Option (List Value→M Value)} (hp : prim Zaf=none) (n : Nat) (x0 x1 : Value) : run Tryz.prog prim lvs (n+1) Zaf [x0,x1]=ZfU (run Tryz.prog prim lvs n) x0 x1:=
 (Zr hp (by kernel_rfl) Tryz.func117 (by kernel_rfl)).trans (ZoH _ x0 x1)
noncomputable def Zeg (Γ : Zd) (x0 x1 : Value) : M Value:=
 bind (Γ Za4 [x0,x1,(Value.int .i64 0),(Value.int .i64 (-1))]) fun y1=>
 ret y1
theorem Zmp (Γ : Zd) (x0 x1 : Value) : ZG Tryz.prog Γ Tryz.f118 Zgc [x0,x1]=Zeg Γ x0 x1:=by kernel_rfl
theorem Zlb {prim : FuncId→Option (List Value→M Value)} (hp : prim Za7=none) (n : Nat) (x0 x1 : Value) : run Tryz.prog prim lvs (n+1) Za7 [x0,x1]=Zeg (run Tryz.prog prim lvs n) x0 x1:=
 (Zr hp (by kernel_rfl) Tryz.func118 (by kernel_rfl)).trans (Zmp _ x0 x1)
noncomputable def Zcc (Γ : Zd) (x0 : Value) : M Value:=
 bind (bop .str .eql x0 (Value.string ⟨#[]⟩)) fun y1=>
 bind (ZA y1 false 3 (bind (QE x0) fun y2=>
 bind (bop .int .gtr y2 (Value.int .i64 12)) fun y3=>
 ret [x0,y2,y3])) (c3 fun _ _ q4_2=>
 bind (pick y1 (Value.bool true) q4_2) fun y5=>
 bind (ZA y5 false 4 (bind (ixs x0 (Value.int .i64 0)) fun y6=>
 bind (Γ YM [y6]) fun y7=>
 bind (uop .not y7) fun y8=>
 ret [x0,y6,y7,y8])) (c4 fun _ _ _ q9_3=>
 bind (pick y5 (Value.bool true) q9_3) fun y10=>
 bind (ZA y10 false 3 (bind (Γ Y8 [x0,(Value.func (.func 112) #[] #[])]) fun y11=>
 bind (uop .not y11) fun y12=>
 ret [x0,y11,y12])) (c3 fun _ _ q13_2=>
 bind (pick y10 (Value.bool true) q13_2) fun y14=>
 cnd y14
 (ret (Value.bool false))
 (bind (QE x0) fun y15=>
 bind (bop .int .sub y15 (Value.int .i64 1)) fun y16=>
 bind (ixs x0 y16) fun y17=>
 bind (Γ YM [y17]) fun y18=>
 bind (ZA y18 false 2 (bind (Γ Ke [y17]) fun y19=>
 ret [y17,y19])) (c2 fun _ q20_1=>
 bind (pick y18 (Value.bool true) q20_1) fun y21=>
 ret y21)))))
theorem ZoC (Γ : Zd) (x0 : Value) : ZG Tryz.prog Γ Tryz.f119 Zia [x0]=Zcc Γ x0:=by kernel_rfl
theorem Znc {prim : FuncId→Option (List Value→M Value)} (hp : prim Zab=none) (n : Nat) (x0 : Value) : run Tryz.prog prim lvs (n+1) Zab [x0]=Zcc (run Tryz.prog prim lvs n) x0:=
 (Zr hp (by kernel_rfl) Tryz.func119 (by kernel_rfl)).trans (ZoC _ x0)
noncomputable def Zgu (Γ : Zd) (x0 : Value) : M Value:=
 bind (Γ YM [x0]) fun y1=>
 bind (ZA y1 false 2 (bind (Γ Ke [x0]) fun y2=>
 ret [x0,y2])) (c2 fun _ q3_1=>
 bind (pick y1 (Value.bool true) q3_1) fun y4=>
 ret y4)
theorem ZpW (Γ : Zd) (x0 : Value) : ZG Tryz.prog Γ Tryz.f120 ZiV [x0]=Zgu Γ x0:=by kernel_rfl
theorem Zow {prim : FuncId→Option (List Value→M Value)} (hp : prim ZcO=none) (n : Nat) (x0 : Value) : run Tryz.prog prim lvs (n+1) ZcO [x0]=Zgu (run Tryz.prog prim lvs n) x0:=
 (Zr hp (by kernel_rfl) Tryz.func120 (by kernel_rfl)).trans (ZpW _ x0)
noncomputable def Zcg (Γ : Zd) (x0 : Value) : M Value:=
 bind (bop .int .geq x0 (Value.int .u8 97)) fun y1=>
 bind (ZA y1 true 2 (bind (bop .int .leq x0 (Value.int .u8 122)) fun y2=>
 ret [x0,y2])) (c2 fun _ q3_1=>
 bind (pick y1 q3_1 (Value.bool false)) fun y4=>
 ret y4)
theorem Zoq (Γ : Zd) (x0 : Value) : ZG Tryz.prog Γ Tryz.f121 Zid [x0]=Zcg Γ x0:=by kernel_rfl
theorem Znv {prim : FuncId→Option (List Value→M Value)} (hp : prim YM=none) (n : Nat) (x0 : Value) : run Tryz.prog prim lvs (n+1) YM [x0]=Zcg (run Tryz.prog prim lvs n) x0:=
 (Zr hp (by kernel_rfl) Tryz.func121 (by kernel_rfl)).trans (Zoq _ x0)
noncomputable def KB.l1 (Γ : Zd) (s6 s7 s8 : Value) : M Out:=
 bind (bop .int .lss s8 s7) fun y2=>
 cnd y2
 (bind (ixa 1 s6 s8) fun y3=>
 bind (ld1 y3) fun y4=>
 bind (Γ Yk [y4]) fun y5=>
 bind (bop .int .neq y5 (Value.int .i64 0)) fun y6=>
 cnd y6
 (ret (.ret y5))
 (bind (bop .int .add s8 (Value.int .i64 1)) fun y7=>
 ret (.nrm [s6,s7,y7])))
 (ret (.ext 0 []))
noncomputable def KB (Γ : Zd) (x0 : Value) : M Value:=
 bind (ZF x0) fun y1=>
 jn (Zi (c3 (KB.l1 Γ)) [x0,y1,(Value.int .i64 0)]) noN (xk 0 (c0 (ret (Value.int .i64 0))) noX) ret
theorem Zoo (Γ : Zd) (x0 : Value) : ZG Tryz.prog Γ Tryz.f122 Zih [x0]=KB Γ x0:=by kernel_rfl
theorem ZnH {prim : FuncId→Option (List Value→M Value)} (hp : prim Zad=none) (n : Nat) (x0 : Value) : run Tryz.prog prim lvs (n+1) Zad [x0]=KB (run Tryz.prog prim lvs n) x0:=
 (Zr hp (by kernel_rfl) Tryz.func122 (by kernel_rfl)).trans (Zoo _ x0)
noncomputable def WD.l1 (Γ : Zd) (s1 s7 s8 s9 : Value) : M Out:=
 bind (bop .int .lss s9 s8) fun y2=>
 cnd y2
 (bind (ixa 1 s7 s9) fun y3=>
 bind (ld1 y3) fun y4=>
 bind (bop .str .eql y4 s1) fun y5=>
 cnd y5
 (ret (.ret (Value.bool true)))
 (bind (bop .int .add s9 (Value.int .i64 1)) fun y6=>
 ret (.nrm [s1,s7,s8,y6])))
 (ret (.ext 0 []))
noncomputable def WD (Γ : Zd) (x0 x1 : Value) : M Value:=
 bind (ZF x0) fun y1=>
 jn (Zi (c4 (WD.l1 Γ)) [x1,x0,y1,(Value.int .i64 0)]) noN (xk 0 (c0 (ret (Value.bool false))) noX) ret
theorem ZqU (Γ : Zd) (x0 x1 : Value) : ZG Tryz.prog Γ Tryz.f123 ZkF [x0,x1]=WD Γ x0 x1:=by kernel_rfl
theorem Zp3 {prim : FuncId→Option (List Value→M Value)} (hp : prim Ww=none) (n : Nat) (x0 x1 : Value) : run Tryz.prog prim lvs (n+1) Ww [x0,x1]=WD (run Tryz.prog prim lvs n) x0 x1:=
 (Zr hp (by kernel_rfl) Tryz.func123 (by kernel_rfl)).trans (ZqU _ x0 x1)
noncomputable def K2 (Γ : Zd) (x0 x1 : Value) : M Value:=
 bind (ZF x0) fun y1=>
 bind (cvi .u64 y1) fun y2=>
 bind (Γ ZcZ [y2]) fun y3=>
 bind (Γ QW [x0,(Value.int .i64 0),y1,y3,x1]) fun y4=>
 ret (Value.tuple #[])
theorem Zd2 (Γ : Zd) (x0 x1 : Value) : ZG Tryz.prog Γ Tryz.f128 Za0 [x0,x1]=K2 Γ x0 x1:=by kernel_rfl
theorem Zdv {prim : FuncId→Option (List Value→M Value)} (hp : prim Wa=none) (n : Nat) (x0 x1 : Value) : run Tryz.prog prim lvs (n+1) Wa [x0,x1]=K2 (run Tryz.prog prim lvs n) x0 x1:=
 (Zr hp (by kernel_rfl) Tryz.func128 (by kernel_rfl)).trans (Zd2 _ x0 x1)
noncomputable def Za8 (Γ : Zd) (x0 : Value) : M Value:=
 bind (Γ Jg [x0]) fun y1=>
 bind (Γ QM [y1,(Value.func (.func 97) #[] #[])]) fun y2=>
 ret y2
theorem Zgx (Γ : Zd) (x0 : Value) : ZG Tryz.prog Γ Tryz.f131 ZcK [x0]=Za8 Γ x0:=by kernel_rfl
theorem ZfZ {prim : FuncId→Option (List Value→M Value)} (hp : prim Wl=none) (n : Nat) (x0 : Value) : run Tryz.prog prim lvs (n+1) Wl [x0]=Za8 (run Tryz.prog prim lvs n) x0:=
 (Zr hp (by kernel_rfl) Tryz.func131 (by kernel_rfl)).trans (Zgx _ x0)
noncomputable def Zku.l1 (Γ : Zd) (s5 s6 s7 : Value) : M Out:=
 bind (bop .int .lss s7 s6) fun y2=>
 cnd y2
 (bind (ixa 1 s5 s7) fun y3=>
 bind (ld1 y3) fun y4=>
 bind (bop .int .neq y4 (Value.int .i64 0)) fun y5=>
 cnd y5
 (ret (.ret y4))
 (bind (bop .int .add s7 (Value.int .i64 1)) fun y6=>
 ret (.nrm [s5,s6,y6])))
 (ret (.ext 0 []))
noncomputable def Zku (Γ : Zd) (x0 : Value) : M Value:=
 bind (ZF x0) fun y1=>
 jn (Zi (c3 (Zku.l1 Γ)) [x0,y1,(Value.int .i64 0)]) noN (xk 0 (c0 (ret (Value.int .i64 0))) noX) ret
noncomputable def Zdz.l1 (Γ : Zd) (s0 s10 s11 s12 : Value) : M Out:=
 bind (bop .int .lss s12 s11) fun y4=>
 cnd y4
 (bind (ixa 1 s10 s12) fun y5=>
 bind (ld1 y5) fun y6=>
 bind (Γ Yk [y6]) fun y7=>
 bind (bop .int .neq y7 (Value.int .i64 0)) fun y8=>
 cnd y8
 (ret (.ret y7))
 (bind (bop .int .add s12 (Value.int .i64 1)) fun y9=>
 ret (.nrm [s0,s10,s11,y9])))
 (ret (.ext 0 [s0]))
noncomputable def Zdz.l2 (Γ : Zd) (s0 s6 : Value) : M Out:=
 bind (ZF s0) fun y12=>
 bind (bop .int .lss s6 y12) fun y13=>
 cnd y13
 (bind (bop .int .sub s6 (Value.int .i64 1)) fun y14=>
 bind (ixa 1 s0 y14) fun y15=>
 bind (ld1 y15) fun y16=>
 bind (ixa 1 s0 s6) fun y17=>
 bind (ld1 y17) fun y18=>
 bind (bop .str .geq y16 y18) fun y19=>
 cnd y19
 (ret (.ret (Value.int .i64 9)))
 (bind (bop .int .add s6 (Value.int .i64 1)) fun y20=>
 ret (.nrm [s0,y20])))
 (ret (.ext 2 []))
noncomputable def Zdz (Γ : Zd) (x0 : Value) : M Value:=
 bind (ZF x0) fun y1=>
 bind (bop .int .gtr y1 (Value.int .i64 6)) fun y2=>
 cnd y2
 (ret (Value.int .i64 7))
 (bind (ZF x0) fun y3=>
 jn (Zi (c4 (Zdz.l1 Γ)) [x0,x0,y3,(Value.int .i64 0)]) noN (xk 0 (c1 fun q11_0=>
 jn (Zi (c2 (Zdz.l2 Γ)) [q11_0,(Value.int .i64 1)]) noN (xk 2 (c0 (ret (Value.int .i64 0))) noX) ret) noX) ret)
noncomputable def YH (Γ : Zd) (x0 : Value) : M Value:=
 bind (alc 1 x0) fun y1=>
 ret (Value.func (.func 143) #[] #[y1])
theorem ZbT (Γ : Zd) (x0 : Value) : ZG Tryz.prog Γ Tryz.f135 KV [x0]=YH Γ x0:=by kernel_rfl
theorem ZbE {prim : FuncId→Option (List Value→M Value)} (hp : prim JR=none) (n : Nat) (x0 : Value) : run Tryz.prog prim lvs (n+1) JR [x0]=YH (run Tryz.prog prim lvs n) x0:=
 (Zr hp (by kernel_rfl) Tryz.func135 (by kernel_rfl)).trans (ZbT _ x0)
noncomputable def W6 (Γ : Zd) (x0 x1 : Value) : M Value:=
 bind (Γ Jd [x0,x1]) fun y1=>
 bind (bop .int .geq y1 (Value.int .i64 0)) fun y2=>
 cnd y2
 (bind (sls x0 none (some y1)) fun y3=>
 bind (QE x1) fun y4=>
 bind (bop .int .add y1 y4) fun y5=>
 bind (sls x0 (some y5) none) fun y6=>
 ret (Value.tuple #[y3,y6,(Value.bool true)]))
 (ret (Value.tuple #[x0,(Value.string ⟨#[]⟩),(Value.bool false)]))
theorem Zfk (Γ : Zd) (x0 x1 : Value) : ZG Tryz.prog Γ Tryz.f136 Zb0 [x0,x1]=W6 Γ x0 x1:=by kernel_rfl
theorem ZeY {prim : FuncId→Option (List Value→M Value)} (hp : prim KF=none) (n : Nat) (x0 x1 : Value) : run Tryz.prog prim lvs (n+1) KF [x0,x1]=W6 (run Tryz.prog prim lvs n) x0 x1:=
 (Zr hp (by kernel_rfl) Tryz.func136 (by kernel_rfl)).trans (Zfk _ x0 x1)
noncomputable def J6.l1 (Γ : Zd) (s0 s1 s2 s3 s9 s10 : Value) : M Out:=
 bind (bop .int .lss s10 s3) fun y13=>
 cnd y13
 (bind (Γ WV [s0,s1]) fun y14=>
 bind (bop .int .lss y14 (Value.int .i64 0)) fun y15=>
 cnd y15
 (ret (.ext 0 [s0,s9,s10]))
 (bind (bop .int .add y14 s2) fun y16=>
 bind (sls s0 none (some y16)) fun y17=>
 bind (ixa 1 s9 s10) fun y18=>
 bind (st1 y18 y17) fun _=>
 bind (QE s1) fun y19=>
 bind (bop .int .add y14 y19) fun y20=>
 bind (sls s0 (some y20) none) fun y21=>
 bind (bop .int .add s10 (Value.int .i64 1)) fun y22=>
 ret (.nrm [y21,s1,s2,s3,s9,y22])))
 (ret (.ext 0 [s0,s9,s10]))
noncomputable def J6 (Γ : Zd) (x0 x1 x2 x3 : Value) : M Value:=
 bind (bop .int .eql x3 (Value.int .i64 0)) fun y1=>
 cnd y1
 (ret (Value.slice none 0 0))
 (bind (bop .str .eql x1 (Value.string ⟨#[]⟩)) fun y2=>
 cnd y2
 (bind (Γ Zly [x0,x3]) fun y3=>
 ret y3)
 (bind (bop .int .lss x3 (Value.int .i64 0)) fun y4=>
 jn (cnd y4
 (bind (Γ Zbc [x0,x1]) fun y5=>
 bind (bop .int .add y5 (Value.int .i64 1)) fun y6=>
 ret (.nrm [x0,x1,x2,y6]))
 (ret (.nrm [x0,x1,x2,x3]))) (c4 fun q7_0 q7_1 q7_2 q7_3=>
 bind (QE q7_0) fun y8=>
 bind (bop .int .add y8 (Value.int .i64 1)) fun y9=>
 bind (mxi false q7_3 y9) fun y10=>
 bind (mks 1 16 (.string ⟨#[]⟩) y10 y10) fun y11=>
 bind (bop .int .sub y10 (Value.int .i64 1)) fun y12=>
 jn (jn (Zi (c6 (J6.l1 Γ)) [q7_0,q7_1,q7_2,y12,y11,(Value.int .i64 0)]) noN (xk 0 (c3 fun q24_0 q24_1 q24_2=>
 ret (.nrm [q24_0,q24_1,q24_2])) noX) ZP) (c3 fun q26_0 q26_1 q26_2=>
 bind (ixa 1 q26_1 q26_2) fun y27=>
 bind (st1 y27 q26_0) fun _=>
 bind (bop .int .add q26_2 (Value.int .i64 1)) fun y28=>
 bind (slv 1 q26_1 none (some y28) none) fun y29=>
 ret y29) noX ret) noX ret))
theorem ZiO (Γ : Zd) (x0 x1 x2 x3 : Value) : ZG Tryz.prog Γ Tryz.f137 Zex [x0,x1,x2,x3]=J6 Γ x0 x1 x2 x3:=by kernel_rfl
theorem Ziq {prim : FuncId→Option (List Value→M Value)} (hp : prim Za4=none) (n : Nat) (x0 x1 x2 x3 : Value) : run Tryz.prog prim lvs (n+1) Za4 [x0,x1,x2,x3]=J6 (run Tryz.prog prim lvs n) x0 x1 x2 x3:=
 (Zr hp (by kernel_rfl) Tryz.func137 (by kernel_rfl)).trans (ZiO _ x0 x1 x2 x3)
noncomputable abbrev ZaW.o1 (s2 : Value) (st : LoopState) (pd : Option Code) : Ze:=.loop Tryz.f138 Kz 26 [0] (Zwz Tryz.f138 26) [(2,s2)] st pd
noncomputable def ZaW.r1 (Γ : Zd) (L : Nat) (s2 : Value) (a0 : Value) : M Value:=
 Zup L (
 bind (ld1 s2) fun y2=>
 bind (bsl 1 1 (.string ⟨#[]⟩) [(0,1,a0)]) fun y3=>
 bind (app 1 16 y2 y3) fun y4=>
 bind (st1 s2 y4) fun _=>
 Znu L none)
noncomputable def ZaW (Γ : Zd) (x0 x1 : Value) : M Value:=
 bind (alc 1 x0) fun y1=>
 Ziy (ZoM Tryz.prog) Γ x1 Tryz.f138 Kz 26 [0] (Zwz Tryz.f138 26) [(2,y1)] fun pd_5=>
 (match pd_5 with
 | none=>bind (ld1 y1) fun y6=>
 ret y6
 | some (.exit j_5)=>fail
 | some .ret=>ret (Value.slice none 0 0)
 | _=>fail)
noncomputable def Ju.l1 (Γ : Zd) (s0 s1 s2 s3 s4 s10 s11 : Value) : M Out:=
 jn (bind (bop .int .sub s2 s1) fun y1=>
 bind (bop .int .leq y1 (Value.int .i64 12)) fun y2=>
 cnd y2
 (bind (Γ Jj [s0,s1,s2,s4]) fun y3=>
 ret (.ret (Value.tuple #[])))
 (bind (bop .int .eql s3 (Value.int .i64 0)) fun y4=>
 cnd y4
 (bind (Γ Zd1 [s0,s1,s2,s4]) fun y5=>
 ret (.ret (Value.tuple #[])))
 (bind (uop .not s10) fun y6=>
 jn (cnd y6
 (bind (Γ ZcG [s0,s1,s2,s4]) fun y7=>
 bind (bop .int .sub s3 (Value.int .i64 1)) fun y8=>
 ret (.nrm [s0,s1,s2,y8,s4,s10,s11,y1]))
 (ret (.nrm [s0,s1,s2,s3,s4,s10,s11,y1]))) (c8 fun q9_0 q9_1 q9_2 q9_3 q9_4 q9_5 q9_6 q9_7=>
 bind (Γ Zc5 [q9_0,q9_1,q9_2,q9_4]) fun y10=>
 bind (Zh y10 0) fun y11=>
 bind (Zh y10 1) fun y12=>
 bind (bop .int .eql y12 (Value.int .i64 2)) fun y13=>
 jn (cnd y13
 (bind (Γ ZcU [q9_0,q9_1,q9_2,q9_4]) fun y14=>
 bind (bop .int .sub q9_2 (Value.int .i64 1)) fun y15=>
 bind (bop .int .sub y11 q9_1) fun y16=>
 bind (bop .int .sub y15 y16) fun y17=>
 ret (.nrm [q9_0,q9_1,q9_2,q9_3,q9_4,q9_5,q9_6,q9_7,y17,(Value.int .i64 1)]))
 (ret (.nrm [q9_0,q9_1,q9_2,q9_3,q9_4,q9_5,q9_6,q9_7,y11,y12]))) (c10 fun q18_0 q18_1 q18_2 q18_3 q18_4 q18_5 q18_6 q18_7 q18_8 q18_9=>
 bind (ZA q18_5 true 1 (ret [q18_6])) (c1 fun q19_0=>
 bind (pick q18_5 q19_0 (Value.bool false)) fun y20=>
 bind (ZA y20 true 2 (bind (bop .int .eql q18_9 (Value.int .i64 1)) fun y21=>
 ret [q18_9,y21])) (c2 fun _ q22_1=>
 bind (pick y20 q22_1 (Value.bool false)) fun y23=>
 jn (cnd y23
 (bind (Γ Zbm [q18_0,q18_1,q18_2,q18_4]) fun y24=>
 cnd y24
 (ret (.ret (Value.tuple #[])))
 (ret (.nrm [q18_0,q18_1,q18_2,q18_3,q18_4,q18_5,q18_6,q18_7,q18_8])))
 (ret (.nrm [q18_0,q18_1,q18_2,q18_3,q18_4,q18_5,q18_6,q18_7,q18_8]))) (c9 fun q25_0 q25_1 q25_2 q25_3 q25_4 q25_5 q25_6 q25_7 q25_8=>
 bind (bop .int .gtr q25_1 (Value.int .i64 0)) fun y26=>
 bind (Zq y26 true (ret q25_4)) fun y27=>
 bind (Zq y26 true (ret q25_0)) fun y28=>
 bind (Zq y26 true (ret q25_1)) fun y29=>
 bind (Zq y26 true (bop .int .sub y29 (Value.int .i64 1))) fun y30=>
 bind (Zq y26 true (ixa 1 y28 y30)) fun y31=>
 bind (Zq y26 true (ld1 y31)) fun y32=>
 bind (Zq y26 true (ret q25_0)) fun y33=>
 bind (Zq y26 true (ret q25_8)) fun y34=>
 bind (Zq y26 true (ixa 1 y33 y34)) fun y35=>
 bind (Zq y26 true (ld1 y35)) fun y36=>
 bind (Zq y26 true (Jf Γ y27 [y32,y36])) fun y37=>
 bind (Zq y26 true (bop .int .lss y37 (Value.int .i64 0))) fun y38=>
 bind (Zq y26 true (uop .not y38)) fun y39=>
 bind (pick y26 y39 (Value.bool false)) fun y40=>
 cnd y40
 (bind (Γ Zcz [q25_0,q25_1,q25_2,q25_8,q25_4]) fun y41=>
 ret (.nrm [q25_0,y41,q25_2,q25_3,q25_4,q25_5,q25_6]))
 (bind (Γ ZdV [q25_0,q25_1,q25_2,q25_8,q25_4]) fun y42=>
 bind (Zh y42 0) fun y43=>
 bind (Zh y42 1) fun y44=>
 bind (bop .int .sub y43 q25_1) fun y45=>
 bind (bop .int .sub q25_2 y43) fun y46=>
 bind (bop .int .quo q25_7 (Value.int .i64 8)) fun y47=>
 bind (bop .int .lss y45 y46) fun y48=>
 jn (cnd y48
 (bind (bop .int .geq y45 y47) fun y49=>
 bind (Γ QW [q25_0,q25_1,y43,q25_3,q25_4]) fun y50=>
 bind (bop .int .add y43 (Value.int .i64 1)) fun y51=>
 ret (.nrm [q25_0,y51,q25_2,q25_3,q25_4,y49,y44]))
 (bind (bop .int .geq y46 y47) fun y52=>
 bind (bop .int .add y43 (Value.int .i64 1)) fun y53=>
 bind (Γ QW [q25_0,y53,q25_2,q25_3,q25_4]) fun y54=>
 ret (.nrm [q25_0,q25_1,y43,q25_3,q25_4,y52,y44]))) (c7 fun q55_0 q55_1 q55_2 q55_3 q55_4 q55_5 q55_6=>
 ret (.nrm [q55_0,q55_1,q55_2,q55_3,q55_4,q55_5,q55_6])) noX ZP)) noX ZP))) noX ZP) noX ZP))) (c7 fun q60_0 q60_1 q60_2 q60_3 q60_4 q60_5 q60_6=>
 ret (.nrm [q60_0,q60_1,q60_2,q60_3,q60_4,q60_5,q60_6])) noX ZP
noncomputable def Ju (Γ : Zd) (x0 x1 x2 x3 x4 : Value) : M Value:=
 jn (Zi (c7 (Ju.l1 Γ)) [x0,x1,x2,x3,x4,(Value.bool true),(Value.bool true)]) noN noX ret
theorem Zd3 (Γ : Zd) (x0 x1 x2 x3 x4 : Value) : ZG Tryz.prog Γ Tryz.f139 ZaX [x0,x1,x2,x3,x4]=Ju Γ x0 x1 x2 x3 x4:=by kernel_rfl
theorem ZdC {prim : FuncId→Option (List Value→M Value)} (hp : prim QW=none) (n : Nat) (x0 x1 x2 x3 x4 : Value) : run Tryz.prog prim lvs (n+1) QW [x0,x1,x2,x3,x4]=Ju (run Tryz.prog prim lvs n) x0 x1 x2 x3 x4:=
 (Zr hp (by kernel_rfl) Tryz.func139 (by kernel_rfl)).trans (Zd3 _ x0 x1 x2 x3 x4)
noncomputable def ZeR (Γ : Zd) (x0 : Value) : M Value:=
 cnd (Value.bool false)
 (bind (cvi .u32 x0) fun y1=>
 bind (Γ ZmV [y1]) fun y2=>
 ret y2)
 (bind (Γ ZbW [x0]) fun y3=>
 ret y3)
theorem ZnF (Γ : Zd) (x0 : Value) : ZG Tryz.prog Γ Tryz.f140 Zhe [x0]=ZeR Γ x0:=by kernel_rfl
theorem ZmL {prim : FuncId→Option (List Value→M Value)} (hp : prim ZcZ=none) (n : Nat) (x0 : Value) : run Tryz.prog prim lvs (n+1) ZcZ [x0]=ZeR (run Tryz.prog prim lvs n) x0:=
 (Zr hp (by kernel_rfl) Tryz.func140 (by kernel_rfl)).trans (ZnF _ x0)
noncomputable def Yd (Γ : Zd) (x0 : Value) : M Value:=
 bind (alc 1 x0) fun y1=>
 ret (Value.func (.func 158) #[] #[y1])
theorem Za9 (Γ : Zd) (x0 : Value) : ZG Tryz.prog Γ Tryz.f142 Kn [x0]=Yd Γ x0:=by kernel_rfl
theorem Za1 {prim : FuncId→Option (List Value→M Value)} (hp : prim Jg=none) (n : Nat) (x0 : Value) : run Tryz.prog prim lvs (n+1) Jg [x0]=Yd (run Tryz.prog prim lvs n) x0:=
 (Zr hp (by kernel_rfl) Tryz.func142 (by kernel_rfl)).trans (Za9 _ x0)
noncomputable def Ym.l1 (Γ : Zd) (s0 s1 s5 s6 s7 s8 s9 s10 : Value) : M Out:=
 bind (bop .int .lss s8 s9) fun y23=>
 cnd y23
 (bind (ixs s0 s8) fun y24=>
 bind (bop .int .neq y24 s6) fun y25=>
 jn (cnd y25
 (bind (bop .int .add s8 (Value.int .i64 1)) fun y26=>
 bind (sls s0 (some y26) (some s9)) fun y27=>
 bind (Γ JV [y27,s6]) fun y28=>
 bind (bop .int .lss y28 (Value.int .i64 0)) fun y29=>
 cnd y29
 (ret (.ret (Value.int .i64 (-1))))
 (bind (bop .int .add y28 (Value.int .i64 1)) fun y30=>
 bind (bop .int .add s8 y30) fun y31=>
 ret (.nrm [s0,s1,s5,s6,s7,y31,s9,s10])))
 (ret (.nrm [s0,s1,s5,s6,s7,s8,s9,s10]))) (c8 fun q32_0 q32_1 q32_2 q32_3 q32_4 q32_5 q32_6 q32_7=>
 bind (bop .int .add q32_5 (Value.int .i64 1)) fun y33=>
 bind (ixs q32_0 y33) fun y34=>
 bind (bop .int .eql y34 q32_4) fun y35=>
 bind (ZA y35 true 8 (bind (bop .int .add q32_5 q32_2) fun y36=>
 bind (sls q32_0 (some q32_5) (some y36)) fun y37=>
 bind (bop .str .eql y37 q32_1) fun y38=>
 ret [q32_0,q32_5,q32_5,q32_2,y36,y37,q32_1,y38])) (c8 fun _ _ _ _ _ _ _ q39_7=>
 bind (pick y35 q39_7 (Value.bool false)) fun y40=>
 cnd y40
 (ret (.ret q32_5))
 (bind (bop .int .add q32_5 (Value.int .i64 1)) fun y41=>
 bind (bop .int .add q32_7 (Value.int .i64 1)) fun y42=>
 bind (ld1 (Value.pointer (some ⟨0,0,none⟩))) fun y43=>
 bind (bop .int .leq q32_2 y43) fun y44=>
 bind (ZA y44 true 4 (bind (Γ ZfG [y41]) fun y45=>
 bind (bop .int .gtr y42 y45) fun y46=>
 ret [y42,y41,y45,y46])) (c4 fun _ _ _ q47_3=>
 bind (pick y44 q47_3 (Value.bool false)) fun y48=>
 cnd y48
 (bind (sls q32_0 (some y41) none) fun y49=>
 bind (Γ Zbh [y49,q32_1]) fun y50=>
 bind (bop .int .geq y50 (Value.int .i64 0)) fun y51=>
 cnd y51
 (bind (bop .int .add y50 y41) fun y52=>
 ret (.ret y52))
 (ret (.ret (Value.int .i64 (-1)))))
 (bind (ld1 (Value.pointer (some ⟨0,0,none⟩))) fun y53=>
 bind (bop .int .gtr q32_2 y53) fun y54=>
 bind (ZA y54 true 5 (bind (bop .int .shr y41 (Value.int .u64 4)) fun y55=>
 bind (bop .int .add (Value.int .i64 4) y55) fun y56=>
 bind (bop .int .geq y42 y56) fun y57=>
 ret [y42,y41,y55,y56,y57])) (c5 fun _ _ _ _ q58_4=>
 bind (pick y54 q58_4 (Value.bool false)) fun y59=>
 bind (ZA y59 true 3 (bind (bop .int .lss y41 q32_6) fun y60=>
 ret [y41,q32_6,y60])) (c3 fun _ _ q61_2=>
 bind (pick y59 q61_2 (Value.bool false)) fun y62=>
 cnd y62
 (bind (sls q32_0 (some y41) none) fun y63=>
 bind (Γ Zb3 [y63,q32_1]) fun y64=>
 bind (bop .int .lss y64 (Value.int .i64 0)) fun y65=>
 cnd y65
 (ret (.ret (Value.int .i64 (-1))))
 (bind (bop .int .add y41 y64) fun y66=>
 ret (.ret y66)))
 (ret (.nrm [q32_0,q32_1,q32_2,q32_3,q32_4,y41,q32_6,y42]))))))))) noX ZP)
 (ret (.ext 1 []))
noncomputable def Ym (Γ : Zd) (x0 x1 : Value) : M Value:=
 bind (QE x1) fun y1=>
 bind (bop .int .eql y1 (Value.int .i64 0)) fun y2=>
 bind (ZA y2 false 3 (bind (bop .str .eql x1 x0) fun y3=>
 ret [x1,x0,y3])) (c3 fun _ _ q4_2=>
 bind (pick y2 (Value.bool true) q4_2) fun y5=>
 cnd y5
 (ret (Value.int .i64 0))
 (bind (bop .int .eql y1 (Value.int .i64 1)) fun y6=>
 cnd y6
 (bind (ixs x1 (Value.int .i64 0)) fun y7=>
 bind (Γ JV [x0,y7]) fun y8=>
 ret y8)
 (bind (QE x0) fun y9=>
 bind (bop .int .geq y1 y9) fun y10=>
 cnd y10
 (ret (Value.int .i64 (-1)))
 (bind (ld1 (Value.pointer (some ⟨0,0,none⟩))) fun y11=>
 bind (bop .int .leq y1 y11) fun y12=>
 bind (ZA y12 true 3 (bind (QE x0) fun y13=>
 bind (bop .int .leq y13 (Value.int .i64 64)) fun y14=>
 ret [x0,y13,y14])) (c3 fun _ _ q15_2=>
 bind (pick y12 q15_2 (Value.bool false)) fun y16=>
 cnd y16
 (bind (Γ Zbh [x0,x1]) fun y17=>
 ret y17)
 (bind (ixs x1 (Value.int .i64 0)) fun y18=>
 bind (ixs x1 (Value.int .i64 1)) fun y19=>
 bind (QE x0) fun y20=>
 bind (bop .int .sub y20 y1) fun y21=>
 bind (bop .int .add y21 (Value.int .i64 1)) fun y22=>
 jn (Zi (c8 (Ym.l1 Γ)) [x0,x1,y1,y18,y19,(Value.int .i64 0),y22,(Value.int .i64 0)]) noN (xk 1 (c0 (ret (Value.int .i64 (-1)))) noX) ret))))))
theorem Zez (Γ : Zd) (x0 x1 : Value) : ZG Tryz.prog Γ Tryz.f144 Zbo [x0,x1]=Ym Γ x0 x1:=by kernel_rfl
theorem Zel {prim : FuncId→Option (List Value→M Value)} (hp : prim Jd=none) (n : Nat) (x0 x1 : Value) : run Tryz.prog prim lvs (n+1) Jd [x0,x1]=Ym (run Tryz.prog prim lvs n) x0 x1:=
 (Zr hp (by kernel_rfl) Tryz.func144 (by kernel_rfl)).trans (Zez _ x0 x1)
noncomputable def ZfW.l1 (Γ : Zd) (s0 s1 s6 s7 : Value) : M Out:=
 bind (bop .int .sub s1 (Value.int .i64 1)) fun y8=>
 bind (bop .int .lss s7 y8) fun y9=>
 cnd y9
 (bind (Γ Zdo [s0]) fun y10=>
 bind (Zh y10 0) fun y11=>
 bind (Zh y10 1) fun y12=>
 bind (sls s0 none (some y12)) fun y13=>
 bind (ixa 1 s6 s7) fun y14=>
 bind (st1 y14 y13) fun _=>
 bind (sls s0 (some y12) none) fun y15=>
 bind (bop .int .add s7 (Value.int .i64 1)) fun y16=>
 ret (.nrm [y15,s1,s6,y16]))
 (ret (.ext 0 [s0,s1,s6]))
noncomputable def ZfW (Γ : Zd) (x0 x1 : Value) : M Value:=
 bind (Γ ZaC [x0]) fun y1=>
 bind (bop .int .lss x1 (Value.int .i64 0)) fun y2=>
 bind (ZA y2 false 3 (bind (bop .int .gtr x1 y1) fun y3=>
 ret [x1,y1,y3])) (c3 fun _ _ q4_2=>
 bind (pick y2 (Value.bool true) q4_2) fun y5=>
 jn (cnd y5
 (ret (.nrm [x0,y1]))
 (ret (.nrm [x0,x1]))) (c2 fun q6_0 q6_1=>
 bind (mks 1 16 (.string ⟨#[]⟩) q6_1 q6_1) fun y7=>
 jn (Zi (c4 (ZfW.l1 Γ)) [q6_0,q6_1,y7,(Value.int .i64 0)]) noN (xk 0 (c3 fun q18_0 q18_1 q18_2=>
 bind (bop .int .gtr q18_1 (Value.int .i64 0)) fun y19=>
 jn (cnd y19
 (bind (bop .int .sub q18_1 (Value.int .i64 1)) fun y20=>
 bind (ixa 1 q18_2 y20) fun y21=>
 bind (st1 y21 q18_0) fun _=>
 ret (.nrm [q18_2]))
 (ret (.nrm [q18_2]))) (c1 fun q22_0=>
 ret q22_0) noX ret) noX) ret) noX ret)
noncomputable def Zbb.l1 (Γ : Zd) (s0 s1 s5 : Value) : M Out:=
 bind (Γ WV [s0,s1]) fun y9=>
 bind (bop .int .eql y9 (Value.int .i64 (-1))) fun y10=>
 cnd y10
 (ret (.ret s5))
 (bind (bop .int .add s5 (Value.int .i64 1)) fun y11=>
 bind (QE s1) fun y12=>
 bind (bop .int .add y9 y12) fun y13=>
 bind (sls s0 (some y13) none) fun y14=>
 ret (.nrm [y14,s1,y11]))
noncomputable def Zbb (Γ : Zd) (x0 x1 : Value) : M Value:=
 bind (QE x1) fun y1=>
 bind (bop .int .eql y1 (Value.int .i64 0)) fun y2=>
 cnd y2
 (bind (Γ ZaC [x0]) fun y3=>
 bind (bop .int .add y3 (Value.int .i64 1)) fun y4=>
 ret y4)
 (bind (QE x1) fun y5=>
 bind (bop .int .eql y5 (Value.int .i64 1)) fun y6=>
 cnd y6
 (bind (ixs x1 (Value.int .i64 0)) fun y7=>
 bind (Γ YX [x0,y7]) fun y8=>
 ret y8)
 (jn (Zi (c3 (Zbb.l1 Γ)) [x0,x1,(Value.int .i64 0)]) noN noX ret))
theorem ZmC (Γ : Zd) (x0 x1 : Value) : ZG Tryz.prog Γ Tryz.f146 Zgo [x0,x1]=Zbb Γ x0 x1:=by kernel_rfl
theorem Zk1 {prim : FuncId→Option (List Value→M Value)} (hp : prim Zbc=none) (n : Nat) (x0 x1 : Value) : run Tryz.prog prim lvs (n+1) Zbc [x0,x1]=Zbb (run Tryz.prog prim lvs n) x0 x1:=
 (Zr hp (by kernel_rfl) Tryz.func146 (by kernel_rfl)).trans (ZmC _ x0 x1)
noncomputable def Zec (Γ : Zd) (x0 x1 : Value) : M Value:=
 bind (Γ Jd [x0,x1]) fun y1=>
 ret y1
theorem ZmO (Γ : Zd) (x0 x1 : Value) : ZG Tryz.prog Γ Tryz.f147 Zgq [x0,x1]=Zec Γ x0 x1:=by kernel_rfl
theorem Zlw {prim : FuncId→Option (List Value→M Value)} (hp : prim WV=none) (n : Nat) (x0 x1 : Value) : run Tryz.prog prim lvs (n+1) WV [x0,x1]=Zec (run Tryz.prog prim lvs n) x0 x1:=
 (Zr hp (by kernel_rfl) Tryz.func147 (by kernel_rfl)).trans (ZmO _ x0 x1)
noncomputable def Z9.l2 (Γ : Zd) (s0 s1 s2 s3 s8 s9 : Value) : M Out:=
 bind (bop .int .gtr s9 s1) fun y3=>
 bind (Zq y3 true (ret s3)) fun y4=>
 bind (Zq y3 true (ret s0)) fun y5=>
 bind (Zq y3 true (ret s9)) fun y6=>
 bind (Zq y3 true (ixa 1 y5 y6)) fun y7=>
 bind (Zq y3 true (ld1 y7)) fun y8=>
 bind (Zq y3 true (ret s0)) fun y9=>
 bind (Zq y3 true (ret s9)) fun y10=>
 bind (Zq y3 true (bop .int .sub y10 (Value.int .i64 1))) fun y11=>
 bind (Zq y3 true (ixa 1 y9 y11)) fun y12=>
 bind (Zq y3 true (ld1 y12)) fun y13=>
 bind (Zq y3 true (Jf Γ y4 [y8,y13])) fun y14=>
 bind (Zq y3 true (bop .int .lss y14 (Value.int .i64 0))) fun y15=>
 bind (pick y3 y15 (Value.bool false)) fun y16=>
 cnd y16
 (bind (bop .int .sub s9 (Value.int .i64 1)) fun y17=>
 bind (bop .int .sub s9 (Value.int .i64 1)) fun y18=>
 bind (ixa 1 s0 y18) fun y19=>
 bind (ld1 y19) fun y20=>
 bind (ixa 1 s0 s9) fun y21=>
 bind (ld1 y21) fun y22=>
 bind (ixa 1 s0 s9) fun y23=>
 bind (st1 y23 y20) fun _=>
 bind (ixa 1 s0 y17) fun y24=>
 bind (st1 y24 y22) fun _=>
 bind (bop .int .sub s9 (Value.int .i64 1)) fun y25=>
 ret (.nrm [s0,s1,s2,s3,s8,y25]))
 (ret (.ext 2 [s0,s1,s2,s3,s8]))
noncomputable def Z9.l1 (Γ : Zd) (s0 s1 s2 s3 s8 : Value) : M Out:=
 bind (bop .int .lss s8 s2) fun y2=>
 cnd y2
 (jn (Zi (c6 (Z9.l2 Γ)) [s0,s1,s2,s3,s8,s8]) noN (xk 2 (c5 fun q27_0 q27_1 q27_2 q27_3 q27_4=>
 bind (bop .int .add q27_4 (Value.int .i64 1)) fun y28=>
 ret (.nrm [q27_0,q27_1,q27_2,q27_3,y28])) noX) ZP)
 (ret (.ext 0 []))
noncomputable def Z9 (Γ : Zd) (x0 x1 x2 x3 : Value) : M Value:=
 bind (bop .int .add x1 (Value.int .i64 1)) fun y1=>
 jn (Zi (c5 (Z9.l1 Γ)) [x0,x1,x2,x3,y1]) noN (xk 0 (c0 (ret (Value.tuple #[]))) noX) ret
theorem Zco (Γ : Zd) (x0 x1 x2 x3 : Value) : ZG Tryz.prog Γ Tryz.f148 Wk [x0,x1,x2,x3]=Z9 Γ x0 x1 x2 x3:=by kernel_rfl
theorem Zck {prim : FuncId→Option (List Value→M Value)} (hp : prim Jj=none) (n : Nat) (x0 x1 x2 x3 : Value) : run Tryz.prog prim lvs (n+1) Jj [x0,x1,x2,x3]=Z9 (run Tryz.prog prim lvs n) x0 x1 x2 x3:=
 (Zr hp (by kernel_rfl) Tryz.func148 (by kernel_rfl)).trans (Zco _ x0 x1 x2 x3)
noncomputable def YJ.l1 (Γ : Zd) (s0 s3 s8 s9 s10 s11 : Value) : M Out:=
 bind (bop .int .geq s11 (Value.int .i64 0)) fun y4=>
 cnd y4
 (bind (Γ ZaZ [s0,s11,s10,s8,s3]) fun y5=>
 bind (bop .int .sub s11 (Value.int .i64 1)) fun y6=>
 ret (.nrm [s0,s3,s8,s9,s10,y6]))
 (ret (.ext 0 [s0,s3,s8,s9,s10]))
noncomputable def YJ.l2 (Γ : Zd) (s0 s3 s8 s9 s12 : Value) : M Out:=
 bind (bop .int .geq s12 (Value.int .i64 0)) fun y10=>
 cnd y10
 (bind (bop .int .add s8 s12) fun y11=>
 bind (bop .int .add s8 s12) fun y12=>
 bind (ixa 1 s0 y12) fun y13=>
 bind (ld1 y13) fun y14=>
 bind (ixa 1 s0 s8) fun y15=>
 bind (ld1 y15) fun y16=>
 bind (ixa 1 s0 s8) fun y17=>
 bind (st1 y17 y14) fun _=>
 bind (ixa 1 s0 y11) fun y18=>
 bind (st1 y18 y16) fun _=>
 bind (Γ ZaZ [s0,s9,s12,s8,s3]) fun y19=>
 bind (bop .int .sub s12 (Value.int .i64 1)) fun y20=>
 ret (.nrm [s0,s3,s8,s9,y20]))
 (ret (.ext 2 []))
noncomputable def YJ (Γ : Zd) (x0 x1 x2 x3 : Value) : M Value:=
 bind (bop .int .sub x2 x1) fun y1=>
 bind (bop .int .sub y1 (Value.int .i64 1)) fun y2=>
 bind (bop .int .quo y2 (Value.int .i64 2)) fun y3=>
 jn (Zi (c6 (YJ.l1 Γ)) [x0,x3,x1,(Value.int .i64 0),y1,y3]) noN (xk 0 (c5 fun q8_0 q8_1 q8_2 q8_3 q8_4=>
 bind (bop .int .sub q8_4 (Value.int .i64 1)) fun y9=>
 jn (Zi (c5 (YJ.l2 Γ)) [q8_0,q8_1,q8_2,q8_3,y9]) noN (xk 2 (c0 (ret (Value.tuple #[]))) noX) ret) noX) ret
noncomputable def Wp.l1 (Γ : Zd) (s0 s1 s8 s9 s10 s11 : Value) : M Out:=
 bind (bop .int .quo s8 (Value.int .i64 4)) fun y10=>
 bind (bop .int .mul y10 (Value.int .i64 2)) fun y11=>
 bind (bop .int .add s1 y11) fun y12=>
 bind (bop .int .add y12 (Value.int .i64 1)) fun y13=>
 bind (bop .int .leq s11 y13) fun y14=>
 cnd y14
 (bind (Γ ZhK [s9]) fun y15=>
 bind (bop .int .sub s10 (Value.int .u64 1)) fun y16=>
 bind (bop .int .and y15 y16) fun y17=>
 bind (cvi .i64 y17) fun y18=>
 bind (bop .int .geq y18 s8) fun y19=>
 jn (cnd y19
 (bind (bop .int .sub y18 s8) fun y20=>
 ret (.nrm [s0,s1,s8,s9,s10,s11,y20]))
 (ret (.nrm [s0,s1,s8,s9,s10,s11,y18]))) (c7 fun q21_0 q21_1 q21_2 q21_3 q21_4 q21_5 q21_6=>
 bind (bop .int .add q21_1 q21_6) fun y22=>
 bind (bop .int .add q21_1 q21_6) fun y23=>
 bind (ixa 1 q21_0 y23) fun y24=>
 bind (ld1 y24) fun y25=>
 bind (ixa 1 q21_0 q21_5) fun y26=>
 bind (ld1 y26) fun y27=>
 bind (ixa 1 q21_0 q21_5) fun y28=>
 bind (st1 y28 y25) fun _=>
 bind (ixa 1 q21_0 y22) fun y29=>
 bind (st1 y29 y27) fun _=>
 bind (bop .int .add q21_5 (Value.int .i64 1)) fun y30=>
 ret (.nrm [q21_0,q21_1,q21_2,q21_3,q21_4,y30])) noX ZP)
 (ret (.ext 0 []))
noncomputable def Wp (Γ : Zd) (x0 x1 x2 x3 : Value) : M Value:=
 bind (bop .int .sub x2 x1) fun y1=>
 bind (bop .int .geq y1 (Value.int .i64 8)) fun y2=>
 jn (cnd y2
 (bind (cvi .u64 y1) fun y3=>
 bind (alc 1 (.int .u64 0)) fun y4=>
 bind (st1 y4 y3) fun _=>
 bind (Γ ZgI [y1]) fun y5=>
 bind (bop .int .quo y1 (Value.int .i64 4)) fun y6=>
 bind (bop .int .mul y6 (Value.int .i64 2)) fun y7=>
 bind (bop .int .add x1 y7) fun y8=>
 bind (bop .int .sub y8 (Value.int .i64 1)) fun y9=>
 jn (Zi (c6 (Wp.l1 Γ)) [x0,x1,y1,y4,y5,y9]) noN (xk 0 (c0 (ret (.nrm []))) noX) ZP)
 (ret (.nrm []))) (c0 (ret (Value.tuple #[]))) noX ret
noncomputable def WO.l1 (Γ : Zd) (s0 s8 s9 : Value) : M Out:=
 bind (bop .int .lss s8 s9) fun y2=>
 cnd y2
 (bind (ixa 1 s0 s9) fun y3=>
 bind (ld1 y3) fun y4=>
 bind (ixa 1 s0 s8) fun y5=>
 bind (ld1 y5) fun y6=>
 bind (ixa 1 s0 s8) fun y7=>
 bind (st1 y7 y4) fun _=>
 bind (ixa 1 s0 s9) fun y8=>
 bind (st1 y8 y6) fun _=>
 bind (bop .int .add s8 (Value.int .i64 1)) fun y9=>
 bind (bop .int .sub s9 (Value.int .i64 1)) fun y10=>
 ret (.nrm [s0,y9,y10]))
 (ret (.ext 0 []))
noncomputable def WO (Γ : Zd) (x0 x1 x2 x3 : Value) : M Value:=
 bind (bop .int .sub x2 (Value.int .i64 1)) fun y1=>
 jn (Zi (c3 (WO.l1 Γ)) [x0,x1,y1]) noN (xk 0 (c0 (ret (Value.tuple #[]))) noX) ret
noncomputable def ZQ.l2 (Γ : Zd) (s0 s1 s2 s3 s9 s10 : Value) : M Out:=
 bind (bop .int .lss s9 s2) fun y3=>
 bind (Zq y3 true (ret s3)) fun y4=>
 bind (Zq y3 true (ret s0)) fun y5=>
 bind (Zq y3 true (ret s9)) fun y6=>
 bind (Zq y3 true (ixa 1 y5 y6)) fun y7=>
 bind (Zq y3 true (ld1 y7)) fun y8=>
 bind (Zq y3 true (ret s0)) fun y9=>
 bind (Zq y3 true (ret s9)) fun y10=>
 bind (Zq y3 true (bop .int .sub y10 (Value.int .i64 1))) fun y11=>
 bind (Zq y3 true (ixa 1 y9 y11)) fun y12=>
 bind (Zq y3 true (ld1 y12)) fun y13=>
 bind (Zq y3 true (Jf Γ y4 [y8,y13])) fun y14=>
 bind (Zq y3 true (bop .int .lss y14 (Value.int .i64 0))) fun y15=>
 bind (Zq y3 true (uop .not y15)) fun y16=>
 bind (pick y3 y16 (Value.bool false)) fun y17=>
 cnd y17
 (bind (bop .int .add s9 (Value.int .i64 1)) fun y18=>
 ret (.nrm [s0,s1,s2,s3,y18,s10]))
 (ret (.ext 2 [s0,s1,s2,s3,s9,s10]))
noncomputable def ZQ.l3 (Γ : Zd) (s0 s1 s2 s3 s9 s10 s11 : Value) : M Out:=
 bind (bop .int .geq s11 (Value.int .i64 1)) fun y35=>
 cnd y35
 (bind (ixa 1 s0 s11) fun y36=>
 bind (ld1 y36) fun y37=>
 bind (bop .int .sub s11 (Value.int .i64 1)) fun y38=>
 bind (ixa 1 s0 y38) fun y39=>
 bind (ld1 y39) fun y40=>
 bind (Jf Γ s3 [y37,y40]) fun y41=>
 bind (bop .int .lss y41 (Value.int .i64 0)) fun y42=>
 bind (uop .not y42) fun y43=>
 cnd y43
 (ret (.ext 4 [s0,s1,s2,s3,s9,s10]))
 (bind (bop .int .sub s11 (Value.int .i64 1)) fun y44=>
 bind (bop .int .sub s11 (Value.int .i64 1)) fun y45=>
 bind (ixa 1 s0 y45) fun y46=>
 bind (ld1 y46) fun y47=>
 bind (ixa 1 s0 s11) fun y48=>
 bind (ld1 y48) fun y49=>
 bind (ixa 1 s0 s11) fun y50=>
 bind (st1 y50 y47) fun _=>
 bind (ixa 1 s0 y44) fun y51=>
 bind (st1 y51 y49) fun _=>
 bind (bop .int .sub s11 (Value.int .i64 1)) fun y52=>
 ret (.nrm [s0,s1,s2,s3,s9,s10,y52])))
 (ret (.ext 4 [s0,s1,s2,s3,s9,s10]))
noncomputable def ZQ.l4 (Γ : Zd) (s0 s1 s2 s3 s9 s10 s12 : Value) : M Out:=
 bind (bop .int .lss s12 s2) fun y62=>
 cnd y62
 (bind (ixa 1 s0 s12) fun y63=>
 bind (ld1 y63) fun y64=>
 bind (bop .int .sub s12 (Value.int .i64 1)) fun y65=>
 bind (ixa 1 s0 y65) fun y66=>
 bind (ld1 y66) fun y67=>
 bind (Jf Γ s3 [y64,y67]) fun y68=>
 bind (bop .int .lss y68 (Value.int .i64 0)) fun y69=>
 bind (uop .not y69) fun y70=>
 cnd y70
 (ret (.ext 6 [s0,s1,s2,s3,s9,s10]))
 (bind (bop .int .sub s12 (Value.int .i64 1)) fun y71=>
 bind (bop .int .sub s12 (Value.int .i64 1)) fun y72=>
 bind (ixa 1 s0 y72) fun y73=>
 bind (ld1 y73) fun y74=>
 bind (ixa 1 s0 s12) fun y75=>
 bind (ld1 y75) fun y76=>
 bind (ixa 1 s0 s12) fun y77=>
 bind (st1 y77 y74) fun _=>
 bind (ixa 1 s0 y71) fun y78=>
 bind (st1 y78 y76) fun _=>
 bind (bop .int .add s12 (Value.int .i64 1)) fun y79=>
 ret (.nrm [s0,s1,s2,s3,s9,s10,y79])))
 (ret (.ext 6 [s0,s1,s2,s3,s9,s10]))
noncomputable def ZQ.l1 (Γ : Zd) (s0 s1 s2 s3 s9 s10 : Value) : M Out:=
 bind (bop .int .lss s10 (Value.int .i64 5)) fun y2=>
 cnd y2
 (jn (Zi (c6 (ZQ.l2 Γ)) [s0,s1,s2,s3,s9,s10]) noN (xk 2 (c6 fun q20_0 q20_1 q20_2 q20_3 q20_4 q20_5=>
 bind (bop .int .eql q20_4 q20_2) fun y21=>
 cnd y21
 (ret (.ret (Value.bool true)))
 (bind (bop .int .sub q20_2 q20_1) fun y22=>
 bind (bop .int .lss y22 (Value.int .i64 50)) fun y23=>
 cnd y23
 (ret (.ret (Value.bool false)))
 (bind (bop .int .sub q20_4 (Value.int .i64 1)) fun y24=>
 bind (bop .int .sub q20_4 (Value.int .i64 1)) fun y25=>
 bind (ixa 1 q20_0 y25) fun y26=>
 bind (ld1 y26) fun y27=>
 bind (ixa 1 q20_0 q20_4) fun y28=>
 bind (ld1 y28) fun y29=>
 bind (ixa 1 q20_0 q20_4) fun y30=>
 bind (st1 y30 y27) fun _=>
 bind (ixa 1 q20_0 y24) fun y31=>
 bind (st1 y31 y29) fun _=>
 bind (bop .int .sub q20_4 q20_1) fun y32=>
 bind (bop .int .geq y32 (Value.int .i64 2)) fun y33=>
 jn (cnd y33
 (bind (bop .int .sub q20_4 (Value.int .i64 1)) fun y34=>
 jn (jn (Zi (c7 (ZQ.l3 Γ)) [q20_0,q20_1,q20_2,q20_3,q20_4,q20_5,y34]) noN (xk 4 (c6 fun q54_0 q54_1 q54_2 q54_3 q54_4 q54_5=>
 ret (.nrm [q54_0,q54_1,q54_2,q54_3,q54_4,q54_5])) noX) ZP) (c6 fun q56_0 q56_1 q56_2 q56_3 q56_4 q56_5=>
 ret (.nrm [q56_0,q56_1,q56_2,q56_3,q56_4,q56_5])) noX ZP)
 (ret (.nrm [q20_0,q20_1,q20_2,q20_3,q20_4,q20_5]))) (c6 fun q58_0 q58_1 q58_2 q58_3 q58_4 q58_5=>
 bind (bop .int .sub q58_2 q58_4) fun y59=>
 bind (bop .int .geq y59 (Value.int .i64 2)) fun y60=>
 jn (cnd y60
 (bind (bop .int .add q58_4 (Value.int .i64 1)) fun y61=>
 jn (jn (Zi (c7 (ZQ.l4 Γ)) [q58_0,q58_1,q58_2,q58_3,q58_4,q58_5,y61]) noN (xk 6 (c6 fun q81_0 q81_1 q81_2 q81_3 q81_4 q81_5=>
 ret (.nrm [q81_0,q81_1,q81_2,q81_3,q81_4,q81_5])) noX) ZP) (c6 fun q83_0 q83_1 q83_2 q83_3 q83_4 q83_5=>
 ret (.nrm [q83_0,q83_1,q83_2,q83_3,q83_4,q83_5])) noX ZP)
 (ret (.nrm [q58_0,q58_1,q58_2,q58_3,q58_4,q58_5]))) (c6 fun q85_0 q85_1 q85_2 q85_3 q85_4 q85_5=>
 bind (bop .int .add q85_5 (Value.int .i64 1)) fun y86=>
 ret (.nrm [q85_0,q85_1,q85_2,q85_3,q85_4,y86])) noX ZP) noX ZP))) noX) ZP)
 (ret (.ext 0 []))
noncomputable def ZQ (Γ : Zd) (x0 x1 x2 x3 : Value) : M Value:=
 bind (bop .int .add x1 (Value.int .i64 1)) fun y1=>
 jn (Zi (c6 (ZQ.l1 Γ)) [x0,x1,x2,x3,y1,(Value.int .i64 0)]) noN (xk 0 (c0 (ret (Value.bool false))) noX) ret
noncomputable def QC.l2 (Γ : Zd) (s0 s1 s4 s11 s12 : Value) : M Out:=
 bind (bop .int .leq s11 s12) fun y9=>
 bind (Zq y9 true (ret s4)) fun y10=>
 bind (Zq y9 true (ret s0)) fun y11=>
 bind (Zq y9 true (ret s1)) fun y12=>
 bind (Zq y9 true (ixa 1 y11 y12)) fun y13=>
 bind (Zq y9 true (ld1 y13)) fun y14=>
 bind (Zq y9 true (ret s0)) fun y15=>
 bind (Zq y9 true (ret s11)) fun y16=>
 bind (Zq y9 true (ixa 1 y15 y16)) fun y17=>
 bind (Zq y9 true (ld1 y17)) fun y18=>
 bind (Zq y9 true (Jf Γ y10 [y14,y18])) fun y19=>
 bind (Zq y9 true (bop .int .lss y19 (Value.int .i64 0))) fun y20=>
 bind (Zq y9 true (uop .not y20)) fun y21=>
 bind (pick y9 y21 (Value.bool false)) fun y22=>
 cnd y22
 (bind (bop .int .add s11 (Value.int .i64 1)) fun y23=>
 ret (.nrm [s0,s1,s4,y23,s12]))
 (ret (.ext 2 [s0,s1,s4,s11,s12]))
noncomputable def QC.l3 (Γ : Zd) (s0 s1 s4 s11 s12 : Value) : M Out:=
 bind (bop .int .leq s11 s12) fun y26=>
 bind (Zq y26 true (ret s4)) fun y27=>
 bind (Zq y26 true (ret s0)) fun y28=>
 bind (Zq y26 true (ret s1)) fun y29=>
 bind (Zq y26 true (ixa 1 y28 y29)) fun y30=>
 bind (Zq y26 true (ld1 y30)) fun y31=>
 bind (Zq y26 true (ret s0)) fun y32=>
 bind (Zq y26 true (ret s12)) fun y33=>
 bind (Zq y26 true (ixa 1 y32 y33)) fun y34=>
 bind (Zq y26 true (ld1 y34)) fun y35=>
 bind (Zq y26 true (Jf Γ y27 [y31,y35])) fun y36=>
 bind (Zq y26 true (bop .int .lss y36 (Value.int .i64 0))) fun y37=>
 bind (pick y26 y37 (Value.bool false)) fun y38=>
 cnd y38
 (bind (bop .int .sub s12 (Value.int .i64 1)) fun y39=>
 ret (.nrm [s0,s1,s4,s11,y39]))
 (ret (.ext 4 [s0,s1,s4,s11,s12]))
noncomputable def QC.l1 (Γ : Zd) (s0 s1 s4 s11 s12 : Value) : M Out:=
 jn (Zi (c5 (QC.l2 Γ)) [s0,s1,s4,s11,s12]) noN (xk 2 (c5 fun q25_0 q25_1 q25_2 q25_3 q25_4=>
 jn (Zi (c5 (QC.l3 Γ)) [q25_0,q25_1,q25_2,q25_3,q25_4]) noN (xk 4 (c5 fun q41_0 q41_1 q41_2 q41_3 q41_4=>
 bind (bop .int .gtr q41_3 q41_4) fun y42=>
 cnd y42
 (ret (.ext 0 [q41_3]))
 (bind (ixa 1 q41_0 q41_4) fun y43=>
 bind (ld1 y43) fun y44=>
 bind (ixa 1 q41_0 q41_3) fun y45=>
 bind (ld1 y45) fun y46=>
 bind (ixa 1 q41_0 q41_3) fun y47=>
 bind (st1 y47 y44) fun _=>
 bind (ixa 1 q41_0 q41_4) fun y48=>
 bind (st1 y48 y46) fun _=>
 bind (bop .int .add q41_3 (Value.int .i64 1)) fun y49=>
 bind (bop .int .sub q41_4 (Value.int .i64 1)) fun y50=>
 ret (.nrm [q41_0,q41_1,q41_2,y49,y50]))) noX) ZP) noX) ZP
noncomputable def QC (Γ : Zd) (x0 x1 x2 x3 x4 : Value) : M Value:=
 bind (ixa 1 x0 x3) fun y1=>
 bind (ld1 y1) fun y2=>
 bind (ixa 1 x0 x1) fun y3=>
 bind (ld1 y3) fun y4=>
 bind (ixa 1 x0 x1) fun y5=>
 bind (st1 y5 y2) fun _=>
 bind (ixa 1 x0 x3) fun y6=>
 bind (st1 y6 y4) fun _=>
 bind (bop .int .add x1 (Value.int .i64 1)) fun y7=>
 bind (bop .int .sub x2 (Value.int .i64 1)) fun y8=>
 jn (Zi (c5 (QC.l1 Γ)) [x0,x1,x4,y7,y8]) noN (xk 0 (c1 fun q54_0=>
 ret q54_0) noX) ret
noncomputable def ZW.l1 (Γ : Zd) (s0 s1 s4 s12 s13 : Value) : M Out:=
 bind (bop .int .leq s12 s13) fun y9=>
 bind (Zq y9 true (ret s4)) fun y10=>
 bind (Zq y9 true (ret s0)) fun y11=>
 bind (Zq y9 true (ret s12)) fun y12=>
 bind (Zq y9 true (ixa 1 y11 y12)) fun y13=>
 bind (Zq y9 true (ld1 y13)) fun y14=>
 bind (Zq y9 true (ret s0)) fun y15=>
 bind (Zq y9 true (ret s1)) fun y16=>
 bind (Zq y9 true (ixa 1 y15 y16)) fun y17=>
 bind (Zq y9 true (ld1 y17)) fun y18=>
 bind (Zq y9 true (Jf Γ y10 [y14,y18])) fun y19=>
 bind (Zq y9 true (bop .int .lss y19 (Value.int .i64 0))) fun y20=>
 bind (pick y9 y20 (Value.bool false)) fun y21=>
 cnd y21
 (bind (bop .int .add s12 (Value.int .i64 1)) fun y22=>
 ret (.nrm [s0,s1,s4,y22,s13]))
 (ret (.ext 0 [s0,s1,s4,s12,s13]))
noncomputable def ZW.l2 (Γ : Zd) (s0 s1 s4 s12 s13 : Value) : M Out:=
 bind (bop .int .leq s12 s13) fun y25=>
 bind (Zq y25 true (ret s4)) fun y26=>
 bind (Zq y25 true (ret s0)) fun y27=>
 bind (Zq y25 true (ret s13)) fun y28=>
 bind (Zq y25 true (ixa 1 y27 y28)) fun y29=>
 bind (Zq y25 true (ld1 y29)) fun y30=>
 bind (Zq y25 true (ret s0)) fun y31=>
 bind (Zq y25 true (ret s1)) fun y32=>
 bind (Zq y25 true (ixa 1 y31 y32)) fun y33=>
 bind (Zq y25 true (ld1 y33)) fun y34=>
 bind (Zq y25 true (Jf Γ y26 [y30,y34])) fun y35=>
 bind (Zq y25 true (bop .int .lss y35 (Value.int .i64 0))) fun y36=>
 bind (Zq y25 true (uop .not y36)) fun y37=>
 bind (pick y25 y37 (Value.bool false)) fun y38=>
 cnd y38
 (bind (bop .int .sub s13 (Value.int .i64 1)) fun y39=>
 ret (.nrm [s0,s1,s4,s12,y39]))
 (ret (.ext 2 [s0,s1,s4,s12,s13]))
noncomputable def ZW.l4 (Γ : Zd) (s0 s1 s4 s12 s13 : Value) : M Out:=
 bind (bop .int .leq s12 s13) fun y57=>
 bind (Zq y57 true (ret s4)) fun y58=>
 bind (Zq y57 true (ret s0)) fun y59=>
 bind (Zq y57 true (ret s12)) fun y60=>
 bind (Zq y57 true (ixa 1 y59 y60)) fun y61=>
 bind (Zq y57 true (ld1 y61)) fun y62=>
 bind (Zq y57 true (ret s0)) fun y63=>
 bind (Zq y57 true (ret s1)) fun y64=>
 bind (Zq y57 true (ixa 1 y63 y64)) fun y65=>
 bind (Zq y57 true (ld1 y65)) fun y66=>
 bind (Zq y57 true (Jf Γ y58 [y62,y66])) fun y67=>
 bind (Zq y57 true (bop .int .lss y67 (Value.int .i64 0))) fun y68=>
 bind (pick y57 y68 (Value.bool false)) fun y69=>
 cnd y69
 (bind (bop .int .add s12 (Value.int .i64 1)) fun y70=>
 ret (.nrm [s0,s1,s4,y70,s13]))
 (ret (.ext 6 [s0,s1,s4,s12,s13]))
noncomputable def ZW.l5 (Γ : Zd) (s0 s1 s4 s12 s13 : Value) : M Out:=
 bind (bop .int .leq s12 s13) fun y73=>
 bind (Zq y73 true (ret s4)) fun y74=>
 bind (Zq y73 true (ret s0)) fun y75=>
 bind (Zq y73 true (ret s13)) fun y76=>
 bind (Zq y73 true (ixa 1 y75 y76)) fun y77=>
 bind (Zq y73 true (ld1 y77)) fun y78=>
 bind (Zq y73 true (ret s0)) fun y79=>
 bind (Zq y73 true (ret s1)) fun y80=>
 bind (Zq y73 true (ixa 1 y79 y80)) fun y81=>
 bind (Zq y73 true (ld1 y81)) fun y82=>
 bind (Zq y73 true (Jf Γ y74 [y78,y82])) fun y83=>
 bind (Zq y73 true (bop .int .lss y83 (Value.int .i64 0))) fun y84=>
 bind (Zq y73 true (uop .not y84)) fun y85=>
 bind (pick y73 y85 (Value.bool false)) fun y86=>
 cnd y86
 (bind (bop .int .sub s13 (Value.int .i64 1)) fun y87=>
 ret (.nrm [s0,s1,s4,s12,y87]))
 (ret (.ext 8 [s0,s1,s4,s12,s13]))
noncomputable def ZW.l3 (Γ : Zd) (s0 s1 s4 s12 s13 : Value) : M Out:=
 jn (Zi (c5 (ZW.l4 Γ)) [s0,s1,s4,s12,s13]) noN (xk 6 (c5 fun q72_0 q72_1 q72_2 q72_3 q72_4=>
 jn (Zi (c5 (ZW.l5 Γ)) [q72_0,q72_1,q72_2,q72_3,q72_4]) noN (xk 8 (c5 fun q89_0 q89_1 q89_2 q89_3 q89_4=>
 bind (bop .int .gtr q89_3 q89_4) fun y90=>
 cnd y90
 (ret (.ext 4 [q89_0,q89_1,q89_4]))
 (bind (ixa 1 q89_0 q89_4) fun y91=>
 bind (ld1 y91) fun y92=>
 bind (ixa 1 q89_0 q89_3) fun y93=>
 bind (ld1 y93) fun y94=>
 bind (ixa 1 q89_0 q89_3) fun y95=>
 bind (st1 y95 y92) fun _=>
 bind (ixa 1 q89_0 q89_4) fun y96=>
 bind (st1 y96 y94) fun _=>
 bind (bop .int .add q89_3 (Value.int .i64 1)) fun y97=>
 bind (bop .int .sub q89_4 (Value.int .i64 1)) fun y98=>
 ret (.nrm [q89_0,q89_1,q89_2,y97,y98]))) noX) ZP) noX) ZP
noncomputable def ZW (Γ : Zd) (x0 x1 x2 x3 x4 : Value) : M Value:=
 bind (ixa 1 x0 x3) fun y1=>
 bind (ld1 y1) fun y2=>
 bind (ixa 1 x0 x1) fun y3=>
 bind (ld1 y3) fun y4=>
 bind (ixa 1 x0 x1) fun y5=>
 bind (st1 y5 y2) fun _=>
 bind (ixa 1 x0 x3) fun y6=>
 bind (st1 y6 y4) fun _=>
 bind (bop .int .add x1 (Value.int .i64 1)) fun y7=>
 bind (bop .int .sub x2 (Value.int .i64 1)) fun y8=>
 jn (Zi (c5 (ZW.l1 Γ)) [x0,x1,x4,y7,y8]) noN (xk 0 (c5 fun q24_0 q24_1 q24_2 q24_3 q24_4=>
 jn (Zi (c5 (ZW.l2 Γ)) [q24_0,q24_1,q24_2,q24_3,q24_4]) noN (xk 2 (c5 fun q41_0 q41_1 q41_2 q41_3 q41_4=>
 bind (bop .int .gtr q41_3 q41_4) fun y42=>
 cnd y42
 (bind (ixa 1 q41_0 q41_1) fun y43=>
 bind (ld1 y43) fun y44=>
 bind (ixa 1 q41_0 q41_4) fun y45=>
 bind (ld1 y45) fun y46=>
 bind (ixa 1 q41_0 q41_4) fun y47=>
 bind (st1 y47 y44) fun _=>
 bind (ixa 1 q41_0 q41_1) fun y48=>
 bind (st1 y48 y46) fun _=>
 ret (Value.tuple #[q41_4,(Value.bool true)]))
 (bind (ixa 1 q41_0 q41_4) fun y49=>
 bind (ld1 y49) fun y50=>
 bind (ixa 1 q41_0 q41_3) fun y51=>
 bind (ld1 y51) fun y52=>
 bind (ixa 1 q41_0 q41_3) fun y53=>
 bind (st1 y53 y50) fun _=>
 bind (ixa 1 q41_0 q41_4) fun y54=>
 bind (st1 y54 y52) fun _=>
 bind (bop .int .add q41_3 (Value.int .i64 1)) fun y55=>
 bind (bop .int .sub q41_4 (Value.int .i64 1)) fun y56=>
 jn (Zi (c5 (ZW.l3 Γ)) [q41_0,q41_1,q41_2,y55,y56]) noN (xk 4 (c3 fun q102_0 q102_1 q102_2=>
 bind (ixa 1 q102_0 q102_1) fun y103=>
 bind (ld1 y103) fun y104=>
 bind (ixa 1 q102_0 q102_2) fun y105=>
 bind (ld1 y105) fun y106=>
 bind (ixa 1 q102_0 q102_2) fun y107=>
 bind (st1 y107 y104) fun _=>
 bind (ixa 1 q102_0 q102_1) fun y108=>
 bind (st1 y108 y106) fun _=>
 ret (Value.tuple #[q102_2,(Value.bool false)])) noX) ret)) noX) ret) noX) ret
noncomputable def ZdT (Γ : Zd) (x0 : Value) : M Value:=
 bind (bop .int .geq x0 (Value.int .u64 4294967296)) fun y1=>
 jn (cnd y1
 (bind (bop .int .shr x0 (Value.int .u64 32)) fun y2=>
 ret (.nrm [y2,(Value.int .i64 32)]))
 (ret (.nrm [x0,(Value.int .i64 0)]))) (c2 fun q3_0 q3_1=>
 bind (bop .int .geq q3_0 (Value.int .u64 65536)) fun y4=>
 jn (cnd y4
 (bind (bop .int .shr q3_0 (Value.int .u64 16)) fun y5=>
 bind (bop .int .add q3_1 (Value.int .i64 16)) fun y6=>
 ret (.nrm [y5,y6]))
 (ret (.nrm [q3_0,q3_1]))) (c2 fun q7_0 q7_1=>
 bind (bop .int .geq q7_0 (Value.int .u64 256)) fun y8=>
 jn (cnd y8
 (bind (bop .int .shr q7_0 (Value.int .u64 8)) fun y9=>
 bind (bop .int .add q7_1 (Value.int .i64 8)) fun y10=>
 ret (.nrm [y9,y10]))
 (ret (.nrm [q7_0,q7_1]))) (c2 fun q11_0 q11_1=>
 bind (cvi .u8 q11_0) fun y12=>
 bind (ixs (Value.string ⟨#[0,1,2,2,3,3,3,3,4,4,4,4,4,4,4,4,5,5,5,5,5,5,5,5,5,5,5,5,5,5,5,5,6,6,6,6,6,6,6,6,6,6,6,6,6,6,6,6,6,6,6,6,6,6,6,6,6,6,6,6,6,6,6,6,7,7,7,7,7,7,7,7,7,7,7,7,7,7,7,7,7,7,7,7,7,7,7,7,7,7,7,7,7,7,7,7,7,7,7,7,7,7,7,7,7,7,7,7,7,7,7,7,7,7,7,7,7,7,7,7,7,7,7,7,7,7,7,7,8,8,8,8,8,8,8,8,8,8,8,8,8,8,8,8,8,8,8,8,8,8,8,8,8,8,8,8,8,8,8,8,8,8,8,8,8,8,8,8,8,8,8,8,8,8,8,8,8,8,8,8,8,8,8,8,8,8,8,8,8,8,8,8,8,8,8,8,8,8,8,8,8,8,8,8,8,8,8,8,8,8,8,8,8,8,8,8,8,8,8,8,8,8,8,8,8,8,8,8,8,8,8,8,8,8,8,8,8,8,8,8,8,8,8,8,8,8,8,8,8,8,8,8,8,8,8,8]⟩) y12) fun y13=>
 bind (cvi .i64 y13) fun y14=>
 bind (bop .int .add q11_1 y14) fun y15=>
 ret y15) noX ret) noX ret) noX ret
theorem Zk6 (Γ : Zd) (x0 : Value) : ZG Tryz.prog Γ Tryz.f157 ZfV [x0]=ZdT Γ x0:=by kernel_rfl
theorem Zki {prim : FuncId→Option (List Value→M Value)} (hp : prim ZbW=none) (n : Nat) (x0 : Value) : run Tryz.prog prim lvs (n+1) ZbW [x0]=ZdT (run Tryz.prog prim lvs n) x0:=
 (Zr hp (by kernel_rfl) Tryz.func157 (by kernel_rfl)).trans (Zk6 _ x0)
noncomputable def KI (Γ : Zd) (x0 x1 : Value) : M Value:=
 bind (Γ Yf [x0,x1]) fun y1=>
 ret y1
theorem Zdq (Γ : Zd) (x0 x1 : Value) : ZG Tryz.prog Γ Tryz.f159 Zam [x0,x1]=KI Γ x0 x1:=by kernel_rfl
theorem Zdc {prim : FuncId→Option (List Value→M Value)} (hp : prim JV=none) (n : Nat) (x0 x1 : Value) : run Tryz.prog prim lvs (n+1) JV [x0,x1]=KI (run Tryz.prog prim lvs n) x0 x1:=
 (Zr hp (by kernel_rfl) Tryz.func159 (by kernel_rfl)).trans (Zdq _ x0 x1)
noncomputable def JS.l1 (Γ : Zd) (s0 s1 s5 s6 s7 s8 s9 : Value) : M Out:=
 bind (bop .int .lss s9 s7) fun y5=>
 cnd y5
 (bind (bop .int .mul s8 (Value.int .u32 16777619)) fun y6=>
 bind (ixs s0 s9) fun y7=>
 bind (cvi .u32 y7) fun y8=>
 bind (bop .int .add y6 y8) fun y9=>
 bind (bop .int .add s9 (Value.int .i64 1)) fun y10=>
 ret (.nrm [s0,s1,s5,s6,s7,y9,y10]))
 (ret (.ext 0 [s0,s1,s5,s6,s7,s8]))
noncomputable def JS.l2 (Γ : Zd) (s0 s1 s5 s6 s7 s8 s10 : Value) : M Out:=
 bind (QE s0) fun y18=>
 bind (bop .int .lss s10 y18) fun y19=>
 cnd y19
 (bind (bop .int .mul s8 (Value.int .u32 16777619)) fun y20=>
 bind (ixs s0 s10) fun y21=>
 bind (cvi .u32 y21) fun y22=>
 bind (bop .int .add y20 y22) fun y23=>
 bind (bop .int .sub s10 s7) fun y24=>
 bind (ixs s0 y24) fun y25=>
 bind (cvi .u32 y25) fun y26=>
 bind (bop .int .mul s6 y26) fun y27=>
 bind (bop .int .sub y23 y27) fun y28=>
 bind (bop .int .add s10 (Value.int .i64 1)) fun y29=>
 bind (bop .int .eql y28 s5) fun y30=>
 bind (ZA y30 true 8 (bind (bop .int .sub y29 s7) fun y31=>
 bind (sls s0 (some y31) (some y29)) fun y32=>
 bind (bop .str .eql y32 s1) fun y33=>
 ret [s0,y29,s7,y31,y29,y32,s1,y33])) (c8 fun _ _ _ _ _ _ _ q34_7=>
 bind (pick y30 q34_7 (Value.bool false)) fun y35=>
 cnd y35
 (bind (bop .int .sub y29 s7) fun y36=>
 ret (.ret y36))
 (ret (.nrm [s0,s1,s5,s6,s7,y28,y29]))))
 (ret (.ext 2 []))
noncomputable def JS (Γ : Zd) (x0 x1 : Value) : M Value:=
 bind (Γ ZdU [x1]) fun y1=>
 bind (Zh y1 0) fun y2=>
 bind (Zh y1 1) fun y3=>
 bind (QE x1) fun y4=>
 jn (Zi (c7 (JS.l1 Γ)) [x0,x1,y2,y3,y4,(Value.int .u32 0),(Value.int .i64 0)]) noN (xk 0 (c6 fun q12_0 q12_1 q12_2 q12_3 q12_4 q12_5=>
 bind (bop .int .eql q12_5 q12_2) fun y13=>
 bind (ZA y13 true 5 (bind (sls q12_0 none (some q12_4)) fun y14=>
 bind (bop .str .eql y14 q12_1) fun y15=>
 ret [q12_0,q12_4,y14,q12_1,y15])) (c5 fun _ _ _ _ q16_4=>
 bind (pick y13 q16_4 (Value.bool false)) fun y17=>
 cnd y17
 (ret (Value.int .i64 0))
 (jn (Zi (c7 (JS.l2 Γ)) [q12_0,q12_1,q12_2,q12_3,q12_4,q12_5,q12_4]) noN (xk 2 (c0 (ret (Value.int .i64 (-1)))) noX) ret))) noX) ret
noncomputable def ZaY.l1 (Γ : Zd) (s0 s2 s3 s4 s10 : Value) : M Out:=
 bind (bop .int .mul (Value.int .i64 2) s10) fun y1=>
 bind (bop .int .add y1 (Value.int .i64 1)) fun y2=>
 bind (bop .int .geq y2 s2) fun y3=>
 cnd y3
 (ret (.ext 0 []))
 (bind (bop .int .add y2 (Value.int .i64 1)) fun y4=>
 bind (bop .int .lss y4 s2) fun y5=>
 bind (Zq y5 true (ret s4)) fun y6=>
 bind (Zq y5 true (ret s0)) fun y7=>
 bind (Zq y5 true (ret s3)) fun y8=>
 bind (Zq y5 true (ret y2)) fun y9=>
 bind (Zq y5 true (bop .int .add y8 y9)) fun y10=>
 bind (Zq y5 true (ixa 1 y7 y10)) fun y11=>
 bind (Zq y5 true (ld1 y11)) fun y12=>
 bind (Zq y5 true (ret s0)) fun y13=>
 bind (Zq y5 true (ret s3)) fun y14=>
 bind (Zq y5 true (ret y2)) fun y15=>
 bind (Zq y5 true (bop .int .add y14 y15)) fun y16=>
 bind (Zq y5 true (bop .int .add y16 (Value.int .i64 1))) fun y17=>
 bind (Zq y5 true (ixa 1 y13 y17)) fun y18=>
 bind (Zq y5 true (ld1 y18)) fun y19=>
 bind (Zq y5 true (Jf Γ y6 [y12,y19])) fun y20=>
 bind (Zq y5 true (bop .int .lss y20 (Value.int .i64 0))) fun y21=>
 bind (pick y5 y21 (Value.bool false)) fun y22=>
 jn (cnd y22
 (bind (bop .int .add y2 (Value.int .i64 1)) fun y23=>
 ret (.nrm [s0,s2,s3,s4,s10,y23]))
 (ret (.nrm [s0,s2,s3,s4,s10,y2]))) (c6 fun q24_0 q24_1 q24_2 q24_3 q24_4 q24_5=>
 bind (bop .int .add q24_2 q24_4) fun y25=>
 bind (ixa 1 q24_0 y25) fun y26=>
 bind (ld1 y26) fun y27=>
 bind (bop .int .add q24_2 q24_5) fun y28=>
 bind (ixa 1 q24_0 y28) fun y29=>
 bind (ld1 y29) fun y30=>
 bind (Jf Γ q24_3 [y27,y30]) fun y31=>
 bind (bop .int .lss y31 (Value.int .i64 0)) fun y32=>
 bind (uop .not y32) fun y33=>
 cnd y33
 (ret (.ret (Value.tuple #[])))
 (bind (bop .int .add q24_2 q24_4) fun y34=>
 bind (bop .int .add q24_2 q24_5) fun y35=>
 bind (bop .int .add q24_2 q24_5) fun y36=>
 bind (ixa 1 q24_0 y36) fun y37=>
 bind (ld1 y37) fun y38=>
 bind (bop .int .add q24_2 q24_4) fun y39=>
 bind (ixa 1 q24_0 y39) fun y40=>
 bind (ld1 y40) fun y41=>
 bind (ixa 1 q24_0 y34) fun y42=>
 bind (st1 y42 y38) fun _=>
 bind (ixa 1 q24_0 y35) fun y43=>
 bind (st1 y43 y41) fun _=>
 ret (.nrm [q24_0,q24_1,q24_2,q24_3,q24_5]))) noX ZP)
noncomputable def ZaY (Γ : Zd) (x0 x1 x2 x3 x4 : Value) : M Value:=
 jn (Zi (c5 (ZaY.l1 Γ)) [x0,x2,x3,x4,x1]) noN (xk 0 (c0 (ret (Value.tuple #[]))) noX) ret
noncomputable def YB.l1 (Γ : Zd) (s0 s4 s5 : Value) : M Out:=
 bind (QE s0) fun y1=>
 bind (bop .int .lss s5 y1) fun y2=>
 cnd y2
 (bind (bop .int .mul s4 (Value.int .u32 16777619)) fun y3=>
 bind (ixs s0 s5) fun y4=>
 bind (cvi .u32 y4) fun y5=>
 bind (bop .int .add y3 y5) fun y6=>
 bind (bop .int .add s5 (Value.int .i64 1)) fun y7=>
 ret (.nrm [s0,y6,y7]))
 (ret (.ext 0 [s0,s4]))
noncomputable def YB.l2 (Γ : Zd) (s4 s6 s7 s8 : Value) : M Out:=
 bind (bop .int .gtr s8 (Value.int .i64 0)) fun y11=>
 cnd y11
 (bind (bop .int .and s8 (Value.int .i64 1)) fun y12=>
 bind (bop .int .neq y12 (Value.int .i64 0)) fun y13=>
 jn (cnd y13
 (bind (bop .int .mul s6 s7) fun y14=>
 ret (.nrm [s4,y14,s7,s8]))
 (ret (.nrm [s4,s6,s7,s8]))) (c4 fun q15_0 q15_1 q15_2 q15_3=>
 bind (bop .int .mul q15_2 q15_2) fun y16=>
 bind (bop .int .shr q15_3 (Value.int .u64 1)) fun y17=>
 ret (.nrm [q15_0,q15_1,y16,y17])) noX ZP)
 (ret (.ext 2 [s4,s6]))
noncomputable def YB (Γ : Zd) (x0 : Value) : M Value:=
 jn (Zi (c3 (YB.l1 Γ)) [x0,(Value.int .u32 0),(Value.int .i64 0)]) noN (xk 0 (c2 fun q9_0 q9_1=>
 bind (QE q9_0) fun y10=>
 jn (Zi (c4 (YB.l2 Γ)) [q9_1,(Value.int .u32 1),(Value.int .u32 16777619),y10]) noN (xk 2 (c2 fun q20_0 q20_1=>
 ret (Value.tuple #[q20_0,q20_1])) noX) ret) noX) ret
end Go.Proofs.YtnnehafmjfmbnaaGreatDoor.A

namespace Go.Proofs.YtnnehafmjfmbnaaGreatDoor.A
set_option linter.unusedVariables false
set_option linter.unusedSimpArgs false
open Go.Sort
section
variable {P : Program} {w0 : Qd} {ι : Nat→Option Loc} {H H1 : Zc} {w w' : World} {v : Value} {G : Nat}
def Zbl (args : List Value) : M Value:=fun H=>
 match args with
 | [.map none]=>some (.map none,H)
 | [.map (some id)]=>match H[id]? with
  | some (.map es clk)=>some (.map (some H.length),H++[.map es clk])
  | some (.mapU es)=>some (.map (some H.length),H++[.mapU es])
  | _=>none
 | _=>none
structure ZfM (P : Program) (g : FuncId) : Prop where
 c : Zce P g
 nil : ∀ w,Calls P g #[.map none] w fun e w'=>e=.returned (.map none)∧w'=w
 some : ∀ b es clock w,w.heap[b]?=some (.map es clock)→Calls P g #[.map (some b)] w fun e w'=>e=.returned (.map (some w.heap.size))∧w'=w.alloc (.map es clock)
theorem Zgt {g : FuncId} (hC : ZfM P g) : Zey P G w0 g Zbl:=by
 intro args H v H1 h
 refine .inl ⟨hC.c,fun ι w args' hS hr=>?_⟩
 unfold Zbl at h
 split at h
 ·cases h
  obtain ⟨x,r,rfl,hx,hr2⟩:=hr.cons_inv
  rw [hr2.nil_inv,hx.scalar_inv rfl]
  refine (hC.nil w).mono fun e w' ⟨he,hw⟩=>⟨ι,_,.refl ι,he,.sc rfl,by rw [hw];exact hS⟩
 ·obtain ⟨x,r,rfl,hx,hr2⟩:=hr.cons_inv
  obtain ⟨l,hl,rfl⟩:=hx.map_inv
  rw [hr2.nil_inv]
  split at h
  ·rename_i id _ es clk hid
   cases h
   obtain ⟨en,hb,hge,hE⟩:=hS.mapR hid hl
   refine (hC.some l.blk en clk w hb).mono fun e w' ⟨he,hw⟩=>?_
   have hnew:=hS.new (x:=.map es clk) (l:=⟨w.heap.size,0,0,0,false⟩) (.map en clk) rfl ⟨_,en,Qg _ _ _,Zdh w _,hS.size,hE.mono (J8 hS _)⟩
   exact ⟨_,_,J8 hS _,he,.mp (Qg _ _ _),by rw [hw];exact hnew⟩
  ·rename_i id _ es hid
   cases h
   obtain ⟨en,clk,es2,hb,hge,hE,hp⟩:=hS.mapUR hid hl
   refine (hC.some l.blk en clk w hb).mono fun e w' ⟨he,hw⟩=>?_
   have hnew:=hS.new (x:=.mapU es) (l:=⟨w.heap.size,0,0,0,false⟩) (.map en clk) rfl ⟨_,en,clk,es2,Qg _ _ _,Zdh w _,hS.size,hE.mono (J8 hS _),hp⟩
   exact ⟨_,_,J8 hS _,he,.mp (Qg _ _ _),by rw [hw];exact hnew⟩
  ·cases h
 ·cases h
abbrev Yl (ks : List (List UInt8)) : List (List UInt8):=ks.mergeSort leB
structure Zew (es : List (Value × Value × Nat)) (ks : List (List UInt8)) : Prop where
 keys : es.map (·.1)=ks.map strv
 nod : ks.Nodup
 few : ks.length≤1000000
 len : ∀ k∈ks,k.length≤1000000
theorem ZlG {a b : List UInt8} (h : strv a=strv b) : a=b:=by simpa [strv] using h
theorem Zph {a b : List (List UInt8)} (h : a.map strv=b.map strv) : a=b:=by
 have : Function.Injective strv:=fun _ _ h=>ZlG h
 exact (List.map_inj_right (fun _ _ h=>ZlG h)).1 h
def ZgM (ks : List (List UInt8)) (H : Zc) : Option (Value × Zc):=
 if ks=[] then some (.slice none 0 0,H)
 else some (.slice (some ⟨H.length,0,none⟩) ks.length ks.length,H++[.cells ((Yl ks).map strv) 1 true false])
open Classical in
noncomputable def ZcH (gks : List FuncId) (gc : FuncId) (args : List Value) : M Value:=fun H=>
 if h : ∃ gk c id es ks,gk∈gks∧args=[.func (.func gk) #[] #[pt c],.func (.func gc) #[] #[]]∧(∃ e,H[c]?=some (.cells [.map (some id)] e false false))∧Zew es ks∧((∃ clk,H[id]?=some (.map es clk)∧ZbA es clk)∨H[id]?=some (.mapU es)) then
  ZgM (Classical.choose (Classical.choose_spec (Classical.choose_spec (Classical.choose_spec (Classical.choose_spec h))))) H
 else none
theorem Zo7 {gks : List FuncId} {gc gk : FuncId} {c id e : Nat} {es : List (Value × Value × Nat)} {ks : List (List UInt8)} (hg : gk∈gks) (hc : H[c]?=some (.cells [.map (some id)] e false false)) (hk : Zew es ks)
  (hm : (∃ clk,H[id]?=some (.map es clk)∧ZbA es clk)∨H[id]?=some (.mapU es)) : ZcH gks gc [.func (.func gk) #[] #[pt c],.func (.func gc) #[] #[]] H=ZgM ks H:=by
 have hex : ∃ gk' c' id' es' ks',gk'∈gks∧[Value.func (.func gk) #[] #[pt c],.func (.func gc) #[] #[]]=[.func (.func gk') #[] #[pt c'],.func (.func gc) #[] #[]]∧(∃ e,H[c']?=some (.cells [.map (some id')] e false false))∧Zew es' ks'∧((∃ clk,H[id']?=some (.map es' clk)∧ZbA es' clk)∨H[id']?=some (.mapU es')):=
  ⟨gk,c,id,es,ks,hg,rfl,⟨e,hc⟩,hk,hm⟩
 unfold ZcH
 rw [dif_pos hex]
 congr 1
 obtain ⟨_,h2,⟨e',h3⟩,h4,h5⟩:=Classical.choose_spec (Classical.choose_spec (Classical.choose_spec (Classical.choose_spec (Classical.choose_spec hex))))
 generalize Classical.choose (Classical.choose_spec (Classical.choose_spec (Classical.choose_spec (Classical.choose_spec hex))))=ks' at h4 ⊢
 generalize Classical.choose (Classical.choose_spec (Classical.choose_spec (Classical.choose_spec hex)))=es' at h4 h5
 generalize Classical.choose (Classical.choose_spec (Classical.choose_spec hex))=id' at h3 h5
 generalize Classical.choose (Classical.choose_spec hex)=c' at h2 h3
 have ec : c=c':=by simp at h2;exact h2.2
 subst ec
 rw [hc] at h3
 have ei : id=id':=by simp at h3;exact h3.1
 subst ei
 have ees : es'=es:=by
  rcases hm with ⟨clk,h6,_⟩ | h6 <;> rcases h5 with ⟨clk',h7,_⟩ | h7 <;> rw [h6] at h7 <;> cases h7 <;> rfl
 subst ees
 exact Zph (h4.keys.symm.trans hk.keys)
theorem Ztu {gks : List FuncId} {gc : FuncId} {args : List Value} (h : ZcH gks gc args H=some (v,H1)) :
  ∃ gk c id e es ks,gk∈gks∧args=[.func (.func gk) #[] #[pt c],.func (.func gc) #[] #[]]∧H[c]?=some (.cells [.map (some id)] e false false)∧Zew es ks∧((∃ clk,H[id]?=some (.map es clk)∧ZbA es clk)∨H[id]?=some (.mapU es))∧ZgM ks H=some (v,H1):=by
 have h0:=h
 unfold ZcH at h
 split at h
 ·rename_i hex
  obtain ⟨gk,c,id,es,ks,h1,rfl,⟨e,h3⟩,h4,h5⟩:=hex
  rw [Zo7 h1 h3 h4 h5] at h0
  exact ⟨gk,c,id,e,es,ks,h1,rfl,h3,h4,h5,h0⟩
 ·cases h
structure ZgU (P : Program) (g gk gc : FuncId) : Prop where
 c : Zce P g
 run : ∀ (w : World) (Bm b : Nat) (es : Array MapEntry) (clock : Nat) (ks : List (List UInt8)),Bm < w.heap.size→w.cell? ⟨Bm,0,none⟩=some (.map (some b))→w.heap[b]?=some (.map es clock)→es.toList.map (·.key)=ks.map strv→Go.MapKept.Stamped es clock→
  (∀ k∈ks,k.length≤1000000)→ks.length≤1000000→
  Calls P g #[.func (.func gk) #[] #[.pointer (some ⟨Bm,0,none⟩)],.func (.func gc) #[] #[]] w fun e w'=>∃ (v : Value) (t : TypeId),e=.returned v∧w'.ownsRow w.heap.size t 1 v ks.length ((Yl ks).map strv)∧(v=.slice none 0 0↔ks=[])∧Go.RowKit.Below w.heap.size w w'
theorem Sim.below (h : Sim G w0 ι H w) (hb : Go.RowKit.Below w.heap.size w w') : Sim G w0 ι H w':=by
 refine ⟨fun i x hx=>(h.obj i x hx).blk fun l hl hd=>?_,h.inj,Nat.le_trans h.size hb.size,fun b hlt=>by rw [hb.block b (Nat.lt_of_lt_of_le hlt h.size)];exact h.old b hlt,h.dom,h.glob,?_,fun b hbp=>?_,fun j cs es nx l hj hl=>(h.views j cs es nx l hj hl).to (.refl ι) fun h1 ⟨c0,el0,fr0,hc0⟩=>⟨fun c el fr hc=>⟨fr,by rw [hb.block _ (Array.getElem?_eq_some_iff.1 hc0).1];exact hc⟩,h1⟩⟩
 ·obtain ⟨l',hl',hlt⟩:=(h.obj i x hx).loc hd
  rw [hl] at hl';cases hl'
  exact hb.block _ hlt
 ·rw [hb.os,hb.tape,hb.output];exact h.rest
 ·obtain ⟨p1,p2,p3⟩:=h.prot b hbp
  have hlt : b < w.heap.size:=by
   rcases Nat.lt_or_ge b w.heap.size with h1 | h1
   ·exact h1
   ·rw [Array.getElem?_eq_none h1] at p1;cases p1
  exact ⟨by rw [hb.block b hlt];exact p1,p2,p3⟩
theorem JI.keys {ι : Nat→Option Loc} : ∀ {es : List (Value × Value × Nat)} {en : List MapEntry},JI ι es en→en.map (·.key)=es.map (·.1)∧en.map (·.born)=es.map (·.2.2)
 | [],[],_=>⟨rfl,rfl⟩
 | e :: es,n :: ns,h=>by
  obtain ⟨h1,h2⟩:=JI.keys h.2
  exact ⟨by rw [List.map_cons,List.map_cons,h1,h.1.2.1],by rw [List.map_cons,List.map_cons,h2,h.1.2.2.2]⟩
 | [],_ :: _,h=>h.elim
 | _ :: _,[],h=>h.elim
theorem Zr8 {a b : List (List UInt8)} (h : a.Perm b) : Yl a=Yl b:=mergeSort_of_perm h
theorem ZnQ (ks : List (List UInt8)) : (Yl ks).length=ks.length:=List.length_mergeSort ks
theorem Zh5 {ks : List (List UInt8)} (h : ks.Nodup) : (ks.map strv).Nodup:=by
 rw [List.nodup_iff_pairwise_ne] at h ⊢
 rw [List.pairwise_map]
 exact h.imp fun h e=>h (ZlG e)
theorem Zq3 {gks : List FuncId} {g gc : FuncId} (hgks : gks≠[]) (hC : ∀ gk∈gks,ZgU P g gk gc) : Zey P G w0 g (ZcH gks gc):=by
 intro args H v H1 h
 have hcall : Zce P g:=by
  cases gks with
  | nil=>exact absurd rfl hgks
  | cons a l=>exact (hC a (by simp)).c
 refine .inl ⟨hcall,fun ι w args' hS hr=>?_⟩
 obtain ⟨gk,c,id,e,es,ks,hg,rfl,hc,hk,hm,ho⟩:=Ztu h
 obtain ⟨x,r,rfl,hx,hr2⟩:=hr.cons_inv
 obtain ⟨y,r,rfl,hy,hr3⟩:=hr2.cons_inv
 rw [hr3.nil_inv]
 obtain ⟨a1,b1,rfl,ha1,hb1⟩:=hx.fn_inv
 obtain ⟨a2,b2,rfl,ha2,hb2⟩:=hy.fn_inv
 have ea1 : a1=#[]:=by have:=ha1.nil_inv;simpa using this
 have ea2 : a2=#[]:=by have:=ha2.nil_inv;simpa using this
 have eb2 : b2=#[]:=by have:=hb2.nil_inv;simpa using this
 obtain ⟨p',q',eb1,hp',hq'⟩:=hb1.cons_inv
 have:=hq'.nil_inv
 subst this
 obtain ⟨lc,hlc,rfl⟩:=hp'.ptr_inv
 have eb1 : b1=#[.pointer (some ⟨lc.blk,lc.base+0,none⟩)]:=by
  apply Array.ext'
  simpa using eb1
 subst ea1
 subst ea2
 subst eb2
 subst eb1
 obtain ⟨cc,el,fr,_,hgrow,hbc,hb5,hb6,hrc,hro,_⟩:=hS.cellsR hc hlc
 have hbase : lc.base=0:=(hro rfl).2.2 hgrow
 have hbl : lc.blk < w.heap.size:=by
  rcases Nat.lt_or_ge lc.blk w.heap.size with h1 | h1
  ·exact h1
  ·rw [Array.getElem?_eq_none h1] at hbc;cases hbc
 obtain ⟨u,hu1,hu2⟩:=hrc.at (o:=0) (by simp)
 obtain ⟨lm,hlm,hu3⟩:=RV.map_inv (id:=id) hu2
 subst hu3
 have hcell : w.cell? ⟨lc.blk,0,none⟩=some (.map (some lm.blk)):=by
  rw [Zfg hbc]
  simpa [hbase] using hu1
 obtain ⟨en,clock,ks',hmb,hkeys,hst,hperm⟩ : ∃ (en : Array MapEntry) (clock : Nat) (ks' : List (List UInt8)),w.heap[lm.blk]?=some (.map en clock)∧en.toList.map (·.key)=ks'.map strv∧Go.MapKept.Stamped en clock∧ks'.Perm ks:=by
  rcases hm with ⟨clk,hid,hst⟩ | hid
  ·obtain ⟨en,hb,_,hE⟩:=hS.mapR hid hlm
   obtain ⟨k1,k2⟩:=JI.keys hE
   refine ⟨en,clk,ks,hb,k1.trans hk.keys,⟨fun x hx=>?_,by rw [k2];exact hst.nod,by rw [k1,hk.keys];exact Zh5 hk.nod⟩,.refl _⟩
   have : x.born∈en.toList.map (·.born):=List.mem_map.2 ⟨x,hx,rfl⟩
   rw [k2] at this
   obtain ⟨e',h1,h2⟩:=List.mem_map.1 this
   rw [← h2];exact hst.lt e' h1
  ·obtain ⟨en,clk,es2,hb,_,hE,hp⟩:=hS.mapUR hid hlm
   obtain ⟨k1,k2⟩:=JI.keys hE
   have hpk : (es2.map (·.1)).Perm (es.map (·.1)):=by
    have:=hp.perm.map (·.1)
    rwa [Zd0,Zd0] at this
   obtain ⟨ks2,hks2⟩ : ∃ ks2 : List (List UInt8),es2.map (·.1)=ks2.map strv:=by
    refine ⟨es2.map fun e=>match e.1 with | .string s=>s.data.toList | _=>[],?_⟩
    rw [List.map_map]
    refine List.map_congr_left fun e he=>?_
    obtain ⟨s,hs⟩:=hp.strs e he
    simp [hs,strv]
   rw [hks2,hk.keys] at hpk
   have hpk2 : ks2.Perm ks:=by
    have h3:=hpk.map fun v : Value=>match v with | .string s=>s.data.toList | _=>([] : List UInt8)
    simpa [List.map_map,Function.comp_def,strv] using h3
   refine ⟨en,clk,ks2,hb,k1.trans hks2,⟨fun x hx=>?_,by rw [k2];exact hp.st.nod,by rw [k1];exact hp.nod2⟩,hpk2⟩
   have : x.born∈en.toList.map (·.born):=List.mem_map.2 ⟨x,hx,rfl⟩
   rw [k2] at this
   obtain ⟨e',h1,h2⟩:=List.mem_map.1 this
   rw [← h2];exact hp.st.lt e' h1
 have hfew:=hk.few
 have hcon:=(hC gk hg).run w lc.blk lm.blk en clock ks' hbl hcell hmb hkeys hst (fun k hm=>hk.len k (hperm.mem_iff.1 hm)) (by rw [hperm.length_eq];exact hfew)
 rw [Zr8 hperm,hperm.length_eq] at hcon
 simp only [Nat.add_zero,hbase]
 refine hcon.mono fun ee w' ⟨v',t,he,hrow,hnil,hb⟩=>?_
 have hnil2 : v'=.slice none 0 0↔ks=[]:=by
  rw [hnil]
  constructor
  ·rintro rfl;exact List.eq_nil_of_length_eq_zero (by rw [← hperm.length_eq];rfl)
  ·rintro rfl;exact List.eq_nil_of_length_eq_zero (by rw [hperm.length_eq];rfl)
 have hS':=hS.below hb
 unfold ZgM at ho
 by_cases h0 : ks=[]
 ·rw [if_pos h0] at ho
  cases ho
  exact ⟨ι,_,.refl ι,he,by rw [hnil2.2 h0];exact .sc rfl,hS'⟩
 ·rw [if_neg h0] at ho
  cases ho
  rcases hrow.2 with ⟨hv,_⟩ | ⟨gb,cap,cur,rfl,hge,hgb,r1,r2,r3,r4⟩
  ·exact absurd (hnil2.1 hv) h0
  have hlen : ((Yl ks).map strv).length=ks.length:=by rw [List.length_map,ZnQ]
  rw [Nat.mul_one] at r3 r4
  have hadd:=hS'.add (o:=.cells ((Yl ks).map strv) 1 true false) (l:=⟨gb,0,cap,1,true⟩) ⟨⟨gb,0,cap,1,true⟩,cur,t,(0,0),Qg _ _ _,rfl,rfl,hgb,by show 0+_≤cap;omega,by show cap≤cur.size;omega,by
   show RVs _ _ ((cur.toList.drop 0).take _)
   rw [List.drop_zero,hlen,r4]
   refine ⟨rfl,fun i hi=>?_⟩
   rw [List.getD_eq_getElem?_getD,List.getElem?_eq_getElem hi]
   simp only [List.getElem_map,Option.getD_some]
   exact .sc rfl,fun _=>⟨Nat.le_trans hS.size hge,.inl rfl,fun h=>by cases h⟩,by simp,fun x hx=>by
   obtain ⟨k,_,rfl⟩:=List.mem_map.1 hx
   rfl⟩ (fun i oi li hi hw hl=>by
   have:=((hS.obj i oi hi).newer hw li hl).2
   show li.blk≠gb
   omega) (fun b hbp=>by
   have p1:=(hS.prot b hbp).1
   show gb≠b
   rintro rfl
   rw [Array.getElem?_eq_none hge] at p1;cases p1) (fun _ j cs es nx lj hj hlj hbe=>by
   rcases hS.views j cs es nx lj hj hlj with ⟨l',k1,k2⟩ | ⟨⟨c,el,fr,k1,_⟩,_⟩
   ·exact ⟨l',k1,k2⟩
   ·have:=(Array.getElem?_eq_some_iff.1 k1).1
    have hbe : lj.blk=gb:=hbe
    omega)
  refine ⟨_,_,J8 hS' _,he,?_,hadd⟩
  have:=RV.slc (ι:=Kg ι H.length ⟨gb,0,cap,1,true⟩) (id:=H.length) (o:=0) (n:=ks.length) (c:=ks.length) (c':=cap) (Qg _ _ _) (Nat.le_refl _) r1 (fun h=>by cases h) (by simp)
  simpa using this
end
end Go.Proofs.YtnnehafmjfmbnaaGreatDoor.A
namespace Go.Proofs.YtnnehafmjfmbnaaGreatDoor.A
set_option linter.unusedVariables false
set_option linter.unusedSimpArgs false
section
variable {α : Type}
def Zf (k : List UInt8) : List (List UInt8 × α)→Option α
 | []=>none
 | p :: m=>if p.1=k then some p.2 else Zf k m
def J2 (k : List UInt8) (m : List (List UInt8 × α)) : List (List UInt8 × α):=m.filter fun p=>decide (p.1≠k)
def QG (k : List UInt8) (v : α) (m : List (List UInt8 × α)) : List (List UInt8 × α):=
 if (Zf k m).isSome then m.map fun p=>if p.1=k then (k,v) else p else m++[(k,v)]
variable {k : List UInt8} {v : α} {m : List (List UInt8 × α)}
theorem Zgb : ∀ {m : List (List UInt8 × α)},Zf k m=none↔∀ p∈m,p.1≠k
 | []=>by simp [Zf]
 | p :: m=>by
  simp only [Zf]
  split
  ·rename_i h;simp [h]
  ·rename_i h
   rw [Zgb]
   simp [h]
theorem W7 : ∀ {m : List (List UInt8 × α)} {v : α},Zf k m=some v→(k,v)∈m
 | [],v,h=>by cases h
 | p :: m,v,h=>by
  simp only [Zf] at h
  split at h
  ·rename_i hp
   cases h
   subst hp
   simp
  ·exact List.mem_cons_of_mem _ (W7 h)
theorem ZcW : ∀ {m : List (List UInt8 × α)} {v : α},(m.map (·.1)).Nodup→(k,v)∈m→Zf k m=some v
 | [],v,_,h=>by cases h
 | p :: m,v,hn,h=>by
  simp only [List.map_cons,List.nodup_cons,List.mem_map,not_exists,not_and] at hn
  simp only [Zf]
  rcases List.mem_cons.1 h with h | h
  ·subst h;rw [if_pos rfl]
  ·rw [if_neg fun e=>hn.1 _ h e.symm]
   exact ZcW hn.2 h
theorem Zus : ∀ {m : List (List UInt8 × α)} {v : α},Zf k m=some v→∃ j : Nat,m[j]?=some (k,v)
 | m,v,h=>List.getElem?_of_mem (W7 h)
theorem ZhU : ∀ {m : List (List UInt8 × α)} {j : Nat} {v0 : α},(m.map (·.1)).Nodup→m[j]?=some (k,v0)→m.set j (k,v)=m.map fun p=>if p.1=k then (k,v) else p
 | [],j,v0,_,h=>by simp at h
 | p :: m,0,v0,hn,h=>by
  have : p=(k,v0):=by simpa using h
  subst this
  simp only [List.map_cons,List.nodup_cons,List.mem_map,not_exists,not_and] at hn
  simp only [List.set_cons_zero,List.map_cons,if_true]
  congr 1
  conv=>lhs;rw [← List.map_id m]
  refine List.map_congr_left fun q hq=>?_
  rw [if_neg (hn.1 q hq)];rfl
 | p :: m,j+1,v0,hn,h=>by
  have h' : m[j]?=some (k,v0):=by simpa using h
  simp only [List.map_cons,List.nodup_cons,List.mem_map,not_exists,not_and] at hn
  have hp : ¬ p.1=k:=fun e=>hn.1 (k,v0) (List.mem_of_getElem? h') e.symm
  simp only [List.set_cons_succ,List.map_cons,if_neg hp]
  rw [ZhU hn.2 h']
theorem ZdY : ∀ {m : List (List UInt8 × α)} {j : Nat} {v0 : α},(m.map (·.1)).Nodup→m[j]?=some (k,v0)→m.eraseIdx j=J2 k m
 | [],j,v0,_,h=>by simp at h
 | p :: m,0,v0,hn,h=>by
  have : p=(k,v0):=by simpa using h
  subst this
  simp only [List.map_cons,List.nodup_cons,List.mem_map,not_exists,not_and] at hn
  unfold J2
  rw [List.eraseIdx_cons_zero,List.filter_cons,if_neg (by simp)]
  symm
  rw [List.filter_eq_self]
  exact fun q hq=>decide_eq_true (hn.1 q hq)
 | p :: m,j+1,v0,hn,h=>by
  have h' : m[j]?=some (k,v0):=by simpa using h
  simp only [List.map_cons,List.nodup_cons,List.mem_map,not_exists,not_and] at hn
  have hp : ¬ p.1=k:=fun e=>hn.1 (k,v0) (List.mem_of_getElem? h') e.symm
  have ih:=ZdY hn.2 h'
  unfold J2 at ih ⊢
  rw [List.eraseIdx_cons_succ,List.filter_cons,if_pos (by simpa using hp),ih]
theorem Zn9 (h : Zf k m=none) : J2 k m=m:=by
 unfold J2
 rw [List.filter_eq_self]
 exact fun p hp=>decide_eq_true (Zgb.1 h p hp)
theorem ZmM (h : (m.map (·.1)).Nodup) : ((QG k v m).map (·.1)).Nodup:=by
 unfold QG
 split
 ·rw [List.map_map]
  have : ((fun p : List UInt8 × α=>p.1) ∘ fun p=>if p.1=k then (k,v) else p)=fun p=>p.1:=by
   funext p
   simp only [Function.comp]
   split
   ·rename_i h;exact h.symm
   ·rfl
  rw [this];exact h
 ·rename_i hs
  have hn : Zf k m=none:=by cases e : Zf k m <;> simp_all
  rw [List.map_append,List.nodup_append]
  refine ⟨h,by simp,fun a ha b hb=>?_⟩
  have hb : b=k:=by simpa using hb
  obtain ⟨p,hp,rfl⟩:=List.mem_map.1 ha
  rw [hb];exact Zgb.1 hn p hp
theorem ZlH (h : (m.map (·.1)).Nodup) : ((J2 k m).map (·.1)).Nodup:=(List.filter_sublist.map _).nodup h
end
theorem ZsU {a b : List UInt8} : ((⟨a.toArray⟩ : ByteArray)==⟨b.toArray⟩)=(a==b):=by
 rw [ZmY]
 simp
theorem Zfw {α : Type} {enc : α→Value} {k : List UInt8} : ∀ {es : List (Value × Value × Nat)} {m : List (List UInt8 × α)} (i : Nat),es.map kv=m.map (fun p=>(strv p.1,enc p.2))→
  (Zf k m=none∧J5 .str (strv k) es i=some none)∨∃ j v,m[j]?=some (k,v)∧Zf k m=some v∧J5 .str (strv k) es i=some (some (i+j,enc v))
 | [],[],i,_=>.inl ⟨rfl,rfl⟩
 | e :: es,p :: m,i,h=>by
  simp only [List.map_cons,List.cons.injEq,kv,Prod.mk.injEq] at h
  obtain ⟨⟨h1,h2⟩,h3⟩:=h
  have hs : ZbX .str (strv k) e.1=some (k==p.1):=by rw [h1];simp only [ZbX,strv,ZsU]
  simp only [J5,hs,Zf]
  by_cases hk : p.1=k
  ·rw [show (k==p.1)=true by rw [hk];simp,if_pos hk]
   exact .inr ⟨0,p.2,by rw [← hk];rfl,rfl,by rw [h2];rfl⟩
  ·rw [show (k==p.1)=false by rw [beq_eq_false_iff_ne];exact Ne.symm hk,if_neg hk]
   rcases Zfw (i+1) h3 with ⟨h4,h5⟩ | ⟨j,v,h4,h5,h6⟩
   ·exact .inl ⟨h4,h5⟩
   ·exact .inr ⟨j+1,v,by simpa using h4,h5,by simp only;rw [h6];congr 3;omega⟩
 | [],_ :: _,_,h=>by cases h
 | _ :: _,[],_,h=>by cases h
theorem Zht {u : Value} : ∀ {es : List (Value × Value × Nat)} {j : Nat} {p : Value × Value},(es.map kv)[j]?=some p→(YF es j u).map kv=(es.map kv).set j (p.1,u)
 | [],j,p,h=>by simp at h
 | e :: es,0,p,h=>by
  have : kv e=p:=by simpa using h
  subst this
  simp [YF,kv]
 | e :: es,j+1,p,h=>by
  have:=Zht (u:=u) (es:=es) (j:=j) (p:=p) (by simpa using h)
  simp only [YF] at this
  simp only [YF,List.modify_succ_cons,List.map_cons,List.set_cons_succ,this]
section
variable {α : Type} {enc : α→Value} {H H' : Zc} {id : Nat} {m : List (List UInt8 × α)} {k : List UInt8} {v : α}
structure JY (enc : α→Value) (H : Zc) (id : Nat) (m : List (List UInt8 × α)) : Prop where
 ex : ∃ es,es.map kv=m.map (fun p=>(strv p.1,enc p.2))∧((∃ clk,H[id]?=some (.map es clk)∧ZbA es clk)∨H[id]?=some (.mapU es))
 nod : (m.map (·.1)).Nodup
theorem JY.lt (h : JY enc H id m) : id < H.length:=by
 obtain ⟨es,_,h1 | h1⟩:=h.ex
 ·obtain ⟨clk,h1,_⟩:=h1;exact Jr h1
 ·exact Jr h1
theorem JY.keep (h : JY enc H id m) (hk : H'[id]?=H[id]?) : JY enc H' id m:=by
 obtain ⟨es,h1,h2⟩:=h.ex
 exact ⟨⟨es,h1,by rw [hk];exact h2⟩,h.nod⟩
theorem JY.hle (h : JY enc H id m) (hl : HLe H H') : JY enc H' id m:=h.keep (hl.step.keep id h.lt (by simp))
theorem JY.step {o1 o2 : List Nat} (h : JY enc H id m) (hs : ZJ o1 H o2 H') (hn : id∉o1) : JY enc H' id m:=h.keep (hs.keep id h.lt hn)
theorem WZ : okK .str (strv k)=true:=rfl
theorem JY.len (h : JY enc H id m) : lenM (.map (some id)) H=some (iv m.length,H):=by
 obtain ⟨es,h1,h2⟩:=h.ex
 have hl : es.length=m.length:=by have:=congrArg List.length h1;simpa using this
 unfold lenM
 rcases h2 with ⟨clk,h2,_⟩ | h2 <;> simp only [h2,hl]
theorem JY.lkp (h : JY enc H id m) {z : Value} {ok : Bool} : A.lkp .str z ok (.map (some id)) (strv k) H=
  some (match Zf k m with
   | some v=>bif ok then .tuple #[enc v,.bool true] else enc v
   | none=>bif ok then .tuple #[z,.bool false] else z,H):=by
 obtain ⟨es,h1,h2⟩:=h.ex
 unfold A.lkp
 rcases Zfw (k:=k) 0 h1 with ⟨h3,h4⟩ | ⟨j,v,h3,h4,h5⟩
 ·rcases h2 with ⟨clk,h2,_⟩ | h2 <;> simp only [h2,WZ,cond_true,h3,h4]
 ·rcases h2 with ⟨clk,h2,_⟩ | h2 <;> simp only [h2,WZ,cond_true,h4,h5]
theorem JY.mup (h : JY enc H id m) : ∃ H',A.mup .str (.map (some id)) (strv k) (enc v) H=some (undef,H')∧JY enc H' id (QG k v m)∧ZJ [id] H [id] H'∧H'.length=H.length:=by
 obtain ⟨es,h1,h2⟩:=h.ex
 have hst : ∀ o,ZJ [id] H [id] (H.set id o):=fun o=>⟨by simp,fun j hj hn=>List.getElem?_set_ne (fun e=>hn (by simp [e])),fun j hj=>.inl hj⟩
 have hnod:=ZmM (k:=k) (v:=v) h.nod
 have hget : ∀ {j : Nat} {v0 : α},m[j]?=some (k,v0)→(es.map kv)[j]?=some (strv k,enc v0):=fun hj=>by rw [h1,List.getElem?_map,hj];rfl
 rcases Zfw (k:=k) 0 h1 with ⟨h3,h4⟩ | ⟨j,v0,h3,h4,h5⟩
 ·have ha : QG k v m=m++[(k,v)]:=by unfold QG;rw [h3];rfl
  rw [ha] at hnod ⊢
  have hm : ∀ b,(es++[(strv k,enc v,b)]).map kv=(m++[(k,v)]).map fun p=>(strv p.1,enc p.2):=fun b=>by rw [List.map_append,List.map_append,h1];rfl
  rcases h2 with ⟨clk,h2,hs⟩ | h2
  ·refine ⟨H.set id (.map (es++[(strv k,enc v,clk)]) (clk+1)),?_,⟨⟨_,hm clk,.inl ⟨clk+1,ZT h2,⟨fun e he=>?_,?_⟩⟩⟩,hnod⟩,hst _,by simp⟩
   ·unfold A.mup;simp only [h2,WZ,cond_true,h4]
   ·rcases List.mem_append.1 he with he | he
    ·have:=hs.lt e he;omega
    ·have : e=(strv k,enc v,clk):=by simpa using he
     rw [this];exact Nat.lt_succ_self _
   ·rw [List.map_append,List.nodup_append]
    refine ⟨hs.nod,by simp,fun a ha b hb=>?_⟩
    have hb : b=clk:=by simpa using hb
    obtain ⟨e,he,rfl⟩:=List.mem_map.1 ha
    have:=hs.lt e he;omega
  ·refine ⟨H.set id (.mapU (es++[(strv k,enc v,0)])),?_,⟨⟨_,hm 0,.inr (ZT h2)⟩,hnod⟩,hst _,by simp⟩
   unfold A.mup;simp only [h2,WZ,cond_true,h4];rfl
 ·have ha : QG k v m=m.set j (k,v):=by unfold QG;rw [h4];exact (ZhU h.nod h3).symm
  rw [ha] at hnod ⊢
  rw [Nat.zero_add] at h5
  have hm : (YF es j (enc v)).map kv=(m.set j (k,v)).map fun p=>(strv p.1,enc p.2):=by
   rw [Zht (hget h3),h1,List.map_set]
  rcases h2 with ⟨clk,h2,hs⟩ | h2
  ·refine ⟨H.set id (.map (YF es j (enc v)) clk),?_,⟨⟨_,hm,.inl ⟨clk,ZT h2,ZjS hs⟩⟩,hnod⟩,hst _,by simp⟩
   unfold A.mup;simp only [h2,WZ,cond_true,h5]
  ·refine ⟨H.set id (.mapU (YF es j (enc v))),?_,⟨⟨_,hm,.inr (ZT h2)⟩,hnod⟩,hst _,by simp⟩
   unfold A.mup;simp only [h2,WZ,cond_true,h5]
theorem JY.mde (h : JY enc H id m) : ∃ H',A.mde .str (.map (some id)) (strv k) H=some (.tuple #[],H')∧JY enc H' id (J2 k m)∧ZJ [id] H [id] H'∧H'.length=H.length:=by
 obtain ⟨es,h1,h2⟩:=h.ex
 have hst : ∀ o,ZJ [id] H [id] (H.set id o):=fun o=>⟨by simp,fun j hj hn=>List.getElem?_set_ne (fun e=>hn (by simp [e])),fun j hj=>.inl hj⟩
 have hnod:=ZlH (k:=k) h.nod
 rcases Zfw (k:=k) 0 h1 with ⟨h3,h4⟩ | ⟨j,v0,h3,h4,h5⟩
 ·refine ⟨H,?_,by rw [Zn9 h3];exact h,.refl _ _,rfl⟩
  unfold A.mde
  rcases h2 with ⟨clk,h2,hs⟩ | h2 <;> simp only [h2,WZ,cond_true,h4]
 ·have ha : J2 k m=m.eraseIdx j:=(ZdY h.nod h3).symm
  rw [ha] at hnod ⊢
  rw [Nat.zero_add] at h5
  have hm : (es.eraseIdx j).map kv=(m.eraseIdx j).map fun p=>(strv p.1,enc p.2):=by
   have hg : ∀ {β γ : Type} (f : β→γ) (l : List β) (j : Nat),(l.eraseIdx j).map f=(l.map f).eraseIdx j:=fun f l j=>by
    rw [List.eraseIdx_eq_take_drop_succ,List.eraseIdx_eq_take_drop_succ,List.map_append,List.map_take,List.map_drop]
   rw [hg,hg,h1]
  rcases h2 with ⟨clk,h2,hs⟩ | h2
  ·refine ⟨H.set id (.map (es.eraseIdx j) clk),?_,⟨⟨_,hm,.inl ⟨clk,ZT h2,⟨fun e he=>hs.lt e ((List.eraseIdx_sublist es j).subset he),((List.eraseIdx_sublist es j).map _).nodup hs.nod⟩⟩⟩,hnod⟩,hst _,by simp⟩
   unfold A.mde;simp only [h2,WZ,cond_true,h5]
  ·refine ⟨H.set id (.mapU (es.eraseIdx j)),?_,⟨⟨_,hm,.inr (ZT h2)⟩,hnod⟩,hst _,by simp⟩
   unfold A.mde;simp only [h2,WZ,cond_true,h5]
theorem JY.clone (h : JY enc H id m) : ∃ H',Zbl [.map (some id)] H=some (.map (some H.length),H')∧JY enc H' H.length m∧HLe H H':=by
 obtain ⟨es,h1,h2⟩:=h.ex
 rcases h2 with ⟨clk,h2,hs⟩ | h2
 ·exact ⟨_,by unfold Zbl;simp only [h2],⟨⟨es,h1,.inl ⟨clk,ZD,hs⟩⟩,h.nod⟩,.app _ _⟩
 ·exact ⟨_,by unfold Zbl;simp only [h2],⟨⟨es,h1,.inr ZD⟩,h.nod⟩,.app _ _⟩
theorem ZrT (H : Zc) : ∃ H',mkm H=some (.map (some H.length),H')∧JY enc H' H.length []∧HLe H H':=
 ⟨_,rfl,⟨⟨[],rfl,.inl ⟨0,ZD,⟨by simp,by simp⟩⟩⟩,by simp⟩,.app _ _⟩
theorem JY.keys (h : JY enc H id m) {gks : List FuncId} {gc gk : FuncId} {c e : Nat} (hg : gk∈gks) (hc : H[c]?=some (.cells [.map (some id)] e false false)) (hf : m.length≤1000000) (hl : ∀ p∈m,p.1.length≤1000000) :
  ∃ v q H',ZcH gks gc [.func (.func gk) #[] #[pt c],.func (.func gc) #[] #[]] H=some (v,H')∧Zx H' v ((Yl (m.map (·.1))).map strv) q∧HLe H H'∧∀ j∈q,H.length≤j:=by
 obtain ⟨es,h1,h2⟩:=h.ex
 have hk : Zew es (m.map (·.1)):=⟨by
  have:=congrArg (List.map (·.1)) h1
  rw [Zd0] at this
  rw [this];simp [Function.comp_def],h.nod,by simpa using hf,fun k hk=>by
  obtain ⟨p,hp,rfl⟩:=List.mem_map.1 hk
  exact hl p hp⟩
 rw [Zo7 hg hc hk h2]
 unfold ZgM
 by_cases h0 : m.map (·.1)=[]
 ·rw [if_pos h0,h0]
  have hz : Yl ([] : List (List UInt8))=[]:=List.mergeSort_nil
  rw [hz]
  exact ⟨_,[],_,rfl,Zx.nil,.refl _,by simp⟩
 ·rw [if_neg h0]
  refine ⟨_,[H.length],_,rfl,.inr ⟨H.length,[],true,?_,rfl,by simp⟩,.app _ _,by simp⟩
  simp [ZnQ]
end
end Go.Proofs.YtnnehafmjfmbnaaGreatDoor.A

namespace Go.Proofs.YtnnehafmjfmbnaaGreatDoor.A
set_option linter.unusedVariables false
set_option linter.unusedSimpArgs false
def Zhn (args : List Value) : M Value:=fun H=>
 match args with
 | [.string s,.int .u8 c]=>some (iv (Go.Lib.indexByte s.data.toList c.toNat.toUInt8),H)
 | _=>none
def Zhv (args : List Value) : M Value:=fun H=>
 match args with
 | [.string s,.int .u8 c]=>some (iv (Go.Lib.countByte s.data.toList c.toNat.toUInt8),H)
 | _=>none
section
variable {P : Program} {G : Nat} {w0 : Qd}
theorem Zsn {g : FuncId} (he : Znn P g Extern.BytealgIndexByte.indexByte) : Zey P G w0 g Zhn:=by
 intro args H v H1 h
 refine .inr ⟨_,he,fun ι w args' hS hr=>?_⟩
 unfold Zhn at h
 split at h
 ·rename_i s c
  cases h
  obtain ⟨p',r',rfl,hp',hr'⟩:=hr.cons_inv
  obtain ⟨y',r2,rfl,hy',hr2⟩:=hr'.cons_inv
  have:=hr2.nil_inv;subst this
  have:=hy'.int_inv;subst this
  have:=hp'.scalar_inv rfl;subst this
  exact ⟨ι,_,w,.refl ι,hS,.sc rfl,Go.Lib.run_indexByteString s c w⟩
 ·cases h
theorem ZrX {g : FuncId} (he : Znn P g Extern.BytealgCount.count) : Zey P G w0 g Zhv:=by
 intro args H v H1 h
 refine .inr ⟨_,he,fun ι w args' hS hr=>?_⟩
 unfold Zhv at h
 split at h
 ·rename_i s c
  cases h
  obtain ⟨p',r',rfl,hp',hr'⟩:=hr.cons_inv
  obtain ⟨y',r2,rfl,hy',hr2⟩:=hr'.cons_inv
  have:=hr2.nil_inv;subst this
  have:=hy'.int_inv;subst this
  have:=hp'.scalar_inv rfl;subst this
  exact ⟨ι,_,w,.refl ι,hS,.sc rfl,Go.Lib.run_countString s c w⟩
 ·cases h
end
theorem Zrv (b : UInt8) : (b.toNat : Int).toNat.toUInt8=b:=by
 rw [Int.toNat_natCast]
 simp
theorem ZwC {s : List UInt8} {b : UInt8} {H : Zc} : Zhn [strv s,.int .u8 b.toNat] H=some (iv (Go.Lib.indexByte s b),H):=by
 unfold Zhn strv
 simp only [Zrv]
theorem Zww {s : List UInt8} {b : UInt8} {H : Zc} : Zhv [strv s,.int .u8 b.toNat] H=some (iv (s.count b),H):=by
 unfold Zhv strv Go.Lib.countByte
 simp only [Zrv]
theorem Zea {b : UInt8} : ∀ {s : List UInt8},Go.Lib.indexByte s b=if b∈s then (((s.takeWhile (· !=b)).length : Nat) : Int) else -1
 | []=>rfl
 | c :: s=>by
  have ih:=Zea (b:=b) (s:=s)
  unfold Go.Lib.indexByte
  by_cases hc : c=b
  ·subst hc;simp
  ·have h1 : (c==b)=false:=beq_eq_false_iff_ne.2 hc
   have h2 : (c !=b)=true:=by simp [hc]
   rw [h1,List.takeWhile_cons,h2,ih]
   by_cases hm : b∈s
   ·have : ¬ ((((s.takeWhile (· !=b)).length : Nat) : Int)==-1)=true:=by simp
    simp [hm,this]
   ·have hm2 : ¬ b∈c :: s:=by simp [hm,Ne.symm hc]
    simp [hm,Ne.symm hc]
end Go.Proofs.YtnnehafmjfmbnaaGreatDoor.A

namespace Go.Proofs.YtnnehafmjfmbnaaGreatDoor.A
set_option linter.unusedVariables false
set_option linter.unusedSimpArgs false
theorem Zod {α β : Type} {f : α→β} {m m' : List β} (h : m.Perm m') : ∀ {l : List α},l.map f=m→∃ l' : List α,l'.Perm l∧l'.map f=m':=by
 induction h with
 | nil=>intro l h;exact ⟨l,.refl _,h⟩
 | cons x _ ih=>
  intro l h
  cases l with
  | nil=>cases h
  | cons a l=>
   simp only [List.map_cons,List.cons.injEq] at h
   obtain ⟨l',h1,h2⟩:=ih h.2
   exact ⟨a :: l',h1.cons a,by simp [h.1,h2]⟩
 | swap x y l=>
  intro q h
  match q,h with
  | a :: b :: q,h=>
   simp only [List.map_cons,List.cons.injEq] at h
   exact ⟨b :: a :: q,.swap a b q,by simp [h.1,h.2.1,h.2.2]⟩
 | trans _ _ ih1 ih2=>
  intro l h
  obtain ⟨l1,h1,h2⟩:=ih1 h
  obtain ⟨l2,h3,h4⟩:=ih2 h2
  exact ⟨l2,h3.trans h1,h4⟩
def ZfS : Ze→Bool
 | .map _ _=>true
 | .mapU _=>true
 | _=>false
def ZdW (H : Zc) : List (Value × Value × Nat)→Option (List Ze)
 | []=>some []
 | e :: es=>match e.2.1,ZdW H es with
  | .map (some s),some l=>match H[s]? with
   | some x=>if ZfS x then some (x :: l) else none
   | none=>none
  | _,_=>none
def Zbu (base : Nat) : List (Value × Value × Nat)→List (Value × Value × Nat)
 | []=>[]
 | e :: es=>(e.1,.map (some base),0) :: Zbu (base+1) es
open Classical in
noncomputable def Zjk (H : Zc) (o : Nat) : Option (List (Value × Value × Nat)):=
 match H[o]? with
 | some (.map es clk)=>if ZbA es clk then some es else none
 | some (.mapU es)=>some es
 | _=>none
open Classical in
noncomputable def Zg3 (args : List Value) : M Value:=fun H=>
 match args with
 | [.pointer (some ⟨g,0,none⟩)]=>match H[g]? with
  | some (.cells [.map (some o)] _ false false)=>match Zjk H o with
   | some es=>match ZdW H es with
    | some l=>if ∃ ks,Zew es ks then some (pt (H.length+l.length+1),H++l++[.mapU (Zbu H.length es)]++[.cells [.map (some (H.length+l.length))] 1 false false]) else none
    | none=>none
   | none=>none
  | _=>none
 | _=>none
section
variable {P : Program} {w0 : Qd} {ι : Nat→Option Loc} {H H1 : Zc} {w w' : World} {v : Value} {G : Nat}
theorem Zs9 {args : List Value} (h : Zg3 args H=some (v,H1)) : ∃ g o e es ks l,args=[pt g]∧H[g]?=some (.cells [.map (some o)] e false false)∧Zjk H o=some es∧Zew es ks∧ZdW H es=some l∧v=pt (H.length+l.length+1)∧H1=H++l++[.mapU (Zbu H.length es)]++[.cells [.map (some (H.length+l.length))] 1 false false]:=by
 unfold Zg3 at h
 split at h
 ·rename_i g
  split at h
  ·rename_i o e hg
   split at h
   ·rename_i es hes
    split at h
    ·rename_i l hl
     split at h
     ·rename_i hk
      obtain ⟨ks,hk⟩:=hk
      cases h
      exact ⟨g,o,e,es,ks,l,rfl,hg,hes,hk,hl,rfl,rfl⟩
     ·cases h
    ·cases h
   ·cases h
  ·cases h
 ·cases h
structure ZrA (P : Program) (g : FuncId) : Prop where
 c : Zce P g
 run : ∀ (w : World) (gb b : Nat) (es : Array MapEntry) (clock : Nat),gb < w.heap.size→w.cell? ⟨gb,0,none⟩=some (.map (some b))→w.heap[b]?=some (.map es clock)→Go.MapKept.Stamped es clock→
  (∀ x∈es.toList,∃ k : List UInt8,x.key=strv k)→(∀ x∈es.toList,∃ sb ses sclk,x.val=.map (some sb)∧w.heap[sb]?=some (.map ses sclk))→
  Calls P g #[.pointer (some ⟨gb,0,none⟩)] w fun e w'=>∃ (gb' ob : Nat) (el : TypeId) (en : Array MapEntry) (ck : Nat) (L : List (MapEntry × Nat)),e=.returned (.pointer (some ⟨gb',0,none⟩))∧
   w'.heap[gb']?=some (.cells #[.map (some ob)] el (0,0))∧w'.heap[ob]?=some (.map en ck)∧Go.MapKept.Stamped en ck∧
   en.toList.map (fun x=>(x.key,x.val))=L.map (fun p=>(p.1.key,Value.map (some p.2)))∧(L.map (·.1)).Perm es.toList∧
   (∀ p∈L,∃ sb,p.1.val=.map (some sb)∧w'.heap[p.2]?=w.heap[sb]?)∧(gb' :: ob :: L.map (·.2)).Nodup∧(∀ q∈gb' :: ob :: L.map (·.2),w.heap.size≤q)∧Go.RowKit.Below w.heap.size w w'
def ZdM (ι : Nat→Option Loc) (H : Zc) (b : Nat) : Prop:=(∀ i oi li,H[i]?=some oi→oi.wr=true→ι i=some li→li.blk≠b)∧
 ∀ j cs es nx lj,H[j]?=some (.view cs es nx)→ι j=some lj→lj.blk=b→∃ l',ι nx=some l'∧l'.blk=lj.blk∧l'.base=lj.base
theorem ZdM.add {o : Ze} {l : Loc} {b : Nat} (h : ZdM ι H b) (hS : Sim G w0 ι H w) (hb : l.blk≠b) (hov : o.isV=false:=by rfl) : ZdM (Kg ι H.length l) (H++[o]) b:=by
 refine ⟨?_,fun j cs es nx lj hj hlj hbe=>?_⟩
 rotate_left
 ·rcases Nat.lt_trichotomy j H.length with hlt | rfl | hgt
  ·rw [List.getElem?_append_left hlt] at hj
   have : Kg ι H.length l j=ι j:=by unfold Kg;simp [Nat.ne_of_lt hlt]
   rw [this] at hlj
   obtain ⟨l',k1,k2⟩:=h.2 j cs es nx lj hj hlj hbe
   exact ⟨l',J8 hS _ _ _ k1,k2⟩
  ·rw [ZD] at hj
   rw [Option.some.inj hj] at hov;cases hov
  ·rw [List.getElem?_eq_none (by simp;omega)] at hj;cases hj
 intro i oi li hi hw hl
 rcases Nat.lt_trichotomy i H.length with hlt | rfl | hgt
 ·rw [List.getElem?_append_left hlt] at hi
  have : Kg ι H.length l i=ι i:=by unfold Kg;simp [Nat.ne_of_lt hlt]
  rw [this] at hl
  exact h.1 i oi li hi hw hl
 ·have : Kg ι H.length l H.length=some l:=Qg _ _ _
  rw [this] at hl
  cases hl
  exact hb
 ·rw [List.getElem?_eq_none (by simp;omega)] at hi;cases hi
abbrev ZfA (b : Nat) : Loc:=⟨b,0,0,0,false⟩
def Zgz (ι : Nat→Option Loc) : Value→Value
 | .map (some s)=>.map ((ι s).map (·.blk))
 | v=>v
theorem Zsy {H : Zc} {w' : World} (hS : Sim G w0 ι H w) : ∀ (es : List (Value × Value × Nat)) (L : List (MapEntry × Nat)) (l : List Ze) (ι0 : Nat→Option Loc) (H0 : Zc),Sim G w0 ι0 H0 w'→Le ι ι0→ZdW H es=some l→
  L.map (fun p=>(p.1.key,p.1.val))=es.map (fun e=>(e.1,Zgz ι e.2.1))→(∀ p∈L,∃ sb,p.1.val=.map (some sb)∧w'.heap[p.2]?=w.heap[sb]?)→(L.map (·.2)).Nodup→(∀ p∈L,ZdM ι0 H0 p.2∧w0.heap.size≤p.2∧∀ b∈w0.prot,p.2≠b)→
  ∃ ι1,Le ι0 ι1∧Sim G w0 ι1 (H0++l) w'∧l.length=es.length∧(∀ i p,L[i]?=some p→ι1 (H0.length+i)=some (ZfA p.2))∧(∀ b,ZdM ι0 H0 b→b∉L.map (·.2)→ZdM ι1 (H0++l) b)
 | [],L,l,ι0,H0,h0,hle,hl,hm,_,_,_=>by
  cases hl
  have : L=[]:=by simpa using hm
  subst this
  exact ⟨ι0,.refl _,by rw [List.append_nil];exact h0,rfl,fun i p h=>by simp at h,fun b h _=>by rw [List.append_nil];exact h⟩
 | e :: es,L,l,ι0,H0,h0,hle,hl,hm,hc,hn,hf=>by
  cases L with
  | nil=>simp at hm
  | cons p L=>
   simp only [List.map_cons,List.cons.injEq,Prod.mk.injEq] at hm
   unfold ZdW at hl
   split at hl
   ·rename_i _ _ s l' he hl'
    split at hl
    ·rename_i x hx
     split at hl
     ·rename_i hmp
      cases hl
      obtain ⟨sb,hsb,hcp⟩:=hc p (by simp)
      obtain ⟨hfp,hgp,hpp⟩:=hf p (by simp)
      rw [he] at hm
      have hv:=hm.1.2
      rw [hsb] at hv
      have hsl : ∃ ls,ι s=some ls∧ls.blk=sb:=by
       simp only [Zgz] at hv
       cases hs : ι s with
       | none=>rw [hs] at hv;simp at hv
       | some ls=>rw [hs] at hv;exact ⟨ls,rfl,by simpa using hv.symm⟩
      obtain ⟨ls,hls,rfl⟩:=hsl
      have hR : Zca w0 (Kg ι0 H0.length (ZfA p.2)) H0.length x w':=by
       have hle2 : Le ι (Kg ι0 H0.length (ZfA p.2)):=hle.trans (J8 h0 _)
       cases x with
       | map es' clk=>
        obtain ⟨en,hb,hge,hE⟩:=hS.mapR hx hls
        exact ⟨_,en,Qg _ _ _,hcp.trans hb,hgp,hE.mono hle2⟩
       | mapU es'=>
        obtain ⟨en,clk,es2,hb,hge,hE,hp⟩:=hS.mapUR hx hls
        exact ⟨_,en,clk,es2,Qg _ _ _,hcp.trans hb,hgp,hE.mono hle2,hp⟩
       | _=>simp [ZfS] at hmp
      have hov : x.isV=false:=by cases x <;> first | rfl | simp [ZfS] at hmp
      have h1:=h0.add hR hfp.1 hpp (fun _=>hfp.2) hov
      simp only [List.map_cons,List.nodup_cons] at hn
      obtain ⟨ι1,a1,a2,a3,a4,a5⟩:=Zsy hS es L l' _ _ h1 (hle.trans (J8 h0 _)) hl' hm.2 (fun q hq=>hc q (by simp [hq])) hn.2 (fun q hq=>by
       obtain ⟨b1,b2⟩:=hf q (by simp [hq])
       exact ⟨b1.add h0 (fun e=>hn.1 (List.mem_map.2 ⟨q,hq,e.symm⟩)) hov,b2⟩)
      refine ⟨ι1,(J8 h0 _).trans a1,by rw [List.append_assoc,List.singleton_append] at a2;exact a2,by simp [a3],fun i q hi=>?_,fun b hb hnb=>?_⟩
      ·cases i with
       | zero=>
        have : p=q:=by simpa using hi
        subst this
        exact a1 _ _ (Qg _ _ _)
       | succ i=>
        have:=a4 i q (by simpa using hi)
        rwa [List.length_append,List.length_singleton,Nat.add_assoc,Nat.add_comm 1 i] at this
      ·simp only [List.map_cons,List.mem_cons,not_or] at hnb
       have:=a5 b (hb.add h0 (Ne.symm hnb.1) hov) hnb.2
       rwa [List.append_assoc,List.singleton_append] at this
     ·cases hl
    ·cases hl
   ·cases hl
theorem ZdM.sim (h : Sim G w0 ι H w) {b : Nat} (hb : w.heap.size≤b) : ZdM ι H b:=⟨fun i oi li hi hw hl=>by
 have:=((h.obj i oi hi).newer hw li hl).2
 omega,fun j cs es nx lj hj hlj hbe=>by
 rcases h.views j cs es nx lj hj hlj with ⟨l',k1,k2⟩ | ⟨⟨c,el,fr,k1,_⟩,_⟩
 ·exact ⟨l',k1,k2⟩
 ·have:=(Array.getElem?_eq_some_iff.1 k1).1
  omega⟩
theorem Zno (h : Sim G w0 ι H w) {b : Nat} (hb : w.heap.size≤b) : ∀ c∈w0.prot,b≠c:=fun c hc e=>by
 have p1:=(h.prot c hc).1
 subst e
 rw [Array.getElem?_eq_none hb] at p1;cases p1
def Zpr (B : List ((MapEntry × Nat) × Nat)) (en : List MapEntry) : List (Value × Value × Nat):=List.zipWith (fun b x=>(b.1.1.key,Value.map (some b.2),x.born)) B en
theorem ZoW : ∀ (B : List ((MapEntry × Nat) × Nat)) (en : List MapEntry),en.map (fun x=>(x.key,x.val))=B.map (fun b=>(b.1.1.key,Value.map (some b.1.2)))→(∀ b∈B,QL b.1.1.key=true∧ι b.2=some (ZfA b.1.2))→
  JI ι (Zpr B en) en∧(Zpr B en).map kv=B.map (fun b=>(b.1.1.key,Value.map (some b.2)))∧(Zpr B en).map (·.2.2)=en.map (·.born)
 | [],[],_,_=>⟨trivial,rfl,rfl⟩
 | [],_ :: _,h,_=>by simp at h
 | _ :: _,[],h,_=>by simp at h
 | b :: B,x :: en,h,hb=>by
  simp only [List.map_cons,List.cons.injEq,Prod.mk.injEq] at h
  obtain ⟨h1,h2,h3⟩:=ZoW B en h.2 (fun c hc=>hb c (by simp [hc]))
  obtain ⟨g1,g2⟩:=hb b (by simp)
  have hm : RV ι (.map (some b.2)) (.map (some b.1.2)):=.mp (l:=ZfA b.1.2) g2
  refine ⟨⟨⟨g1,h.1.1,by rw [h.1.2];exact hm,rfl⟩,h1⟩,?_,?_⟩
  ·simp only [List.map_cons]
   rw [← h2];rfl
  ·simp only [List.map_cons]
   rw [← h3];rfl
theorem Zrd : ∀ (es : List (Value × Value × Nat)) (L : List (MapEntry × Nat)) (base : Nat),L.map (fun p=>p.1.key)=es.map (·.1)→
  (Zbu base es).map kv=(L.zipIdx base).map (fun b=>(b.1.1.key,Value.map (some b.2)))∧(Zbu base es).map (·.1)=es.map (·.1)
 | [],L,base,h=>by
  have : L=[]:=by simpa using h
  subst this
  exact ⟨rfl,rfl⟩
 | e :: es,[],base,h=>by simp at h
 | e :: es,p :: L,base,h=>by
  simp only [List.map_cons,List.cons.injEq] at h
  obtain ⟨h1,h2⟩:=Zrd es L (base+1) h.2
  refine ⟨?_,?_⟩
  ·simp only [Zbu,List.map_cons,List.zipIdx_cons]
   rw [h1,← h.1];rfl
  ·simp only [Zbu,List.map_cons]
   rw [h2]
theorem Zmu : ∀ {es : List (Value × Value × Nat)} {l : List Ze},ZdW H es=some l→∀ e∈es,∃ s x,e.2.1=.map (some s)∧H[s]?=some x∧ZfS x=true
 | [],l,h,e,he=>by cases he
 | e0 :: es,l,h,e,he=>by
  unfold ZdW at h
  split at h
  ·rename_i _ _ s l' hv hl'
   split at h
   ·rename_i x hx
    split at h
    ·rename_i hm
     rcases List.mem_cons.1 he with rfl | he
     ·exact ⟨s,x,hv,hx,hm⟩
     ·exact Zmu hl' e he
    ·cases h
   ·cases h
  ·cases h
theorem Zoc (hle : ∀ e : Value × Value × Nat,∀ n,RV ι e.2.1 n→(∃ s,e.2.1=.map (some s))→n=Zgz ι e.2.1) : ∀ (es : List (Value × Value × Nat)) (en : List MapEntry),JI ι es en→(∀ e∈es,∃ s,e.2.1=.map (some s))→en.map (fun x=>(x.key,x.val))=es.map (fun e=>(e.1,Zgz ι e.2.1))
 | [],[],_,_=>rfl
 | [],_ :: _,h,_=>h.elim
 | _ :: _,[],h,_=>h.elim
 | e :: es,n :: ns,h,hs=>by
  simp only [List.map_cons]
  rw [Zoc hle es ns h.2 (fun e he=>hs e (by simp [he])),h.1.2.1,hle e _ h.1.2.2.1 (hs e (by simp))]
theorem ZvO {e : Value × Value × Nat} {n : Value} (h : RV ι e.2.1 n) (hs : ∃ s,e.2.1=.map (some s)) : n=Zgz ι e.2.1:=by
 obtain ⟨s,hs⟩:=hs
 rw [hs] at h ⊢
 obtain ⟨l,hl,rfl⟩:=h.map_inv
 simp [Zgz,hl]
theorem Zsr {g : FuncId} (hC : ZrA P g) : Zey P G w0 g Zg3:=by
 intro args H v H1 h
 refine .inl ⟨hC.c,fun ι w args' hS hr=>?_⟩
 obtain ⟨gi,o,e1,es,ks,l,rfl,hg,hes,hk,hl,rfl,rfl⟩:=Zs9 h
 obtain ⟨x,r,rfl,hx,hr2⟩:=hr.cons_inv
 rw [hr2.nil_inv]
 obtain ⟨lc,hlc,rfl⟩:=hx.ptr_inv
 obtain ⟨cc,el,fr,_,hgrow,hbc,hb5,hb6,hrc,hro,_⟩:=hS.cellsR hg hlc
 have hbase : lc.base=0:=(hro rfl).2.2 hgrow
 have hbl : lc.blk < w.heap.size:=by
  rcases Nat.lt_or_ge lc.blk w.heap.size with h1 | h1
  ·exact h1
  ·rw [Array.getElem?_eq_none h1] at hbc;cases hbc
 obtain ⟨u,hu1,hu2⟩:=hrc.at (o:=0) (by simp)
 obtain ⟨lm,hlm,hu3⟩:=RV.map_inv (id:=o) hu2
 subst hu3
 have hcell : w.cell? ⟨lc.blk,0,none⟩=some (.map (some lm.blk)):=by
  rw [Zfg hbc]
  simpa [hbase] using hu1
 have hsets:=Zmu hl
 have hismap : ∀ e∈es,∃ s,e.2.1=.map (some s):=fun e he=>by obtain ⟨s,_,h1,_⟩:=hsets e he;exact ⟨s,h1⟩
 obtain ⟨en,clock,es2,hmb,hE,hperm,hst⟩ : ∃ (en : Array MapEntry) (clock : Nat) (es2 : List (Value × Value × Nat)),w.heap[lm.blk]?=some (.map en clock)∧ZbP ι es2 en∧(es2.map kv).Perm (es.map kv)∧ZbA es2 clock:=by
  unfold Zjk at hes
  split at hes
  ·rename_i es0 clk hid
   split at hes
   ·rename_i hst
    cases hes
    obtain ⟨en,hb,_,hE⟩:=hS.mapR hid hlm
    exact ⟨en,_,_,hb,hE,.refl _,hst⟩
   ·cases hes
  ·rename_i es0 hid
   cases hes
   obtain ⟨en,clk,es2,hb,_,hE,hp⟩:=hS.mapUR hid hlm
   exact ⟨en,clk,es2,hb,hE,hp.perm,hp.st⟩
  ·cases hes
 have hmem2 : ∀ e∈es2,∃ f∈es,f.1=e.1∧f.2.1=e.2.1:=fun e he=>by
  have : kv e∈es.map kv:=hperm.mem_iff.1 (List.mem_map.2 ⟨e,he,rfl⟩)
  obtain ⟨f,hf,h1⟩:=List.mem_map.1 this
  unfold kv at h1
  simp only [Prod.mk.injEq] at h1
  exact ⟨f,hf,h1.1,h1.2⟩
 have hismap2 : ∀ e∈es2,∃ s,e.2.1=.map (some s):=fun e he=>by
  obtain ⟨f,hf,_,h2⟩:=hmem2 e he
  rw [← h2];exact hismap f hf
 obtain ⟨k1,k2⟩:=JI.keys hE
 have hkv:=Zoc (fun e n h hs=>ZvO h hs) es2 en.toList hE hismap2
 have hkeyp : (es2.map (·.1)).Perm (ks.map strv):=by
  have h3:=hperm.map (·.1)
  rw [Zd0,Zd0] at h3
  rw [← hk.keys];exact h3
 have hstr : ∀ x∈en.toList,∃ k : List UInt8,x.key=strv k:=fun x hx=>by
  have h3 : x.key∈es2.map (·.1):=by rw [← k1];exact List.mem_map.2 ⟨x,hx,rfl⟩
  obtain ⟨k,_,h4⟩:=List.mem_map.1 (hkeyp.mem_iff.1 h3)
  exact ⟨k,h4.symm⟩
 have hsets2 : ∀ x∈en.toList,∃ sb ses sclk,x.val=.map (some sb)∧w.heap[sb]?=some (.map ses sclk):=fun x hx=>by
  have h3 : (x.key,x.val)∈es2.map (fun e=>(e.1,Zgz ι e.2.1)):=by rw [← hkv];exact List.mem_map.2 ⟨x,hx,rfl⟩
  obtain ⟨e,he,h4⟩:=List.mem_map.1 h3
  obtain ⟨f,hf,_,hf2⟩:=hmem2 e he
  obtain ⟨s,y,hy1,hy2,hy3⟩:=hsets f hf
  simp only [Prod.mk.injEq] at h4
  rw [← hf2,hy1] at h4
  have hd : y≠.dead:=by rintro rfl;simp [ZfS] at hy3
  obtain ⟨ls,hls,_⟩:=(hS.obj s y hy2).loc hd
  have h5 : x.val=.map (some ls.blk):=by rw [← h4.2];simp [Zgz,hls]
  cases y with
  | map es' clk=>
   obtain ⟨en',hb,_,_⟩:=hS.mapR hy2 hls
   exact ⟨_,_,_,h5,hb⟩
  | mapU es'=>
   obtain ⟨en',clk,_,hb,_,_⟩:=hS.mapUR hy2 hls
   exact ⟨_,_,_,h5,hb⟩
  | _=>simp [ZfS] at hy3
 have hstamp : Go.MapKept.Stamped en clock:=by
  refine ⟨fun x hx=>?_,by rw [k2];exact hst.nod,by rw [k1];exact hkeyp.nodup_iff.2 (Zh5 hk.nod)⟩
  have h3 : x.born∈en.toList.map (·.born):=List.mem_map.2 ⟨x,hx,rfl⟩
  rw [k2] at h3
  obtain ⟨e',h1,h2⟩:=List.mem_map.1 h3
  rw [← h2];exact hst.lt e' h1
 simp only [Nat.add_zero,hbase]
 refine (hC.run w lc.blk lm.blk en clock hbl hcell hmb hstamp hstr hsets2).mono fun ee w' ⟨gb',ob,el',en',ck,L,he,hgb,hob,hst',hen',hL,hcp,hnd,hge,hb⟩=>?_
 have hS':=hS.below hb
 have hLkv : (L.map fun p=>(p.1.key,p.1.val)).Perm (es.map fun e=>(e.1,Zgz ι e.2.1)):=by
  have h3:=hL.map (fun x : MapEntry=>(x.key,x.val))
  rw [List.map_map,hkv] at h3
  have h4:=hperm.map (fun q : Value × Value=>(q.1,Zgz ι q.2))
  rw [List.map_map,List.map_map] at h4
  exact h3.trans h4
 obtain ⟨L',hL',hLm⟩:=Zod hLkv rfl
 simp only [List.nodup_cons,List.mem_cons,not_or] at hnd
 obtain ⟨⟨n1,n2⟩,n3,n4⟩:=hnd
 have hnod' : (L'.map (·.2)).Nodup:=(hL'.map _).nodup_iff.2 n4
 have hgeL : ∀ p∈L',w.heap.size≤p.2:=fun p hp=>hge _ (by simp only [List.mem_cons,List.mem_map];exact .inr (.inr ⟨p,hL'.mem_iff.1 hp,rfl⟩))
 obtain ⟨ι1,a1,a2,a3,a4,a5⟩:=Zsy hS es L' l ι H hS' (.refl _) hl hLm (fun p hp=>hcp p (hL'.mem_iff.1 hp)) hnod' (fun p hp=>⟨ZdM.sim hS (hgeL p hp),Nat.le_trans hS.size (hgeL p hp),Zno hS (hgeL p hp)⟩)
 have hobge:=hge ob (by simp)
 have hgbge:=hge gb' (by simp)
 have hobF : ZdM ι1 (H++l) ob:=a5 ob (ZdM.sim hS hobge) fun hm=>n3 ((hL'.map (·.2)).mem_iff.1 hm)
 have hgbF : ZdM ι1 (H++l) gb':=a5 gb' (ZdM.sim hS hgbge) fun hm=>n2 ((hL'.map (·.2)).mem_iff.1 hm)
 obtain ⟨B,hB,hBm⟩:=Zod (f:=Prod.fst) (l:=L'.zipIdx H.length) (m':=L) (by rw [List.zipIdx_map_fst];exact hL') rfl
 have hBi : ∀ b∈B,QL b.1.1.key=true∧ι1 b.2=some (ZfA b.1.2):=fun b hb=>by
  have hb':=hB.mem_iff.1 hb
  obtain ⟨i,hi⟩:=List.getElem?_of_mem hb'
  rw [List.getElem?_zipIdx] at hi
  cases hq : L'[i]? with
  | none=>rw [hq] at hi;cases hi
  | some q=>
   rw [hq] at hi
   have hi : (q,H.length+i)=b:=by simpa using hi
   subst hi
   refine ⟨?_,a4 i q hq⟩
   have hqL : q.1∈L.map (·.1):=List.mem_map.2 ⟨q,hL'.mem_iff.1 (List.mem_of_getElem? hq),rfl⟩
   obtain ⟨k,hk⟩:=hstr q.1 (hL.mem_iff.1 hqL)
   show QL q.1.key=true
   rw [hk];rfl
 have hen2 : en'.toList.map (fun x=>(x.key,x.val))=B.map (fun b=>(b.1.1.key,Value.map (some b.1.2))):=by
  rw [hen',← hBm,List.map_map];rfl
 obtain ⟨z1,z2,z3⟩:=ZoW B en'.toList hen2 hBi
 have hkeysL : L'.map (fun p=>p.1.key)=es.map (·.1):=by
  have:=congrArg (List.map Prod.fst) hLm
  simpa [List.map_map,Function.comp_def] using this
 obtain ⟨y1,y2⟩:=Zrd es L' H.length hkeysL
 have hle1 : Le ι ι1:=a1
 have hlen : (H++l).length=H.length+l.length:=List.length_append
 have hPU : WF (Zpr B en'.toList) ck (Zbu H.length es):=by
  refine ⟨?_,⟨fun e he=>?_,?_⟩,⟨fun e he=>?_,?_⟩⟩
  ·rw [z2,y1]
   exact hB.map _
  ·have : e.1∈(Zbu H.length es).map (·.1):=List.mem_map.2 ⟨e,he,rfl⟩
   rw [y2,hk.keys] at this
   obtain ⟨k,_,h4⟩:=List.mem_map.1 this
   exact ⟨_,h4.symm⟩
  ·rw [y2,hk.keys];exact Zh5 hk.nod
  ·have : e.2.2∈(Zpr B en'.toList).map (·.2.2):=List.mem_map.2 ⟨e,he,rfl⟩
   rw [z3] at this
   obtain ⟨x,hx,h4⟩:=List.mem_map.1 this
   rw [← h4];exact hst'.1 x hx
  ·rw [z3];exact hst'.2.1
 have hO:=a2.add (o:=.mapU (Zbu H.length es)) (l:=ZfA ob) ⟨ZfA ob,en',ck,_,Qg _ _ _,hob,Nat.le_trans hS.size hobge,z1.mono (J8 a2 _),hPU⟩ hobF.1 (Zno hS hobge) (fun _=>hobF.2)
 have hgbF2 : ZdM (Kg ι1 (H++l).length (ZfA ob)) (H++l++[.mapU (Zbu H.length es)]) gb':=hgbF.add a2 (Ne.symm n1)
 have hN:=hO.add (o:=.cells [.map (some (H.length+l.length))] 1 false false) (l:=⟨gb',0,1,1,false⟩) (by
  refine ⟨⟨gb',0,1,1,false⟩,_,_,_,Qg _ _ _,rfl,rfl,hgb,by simp,by simp,?_,fun _=>⟨Nat.le_trans hS.size hgbge,.inl rfl,fun _=>rfl⟩,by simp,by simp [oneCell]⟩
  refine ⟨rfl,fun i hi=>?_⟩
  have : i=0:=by simpa using hi
  subst this
  refine .mp (l:=ZfA ob) (J8 hO _ _ _ ?_)
  rw [← hlen]
  exact Qg _ _ _) hgbF2.1 (Zno hS hgbge) (fun _=>hgbF2.2)
 refine ⟨_,_,(hle1.trans (J8 a2 _)).trans (J8 hO _),he,?_,hN⟩
 have hp:=RV.ptr (ι:=Kg (Kg ι1 (H++l).length (ZfA ob)) (H++l++[Ze.mapU (Zbu H.length es)]).length ⟨gb',0,1,1,false⟩) (o:=0) (Qg _ _ _)
 have hlen2 : (H++l++[Ze.mapU (Zbu H.length es)]).length=H.length+l.length+1:=by rw [List.length_append,List.length_append,List.length_singleton]
 rw [hlen2] at hp ⊢
 exact hp
end
end Go.Proofs.YtnnehafmjfmbnaaGreatDoor.A

