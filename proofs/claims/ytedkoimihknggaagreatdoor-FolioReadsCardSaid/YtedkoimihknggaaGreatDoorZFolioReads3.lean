/- What the law FolioReads needs (part 3). -/
import Derived.Test.YtedkoimihknggaaGreatDoorZFolioReads2
import Derived.Test.YtedkoimihknggaaGreatDoorProg
import Derived.KernelRfl
import Derived.Maps.Own
import Derived.Sort.KeysCollected
import Derived.Lib.Bytealg
import Derived.WalkKit
import Derived.Maps.RangeWalk
import Derived.Deep.RegionWith
import Derived.Deep.Cut
import Derived.Laws.Cover1
import Derived.Sort.Walk0
import Derived.Sort.OwnSorted
import Derived.Shelf.SlGeneric
import Derived.Shelf.SlIter.Collect
import Derived.Shelf.SlSortCmp.Whole1
import Derived.Shelf.SlMaps.Clone
import Derived.Ground.GgzProg
import Derived.Ground.SlsfProg
import Derived.Ground.SlmcProg
namespace Go.Proofs.YtedkoimihknggaaGreatDoor.A
set_option linter.unusedVariables false
set_option maxRecDepth 100000
set_option linter.unusedSimpArgs false
open Go.Proofs Go.Proofs.YtedkoimihknggaaGreatDoor
noncomputable def Kb (Γ : Ze) (x0 : Value) : M Value:=
 bind (Γ ZaN []) fun y1=>
 bind (uop .not y1) fun y2=>
 bind (ZU y2 false 3 (bind (ZC x0) fun y3=>
 bind (bop .int .gtr y3 (Value.int .i64 900)) fun y4=>
 ret [x0,y3,y4])) (c3 fun _ _ q5_2=>
 bind (pick y2 (Value.bool true) q5_2) fun y6=>
 cnd y6
 (bind (Γ ZaN []) fun y7=>
 ret y7)
 (bind (bsl 1 0 (.int .u8 0) []) fun y8=>
 bind (app 1 1 y8 x0) fun y9=>
 bind (Γ Zap [y9]) fun y10=>
 bind (ZE y10 0) fun y11=>
 bind (ZE y10 1) fun y12=>
 bind (b2s x0) fun y13=>
 bind (Γ Kv [y13]) fun y14=>
 bind (ZE y14 0) fun y15=>
 bind (ZE y14 1) fun y16=>
 bind (alc 1 (.agg #[.slice none 0 0,.slice none 0 0])) fun y17=>
 bind (stA 2 y17 y15) fun _=>
 bind (bop .int .neq y12 y16) fun y18=>
 bind (ZU y18 false 5 (bind (b2s y9) fun y19=>
 bind (b2s x0) fun y20=>
 bind (bop .str .neq y19 y20) fun y21=>
 ret [y9,y19,x0,y20,y21])) (c5 fun _ _ _ _ q22_4=>
 bind (pick y18 (Value.bool true) q22_4) fun y23=>
 cnd y23
 (ret (Value.bool false))
 (bind (bop .int .neq y12 (Value.int .i64 0)) fun y24=>
 cnd y24
 (bind (bop .ptr .eql y11 (Value.pointer none)) fun y25=>
 ret y25)
 (bind (bop .ptr .neq y11 (Value.pointer none)) fun y26=>
 bind (ZF y26 true (ret y11)) fun y27=>
 bind (ZF y26 true (ldA 2 y17)) fun y28=>
 bind (ZF y26 true (Γ Zbr [y27,y28])) fun y29=>
 bind (pick y26 y29 (Value.bool false)) fun y30=>
 bind (ZF y30 true (ret y11)) fun y31=>
 bind (ZF y30 true (ret x0)) fun y32=>
 bind (ZF y30 true (b2s y32)) fun y33=>
 bind (ZF y30 true (Γ WR [y31])) fun y34=>
 bind (ZF y30 true (b2s y32)) fun u_35=>same u_35 y33 <|
 bind (ZF y30 true (b2s y34)) fun y36=>
 bind (ZF y30 true (bop .str .eql y36 y33)) fun y37=>
 bind (pick y30 y37 (Value.bool false)) fun y38=>
 ret y38)))))
theorem Ziy (Γ : Ze) (x0 : Value) : Zy Tryz.prog Γ Tryz.f4 Zdd [x0]=Kb Γ x0:=by kernel_rfl
theorem Zg9 {prim : FuncId→Option (List Value→M Value)} (hp : prim KL=none) (n : Nat) (x0 : Value) : run Tryz.prog prim lvs (n+1) KL [x0]=Kb (run Tryz.prog prim lvs n) x0:=
 (Zl hp (by kernel_rfl) Tryz.func4 (by kernel_rfl)).trans (Ziy _ x0)
noncomputable def ZeH (Γ : Ze) : M Value:=
 bind (Γ Zae []) fun y1=>
 bind (Γ WR [y1]) fun y2=>
 bind (b2s y2) fun y3=>
 bind (bop .str .eql y3 (Value.string ⟨#[2,0,0,0,0]⟩)) fun y4=>
 ret y4
theorem Znx (Γ : Ze) : Zy Tryz.prog Γ Tryz.f10 ZgK []=ZeH Γ :=by kernel_rfl
theorem ZlR {prim : FuncId→Option (List Value→M Value)} (hp : prim ZaN=none) (n : Nat) : run Tryz.prog prim lvs (n+1) ZaN []=ZeH (run Tryz.prog prim lvs n) :=
 (Zl hp (by kernel_rfl) Tryz.func10 (by kernel_rfl)).trans (Znx _ )
noncomputable def Qy.l1 (Γ : Ze) (s0 s7 s23 s24 s25 : Value) : M Out:=
 bind (bop .int .lss s25 s24) fun y5=>
 cnd y5
 (bind (ixa 1 s23 s25) fun y6=>
 bind (ld1 y6) fun y7=>
 bind (Jg s7) fun y8=>
 bind (fa 2 y8) fun y9=>
 bind (ld1 y9) fun y10=>
 bind (Γ Yp [y10,y7]) fun y11=>
 bind (bop .int .add s25 (Value.int .i64 1)) fun y12=>
 ret (.nrm [s0,s7,s23,s24,y12]))
 (ret (.ext 0 [s0,s7]))
noncomputable def Qy.l3 (Γ : Ze) (s7 s11 s36 s37 s38 s54 s55 s56 : Value) : M Out:=
 bind (bop .int .lss s56 s55) fun y33=>
 cnd y33
 (bind (ixa 1 s54 s56) fun y34=>
 bind (ld1 y34) fun y35=>
 bind (Jg s7) fun y36=>
 bind (fa 2 y36) fun y37=>
 bind (ld1 y37) fun y38=>
 bind (fa 0 s11) fun y39=>
 bind (ld1 y39) fun y40=>
 bind (Γ Ka [y38,y35,y40]) fun y41=>
 bind (bop .int .neq y41 (Value.int .i64 0)) fun y42=>
 cnd y42
 (ret (.ret (Value.tuple #[(Value.pointer none),y41])))
 (bind (bop .int .add s56 (Value.int .i64 1)) fun y43=>
 ret (.nrm [s7,s11,s36,s37,s38,s54,s55,y43])))
 (ret (.ext 4 [s7,s11,s36,s37,s38]))
noncomputable def Qy.l2 (Γ : Ze) (s7 s36 s37 s38 : Value) : M Out:=
 bind (bop .int .lss s38 s37) fun y16=>
 cnd y16
 (bind (ixa 5 s36 s38) fun y17=>
 bind (ldA 5 y17) fun y18=>
 bind (alc 1 (.agg #[.string ⟨#[]⟩,.string ⟨#[]⟩,.string ⟨#[]⟩,.bool false,.slice none 0 0])) fun y19=>
 bind (stA 5 y19 y18) fun _=>
 bind (Jg s7) fun y20=>
 bind (fa 0 y20) fun y21=>
 bind (ld1 y21) fun y22=>
 bind (fa 0 y19) fun y23=>
 bind (ld1 y23) fun y24=>
 bind (fa 1 y19) fun y25=>
 bind (ld1 y25) fun y26=>
 bind (fa 3 y19) fun y27=>
 bind (ld1 y27) fun y28=>
 bind (bld (.agg #[.string ⟨#[]⟩,.bool false]) [(0,1,y26),(1,1,y28)]) fun y29=>
 bind (mup .str y22 y24 y29) fun _=>
 bind (fa 4 y19) fun y30=>
 bind (ld1 y30) fun y31=>
 bind (ZC y31) fun y32=>
 jn (Zk (c8 (Qy.l3 Γ)) [s7,y19,s36,s37,s38,y31,y32,(Value.int .i64 0)]) noN (xk 4 (c5 fun q45_0 q45_1 q45_2 q45_3 q45_4=>
 bind (Jg q45_0) fun y46=>
 bind (fa 1 y46) fun y47=>
 bind (ld1 y47) fun y48=>
 bind (fa 0 q45_1) fun y49=>
 bind (ld1 y49) fun y50=>
 bind (fa 2 q45_1) fun y51=>
 bind (ld1 y51) fun y52=>
 bind (Γ YQ [y48,y50,y52]) fun y53=>
 bind (bop .int .neq y53 (Value.int .i64 0)) fun y54=>
 cnd y54
 (ret (.ret (Value.tuple #[(Value.pointer none),y53])))
 (bind (bop .int .add q45_4 (Value.int .i64 1)) fun y55=>
 ret (.nrm [q45_0,q45_2,q45_3,y55]))) noX) Q5)
 (ret (.ext 2 [s7]))
noncomputable def Qy (Γ : Ze) (x0 x1 : Value) : M Value:=
 bind (Γ Za2 [x0,x1]) fun y1=>
 bind (bop .int .neq y1 (Value.int .i64 0)) fun y2=>
 cnd y2
 (ret (Value.tuple #[(Value.pointer none),y1]))
 (bind (Γ Zae []) fun y3=>
 bind (ZC x1) fun y4=>
 jn (Zk (c5 (Qy.l1 Γ)) [x0,y3,x1,y4,(Value.int .i64 0)]) noN (xk 0 (c2 fun q14_0 q14_1=>
 bind (ZC q14_0) fun y15=>
 jn (Zk (c4 (Qy.l2 Γ)) [q14_1,q14_0,y15,(Value.int .i64 0)]) noN (xk 2 (c1 fun q58_0=>
 ret (Value.tuple #[q58_0,(Value.int .i64 0)])) noX) ret) noX) ret)
theorem Zr3 (Γ : Ze) (x0 x1 : Value) : Zy Tryz.prog Γ Tryz.f12 ZkL [x0,x1]=Qy Γ x0 x1:=by kernel_rfl
theorem Zqc {prim : FuncId→Option (List Value→M Value)} (hp : prim Za0=none) (n : Nat) (x0 x1 : Value) : run Tryz.prog prim lvs (n+1) Za0 [x0,x1]=Qy (run Tryz.prog prim lvs n) x0 x1:=
 (Zl hp (by kernel_rfl) Tryz.func12 (by kernel_rfl)).trans (Zr3 _ x0 x1)
noncomputable def Kx.l1 (Γ : Ze) (s3 s19 s20 s21 : Value) : M Out:=
 bind (bop .int .lss s21 s20) fun y12=>
 cnd y12
 (bind (ixa 5 s19 s21) fun y13=>
 bind (ldA 5 y13) fun y14=>
 bind (alc 1 (.agg #[.string ⟨#[]⟩,.string ⟨#[]⟩,.string ⟨#[]⟩,.bool false,.slice none 0 0])) fun y15=>
 bind (stA 5 y15 y14) fun _=>
 bind (ldA 5 y15) fun y16=>
 bind (Γ ZeM [s3,(Value.int .i64 2),y16]) fun y17=>
 bind (bop .int .add s21 (Value.int .i64 1)) fun y18=>
 ret (.nrm [s3,s19,s20,y18]))
 (ret (.ext 0 [s3]))
noncomputable def Kx (Γ : Ze) (x0 : Value) : M Value:=
 bind (bop .ptr .eql x0 (Value.pointer none)) fun y1=>
 cnd y1
 (ret (Value.slice none 0 0))
 (bind (bld (.agg #[.slice none 0 0]) []) fun y2=>
 bind (alc 1 y2) fun y3=>
 bind (Γ Jv [y3,(Value.int .u8 2)]) fun y4=>
 bind (Γ YH [x0]) fun y5=>
 bind (Γ YN [y4,y5]) fun y6=>
 bind (Γ KK [x0]) fun y7=>
 bind (cvi .u16 y7) fun y8=>
 bind (Γ Yj [y6,y8]) fun y9=>
 bind (Γ Wo [x0]) fun y10=>
 bind (ZC y10) fun y11=>
 jn (Zk (c4 (Kx.l1 Γ)) [y9,y10,y11,(Value.int .i64 0)]) noN (xk 0 (c1 fun q20_0=>
 bind (Γ Ky [q20_0]) fun y21=>
 ret y21) noX) ret)
theorem ZnH (Γ : Ze) (x0 : Value) : Zy Tryz.prog Γ Tryz.f13 ZgP [x0]=Kx Γ x0:=by kernel_rfl
theorem ZmB {prim : FuncId→Option (List Value→M Value)} (hp : prim WR=none) (n : Nat) (x0 : Value) : run Tryz.prog prim lvs (n+1) WR [x0]=Kx (run Tryz.prog prim lvs n) x0:=
 (Zl hp (by kernel_rfl) Tryz.func13 (by kernel_rfl)).trans (ZnH _ x0)
noncomputable def YW.l1 (Γ : Ze) (s4 s6 s8 s32 s33 : Value) : M Out:=
 bind (bop .int .lss s33 s32) fun y14=>
 cnd y14
 (bind (Γ ZbX [s4,(Value.int .i64 2)]) fun y15=>
 bind (bsl 5 1 (.agg #[.string ⟨#[]⟩,.string ⟨#[]⟩,.string ⟨#[]⟩,.bool false,.slice none 0 0]) [(0,5,y15)]) fun y16=>
 bind (app 5 80 s8 y16) fun y17=>
 bind (bop .int .add s33 (Value.int .i64 1)) fun y18=>
 ret (.nrm [s4,s6,y17,s32,y18]))
 (ret (.ext 0 [s4,s6,s8]))
noncomputable def YW (Γ : Ze) (x0 : Value) : M Value:=
 bind (Γ Zdb [x0]) fun y1=>
 bind (Γ Y9 [y1]) fun y2=>
 bind (Γ QO [y1]) fun y3=>
 bind (bop .int .eql y3 (Value.int .i64 0)) fun y4=>
 bind (ZU y4 true 2 (bind (bop .int .neq y2 (Value.int .u8 2)) fun y5=>
 ret [y2,y5])) (c2 fun _ q6_1=>
 bind (pick y4 q6_1 (Value.bool false)) fun y7=>
 cnd y7
 (ret (Value.tuple #[(Value.pointer none),(Value.int .i64 6)]))
 (bind (Γ YM [y1,(Value.int .i64 6),(Value.int .i64 12)]) fun y8=>
 bind (Γ Kp [y1]) fun y9=>
 bind (cvi .i64 y9) fun y10=>
 bind (bop .int .gtr y10 (Value.int .i64 12)) fun y11=>
 jn (cnd y11
 (bind (Γ ZX [y1,(Value.int .i64 7)]) fun y12=>
 ret (.nrm [y1,y8,(Value.int .i64 0)]))
 (ret (.nrm [y1,y8,y10]))) (c3 fun q13_0 q13_1 q13_2=>
 jn (Zk (c5 (YW.l1 Γ)) [q13_0,q13_1,(Value.slice none 0 0),q13_2,(Value.int .i64 0)]) noN (xk 0 (c3 fun q20_0 q20_1 q20_2=>
 bind (Γ QO [q20_0]) fun y21=>
 bind (bop .int .neq y21 (Value.int .i64 0)) fun y22=>
 cnd y22
 (ret (Value.tuple #[(Value.pointer none),y21]))
 (bind (Γ Za0 [q20_2,q20_1]) fun y23=>
 bind (ZE y23 0) fun y24=>
 bind (ZE y23 1) fun y25=>
 bind (bop .int .eql y25 (Value.int .i64 0)) fun y26=>
 jn (cnd y26
 (bind (Γ Ks [q20_0]) fun y27=>
 ret (.nrm [y24,y27]))
 (ret (.nrm [y24,y25]))) (c2 fun q28_0 q28_1=>
 bind (bop .int .neq q28_1 (Value.int .i64 0)) fun y29=>
 cnd y29
 (ret (Value.tuple #[(Value.pointer none),q28_1]))
 (ret (Value.tuple #[q28_0,(Value.int .i64 0)]))) noX ret)) noX) ret) noX ret))
theorem ZoG (Γ : Ze) (x0 : Value) : Zy Tryz.prog Γ Tryz.f15 ZiD [x0]=YW Γ x0:=by kernel_rfl
theorem ZgM {prim : FuncId→Option (List Value→M Value)} (hp : prim Zap=none) (n : Nat) (x0 : Value) : run Tryz.prog prim lvs (n+1) Zap [x0]=YW (run Tryz.prog prim lvs n) x0:=
 (Zl hp (by kernel_rfl) Tryz.func15 (by kernel_rfl)).trans (ZoG _ x0)
noncomputable def J1.l1 (Γ : Ze) (s2 s4 s5 s6 s8 s45 s46 : Value) : M Out:=
 bind (bop .int .lss s46 s45) fun y37=>
 cnd y37
 (bind (ldA 2 s5) fun y38=>
 bind (Γ Zbe [y38,(Value.int .i64 2)]) fun y39=>
 bind (ZE y39 0) fun y40=>
 bind (ZE y39 1) fun y41=>
 bind (alc 1 (.agg #[.string ⟨#[]⟩,.int .i64 0])) fun y42=>
 bind (alc 1 (.agg #[.string ⟨#[]⟩,.string ⟨#[]⟩,.string ⟨#[]⟩,.bool false,.slice none 0 0])) fun y43=>
 bind (stA 2 y42 y40) fun _=>
 bind (stA 5 y43 y41) fun _=>
 bind (ldA 2 y42) fun y44=>
 bind (stA 2 s5 y44) fun _=>
 bind (ldA 5 y43) fun y45=>
 bind (bsl 5 1 (.agg #[.string ⟨#[]⟩,.string ⟨#[]⟩,.string ⟨#[]⟩,.bool false,.slice none 0 0]) [(0,5,y45)]) fun y46=>
 bind (app 5 80 s8 y46) fun y47=>
 bind (bop .int .add s46 (Value.int .u64 1)) fun y48=>
 ret (.nrm [s2,s4,s5,s6,y47,s45,y48]))
 (ret (.ext 0 [s2,s4,s5,s6,s8]))
noncomputable def J1 (Γ : Ze) (x0 : Value) : M Value:=
 bind (alc 1 (.agg #[.slice none 0 0,.slice none 0 0])) fun y1=>
 bind (bld (.agg #[.slice none 0 0,.slice none 0 0]) []) fun y2=>
 bind (alc 1 (.agg #[.slice none 0 0,.slice none 0 0])) fun y3=>
 bind (stA 2 y3 y2) fun _=>
 bind (bop .str .eql x0 (Value.string ⟨#[]⟩)) fun y4=>
 cnd y4
 (bind (ldA 2 y3) fun y5=>
 bind (stA 2 y1 y5) fun _=>
 bind (ldA 2 y1) fun y6=>
 ret (Value.tuple #[y6,(Value.int .i64 2)]))
 (bind (ixs x0 (Value.int .i64 0)) fun y7=>
 bind (bop .int .neq y7 (Value.int .u8 2)) fun y8=>
 cnd y8
 (bind (ldA 2 y3) fun y9=>
 bind (stA 2 y1 y9) fun _=>
 bind (ldA 2 y1) fun y10=>
 ret (Value.tuple #[y10,(Value.int .i64 6)]))
 (bind (sls x0 (some (Value.int .i64 1)) none) fun y11=>
 bind (bld (.agg #[.string ⟨#[]⟩,.int .i64 0]) [(0,1,y11)]) fun y12=>
 bind (Γ Ke [y12,(Value.int .i64 6),(Value.int .i64 12)]) fun y13=>
 bind (ZE y13 0) fun y14=>
 bind (ZE y13 1) fun y15=>
 bind (alc 1 (.agg #[.string ⟨#[]⟩,.int .i64 0])) fun y16=>
 bind (stA 2 y16 y14) fun _=>
 bind (ldA 2 y16) fun y17=>
 bind (Γ J5 [y17,(Value.int .i64 2)]) fun y18=>
 bind (ZE y18 0) fun y19=>
 bind (ZE y18 1) fun y20=>
 bind (stA 2 y16 y19) fun _=>
 bind (fa 1 y16) fun y21=>
 bind (ld1 y21) fun y22=>
 bind (bop .int .eql y22 (Value.int .i64 0)) fun y23=>
 bind (ZU y23 true 2 (bind (bop .int .gtr y20 (Value.int .u64 12)) fun y24=>
 ret [y20,y24])) (c2 fun _ q25_1=>
 bind (pick y23 q25_1 (Value.bool false)) fun y26=>
 jn (cnd y26
 (bind (fa 1 y16) fun y27=>
 bind (st1 y27 (Value.int .i64 7)) fun _=>
 ret (.nrm [y1,y3,y16,y15,y20]))
 (ret (.nrm [y1,y3,y16,y15,y20]))) (c5 fun q28_0 q28_1 q28_2 q28_3 q28_4=>
 bind (fa 1 q28_2) fun y29=>
 bind (ld1 y29) fun y30=>
 bind (bop .int .neq y30 (Value.int .i64 0)) fun y31=>
 cnd y31
 (bind (ldA 2 q28_1) fun y32=>
 bind (fa 1 q28_2) fun y33=>
 bind (ld1 y33) fun y34=>
 bind (stA 2 q28_0 y32) fun _=>
 bind (ld1 y33) fun u_35=>same u_35 y34 <|
 bind (ldA 2 q28_0) fun y36=>
 ret (Value.tuple #[y36,y34]))
 (jn (Zk (c7 (J1.l1 Γ)) [q28_0,q28_1,q28_2,q28_3,(Value.slice none 0 0),q28_4,(Value.int .u64 0)]) noN (xk 0 (c5 fun q50_0 q50_1 q50_2 q50_3 q50_4=>
 bind (fa 1 q50_2) fun y51=>
 bind (ld1 y51) fun y52=>
 bind (bop .int .eql y52 (Value.int .i64 0)) fun y53=>
 jn (cnd y53
 (bind (Γ ZbU [q50_4,q50_3]) fun y54=>
 bind (fa 1 q50_2) fun y55=>
 bind (st1 y55 y54) fun _=>
 ret (.nrm [q50_0,q50_1,q50_2,q50_3,q50_4]))
 (ret (.nrm [q50_0,q50_1,q50_2,q50_3,q50_4]))) (c5 fun q56_0 q56_1 q56_2 q56_3 q56_4=>
 bind (fa 1 q56_2) fun y57=>
 bind (ld1 y57) fun y58=>
 bind (bop .int .eql y58 (Value.int .i64 0)) fun y59=>
 bind (ZU y59 true 3 (bind (fa 0 q56_2) fun y60=>
 bind (ld1 y60) fun y61=>
 bind (bop .str .neq y61 (Value.string ⟨#[]⟩)) fun y62=>
 ret [y60,y61,y62])) (c3 fun _ _ q63_2=>
 bind (pick y59 q63_2 (Value.bool false)) fun y64=>
 jn (cnd y64
 (bind (fa 1 q56_2) fun y65=>
 bind (st1 y65 (Value.int .i64 3)) fun _=>
 ret (.nrm [q56_0,q56_1,q56_2,q56_3,q56_4]))
 (ret (.nrm [q56_0,q56_1,q56_2,q56_3,q56_4]))) (c5 fun q66_0 q66_1 q66_2 q66_3 q66_4=>
 bind (fa 1 q66_2) fun y67=>
 bind (ld1 y67) fun y68=>
 bind (bop .int .neq y68 (Value.int .i64 0)) fun y69=>
 cnd y69
 (bind (ldA 2 q66_1) fun y70=>
 bind (fa 1 q66_2) fun y71=>
 bind (ld1 y71) fun y72=>
 bind (stA 2 q66_0 y70) fun _=>
 bind (ld1 y71) fun u_73=>same u_73 y72 <|
 bind (ldA 2 q66_0) fun y74=>
 ret (Value.tuple #[y74,y72]))
 (bind (bld (.agg #[.slice none 0 0,.slice none 0 0]) [(0,1,q66_4),(1,1,q66_3)]) fun y75=>
 bind (stA 2 q66_0 y75) fun _=>
 bind (ldA 2 q66_0) fun y76=>
 ret (Value.tuple #[y76,(Value.int .i64 0)]))) noX ret)) noX ret) noX) ret)) noX ret)))
theorem Zn2 (Γ : Ze) (x0 : Value) : Zy Tryz.prog Γ Tryz.f16 Ziv [x0]=J1 Γ x0:=by kernel_rfl
theorem Znk {prim : FuncId→Option (List Value→M Value)} (hp : prim Kv=none) (n : Nat) (x0 : Value) : run Tryz.prog prim lvs (n+1) Kv [x0]=J1 (run Tryz.prog prim lvs n) x0:=
 (Zl hp (by kernel_rfl) Tryz.func16 (by kernel_rfl)).trans (Zn2 _ x0)
noncomputable def Zfd (Γ : Ze) (x0 x1 : Value) : M Value:=
 bind (alc 1 x1) fun y1=>
 bind (fa 0 y1) fun y2=>
 bind (ld1 y2) fun y3=>
 bind (ZC y3) fun y4=>
 bind (Γ KK [x0]) fun y5=>
 bind (ld1 y2) fun u_6=>same u_6 y3 <|
 bind (bop .int .eql y5 y4) fun y7=>
 bind (ZF y7 true (ret x0)) fun y8=>
 bind (ZF y7 true (fa 0 y1)) fun y9=>
 bind (ZF y7 true (ld1 y9)) fun y10=>
 bind (ZF y7 true (Γ Wo [y8])) fun y11=>
 bind (ZF y7 true (ld1 y9)) fun u_12=>same u_12 y10 <|
 bind (ZF y7 true (Γ Kn [y11,y10])) fun y13=>
 bind (pick y7 y13 (Value.bool false)) fun y14=>
 bind (ZF y14 true (ret x0)) fun y15=>
 bind (ZF y14 true (fa 1 y1)) fun y16=>
 bind (ZF y14 true (ld1 y16)) fun y17=>
 bind (ZF y14 true (Γ YH [y15])) fun y18=>
 bind (ZF y14 true (ld1 y16)) fun u_19=>same u_19 y17 <|
 bind (ZF y14 true (Γ K8 [y18,y17])) fun y20=>
 bind (pick y14 y20 (Value.bool false)) fun y21=>
 ret y21
theorem ZpD (Γ : Ze) (x0 x1 : Value) : Zy Tryz.prog Γ Tryz.f17 Zhk [x0,x1]=Zfd Γ x0 x1:=by kernel_rfl
theorem Znm {prim : FuncId→Option (List Value→M Value)} (hp : prim Zbr=none) (n : Nat) (x0 x1 : Value) : run Tryz.prog prim lvs (n+1) Zbr [x0,x1]=Zfd (run Tryz.prog prim lvs n) x0 x1:=
 (Zl hp (by kernel_rfl) Tryz.func17 (by kernel_rfl)).trans (ZpD _ x0 x1)
noncomputable def K6 (Γ : Ze) (x0 x1 : Value) : M Value:=
 bind (alc 1 (.agg #[.string ⟨#[]⟩,.string ⟨#[]⟩,.string ⟨#[]⟩,.bool false,.slice none 0 0])) fun y1=>
 bind (Γ WV [x0,x1]) fun y2=>
 bind (ZE y2 0) fun y3=>
 bind (ZE y2 1) fun y4=>
 bind (alc 1 (.agg #[.string ⟨#[]⟩,.bool false])) fun y5=>
 bind (stA 2 y5 y3) fun _=>
 bind (bop .int .neq y4 (Value.int .i64 0)) fun y6=>
 cnd y6
 (bind (bld (.agg #[.string ⟨#[]⟩,.string ⟨#[]⟩,.string ⟨#[]⟩,.bool false,.slice none 0 0]) []) fun y7=>
 bind (stA 5 y1 y7) fun _=>
 bind (ldA 5 y1) fun y8=>
 ret (Value.tuple #[y8,y4]))
 (bind (Jg x0) fun y9=>
 bind (fa 1 y9) fun y10=>
 bind (ld1 y10) fun y11=>
 bind (Γ Zak [y11,x1]) fun y12=>
 bind (ZE y12 0) fun y13=>
 bind (ZE y12 1) fun y14=>
 bind (fa 0 y5) fun y15=>
 bind (ld1 y15) fun y16=>
 bind (fa 1 y5) fun y17=>
 bind (ld1 y17) fun y18=>
 bind (Jg x0) fun y19=>
 bind (fa 2 y19) fun y20=>
 bind (ld1 y20) fun y21=>
 bind (Γ Wp [y21,x1]) fun y22=>
 bind (ld1 y17) fun u_23=>same u_23 y18 <|
 bind (ld1 y15) fun u_24=>same u_24 y16 <|
 bind (bld (.agg #[.string ⟨#[]⟩,.string ⟨#[]⟩,.string ⟨#[]⟩,.bool false,.slice none 0 0]) [(0,1,x1),(1,1,y16),(2,1,y13),(3,1,y18),(4,1,y22)]) fun y25=>
 bind (stA 5 y1 y25) fun _=>
 bind (ldA 5 y1) fun y26=>
 ret (Value.tuple #[y26,(Value.int .i64 0)]))
theorem Zjq (Γ : Ze) (x0 x1 : Value) : Zy Tryz.prog Γ Tryz.f33 ZdL [x0,x1]=K6 Γ x0 x1:=by kernel_rfl
theorem Zhg {prim : FuncId→Option (List Value→M Value)} (hp : prim Wa=none) (n : Nat) (x0 x1 : Value) : run Tryz.prog prim lvs (n+1) Wa [x0,x1]=K6 (run Tryz.prog prim lvs n) x0 x1:=
 (Zl hp (by kernel_rfl) Tryz.func33 (by kernel_rfl)).trans (Zjq _ x0 x1)
noncomputable def JR.l1 (Γ : Ze) (s0 s1 s12 s13 : Value) : M Out:=
 bind (bop .int .lss s13 s12) fun y5=>
 cnd y5
 (bind (ixa 1 s0 s13) fun y6=>
 bind (ld1 y6) fun y7=>
 bind (ixa 1 s1 s13) fun y8=>
 bind (ld1 y8) fun y9=>
 bind (bop .str .neq y7 y9) fun y10=>
 cnd y10
 (ret (.ret (Value.bool false)))
 (bind (bop .int .add s13 (Value.int .i64 1)) fun y11=>
 ret (.nrm [s0,s1,s12,y11])))
 (ret (.ext 0 []))
noncomputable def JR (Γ : Ze) (x0 x1 : Value) : M Value:=
 bind (ZC x0) fun y1=>
 bind (ZC x1) fun y2=>
 bind (bop .int .neq y1 y2) fun y3=>
 cnd y3
 (ret (Value.bool false))
 (bind (ZC x0) fun y4=>
 jn (Zk (c4 (JR.l1 Γ)) [x0,x1,y4,(Value.int .i64 0)]) noN (xk 0 (c0 (ret (Value.bool true))) noX) ret)
theorem Zi2 (Γ : Ze) (x0 x1 : Value) : Zy Tryz.prog Γ Tryz.f36 ZdK [x0,x1]=JR Γ x0 x1:=by kernel_rfl
theorem Zie {prim : FuncId→Option (List Value→M Value)} (hp : prim K8=none) (n : Nat) (x0 x1 : Value) : run Tryz.prog prim lvs (n+1) K8 [x0,x1]=JR (run Tryz.prog prim lvs n) x0 x1:=
 (Zl hp (by kernel_rfl) Tryz.func36 (by kernel_rfl)).trans (Zi2 _ x0 x1)
noncomputable def Zf1 (Γ : Ze) : M Value:=
 bind (mkm) fun y1=>
 bind (Γ ZeW []) fun y2=>
 bind (Γ Zd6 []) fun y3=>
 bind (bld (.agg #[.map none,.pointer none,.pointer none]) [(0,1,y1),(1,1,y2),(2,1,y3)]) fun y4=>
 bind (alc 1 y4) fun y5=>
 ret y5
theorem Zqn (Γ : Ze) : Zy Tryz.prog Γ Tryz.f37 Zjx []=Zf1 Γ :=by kernel_rfl
theorem Zof {prim : FuncId→Option (List Value→M Value)} (hp : prim Zae=none) (n : Nat) : run Tryz.prog prim lvs (n+1) Zae []=Zf1 (run Tryz.prog prim lvs n) :=
 (Zl hp (by kernel_rfl) Tryz.func37 (by kernel_rfl)).trans (Zqn _ )
noncomputable def QQ.l1 (Γ : Ze) (s0 s1 s12 s13 : Value) : M Out:=
 bind (bop .int .lss s13 s12) fun y5=>
 cnd y5
 (bind (ixa 5 s0 s13) fun y6=>
 bind (ldA 5 y6) fun y7=>
 bind (ixa 5 s1 s13) fun y8=>
 bind (ldA 5 y8) fun y9=>
 bind (Γ Zc7 [y7,y9]) fun y10=>
 bind (uop .not y10) fun y11=>
 cnd y11
 (ret (.ret (Value.bool false)))
 (bind (bop .int .add s13 (Value.int .i64 1)) fun y12=>
 ret (.nrm [s0,s1,s12,y12])))
 (ret (.ext 0 []))
noncomputable def QQ (Γ : Ze) (x0 x1 : Value) : M Value:=
 bind (ZC x0) fun y1=>
 bind (ZC x1) fun y2=>
 bind (bop .int .neq y1 y2) fun y3=>
 cnd y3
 (ret (Value.bool false))
 (bind (ZC x0) fun y4=>
 jn (Zk (c4 (QQ.l1 Γ)) [x0,x1,y4,(Value.int .i64 0)]) noN (xk 0 (c0 (ret (Value.bool true))) noX) ret)
theorem Zjk (Γ : Ze) (x0 x1 : Value) : Zy Tryz.prog Γ Tryz.f39 ZdH [x0,x1]=QQ Γ x0 x1:=by kernel_rfl
theorem ZhF {prim : FuncId→Option (List Value→M Value)} (hp : prim Kn=none) (n : Nat) (x0 x1 : Value) : run Tryz.prog prim lvs (n+1) Kn [x0,x1]=QQ (run Tryz.prog prim lvs n) x0 x1:=
 (Zl hp (by kernel_rfl) Tryz.func39 (by kernel_rfl)).trans (Zjk _ x0 x1)
noncomputable def QL.l1 (Γ : Ze) (s1 s5 s13 s14 s15 : Value) : M Out:=
 bind (bop .int .lss s15 s14) fun y2=>
 cnd y2
 (bind (ixa 5 s13 s15) fun y3=>
 bind (ldA 5 y3) fun y4=>
 bind (alc 1 (.agg #[.string ⟨#[]⟩,.string ⟨#[]⟩,.string ⟨#[]⟩,.bool false,.slice none 0 0])) fun y5=>
 bind (stA 5 y5 y4) fun _=>
 bind (ldA 5 y5) fun y6=>
 bind (Γ KY [(Value.int .i64 2),y6]) fun y7=>
 bind (bop .int .neq y7 (Value.int .i64 0)) fun y8=>
 cnd y8
 (ret (.ret y7))
 (bind (fa 0 y5) fun y9=>
 bind (ld1 y9) fun y10=>
 bind (bsl 1 1 (.string ⟨#[]⟩) [(0,1,y10)]) fun y11=>
 bind (app 1 16 s5 y11) fun y12=>
 bind (bop .int .add s15 (Value.int .i64 1)) fun y13=>
 ret (.nrm [s1,y12,s13,s14,y13])))
 (ret (.ext 0 [s1,s5]))
noncomputable def QL.l2 (Γ : Ze) (s1 s35 s36 s37 : Value) : M Out:=
 bind (bop .int .lss s37 s36) fun y19=>
 cnd y19
 (bind (ixa 1 s35 s37) fun y20=>
 bind (ld1 y20) fun y21=>
 bind (Γ JU [y21]) fun y22=>
 bind (bop .int .neq y22 (Value.int .i64 0)) fun y23=>
 cnd y23
 (ret (.ret y22))
 (bind (bop .int .add s37 (Value.int .i64 1)) fun y24=>
 ret (.nrm [s1,s35,s36,y24])))
 (ret (.ext 2 [s1]))
noncomputable def QL (Γ : Ze) (x0 x1 : Value) : M Value:=
 bind (ZC x0) fun y1=>
 jn (Zk (c5 (QL.l1 Γ)) [x1,(Value.slice none 0 0),x0,y1,(Value.int .i64 0)]) noN (xk 0 (c2 fun q15_0 q15_1=>
 bind (Γ YT [q15_1,(Value.int .i64 12)]) fun y16=>
 bind (bop .int .neq y16 (Value.int .i64 0)) fun y17=>
 cnd y17
 (ret y16)
 (bind (ZC q15_0) fun y18=>
 jn (Zk (c4 (QL.l2 Γ)) [q15_0,q15_0,y18,(Value.int .i64 0)]) noN (xk 2 (c1 fun q26_0=>
 bind (Γ YT [q26_0,(Value.int .i64 6)]) fun y27=>
 ret y27) noX) ret)) noX) ret
theorem ZnE (Γ : Ze) (x0 x1 : Value) : Zy Tryz.prog Γ Tryz.f41 ZgE [x0,x1]=QL Γ x0 x1:=by kernel_rfl
theorem ZmF {prim : FuncId→Option (List Value→M Value)} (hp : prim Za2=none) (n : Nat) (x0 x1 : Value) : run Tryz.prog prim lvs (n+1) Za2 [x0,x1]=QL (run Tryz.prog prim lvs n) x0 x1:=
 (Zl hp (by kernel_rfl) Tryz.func41 (by kernel_rfl)).trans (ZnE _ x0 x1)
noncomputable def J2 (Γ : Ze) (x0 x1 : Value) : M Value:=
 bind (Γ Ys [x0,x1,(Value.slice none 0 0)]) fun y1=>
 bind (ZE y1 0) fun y2=>
 bind (ZE y1 1) fun y3=>
 bind (bop .int .eql y3 (Value.int .i64 0)) fun y4=>
 cnd y4
 (ret (Value.int .i64 9))
 (bind (bop .int .neq y3 (Value.int .i64 8)) fun y5=>
 cnd y5
 (ret y3)
 (bind (Jg x0) fun y6=>
 bind (fa 0 y6) fun y7=>
 bind (ld1 y7) fun y8=>
 bind (lenM y8) fun y9=>
 bind (bop .int .geq y9 (Value.int .i64 6)) fun y10=>
 cnd y10
 (ret (Value.int .i64 7))
 (bind (Jg x0) fun y11=>
 bind (fa 0 y11) fun y12=>
 bind (ld1 y12) fun y13=>
 bind (mkm) fun y14=>
 bind (mup .str y13 x1 y14) fun _=>
 ret (Value.int .i64 0))))
theorem ZhG (Γ : Ze) (x0 x1 : Value) : Zy Tryz.prog Γ Tryz.f42 Zdg [x0,x1]=J2 Γ x0 x1:=by kernel_rfl
theorem Zg8 {prim : FuncId→Option (List Value→M Value)} (hp : prim Yp=none) (n : Nat) (x0 x1 : Value) : run Tryz.prog prim lvs (n+1) Yp [x0,x1]=J2 (run Tryz.prog prim lvs n) x0 x1:=
 (Zl hp (by kernel_rfl) Tryz.func42 (by kernel_rfl)).trans (ZhG _ x0 x1)
noncomputable def Kc (Γ : Ze) (x0 x1 x2 : Value) : M Value:=
 bind (bsl 1 1 (.string ⟨#[]⟩) [(0,1,x2)]) fun y1=>
 bind (Γ Ys [x0,x1,y1]) fun y2=>
 bind (ZE y2 0) fun y3=>
 bind (ZE y2 1) fun y4=>
 bind (bop .int .neq y4 (Value.int .i64 0)) fun y5=>
 cnd y5
 (ret y4)
 (bind (lkp .str (.agg #[]) true y3 x2) fun y6=>
 bind (ZE y6 0) fun y7=>
 bind (ZE y6 1) fun y8=>
 bind (alc 1 (.agg #[])) fun y9=>
 bind (stA 0 y9 y7) fun _=>
 cnd y8
 (ret (Value.int .i64 9))
 (bind (bld (.agg #[]) []) fun y10=>
 bind (mup .str y3 x2 y10) fun _=>
 ret (Value.int .i64 0)))
theorem Zh9 (Γ : Ze) (x0 x1 x2 : Value) : Zy Tryz.prog Γ Tryz.f43 Zdi [x0,x1,x2]=Kc Γ x0 x1 x2:=by kernel_rfl
theorem ZgU {prim : FuncId→Option (List Value→M Value)} (hp : prim Ka=none) (n : Nat) (x0 x1 x2 : Value) : run Tryz.prog prim lvs (n+1) Ka [x0,x1,x2]=Kc (run Tryz.prog prim lvs n) x0 x1 x2:=
 (Zl hp (by kernel_rfl) Tryz.func43 (by kernel_rfl)).trans (Zh9 _ x0 x1 x2)
noncomputable def YP (Γ : Ze) (x0 x1 x2 : Value) : M Value:=
 bind (Γ JU [x1]) fun y1=>
 bind (bop .int .neq y1 (Value.int .i64 0)) fun y2=>
 cnd y2
 (ret y1)
 (bind (bop .str .eql x2 (Value.string ⟨#[]⟩)) fun y3=>
 cnd y3
 (bind (Γ Yt [x0,x1]) fun y4=>
 ret (Value.int .i64 0))
 (bind (Γ Zbd [x2]) fun y5=>
 bind (ZE y5 0) fun y6=>
 bind (ZE y5 1) fun y7=>
 bind (bop .int .neq y7 (Value.int .i64 0)) fun y8=>
 cnd y8
 (ret y7)
 (bind (Jg x0) fun y9=>
 bind (fa 0 y9) fun y10=>
 bind (ld1 y10) fun y11=>
 bind (lkp .str (.string ⟨#[]⟩) true y11 y6) fun y12=>
 bind (ZE y12 0) fun y13=>
 bind (ZE y12 1) fun y14=>
 bind (ZU y14 true 3 (bind (bop .str .neq y13 x1) fun y15=>
 ret [y13,x1,y15])) (c3 fun _ _ q16_2=>
 bind (pick y14 q16_2 (Value.bool false)) fun y17=>
 cnd y17
 (ret (Value.int .i64 9))
 (bind (Γ Yt [x0,x1]) fun y18=>
 bind (Jg x0) fun y19=>
 bind (fa 0 y19) fun y20=>
 bind (ld1 y20) fun y21=>
 bind (Jg x0) fun y22=>
 bind (fa 1 y22) fun y23=>
 bind (ld1 y23) fun y24=>
 bind (men .str (.string ⟨#[]⟩) y21 y6) fun y25=>
 bind (ZE y25 1) fun y26=>
 bind (ens y21 y26 x1) fun _=>
 bind (men .str (.string ⟨#[]⟩) y24 x1) fun y27=>
 bind (ZE y27 1) fun y28=>
 bind (ens y24 y28 y6) fun _=>
 ret (Value.int .i64 0))))))
theorem ZkJ (Γ : Ze) (x0 x1 x2 : Value) : Zy Tryz.prog Γ Tryz.f44 Ze7 [x0,x1,x2]=YP Γ x0 x1 x2:=by kernel_rfl
theorem ZjY {prim : FuncId→Option (List Value→M Value)} (hp : prim YQ=none) (n : Nat) (x0 x1 x2 : Value) : run Tryz.prog prim lvs (n+1) YQ [x0,x1,x2]=YP (run Tryz.prog prim lvs n) x0 x1 x2:=
 (Zl hp (by kernel_rfl) Tryz.func44 (by kernel_rfl)).trans (ZkJ _ x0 x1 x2)
noncomputable def Zbf (Γ : Ze) (x0 x1 : Value) : M Value:=
 bind (cvi .u64 x1) fun y1=>
 bind (Γ YJ [x0,y1,(Value.int .i64 1)]) fun y2=>
 ret y2
theorem Zij (Γ : Ze) (x0 x1 : Value) : Zy Tryz.prog Γ Tryz.f45 Zdx [x0,x1]=Zbf Γ x0 x1:=by kernel_rfl
theorem Zg1 {prim : FuncId→Option (List Value→M Value)} (hp : prim Jv=none) (n : Nat) (x0 x1 : Value) : run Tryz.prog prim lvs (n+1) Jv [x0,x1]=Zbf (run Tryz.prog prim lvs n) x0 x1:=
 (Zl hp (by kernel_rfl) Tryz.func45 (by kernel_rfl)).trans (Zij _ x0 x1)
noncomputable def Yd.l1 (Γ : Ze) (s0 s17 s18 s19 : Value) : M Out:=
 bind (bop .int .lss s19 s18) fun y8=>
 cnd y8
 (bind (ixa 1 s17 s19) fun y9=>
 bind (ld1 y9) fun y10=>
 bind (Γ Jc [s0,y10]) fun y11=>
 bind (bop .int .add s19 (Value.int .i64 1)) fun y12=>
 ret (.nrm [s0,s17,s18,y12]))
 (ret (.ext 0 [s0]))
noncomputable def Yd (Γ : Ze) (x0 x1 : Value) : M Value:=
 bind (ZC x1) fun y1=>
 bind (mxi false y1 (Value.int .i64 65535)) fun y2=>
 bind (slv 1 x1 none (some y2) none) fun y3=>
 bind (ZC y3) fun y4=>
 bind (cvi .u16 y4) fun y5=>
 bind (Γ Yj [x0,y5]) fun y6=>
 bind (ZC y3) fun y7=>
 jn (Zk (c4 (Yd.l1 Γ)) [x0,y3,y7,(Value.int .i64 0)]) noN (xk 0 (c1 fun q14_0=>
 ret q14_0) noX) ret
theorem ZiU (Γ : Ze) (x0 x1 : Value) : Zy Tryz.prog Γ Tryz.f46 ZdO [x0,x1]=Yd Γ x0 x1:=by kernel_rfl
theorem Zip {prim : FuncId→Option (List Value→M Value)} (hp : prim YN=none) (n : Nat) (x0 x1 : Value) : run Tryz.prog prim lvs (n+1) YN [x0,x1]=Yd (run Tryz.prog prim lvs n) x0 x1:=
 (Zl hp (by kernel_rfl) Tryz.func46 (by kernel_rfl)).trans (ZiU _ x0 x1)
noncomputable def ZbI (Γ : Ze) (x0 : Value) : M Value:=
 bind (Jg x0) fun y1=>
 bind (fa 2 y1) fun y2=>
 bind (ld1 y2) fun y3=>
 bind (Γ YL [y3]) fun y4=>
 ret y4
theorem Zjd (Γ : Ze) (x0 : Value) : Zy Tryz.prog Γ Tryz.f47 ZdS [x0]=ZbI Γ x0:=by kernel_rfl
theorem Zh8 {prim : FuncId→Option (List Value→M Value)} (hp : prim YH=none) (n : Nat) (x0 : Value) : run Tryz.prog prim lvs (n+1) YH [x0]=ZbI (run Tryz.prog prim lvs n) x0:=
 (Zl hp (by kernel_rfl) Tryz.func47 (by kernel_rfl)).trans (Zjd _ x0)
noncomputable def ZbE (Γ : Ze) (x0 x1 : Value) : M Value:=
 bind (cvi .u64 x1) fun y1=>
 bind (Γ YJ [x0,y1,(Value.int .i64 2)]) fun y2=>
 ret y2
theorem ZiZ (Γ : Ze) (x0 x1 : Value) : Zy Tryz.prog Γ Tryz.f48 ZdV [x0,x1]=ZbE Γ x0 x1:=by kernel_rfl
theorem ZhT {prim : FuncId→Option (List Value→M Value)} (hp : prim Yj=none) (n : Nat) (x0 x1 : Value) : run Tryz.prog prim lvs (n+1) Yj [x0,x1]=ZbE (run Tryz.prog prim lvs n) x0 x1:=
 (Zl hp (by kernel_rfl) Tryz.func48 (by kernel_rfl)).trans (ZiZ _ x0 x1)
noncomputable def ZdE (Γ : Ze) (x0 : Value) : M Value:=
 bind (Jg x0) fun y1=>
 bind (fa 0 y1) fun y2=>
 bind (ld1 y2) fun y3=>
 bind (lenM y3) fun y4=>
 ret y4
theorem ZmA (Γ : Ze) (x0 : Value) : Zy Tryz.prog Γ Tryz.f49 ZfG [x0]=ZdE Γ x0:=by kernel_rfl
theorem Zlv {prim : FuncId→Option (List Value→M Value)} (hp : prim KK=none) (n : Nat) (x0 : Value) : run Tryz.prog prim lvs (n+1) KK [x0]=ZdE (run Tryz.prog prim lvs n) x0:=
 (Zl hp (by kernel_rfl) Tryz.func49 (by kernel_rfl)).trans (ZmA _ x0)
noncomputable def YD.l1 (Γ : Ze) (s0 s3 s9 s10 s11 : Value) : M Out:=
 bind (bop .int .lss s11 s10) fun y3=>
 cnd y3
 (bind (ixa 1 s9 s11) fun y4=>
 bind (ld1 y4) fun y5=>
 bind (Γ Wa [s0,y5]) fun y6=>
 bind (ZE y6 0) fun y7=>
 bind (ZE y6 1) fun y8=>
 bind (alc 1 (.agg #[.string ⟨#[]⟩,.string ⟨#[]⟩,.string ⟨#[]⟩,.bool false,.slice none 0 0])) fun y9=>
 bind (stA 5 y9 y7) fun _=>
 bind (ldA 5 y9) fun y10=>
 bind (bsl 5 1 (.agg #[.string ⟨#[]⟩,.string ⟨#[]⟩,.string ⟨#[]⟩,.bool false,.slice none 0 0]) [(0,5,y10)]) fun y11=>
 bind (app 5 80 s3 y11) fun y12=>
 bind (bop .int .add s11 (Value.int .i64 1)) fun y13=>
 ret (.nrm [s0,y12,s9,s10,y13]))
 (ret (.ext 0 [s3]))
noncomputable def YD (Γ : Ze) (x0 : Value) : M Value:=
 bind (Γ Wq [x0]) fun y1=>
 bind (ZC y1) fun y2=>
 jn (Zk (c5 (YD.l1 Γ)) [x0,(Value.slice none 0 0),y1,y2,(Value.int .i64 0)]) noN (xk 0 (c1 fun q15_0=>
 ret q15_0) noX) ret
theorem Zmz (Γ : Ze) (x0 : Value) : Zy Tryz.prog Γ Tryz.f50 Zfx [x0]=YD Γ x0:=by kernel_rfl
theorem ZlH {prim : FuncId→Option (List Value→M Value)} (hp : prim Wo=none) (n : Nat) (x0 : Value) : run Tryz.prog prim lvs (n+1) Wo [x0]=YD (run Tryz.prog prim lvs n) x0:=
 (Zl hp (by kernel_rfl) Tryz.func50 (by kernel_rfl)).trans (Zmz _ x0)
noncomputable def Zis (Γ : Ze) (x0 x1 x2 : Value) : M Value:=
 bind (alc 1 x2) fun y1=>
 bind (ldA 5 y1) fun y2=>
 bind (Γ KY [x1,y2]) fun y3=>
 bind (bop .int .neq y3 (Value.int .i64 0)) fun y4=>
 cnd y4
 (ret (Value.bool false))
 (bind (fa 0 y1) fun y5=>
 bind (ld1 y5) fun y6=>
 bind (fa 1 y1) fun y7=>
 bind (ld1 y7) fun y8=>
 bind (Γ Jc [x0,y6]) fun y9=>
 bind (ld1 y7) fun u_10=>same u_10 y8 <|
 bind (Γ Jc [y9,y8]) fun y11=>
 bind (bop .int .eql x1 (Value.int .i64 2)) fun y12=>
 jn (cnd y12
 (bind (fa 2 y1) fun y13=>
 bind (ld1 y13) fun y14=>
 bind (fa 3 y1) fun y15=>
 bind (ld1 y15) fun y16=>
 bind (fa 4 y1) fun y17=>
 bind (ld1 y17) fun y18=>
 bind (Γ Jc [x0,y14]) fun y19=>
 bind (ld1 y17) fun u_20=>same u_20 y18 <|
 bind (ld1 y15) fun u_21=>same u_21 y16 <|
 bind (Γ KB [y19,y16]) fun y22=>
 bind (ld1 y17) fun u_23=>same u_23 y18 <|
 bind (Γ YN [y22,y18]) fun y24=>
 ret (.nrm []))
 (ret (.nrm []))) (c0 (ret (Value.bool true))) noX ret)
theorem ZrZ (Γ : Ze) (x0 x1 x2 : Value) : Zy Tryz.prog Γ Tryz.f51 ZkX [x0,x1,x2]=Zis Γ x0 x1 x2:=by kernel_rfl
theorem ZpH {prim : FuncId→Option (List Value→M Value)} (hp : prim ZeM=none) (n : Nat) (x0 x1 x2 : Value) : run Tryz.prog prim lvs (n+1) ZeM [x0,x1,x2]=Zis (run Tryz.prog prim lvs n) x0 x1 x2:=
 (Zl hp (by kernel_rfl) Tryz.func51 (by kernel_rfl)).trans (ZrZ _ x0 x1 x2)
noncomputable def ZaY (Γ : Ze) (x0 : Value) : M Value:=
 bind (Jg x0) fun y1=>
 bind (fa 0 y1) fun y2=>
 bind (ld1 y2) fun y3=>
 bind (Γ ZaO [y3]) fun y4=>
 ret y4
theorem ZgW (Γ : Ze) (x0 : Value) : Zy Tryz.prog Γ Tryz.f52 ZcM [x0]=ZaY Γ x0:=by kernel_rfl
theorem Zgy {prim : FuncId→Option (List Value→M Value)} (hp : prim Ky=none) (n : Nat) (x0 : Value) : run Tryz.prog prim lvs (n+1) Ky [x0]=ZaY (run Tryz.prog prim lvs n) x0:=
 (Zl hp (by kernel_rfl) Tryz.func52 (by kernel_rfl)).trans (ZgW _ x0)
noncomputable def Zhp (Γ : Ze) (x0 : Value) : M Value:=
 bind (Γ ZaO [x0]) fun y1=>
 bind (bld (.agg #[.slice none 0 0,.int .i64 0]) [(0,1,y1)]) fun y2=>
 bind (alc 1 y2) fun y3=>
 ret y3
theorem ZrF (Γ : Ze) (x0 : Value) : Zy Tryz.prog Γ Tryz.f53 ZkE [x0]=Zhp Γ x0:=by kernel_rfl
theorem Zp9 {prim : FuncId→Option (List Value→M Value)} (hp : prim Zdb=none) (n : Nat) (x0 : Value) : run Tryz.prog prim lvs (n+1) Zdb [x0]=Zhp (run Tryz.prog prim lvs n) x0:=
 (Zl hp (by kernel_rfl) Tryz.func53 (by kernel_rfl)).trans (ZrF _ x0)
noncomputable def Zbm (Γ : Ze) (x0 : Value) : M Value:=
 bind (Γ YF [x0,(Value.int .i64 1)]) fun y1=>
 bind (cvi .u8 y1) fun y2=>
 ret y2
theorem Zht (Γ : Ze) (x0 : Value) : Zy Tryz.prog Γ Tryz.f54 Zdr [x0]=Zbm Γ x0:=by kernel_rfl
theorem ZgT {prim : FuncId→Option (List Value→M Value)} (hp : prim Y9=none) (n : Nat) (x0 : Value) : run Tryz.prog prim lvs (n+1) Y9 [x0]=Zbm (run Tryz.prog prim lvs n) x0:=
 (Zl hp (by kernel_rfl) Tryz.func54 (by kernel_rfl)).trans (Zht _ x0)
noncomputable def ZbK (Γ : Ze) (x0 : Value) : M Value:=
 bind (Jg x0) fun y1=>
 bind (fa 1 y1) fun y2=>
 bind (ld1 y2) fun y3=>
 ret y3
theorem Zi3 (Γ : Ze) (x0 : Value) : Zy Tryz.prog Γ Tryz.f55 ZdP [x0]=ZbK Γ x0:=by kernel_rfl
theorem Zhv {prim : FuncId→Option (List Value→M Value)} (hp : prim QO=none) (n : Nat) (x0 : Value) : run Tryz.prog prim lvs (n+1) QO [x0]=ZbK (run Tryz.prog prim lvs n) x0:=
 (Zl hp (by kernel_rfl) Tryz.func55 (by kernel_rfl)).trans (Zi3 _ x0)
noncomputable def JS.l1 (Γ : Ze) (s0 s2 s7 s10 s11 : Value) : M Out:=
 bind (bop .int .lss s11 s10) fun y2=>
 cnd y2
 (bind (Γ Jb [s0,s2]) fun y3=>
 bind (bsl 1 1 (.string ⟨#[]⟩) [(0,1,y3)]) fun y4=>
 bind (app 1 16 s7 y4) fun y5=>
 bind (bop .int .add s11 (Value.int .i64 1)) fun y6=>
 ret (.nrm [s0,s2,y5,s10,y6]))
 (ret (.ext 0 [s0,s7]))
noncomputable def JS (Γ : Ze) (x0 x1 x2 : Value) : M Value:=
 bind (Γ Yf [x0,x1]) fun y1=>
 jn (Zk (c5 (JS.l1 Γ)) [x0,x2,(Value.slice none 0 0),y1,(Value.int .i64 0)]) noN (xk 0 (c2 fun q8_0 q8_1=>
 bind (Jg q8_0) fun y9=>
 bind (fa 1 y9) fun y10=>
 bind (ld1 y10) fun y11=>
 bind (bop .int .neq y11 (Value.int .i64 0)) fun y12=>
 cnd y12
 (ret (Value.slice none 0 0))
 (ret q8_1)) noX) ret
theorem ZiW (Γ : Ze) (x0 x1 x2 : Value) : Zy Tryz.prog Γ Tryz.f56 ZdU [x0,x1,x2]=JS Γ x0 x1 x2:=by kernel_rfl
theorem Zdz {prim : FuncId→Option (List Value→M Value)} (hp : prim YM=none) (n : Nat) (x0 x1 x2 : Value) : run Tryz.prog prim lvs (n+1) YM [x0,x1,x2]=JS (run Tryz.prog prim lvs n) x0 x1 x2:=
 (Zl hp (by kernel_rfl) Tryz.func56 (by kernel_rfl)).trans (ZiW _ x0 x1 x2)
noncomputable def ZbH (Γ : Ze) (x0 : Value) : M Value:=
 bind (Γ YF [x0,(Value.int .i64 2)]) fun y1=>
 bind (cvi .u16 y1) fun y2=>
 ret y2
theorem Zjm (Γ : Ze) (x0 : Value) : Zy Tryz.prog Γ Tryz.f57 ZdT [x0]=ZbH Γ x0:=by kernel_rfl
theorem ZiB {prim : FuncId→Option (List Value→M Value)} (hp : prim Kp=none) (n : Nat) (x0 : Value) : run Tryz.prog prim lvs (n+1) Kp [x0]=ZbH (run Tryz.prog prim lvs n) x0:=
 (Zl hp (by kernel_rfl) Tryz.func57 (by kernel_rfl)).trans (Zjm _ x0)
noncomputable def Y8 (Γ : Ze) (x0 x1 : Value) : M Value:=
 bind (Jg x0) fun y1=>
 bind (fa 1 y1) fun y2=>
 bind (ld1 y2) fun y3=>
 bind (bop .int .eql y3 (Value.int .i64 0)) fun y4=>
 bind (ZU y4 true 2 (bind (bop .int .neq x1 (Value.int .i64 0)) fun y5=>
 ret [x1,y5])) (c2 fun _ q6_1=>
 bind (pick y4 q6_1 (Value.bool false)) fun y7=>
 jn (cnd y7
 (bind (Jg x0) fun y8=>
 bind (fa 0 y8) fun y9=>
 bind (st1 y9 (Value.slice none 0 0)) fun _=>
 bind (Jg x0) fun y10=>
 bind (fa 1 y10) fun y11=>
 bind (st1 y11 x1) fun _=>
 ret (.nrm []))
 (ret (.nrm []))) (c0 (ret (Value.tuple #[]))) noX ret)
theorem Zhr (Γ : Ze) (x0 x1 : Value) : Zy Tryz.prog Γ Tryz.f58 Zdn [x0,x1]=Y8 Γ x0 x1:=by kernel_rfl
theorem Zhc {prim : FuncId→Option (List Value→M Value)} (hp : prim ZX=none) (n : Nat) (x0 x1 : Value) : run Tryz.prog prim lvs (n+1) ZX [x0,x1]=Y8 (run Tryz.prog prim lvs n) x0 x1:=
 (Zl hp (by kernel_rfl) Tryz.func58 (by kernel_rfl)).trans (Zhr _ x0 x1)
noncomputable def ZeO (Γ : Ze) (x0 x1 : Value) : M Value:=
 bind (alc 1 (.agg #[.string ⟨#[]⟩,.string ⟨#[]⟩,.string ⟨#[]⟩,.bool false,.slice none 0 0])) fun y1=>
 bind (bop .int .neq x1 (Value.int .i64 1)) fun y2=>
 bind (ZU y2 true 2 (bind (bop .int .neq x1 (Value.int .i64 2)) fun y3=>
 ret [x1,y3])) (c2 fun _ q4_1=>
 bind (pick y2 q4_1 (Value.bool false)) fun y5=>
 cnd y5
 (bind (Γ ZX [x0,(Value.int .i64 6)]) fun y6=>
 bind (bld (.agg #[.string ⟨#[]⟩,.string ⟨#[]⟩,.string ⟨#[]⟩,.bool false,.slice none 0 0]) []) fun y7=>
 bind (stA 5 y1 y7) fun _=>
 bind (ldA 5 y1) fun y8=>
 ret y8)
 (bind (Γ Jb [x0,(Value.int .i64 65535)]) fun y9=>
 bind (Γ Jb [x0,(Value.int .i64 65535)]) fun y10=>
 bind (bld (.agg #[.string ⟨#[]⟩,.string ⟨#[]⟩,.string ⟨#[]⟩,.bool false,.slice none 0 0]) [(0,1,y9),(1,1,y10)]) fun y11=>
 bind (alc 1 (.agg #[.string ⟨#[]⟩,.string ⟨#[]⟩,.string ⟨#[]⟩,.bool false,.slice none 0 0])) fun y12=>
 bind (stA 5 y12 y11) fun _=>
 bind (bop .int .eql x1 (Value.int .i64 2)) fun y13=>
 jn (cnd y13
 (bind (Γ Jb [x0,(Value.int .i64 65535)]) fun y14=>
 bind (Γ KD [x0]) fun y15=>
 bind (Γ YM [x0,(Value.int .i64 65535),(Value.int .i64 65535)]) fun y16=>
 bind (fa 2 y12) fun y17=>
 bind (st1 y17 y14) fun _=>
 bind (fa 3 y12) fun y18=>
 bind (st1 y18 y15) fun _=>
 bind (fa 4 y12) fun y19=>
 bind (st1 y19 y16) fun _=>
 ret (.nrm [x0,x1,y1,y12]))
 (ret (.nrm [x0,x1,y1,y12]))) (c4 fun q20_0 q20_1 q20_2 q20_3=>
 bind (Γ QO [q20_0]) fun y21=>
 bind (bop .int .eql y21 (Value.int .i64 0)) fun y22=>
 jn (cnd y22
 (bind (ldA 5 q20_3) fun y23=>
 bind (Γ KY [q20_1,y23]) fun y24=>
 bind (Γ ZX [q20_0,y24]) fun y25=>
 ret (.nrm [q20_0,q20_2,q20_3]))
 (ret (.nrm [q20_0,q20_2,q20_3]))) (c3 fun q26_0 q26_1 q26_2=>
 bind (Γ QO [q26_0]) fun y27=>
 bind (bop .int .neq y27 (Value.int .i64 0)) fun y28=>
 cnd y28
 (bind (bld (.agg #[.string ⟨#[]⟩,.string ⟨#[]⟩,.string ⟨#[]⟩,.bool false,.slice none 0 0]) []) fun y29=>
 bind (stA 5 q26_1 y29) fun _=>
 bind (ldA 5 q26_1) fun y30=>
 ret y30)
 (bind (ldA 5 q26_2) fun y31=>
 bind (stA 5 q26_1 y31) fun _=>
 bind (ldA 5 q26_1) fun y32=>
 ret y32)) noX ret) noX ret))
theorem ZrI (Γ : Ze) (x0 x1 : Value) : Zy Tryz.prog Γ Tryz.f59 ZlG [x0,x1]=ZeO Γ x0 x1:=by kernel_rfl
theorem ZjN {prim : FuncId→Option (List Value→M Value)} (hp : prim ZbX=none) (n : Nat) (x0 x1 : Value) : run Tryz.prog prim lvs (n+1) ZbX [x0,x1]=ZeO (run Tryz.prog prim lvs n) x0 x1:=
 (Zl hp (by kernel_rfl) Tryz.func59 (by kernel_rfl)).trans (ZrI _ x0 x1)
noncomputable def ZbJ (Γ : Ze) (x0 : Value) : M Value:=
 bind (Jg x0) fun y1=>
 bind (fa 1 y1) fun y2=>
 bind (ld1 y2) fun y3=>
 bind (bop .int .eql y3 (Value.int .i64 0)) fun y4=>
 bind (ZU y4 true 6 (bind (Jg x0) fun y5=>
 bind (fa 0 y5) fun y6=>
 bind (ld1 y6) fun y7=>
 bind (ZC y7) fun y8=>
 bind (bop .int .gtr y8 (Value.int .i64 0)) fun y9=>
 ret [x0,y5,y6,y7,y8,y9])) (c6 fun _ _ _ _ _ q10_5=>
 bind (pick y4 q10_5 (Value.bool false)) fun y11=>
 cnd y11
 (ret (Value.int .i64 3))
 (bind (Jg x0) fun y12=>
 bind (fa 1 y12) fun y13=>
 bind (ld1 y13) fun y14=>
 ret y14))
theorem ZiX (Γ : Ze) (x0 : Value) : Zy Tryz.prog Γ Tryz.f60 ZdI [x0]=ZbJ Γ x0:=by kernel_rfl
theorem ZhV {prim : FuncId→Option (List Value→M Value)} (hp : prim Ks=none) (n : Nat) (x0 : Value) : run Tryz.prog prim lvs (n+1) Ks [x0]=ZbJ (run Tryz.prog prim lvs n) x0:=
 (Zl hp (by kernel_rfl) Tryz.func60 (by kernel_rfl)).trans (ZiX _ x0)
noncomputable def Ji.l1 (Γ : Ze) (s2 s6 s8 s10 s29 s30 : Value) : M Out:=
 bind (bop .int .lss s30 s29) fun y18=>
 cnd y18
 (bind (ldA 2 s8) fun y19=>
 bind (Γ Jh [y19,s2]) fun y20=>
 bind (ZE y20 0) fun y21=>
 bind (ZE y20 1) fun y22=>
 bind (alc 1 (.agg #[.string ⟨#[]⟩,.int .i64 0])) fun y23=>
 bind (stA 2 y23 y21) fun _=>
 bind (ldA 2 y23) fun y24=>
 bind (stA 2 s8 y24) fun _=>
 bind (fa 1 s8) fun y25=>
 bind (ld1 y25) fun y26=>
 bind (bop .int .neq y26 (Value.int .i64 0)) fun y27=>
 cnd y27
 (bind (ldA 2 s8) fun y28=>
 bind (stA 2 s6 y28) fun _=>
 bind (ldA 2 s6) fun y29=>
 ret (.ret (Value.tuple #[y29,(Value.slice none 0 0)])))
 (bind (bsl 1 1 (.string ⟨#[]⟩) [(0,1,y22)]) fun y30=>
 bind (app 1 16 s10 y30) fun y31=>
 bind (bop .int .add s30 (Value.int .u64 1)) fun y32=>
 ret (.nrm [s2,s6,s8,y31,s29,y32])))
 (ret (.ext 0 [s6,s8,s10]))
noncomputable def Ji (Γ : Ze) (x0 x1 x2 : Value) : M Value:=
 bind (alc 1 x0) fun y1=>
 bind (alc 1 (.agg #[.string ⟨#[]⟩,.int .i64 0])) fun y2=>
 bind (ldA 2 y1) fun y3=>
 bind (Γ J5 [y3,(Value.int .i64 2)]) fun y4=>
 bind (ZE y4 0) fun y5=>
 bind (ZE y4 1) fun y6=>
 bind (alc 1 (.agg #[.string ⟨#[]⟩,.int .i64 0])) fun y7=>
 bind (stA 2 y7 y5) fun _=>
 bind (fa 1 y7) fun y8=>
 bind (ld1 y8) fun y9=>
 bind (bop .int .eql y9 (Value.int .i64 0)) fun y10=>
 bind (ZU y10 true 5 (bind (cvi .i64 y6) fun y11=>
 bind (mxi true (Value.int .i64 0) x1) fun y12=>
 bind (bop .int .gtr y11 y12) fun y13=>
 ret [y6,y11,x1,y12,y13])) (c5 fun _ _ _ _ q14_4=>
 bind (pick y10 q14_4 (Value.bool false)) fun y15=>
 cnd y15
 (bind (bld (.agg #[.string ⟨#[]⟩,.int .i64 0]) [(1,1,(Value.int .i64 3))]) fun y16=>
 bind (stA 2 y2 y16) fun _=>
 bind (ldA 2 y2) fun y17=>
 ret (Value.tuple #[y17,(Value.slice none 0 0)]))
 (jn (Zk (c6 (Ji.l1 Γ)) [x2,y2,y7,(Value.slice none 0 0),y6,(Value.int .u64 0)]) noN (xk 0 (c3 fun q34_0 q34_1 q34_2=>
 bind (ldA 2 q34_1) fun y35=>
 bind (stA 2 q34_0 y35) fun _=>
 bind (ldA 2 q34_0) fun y36=>
 ret (Value.tuple #[y36,q34_2])) noX) ret))
theorem Zmg (Γ : Ze) (x0 x1 x2 : Value) : Zy Tryz.prog Γ Tryz.f61 Zfw [x0,x1,x2]=Ji Γ x0 x1 x2:=by kernel_rfl
theorem ZlE {prim : FuncId→Option (List Value→M Value)} (hp : prim Ke=none) (n : Nat) (x0 x1 x2 : Value) : run Tryz.prog prim lvs (n+1) Ke [x0,x1,x2]=Ji (run Tryz.prog prim lvs n) x0 x1 x2:=
 (Zl hp (by kernel_rfl) Tryz.func61 (by kernel_rfl)).trans (Zmg _ x0 x1 x2)
noncomputable def ZfZ (Γ : Ze) (x0 x1 : Value) : M Value:=
 bind (alc 1 x0) fun y1=>
 bind (alc 1 (.agg #[.string ⟨#[]⟩,.int .i64 0])) fun y2=>
 bind (ldA 2 y1) fun y3=>
 bind (Γ Ku [y3,x1]) fun y4=>
 bind (ZE y4 0) fun y5=>
 bind (ZE y4 1) fun y6=>
 bind (ZE y4 2) fun y7=>
 bind (alc 1 (.agg #[.string ⟨#[]⟩,.int .i64 0])) fun y8=>
 bind (stA 2 y8 y5) fun _=>
 bind (ldA 2 y8) fun y9=>
 bind (Γ ZaL [y6]) fun y10=>
 bind (ldA 2 y8) fun u_11=>same u_11 y9 <|
 bind (stA 2 y2 y9) fun _=>
 bind (ldA 2 y2) fun y12=>
 ret (Value.tuple #[y12,y10])
theorem Zqi (Γ : Ze) (x0 x1 : Value) : Zy Tryz.prog Γ Tryz.f62 ZjE [x0,x1]=ZfZ Γ x0 x1:=by kernel_rfl
theorem Zo0 {prim : FuncId→Option (List Value→M Value)} (hp : prim J5=none) (n : Nat) (x0 x1 : Value) : run Tryz.prog prim lvs (n+1) J5 [x0,x1]=ZfZ (run Tryz.prog prim lvs n) x0 x1:=
 (Zl hp (by kernel_rfl) Tryz.func62 (by kernel_rfl)).trans (Zqi _ x0 x1)
noncomputable def Zgc (Γ : Ze) (x0 x1 : Value) : M Value:=
 bind (alc 1 x0) fun y1=>
 bind (alc 1 (.agg #[.string ⟨#[]⟩,.int .i64 0])) fun y2=>
 bind (alc 1 (.agg #[.string ⟨#[]⟩,.string ⟨#[]⟩,.string ⟨#[]⟩,.bool false,.slice none 0 0])) fun y3=>
 bind (bld (.agg #[.string ⟨#[]⟩,.string ⟨#[]⟩,.string ⟨#[]⟩,.bool false,.slice none 0 0]) []) fun y4=>
 bind (alc 1 (.agg #[.string ⟨#[]⟩,.string ⟨#[]⟩,.string ⟨#[]⟩,.bool false,.slice none 0 0])) fun y5=>
 bind (stA 5 y5 y4) fun _=>
 bind (bop .int .lss x1 (Value.int .i64 1)) fun y6=>
 bind (ZU y6 false 2 (bind (bop .int .gtr x1 (Value.int .i64 2)) fun y7=>
 ret [x1,y7])) (c2 fun _ q8_1=>
 bind (pick y6 (Value.bool true) q8_1) fun y9=>
 cnd y9
 (bind (ldA 2 y1) fun y10=>
 bind (ldA 5 y5) fun y11=>
 bind (Γ YU [y10,(Value.int .i64 6)]) fun y12=>
 bind (ldA 5 y5) fun u_13=>same u_13 y11 <|
 bind (stA 2 y2 y12) fun _=>
 bind (ldA 5 y5) fun u_14=>same u_14 y11 <|
 bind (stA 5 y3 y11) fun _=>
 bind (ldA 2 y2) fun y15=>
 bind (ldA 5 y3) fun y16=>
 ret (Value.tuple #[y15,y16]))
 (bind (ldA 5 y5) fun y17=>
 bind (alc 1 (.agg #[.string ⟨#[]⟩,.string ⟨#[]⟩,.string ⟨#[]⟩,.bool false,.slice none 0 0])) fun y18=>
 bind (stA 5 y18 y17) fun _=>
 bind (ldA 2 y1) fun y19=>
 bind (Γ Jh [y19,(Value.int .i64 65535)]) fun y20=>
 bind (ZE y20 0) fun y21=>
 bind (ZE y20 1) fun y22=>
 bind (stA 2 y1 y21) fun _=>
 bind (fa 0 y18) fun y23=>
 bind (st1 y23 y22) fun _=>
 bind (ldA 2 y1) fun y24=>
 bind (Γ Jh [y24,(Value.int .i64 65535)]) fun y25=>
 bind (ZE y25 0) fun y26=>
 bind (ZE y25 1) fun y27=>
 bind (stA 2 y1 y26) fun _=>
 bind (fa 1 y18) fun y28=>
 bind (st1 y28 y27) fun _=>
 bind (bop .int .eql x1 (Value.int .i64 2)) fun y29=>
 jn (cnd y29
 (bind (ldA 2 y1) fun y30=>
 bind (Γ Jh [y30,(Value.int .i64 65535)]) fun y31=>
 bind (ZE y31 0) fun y32=>
 bind (ZE y31 1) fun y33=>
 bind (stA 2 y1 y32) fun _=>
 bind (fa 2 y18) fun y34=>
 bind (st1 y34 y33) fun _=>
 bind (ldA 2 y1) fun y35=>
 bind (Γ KG [y35]) fun y36=>
 bind (ZE y36 0) fun y37=>
 bind (ZE y36 1) fun y38=>
 bind (stA 2 y1 y37) fun _=>
 bind (fa 3 y18) fun y39=>
 bind (st1 y39 y38) fun _=>
 bind (ldA 2 y1) fun y40=>
 bind (Γ Ke [y40,(Value.int .i64 65535),(Value.int .i64 65535)]) fun y41=>
 bind (ZE y41 0) fun y42=>
 bind (ZE y41 1) fun y43=>
 bind (stA 2 y1 y42) fun _=>
 bind (fa 4 y18) fun y44=>
 bind (st1 y44 y43) fun _=>
 ret (.nrm [x1,y1,y2,y3,y5,y18]))
 (ret (.nrm [x1,y1,y2,y3,y5,y18]))) (c6 fun q45_0 q45_1 q45_2 q45_3 q45_4 q45_5=>
 bind (ldA 2 q45_1) fun y46=>
 bind (ldA 5 q45_5) fun y47=>
 bind (Γ ZaJ [q45_0,y47]) fun y48=>
 bind (ldA 2 q45_1) fun u_49=>same u_49 y46 <|
 bind (Γ YU [y46,y48]) fun y50=>
 bind (stA 2 q45_1 y50) fun _=>
 bind (fa 1 q45_1) fun y51=>
 bind (ld1 y51) fun y52=>
 bind (bop .int .neq y52 (Value.int .i64 0)) fun y53=>
 cnd y53
 (bind (ldA 2 q45_1) fun y54=>
 bind (ldA 5 q45_4) fun y55=>
 bind (stA 2 q45_2 y54) fun _=>
 bind (ldA 5 q45_4) fun u_56=>same u_56 y55 <|
 bind (stA 5 q45_3 y55) fun _=>
 bind (ldA 2 q45_2) fun y57=>
 bind (ldA 5 q45_3) fun y58=>
 ret (Value.tuple #[y57,y58]))
 (bind (ldA 2 q45_1) fun y59=>
 bind (ldA 5 q45_5) fun y60=>
 bind (stA 2 q45_2 y59) fun _=>
 bind (ldA 5 q45_5) fun u_61=>same u_61 y60 <|
 bind (stA 5 q45_3 y60) fun _=>
 bind (ldA 2 q45_2) fun y62=>
 bind (ldA 5 q45_3) fun y63=>
 ret (Value.tuple #[y62,y63]))) noX ret))
theorem Zp2 (Γ : Ze) (x0 x1 : Value) : Zy Tryz.prog Γ Tryz.f63 Zju [x0,x1]=Zgc Γ x0 x1:=by kernel_rfl
theorem ZoU {prim : FuncId→Option (List Value→M Value)} (hp : prim Zbe=none) (n : Nat) (x0 x1 : Value) : run Tryz.prog prim lvs (n+1) Zbe [x0,x1]=Zgc (run Tryz.prog prim lvs n) x0 x1:=
 (Zl hp (by kernel_rfl) Tryz.func63 (by kernel_rfl)).trans (Zp2 _ x0 x1)
noncomputable def ZH.l1 (Γ : Ze) (s0 s1 s21 s22 s23 : Value) : M Out:=
 bind (bop .int .lss s23 s22) fun y4=>
 cnd y4
 (bind (ixa 1 s21 s23) fun y5=>
 bind (ld1 y5) fun y6=>
 bind (Γ YA [y6]) fun y7=>
 bind (uop .not y7) fun y8=>
 cnd y8
 (ret (.ret (Value.int .i64 10)))
 (bind (bop .int .add s23 (Value.int .i64 1)) fun y9=>
 ret (.nrm [s0,s1,s21,s22,y9])))
 (ret (.ext 0 [s0,s1]))
noncomputable def ZH.l2 (Γ : Ze) (s0 s1 s31 s32 s33 : Value) : M Out:=
 bind (bop .int .lss s33 s32) fun y13=>
 cnd y13
 (bind (ixa 1 s31 s33) fun y14=>
 bind (ld1 y14) fun y15=>
 bind (bop .int .gtr s33 (Value.int .i64 0)) fun y16=>
 bind (ZU y16 true 7 (bind (bop .int .sub s33 (Value.int .i64 1)) fun y17=>
 bind (ixa 1 s1 y17) fun y18=>
 bind (ld1 y18) fun y19=>
 bind (bop .str .geq y19 y15) fun y20=>
 ret [s1,s33,y17,y18,y19,y15,y20])) (c7 fun _ _ _ _ _ _ q21_6=>
 bind (pick y16 q21_6 (Value.bool false)) fun y22=>
 cnd y22
 (ret (.ret (Value.int .i64 9)))
 (bind (bop .int .add s33 (Value.int .i64 1)) fun y23=>
 ret (.nrm [s0,s1,s31,s32,y23]))))
 (ret (.ext 2 [s0,s1]))
noncomputable def ZH.l4 (Γ : Ze) (s0 s1 s10 s11 s53 s54 s55 s61 s62 s63 : Value) : M Out:=
 bind (bop .int .lss s63 s62) fun y36=>
 cnd y36
 (bind (ixa 1 s61 s63) fun y37=>
 bind (ld1 y37) fun y38=>
 bind (Γ Zeb [s1,y38]) fun y39=>
 bind (uop .not y39) fun y40=>
 cnd y40
 (ret (.ret (Value.int .i64 8)))
 (bind (bop .int .add s63 (Value.int .i64 1)) fun y41=>
 ret (.nrm [s0,s1,s10,s11,s53,s54,s55,s61,s62,y41])))
 (ret (.ext 6 [s0,s1,s10,s11,s53,s54,s55]))
noncomputable def ZH.l5 (Γ : Ze) (s0 s1 s11 s53 s54 s55 s74 s75 s76 : Value) : M Out:=
 bind (bop .int .lss s76 s75) fun y46=>
 cnd y46
 (bind (ixa 5 s74 s76) fun y47=>
 bind (ldA 5 y47) fun y48=>
 bind (alc 1 (.agg #[.string ⟨#[]⟩,.string ⟨#[]⟩,.string ⟨#[]⟩,.bool false,.slice none 0 0])) fun y49=>
 bind (stA 5 y49 y48) fun _=>
 bind (fa 2 s11) fun y50=>
 bind (ld1 y50) fun y51=>
 bind (bop .str .neq y51 (Value.string ⟨#[]⟩)) fun y52=>
 bind (ZU y52 true 5 (bind (fa 2 s11) fun y53=>
 bind (ld1 y53) fun y54=>
 bind (fa 2 y49) fun y55=>
 bind (ld1 y55) fun y56=>
 bind (bop .str .eql y54 y56) fun y57=>
 ret [y53,y54,y55,y56,y57])) (c5 fun _ _ _ _ q58_4=>
 bind (pick y52 q58_4 (Value.bool false)) fun y59=>
 cnd y59
 (ret (.ret (Value.int .i64 9)))
 (bind (bop .int .add s76 (Value.int .i64 1)) fun y60=>
 ret (.nrm [s0,s1,s11,s53,s54,s55,s74,s75,y60]))))
 (ret (.ext 8 [s0,s1,s53,s54,s55]))
noncomputable def ZH.l3 (Γ : Ze) (s0 s1 s53 s54 s55 : Value) : M Out:=
 bind (bop .int .lss s55 s54) fun y29=>
 cnd y29
 (bind (ixa 5 s53 s55) fun y30=>
 bind (ldA 5 y30) fun y31=>
 bind (alc 1 (.agg #[.string ⟨#[]⟩,.string ⟨#[]⟩,.string ⟨#[]⟩,.bool false,.slice none 0 0])) fun y32=>
 bind (stA 5 y32 y31) fun _=>
 bind (fa 4 y32) fun y33=>
 bind (ld1 y33) fun y34=>
 bind (ZC y34) fun y35=>
 jn (Zk (c10 (ZH.l4 Γ)) [s0,s1,s55,y32,s53,s54,s55,y34,y35,(Value.int .i64 0)]) noN (xk 6 (c7 fun q43_0 q43_1 q43_2 q43_3 q43_4 q43_5 q43_6=>
 bind (slv 5 q43_0 none (some q43_2) none) fun y44=>
 bind (ZC y44) fun y45=>
 jn (Zk (c9 (ZH.l5 Γ)) [q43_0,q43_1,q43_3,q43_4,q43_5,q43_6,y44,y45,(Value.int .i64 0)]) noN (xk 8 (c5 fun q62_0 q62_1 q62_2 q62_3 q62_4=>
 bind (bop .int .add q62_4 (Value.int .i64 1)) fun y63=>
 ret (.nrm [q62_0,q62_1,q62_2,q62_3,y63])) noX) Q5) noX) Q5)
 (ret (.ext 4 []))
noncomputable def ZH (Γ : Ze) (x0 x1 : Value) : M Value:=
 bind (Γ Zdh [x0,(Value.int .i64 2)]) fun y1=>
 bind (bop .int .neq y1 (Value.int .i64 0)) fun y2=>
 cnd y2
 (ret y1)
 (bind (ZC x1) fun y3=>
 jn (Zk (c5 (ZH.l1 Γ)) [x0,x1,x1,y3,(Value.int .i64 0)]) noN (xk 0 (c2 fun q11_0 q11_1=>
 bind (ZC q11_1) fun y12=>
 jn (Zk (c5 (ZH.l2 Γ)) [q11_0,q11_1,q11_1,y12,(Value.int .i64 0)]) noN (xk 2 (c2 fun q25_0 q25_1=>
 bind (ZC q25_1) fun y26=>
 bind (bop .int .gtr y26 (Value.int .i64 6)) fun y27=>
 cnd y27
 (ret (Value.int .i64 7))
 (bind (ZC q25_0) fun y28=>
 jn (Zk (c5 (ZH.l3 Γ)) [q25_0,q25_1,q25_0,y28,(Value.int .i64 0)]) noN (xk 4 (c0 (ret (Value.int .i64 0))) noX) ret)) noX) ret) noX) ret)
theorem ZrD (Γ : Ze) (x0 x1 : Value) : Zy Tryz.prog Γ Tryz.f64 ZkY [x0,x1]=ZH Γ x0 x1:=by kernel_rfl
theorem ZpO {prim : FuncId→Option (List Value→M Value)} (hp : prim ZbU=none) (n : Nat) (x0 x1 : Value) : run Tryz.prog prim lvs (n+1) ZbU [x0,x1]=ZH (run Tryz.prog prim lvs n) x0 x1:=
 (Zl hp (by kernel_rfl) Tryz.func64 (by kernel_rfl)).trans (ZrD _ x0 x1)
noncomputable def Zcd (Γ : Ze) (x0 : Value) : M Value:=
 bind (bop .slc .eql x0 (Value.slice none 0 0)) fun y1=>
 cnd y1
 (ret (Value.slice none 0 0))
 (bind (bsl 1 0 (.int .u8 0) []) fun y2=>
 bind (app 1 1 y2 x0) fun y3=>
 ret y3)
theorem ZnC (Γ : Ze) (x0 : Value) : Zy Tryz.prog Γ Tryz.f88 ZgF [x0]=Zcd Γ x0:=by kernel_rfl
theorem ZlM {prim : FuncId→Option (List Value→M Value)} (hp : prim ZaO=none) (n : Nat) (x0 : Value) : run Tryz.prog prim lvs (n+1) ZaO [x0]=Zcd (run Tryz.prog prim lvs n) x0:=
 (Zl hp (by kernel_rfl) Tryz.func88 (by kernel_rfl)).trans (ZnC _ x0)
noncomputable def K3 (Γ : Ze) (x0 x1 : Value) : M Value:=
 bind (alc 1 (.agg #[.string ⟨#[]⟩,.bool false])) fun y1=>
 bind (Γ JU [x1]) fun y2=>
 bind (bop .int .neq y2 (Value.int .i64 0)) fun y3=>
 cnd y3
 (bind (bld (.agg #[.string ⟨#[]⟩,.bool false]) []) fun y4=>
 bind (stA 2 y1 y4) fun _=>
 bind (ldA 2 y1) fun y5=>
 ret (Value.tuple #[y5,y2]))
 (bind (Jg x0) fun y6=>
 bind (fa 0 y6) fun y7=>
 bind (ld1 y7) fun y8=>
 bind (lkp .str (.agg #[.string ⟨#[]⟩,.bool false]) true y8 x1) fun y9=>
 bind (ZE y9 0) fun y10=>
 bind (ZE y9 1) fun y11=>
 bind (alc 1 (.agg #[.string ⟨#[]⟩,.bool false])) fun y12=>
 bind (stA 2 y12 y10) fun _=>
 bind (uop .not y11) fun y13=>
 cnd y13
 (bind (bld (.agg #[.string ⟨#[]⟩,.bool false]) []) fun y14=>
 bind (stA 2 y1 y14) fun _=>
 bind (ldA 2 y1) fun y15=>
 ret (Value.tuple #[y15,(Value.int .i64 8)]))
 (bind (ldA 2 y12) fun y16=>
 bind (stA 2 y1 y16) fun _=>
 bind (ldA 2 y1) fun y17=>
 ret (Value.tuple #[y17,(Value.int .i64 0)])))
theorem Zld (Γ : Ze) (x0 x1 : Value) : Zy Tryz.prog Γ Tryz.f99 ZeS [x0,x1]=K3 Γ x0 x1:=by kernel_rfl
theorem Zj8 {prim : FuncId→Option (List Value→M Value)} (hp : prim WV=none) (n : Nat) (x0 x1 : Value) : run Tryz.prog prim lvs (n+1) WV [x0,x1]=K3 (run Tryz.prog prim lvs n) x0 x1:=
 (Zl hp (by kernel_rfl) Tryz.func99 (by kernel_rfl)).trans (Zld _ x0 x1)
noncomputable def ZdC (Γ : Ze) (x0 x1 : Value) : M Value:=
 bind (Jg x0) fun y1=>
 bind (fa 1 y1) fun y2=>
 bind (ld1 y2) fun y3=>
 bind (lkp .str (.string ⟨#[]⟩) true y3 x1) fun y4=>
 bind (ZE y4 0) fun y5=>
 bind (ZE y4 1) fun y6=>
 ret (Value.tuple #[y5,y6])
theorem ZmI (Γ : Ze) (x0 x1 : Value) : Zy Tryz.prog Γ Tryz.f100 Zfp [x0,x1]=ZdC Γ x0 x1:=by kernel_rfl
theorem ZlF {prim : FuncId→Option (List Value→M Value)} (hp : prim Zak=none) (n : Nat) (x0 x1 : Value) : run Tryz.prog prim lvs (n+1) Zak [x0,x1]=ZdC (run Tryz.prog prim lvs n) x0 x1:=
 (Zl hp (by kernel_rfl) Tryz.func100 (by kernel_rfl)).trans (ZmI _ x0 x1)
noncomputable def ZcE (Γ : Ze) (x0 x1 : Value) : M Value:=
 bind (alc 1 x0) fun y1=>
 bind (alc 1 x1) fun y2=>
 bind (ld1 y1) fun y3=>
 bind (Γ YL [y3]) fun y4=>
 bind (Γ QN [y4,(Value.func (.func 166) #[] #[y1,y2])]) fun y5=>
 ret y5
theorem ZjZ (Γ : Ze) (x0 x1 : Value) : Zy Tryz.prog Γ Tryz.f101 Zey [x0,x1]=ZcE Γ x0 x1:=by kernel_rfl
theorem Zi7 {prim : FuncId→Option (List Value→M Value)} (hp : prim Wp=none) (n : Nat) (x0 x1 : Value) : run Tryz.prog prim lvs (n+1) Wp [x0,x1]=ZcE (run Tryz.prog prim lvs n) x0 x1:=
 (Zl hp (by kernel_rfl) Tryz.func101 (by kernel_rfl)).trans (ZjZ _ x0 x1)
noncomputable def ZQ.l1 (Γ : Ze) (s0 s1 s5 s6 : Value) : M Out:=
 bind (ZC s0) fun y4=>
 bind (bop .int .lss s6 y4) fun y5=>
 cnd y5
 (bind (ixa 1 s0 s6) fun y6=>
 bind (ld1 y6) fun y7=>
 bind (YR Γ s1 [y7]) fun y8=>
 bind (uop .not y8) fun y9=>
 jn (cnd y9
 (bind (ixa 1 s0 s5) fun y10=>
 bind (st1 y10 y7) fun _=>
 bind (bop .int .add s5 (Value.int .i64 1)) fun y11=>
 ret (.nrm [s0,s1,y11,s6]))
 (ret (.nrm [s0,s1,s5,s6]))) (c4 fun q12_0 q12_1 q12_2 q12_3=>
 bind (bop .int .add q12_3 (Value.int .i64 1)) fun y13=>
 ret (.nrm [q12_0,q12_1,q12_2,y13])) noX Q5)
 (ret (.ext 0 [s0,s5]))
noncomputable def ZQ (Γ : Ze) (x0 x1 : Value) : M Value:=
 bind (Γ Jt [x0,x1]) fun y1=>
 bind (bop .int .eql y1 (Value.int .i64 (-1))) fun y2=>
 cnd y2
 (ret x0)
 (bind (bop .int .add y1 (Value.int .i64 1)) fun y3=>
 jn (Zk (c4 (ZQ.l1 Γ)) [x0,x1,y1,y3]) noN (xk 0 (c2 fun q16_0 q16_1=>
 bind (slv 1 q16_0 (some q16_1) none none) fun y17=>
 bind (clr (.string ⟨#[]⟩) 1 y17) fun _=>
 bind (slv 1 q16_0 none (some q16_1) none) fun y18=>
 ret y18) noX) ret)
theorem Zb4 (Γ : Ze) (x0 x1 : Value) : Zy Tryz.prog Γ Tryz.f103 Wi [x0,x1]=ZQ Γ x0 x1:=by kernel_rfl
theorem ZbL {prim : FuncId→Option (List Value→M Value)} (hp : prim QN=none) (n : Nat) (x0 x1 : Value) : run Tryz.prog prim lvs (n+1) QN [x0,x1]=ZQ (run Tryz.prog prim lvs n) x0 x1:=
 (Zl hp (by kernel_rfl) Tryz.func103 (by kernel_rfl)).trans (Zb4 _ x0 x1)
noncomputable def Zcr (Γ : Ze) (x0 : Value) : M Value:=
 bind (Jg x0) fun y1=>
 bind (fa 0 y1) fun y2=>
 bind (ld1 y2) fun y3=>
 bind (Γ Qq [y3]) fun y4=>
 bind (Γ JI [y4,(Value.func (.func 172) #[] #[])]) fun y5=>
 ret y5
theorem Zj0 (Γ : Ze) (x0 : Value) : Zy Tryz.prog Γ Tryz.f107 ZeA [x0]=Zcr Γ x0:=by kernel_rfl
theorem Zjg {prim : FuncId→Option (List Value→M Value)} (hp : prim Wq=none) (n : Nat) (x0 : Value) : run Tryz.prog prim lvs (n+1) Wq [x0]=Zcr (run Tryz.prog prim lvs n) x0:=
 (Zl hp (by kernel_rfl) Tryz.func107 (by kernel_rfl)).trans (Zj0 _ x0)
noncomputable def ZhM (Γ : Ze) : M Value:=
 bind (mkm) fun y1=>
 bind (mkm) fun y2=>
 bind (bld (.agg #[.map none,.map none]) [(0,1,y1),(1,1,y2)]) fun y3=>
 bind (alc 1 y3) fun y4=>
 ret y4
theorem Zrv (Γ : Ze) : Zy Tryz.prog Γ Tryz.f109 ZlK []=ZhM Γ :=by kernel_rfl
theorem Zql {prim : FuncId→Option (List Value→M Value)} (hp : prim ZeW=none) (n : Nat) : run Tryz.prog prim lvs (n+1) ZeW []=ZhM (run Tryz.prog prim lvs n) :=
 (Zl hp (by kernel_rfl) Tryz.func109 (by kernel_rfl)).trans (Zrv _ )
noncomputable def ZfK (Γ : Ze) : M Value:=
 bind (mkm) fun y1=>
 bind (bld (.agg #[.map none]) [(0,1,y1)]) fun y2=>
 bind (alc 1 y2) fun y3=>
 ret y3
theorem ZpW (Γ : Ze) : Zy Tryz.prog Γ Tryz.f110 ZjD []=ZfK Γ :=by kernel_rfl
theorem Zox {prim : FuncId→Option (List Value→M Value)} (hp : prim Zd6=none) (n : Nat) : run Tryz.prog prim lvs (n+1) Zd6 []=ZfK (run Tryz.prog prim lvs n) :=
 (Zl hp (by kernel_rfl) Tryz.func110 (by kernel_rfl)).trans (ZpW _ )
noncomputable def YV.l1 (Γ : Ze) (s2 s3 s43 s44 : Value) : M Out:=
 bind (bop .int .lss s44 s43) fun y41=>
 cnd y41
 (bind (fa 4 s2) fun y42=>
 bind (ld1 y42) fun y43=>
 bind (ixa 1 y43 s44) fun y44=>
 bind (ld1 y44) fun y45=>
 bind (fa 4 s3) fun y46=>
 bind (ld1 y46) fun y47=>
 bind (ixa 1 y47 s44) fun y48=>
 bind (ld1 y48) fun y49=>
 bind (bop .str .neq y45 y49) fun y50=>
 cnd y50
 (ret (.ret (Value.bool false)))
 (bind (bop .int .add s44 (Value.int .i64 1)) fun y51=>
 ret (.nrm [s2,s3,s43,y51])))
 (ret (.ext 0 []))
noncomputable def YV (Γ : Ze) (x0 x1 : Value) : M Value:=
 bind (alc 1 x0) fun y1=>
 bind (alc 1 x1) fun y2=>
 bind (fa 0 y1) fun y3=>
 bind (ld1 y3) fun y4=>
 bind (fa 0 y2) fun y5=>
 bind (ld1 y5) fun y6=>
 bind (bop .str .neq y4 y6) fun y7=>
 bind (ZU y7 false 5 (bind (fa 1 y1) fun y8=>
 bind (ld1 y8) fun y9=>
 bind (fa 1 y2) fun y10=>
 bind (ld1 y10) fun y11=>
 bind (bop .str .neq y9 y11) fun y12=>
 ret [y8,y9,y10,y11,y12])) (c5 fun _ _ _ _ q13_4=>
 bind (pick y7 (Value.bool true) q13_4) fun y14=>
 bind (ZU y14 false 5 (bind (fa 2 y1) fun y15=>
 bind (ld1 y15) fun y16=>
 bind (fa 2 y2) fun y17=>
 bind (ld1 y17) fun y18=>
 bind (bop .str .neq y16 y18) fun y19=>
 ret [y15,y16,y17,y18,y19])) (c5 fun _ _ _ _ q20_4=>
 bind (pick y14 (Value.bool true) q20_4) fun y21=>
 bind (ZU y21 false 5 (bind (fa 3 y1) fun y22=>
 bind (ld1 y22) fun y23=>
 bind (fa 3 y2) fun y24=>
 bind (ld1 y24) fun y25=>
 bind (bop .bool .neq y23 y25) fun y26=>
 ret [y22,y23,y24,y25,y26])) (c5 fun _ _ _ _ q27_4=>
 bind (pick y21 (Value.bool true) q27_4) fun y28=>
 bind (ZU y28 false 7 (bind (fa 4 y1) fun y29=>
 bind (ld1 y29) fun y30=>
 bind (ZC y30) fun y31=>
 bind (fa 4 y2) fun y32=>
 bind (ld1 y32) fun y33=>
 bind (ZC y33) fun y34=>
 bind (bop .int .neq y31 y34) fun y35=>
 ret [y29,y30,y31,y32,y33,y34,y35])) (c7 fun _ _ _ _ _ _ q36_6=>
 bind (pick y28 (Value.bool true) q36_6) fun y37=>
 cnd y37
 (ret (Value.bool false))
 (bind (fa 4 y1) fun y38=>
 bind (ld1 y38) fun y39=>
 bind (ZC y39) fun y40=>
 jn (Zk (c4 (YV.l1 Γ)) [y1,y2,y40,(Value.int .i64 0)]) noN (xk 0 (c0 (ret (Value.bool true))) noX) ret)))))
theorem Zo7 (Γ : Ze) (x0 x1 : Value) : Zy Tryz.prog Γ Tryz.f112 ZhW [x0,x1]=YV Γ x0 x1:=by kernel_rfl
theorem Znt {prim : FuncId→Option (List Value→M Value)} (hp : prim Zc7=none) (n : Nat) (x0 x1 : Value) : run Tryz.prog prim lvs (n+1) Zc7 [x0,x1]=YV (run Tryz.prog prim lvs n) x0 x1:=
 (Zl hp (by kernel_rfl) Tryz.func112 (by kernel_rfl)).trans (Zo7 _ x0 x1)
noncomputable def Zau (Γ : Ze) (x0 x1 : Value) : M Value:=
 bind (alc 1 x1) fun y1=>
 bind (bop .int .neq x0 (Value.int .i64 1)) fun y2=>
 bind (ZU y2 true 2 (bind (bop .int .neq x0 (Value.int .i64 2)) fun y3=>
 ret [x0,y3])) (c2 fun _ q4_1=>
 bind (pick y2 q4_1 (Value.bool false)) fun y5=>
 cnd y5
 (ret (Value.int .i64 6))
 (bind (fa 0 y1) fun y6=>
 bind (ld1 y6) fun y7=>
 bind (fa 1 y1) fun y8=>
 bind (ld1 y8) fun y9=>
 bind (Γ JU [y7]) fun y10=>
 bind (ld1 y8) fun u_11=>same u_11 y9 <|
 bind (Γ Zci [y9]) fun y12=>
 bind (bsl 1 2 (.int .i64 0) [(0,1,y10),(1,1,y12)]) fun y13=>
 bind (Γ WE [y13]) fun y14=>
 bind (bop .int .neq y14 (Value.int .i64 0)) fun y15=>
 cnd y15
 (ret y14)
 (bind (bop .int .eql x0 (Value.int .i64 2)) fun y16=>
 cnd y16
 (bind (fa 2 y1) fun y17=>
 bind (ld1 y17) fun y18=>
 bind (fa 4 y1) fun y19=>
 bind (ld1 y19) fun y20=>
 bind (Γ Zcm [y18]) fun y21=>
 bind (ld1 y19) fun u_22=>same u_22 y20 <|
 bind (Γ Za3 [y20]) fun y23=>
 bind (bsl 1 2 (.int .i64 0) [(0,1,y21),(1,1,y23)]) fun y24=>
 bind (Γ WE [y24]) fun y25=>
 ret y25)
 (bind (fa 2 y1) fun y26=>
 bind (ld1 y26) fun y27=>
 bind (bop .str .neq y27 (Value.string ⟨#[]⟩)) fun y28=>
 bind (ZU y28 false 2 (bind (fa 3 y1) fun y29=>
 bind (ld1 y29) fun y30=>
 ret [y29,y30])) (c2 fun _ q31_1=>
 bind (pick y28 (Value.bool true) q31_1) fun y32=>
 bind (ZU y32 false 4 (bind (fa 4 y1) fun y33=>
 bind (ld1 y33) fun y34=>
 bind (ZC y34) fun y35=>
 bind (bop .int .gtr y35 (Value.int .i64 0)) fun y36=>
 ret [y33,y34,y35,y36])) (c4 fun _ _ _ q37_3=>
 bind (pick y32 (Value.bool true) q37_3) fun y38=>
 cnd y38
 (ret (Value.int .i64 12))
 (ret (Value.int .i64 0))))))))
theorem Zou (Γ : Ze) (x0 x1 : Value) : Zy Tryz.prog Γ Tryz.f113 ZhR [x0,x1]=Zau Γ x0 x1:=by kernel_rfl
theorem ZnF {prim : FuncId→Option (List Value→M Value)} (hp : prim KY=none) (n : Nat) (x0 x1 : Value) : run Tryz.prog prim lvs (n+1) KY [x0,x1]=Zau (run Tryz.prog prim lvs n) x0 x1:=
 (Zl hp (by kernel_rfl) Tryz.func113 (by kernel_rfl)).trans (Zou _ x0 x1)
noncomputable def Kw.l1 (Γ : Ze) (s0 s1 s5 : Value) : M Out:=
 bind (ZC s0) fun y1=>
 bind (bop .int .lss s5 y1) fun y2=>
 cnd y2
 (bind (bop .int .sub s5 (Value.int .i64 1)) fun y3=>
 bind (ixa 1 s0 y3) fun y4=>
 bind (ld1 y4) fun y5=>
 bind (ixa 1 s0 s5) fun y6=>
 bind (ld1 y6) fun y7=>
 bind (Γ JB [y5,y7]) fun y8=>
 bind (bop .int .geq y8 (Value.int .i64 0)) fun y9=>
 cnd y9
 (ret (.ret (Value.int .i64 9)))
 (bind (bop .int .add s5 (Value.int .i64 1)) fun y10=>
 ret (.nrm [s0,s1,y10])))
 (ret (.ext 0 [s0,s1]))
noncomputable def Kw (Γ : Ze) (x0 x1 : Value) : M Value:=
 jn (Zk (c3 (Kw.l1 Γ)) [x0,x1,(Value.int .i64 1)]) noN (xk 0 (c2 fun q12_0 q12_1=>
 bind (ZC q12_0) fun y13=>
 bind (bop .int .gtr y13 q12_1) fun y14=>
 cnd y14
 (ret (Value.int .i64 7))
 (ret (Value.int .i64 0))) noX) ret
theorem Zoy (Γ : Ze) (x0 x1 : Value) : Zy Tryz.prog Γ Tryz.f114 Zhz [x0,x1]=Kw Γ x0 x1:=by kernel_rfl
theorem Znq {prim : FuncId→Option (List Value→M Value)} (hp : prim YT=none) (n : Nat) (x0 x1 : Value) : run Tryz.prog prim lvs (n+1) YT [x0,x1]=Kw (run Tryz.prog prim lvs n) x0 x1:=
 (Zl hp (by kernel_rfl) Tryz.func114 (by kernel_rfl)).trans (Zoy _ x0 x1)
noncomputable def Zgi (Γ : Ze) (x0 : Value) : M Value:=
 bind (Γ Wc [x0]) fun y1=>
 bind (uop .not y1) fun y2=>
 cnd y2
 (ret (Value.int .i64 10))
 (ret (Value.int .i64 0))
theorem ZpJ (Γ : Ze) (x0 : Value) : Zy Tryz.prog Γ Tryz.f115 Zjz [x0]=Zgi Γ x0:=by kernel_rfl
theorem Zo4 {prim : FuncId→Option (List Value→M Value)} (hp : prim JU=none) (n : Nat) (x0 : Value) : run Tryz.prog prim lvs (n+1) JU [x0]=Zgi (run Tryz.prog prim lvs n) x0:=
 (Zl hp (by kernel_rfl) Tryz.func115 (by kernel_rfl)).trans (ZpJ _ x0)
noncomputable def Zbh (Γ : Ze) (x0 x1 x2 : Value) : M Value:=
 bind (bsl 1 1 (.string ⟨#[]⟩) [(0,1,x1)]) fun y1=>
 bind (app 1 16 y1 x2) fun y2=>
 bind (Γ ZaZ [y2]) fun y3=>
 bind (bop .int .neq y3 (Value.int .i64 0)) fun y4=>
 cnd y4
 (ret (Value.tuple #[(Value.map none),y3]))
 (bind (Jg x0) fun y5=>
 bind (fa 0 y5) fun y6=>
 bind (ld1 y6) fun y7=>
 bind (lkp .str (.map none) true y7 x1) fun y8=>
 bind (ZE y8 0) fun y9=>
 bind (ZE y8 1) fun y10=>
 bind (uop .not y10) fun y11=>
 cnd y11
 (ret (Value.tuple #[(Value.map none),(Value.int .i64 8)]))
 (ret (Value.tuple #[y9,(Value.int .i64 0)])))
theorem Zh7 (Γ : Ze) (x0 x1 x2 : Value) : Zy Tryz.prog Γ Tryz.f116 ZdB [x0,x1,x2]=Zbh Γ x0 x1 x2:=by kernel_rfl
theorem Zg3 {prim : FuncId→Option (List Value→M Value)} (hp : prim Ys=none) (n : Nat) (x0 x1 x2 : Value) : run Tryz.prog prim lvs (n+1) Ys [x0,x1,x2]=Zbh (run Tryz.prog prim lvs n) x0 x1 x2:=
 (Zl hp (by kernel_rfl) Tryz.func116 (by kernel_rfl)).trans (Zh7 _ x0 x1 x2)
noncomputable def WA (Γ : Ze) (x0 x1 : Value) : M Value:=
 bind (Jg x0) fun y1=>
 bind (fa 1 y1) fun y2=>
 bind (ld1 y2) fun y3=>
 bind (lkp .str (.string ⟨#[]⟩) true y3 x1) fun y4=>
 bind (ZE y4 0) fun y5=>
 bind (ZE y4 1) fun y6=>
 jn (cnd y6
 (bind (Jg x0) fun y7=>
 bind (fa 0 y7) fun y8=>
 bind (ld1 y8) fun y9=>
 bind (mde .str y9 y5) fun _=>
 bind (Jg x0) fun y10=>
 bind (fa 1 y10) fun y11=>
 bind (ld1 y11) fun y12=>
 bind (mde .str y12 x1) fun _=>
 ret (.nrm [y6]))
 (ret (.nrm [y6]))) (c1 fun q13_0=>
 ret q13_0) noX ret
theorem Zkg (Γ : Ze) (x0 x1 : Value) : Zy Tryz.prog Γ Tryz.f117 Zek [x0,x1]=WA Γ x0 x1:=by kernel_rfl
theorem Zjc {prim : FuncId→Option (List Value→M Value)} (hp : prim Yt=none) (n : Nat) (x0 x1 : Value) : run Tryz.prog prim lvs (n+1) Yt [x0,x1]=WA (run Tryz.prog prim lvs n) x0 x1:=
 (Zl hp (by kernel_rfl) Tryz.func117 (by kernel_rfl)).trans (Zkg _ x0 x1)
noncomputable def YB.l1 (Γ : Ze) (s0 s35 s36 s37 : Value) : M Out:=
 bind (bop .int .lss s37 s36) fun y19=>
 cnd y19
 (bind (ixa 1 s35 s37) fun y20=>
 bind (ld1 y20) fun y21=>
 bind (bop .str .eql y21 (Value.string ⟨#[]⟩)) fun y22=>
 bind (ZU y22 false 3 (bind (Γ Kf [y21,(Value.func (.func 183) #[] #[])]) fun y23=>
 bind (uop .not y23) fun y24=>
 ret [y21,y23,y24])) (c3 fun _ _ q25_2=>
 bind (pick y22 (Value.bool true) q25_2) fun y26=>
 cnd y26
 (ret (.ret (Value.tuple #[(Value.string ⟨#[]⟩),(Value.int .i64 11)])))
 (bind (bop .int .add s37 (Value.int .i64 1)) fun y27=>
 ret (.nrm [s0,s35,s36,y27]))))
 (ret (.ext 0 [s0]))
noncomputable def YB (Γ : Ze) (x0 : Value) : M Value:=
 bind (Yi x0) fun y1=>
 bind (bop .int .gtr y1 (Value.int .i64 20)) fun y2=>
 cnd y2
 (ret (Value.tuple #[(Value.string ⟨#[]⟩),(Value.int .i64 11)]))
 (bind (Γ Zcz [x0]) fun y3=>
 bind (Γ We [y3,(Value.string ⟨#[64]⟩)]) fun y4=>
 bind (ZE y4 0) fun y5=>
 bind (ZE y4 1) fun y6=>
 bind (ZE y4 2) fun y7=>
 bind (Γ WX [y6,(Value.string ⟨#[46]⟩)]) fun y8=>
 bind (uop .not y7) fun y9=>
 bind (ZU y9 false 3 (bind (Γ Wc [y5]) fun y10=>
 bind (uop .not y10) fun y11=>
 ret [y5,y10,y11])) (c3 fun _ _ q12_2=>
 bind (pick y9 (Value.bool true) q12_2) fun y13=>
 bind (ZU y13 false 3 (bind (ZC y8) fun y14=>
 bind (bop .int .lss y14 (Value.int .i64 2)) fun y15=>
 ret [y8,y14,y15])) (c3 fun _ _ q16_2=>
 bind (pick y13 (Value.bool true) q16_2) fun y17=>
 cnd y17
 (ret (Value.tuple #[(Value.string ⟨#[]⟩),(Value.int .i64 11)]))
 (bind (ZC y8) fun y18=>
 jn (Zk (c4 (YB.l1 Γ)) [y3,y8,y18,(Value.int .i64 0)]) noN (xk 0 (c1 fun q29_0=>
 ret (Value.tuple #[q29_0,(Value.int .i64 0)])) noX) ret))))
theorem ZpL (Γ : Ze) (x0 : Value) : Zy Tryz.prog Γ Tryz.f118 ZjF [x0]=YB Γ x0:=by kernel_rfl
theorem Zob {prim : FuncId→Option (List Value→M Value)} (hp : prim Zbd=none) (n : Nat) (x0 : Value) : run Tryz.prog prim lvs (n+1) Zbd [x0]=YB (run Tryz.prog prim lvs n) x0:=
 (Zl hp (by kernel_rfl) Tryz.func118 (by kernel_rfl)).trans (ZpL _ x0)
noncomputable def JV.l1 (Γ : Ze) (s0 s1 s7 s8 : Value) : M Out:=
 bind (bop .int .lss s8 s7) fun y1=>
 cnd y1
 (bind (Jg s0) fun y2=>
 bind (fa 0 y2) fun y3=>
 bind (ld1 y3) fun y4=>
 bind (cvi .u8 s1) fun y5=>
 bind (bsl 1 1 (.int .u8 0) [(0,1,y5)]) fun y6=>
 bind (app 1 1 y4 y6) fun y7=>
 bind (Jg s0) fun y8=>
 bind (fa 0 y8) fun y9=>
 bind (st1 y9 y7) fun _=>
 bind (bop .int .shr s1 (Value.int .u64 8)) fun y10=>
 bind (bop .int .add s8 (Value.int .i64 1)) fun y11=>
 ret (.nrm [s0,y10,s7,y11]))
 (ret (.ext 0 [s0]))
noncomputable def JV (Γ : Ze) (x0 x1 x2 : Value) : M Value:=
 jn (Zk (c4 (JV.l1 Γ)) [x0,x1,x2,(Value.int .i64 0)]) noN (xk 0 (c1 fun q13_0=>
 ret q13_0) noX) ret
theorem Zi1 (Γ : Ze) (x0 x1 x2 : Value) : Zy Tryz.prog Γ Tryz.f119 ZdJ [x0,x1,x2]=JV Γ x0 x1 x2:=by kernel_rfl
theorem Zil {prim : FuncId→Option (List Value→M Value)} (hp : prim YJ=none) (n : Nat) (x0 x1 x2 : Value) : run Tryz.prog prim lvs (n+1) YJ [x0,x1,x2]=JV (run Tryz.prog prim lvs n) x0 x1 x2:=
 (Zl hp (by kernel_rfl) Tryz.func119 (by kernel_rfl)).trans (Zi1 _ x0 x1 x2)
noncomputable def Zbj (Γ : Ze) (x0 x1 : Value) : M Value:=
 bind (Yi x1) fun y1=>
 bind (mxi false y1 (Value.int .i64 65535)) fun y2=>
 bind (sls x1 none (some y2)) fun y3=>
 bind (Yi y3) fun y4=>
 bind (cvi .u16 y4) fun y5=>
 bind (Γ Yj [x0,y5]) fun y6=>
 bind (Jg x0) fun y7=>
 bind (fa 0 y7) fun y8=>
 bind (ld1 y8) fun y9=>
 bind (app 1 1 y9 y3) fun y10=>
 bind (Jg x0) fun y11=>
 bind (fa 0 y11) fun y12=>
 bind (st1 y12 y10) fun _=>
 ret x0
theorem ZhI (Γ : Ze) (x0 x1 : Value) : Zy Tryz.prog Γ Tryz.f120 ZdA [x0,x1]=Zbj Γ x0 x1:=by kernel_rfl
theorem Zhb {prim : FuncId→Option (List Value→M Value)} (hp : prim Jc=none) (n : Nat) (x0 x1 : Value) : run Tryz.prog prim lvs (n+1) Jc [x0,x1]=Zbj (run Tryz.prog prim lvs n) x0 x1:=
 (Zl hp (by kernel_rfl) Tryz.func120 (by kernel_rfl)).trans (ZhI _ x0 x1)
noncomputable def ZbN (Γ : Ze) (x0 : Value) : M Value:=
 bind (Jg x0) fun y1=>
 bind (fa 0 y1) fun y2=>
 bind (ld1 y2) fun y3=>
 bind (Γ KH [y3]) fun y4=>
 ret y4
theorem ZiY (Γ : Ze) (x0 : Value) : Zy Tryz.prog Γ Tryz.f121 ZdN [x0]=ZbN Γ x0:=by kernel_rfl
theorem ZhX {prim : FuncId→Option (List Value→M Value)} (hp : prim YL=none) (n : Nat) (x0 : Value) : run Tryz.prog prim lvs (n+1) YL [x0]=ZbN (run Tryz.prog prim lvs n) x0:=
 (Zl hp (by kernel_rfl) Tryz.func121 (by kernel_rfl)).trans (ZiY _ x0)
noncomputable def ZaX (Γ : Ze) (x0 x1 : Value) : M Value:=
 cnd x1
 (bind (Γ Jv [x0,(Value.int .u8 1)]) fun y1=>
 ret y1)
 (bind (Γ Jv [x0,(Value.int .u8 0)]) fun y2=>
 ret y2)
theorem Zg4 (Γ : Ze) (x0 x1 : Value) : Zy Tryz.prog Γ Tryz.f122 ZcL [x0,x1]=ZaX Γ x0 x1:=by kernel_rfl
theorem ZgC {prim : FuncId→Option (List Value→M Value)} (hp : prim KB=none) (n : Nat) (x0 x1 : Value) : run Tryz.prog prim lvs (n+1) KB [x0,x1]=ZaX (run Tryz.prog prim lvs n) x0 x1:=
 (Zl hp (by kernel_rfl) Tryz.func122 (by kernel_rfl)).trans (Zg4 _ x0 x1)
noncomputable def JT.l1 (Γ : Ze) (s5 s10 s11 s12 : Value) : M Out:=
 bind (bop .int .lss s12 s11) fun y3=>
 cnd y3
 (bind (ixa 1 s10 s12) fun y4=>
 bind (ld1 y4) fun y5=>
 bind (cvi .u64 y5) fun y6=>
 bind (bop .int .mul (Value.int .i64 8) s12) fun y7=>
 bind (bop .int .shl y6 y7) fun y8=>
 bind (bop .int .or s5 y8) fun y9=>
 bind (bop .int .add s12 (Value.int .i64 1)) fun y10=>
 ret (.nrm [y9,s10,s11,y10]))
 (ret (.ext 0 [s5]))
noncomputable def JT (Γ : Ze) (x0 x1 : Value) : M Value:=
 bind (Γ Yq [x0,x1]) fun y1=>
 bind (ZC y1) fun y2=>
 jn (Zk (c4 (JT.l1 Γ)) [(Value.int .u64 0),y1,y2,(Value.int .i64 0)]) noN (xk 0 (c1 fun q12_0=>
 ret q12_0) noX) ret
theorem Zjp (Γ : Ze) (x0 x1 : Value) : Zy Tryz.prog Γ Tryz.f123 ZdR [x0,x1]=JT Γ x0 x1:=by kernel_rfl
theorem Zh6 {prim : FuncId→Option (List Value→M Value)} (hp : prim YF=none) (n : Nat) (x0 x1 : Value) : run Tryz.prog prim lvs (n+1) YF [x0,x1]=JT (run Tryz.prog prim lvs n) x0 x1:=
 (Zl hp (by kernel_rfl) Tryz.func123 (by kernel_rfl)).trans (Zjp _ x0 x1)
noncomputable def KA (Γ : Ze) (x0 x1 : Value) : M Value:=
 bind (Γ Kp [x0]) fun y1=>
 bind (cvi .i64 y1) fun y2=>
 bind (mxi true (Value.int .i64 0) x1) fun y3=>
 bind (bop .int .gtr y2 y3) fun y4=>
 cnd y4
 (bind (Γ ZX [x0,(Value.int .i64 3)]) fun y5=>
 ret (Value.int .i64 0))
 (ret y2)
theorem ZgV (Γ : Ze) (x0 x1 : Value) : Zy Tryz.prog Γ Tryz.f124 ZcI [x0,x1]=KA Γ x0 x1:=by kernel_rfl
theorem ZfT {prim : FuncId→Option (List Value→M Value)} (hp : prim Yf=none) (n : Nat) (x0 x1 : Value) : run Tryz.prog prim lvs (n+1) Yf [x0,x1]=KA (run Tryz.prog prim lvs n) x0 x1:=
 (Zl hp (by kernel_rfl) Tryz.func124 (by kernel_rfl)).trans (ZgV _ x0 x1)
noncomputable def Zbp (Γ : Ze) (x0 x1 : Value) : M Value:=
 bind (Γ Yf [x0,x1]) fun y1=>
 bind (Γ Yq [x0,y1]) fun y2=>
 bind (b2s y2) fun y3=>
 ret y3
theorem Zhi (Γ : Ze) (x0 x1 : Value) : Zy Tryz.prog Γ Tryz.f125 Zdy [x0,x1]=Zbp Γ x0 x1:=by kernel_rfl
theorem Zg2 {prim : FuncId→Option (List Value→M Value)} (hp : prim Jb=none) (n : Nat) (x0 x1 : Value) : run Tryz.prog prim lvs (n+1) Jb [x0,x1]=Zbp (run Tryz.prog prim lvs n) x0 x1:=
 (Zl hp (by kernel_rfl) Tryz.func125 (by kernel_rfl)).trans (Zhi _ x0 x1)
noncomputable def Wx (Γ : Ze) (x0 : Value) : M Value:=
 bind (Γ Y9 [x0]) fun y1=>
 bind (bop .int .gtr y1 (Value.int .u8 1)) fun y2=>
 jn (cnd y2
 (bind (Γ ZX [x0,(Value.int .i64 4)]) fun y3=>
 ret (.nrm [y1]))
 (ret (.nrm [y1]))) (c1 fun q4_0=>
 bind (bop .int .eql q4_0 (Value.int .u8 1)) fun y5=>
 ret y5) noX ret
theorem Zg6 (Γ : Ze) (x0 : Value) : Zy Tryz.prog Γ Tryz.f126 ZcK [x0]=Wx Γ x0:=by kernel_rfl
theorem Zct {prim : FuncId→Option (List Value→M Value)} (hp : prim KD=none) (n : Nat) (x0 : Value) : run Tryz.prog prim lvs (n+1) KD [x0]=Wx (run Tryz.prog prim lvs n) x0:=
 (Zl hp (by kernel_rfl) Tryz.func126 (by kernel_rfl)).trans (Zg6 _ x0)
noncomputable def WQ (Γ : Ze) (x0 x1 : Value) : M Value:=
 bind (alc 1 x0) fun y1=>
 bind (alc 1 (.agg #[.string ⟨#[]⟩,.int .i64 0])) fun y2=>
 bind (ldA 2 y1) fun y3=>
 bind (Γ J5 [y3,(Value.int .i64 2)]) fun y4=>
 bind (ZE y4 0) fun y5=>
 bind (ZE y4 1) fun y6=>
 bind (alc 1 (.agg #[.string ⟨#[]⟩,.int .i64 0])) fun y7=>
 bind (stA 2 y7 y5) fun _=>
 bind (fa 1 y7) fun y8=>
 bind (ld1 y8) fun y9=>
 bind (bop .int .eql y9 (Value.int .i64 0)) fun y10=>
 bind (ZU y10 true 5 (bind (cvi .i64 y6) fun y11=>
 bind (mxi true (Value.int .i64 0) x1) fun y12=>
 bind (bop .int .gtr y11 y12) fun y13=>
 ret [y6,y11,x1,y12,y13])) (c5 fun _ _ _ _ q14_4=>
 bind (pick y10 q14_4 (Value.bool false)) fun y15=>
 cnd y15
 (bind (bld (.agg #[.string ⟨#[]⟩,.int .i64 0]) [(1,1,(Value.int .i64 3))]) fun y16=>
 bind (stA 2 y2 y16) fun _=>
 bind (ldA 2 y2) fun y17=>
 ret (Value.tuple #[y17,(Value.string ⟨#[]⟩)]))
 (bind (ldA 2 y7) fun y18=>
 bind (cvi .i64 y6) fun y19=>
 bind (Γ Ku [y18,y19]) fun y20=>
 bind (ZE y20 0) fun y21=>
 bind (ZE y20 1) fun y22=>
 bind (ZE y20 2) fun y23=>
 bind (stA 2 y7 y21) fun _=>
 bind (ldA 2 y7) fun y24=>
 bind (stA 2 y2 y24) fun _=>
 bind (ldA 2 y2) fun y25=>
 ret (Value.tuple #[y25,y22])))
theorem Zk2 (Γ : Ze) (x0 x1 : Value) : Zy Tryz.prog Γ Tryz.f127 ZeY [x0,x1]=WQ Γ x0 x1:=by kernel_rfl
theorem Zkv {prim : FuncId→Option (List Value→M Value)} (hp : prim Jh=none) (n : Nat) (x0 x1 : Value) : run Tryz.prog prim lvs (n+1) Jh [x0,x1]=WQ (run Tryz.prog prim lvs n) x0 x1:=
 (Zl hp (by kernel_rfl) Tryz.func127 (by kernel_rfl)).trans (Zk2 _ x0 x1)
noncomputable def Zat (Γ : Ze) (x0 x1 : Value) : M Value:=
 bind (alc 1 x0) fun y1=>
 bind (alc 1 (.agg #[.string ⟨#[]⟩,.int .i64 0])) fun y2=>
 bind (fa 1 y1) fun y3=>
 bind (ld1 y3) fun y4=>
 bind (bop .int .neq y4 (Value.int .i64 0)) fun y5=>
 bind (ZU y5 false 5 (bind (fa 0 y1) fun y6=>
 bind (ld1 y6) fun y7=>
 bind (Yi y7) fun y8=>
 bind (bop .int .gtr x1 y8) fun y9=>
 ret [x1,y6,y7,y8,y9])) (c5 fun _ _ _ _ q10_4=>
 bind (pick y5 (Value.bool true) q10_4) fun y11=>
 cnd y11
 (bind (ldA 2 y1) fun y12=>
 bind (Γ YU [y12,(Value.int .i64 2)]) fun y13=>
 bind (stA 2 y2 y13) fun _=>
 bind (ldA 2 y2) fun y14=>
 ret (Value.tuple #[y14,(Value.string ⟨#[]⟩),(Value.bool false)]))
 (bind (fa 0 y1) fun y15=>
 bind (ld1 y15) fun y16=>
 bind (sls y16 (some x1) none) fun y17=>
 bind (bld (.agg #[.string ⟨#[]⟩,.int .i64 0]) [(0,1,y17)]) fun y18=>
 bind (fa 0 y1) fun y19=>
 bind (ld1 y19) fun y20=>
 bind (sls y20 none (some x1)) fun y21=>
 bind (stA 2 y2 y18) fun _=>
 bind (ld1 y19) fun u_22=>same u_22 y20 <|
 bind (ldA 2 y2) fun y23=>
 ret (Value.tuple #[y23,y21,(Value.bool true)])))
theorem Zph (Γ : Ze) (x0 x1 : Value) : Zy Tryz.prog Γ Tryz.f128 ZhE [x0,x1]=Zat Γ x0 x1:=by kernel_rfl
theorem Znr {prim : FuncId→Option (List Value→M Value)} (hp : prim Ku=none) (n : Nat) (x0 x1 : Value) : run Tryz.prog prim lvs (n+1) Ku [x0,x1]=Zat (run Tryz.prog prim lvs n) x0 x1:=
 (Zl hp (by kernel_rfl) Tryz.func128 (by kernel_rfl)).trans (Zph _ x0 x1)
noncomputable def Y4.l1 (Γ : Ze) (s0 s3 s4 : Value) : M Out:=
 bind (bop .int .geq s4 (Value.int .i64 0)) fun y3=>
 cnd y3
 (bind (bop .int .mul s3 (Value.int .u64 256)) fun y4=>
 bind (ixs s0 s4) fun y5=>
 bind (cvi .u64 y5) fun y6=>
 bind (bop .int .add y4 y6) fun y7=>
 bind (bop .int .sub s4 (Value.int .i64 1)) fun y8=>
 ret (.nrm [s0,y7,y8]))
 (ret (.ext 0 [s3]))
noncomputable def Y4 (Γ : Ze) (x0 : Value) : M Value:=
 bind (Yi x0) fun y1=>
 bind (bop .int .sub y1 (Value.int .i64 1)) fun y2=>
 jn (Zk (c3 (Y4.l1 Γ)) [x0,(Value.int .u64 0),y2]) noN (xk 0 (c1 fun q10_0=>
 ret q10_0) noX) ret
theorem ZnN (Γ : Ze) (x0 : Value) : Zy Tryz.prog Γ Tryz.f129 ZgJ [x0]=Y4 Γ x0:=by kernel_rfl
theorem ZlT {prim : FuncId→Option (List Value→M Value)} (hp : prim ZaL=none) (n : Nat) (x0 : Value) : run Tryz.prog prim lvs (n+1) ZaL [x0]=Y4 (run Tryz.prog prim lvs n) x0:=
 (Zl hp (by kernel_rfl) Tryz.func129 (by kernel_rfl)).trans (ZnN _ x0)
noncomputable def Zc4 (Γ : Ze) (x0 x1 : Value) : M Value:=
 bind (alc 1 x0) fun y1=>
 bind (alc 1 (.agg #[.string ⟨#[]⟩,.int .i64 0])) fun y2=>
 bind (fa 1 y1) fun y3=>
 bind (ld1 y3) fun y4=>
 bind (bop .int .neq y4 (Value.int .i64 0)) fun y5=>
 bind (ZU y5 false 2 (bind (bop .int .eql x1 (Value.int .i64 0)) fun y6=>
 ret [x1,y6])) (c2 fun _ q7_1=>
 bind (pick y5 (Value.bool true) q7_1) fun y8=>
 cnd y8
 (bind (ldA 2 y1) fun y9=>
 bind (stA 2 y2 y9) fun _=>
 bind (ldA 2 y2) fun y10=>
 ret y10)
 (bind (bld (.agg #[.string ⟨#[]⟩,.int .i64 0]) [(1,1,x1)]) fun y11=>
 bind (stA 2 y2 y11) fun _=>
 bind (ldA 2 y2) fun y12=>
 ret y12))
theorem Zpn (Γ : Ze) (x0 x1 : Value) : Zy Tryz.prog Γ Tryz.f130 Zix [x0,x1]=Zc4 Γ x0 x1:=by kernel_rfl
theorem ZnL {prim : FuncId→Option (List Value→M Value)} (hp : prim YU=none) (n : Nat) (x0 x1 : Value) : run Tryz.prog prim lvs (n+1) YU [x0,x1]=Zc4 (run Tryz.prog prim lvs n) x0 x1:=
 (Zl hp (by kernel_rfl) Tryz.func130 (by kernel_rfl)).trans (Zpn _ x0 x1)
noncomputable def Wr (Γ : Ze) (x0 : Value) : M Value:=
 bind (alc 1 x0) fun y1=>
 bind (alc 1 (.agg #[.string ⟨#[]⟩,.int .i64 0])) fun y2=>
 bind (ldA 2 y1) fun y3=>
 bind (Γ J5 [y3,(Value.int .i64 1)]) fun y4=>
 bind (ZE y4 0) fun y5=>
 bind (ZE y4 1) fun y6=>
 bind (alc 1 (.agg #[.string ⟨#[]⟩,.int .i64 0])) fun y7=>
 bind (stA 2 y7 y5) fun _=>
 bind (bop .int .gtr y6 (Value.int .u64 1)) fun y8=>
 cnd y8
 (bind (bld (.agg #[.string ⟨#[]⟩,.int .i64 0]) [(1,1,(Value.int .i64 4))]) fun y9=>
 bind (stA 2 y2 y9) fun _=>
 bind (ldA 2 y2) fun y10=>
 ret (Value.tuple #[y10,(Value.bool false)]))
 (bind (ldA 2 y7) fun y11=>
 bind (bop .int .eql y6 (Value.int .u64 1)) fun y12=>
 bind (stA 2 y2 y11) fun _=>
 bind (ldA 2 y2) fun y13=>
 ret (Value.tuple #[y13,y12]))
theorem Zku (Γ : Ze) (x0 : Value) : Zy Tryz.prog Γ Tryz.f131 ZeC [x0]=Wr Γ x0:=by kernel_rfl
theorem Zjh {prim : FuncId→Option (List Value→M Value)} (hp : prim KG=none) (n : Nat) (x0 : Value) : run Tryz.prog prim lvs (n+1) KG [x0]=Wr (run Tryz.prog prim lvs n) x0:=
 (Zl hp (by kernel_rfl) Tryz.func131 (by kernel_rfl)).trans (Zku _ x0)
noncomputable def Qx.l1 (Γ : Ze) (s3 s62 s63 s64 : Value) : M Out:=
 bind (bop .int .lss s64 s63) fun y50=>
 cnd y50
 (bind (ixa 1 s62 s64) fun y51=>
 bind (ld1 y51) fun y52=>
 bind (Γ YA [y52]) fun y53=>
 bind (uop .not y53) fun y54=>
 cnd y54
 (ret (.ret (Value.int .i64 10)))
 (bind (bop .int .add s64 (Value.int .i64 1)) fun y55=>
 ret (.nrm [s3,s62,s63,y55])))
 (ret (.ext 0 [s3]))
noncomputable def Qx.l2 (Γ : Ze) (s3 s73 s74 s75 : Value) : M Out:=
 bind (bop .int .lss s75 s74) fun y61=>
 cnd y61
 (bind (ixa 1 s73 s75) fun y62=>
 bind (ld1 y62) fun y63=>
 bind (bop .int .gtr s75 (Value.int .i64 0)) fun y64=>
 bind (ZU y64 true 8 (bind (fa 4 s3) fun y65=>
 bind (ld1 y65) fun y66=>
 bind (bop .int .sub s75 (Value.int .i64 1)) fun y67=>
 bind (ixa 1 y66 y67) fun y68=>
 bind (ld1 y68) fun y69=>
 bind (bop .str .leq y63 y69) fun y70=>
 ret [y63,y65,y66,s75,y67,y68,y69,y70])) (c8 fun _ _ _ _ _ _ _ q71_7=>
 bind (pick y64 q71_7 (Value.bool false)) fun y72=>
 cnd y72
 (ret (.ret (Value.int .i64 9)))
 (bind (bop .int .add s75 (Value.int .i64 1)) fun y73=>
 ret (.nrm [s3,s73,s74,y73]))))
 (ret (.ext 2 []))
noncomputable def Qx (Γ : Ze) (x0 x1 : Value) : M Value:=
 bind (alc 1 x1) fun y1=>
 bind (bop .int .lss x0 (Value.int .i64 1)) fun y2=>
 bind (ZU y2 false 2 (bind (bop .int .gtr x0 (Value.int .i64 2)) fun y3=>
 ret [x0,y3])) (c2 fun _ q4_1=>
 bind (pick y2 (Value.bool true) q4_1) fun y5=>
 cnd y5
 (ret (Value.int .i64 6))
 (bind (fa 0 y1) fun y6=>
 bind (ld1 y6) fun y7=>
 bind (Γ YA [y7]) fun y8=>
 bind (uop .not y8) fun y9=>
 cnd y9
 (ret (Value.int .i64 10))
 (bind (fa 1 y1) fun y10=>
 bind (ld1 y10) fun y11=>
 bind (Γ Zbw [y11]) fun y12=>
 bind (uop .not y12) fun y13=>
 cnd y13
 (ret (Value.int .i64 4))
 (bind (bop .int .eql x0 (Value.int .i64 1)) fun y14=>
 cnd y14
 (bind (fa 2 y1) fun y15=>
 bind (ld1 y15) fun y16=>
 bind (bop .str .neq y16 (Value.string ⟨#[]⟩)) fun y17=>
 bind (ZU y17 false 2 (bind (fa 3 y1) fun y18=>
 bind (ld1 y18) fun y19=>
 ret [y18,y19])) (c2 fun _ q20_1=>
 bind (pick y17 (Value.bool true) q20_1) fun y21=>
 bind (ZU y21 false 4 (bind (fa 4 y1) fun y22=>
 bind (ld1 y22) fun y23=>
 bind (ZC y23) fun y24=>
 bind (bop .int .gtr y24 (Value.int .i64 0)) fun y25=>
 ret [y22,y23,y24,y25])) (c4 fun _ _ _ q26_3=>
 bind (pick y21 (Value.bool true) q26_3) fun y27=>
 cnd y27
 (ret (Value.int .i64 12))
 (ret (Value.int .i64 0)))))
 (bind (fa 2 y1) fun y28=>
 bind (ld1 y28) fun y29=>
 bind (bop .str .neq y29 (Value.string ⟨#[]⟩)) fun y30=>
 jn (cnd y30
 (bind (fa 2 y1) fun y31=>
 bind (ld1 y31) fun y32=>
 bind (Γ WC [y32]) fun y33=>
 bind (ZE y33 0) fun y34=>
 bind (ZE y33 1) fun y35=>
 bind (uop .not y35) fun y36=>
 bind (ZU y36 false 4 (bind (fa 2 y1) fun y37=>
 bind (ld1 y37) fun y38=>
 bind (bop .str .neq y34 y38) fun y39=>
 ret [y34,y37,y38,y39])) (c4 fun _ _ _ q40_3=>
 bind (pick y36 (Value.bool true) q40_3) fun y41=>
 cnd y41
 (ret (.ret (Value.int .i64 11)))
 (ret (.nrm [y1]))))
 (ret (.nrm [y1]))) (c1 fun q42_0=>
 bind (fa 4 q42_0) fun y43=>
 bind (ld1 y43) fun y44=>
 bind (ZC y44) fun y45=>
 bind (bop .int .gtr y45 (Value.int .i64 6)) fun y46=>
 cnd y46
 (ret (Value.int .i64 7))
 (bind (fa 4 q42_0) fun y47=>
 bind (ld1 y47) fun y48=>
 bind (ZC y48) fun y49=>
 jn (Zk (c4 (Qx.l1 Γ)) [q42_0,y48,y49,(Value.int .i64 0)]) noN (xk 0 (c1 fun q57_0=>
 bind (fa 4 q57_0) fun y58=>
 bind (ld1 y58) fun y59=>
 bind (ZC y59) fun y60=>
 jn (Zk (c4 (Qx.l2 Γ)) [q57_0,y59,y60,(Value.int .i64 0)]) noN (xk 2 (c0 (ret (Value.int .i64 0))) noX) ret) noX) ret)) noX ret)))))
theorem Zng (Γ : Ze) (x0 x1 : Value) : Zy Tryz.prog Γ Tryz.f132 ZgQ [x0,x1]=Qx Γ x0 x1:=by kernel_rfl
theorem Zl1 {prim : FuncId→Option (List Value→M Value)} (hp : prim ZaJ=none) (n : Nat) (x0 x1 : Value) : run Tryz.prog prim lvs (n+1) ZaJ [x0,x1]=Qx (run Tryz.prog prim lvs n) x0 x1:=
 (Zl hp (by kernel_rfl) Tryz.func132 (by kernel_rfl)).trans (Zng _ x0 x1)
noncomputable def Jj.l1 (Γ : Ze) (s0 s1 s10 s11 s12 : Value) : M Out:=
 bind (bop .int .lss s12 s11) fun y2=>
 cnd y2
 (bind (ixa 5 s10 s12) fun y3=>
 bind (ldA 5 y3) fun y4=>
 bind (alc 1 (.agg #[.string ⟨#[]⟩,.string ⟨#[]⟩,.string ⟨#[]⟩,.bool false,.slice none 0 0])) fun y5=>
 bind (stA 5 y5 y4) fun _=>
 bind (ldA 5 y5) fun y6=>
 bind (Γ ZaJ [s1,y6]) fun y7=>
 bind (bop .int .neq y7 (Value.int .i64 0)) fun y8=>
 cnd y8
 (ret (.ret y7))
 (bind (bop .int .add s12 (Value.int .i64 1)) fun y9=>
 ret (.nrm [s0,s1,s10,s11,y9])))
 (ret (.ext 0 [s0]))
noncomputable def Jj.l2 (Γ : Ze) (s0 s23 s24 s25 : Value) : M Out:=
 bind (bop .int .lss s25 s24) fun y13=>
 cnd y13
 (bind (ixa 5 s23 s25) fun y14=>
 bind (ldA 5 y14) fun y15=>
 bind (alc 1 (.agg #[.string ⟨#[]⟩,.string ⟨#[]⟩,.string ⟨#[]⟩,.bool false,.slice none 0 0])) fun y16=>
 bind (stA 5 y16 y15) fun _=>
 bind (bop .int .gtr s25 (Value.int .i64 0)) fun y17=>
 bind (ZF y17 true (ret s0)) fun y18=>
 bind (ZF y17 true (ret s25)) fun y19=>
 bind (ZF y17 true (bop .int .sub y19 (Value.int .i64 1))) fun y20=>
 bind (ZF y17 true (ixa 5 y18 y20)) fun y21=>
 bind (ZF y17 true (fa 0 y21)) fun y22=>
 bind (ZF y17 true (ld1 y22)) fun y23=>
 bind (ZF y17 true (fa 0 y16)) fun y24=>
 bind (ZF y17 true (ld1 y24)) fun y25=>
 bind (ZF y17 true (bop .str .geq y23 y25)) fun y26=>
 bind (pick y17 y26 (Value.bool false)) fun y27=>
 cnd y27
 (ret (.ret (Value.int .i64 9)))
 (bind (bop .int .add s25 (Value.int .i64 1)) fun y28=>
 ret (.nrm [s0,s23,s24,y28])))
 (ret (.ext 2 [s0]))
noncomputable def Jj (Γ : Ze) (x0 x1 : Value) : M Value:=
 bind (ZC x0) fun y1=>
 jn (Zk (c5 (Jj.l1 Γ)) [x0,x1,x0,y1,(Value.int .i64 0)]) noN (xk 0 (c1 fun q11_0=>
 bind (ZC q11_0) fun y12=>
 jn (Zk (c4 (Jj.l2 Γ)) [q11_0,q11_0,y12,(Value.int .i64 0)]) noN (xk 2 (c1 fun q30_0=>
 bind (ZC q30_0) fun y31=>
 bind (bop .int .gtr y31 (Value.int .i64 12)) fun y32=>
 cnd y32
 (ret (Value.int .i64 7))
 (ret (Value.int .i64 0))) noX) ret) noX) ret
theorem Zrz (Γ : Ze) (x0 x1 : Value) : Zy Tryz.prog Γ Tryz.f133 Zlg [x0,x1]=Jj Γ x0 x1:=by kernel_rfl
theorem ZpG {prim : FuncId→Option (List Value→M Value)} (hp : prim Zdh=none) (n : Nat) (x0 x1 : Value) : run Tryz.prog prim lvs (n+1) Zdh [x0,x1]=Jj (run Tryz.prog prim lvs n) x0 x1:=
 (Zl hp (by kernel_rfl) Tryz.func133 (by kernel_rfl)).trans (Zrz _ x0 x1)
noncomputable def Zfi (Γ : Ze) (x0 : Value) : M Value:=
 bind (Yi x0) fun y1=>
 bind (bop .int .geq y1 (Value.int .i64 1)) fun y2=>
 bind (ZU y2 true 2 (bind (bop .int .leq y1 (Value.int .i64 12)) fun y3=>
 ret [y1,y3])) (c2 fun _ q4_1=>
 bind (pick y2 q4_1 (Value.bool false)) fun y5=>
 bind (ZU y5 true 2 (bind (Γ ZaW [x0,(Value.string ⟨#[97,98,99,100,101,102,103,104,105,106,107,108,109,110,111,112,113,114,115,116,117,118,119,120,121,122,48,49,50,51,52,53,54,55,56,57,45,46]⟩)]) fun y6=>
 ret [x0,y6])) (c2 fun _ q7_1=>
 bind (pick y5 q7_1 (Value.bool false)) fun y8=>
 bind (ZU y8 true 3 (bind (ixs x0 (Value.int .i64 0)) fun y9=>
 bind (Γ KX [y9,(Value.string ⟨#[97,98,99,100,101,102,103,104,105,106,107,108,109,110,111,112,113,114,115,116,117,118,119,120,121,122]⟩)]) fun y10=>
 ret [x0,y9,y10])) (c3 fun _ _ q11_2=>
 bind (pick y8 q11_2 (Value.bool false)) fun y12=>
 bind (ZU y12 true 5 (bind (bop .int .sub y1 (Value.int .i64 1)) fun y13=>
 bind (ixs x0 y13) fun y14=>
 bind (Γ KX [y14,(Value.string ⟨#[97,98,99,100,101,102,103,104,105,106,107,108,109,110,111,112,113,114,115,116,117,118,119,120,121,122,48,49,50,51,52,53,54,55,56,57]⟩)]) fun y15=>
 ret [x0,y1,y13,y14,y15])) (c5 fun _ _ _ _ q16_4=>
 bind (pick y12 q16_4 (Value.bool false)) fun y17=>
 ret y17))))
theorem ZoK (Γ : Ze) (x0 : Value) : Zy Tryz.prog Γ Tryz.f134 Zhn [x0]=Zfi Γ x0:=by kernel_rfl
theorem ZnB {prim : FuncId→Option (List Value→M Value)} (hp : prim YA=none) (n : Nat) (x0 : Value) : run Tryz.prog prim lvs (n+1) YA [x0]=Zfi (run Tryz.prog prim lvs n) x0:=
 (Zl hp (by kernel_rfl) Tryz.func134 (by kernel_rfl)).trans (ZoK _ x0)
noncomputable def KU.l1 (Γ : Ze) (s1 s7 s8 s9 : Value) : M Out:=
 bind (bop .int .lss s9 s8) fun y2=>
 cnd y2
 (bind (ixa 1 s7 s9) fun y3=>
 bind (ld1 y3) fun y4=>
 bind (bop .str .eql y4 s1) fun y5=>
 cnd y5
 (ret (.ret (Value.bool true)))
 (bind (bop .int .add s9 (Value.int .i64 1)) fun y6=>
 ret (.nrm [s1,s7,s8,y6])))
 (ret (.ext 0 []))
noncomputable def KU (Γ : Ze) (x0 x1 : Value) : M Value:=
 bind (ZC x0) fun y1=>
 jn (Zk (c4 (KU.l1 Γ)) [x1,x0,y1,(Value.int .i64 0)]) noN (xk 0 (c0 (ret (Value.bool false))) noX) ret
theorem Zp4 (Γ : Ze) (x0 x1 : Value) : Zy Tryz.prog Γ Tryz.f135 ZjJ [x0,x1]=KU Γ x0 x1:=by kernel_rfl
theorem Zpb {prim : FuncId→Option (List Value→M Value)} (hp : prim Zeb=none) (n : Nat) (x0 x1 : Value) : run Tryz.prog prim lvs (n+1) Zeb [x0,x1]=KU (run Tryz.prog prim lvs n) x0 x1:=
 (Zl hp (by kernel_rfl) Tryz.func135 (by kernel_rfl)).trans (Zp4 _ x0 x1)
noncomputable def Zgs (Γ : Ze) (x0 : Value) : M Value:=
 bind (bop .str .eql x0 (Value.string ⟨#[]⟩)) fun y1=>
 bind (ZU y1 false 3 (bind (Yi x0) fun y2=>
 bind (bop .int .gtr y2 (Value.int .i64 12)) fun y3=>
 ret [x0,y2,y3])) (c3 fun _ _ q4_2=>
 bind (pick y1 (Value.bool true) q4_2) fun y5=>
 bind (ZU y5 false 4 (bind (Γ Kf [x0,(Value.func (.func 191) #[] #[])]) fun y6=>
 bind (uop .not y6) fun y7=>
 ret [x0,(Value.func (.func 191) #[] #[]),y6,y7])) (c4 fun _ _ _ q8_3=>
 bind (pick y5 (Value.bool true) q8_3) fun y9=>
 cnd y9
 (ret (Value.int .i64 4))
 (ret (Value.int .i64 0))))
theorem Zqg (Γ : Ze) (x0 : Value) : Zy Tryz.prog Γ Tryz.f137 Zjr [x0]=Zgs Γ x0:=by kernel_rfl
theorem ZoA {prim : FuncId→Option (List Value→M Value)} (hp : prim Zci=none) (n : Nat) (x0 : Value) : run Tryz.prog prim lvs (n+1) Zci [x0]=Zgs (run Tryz.prog prim lvs n) x0:=
 (Zl hp (by kernel_rfl) Tryz.func137 (by kernel_rfl)).trans (Zqg _ x0)
noncomputable def Zfh (Γ : Ze) (x0 : Value) : M Value:=
 bind (Yi x0) fun y1=>
 bind (bop .int .geq y1 (Value.int .i64 1)) fun y2=>
 bind (ZU y2 true 3 (bind (Yi x0) fun y3=>
 bind (bop .int .leq y3 (Value.int .i64 12)) fun y4=>
 ret [x0,y3,y4])) (c3 fun _ _ q5_2=>
 bind (pick y2 q5_2 (Value.bool false)) fun y6=>
 bind (ZU y6 true 2 (bind (Γ ZaW [x0,(Value.string ⟨#[48,49,50,51,52,53,54,55,56,57,97,98,99,100,101,102]⟩)]) fun y7=>
 ret [x0,y7])) (c2 fun _ q8_1=>
 bind (pick y6 q8_1 (Value.bool false)) fun y9=>
 ret y9))
theorem ZoW (Γ : Ze) (x0 : Value) : Zy Tryz.prog Γ Tryz.f141 ZhB [x0]=Zfh Γ x0:=by kernel_rfl
theorem Znn {prim : FuncId→Option (List Value→M Value)} (hp : prim Zbw=none) (n : Nat) (x0 : Value) : run Tryz.prog prim lvs (n+1) Zbw [x0]=Zfh (run Tryz.prog prim lvs n) x0:=
 (Zl hp (by kernel_rfl) Tryz.func141 (by kernel_rfl)).trans (ZoW _ x0)
noncomputable def QF.l1 (Γ : Ze) (s0 s4 : Value) : M Out:=
 bind (Yi s0) fun y4=>
 bind (bop .int .lss s4 y4) fun y5=>
 bind (ZU y5 true 4 (bind (ixs s0 s4) fun y6=>
 bind (bop .int .neq y6 (Value.int .u8 64)) fun y7=>
 ret [s0,s4,y6,y7])) (c4 fun _ _ _ q8_3=>
 bind (pick y5 q8_3 (Value.bool false)) fun y9=>
 cnd y9
 (bind (bop .int .add s4 (Value.int .i64 1)) fun y10=>
 ret (.nrm [s0,y10]))
 (ret (.ext 0 [s0,s4])))
noncomputable def QF.l2 (Γ : Ze) (s0 s5 s6 s7 : Value) : M Out:=
 bind (Yi s0) fun y21=>
 bind (bop .int .lss s7 y21) fun y22=>
 cnd y22
 (bind (ixs s0 s7) fun y23=>
 bind (bop .int .eql y23 (Value.int .u8 46)) fun y24=>
 jn (cnd y24
 (bind (bop .int .eql s6 (Value.int .i64 0)) fun y25=>
 cnd y25
 (ret (.ret (Value.tuple #[(Value.string ⟨#[]⟩),(Value.bool false)])))
 (bind (bop .int .add s5 (Value.int .i64 1)) fun y26=>
 ret (.nrm [s0,y26,(Value.int .i64 0),s7])))
 (bind (ixs s0 s7) fun y27=>
 bind (Γ KX [y27,(Value.string ⟨#[97,98,99,100,101,102,103,104,105,106,107,108,109,110,111,112,113,114,115,116,117,118,119,120,121,122,48,49,50,51,52,53,54,55,56,57]⟩)]) fun y28=>
 bind (uop .not y28) fun y29=>
 cnd y29
 (ret (.ret (Value.tuple #[(Value.string ⟨#[]⟩),(Value.bool false)])))
 (bind (bop .int .add s6 (Value.int .i64 1)) fun y30=>
 ret (.nrm [s0,s5,y30,s7])))) (c4 fun q31_0 q31_1 q31_2 q31_3=>
 bind (bop .int .add q31_3 (Value.int .i64 1)) fun y32=>
 ret (.nrm [q31_0,q31_1,q31_2,y32])) noX Q5)
 (ret (.ext 2 [s0,s5,s6]))
noncomputable def QF (Γ : Ze) (x0 : Value) : M Value:=
 bind (Yi x0) fun y1=>
 bind (bop .int .gtr y1 (Value.int .i64 20)) fun y2=>
 cnd y2
 (ret (Value.tuple #[(Value.string ⟨#[]⟩),(Value.bool false)]))
 (bind (Γ Zbq [x0]) fun y3=>
 jn (Zk (c2 (QF.l1 Γ)) [y3,(Value.int .i64 0)]) noN (xk 0 (c2 fun q12_0 q12_1=>
 bind (Yi q12_0) fun y13=>
 bind (bop .int .eql q12_1 y13) fun y14=>
 bind (ZU y14 false 5 (bind (sls q12_0 none (some q12_1)) fun y15=>
 bind (Γ YA [y15]) fun y16=>
 bind (uop .not y16) fun y17=>
 ret [q12_0,q12_1,y15,y16,y17])) (c5 fun _ _ _ _ q18_4=>
 bind (pick y14 (Value.bool true) q18_4) fun y19=>
 cnd y19
 (ret (Value.tuple #[(Value.string ⟨#[]⟩),(Value.bool false)]))
 (bind (bop .int .add q12_1 (Value.int .i64 1)) fun y20=>
 jn (Zk (c4 (QF.l2 Γ)) [q12_0,(Value.int .i64 0),(Value.int .i64 0),y20]) noN (xk 2 (c3 fun q35_0 q35_1 q35_2=>
 bind (bop .int .eql q35_1 (Value.int .i64 0)) fun y36=>
 bind (ZU y36 false 2 (bind (bop .int .eql q35_2 (Value.int .i64 0)) fun y37=>
 ret [q35_2,y37])) (c2 fun _ q38_1=>
 bind (pick y36 (Value.bool true) q38_1) fun y39=>
 cnd y39
 (ret (Value.tuple #[(Value.string ⟨#[]⟩),(Value.bool false)]))
 (ret (Value.tuple #[q35_0,(Value.bool true)])))) noX) ret))) noX) ret)
theorem Zoh (Γ : Ze) (x0 : Value) : Zy Tryz.prog Γ Tryz.f143 Zin [x0]=QF Γ x0:=by kernel_rfl
theorem Zns {prim : FuncId→Option (List Value→M Value)} (hp : prim WC=none) (n : Nat) (x0 : Value) : run Tryz.prog prim lvs (n+1) WC [x0]=QF (run Tryz.prog prim lvs n) x0:=
 (Zl hp (by kernel_rfl) Tryz.func143 (by kernel_rfl)).trans (Zoh _ x0)
noncomputable def ZbR (Γ : Ze) (x0 x1 x2 : Value) : M Value:=
 bind (ld1 x1) fun y1=>
 bind (Jg y1) fun y2=>
 bind (fa 0 y2) fun y3=>
 bind (ld1 y3) fun y4=>
 bind (lkp .str (.map none) false y4 x0) fun y5=>
 bind (ld1 x2) fun y6=>
 bind (lkp .str (.agg #[]) true y5 y6) fun y7=>
 bind (ZE y7 0) fun y8=>
 bind (ZE y7 1) fun y9=>
 bind (alc 1 (.agg #[])) fun y10=>
 bind (lkp .str (.agg #[]) true y5 y6) fun u_11=>same u_11 y7 <|
 bind (ld1 x2) fun u_12=>same u_12 y6 <|
 bind (lkp .str (.map none) false y4 x0) fun u_13=>same u_13 y5 <|
 bind (ld1 y3) fun u_14=>same u_14 y4 <|
 bind (ld1 x1) fun u_15=>same u_15 y1 <|
 bind (stA 0 y10 y8) fun _=>
 bind (uop .not y9) fun y16=>
 ret y16
theorem Zi5 (Γ : Ze) (x0 x1 x2 : Value) : Zy Tryz.prog Γ Tryz.f166 ZdM [x0,x1,x2]=ZbR Γ x0 x1 x2:=by kernel_rfl
theorem Zh5 {prim : FuncId→Option (List Value→M Value)} (hp : prim YI=none) (n : Nat) (x0 x1 x2 : Value) : run Tryz.prog prim lvs (n+1) YI [x0,x1,x2]=ZbR (run Tryz.prog prim lvs n) x0 x1 x2:=
 (Zl hp (by kernel_rfl) Tryz.func166 (by kernel_rfl)).trans (Zi5 _ x0 x1 x2)
noncomputable def K0.l1 (Γ : Ze) (s0 s1 s7 s8 : Value) : M Out:=
 bind (bop .int .lss s8 s7) fun y2=>
 cnd y2
 (bind (ixs s0 s8) fun y3=>
 bind (YR Γ s1 [y3]) fun y4=>
 bind (uop .not y4) fun y5=>
 cnd y5
 (ret (.ret (Value.bool false)))
 (bind (bop .int .add s8 (Value.int .i64 1)) fun y6=>
 ret (.nrm [s0,s1,s7,y6])))
 (ret (.ext 0 []))
noncomputable def K0 (Γ : Ze) (x0 x1 : Value) : M Value:=
 bind (Yi x0) fun y1=>
 jn (Zk (c4 (K0.l1 Γ)) [x0,x1,y1,(Value.int .i64 0)]) noN (xk 0 (c0 (ret (Value.bool true))) noX) ret
theorem Zrw (Γ : Ze) (x0 x1 : Value) : Zy Tryz.prog Γ Tryz.f167 ZlL [x0,x1]=K0 Γ x0 x1:=by kernel_rfl
theorem ZpZ {prim : FuncId→Option (List Value→M Value)} (hp : prim Kf=none) (n : Nat) (x0 x1 : Value) : run Tryz.prog prim lvs (n+1) Kf [x0,x1]=K0 (run Tryz.prog prim lvs n) x0 x1:=
 (Zl hp (by kernel_rfl) Tryz.func167 (by kernel_rfl)).trans (Zrw _ x0 x1)
noncomputable def ZgB (Γ : Ze) (x0 : Value) : M Value:=
 bind (Γ Yg [x0]) fun y1=>
 bind (ZU y1 false 2 (bind (Γ Yw [x0]) fun y2=>
 ret [x0,y2])) (c2 fun _ q3_1=>
 bind (pick y1 (Value.bool true) q3_1) fun y4=>
 bind (ZU y4 false 2 (bind (bop .int .eql x0 (Value.int .u8 45)) fun y5=>
 ret [x0,y5])) (c2 fun _ q6_1=>
 bind (pick y4 (Value.bool true) q6_1) fun y7=>
 bind (ZU y7 false 2 (bind (bop .int .eql x0 (Value.int .u8 46)) fun y8=>
 ret [x0,y8])) (c2 fun _ q9_1=>
 bind (pick y7 (Value.bool true) q9_1) fun y10=>
 ret y10)))
theorem ZpV (Γ : Ze) (x0 : Value) : Zy Tryz.prog Γ Tryz.f168 ZjC [x0]=ZgB Γ x0:=by kernel_rfl
theorem Zo5 {prim : FuncId→Option (List Value→M Value)} (hp : prim ZcB=none) (n : Nat) (x0 : Value) : run Tryz.prog prim lvs (n+1) ZcB [x0]=ZgB (run Tryz.prog prim lvs n) x0:=
 (Zl hp (by kernel_rfl) Tryz.func168 (by kernel_rfl)).trans (ZpV _ x0)
noncomputable def Zz.l1 (Γ : Ze) (s0 s1 s7 s8 : Value) : M Out:=
 bind (bop .int .lss s8 s7) fun y2=>
 cnd y2
 (bind (ixa 1 s0 s8) fun y3=>
 bind (ld1 y3) fun y4=>
 bind (YR Γ s1 [y4]) fun y5=>
 cnd y5
 (ret (.ret s8))
 (bind (bop .int .add s8 (Value.int .i64 1)) fun y6=>
 ret (.nrm [s0,s1,s7,y6])))
 (ret (.ext 0 []))
noncomputable def Zz (Γ : Ze) (x0 x1 : Value) : M Value:=
 bind (ZC x0) fun y1=>
 jn (Zk (c4 (Zz.l1 Γ)) [x0,x1,y1,(Value.int .i64 0)]) noN (xk 0 (c0 (ret (Value.int .i64 (-1)))) noX) ret
theorem Zb8 (Γ : Ze) (x0 x1 : Value) : Zy Tryz.prog Γ Tryz.f169 Wy [x0,x1]=Zz Γ x0 x1:=by kernel_rfl
theorem Zb2 {prim : FuncId→Option (List Value→M Value)} (hp : prim Jt=none) (n : Nat) (x0 x1 : Value) : run Tryz.prog prim lvs (n+1) Jt [x0,x1]=Zz (run Tryz.prog prim lvs n) x0 x1:=
 (Zl hp (by kernel_rfl) Tryz.func169 (by kernel_rfl)).trans (Zb8 _ x0 x1)
noncomputable def ZdF (Γ : Ze) (x0 x1 : Value) : M Value:=
 bind (Γ Wt [x0,x1]) fun y1=>
 ret y1
theorem Zl8 (Γ : Ze) (x0 x1 : Value) : Zy Tryz.prog Γ Tryz.f172 Zfv [x0,x1]=ZdF Γ x0 x1:=by kernel_rfl
theorem Zle {prim : FuncId→Option (List Value→M Value)} (hp : prim JB=none) (n : Nat) (x0 x1 : Value) : run Tryz.prog prim lvs (n+1) JB [x0,x1]=ZdF (run Tryz.prog prim lvs n) x0 x1:=
 (Zl hp (by kernel_rfl) Tryz.func172 (by kernel_rfl)).trans (Zl8 _ x0 x1)
noncomputable def Q2 (Γ : Ze) (x0 : Value) : M Value:=
 bind (alc 1 x0) fun y1=>
 ret (Value.func (.func 204) #[] #[y1])
theorem KT (Γ : Ze) (x0 : Value) : Zy Tryz.prog Γ Tryz.f174 J4 [x0]=Q2 Γ x0:=by kernel_rfl
theorem KM {prim : FuncId→Option (List Value→M Value)} (hp : prim Qq=none) (n : Nat) (x0 : Value) : run Tryz.prog prim lvs (n+1) Qq [x0]=Q2 (run Tryz.prog prim lvs n) x0:=
 (Zl hp (by kernel_rfl) Tryz.func174 (by kernel_rfl)).trans (KT _ x0)
noncomputable def Jp.l1 (Γ : Ze) (s5 s6 s7 : Value) : M Out:=
 bind (bop .int .lss s7 s6) fun y2=>
 cnd y2
 (bind (ixa 1 s5 s7) fun y3=>
 bind (ld1 y3) fun y4=>
 bind (bop .int .neq y4 (Value.int .i64 0)) fun y5=>
 cnd y5
 (ret (.ret y4))
 (bind (bop .int .add s7 (Value.int .i64 1)) fun y6=>
 ret (.nrm [s5,s6,y6])))
 (ret (.ext 0 []))
noncomputable def Jp (Γ : Ze) (x0 : Value) : M Value:=
 bind (ZC x0) fun y1=>
 jn (Zk (c3 (Jp.l1 Γ)) [x0,y1,(Value.int .i64 0)]) noN (xk 0 (c0 (ret (Value.int .i64 0))) noX) ret
theorem Zo9 (Γ : Ze) (x0 : Value) : Zy Tryz.prog Γ Tryz.f175 Zhd [x0]=Jp Γ x0:=by kernel_rfl
theorem ZnA {prim : FuncId→Option (List Value→M Value)} (hp : prim WE=none) (n : Nat) (x0 : Value) : run Tryz.prog prim lvs (n+1) WE [x0]=Jp (run Tryz.prog prim lvs n) x0:=
 (Zl hp (by kernel_rfl) Tryz.func175 (by kernel_rfl)).trans (Zo9 _ x0)
noncomputable def Zcb (Γ : Ze) (x0 : Value) : M Value:=
 bind (bop .str .eql x0 (Value.string ⟨#[]⟩)) fun y1=>
 cnd y1
 (ret (Value.int .i64 0))
 (bind (Γ Zbd [x0]) fun y2=>
 bind (ZE y2 0) fun y3=>
 bind (ZE y2 1) fun y4=>
 bind (bop .int .neq y4 (Value.int .i64 0)) fun y5=>
 bind (ZU y5 false 3 (bind (bop .str .neq y3 x0) fun y6=>
 ret [y3,x0,y6])) (c3 fun _ _ q7_2=>
 bind (pick y5 (Value.bool true) q7_2) fun y8=>
 cnd y8
 (ret (Value.int .i64 11))
 (ret (Value.int .i64 0))))
theorem Zp7 (Γ : Ze) (x0 : Value) : Zy Tryz.prog Γ Tryz.f176 ZjO [x0]=Zcb Γ x0:=by kernel_rfl
theorem Zog {prim : FuncId→Option (List Value→M Value)} (hp : prim Zcm=none) (n : Nat) (x0 : Value) : run Tryz.prog prim lvs (n+1) Zcm [x0]=Zcb (run Tryz.prog prim lvs n) x0:=
 (Zl hp (by kernel_rfl) Tryz.func176 (by kernel_rfl)).trans (Zp7 _ x0)
noncomputable def Q6.l1 (Γ : Ze) (s0 s10 s11 s12 : Value) : M Out:=
 bind (bop .int .lss s12 s11) fun y4=>
 cnd y4
 (bind (ixa 1 s10 s12) fun y5=>
 bind (ld1 y5) fun y6=>
 bind (Γ JU [y6]) fun y7=>
 bind (bop .int .neq y7 (Value.int .i64 0)) fun y8=>
 cnd y8
 (ret (.ret y7))
 (bind (bop .int .add s12 (Value.int .i64 1)) fun y9=>
 ret (.nrm [s0,s10,s11,y9])))
 (ret (.ext 0 [s0]))
noncomputable def Q6.l2 (Γ : Ze) (s0 s6 : Value) : M Out:=
 bind (ZC s0) fun y12=>
 bind (bop .int .lss s6 y12) fun y13=>
 cnd y13
 (bind (bop .int .sub s6 (Value.int .i64 1)) fun y14=>
 bind (ixa 1 s0 y14) fun y15=>
 bind (ld1 y15) fun y16=>
 bind (ixa 1 s0 s6) fun y17=>
 bind (ld1 y17) fun y18=>
 bind (bop .str .geq y16 y18) fun y19=>
 cnd y19
 (ret (.ret (Value.int .i64 9)))
 (bind (bop .int .add s6 (Value.int .i64 1)) fun y20=>
 ret (.nrm [s0,y20])))
 (ret (.ext 2 []))
noncomputable def Q6 (Γ : Ze) (x0 : Value) : M Value:=
 bind (ZC x0) fun y1=>
 bind (bop .int .gtr y1 (Value.int .i64 6)) fun y2=>
 cnd y2
 (ret (Value.int .i64 7))
 (bind (ZC x0) fun y3=>
 jn (Zk (c4 (Q6.l1 Γ)) [x0,x0,y3,(Value.int .i64 0)]) noN (xk 0 (c1 fun q11_0=>
 jn (Zk (c2 (Q6.l2 Γ)) [q11_0,(Value.int .i64 1)]) noN (xk 2 (c0 (ret (Value.int .i64 0))) noX) ret) noX) ret)
theorem Znf (Γ : Ze) (x0 : Value) : Zy Tryz.prog Γ Tryz.f177 ZgN [x0]=Q6 Γ x0:=by kernel_rfl
theorem ZmG {prim : FuncId→Option (List Value→M Value)} (hp : prim Za3=none) (n : Nat) (x0 : Value) : run Tryz.prog prim lvs (n+1) Za3 [x0]=Q6 (run Tryz.prog prim lvs n) x0:=
 (Zl hp (by kernel_rfl) Tryz.func177 (by kernel_rfl)).trans (Znf _ x0)
noncomputable def ZaI (Γ : Ze) (x0 : Value) : M Value:=
 bind (bop .str .eql x0 (Value.string ⟨#[]⟩)) fun y1=>
 bind (ZU y1 false 3 (bind (Yi x0) fun y2=>
 bind (bop .int .gtr y2 (Value.int .i64 12)) fun y3=>
 ret [x0,y2,y3])) (c3 fun _ _ q4_2=>
 bind (pick y1 (Value.bool true) q4_2) fun y5=>
 bind (ZU y5 false 4 (bind (ixs x0 (Value.int .i64 0)) fun y6=>
 bind (Γ Yg [y6]) fun y7=>
 bind (uop .not y7) fun y8=>
 ret [x0,y6,y7,y8])) (c4 fun _ _ _ q9_3=>
 bind (pick y5 (Value.bool true) q9_3) fun y10=>
 bind (ZU y10 false 3 (bind (Γ Kf [x0,(Value.func (.func 168) #[] #[])]) fun y11=>
 bind (uop .not y11) fun y12=>
 ret [x0,y11,y12])) (c3 fun _ _ q13_2=>
 bind (pick y10 (Value.bool true) q13_2) fun y14=>
 cnd y14
 (ret (Value.bool false))
 (bind (Yi x0) fun y15=>
 bind (bop .int .sub y15 (Value.int .i64 1)) fun y16=>
 bind (ixs x0 y16) fun y17=>
 bind (Γ Yg [y17]) fun y18=>
 bind (ZU y18 false 2 (bind (Γ Yw [y17]) fun y19=>
 ret [y17,y19])) (c2 fun _ q20_1=>
 bind (pick y18 (Value.bool true) q20_1) fun y21=>
 ret y21)))))
theorem ZnO (Γ : Ze) (x0 : Value) : Zy Tryz.prog Γ Tryz.f178 ZgD [x0]=ZaI Γ x0:=by kernel_rfl
theorem ZlS {prim : FuncId→Option (List Value→M Value)} (hp : prim Wc=none) (n : Nat) (x0 : Value) : run Tryz.prog prim lvs (n+1) Wc [x0]=ZaI (run Tryz.prog prim lvs n) x0:=
 (Zl hp (by kernel_rfl) Tryz.func178 (by kernel_rfl)).trans (ZnO _ x0)
noncomputable def YY.l1 (Γ : Ze) (s6 s7 s8 : Value) : M Out:=
 bind (bop .int .lss s8 s7) fun y2=>
 cnd y2
 (bind (ixa 1 s6 s8) fun y3=>
 bind (ld1 y3) fun y4=>
 bind (Γ JU [y4]) fun y5=>
 bind (bop .int .neq y5 (Value.int .i64 0)) fun y6=>
 cnd y6
 (ret (.ret y5))
 (bind (bop .int .add s8 (Value.int .i64 1)) fun y7=>
 ret (.nrm [s6,s7,y7])))
 (ret (.ext 0 []))
noncomputable def YY (Γ : Ze) (x0 : Value) : M Value:=
 bind (ZC x0) fun y1=>
 jn (Zk (c3 (YY.l1 Γ)) [x0,y1,(Value.int .i64 0)]) noN (xk 0 (c0 (ret (Value.int .i64 0))) noX) ret
theorem Zni (Γ : Ze) (x0 : Value) : Zy Tryz.prog Γ Tryz.f179 ZgH [x0]=YY Γ x0:=by kernel_rfl
theorem ZmE {prim : FuncId→Option (List Value→M Value)} (hp : prim ZaZ=none) (n : Nat) (x0 : Value) : run Tryz.prog prim lvs (n+1) ZaZ [x0]=YY (run Tryz.prog prim lvs n) x0:=
 (Zl hp (by kernel_rfl) Tryz.func179 (by kernel_rfl)).trans (Zni _ x0)
noncomputable def Kt.l1 (Γ : Ze) (s3 s8 s9 s10 : Value) : M Out:=
 bind (bop .int .lss s10 s9) fun y3=>
 cnd y3
 (bind (ixa 1 s8 s10) fun y4=>
 bind (ld1 y4) fun y5=>
 bind (bop .int .geq y5 (Value.int .u8 65)) fun y6=>
 bind (ZU y6 true 2 (bind (bop .int .leq y5 (Value.int .u8 90)) fun y7=>
 ret [y5,y7])) (c2 fun _ q8_1=>
 bind (pick y6 q8_1 (Value.bool false)) fun y9=>
 jn (cnd y9
 (bind (bop .int .add y5 (Value.int .u8 97)) fun y10=>
 bind (bop .int .sub y10 (Value.int .u8 65)) fun y11=>
 bind (ixa 1 s3 s10) fun y12=>
 bind (st1 y12 y11) fun _=>
 ret (.nrm [s3,s8,s9,s10]))
 (ret (.nrm [s3,s8,s9,s10]))) (c4 fun q13_0 q13_1 q13_2 q13_3=>
 bind (bop .int .add q13_3 (Value.int .i64 1)) fun y14=>
 ret (.nrm [q13_0,q13_1,q13_2,y14])) noX Q5))
 (ret (.ext 0 [s3]))
noncomputable def Kt (Γ : Ze) (x0 : Value) : M Value:=
 bind (s2b x0) fun y1=>
 bind (ZC y1) fun y2=>
 jn (Zk (c4 (Kt.l1 Γ)) [y1,y1,y2,(Value.int .i64 0)]) noN (xk 0 (c1 fun q17_0=>
 bind (b2s q17_0) fun y18=>
 ret y18) noX) ret
theorem Zqe (Γ : Ze) (x0 : Value) : Zy Tryz.prog Γ Tryz.f180 ZjA [x0]=Kt Γ x0:=by kernel_rfl
theorem Zn9 {prim : FuncId→Option (List Value→M Value)} (hp : prim Zcz=none) (n : Nat) (x0 : Value) : run Tryz.prog prim lvs (n+1) Zcz [x0]=Kt (run Tryz.prog prim lvs n) x0:=
 (Zl hp (by kernel_rfl) Tryz.func180 (by kernel_rfl)).trans (Zqe _ x0)
noncomputable def Zew (Γ : Ze) (x0 x1 : Value) : M Value:=
 bind (Γ YZ [x0,x1]) fun y1=>
 bind (ZE y1 0) fun y2=>
 bind (ZE y1 1) fun y3=>
 bind (ZE y1 2) fun y4=>
 ret (Value.tuple #[y2,y3,y4])
theorem Znz (Γ : Ze) (x0 x1 : Value) : Zy Tryz.prog Γ Tryz.f181 ZgO [x0,x1]=Zew Γ x0 x1:=by kernel_rfl
theorem Zmv {prim : FuncId→Option (List Value→M Value)} (hp : prim We=none) (n : Nat) (x0 x1 : Value) : run Tryz.prog prim lvs (n+1) We [x0,x1]=Zew (run Tryz.prog prim lvs n) x0 x1:=
 (Zl hp (by kernel_rfl) Tryz.func181 (by kernel_rfl)).trans (Znz _ x0 x1)
noncomputable def ZcS (Γ : Ze) (x0 x1 : Value) : M Value:=
 bind (Γ WO [x0,x1,(Value.int .i64 0),(Value.int .i64 (-1))]) fun y1=>
 ret y1
theorem ZkA (Γ : Ze) (x0 x1 : Value) : Zy Tryz.prog Γ Tryz.f182 Ze6 [x0,x1]=ZcS Γ x0 x1:=by kernel_rfl
theorem Zkr {prim : FuncId→Option (List Value→M Value)} (hp : prim WX=none) (n : Nat) (x0 x1 : Value) : run Tryz.prog prim lvs (n+1) WX [x0,x1]=ZcS (run Tryz.prog prim lvs n) x0 x1:=
 (Zl hp (by kernel_rfl) Tryz.func182 (by kernel_rfl)).trans (ZkA _ x0 x1)
noncomputable def Zfa (Γ : Ze) (x0 : Value) : M Value:=
 bind (Γ Yg [x0]) fun y1=>
 bind (ZU y1 false 2 (bind (Γ Yw [x0]) fun y2=>
 ret [x0,y2])) (c2 fun _ q3_1=>
 bind (pick y1 (Value.bool true) q3_1) fun y4=>
 ret y4)
theorem Zom (Γ : Ze) (x0 : Value) : Zy Tryz.prog Γ Tryz.f183 Zhl [x0]=Zfa Γ x0:=by kernel_rfl
theorem ZnG {prim : FuncId→Option (List Value→M Value)} (hp : prim Zbt=none) (n : Nat) (x0 : Value) : run Tryz.prog prim lvs (n+1) Zbt [x0]=Zfa (run Tryz.prog prim lvs n) x0:=
 (Zl hp (by kernel_rfl) Tryz.func183 (by kernel_rfl)).trans (Zom _ x0)
noncomputable def Za1 (Γ : Ze) (x0 : Value) : M Value:=
 bind (bop .int .geq x0 (Value.int .u8 97)) fun y1=>
 bind (ZU y1 true 2 (bind (bop .int .leq x0 (Value.int .u8 122)) fun y2=>
 ret [x0,y2])) (c2 fun _ q3_1=>
 bind (pick y1 q3_1 (Value.bool false)) fun y4=>
 ret y4)
theorem Znw (Γ : Ze) (x0 : Value) : Zy Tryz.prog Γ Tryz.f184 ZgI [x0]=Za1 Γ x0:=by kernel_rfl
theorem ZlW {prim : FuncId→Option (List Value→M Value)} (hp : prim Yg=none) (n : Nat) (x0 : Value) : run Tryz.prog prim lvs (n+1) Yg [x0]=Za1 (run Tryz.prog prim lvs n) x0:=
 (Zl hp (by kernel_rfl) Tryz.func184 (by kernel_rfl)).trans (Znw _ x0)
noncomputable def Zbz (Γ : Ze) (x0 : Value) : M Value:=
 bind (bop .int .geq x0 (Value.int .u8 48)) fun y1=>
 bind (ZU y1 true 2 (bind (bop .int .leq x0 (Value.int .u8 57)) fun y2=>
 ret [x0,y2])) (c2 fun _ q3_1=>
 bind (pick y1 q3_1 (Value.bool false)) fun y4=>
 ret y4)
theorem Zpi (Γ : Ze) (x0 : Value) : Zy Tryz.prog Γ Tryz.f185 ZhO [x0]=Zbz Γ x0:=by kernel_rfl
theorem ZnD {prim : FuncId→Option (List Value→M Value)} (hp : prim Yw=none) (n : Nat) (x0 : Value) : run Tryz.prog prim lvs (n+1) Yw [x0]=Zbz (run Tryz.prog prim lvs n) x0:=
 (Zl hp (by kernel_rfl) Tryz.func185 (by kernel_rfl)).trans (Zpi _ x0)
noncomputable def WW (Γ : Ze) (x0 : Value) : M Value:=
 bind (Γ QT [x0]) fun y1=>
 bind (Γ JI [y1,(Value.func (.func 172) #[] #[])]) fun y2=>
 ret y2
theorem Ze9 (Γ : Ze) (x0 : Value) : Zy Tryz.prog Γ Tryz.f186 ZbA [x0]=WW Γ x0:=by kernel_rfl
theorem ZeL {prim : FuncId→Option (List Value→M Value)} (hp : prim KH=none) (n : Nat) (x0 : Value) : run Tryz.prog prim lvs (n+1) KH [x0]=WW (run Tryz.prog prim lvs n) x0:=
 (Zl hp (by kernel_rfl) Tryz.func186 (by kernel_rfl)).trans (Ze9 _ x0)
noncomputable def KN (Γ : Ze) (x0 x1 : Value) : M Value:=
 bind (Jg x0) fun y1=>
 bind (fa 0 y1) fun y2=>
 bind (ld1 y2) fun y3=>
 bind (ZC y3) fun y4=>
 bind (bop .int .gtr x1 y4) fun y5=>
 cnd y5
 (bind (Γ ZX [x0,(Value.int .i64 2)]) fun y6=>
 ret (Value.slice none 0 0))
 (bind (Jg x0) fun y7=>
 bind (fa 0 y7) fun y8=>
 bind (ld1 y8) fun y9=>
 bind (slv 1 y9 none (some x1) none) fun y10=>
 bind (Jg x0) fun y11=>
 bind (fa 0 y11) fun y12=>
 bind (ld1 y12) fun y13=>
 bind (slv 1 y13 (some x1) none none) fun y14=>
 bind (Jg x0) fun y15=>
 bind (fa 0 y15) fun y16=>
 bind (st1 y16 y14) fun _=>
 ret y10)
theorem Ziw (Γ : Ze) (x0 x1 : Value) : Zy Tryz.prog Γ Tryz.f187 Zdu [x0,x1]=KN Γ x0 x1:=by kernel_rfl
theorem ZgY {prim : FuncId→Option (List Value→M Value)} (hp : prim Yq=none) (n : Nat) (x0 x1 : Value) : run Tryz.prog prim lvs (n+1) Yq [x0,x1]=KN (run Tryz.prog prim lvs n) x0 x1:=
 (Zl hp (by kernel_rfl) Tryz.func187 (by kernel_rfl)).trans (Ziw _ x0 x1)
noncomputable def KZ.l1 (Γ : Ze) (s0 s1 s5 : Value) : M Out:=
 bind (Yi s0) fun y1=>
 bind (bop .int .lss s5 y1) fun y2=>
 cnd y2
 (bind (ixs s0 s5) fun y3=>
 bind (Γ KX [y3,s1]) fun y4=>
 bind (uop .not y4) fun y5=>
 cnd y5
 (ret (.ret (Value.bool false)))
 (bind (bop .int .add s5 (Value.int .i64 1)) fun y6=>
 ret (.nrm [s0,s1,y6])))
 (ret (.ext 0 []))
noncomputable def KZ (Γ : Ze) (x0 x1 : Value) : M Value:=
 jn (Zk (c3 (KZ.l1 Γ)) [x0,x1,(Value.int .i64 0)]) noN (xk 0 (c0 (ret (Value.bool true))) noX) ret
theorem ZrA (Γ : Ze) (x0 x1 : Value) : Zy Tryz.prog Γ Tryz.f188 ZkN [x0,x1]=KZ Γ x0 x1:=by kernel_rfl
theorem Zp8 {prim : FuncId→Option (List Value→M Value)} (hp : prim ZaW=none) (n : Nat) (x0 x1 : Value) : run Tryz.prog prim lvs (n+1) ZaW [x0,x1]=KZ (run Tryz.prog prim lvs n) x0 x1:=
 (Zl hp (by kernel_rfl) Tryz.func188 (by kernel_rfl)).trans (ZrA _ x0 x1)
noncomputable def K1.l1 (Γ : Ze) (s0 s1 s5 : Value) : M Out:=
 bind (Yi s1) fun y1=>
 bind (bop .int .lss s5 y1) fun y2=>
 cnd y2
 (bind (ixs s1 s5) fun y3=>
 bind (bop .int .eql y3 s0) fun y4=>
 cnd y4
 (ret (.ret (Value.bool true)))
 (bind (bop .int .add s5 (Value.int .i64 1)) fun y5=>
 ret (.nrm [s0,s1,y5])))
 (ret (.ext 0 []))
noncomputable def K1 (Γ : Ze) (x0 x1 : Value) : M Value:=
 jn (Zk (c3 (K1.l1 Γ)) [x0,x1,(Value.int .i64 0)]) noN (xk 0 (c0 (ret (Value.bool false))) noX) ret
theorem ZrH (Γ : Ze) (x0 x1 : Value) : Zy Tryz.prog Γ Tryz.f189 Zlc [x0,x1]=K1 Γ x0 x1:=by kernel_rfl
theorem Zp0 {prim : FuncId→Option (List Value→M Value)} (hp : prim KX=none) (n : Nat) (x0 x1 : Value) : run Tryz.prog prim lvs (n+1) KX [x0,x1]=K1 (run Tryz.prog prim lvs n) x0 x1:=
 (Zl hp (by kernel_rfl) Tryz.func189 (by kernel_rfl)).trans (ZrH _ x0 x1)
noncomputable def Zas (Γ : Ze) (x0 : Value) : M Value:=
 bind (Γ Yw [x0]) fun y1=>
 bind (ZU y1 false 3 (bind (bop .int .geq x0 (Value.int .u8 97)) fun y2=>
 ret [x0,y2,y2])) (c3 fun _ _ q3_2=>
 bind (ZU q3_2 true 2 (bind (bop .int .leq x0 (Value.int .u8 102)) fun y4=>
 ret [x0,y4])) (c2 fun _ q5_1=>
 bind (ZU y1 false 1 (bind (pick q3_2 q5_1 (Value.bool false)) fun y6=>
 ret [y6])) (c1 fun q7_0=>
 bind (pick y1 (Value.bool true) q7_0) fun y8=>
 ret y8)))
theorem ZoO (Γ : Ze) (x0 : Value) : Zy Tryz.prog Γ Tryz.f191 ZhQ [x0]=Zas Γ x0:=by kernel_rfl
theorem ZnI {prim : FuncId→Option (List Value→M Value)} (hp : prim Zby=none) (n : Nat) (x0 : Value) : run Tryz.prog prim lvs (n+1) Zby [x0]=Zas (run Tryz.prog prim lvs n) x0:=
 (Zl hp (by kernel_rfl) Tryz.func191 (by kernel_rfl)).trans (ZoO _ x0)
noncomputable def Je.l2 (Γ : Ze) (s0 s3 s4 s5 s6 s19 : Value) : M Out:=
 bind (bop .int .lss s19 (Value.int .i64 26)) fun y5=>
 cnd y5
 (bind (ixs s0 s5) fun y6=>
 bind (ixs s3 s19) fun y7=>
 bind (bop .int .eql y6 y7) fun y8=>
 jn (cnd y8
 (bind (bop .int .add s19 (Value.int .i64 1)) fun y9=>
 bind (sls (Value.string ⟨#[97,98,99,100,101,102,103,104,105,106,107,108,109,110,111,112,113,114,115,116,117,118,119,120,121,122]⟩) (some s19) (some y9)) fun y10=>
 ret (.nrm [s0,s3,s4,s5,y10,s19]))
 (ret (.nrm [s0,s3,s4,s5,s6,s19]))) (c6 fun q11_0 q11_1 q11_2 q11_3 q11_4 q11_5=>
 bind (bop .int .add q11_5 (Value.int .i64 1)) fun y12=>
 ret (.nrm [q11_0,q11_1,q11_2,q11_3,q11_4,y12])) noX Q5)
 (ret (.ext 2 [s0,s3,s4,s5,s6]))
noncomputable def Je.l1 (Γ : Ze) (s0 s3 s4 s5 : Value) : M Out:=
 bind (Yi s0) fun y1=>
 bind (bop .int .lss s5 y1) fun y2=>
 cnd y2
 (bind (bop .int .add s5 (Value.int .i64 1)) fun y3=>
 bind (sls s0 (some s5) (some y3)) fun y4=>
 jn (Zk (c6 (Je.l2 Γ)) [s0,s3,s4,s5,y4,(Value.int .i64 0)]) noN (xk 2 (c5 fun q15_0 q15_1 q15_2 q15_3 q15_4=>
 bind (bop .str .add q15_2 q15_4) fun y16=>
 bind (bop .int .add q15_3 (Value.int .i64 1)) fun y17=>
 ret (.nrm [q15_0,q15_1,y16,y17])) noX) Q5)
 (ret (.ext 0 [s4]))
noncomputable def Je (Γ : Ze) (x0 : Value) : M Value:=
 jn (Zk (c4 (Je.l1 Γ)) [x0,(Value.string ⟨#[65,66,67,68,69,70,71,72,73,74,75,76,77,78,79,80,81,82,83,84,85,86,87,88,89,90]⟩),(Value.string ⟨#[]⟩),(Value.int .i64 0)]) noN (xk 0 (c1 fun q20_0=>
 ret q20_0) noX) ret
theorem Zo3 (Γ : Ze) (x0 : Value) : Zy Tryz.prog Γ Tryz.f192 ZiA [x0]=Je Γ x0:=by kernel_rfl
theorem ZnP {prim : FuncId→Option (List Value→M Value)} (hp : prim Zbq=none) (n : Nat) (x0 : Value) : run Tryz.prog prim lvs (n+1) Zbq [x0]=Je (run Tryz.prog prim lvs n) x0:=
 (Zl hp (by kernel_rfl) Tryz.func192 (by kernel_rfl)).trans (Zo3 _ x0)
noncomputable def Kq (Γ : Ze) (x0 x1 : Value) : M Value:=
 bind (ZC x0) fun y1=>
 bind (cvi .u64 y1) fun y2=>
 bind (Γ ZbB [y2]) fun y3=>
 bind (Γ QB [x0,(Value.int .i64 0),y1,y3,x1]) fun y4=>
 ret (Value.tuple #[])
theorem ZcF (Γ : Ze) (x0 x1 : Value) : Zy Tryz.prog Γ Tryz.f201 WI [x0,x1]=Kq Γ x0 x1:=by kernel_rfl
theorem ZcA {prim : FuncId→Option (List Value→M Value)} (hp : prim Ko=none) (n : Nat) (x0 x1 : Value) : run Tryz.prog prim lvs (n+1) Ko [x0,x1]=Kq (run Tryz.prog prim lvs n) x0 x1:=
 (Zl hp (by kernel_rfl) Tryz.func201 (by kernel_rfl)).trans (ZcF _ x0 x1)
noncomputable def ZaV (Γ : Ze) (x0 x1 : Value) : M Value:=
 bind (Γ YK [x0]) fun y1=>
 bind (Γ YK [x1]) fun y2=>
 cnd y1
 (cnd y2
 (ret (Value.int .i64 0))
 (ret (Value.int .i64 (-1))))
 (cnd y2
 (ret (Value.int .i64 1))
 (bind (bop .str .lss x0 x1) fun y3=>
 cnd y3
 (ret (Value.int .i64 (-1)))
 (bind (bop .str .gtr x0 x1) fun y4=>
 cnd y4
 (ret (Value.int .i64 1))
 (ret (Value.int .i64 0)))))
theorem Zha (Γ : Ze) (x0 x1 : Value) : Zy Tryz.prog Γ Tryz.f203 ZcJ [x0,x1]=ZaV Γ x0 x1:=by kernel_rfl
theorem Zgt {prim : FuncId→Option (List Value→M Value)} (hp : prim Wt=none) (n : Nat) (x0 x1 : Value) : run Tryz.prog prim lvs (n+1) Wt [x0,x1]=ZaV (run Tryz.prog prim lvs n) x0 x1:=
 (Zl hp (by kernel_rfl) Tryz.func203 (by kernel_rfl)).trans (Zha _ x0 x1)
noncomputable def Wb (Γ : Ze) (x0 x1 : Value) : M Value:=
 bind (Γ QP [x0,x1]) fun y1=>
 bind (bop .int .geq y1 (Value.int .i64 0)) fun y2=>
 cnd y2
 (bind (sls x0 none (some y1)) fun y3=>
 bind (Yi x1) fun y4=>
 bind (bop .int .add y1 y4) fun y5=>
 bind (sls x0 (some y5) none) fun y6=>
 ret (Value.tuple #[y3,y6,(Value.bool true)]))
 (ret (Value.tuple #[x0,(Value.string ⟨#[]⟩),(Value.bool false)]))
theorem ZdY (Γ : Ze) (x0 x1 : Value) : Zy Tryz.prog Γ Tryz.f205 ZaC [x0,x1]=Wb Γ x0 x1:=by kernel_rfl
theorem ZdD {prim : FuncId→Option (List Value→M Value)} (hp : prim YZ=none) (n : Nat) (x0 x1 : Value) : run Tryz.prog prim lvs (n+1) YZ [x0,x1]=Wb (run Tryz.prog prim lvs n) x0 x1:=
 (Zl hp (by kernel_rfl) Tryz.func205 (by kernel_rfl)).trans (ZdY _ x0 x1)
noncomputable def Jx.l1 (Γ : Ze) (s0 s1 s2 s3 s9 s10 : Value) : M Out:=
 bind (bop .int .lss s10 s3) fun y13=>
 cnd y13
 (bind (Γ K2 [s0,s1]) fun y14=>
 bind (bop .int .lss y14 (Value.int .i64 0)) fun y15=>
 cnd y15
 (ret (.ext 0 [s0,s9,s10]))
 (bind (bop .int .add y14 s2) fun y16=>
 bind (sls s0 none (some y16)) fun y17=>
 bind (ixa 1 s9 s10) fun y18=>
 bind (st1 y18 y17) fun _=>
 bind (Yi s1) fun y19=>
 bind (bop .int .add y14 y19) fun y20=>
 bind (sls s0 (some y20) none) fun y21=>
 bind (bop .int .add s10 (Value.int .i64 1)) fun y22=>
 ret (.nrm [y21,s1,s2,s3,s9,y22])))
 (ret (.ext 0 [s0,s9,s10]))
noncomputable def Jx (Γ : Ze) (x0 x1 x2 x3 : Value) : M Value:=
 bind (bop .int .eql x3 (Value.int .i64 0)) fun y1=>
 cnd y1
 (ret (Value.slice none 0 0))
 (bind (bop .str .eql x1 (Value.string ⟨#[]⟩)) fun y2=>
 cnd y2
 (bind (Γ Zkl [x0,x3]) fun y3=>
 ret y3)
 (bind (bop .int .lss x3 (Value.int .i64 0)) fun y4=>
 jn (cnd y4
 (bind (Γ WS [x0,x1]) fun y5=>
 bind (bop .int .add y5 (Value.int .i64 1)) fun y6=>
 ret (.nrm [x0,x1,x2,y6]))
 (ret (.nrm [x0,x1,x2,x3]))) (c4 fun q7_0 q7_1 q7_2 q7_3=>
 bind (Yi q7_0) fun y8=>
 bind (bop .int .add y8 (Value.int .i64 1)) fun y9=>
 bind (mxi false q7_3 y9) fun y10=>
 bind (mks 1 16 (.string ⟨#[]⟩) y10 y10) fun y11=>
 bind (bop .int .sub y10 (Value.int .i64 1)) fun y12=>
 jn (jn (Zk (c6 (Jx.l1 Γ)) [q7_0,q7_1,q7_2,y12,y11,(Value.int .i64 0)]) noN (xk 0 (c3 fun q24_0 q24_1 q24_2=>
 ret (.nrm [q24_0,q24_1,q24_2])) noX) Q5) (c3 fun q26_0 q26_1 q26_2=>
 bind (ixa 1 q26_1 q26_2) fun y27=>
 bind (st1 y27 q26_0) fun _=>
 bind (bop .int .add q26_2 (Value.int .i64 1)) fun y28=>
 bind (slv 1 q26_1 none (some y28) none) fun y29=>
 ret y29) noX ret) noX ret))
theorem Zh2 (Γ : Ze) (x0 x1 x2 x3 : Value) : Zy Tryz.prog Γ Tryz.f206 Zdt [x0,x1,x2,x3]=Jx Γ x0 x1 x2 x3:=by kernel_rfl
theorem ZgZ {prim : FuncId→Option (List Value→M Value)} (hp : prim WO=none) (n : Nat) (x0 x1 x2 x3 : Value) : run Tryz.prog prim lvs (n+1) WO [x0,x1,x2,x3]=Jx (run Tryz.prog prim lvs n) x0 x1 x2 x3:=
 (Zl hp (by kernel_rfl) Tryz.func206 (by kernel_rfl)).trans (Zh2 _ x0 x1 x2 x3)
noncomputable def JP (Γ : Ze) (x0 : Value) : M Value:=
 bind (alc 1 x0) fun y1=>
 ret (Value.func (.func 216) #[] #[y1])
theorem WU (Γ : Ze) (x0 : Value) : Zy Tryz.prog Γ Tryz.f207 YO [x0]=JP Γ x0:=by kernel_rfl
theorem WJ {prim : FuncId→Option (List Value→M Value)} (hp : prim QT=none) (n : Nat) (x0 : Value) : run Tryz.prog prim lvs (n+1) QT [x0]=JP (run Tryz.prog prim lvs n) x0:=
 (Zl hp (by kernel_rfl) Tryz.func207 (by kernel_rfl)).trans (WU _ x0)
noncomputable abbrev WH.o1 (s2 : Value) (st : LoopState) (pd : Option Code) : Zd:=.loop Tryz.f208 Y6 26 [0] (Zwo Tryz.f208 26) [(2,s2)] st pd
noncomputable def WH.r1 (Γ : Ze) (L : Nat) (s2 : Value) (a0 : Value) : M Value:=
 Zt0 L (
 bind (ld1 s2) fun y2=>
 bind (bsl 1 1 (.string ⟨#[]⟩) [(0,1,a0)]) fun y3=>
 bind (app 1 16 y2 y3) fun y4=>
 bind (st1 s2 y4) fun _=>
 Zmf L none)
noncomputable def WH (Γ : Ze) (x0 x1 : Value) : M Value:=
 bind (alc 1 x0) fun y1=>
 Zig (ZnZ Tryz.prog) Γ x1 Tryz.f208 Y6 26 [0] (Zwo Tryz.f208 26) [(2,y1)] fun pd_5=>
 (match pd_5 with
 | none=>bind (ld1 y1) fun y6=>
 ret y6
 | some (.exit j_5)=>fail
 | some .ret=>ret (Value.slice none 0 0)
 | _=>fail)
noncomputable def Q1.l1 (Γ : Ze) (s0 s1 s2 s3 s4 s10 s11 : Value) : M Out:=
 jn (bind (bop .int .sub s2 s1) fun y1=>
 bind (bop .int .leq y1 (Value.int .i64 12)) fun y2=>
 cnd y2
 (bind (Γ QW [s0,s1,s2,s4]) fun y3=>
 ret (.ret (Value.tuple #[])))
 (bind (bop .int .eql s3 (Value.int .i64 0)) fun y4=>
 cnd y4
 (bind (Γ ZcG [s0,s1,s2,s4]) fun y5=>
 ret (.ret (Value.tuple #[])))
 (bind (uop .not s10) fun y6=>
 jn (cnd y6
 (bind (Γ Zbi [s0,s1,s2,s4]) fun y7=>
 bind (bop .int .sub s3 (Value.int .i64 1)) fun y8=>
 ret (.nrm [s0,s1,s2,y8,s4,s10,s11,y1]))
 (ret (.nrm [s0,s1,s2,s3,s4,s10,s11,y1]))) (c8 fun q9_0 q9_1 q9_2 q9_3 q9_4 q9_5 q9_6 q9_7=>
 bind (Γ ZbM [q9_0,q9_1,q9_2,q9_4]) fun y10=>
 bind (ZE y10 0) fun y11=>
 bind (ZE y10 1) fun y12=>
 bind (bop .int .eql y12 (Value.int .i64 2)) fun y13=>
 jn (cnd y13
 (bind (Γ Zbs [q9_0,q9_1,q9_2,q9_4]) fun y14=>
 bind (bop .int .sub q9_2 (Value.int .i64 1)) fun y15=>
 bind (bop .int .sub y11 q9_1) fun y16=>
 bind (bop .int .sub y15 y16) fun y17=>
 ret (.nrm [q9_0,q9_1,q9_2,q9_3,q9_4,q9_5,q9_6,q9_7,y17,(Value.int .i64 1)]))
 (ret (.nrm [q9_0,q9_1,q9_2,q9_3,q9_4,q9_5,q9_6,q9_7,y11,y12]))) (c10 fun q18_0 q18_1 q18_2 q18_3 q18_4 q18_5 q18_6 q18_7 q18_8 q18_9=>
 bind (ZU q18_5 true 1 (ret [q18_6])) (c1 fun q19_0=>
 bind (pick q18_5 q19_0 (Value.bool false)) fun y20=>
 bind (ZU y20 true 2 (bind (bop .int .eql q18_9 (Value.int .i64 1)) fun y21=>
 ret [q18_9,y21])) (c2 fun _ q22_1=>
 bind (pick y20 q22_1 (Value.bool false)) fun y23=>
 jn (cnd y23
 (bind (Γ W4 [q18_0,q18_1,q18_2,q18_4]) fun y24=>
 cnd y24
 (ret (.ret (Value.tuple #[])))
 (ret (.nrm [q18_0,q18_1,q18_2,q18_3,q18_4,q18_5,q18_6,q18_7,q18_8])))
 (ret (.nrm [q18_0,q18_1,q18_2,q18_3,q18_4,q18_5,q18_6,q18_7,q18_8]))) (c9 fun q25_0 q25_1 q25_2 q25_3 q25_4 q25_5 q25_6 q25_7 q25_8=>
 bind (bop .int .gtr q25_1 (Value.int .i64 0)) fun y26=>
 bind (ZF y26 true (ret q25_4)) fun y27=>
 bind (ZF y26 true (ret q25_0)) fun y28=>
 bind (ZF y26 true (ret q25_1)) fun y29=>
 bind (ZF y26 true (bop .int .sub y29 (Value.int .i64 1))) fun y30=>
 bind (ZF y26 true (ixa 1 y28 y30)) fun y31=>
 bind (ZF y26 true (ld1 y31)) fun y32=>
 bind (ZF y26 true (ret q25_0)) fun y33=>
 bind (ZF y26 true (ret q25_8)) fun y34=>
 bind (ZF y26 true (ixa 1 y33 y34)) fun y35=>
 bind (ZF y26 true (ld1 y35)) fun y36=>
 bind (ZF y26 true (YR Γ y27 [y32,y36])) fun y37=>
 bind (ZF y26 true (bop .int .lss y37 (Value.int .i64 0))) fun y38=>
 bind (ZF y26 true (uop .not y38)) fun y39=>
 bind (pick y26 y39 (Value.bool false)) fun y40=>
 cnd y40
 (bind (Γ Zbc [q25_0,q25_1,q25_2,q25_8,q25_4]) fun y41=>
 ret (.nrm [q25_0,y41,q25_2,q25_3,q25_4,q25_5,q25_6]))
 (bind (Γ Zck [q25_0,q25_1,q25_2,q25_8,q25_4]) fun y42=>
 bind (ZE y42 0) fun y43=>
 bind (ZE y42 1) fun y44=>
 bind (bop .int .sub y43 q25_1) fun y45=>
 bind (bop .int .sub q25_2 y43) fun y46=>
 bind (bop .int .quo q25_7 (Value.int .i64 8)) fun y47=>
 bind (bop .int .lss y45 y46) fun y48=>
 jn (cnd y48
 (bind (bop .int .geq y45 y47) fun y49=>
 bind (Γ QB [q25_0,q25_1,y43,q25_3,q25_4]) fun y50=>
 bind (bop .int .add y43 (Value.int .i64 1)) fun y51=>
 ret (.nrm [q25_0,y51,q25_2,q25_3,q25_4,y49,y44]))
 (bind (bop .int .geq y46 y47) fun y52=>
 bind (bop .int .add y43 (Value.int .i64 1)) fun y53=>
 bind (Γ QB [q25_0,y53,q25_2,q25_3,q25_4]) fun y54=>
 ret (.nrm [q25_0,q25_1,y43,q25_3,q25_4,y52,y44]))) (c7 fun q55_0 q55_1 q55_2 q55_3 q55_4 q55_5 q55_6=>
 ret (.nrm [q55_0,q55_1,q55_2,q55_3,q55_4,q55_5,q55_6])) noX Q5)) noX Q5))) noX Q5) noX Q5))) (c7 fun q60_0 q60_1 q60_2 q60_3 q60_4 q60_5 q60_6=>
 ret (.nrm [q60_0,q60_1,q60_2,q60_3,q60_4,q60_5,q60_6])) noX Q5
noncomputable def Q1 (Γ : Ze) (x0 x1 x2 x3 x4 : Value) : M Value:=
 jn (Zk (c7 (Q1.l1 Γ)) [x0,x1,x2,x3,x4,(Value.bool true),(Value.bool true)]) noN noX ret
theorem ZcH (Γ : Ze) (x0 x1 x2 x3 x4 : Value) : Zy Tryz.prog Γ Tryz.f209 WG [x0,x1,x2,x3,x4]=Q1 Γ x0 x1 x2 x3 x4:=by kernel_rfl
theorem Zcf {prim : FuncId→Option (List Value→M Value)} (hp : prim QB=none) (n : Nat) (x0 x1 x2 x3 x4 : Value) : run Tryz.prog prim lvs (n+1) QB [x0,x1,x2,x3,x4]=Q1 (run Tryz.prog prim lvs n) x0 x1 x2 x3 x4:=
 (Zl hp (by kernel_rfl) Tryz.func209 (by kernel_rfl)).trans (ZcH _ x0 x1 x2 x3 x4)
noncomputable def ZdG (Γ : Ze) (x0 : Value) : M Value:=
 cnd (Value.bool false)
 (bind (cvi .u32 x0) fun y1=>
 bind (Γ ZkZ [y1]) fun y2=>
 ret y2)
 (bind (Γ ZaD [x0]) fun y3=>
 ret y3)
theorem ZlU (Γ : Ze) (x0 : Value) : Zy Tryz.prog Γ Tryz.f210 Zft [x0]=ZdG Γ x0:=by kernel_rfl
theorem Zln {prim : FuncId→Option (List Value→M Value)} (hp : prim ZbB=none) (n : Nat) (x0 : Value) : run Tryz.prog prim lvs (n+1) ZbB [x0]=ZdG (run Tryz.prog prim lvs n) x0:=
 (Zl hp (by kernel_rfl) Tryz.func210 (by kernel_rfl)).trans (ZlU _ x0)
noncomputable def ZbO (Γ : Ze) (x0 : Value) : M Value:=
 bind (bop .str .neq x0 x0) fun y1=>
 ret y1
theorem Zi8 (Γ : Ze) (x0 : Value) : Zy Tryz.prog Γ Tryz.f211 ZdQ [x0]=ZbO Γ x0:=by kernel_rfl
theorem ZiC {prim : FuncId→Option (List Value→M Value)} (hp : prim YK=none) (n : Nat) (x0 : Value) : run Tryz.prog prim lvs (n+1) YK [x0]=ZbO (run Tryz.prog prim lvs n) x0:=
 (Zl hp (by kernel_rfl) Tryz.func211 (by kernel_rfl)).trans (Zi8 _ x0)
noncomputable def JZ.l1 (Γ : Ze) (s0 s1 s5 s6 s7 s8 s9 s10 : Value) : M Out:=
 bind (bop .int .lss s8 s9) fun y23=>
 cnd y23
 (bind (ixs s0 s8) fun y24=>
 bind (bop .int .neq y24 s6) fun y25=>
 jn (cnd y25
 (bind (bop .int .add s8 (Value.int .i64 1)) fun y26=>
 bind (sls s0 (some y26) (some s9)) fun y27=>
 bind (Γ Jo [y27,s6]) fun y28=>
 bind (bop .int .lss y28 (Value.int .i64 0)) fun y29=>
 cnd y29
 (ret (.ret (Value.int .i64 (-1))))
 (bind (bop .int .add y28 (Value.int .i64 1)) fun y30=>
 bind (bop .int .add s8 y30) fun y31=>
 ret (.nrm [s0,s1,s5,s6,s7,y31,s9,s10])))
 (ret (.nrm [s0,s1,s5,s6,s7,s8,s9,s10]))) (c8 fun q32_0 q32_1 q32_2 q32_3 q32_4 q32_5 q32_6 q32_7=>
 bind (bop .int .add q32_5 (Value.int .i64 1)) fun y33=>
 bind (ixs q32_0 y33) fun y34=>
 bind (bop .int .eql y34 q32_4) fun y35=>
 bind (ZU y35 true 8 (bind (bop .int .add q32_5 q32_2) fun y36=>
 bind (sls q32_0 (some q32_5) (some y36)) fun y37=>
 bind (bop .str .eql y37 q32_1) fun y38=>
 ret [q32_0,q32_5,q32_5,q32_2,y36,y37,q32_1,y38])) (c8 fun _ _ _ _ _ _ _ q39_7=>
 bind (pick y35 q39_7 (Value.bool false)) fun y40=>
 cnd y40
 (ret (.ret q32_5))
 (bind (bop .int .add q32_5 (Value.int .i64 1)) fun y41=>
 bind (bop .int .add q32_7 (Value.int .i64 1)) fun y42=>
 bind (ld1 (Value.pointer (some ⟨0,0,none⟩))) fun y43=>
 bind (bop .int .leq q32_2 y43) fun y44=>
 bind (ZU y44 true 4 (bind (Γ Zej [y41]) fun y45=>
 bind (bop .int .gtr y42 y45) fun y46=>
 ret [y42,y41,y45,y46])) (c4 fun _ _ _ q47_3=>
 bind (pick y44 q47_3 (Value.bool false)) fun y48=>
 cnd y48
 (bind (sls q32_0 (some y41) none) fun y49=>
 bind (Γ W1 [y49,q32_1]) fun y50=>
 bind (bop .int .geq y50 (Value.int .i64 0)) fun y51=>
 cnd y51
 (bind (bop .int .add y50 y41) fun y52=>
 ret (.ret y52))
 (ret (.ret (Value.int .i64 (-1)))))
 (bind (ld1 (Value.pointer (some ⟨0,0,none⟩))) fun y53=>
 bind (bop .int .gtr q32_2 y53) fun y54=>
 bind (ZU y54 true 5 (bind (bop .int .shr y41 (Value.int .u64 4)) fun y55=>
 bind (bop .int .add (Value.int .i64 4) y55) fun y56=>
 bind (bop .int .geq y42 y56) fun y57=>
 ret [y42,y41,y55,y56,y57])) (c5 fun _ _ _ _ q58_4=>
 bind (pick y54 q58_4 (Value.bool false)) fun y59=>
 bind (ZU y59 true 3 (bind (bop .int .lss y41 q32_6) fun y60=>
 ret [y41,q32_6,y60])) (c3 fun _ _ q61_2=>
 bind (pick y59 q61_2 (Value.bool false)) fun y62=>
 cnd y62
 (bind (sls q32_0 (some y41) none) fun y63=>
 bind (Γ ZaE [y63,q32_1]) fun y64=>
 bind (bop .int .lss y64 (Value.int .i64 0)) fun y65=>
 cnd y65
 (ret (.ret (Value.int .i64 (-1))))
 (bind (bop .int .add y41 y64) fun y66=>
 ret (.ret y66)))
 (ret (.nrm [q32_0,q32_1,q32_2,q32_3,q32_4,y41,q32_6,y42]))))))))) noX Q5)
 (ret (.ext 1 []))
noncomputable def JZ (Γ : Ze) (x0 x1 : Value) : M Value:=
 bind (Yi x1) fun y1=>
 bind (bop .int .eql y1 (Value.int .i64 0)) fun y2=>
 bind (ZU y2 false 3 (bind (bop .str .eql x1 x0) fun y3=>
 ret [x1,x0,y3])) (c3 fun _ _ q4_2=>
 bind (pick y2 (Value.bool true) q4_2) fun y5=>
 cnd y5
 (ret (Value.int .i64 0))
 (bind (bop .int .eql y1 (Value.int .i64 1)) fun y6=>
 cnd y6
 (bind (ixs x1 (Value.int .i64 0)) fun y7=>
 bind (Γ Jo [x0,y7]) fun y8=>
 ret y8)
 (bind (Yi x0) fun y9=>
 bind (bop .int .geq y1 y9) fun y10=>
 cnd y10
 (ret (Value.int .i64 (-1)))
 (bind (ld1 (Value.pointer (some ⟨0,0,none⟩))) fun y11=>
 bind (bop .int .leq y1 y11) fun y12=>
 bind (ZU y12 true 3 (bind (Yi x0) fun y13=>
 bind (bop .int .leq y13 (Value.int .i64 64)) fun y14=>
 ret [x0,y13,y14])) (c3 fun _ _ q15_2=>
 bind (pick y12 q15_2 (Value.bool false)) fun y16=>
 cnd y16
 (bind (Γ W1 [x0,x1]) fun y17=>
 ret y17)
 (bind (ixs x1 (Value.int .i64 0)) fun y18=>
 bind (ixs x1 (Value.int .i64 1)) fun y19=>
 bind (Yi x0) fun y20=>
 bind (bop .int .sub y20 y1) fun y21=>
 bind (bop .int .add y21 (Value.int .i64 1)) fun y22=>
 jn (Zk (c8 (JZ.l1 Γ)) [x0,x1,y1,y18,y19,(Value.int .i64 0),y22,(Value.int .i64 0)]) noN (xk 1 (c0 (ret (Value.int .i64 (-1)))) noX) ret))))))
theorem Zdl (Γ : Ze) (x0 x1 : Value) : Zy Tryz.prog Γ Tryz.f212 W8 [x0,x1]=JZ Γ x0 x1:=by kernel_rfl
theorem Zc0 {prim : FuncId→Option (List Value→M Value)} (hp : prim QP=none) (n : Nat) (x0 x1 : Value) : run Tryz.prog prim lvs (n+1) QP [x0,x1]=JZ (run Tryz.prog prim lvs n) x0 x1:=
 (Zl hp (by kernel_rfl) Tryz.func212 (by kernel_rfl)).trans (Zdl _ x0 x1)
noncomputable def WT.l1 (Γ : Ze) (s0 s1 s5 : Value) : M Out:=
 bind (Γ K2 [s0,s1]) fun y9=>
 bind (bop .int .eql y9 (Value.int .i64 (-1))) fun y10=>
 cnd y10
 (ret (.ret s5))
 (bind (bop .int .add s5 (Value.int .i64 1)) fun y11=>
 bind (Yi s1) fun y12=>
 bind (bop .int .add y9 y12) fun y13=>
 bind (sls s0 (some y13) none) fun y14=>
 ret (.nrm [y14,s1,y11]))
noncomputable def WT (Γ : Ze) (x0 x1 : Value) : M Value:=
 bind (Yi x1) fun y1=>
 bind (bop .int .eql y1 (Value.int .i64 0)) fun y2=>
 cnd y2
 (bind (Γ Zco [x0]) fun y3=>
 bind (bop .int .add y3 (Value.int .i64 1)) fun y4=>
 ret y4)
 (bind (Yi x1) fun y5=>
 bind (bop .int .eql y5 (Value.int .i64 1)) fun y6=>
 cnd y6
 (bind (ixs x1 (Value.int .i64 0)) fun y7=>
 bind (Γ Yk [x0,y7]) fun y8=>
 ret y8)
 (jn (Zk (c3 (WT.l1 Γ)) [x0,x1,(Value.int .i64 0)]) noN noX ret))
theorem Zkx (Γ : Ze) (x0 x1 : Value) : Zy Tryz.prog Γ Tryz.f214 ZeV [x0,x1]=WT Γ x0 x1:=by kernel_rfl
theorem Zke {prim : FuncId→Option (List Value→M Value)} (hp : prim WS=none) (n : Nat) (x0 x1 : Value) : run Tryz.prog prim lvs (n+1) WS [x0,x1]=WT (run Tryz.prog prim lvs n) x0 x1:=
 (Zl hp (by kernel_rfl) Tryz.func214 (by kernel_rfl)).trans (Zkx _ x0 x1)
noncomputable def ZcW (Γ : Ze) (x0 x1 : Value) : M Value:=
 bind (Γ QP [x0,x1]) fun y1=>
 ret y1
theorem ZlD (Γ : Ze) (x0 x1 : Value) : Zy Tryz.prog Γ Tryz.f215 Ze2 [x0,x1]=ZcW Γ x0 x1:=by kernel_rfl
theorem Zkd {prim : FuncId→Option (List Value→M Value)} (hp : prim K2=none) (n : Nat) (x0 x1 : Value) : run Tryz.prog prim lvs (n+1) K2 [x0,x1]=ZcW (run Tryz.prog prim lvs n) x0 x1:=
 (Zl hp (by kernel_rfl) Tryz.func215 (by kernel_rfl)).trans (ZlD _ x0 x1)
noncomputable def ZY.l2 (Γ : Ze) (s0 s1 s2 s3 s8 s9 : Value) : M Out:=
 bind (bop .int .gtr s9 s1) fun y3=>
 bind (ZF y3 true (ret s3)) fun y4=>
 bind (ZF y3 true (ret s0)) fun y5=>
 bind (ZF y3 true (ret s9)) fun y6=>
 bind (ZF y3 true (ixa 1 y5 y6)) fun y7=>
 bind (ZF y3 true (ld1 y7)) fun y8=>
 bind (ZF y3 true (ret s0)) fun y9=>
 bind (ZF y3 true (ret s9)) fun y10=>
 bind (ZF y3 true (bop .int .sub y10 (Value.int .i64 1))) fun y11=>
 bind (ZF y3 true (ixa 1 y9 y11)) fun y12=>
 bind (ZF y3 true (ld1 y12)) fun y13=>
 bind (ZF y3 true (YR Γ y4 [y8,y13])) fun y14=>
 bind (ZF y3 true (bop .int .lss y14 (Value.int .i64 0))) fun y15=>
 bind (pick y3 y15 (Value.bool false)) fun y16=>
 cnd y16
 (bind (bop .int .sub s9 (Value.int .i64 1)) fun y17=>
 bind (bop .int .sub s9 (Value.int .i64 1)) fun y18=>
 bind (ixa 1 s0 y18) fun y19=>
 bind (ld1 y19) fun y20=>
 bind (ixa 1 s0 s9) fun y21=>
 bind (ld1 y21) fun y22=>
 bind (ixa 1 s0 s9) fun y23=>
 bind (st1 y23 y20) fun _=>
 bind (ixa 1 s0 y17) fun y24=>
 bind (st1 y24 y22) fun _=>
 bind (bop .int .sub s9 (Value.int .i64 1)) fun y25=>
 ret (.nrm [s0,s1,s2,s3,s8,y25]))
 (ret (.ext 2 [s0,s1,s2,s3,s8]))
noncomputable def ZY.l1 (Γ : Ze) (s0 s1 s2 s3 s8 : Value) : M Out:=
 bind (bop .int .lss s8 s2) fun y2=>
 cnd y2
 (jn (Zk (c6 (ZY.l2 Γ)) [s0,s1,s2,s3,s8,s8]) noN (xk 2 (c5 fun q27_0 q27_1 q27_2 q27_3 q27_4=>
 bind (bop .int .add q27_4 (Value.int .i64 1)) fun y28=>
 ret (.nrm [q27_0,q27_1,q27_2,q27_3,y28])) noX) Q5)
 (ret (.ext 0 []))
noncomputable def ZY (Γ : Ze) (x0 x1 x2 x3 : Value) : M Value:=
 bind (bop .int .add x1 (Value.int .i64 1)) fun y1=>
 jn (Zk (c5 (ZY.l1 Γ)) [x0,x1,x2,x3,y1]) noN (xk 0 (c0 (ret (Value.tuple #[]))) noX) ret
theorem Za9 (Γ : Ze) (x0 x1 x2 x3 : Value) : Zy Tryz.prog Γ Tryz.f217 KF [x0,x1,x2,x3]=ZY Γ x0 x1 x2 x3:=by kernel_rfl
theorem ZaG {prim : FuncId→Option (List Value→M Value)} (hp : prim QW=none) (n : Nat) (x0 x1 x2 x3 : Value) : run Tryz.prog prim lvs (n+1) QW [x0,x1,x2,x3]=ZY (run Tryz.prog prim lvs n) x0 x1 x2 x3:=
 (Zl hp (by kernel_rfl) Tryz.func217 (by kernel_rfl)).trans (Za9 _ x0 x1 x2 x3)
noncomputable def Zch (Γ : Ze) (x0 : Value) : M Value:=
 bind (bop .int .geq x0 (Value.int .u64 4294967296)) fun y1=>
 jn (cnd y1
 (bind (bop .int .shr x0 (Value.int .u64 32)) fun y2=>
 ret (.nrm [y2,(Value.int .i64 32)]))
 (ret (.nrm [x0,(Value.int .i64 0)]))) (c2 fun q3_0 q3_1=>
 bind (bop .int .geq q3_0 (Value.int .u64 65536)) fun y4=>
 jn (cnd y4
 (bind (bop .int .shr q3_0 (Value.int .u64 16)) fun y5=>
 bind (bop .int .add q3_1 (Value.int .i64 16)) fun y6=>
 ret (.nrm [y5,y6]))
 (ret (.nrm [q3_0,q3_1]))) (c2 fun q7_0 q7_1=>
 bind (bop .int .geq q7_0 (Value.int .u64 256)) fun y8=>
 jn (cnd y8
 (bind (bop .int .shr q7_0 (Value.int .u64 8)) fun y9=>
 bind (bop .int .add q7_1 (Value.int .i64 8)) fun y10=>
 ret (.nrm [y9,y10]))
 (ret (.nrm [q7_0,q7_1]))) (c2 fun q11_0 q11_1=>
 bind (cvi .u8 q11_0) fun y12=>
 bind (ixs (Value.string ⟨#[0,1,2,2,3,3,3,3,4,4,4,4,4,4,4,4,5,5,5,5,5,5,5,5,5,5,5,5,5,5,5,5,6,6,6,6,6,6,6,6,6,6,6,6,6,6,6,6,6,6,6,6,6,6,6,6,6,6,6,6,6,6,6,6,7,7,7,7,7,7,7,7,7,7,7,7,7,7,7,7,7,7,7,7,7,7,7,7,7,7,7,7,7,7,7,7,7,7,7,7,7,7,7,7,7,7,7,7,7,7,7,7,7,7,7,7,7,7,7,7,7,7,7,7,7,7,7,7,8,8,8,8,8,8,8,8,8,8,8,8,8,8,8,8,8,8,8,8,8,8,8,8,8,8,8,8,8,8,8,8,8,8,8,8,8,8,8,8,8,8,8,8,8,8,8,8,8,8,8,8,8,8,8,8,8,8,8,8,8,8,8,8,8,8,8,8,8,8,8,8,8,8,8,8,8,8,8,8,8,8,8,8,8,8,8,8,8,8,8,8,8,8,8,8,8,8,8,8,8,8,8,8,8,8,8,8,8,8,8,8,8,8,8,8,8,8,8,8,8,8,8,8,8,8,8,8]⟩) y12) fun y13=>
 bind (cvi .i64 y13) fun y14=>
 bind (bop .int .add q11_1 y14) fun y15=>
 ret y15) noX ret) noX ret) noX ret
theorem Zki (Γ : Ze) (x0 : Value) : Zy Tryz.prog Γ Tryz.f226 Zeo [x0]=Zch Γ x0:=by kernel_rfl
theorem Zjj {prim : FuncId→Option (List Value→M Value)} (hp : prim ZaD=none) (n : Nat) (x0 : Value) : run Tryz.prog prim lvs (n+1) ZaD [x0]=Zch (run Tryz.prog prim lvs n) x0:=
 (Zl hp (by kernel_rfl) Tryz.func226 (by kernel_rfl)).trans (Zki _ x0)
noncomputable def Y5 (Γ : Ze) (x0 x1 : Value) : M Value:=
 bind (Γ JW [x0,x1]) fun y1=>
 ret y1
theorem Zb3 (Γ : Ze) (x0 x1 : Value) : Zy Tryz.prog Γ Tryz.f227 Wh [x0,x1]=Y5 Γ x0 x1:=by kernel_rfl
theorem ZbQ {prim : FuncId→Option (List Value→M Value)} (hp : prim Jo=none) (n : Nat) (x0 x1 : Value) : run Tryz.prog prim lvs (n+1) Jo [x0,x1]=Y5 (run Tryz.prog prim lvs n) x0 x1:=
 (Zl hp (by kernel_rfl) Tryz.func227 (by kernel_rfl)).trans (Zb3 _ x0 x1)
end Go.Proofs.YtedkoimihknggaaGreatDoor.A

namespace Go.Proofs.YtedkoimihknggaaGreatDoor.A
set_option linter.unusedVariables false
set_option linter.unusedSimpArgs false
open Go.Sort
section
variable {P : Program} {w0 : Z5} {ι : Nat→Option Loc} {H H1 : Zc} {w w' : World} {v : Value} {G : Nat}
def ZhD (args : List Value) : M Value:=fun H=>
 match args with
 | [.map none]=>some (.map none,H)
 | [.map (some id)]=>match H[id]? with
  | some (.map es clk)=>some (.map (some H.length),H++[.map es clk])
  | some (.mapU es)=>some (.map (some H.length),H++[.mapU es])
  | _=>none
 | _=>none
structure Zes (P : Program) (g : FuncId) : Prop where
 c : ZaU P g
 nil : ∀ w,Calls P g #[.map none] w fun e w'=>e=.returned (.map none)∧w'=w
 some : ∀ b es clock w,w.heap[b]?=some (.map es clock)→Calls P g #[.map (some b)] w fun e w'=>e=.returned (.map (some w.heap.size))∧w'=w.alloc (.map es clock)
theorem Zfm {g : FuncId} (hC : Zes P g) : Zde P G w0 g ZhD:=by
 intro args H v H1 h
 refine .inl ⟨hC.c,fun ι w args' hS hr=>?_⟩
 unfold ZhD at h
 split at h
 ·cases h
  obtain ⟨x,r,rfl,hx,hr2⟩:=hr.cons_inv
  rw [hr2.nil_inv,hx.scalar_inv rfl]
  refine (hC.nil w).mono fun e w' ⟨he,hw⟩=>⟨ι,_,.refl ι,he,.sc rfl,by rw [hw];exact hS⟩
 ·obtain ⟨x,r,rfl,hx,hr2⟩:=hr.cons_inv
  obtain ⟨l,hl,rfl⟩:=hx.map_inv
  rw [hr2.nil_inv]
  split at h
  ·rename_i id _ es clk hid
   cases h
   obtain ⟨en,hb,hge,hE⟩:=hS.mapR hid hl
   refine (hC.some l.blk en clk w hb).mono fun e w' ⟨he,hw⟩=>?_
   have hnew:=hS.new (x:=.map es clk) (l:=⟨w.heap.size,0,0,0,false⟩) (.map en clk) rfl ⟨_,en,Z7 _ _ _,Zb0 w _,hS.size,hE.mono (JG hS _)⟩
   exact ⟨_,_,JG hS _,he,.mp (Z7 _ _ _),by rw [hw];exact hnew⟩
  ·rename_i id _ es hid
   cases h
   obtain ⟨en,clk,es2,hb,hge,hE,hp⟩:=hS.mapUR hid hl
   refine (hC.some l.blk en clk w hb).mono fun e w' ⟨he,hw⟩=>?_
   have hnew:=hS.new (x:=.mapU es) (l:=⟨w.heap.size,0,0,0,false⟩) (.map en clk) rfl ⟨_,en,clk,es2,Z7 _ _ _,Zb0 w _,hS.size,hE.mono (JG hS _),hp⟩
   exact ⟨_,_,JG hS _,he,.mp (Z7 _ _ _),by rw [hw];exact hnew⟩
  ·cases h
 ·cases h
abbrev Qk (ks : List (List UInt8)) : List (List UInt8):=ks.mergeSort leB
structure Zei (es : List (Value × Value × Nat)) (ks : List (List UInt8)) : Prop where
 keys : es.map (·.1)=ks.map strv
 nod : ks.Nodup
 few : ks.length≤1000000
 len : ∀ k∈ks,k.length≤1000000
theorem Zkf {a b : List UInt8} (h : strv a=strv b) : a=b:=by simpa [strv] using h
theorem ZoC {a b : List (List UInt8)} (h : a.map strv=b.map strv) : a=b:=by
 have : Function.Injective strv:=fun _ _ h=>Zkf h
 exact (List.map_inj_right (fun _ _ h=>Zkf h)).1 h
def Zfn (ks : List (List UInt8)) (H : Zc) : Option (Value × Zc):=
 if ks=[] then some (.slice none 0 0,H)
 else some (.slice (some ⟨H.length,0,none⟩) ks.length ks.length,H++[.cells ((Qk ks).map strv) 1 true false])
open Classical in
noncomputable def Zcs (gks : List FuncId) (gc : FuncId) (args : List Value) : M Value:=fun H=>
 if h : ∃ gk c id es ks,gk∈gks∧args=[.func (.func gk) #[] #[pt c],.func (.func gc) #[] #[]]∧(∃ e,H[c]?=some (.cells [.map (some id)] e false false))∧Zei es ks∧((∃ clk,H[id]?=some (.map es clk)∧Zan es clk)∨H[id]?=some (.mapU es)) then
  Zfn (Classical.choose (Classical.choose_spec (Classical.choose_spec (Classical.choose_spec (Classical.choose_spec h))))) H
 else none
theorem Zot {gks : List FuncId} {gc gk : FuncId} {c id e : Nat} {es : List (Value × Value × Nat)} {ks : List (List UInt8)} (hg : gk∈gks) (hc : H[c]?=some (.cells [.map (some id)] e false false)) (hk : Zei es ks)
  (hm : (∃ clk,H[id]?=some (.map es clk)∧Zan es clk)∨H[id]?=some (.mapU es)) : Zcs gks gc [.func (.func gk) #[] #[pt c],.func (.func gc) #[] #[]] H=Zfn ks H:=by
 have hex : ∃ gk' c' id' es' ks',gk'∈gks∧[Value.func (.func gk) #[] #[pt c],.func (.func gc) #[] #[]]=[.func (.func gk') #[] #[pt c'],.func (.func gc) #[] #[]]∧(∃ e,H[c']?=some (.cells [.map (some id')] e false false))∧Zei es' ks'∧((∃ clk,H[id']?=some (.map es' clk)∧Zan es' clk)∨H[id']?=some (.mapU es')):=
  ⟨gk,c,id,es,ks,hg,rfl,⟨e,hc⟩,hk,hm⟩
 unfold Zcs
 rw [dif_pos hex]
 congr 1
 obtain ⟨_,h2,⟨e',h3⟩,h4,h5⟩:=Classical.choose_spec (Classical.choose_spec (Classical.choose_spec (Classical.choose_spec (Classical.choose_spec hex))))
 generalize Classical.choose (Classical.choose_spec (Classical.choose_spec (Classical.choose_spec (Classical.choose_spec hex))))=ks' at h4 ⊢
 generalize Classical.choose (Classical.choose_spec (Classical.choose_spec (Classical.choose_spec hex)))=es' at h4 h5
 generalize Classical.choose (Classical.choose_spec (Classical.choose_spec hex))=id' at h3 h5
 generalize Classical.choose (Classical.choose_spec hex)=c' at h2 h3
 have ec : c=c':=by simp at h2;exact h2.2
 subst ec
 rw [hc] at h3
 have ei : id=id':=by simp at h3;exact h3.1
 subst ei
 have ees : es'=es:=by
  rcases hm with ⟨clk,h6,_⟩ | h6 <;> rcases h5 with ⟨clk',h7,_⟩ | h7 <;> rw [h6] at h7 <;> cases h7 <;> rfl
 subst ees
 exact ZoC (h4.keys.symm.trans hk.keys)
theorem ZsB {gks : List FuncId} {gc : FuncId} {args : List Value} (h : Zcs gks gc args H=some (v,H1)) :
  ∃ gk c id e es ks,gk∈gks∧args=[.func (.func gk) #[] #[pt c],.func (.func gc) #[] #[]]∧H[c]?=some (.cells [.map (some id)] e false false)∧Zei es ks∧((∃ clk,H[id]?=some (.map es clk)∧Zan es clk)∨H[id]?=some (.mapU es))∧Zfn ks H=some (v,H1):=by
 have h0:=h
 unfold Zcs at h
 split at h
 ·rename_i hex
  obtain ⟨gk,c,id,es,ks,h1,rfl,⟨e,h3⟩,h4,h5⟩:=hex
  rw [Zot h1 h3 h4 h5] at h0
  exact ⟨gk,c,id,e,es,ks,h1,rfl,h3,h4,h5,h0⟩
 ·cases h
structure Zfs (P : Program) (g gk gc : FuncId) : Prop where
 c : ZaU P g
 run : ∀ (w : World) (Bm b : Nat) (es : Array MapEntry) (clock : Nat) (ks : List (List UInt8)),Bm < w.heap.size→w.cell? ⟨Bm,0,none⟩=some (.map (some b))→w.heap[b]?=some (.map es clock)→es.toList.map (·.key)=ks.map strv→Go.MapKept.Stamped es clock→
  (∀ k∈ks,k.length≤1000000)→ks.length≤1000000→
  Calls P g #[.func (.func gk) #[] #[.pointer (some ⟨Bm,0,none⟩)],.func (.func gc) #[] #[]] w fun e w'=>∃ (v : Value) (t : TypeId),e=.returned v∧w'.ownsRow w.heap.size t 1 v ks.length ((Qk ks).map strv)∧(v=.slice none 0 0↔ks=[])∧Go.RowKit.Below w.heap.size w w'
theorem Sim.below (h : Sim G w0 ι H w) (hb : Go.RowKit.Below w.heap.size w w') : Sim G w0 ι H w':=by
 refine ⟨fun i x hx=>(h.obj i x hx).blk fun l hl hd=>?_,h.inj,Nat.le_trans h.size hb.size,fun b hlt=>by rw [hb.block b (Nat.lt_of_lt_of_le hlt h.size)];exact h.old b hlt,h.dom,h.glob,?_,fun b hbp=>?_,fun j cs es nx l hj hl=>(h.views j cs es nx l hj hl).to (.refl ι) fun h1 ⟨c0,el0,fr0,hc0⟩=>⟨fun c el fr hc=>⟨fr,by rw [hb.block _ (Array.getElem?_eq_some_iff.1 hc0).1];exact hc⟩,h1⟩⟩
 ·obtain ⟨l',hl',hlt⟩:=(h.obj i x hx).loc hd
  rw [hl] at hl';cases hl'
  exact hb.block _ hlt
 ·rw [hb.os,hb.tape,hb.output];exact h.rest
 ·obtain ⟨p1,p2,p3⟩:=h.prot b hbp
  have hlt : b < w.heap.size:=by
   rcases Nat.lt_or_ge b w.heap.size with h1 | h1
   ·exact h1
   ·rw [Array.getElem?_eq_none h1] at p1;cases p1
  exact ⟨by rw [hb.block b hlt];exact p1,p2,p3⟩
theorem Q4.keys {ι : Nat→Option Loc} : ∀ {es : List (Value × Value × Nat)} {en : List MapEntry},Q4 ι es en→en.map (·.key)=es.map (·.1)∧en.map (·.born)=es.map (·.2.2)
 | [],[],_=>⟨rfl,rfl⟩
 | e :: es,n :: ns,h=>by
  obtain ⟨h1,h2⟩:=Q4.keys h.2
  exact ⟨by rw [List.map_cons,List.map_cons,h1,h.1.2.1],by rw [List.map_cons,List.map_cons,h2,h.1.2.2.2]⟩
 | [],_ :: _,h=>h.elim
 | _ :: _,[],h=>h.elim
theorem Zrd {a b : List (List UInt8)} (h : a.Perm b) : Qk a=Qk b:=mergeSort_of_perm h
theorem Zne (ks : List (List UInt8)) : (Qk ks).length=ks.length:=List.length_mergeSort ks
theorem ZfN {ks : List (List UInt8)} (h : ks.Nodup) : (ks.map strv).Nodup:=by
 rw [List.nodup_iff_pairwise_ne] at h ⊢
 rw [List.pairwise_map]
 exact h.imp fun h e=>h (Zkf e)
theorem Zqb {gks : List FuncId} {g gc : FuncId} (hgks : gks≠[]) (hC : ∀ gk∈gks,Zfs P g gk gc) : Zde P G w0 g (Zcs gks gc):=by
 intro args H v H1 h
 have hcall : ZaU P g:=by
  cases gks with
  | nil=>exact absurd rfl hgks
  | cons a l=>exact (hC a (by simp)).c
 refine .inl ⟨hcall,fun ι w args' hS hr=>?_⟩
 obtain ⟨gk,c,id,e,es,ks,hg,rfl,hc,hk,hm,ho⟩:=ZsB h
 obtain ⟨x,r,rfl,hx,hr2⟩:=hr.cons_inv
 obtain ⟨y,r,rfl,hy,hr3⟩:=hr2.cons_inv
 rw [hr3.nil_inv]
 obtain ⟨a1,b1,rfl,ha1,hb1⟩:=hx.fn_inv
 obtain ⟨a2,b2,rfl,ha2,hb2⟩:=hy.fn_inv
 have ea1 : a1=#[]:=by have:=ha1.nil_inv;simpa using this
 have ea2 : a2=#[]:=by have:=ha2.nil_inv;simpa using this
 have eb2 : b2=#[]:=by have:=hb2.nil_inv;simpa using this
 obtain ⟨p',q',eb1,hp',hq'⟩:=hb1.cons_inv
 have:=hq'.nil_inv
 subst this
 obtain ⟨lc,hlc,rfl⟩:=hp'.ptr_inv
 have eb1 : b1=#[.pointer (some ⟨lc.blk,lc.base+0,none⟩)]:=by
  apply Array.ext'
  simpa using eb1
 subst ea1
 subst ea2
 subst eb2
 subst eb1
 obtain ⟨cc,el,fr,_,hgrow,hbc,hb5,hb6,hrc,hro,_⟩:=hS.cellsR hc hlc
 have hbase : lc.base=0:=(hro rfl).2.2 hgrow
 have hbl : lc.blk < w.heap.size:=by
  rcases Nat.lt_or_ge lc.blk w.heap.size with h1 | h1
  ·exact h1
  ·rw [Array.getElem?_eq_none h1] at hbc;cases hbc
 obtain ⟨u,hu1,hu2⟩:=hrc.at (o:=0) (by simp)
 obtain ⟨lm,hlm,hu3⟩:=RV.map_inv (id:=id) hu2
 subst hu3
 have hcell : w.cell? ⟨lc.blk,0,none⟩=some (.map (some lm.blk)):=by
  rw [Zd9 hbc]
  simpa [hbase] using hu1
 obtain ⟨en,clock,ks',hmb,hkeys,hst,hperm⟩ : ∃ (en : Array MapEntry) (clock : Nat) (ks' : List (List UInt8)),w.heap[lm.blk]?=some (.map en clock)∧en.toList.map (·.key)=ks'.map strv∧Go.MapKept.Stamped en clock∧ks'.Perm ks:=by
  rcases hm with ⟨clk,hid,hst⟩ | hid
  ·obtain ⟨en,hb,_,hE⟩:=hS.mapR hid hlm
   obtain ⟨k1,k2⟩:=Q4.keys hE
   refine ⟨en,clk,ks,hb,k1.trans hk.keys,⟨fun x hx=>?_,by rw [k2];exact hst.nod,by rw [k1,hk.keys];exact ZfN hk.nod⟩,.refl _⟩
   have : x.born∈en.toList.map (·.born):=List.mem_map.2 ⟨x,hx,rfl⟩
   rw [k2] at this
   obtain ⟨e',h1,h2⟩:=List.mem_map.1 this
   rw [← h2];exact hst.lt e' h1
  ·obtain ⟨en,clk,es2,hb,_,hE,hp⟩:=hS.mapUR hid hlm
   obtain ⟨k1,k2⟩:=Q4.keys hE
   have hpk : (es2.map (·.1)).Perm (es.map (·.1)):=by
    have:=hp.perm.map (·.1)
    rwa [Zdw,Zdw] at this
   obtain ⟨ks2,hks2⟩ : ∃ ks2 : List (List UInt8),es2.map (·.1)=ks2.map strv:=by
    refine ⟨es2.map fun e=>match e.1 with | .string s=>s.data.toList | _=>[],?_⟩
    rw [List.map_map]
    refine List.map_congr_left fun e he=>?_
    obtain ⟨s,hs⟩:=hp.strs e he
    simp [hs,strv]
   rw [hks2,hk.keys] at hpk
   have hpk2 : ks2.Perm ks:=by
    have h3:=hpk.map fun v : Value=>match v with | .string s=>s.data.toList | _=>([] : List UInt8)
    simpa [List.map_map,Function.comp_def,strv] using h3
   refine ⟨en,clk,ks2,hb,k1.trans hks2,⟨fun x hx=>?_,by rw [k2];exact hp.st.nod,by rw [k1];exact hp.nod2⟩,hpk2⟩
   have : x.born∈en.toList.map (·.born):=List.mem_map.2 ⟨x,hx,rfl⟩
   rw [k2] at this
   obtain ⟨e',h1,h2⟩:=List.mem_map.1 this
   rw [← h2];exact hp.st.lt e' h1
 have hfew:=hk.few
 have hcon:=(hC gk hg).run w lc.blk lm.blk en clock ks' hbl hcell hmb hkeys hst (fun k hm=>hk.len k (hperm.mem_iff.1 hm)) (by rw [hperm.length_eq];exact hfew)
 rw [Zrd hperm,hperm.length_eq] at hcon
 simp only [Nat.add_zero,hbase]
 refine hcon.mono fun ee w' ⟨v',t,he,hrow,hnil,hb⟩=>?_
 have hnil2 : v'=.slice none 0 0↔ks=[]:=by
  rw [hnil]
  constructor
  ·rintro rfl;exact List.eq_nil_of_length_eq_zero (by rw [← hperm.length_eq];rfl)
  ·rintro rfl;exact List.eq_nil_of_length_eq_zero (by rw [hperm.length_eq];rfl)
 have hS':=hS.below hb
 unfold Zfn at ho
 by_cases h0 : ks=[]
 ·rw [if_pos h0] at ho
  cases ho
  exact ⟨ι,_,.refl ι,he,by rw [hnil2.2 h0];exact .sc rfl,hS'⟩
 ·rw [if_neg h0] at ho
  cases ho
  rcases hrow.2 with ⟨hv,_⟩ | ⟨gb,cap,cur,rfl,hge,hgb,r1,r2,r3,r4⟩
  ·exact absurd (hnil2.1 hv) h0
  have hlen : ((Qk ks).map strv).length=ks.length:=by rw [List.length_map,Zne]
  rw [Nat.mul_one] at r3 r4
  have hadd:=hS'.add (o:=.cells ((Qk ks).map strv) 1 true false) (l:=⟨gb,0,cap,1,true⟩) ⟨⟨gb,0,cap,1,true⟩,cur,t,(0,0),Z7 _ _ _,rfl,rfl,hgb,by show 0+_≤cap;omega,by show cap≤cur.size;omega,by
   show RVs _ _ ((cur.toList.drop 0).take _)
   rw [List.drop_zero,hlen,r4]
   refine ⟨rfl,fun i hi=>?_⟩
   rw [List.getD_eq_getElem?_getD,List.getElem?_eq_getElem hi]
   simp only [List.getElem_map,Option.getD_some]
   exact .sc rfl,fun _=>⟨Nat.le_trans hS.size hge,.inl rfl,fun h=>by cases h⟩,by simp,fun x hx=>by
   obtain ⟨k,_,rfl⟩:=List.mem_map.1 hx
   rfl⟩ (fun i oi li hi hw hl=>by
   have:=((hS.obj i oi hi).newer hw li hl).2
   show li.blk≠gb
   omega) (fun b hbp=>by
   have p1:=(hS.prot b hbp).1
   show gb≠b
   rintro rfl
   rw [Array.getElem?_eq_none hge] at p1;cases p1) (fun _ j cs es nx lj hj hlj hbe=>by
   rcases hS.views j cs es nx lj hj hlj with ⟨l',k1,k2⟩ | ⟨⟨c,el,fr,k1,_⟩,_⟩
   ·exact ⟨l',k1,k2⟩
   ·have:=(Array.getElem?_eq_some_iff.1 k1).1
    have hbe : lj.blk=gb:=hbe
    omega)
  refine ⟨_,_,JG hS' _,he,?_,hadd⟩
  have:=RV.slc (ι:=Yx ι H.length ⟨gb,0,cap,1,true⟩) (id:=H.length) (o:=0) (n:=ks.length) (c:=ks.length) (c':=cap) (Z7 _ _ _) (Nat.le_refl _) r1 (fun h=>by cases h) (by simp)
  simpa using this
end
end Go.Proofs.YtedkoimihknggaaGreatDoor.A
namespace Go.Proofs.YtedkoimihknggaaGreatDoor.A
set_option linter.unusedVariables false
set_option linter.unusedSimpArgs false
section
variable {α : Type}
def Zj (k : List UInt8) : List (List UInt8 × α)→Option α
 | []=>none
 | p :: m=>if p.1=k then some p.2 else Zj k m
def Zav (k : List UInt8) (m : List (List UInt8 × α)) : List (List UInt8 × α):=m.filter fun p=>decide (p.1≠k)
def Ju (k : List UInt8) (v : α) (m : List (List UInt8 × α)) : List (List UInt8 × α):=
 if (Zj k m).isSome then m.map fun p=>if p.1=k then (k,v) else p else m++[(k,v)]
variable {k : List UInt8} {v : α} {m : List (List UInt8 × α)}
theorem ZeR : ∀ {m : List (List UInt8 × α)},Zj k m=none↔∀ p∈m,p.1≠k
 | []=>by simp [Zj]
 | p :: m=>by
  simp only [Zj]
  split
  ·rename_i h;simp [h]
  ·rename_i h
   rw [ZeR]
   simp [h]
theorem ZaQ : ∀ {m : List (List UInt8 × α)} {v : α},Zj k m=some v→(k,v)∈m
 | [],v,h=>by cases h
 | p :: m,v,h=>by
  simp only [Zj] at h
  split at h
  ·rename_i hp
   cases h
   subst hp
   simp
  ·exact List.mem_cons_of_mem _ (ZaQ h)
theorem Zbv : ∀ {m : List (List UInt8 × α)} {v : α},(m.map (·.1)).Nodup→(k,v)∈m→Zj k m=some v
 | [],v,_,h=>by cases h
 | p :: m,v,hn,h=>by
  simp only [List.map_cons,List.nodup_cons,List.mem_map,not_exists,not_and] at hn
  simp only [Zj]
  rcases List.mem_cons.1 h with h | h
  ·subst h;rw [if_pos rfl]
  ·rw [if_neg fun e=>hn.1 _ h e.symm]
   exact Zbv hn.2 h
theorem ZtY : ∀ {m : List (List UInt8 × α)} {v : α},Zj k m=some v→∃ j : Nat,m[j]?=some (k,v)
 | m,v,h=>List.getElem?_of_mem (ZaQ h)
theorem Zga : ∀ {m : List (List UInt8 × α)} {j : Nat} {v0 : α},(m.map (·.1)).Nodup→m[j]?=some (k,v0)→m.set j (k,v)=m.map fun p=>if p.1=k then (k,v) else p
 | [],j,v0,_,h=>by simp at h
 | p :: m,0,v0,hn,h=>by
  have : p=(k,v0):=by simpa using h
  subst this
  simp only [List.map_cons,List.nodup_cons,List.mem_map,not_exists,not_and] at hn
  simp only [List.set_cons_zero,List.map_cons,if_true]
  congr 1
  conv=>lhs;rw [← List.map_id m]
  refine List.map_congr_left fun q hq=>?_
  rw [if_neg (hn.1 q hq)];rfl
 | p :: m,j+1,v0,hn,h=>by
  have h' : m[j]?=some (k,v0):=by simpa using h
  simp only [List.map_cons,List.nodup_cons,List.mem_map,not_exists,not_and] at hn
  have hp : ¬ p.1=k:=fun e=>hn.1 (k,v0) (List.mem_of_getElem? h') e.symm
  simp only [List.set_cons_succ,List.map_cons,if_neg hp]
  rw [Zga hn.2 h']
theorem Zev : ∀ {m : List (List UInt8 × α)} {j : Nat} {v0 : α},(m.map (·.1)).Nodup→m[j]?=some (k,v0)→m.eraseIdx j=Zav k m
 | [],j,v0,_,h=>by simp at h
 | p :: m,0,v0,hn,h=>by
  have : p=(k,v0):=by simpa using h
  subst this
  simp only [List.map_cons,List.nodup_cons,List.mem_map,not_exists,not_and] at hn
  unfold Zav
  rw [List.eraseIdx_cons_zero,List.filter_cons,if_neg (by simp)]
  symm
  rw [List.filter_eq_self]
  exact fun q hq=>decide_eq_true (hn.1 q hq)
 | p :: m,j+1,v0,hn,h=>by
  have h' : m[j]?=some (k,v0):=by simpa using h
  simp only [List.map_cons,List.nodup_cons,List.mem_map,not_exists,not_and] at hn
  have hp : ¬ p.1=k:=fun e=>hn.1 (k,v0) (List.mem_of_getElem? h') e.symm
  have ih:=Zev hn.2 h'
  unfold Zav at ih ⊢
  rw [List.eraseIdx_cons_succ,List.filter_cons,if_pos (by simpa using hp),ih]
theorem Zte (h : Zj k m=none) : Zav k m=m:=by
 unfold Zav
 rw [List.filter_eq_self]
 exact fun p hp=>decide_eq_true (ZeR.1 h p hp)
theorem Zlm (h : (m.map (·.1)).Nodup) : ((Ju k v m).map (·.1)).Nodup:=by
 unfold Ju
 split
 ·rw [List.map_map]
  have : ((fun p : List UInt8 × α=>p.1) ∘ fun p=>if p.1=k then (k,v) else p)=fun p=>p.1:=by
   funext p
   simp only [Function.comp]
   split
   ·rename_i h;exact h.symm
   ·rfl
  rw [this];exact h
 ·rename_i hs
  have hn : Zj k m=none:=by cases e : Zj k m <;> simp_all
  rw [List.map_append,List.nodup_append]
  refine ⟨h,by simp,fun a ha b hb=>?_⟩
  have hb : b=k:=by simpa using hb
  obtain ⟨p,hp,rfl⟩:=List.mem_map.1 ha
  rw [hb];exact ZeR.1 hn p hp
theorem Zq7 (h : (m.map (·.1)).Nodup) : ((Zav k m).map (·.1)).Nodup:=(List.filter_sublist.map _).nodup h
end
theorem Zsz {a b : List UInt8} : ((⟨a.toArray⟩ : ByteArray)==⟨b.toArray⟩)=(a==b):=by
 rw [ZlX]
 simp
theorem Zfr {α : Type} {enc : α→Value} {k : List UInt8} : ∀ {es : List (Value × Value × Nat)} {m : List (List UInt8 × α)} (i : Nat),es.map kv=m.map (fun p=>(strv p.1,enc p.2))→
  (Zj k m=none∧Jw .str (strv k) es i=some none)∨∃ j v,m[j]?=some (k,v)∧Zj k m=some v∧Jw .str (strv k) es i=some (some (i+j,enc v))
 | [],[],i,_=>.inl ⟨rfl,rfl⟩
 | e :: es,p :: m,i,h=>by
  simp only [List.map_cons,List.cons.injEq,kv,Prod.mk.injEq] at h
  obtain ⟨⟨h1,h2⟩,h3⟩:=h
  have hs : ZaB .str (strv k) e.1=some (k==p.1):=by rw [h1];simp only [ZaB,strv,Zsz]
  simp only [Jw,hs,Zj]
  by_cases hk : p.1=k
  ·rw [show (k==p.1)=true by rw [hk];simp,if_pos hk]
   exact .inr ⟨0,p.2,by rw [← hk];rfl,rfl,by rw [h2];rfl⟩
  ·rw [show (k==p.1)=false by rw [beq_eq_false_iff_ne];exact Ne.symm hk,if_neg hk]
   rcases Zfr (i+1) h3 with ⟨h4,h5⟩ | ⟨j,v,h4,h5,h6⟩
   ·exact .inl ⟨h4,h5⟩
   ·exact .inr ⟨j+1,v,by simpa using h4,h5,by simp only;rw [h6];congr 3;omega⟩
 | [],_ :: _,_,h=>by cases h
 | _ :: _,[],_,h=>by cases h
theorem Zf9 {u : Value} : ∀ {es : List (Value × Value × Nat)} {j : Nat} {p : Value × Value},(es.map kv)[j]?=some p→(Ya es j u).map kv=(es.map kv).set j (p.1,u)
 | [],j,p,h=>by simp at h
 | e :: es,0,p,h=>by
  have : kv e=p:=by simpa using h
  subst this
  simp [Ya,kv]
 | e :: es,j+1,p,h=>by
  have:=Zf9 (u:=u) (es:=es) (j:=j) (p:=p) (by simpa using h)
  simp only [Ya] at this
  simp only [Ya,List.modify_succ_cons,List.map_cons,List.set_cons_succ,this]
section
variable {α : Type} {enc : α→Value} {H H' : Zc} {id : Nat} {m : List (List UInt8 × α)} {k : List UInt8} {v : α}
structure J8 (enc : α→Value) (H : Zc) (id : Nat) (m : List (List UInt8 × α)) : Prop where
 ex : ∃ es,es.map kv=m.map (fun p=>(strv p.1,enc p.2))∧((∃ clk,H[id]?=some (.map es clk)∧Zan es clk)∨H[id]?=some (.mapU es))
 nod : (m.map (·.1)).Nodup
theorem J8.lt (h : J8 enc H id m) : id < H.length:=by
 obtain ⟨es,_,h1 | h1⟩:=h.ex
 ·obtain ⟨clk,h1,_⟩:=h1;exact Z6 h1
 ·exact Z6 h1
theorem J8.keep (h : J8 enc H id m) (hk : H'[id]?=H[id]?) : J8 enc H' id m:=by
 obtain ⟨es,h1,h2⟩:=h.ex
 exact ⟨⟨es,h1,by rw [hk];exact h2⟩,h.nod⟩
theorem J8.hle (h : J8 enc H id m) (hl : HLe H H') : J8 enc H' id m:=h.keep (hl.step.keep id h.lt (by simp))
theorem J8.step {o1 o2 : List Nat} (h : J8 enc H id m) (hs : Zw o1 H o2 H') (hn : id∉o1) : J8 enc H' id m:=h.keep (hs.keep id h.lt hn)
theorem Zao : okK .str (strv k)=true:=rfl
theorem J8.len (h : J8 enc H id m) : lenM (.map (some id)) H=some (iv m.length,H):=by
 obtain ⟨es,h1,h2⟩:=h.ex
 have hl : es.length=m.length:=by have:=congrArg List.length h1;simpa using this
 unfold lenM
 rcases h2 with ⟨clk,h2,_⟩ | h2 <;> simp only [h2,hl]
theorem J8.lkp (h : J8 enc H id m) {z : Value} {ok : Bool} : A.lkp .str z ok (.map (some id)) (strv k) H=
  some (match Zj k m with
   | some v=>bif ok then .tuple #[enc v,.bool true] else enc v
   | none=>bif ok then .tuple #[z,.bool false] else z,H):=by
 obtain ⟨es,h1,h2⟩:=h.ex
 unfold A.lkp
 rcases Zfr (k:=k) 0 h1 with ⟨h3,h4⟩ | ⟨j,v,h3,h4,h5⟩
 ·rcases h2 with ⟨clk,h2,_⟩ | h2 <;> simp only [h2,Zao,cond_true,h3,h4]
 ·rcases h2 with ⟨clk,h2,_⟩ | h2 <;> simp only [h2,Zao,cond_true,h4,h5]
theorem J8.mup (h : J8 enc H id m) : ∃ H',A.mup .str (.map (some id)) (strv k) (enc v) H=some (undef,H')∧J8 enc H' id (Ju k v m)∧Zw [id] H [id] H'∧H'.length=H.length:=by
 obtain ⟨es,h1,h2⟩:=h.ex
 have hst : ∀ o,Zw [id] H [id] (H.set id o):=fun o=>⟨by simp,fun j hj hn=>List.getElem?_set_ne (fun e=>hn (by simp [e])),fun j hj=>.inl hj⟩
 have hnod:=Zlm (k:=k) (v:=v) h.nod
 have hget : ∀ {j : Nat} {v0 : α},m[j]?=some (k,v0)→(es.map kv)[j]?=some (strv k,enc v0):=fun hj=>by rw [h1,List.getElem?_map,hj];rfl
 rcases Zfr (k:=k) 0 h1 with ⟨h3,h4⟩ | ⟨j,v0,h3,h4,h5⟩
 ·have ha : Ju k v m=m++[(k,v)]:=by unfold Ju;rw [h3];rfl
  rw [ha] at hnod ⊢
  have hm : ∀ b,(es++[(strv k,enc v,b)]).map kv=(m++[(k,v)]).map fun p=>(strv p.1,enc p.2):=fun b=>by rw [List.map_append,List.map_append,h1];rfl
  rcases h2 with ⟨clk,h2,hs⟩ | h2
  ·refine ⟨H.set id (.map (es++[(strv k,enc v,clk)]) (clk+1)),?_,⟨⟨_,hm clk,.inl ⟨clk+1,ZT h2,⟨fun e he=>?_,?_⟩⟩⟩,hnod⟩,hst _,by simp⟩
   ·unfold A.mup;simp only [h2,Zao,cond_true,h4]
   ·rcases List.mem_append.1 he with he | he
    ·have:=hs.lt e he;omega
    ·have : e=(strv k,enc v,clk):=by simpa using he
     rw [this];exact Nat.lt_succ_self _
   ·rw [List.map_append,List.nodup_append]
    refine ⟨hs.nod,by simp,fun a ha b hb=>?_⟩
    have hb : b=clk:=by simpa using hb
    obtain ⟨e,he,rfl⟩:=List.mem_map.1 ha
    have:=hs.lt e he;omega
  ·refine ⟨H.set id (.mapU (es++[(strv k,enc v,0)])),?_,⟨⟨_,hm 0,.inr (ZT h2)⟩,hnod⟩,hst _,by simp⟩
   unfold A.mup;simp only [h2,Zao,cond_true,h4];rfl
 ·have ha : Ju k v m=m.set j (k,v):=by unfold Ju;rw [h4];exact (Zga h.nod h3).symm
  rw [ha] at hnod ⊢
  rw [Nat.zero_add] at h5
  have hm : (Ya es j (enc v)).map kv=(m.set j (k,v)).map fun p=>(strv p.1,enc p.2):=by
   rw [Zf9 (hget h3),h1,List.map_set]
  rcases h2 with ⟨clk,h2,hs⟩ | h2
  ·refine ⟨H.set id (.map (Ya es j (enc v)) clk),?_,⟨⟨_,hm,.inl ⟨clk,ZT h2,ZiK hs⟩⟩,hnod⟩,hst _,by simp⟩
   unfold A.mup;simp only [h2,Zao,cond_true,h5]
  ·refine ⟨H.set id (.mapU (Ya es j (enc v))),?_,⟨⟨_,hm,.inr (ZT h2)⟩,hnod⟩,hst _,by simp⟩
   unfold A.mup;simp only [h2,Zao,cond_true,h5]
theorem Zrk (H : Zc) : ∃ H',mkm H=some (.map (some H.length),H')∧J8 enc H' H.length []∧HLe H H':=
 ⟨_,rfl,⟨⟨[],rfl,.inl ⟨0,Zx,⟨by simp,by simp⟩⟩⟩,by simp⟩,.app _ _⟩
theorem J8.keys (h : J8 enc H id m) {gks : List FuncId} {gc gk : FuncId} {c e : Nat} (hg : gk∈gks) (hc : H[c]?=some (.cells [.map (some id)] e false false)) (hf : m.length≤1000000) (hl : ∀ p∈m,p.1.length≤1000000) :
  ∃ v q H',Zcs gks gc [.func (.func gk) #[] #[pt c],.func (.func gc) #[] #[]] H=some (v,H')∧Zq H' v ((Qk (m.map (·.1))).map strv) q∧HLe H H'∧∀ j∈q,H.length≤j:=by
 obtain ⟨es,h1,h2⟩:=h.ex
 have hk : Zei es (m.map (·.1)):=⟨by
  have:=congrArg (List.map (·.1)) h1
  rw [Zdw] at this
  rw [this];simp [Function.comp_def],h.nod,by simpa using hf,fun k hk=>by
  obtain ⟨p,hp,rfl⟩:=List.mem_map.1 hk
  exact hl p hp⟩
 rw [Zot hg hc hk h2]
 unfold Zfn
 by_cases h0 : m.map (·.1)=[]
 ·rw [if_pos h0,h0]
  have hz : Qk ([] : List (List UInt8))=[]:=List.mergeSort_nil
  rw [hz]
  exact ⟨_,[],_,rfl,Zq.nil,.refl _,by simp⟩
 ·rw [if_neg h0]
  refine ⟨_,[H.length],_,rfl,.inr ⟨H.length,[],true,?_,rfl,by simp⟩,.app _ _,by simp⟩
  simp [Zne]
end
end Go.Proofs.YtedkoimihknggaaGreatDoor.A

namespace Go.Proofs.YtedkoimihknggaaGreatDoor.A
set_option linter.unusedVariables false
set_option linter.unusedSimpArgs false
def Zf2 (args : List Value) : M Value:=fun H=>
 match args with
 | [.string s,.int .u8 c]=>some (iv (Go.Lib.indexByte s.data.toList c.toNat.toUInt8),H)
 | _=>none
def ZfO (args : List Value) : M Value:=fun H=>
 match args with
 | [.string s,.int .u8 c]=>some (iv (Go.Lib.countByte s.data.toList c.toNat.toUInt8),H)
 | _=>none
section
variable {P : Program} {G : Nat} {w0 : Z5}
theorem ZrR {g : FuncId} (he : Zl3 P g Extern.BytealgIndexByte.indexByte) : Zde P G w0 g Zf2:=by
 intro args H v H1 h
 refine .inr ⟨_,he,fun ι w args' hS hr=>?_⟩
 unfold Zf2 at h
 split at h
 ·rename_i s c
  cases h
  obtain ⟨p',r',rfl,hp',hr'⟩:=hr.cons_inv
  obtain ⟨y',r2,rfl,hy',hr2⟩:=hr'.cons_inv
  have:=hr2.nil_inv;subst this
  have:=hy'.int_inv;subst this
  have:=hp'.scalar_inv rfl;subst this
  exact ⟨ι,_,w,.refl ι,hS,.sc rfl,Go.Lib.run_indexByteString s c w⟩
 ·cases h
theorem Zra {g : FuncId} (he : Zl3 P g Extern.BytealgCount.count) : Zde P G w0 g ZfO:=by
 intro args H v H1 h
 refine .inr ⟨_,he,fun ι w args' hS hr=>?_⟩
 unfold ZfO at h
 split at h
 ·rename_i s c
  cases h
  obtain ⟨p',r',rfl,hp',hr'⟩:=hr.cons_inv
  obtain ⟨y',r2,rfl,hy',hr2⟩:=hr'.cons_inv
  have:=hr2.nil_inv;subst this
  have:=hy'.int_inv;subst this
  have:=hp'.scalar_inv rfl;subst this
  exact ⟨ι,_,w,.refl ι,hS,.sc rfl,Go.Lib.run_countString s c w⟩
 ·cases h
end
theorem Zqt (b : UInt8) : (b.toNat : Int).toNat.toUInt8=b:=by
 rw [Int.toNat_natCast]
 simp
theorem Zwy {s : List UInt8} {b : UInt8} {H : Zc} : Zf2 [strv s,.int .u8 b.toNat] H=some (iv (Go.Lib.indexByte s b),H):=by
 unfold Zf2 strv
 simp only [Zqt]
theorem Zwl {s : List UInt8} {b : UInt8} {H : Zc} : ZfO [strv s,.int .u8 b.toNat] H=some (iv (s.count b),H):=by
 unfold ZfO strv Go.Lib.countByte
 simp only [Zqt]
theorem ZcR {b : UInt8} : ∀ {s : List UInt8},Go.Lib.indexByte s b=if b∈s then (((s.takeWhile (· !=b)).length : Nat) : Int) else -1
 | []=>rfl
 | c :: s=>by
  have ih:=ZcR (b:=b) (s:=s)
  unfold Go.Lib.indexByte
  by_cases hc : c=b
  ·subst hc;simp
  ·have h1 : (c==b)=false:=beq_eq_false_iff_ne.2 hc
   have h2 : (c !=b)=true:=by simp [hc]
   rw [h1,List.takeWhile_cons,h2,ih]
   by_cases hm : b∈s
   ·have : ¬ ((((s.takeWhile (· !=b)).length : Nat) : Int)==-1)=true:=by simp
    simp [hm,this]
   ·have hm2 : ¬ b∈c :: s:=by simp [hm,Ne.symm hc]
    simp [hm,Ne.symm hc]
end Go.Proofs.YtedkoimihknggaaGreatDoor.A

namespace Go.Proofs.YtedkoimihknggaaGreatDoor.A
set_option linter.unusedVariables false
set_option linter.unusedSimpArgs false
theorem Zm9 {α β : Type} {f : α→β} {m m' : List β} (h : m.Perm m') : ∀ {l : List α},l.map f=m→∃ l' : List α,l'.Perm l∧l'.map f=m':=by
 induction h with
 | nil=>intro l h;exact ⟨l,.refl _,h⟩
 | cons x _ ih=>
  intro l h
  cases l with
  | nil=>cases h
  | cons a l=>
   simp only [List.map_cons,List.cons.injEq] at h
   obtain ⟨l',h1,h2⟩:=ih h.2
   exact ⟨a :: l',h1.cons a,by simp [h.1,h2]⟩
 | swap x y l=>
  intro q h
  match q,h with
  | a :: b :: q,h=>
   simp only [List.map_cons,List.cons.injEq] at h
   exact ⟨b :: a :: q,.swap a b q,by simp [h.1,h.2.1,h.2.2]⟩
 | trans _ _ ih1 ih2=>
  intro l h
  obtain ⟨l1,h1,h2⟩:=ih1 h
  obtain ⟨l2,h3,h4⟩:=ih2 h2
  exact ⟨l2,h3.trans h1,h4⟩
def Zfq : Zd→Bool
 | .map _ _=>true
 | .mapU _=>true
 | _=>false
def Zen (H : Zc) : List (Value × Value × Nat)→Option (List Zd)
 | []=>some []
 | e :: es=>match e.2.1,Zen H es with
  | .map (some s),some l=>match H[s]? with
   | some x=>if Zfq x then some (x :: l) else none
   | none=>none
  | _,_=>none
def ZcN (base : Nat) : List (Value × Value × Nat)→List (Value × Value × Nat)
 | []=>[]
 | e :: es=>(e.1,.map (some base),0) :: ZcN (base+1) es
open Classical in
noncomputable def Zpj (H : Zc) (o : Nat) : Option (List (Value × Value × Nat)):=
 match H[o]? with
 | some (.map es clk)=>if Zan es clk then some es else none
 | some (.mapU es)=>some es
 | _=>none
open Classical in
noncomputable def ZkG (args : List Value) : M Value:=fun H=>
 match args with
 | [.pointer (some ⟨g,0,none⟩)]=>match H[g]? with
  | some (.cells [.map (some o)] _ false false)=>match Zpj H o with
   | some es=>match Zen H es with
    | some l=>if ∃ ks,Zei es ks then some (pt (H.length+l.length+1),H++l++[.mapU (ZcN H.length es)]++[.cells [.map (some (H.length+l.length))] 1 false false]) else none
    | none=>none
   | none=>none
  | _=>none
 | _=>none
section
variable {P : Program} {w0 : Z5} {ι : Nat→Option Loc} {H H1 : Zc} {w w' : World} {v : Value} {G : Nat}
theorem ZsY {args : List Value} (h : ZkG args H=some (v,H1)) : ∃ g o e es ks l,args=[pt g]∧H[g]?=some (.cells [.map (some o)] e false false)∧Zpj H o=some es∧Zei es ks∧Zen H es=some l∧v=pt (H.length+l.length+1)∧H1=H++l++[.mapU (ZcN H.length es)]++[.cells [.map (some (H.length+l.length))] 1 false false]:=by
 unfold ZkG at h
 split at h
 ·rename_i g
  split at h
  ·rename_i o e hg
   split at h
   ·rename_i es hes
    split at h
    ·rename_i l hl
     split at h
     ·rename_i hk
      obtain ⟨ks,hk⟩:=hk
      cases h
      exact ⟨g,o,e,es,ks,l,rfl,hg,hes,hk,hl,rfl,rfl⟩
     ·cases h
    ·cases h
   ·cases h
  ·cases h
 ·cases h
structure ZqQ (P : Program) (g : FuncId) : Prop where
 c : ZaU P g
 run : ∀ (w : World) (gb b : Nat) (es : Array MapEntry) (clock : Nat),gb < w.heap.size→w.cell? ⟨gb,0,none⟩=some (.map (some b))→w.heap[b]?=some (.map es clock)→Go.MapKept.Stamped es clock→
  (∀ x∈es.toList,∃ k : List UInt8,x.key=strv k)→(∀ x∈es.toList,∃ sb ses sclk,x.val=.map (some sb)∧w.heap[sb]?=some (.map ses sclk))→
  Calls P g #[.pointer (some ⟨gb,0,none⟩)] w fun e w'=>∃ (gb' ob : Nat) (el : TypeId) (en : Array MapEntry) (ck : Nat) (L : List (MapEntry × Nat)),e=.returned (.pointer (some ⟨gb',0,none⟩))∧
   w'.heap[gb']?=some (.cells #[.map (some ob)] el (0,0))∧w'.heap[ob]?=some (.map en ck)∧Go.MapKept.Stamped en ck∧
   en.toList.map (fun x=>(x.key,x.val))=L.map (fun p=>(p.1.key,Value.map (some p.2)))∧(L.map (·.1)).Perm es.toList∧
   (∀ p∈L,∃ sb,p.1.val=.map (some sb)∧w'.heap[p.2]?=w.heap[sb]?)∧(gb' :: ob :: L.map (·.2)).Nodup∧(∀ q∈gb' :: ob :: L.map (·.2),w.heap.size≤q)∧Go.RowKit.Below w.heap.size w w'
def Zce (ι : Nat→Option Loc) (H : Zc) (b : Nat) : Prop:=(∀ i oi li,H[i]?=some oi→oi.wr=true→ι i=some li→li.blk≠b)∧
 ∀ j cs es nx lj,H[j]?=some (.view cs es nx)→ι j=some lj→lj.blk=b→∃ l',ι nx=some l'∧l'.blk=lj.blk∧l'.base=lj.base
theorem Zce.add {o : Zd} {l : Loc} {b : Nat} (h : Zce ι H b) (hS : Sim G w0 ι H w) (hb : l.blk≠b) (hov : o.isV=false:=by rfl) : Zce (Yx ι H.length l) (H++[o]) b:=by
 refine ⟨?_,fun j cs es nx lj hj hlj hbe=>?_⟩
 rotate_left
 ·rcases Nat.lt_trichotomy j H.length with hlt | rfl | hgt
  ·rw [List.getElem?_append_left hlt] at hj
   have : Yx ι H.length l j=ι j:=by unfold Yx;simp [Nat.ne_of_lt hlt]
   rw [this] at hlj
   obtain ⟨l',k1,k2⟩:=h.2 j cs es nx lj hj hlj hbe
   exact ⟨l',JG hS _ _ _ k1,k2⟩
  ·rw [Zx] at hj
   rw [Option.some.inj hj] at hov;cases hov
  ·rw [List.getElem?_eq_none (by simp;omega)] at hj;cases hj
 intro i oi li hi hw hl
 rcases Nat.lt_trichotomy i H.length with hlt | rfl | hgt
 ·rw [List.getElem?_append_left hlt] at hi
  have : Yx ι H.length l i=ι i:=by unfold Yx;simp [Nat.ne_of_lt hlt]
  rw [this] at hl
  exact h.1 i oi li hi hw hl
 ·have : Yx ι H.length l H.length=some l:=Z7 _ _ _
  rw [this] at hl
  cases hl
  exact hb
 ·rw [List.getElem?_eq_none (by simp;omega)] at hi;cases hi
abbrev ZeF (b : Nat) : Loc:=⟨b,0,0,0,false⟩
def Zfl (ι : Nat→Option Loc) : Value→Value
 | .map (some s)=>.map ((ι s).map (·.blk))
 | v=>v
theorem ZsD {H : Zc} {w' : World} (hS : Sim G w0 ι H w) : ∀ (es : List (Value × Value × Nat)) (L : List (MapEntry × Nat)) (l : List Zd) (ι0 : Nat→Option Loc) (H0 : Zc),Sim G w0 ι0 H0 w'→Le ι ι0→Zen H es=some l→
  L.map (fun p=>(p.1.key,p.1.val))=es.map (fun e=>(e.1,Zfl ι e.2.1))→(∀ p∈L,∃ sb,p.1.val=.map (some sb)∧w'.heap[p.2]?=w.heap[sb]?)→(L.map (·.2)).Nodup→(∀ p∈L,Zce ι0 H0 p.2∧w0.heap.size≤p.2∧∀ b∈w0.prot,p.2≠b)→
  ∃ ι1,Le ι0 ι1∧Sim G w0 ι1 (H0++l) w'∧l.length=es.length∧(∀ i p,L[i]?=some p→ι1 (H0.length+i)=some (ZeF p.2))∧(∀ b,Zce ι0 H0 b→b∉L.map (·.2)→Zce ι1 (H0++l) b)
 | [],L,l,ι0,H0,h0,hle,hl,hm,_,_,_=>by
  cases hl
  have : L=[]:=by simpa using hm
  subst this
  exact ⟨ι0,.refl _,by rw [List.append_nil];exact h0,rfl,fun i p h=>by simp at h,fun b h _=>by rw [List.append_nil];exact h⟩
 | e :: es,L,l,ι0,H0,h0,hle,hl,hm,hc,hn,hf=>by
  cases L with
  | nil=>simp at hm
  | cons p L=>
   simp only [List.map_cons,List.cons.injEq,Prod.mk.injEq] at hm
   unfold Zen at hl
   split at hl
   ·rename_i _ _ s l' he hl'
    split at hl
    ·rename_i x hx
     split at hl
     ·rename_i hmp
      cases hl
      obtain ⟨sb,hsb,hcp⟩:=hc p (by simp)
      obtain ⟨hfp,hgp,hpp⟩:=hf p (by simp)
      rw [he] at hm
      have hv:=hm.1.2
      rw [hsb] at hv
      have hsl : ∃ ls,ι s=some ls∧ls.blk=sb:=by
       simp only [Zfl] at hv
       cases hs : ι s with
       | none=>rw [hs] at hv;simp at hv
       | some ls=>rw [hs] at hv;exact ⟨ls,rfl,by simpa using hv.symm⟩
      obtain ⟨ls,hls,rfl⟩:=hsl
      have hR : ZaR w0 (Yx ι0 H0.length (ZeF p.2)) H0.length x w':=by
       have hle2 : Le ι (Yx ι0 H0.length (ZeF p.2)):=hle.trans (JG h0 _)
       cases x with
       | map es' clk=>
        obtain ⟨en,hb,hge,hE⟩:=hS.mapR hx hls
        exact ⟨_,en,Z7 _ _ _,hcp.trans hb,hgp,hE.mono hle2⟩
       | mapU es'=>
        obtain ⟨en,clk,es2,hb,hge,hE,hp⟩:=hS.mapUR hx hls
        exact ⟨_,en,clk,es2,Z7 _ _ _,hcp.trans hb,hgp,hE.mono hle2,hp⟩
       | _=>simp [Zfq] at hmp
      have hov : x.isV=false:=by cases x <;> first | rfl | simp [Zfq] at hmp
      have h1:=h0.add hR hfp.1 hpp (fun _=>hfp.2) hov
      simp only [List.map_cons,List.nodup_cons] at hn
      obtain ⟨ι1,a1,a2,a3,a4,a5⟩:=ZsD hS es L l' _ _ h1 (hle.trans (JG h0 _)) hl' hm.2 (fun q hq=>hc q (by simp [hq])) hn.2 (fun q hq=>by
       obtain ⟨b1,b2⟩:=hf q (by simp [hq])
       exact ⟨b1.add h0 (fun e=>hn.1 (List.mem_map.2 ⟨q,hq,e.symm⟩)) hov,b2⟩)
      refine ⟨ι1,(JG h0 _).trans a1,by rw [List.append_assoc,List.singleton_append] at a2;exact a2,by simp [a3],fun i q hi=>?_,fun b hb hnb=>?_⟩
      ·cases i with
       | zero=>
        have : p=q:=by simpa using hi
        subst this
        exact a1 _ _ (Z7 _ _ _)
       | succ i=>
        have:=a4 i q (by simpa using hi)
        rwa [List.length_append,List.length_singleton,Nat.add_assoc,Nat.add_comm 1 i] at this
      ·simp only [List.map_cons,List.mem_cons,not_or] at hnb
       have:=a5 b (hb.add h0 (Ne.symm hnb.1) hov) hnb.2
       rwa [List.append_assoc,List.singleton_append] at this
     ·cases hl
    ·cases hl
   ·cases hl
theorem Zce.sim (h : Sim G w0 ι H w) {b : Nat} (hb : w.heap.size≤b) : Zce ι H b:=⟨fun i oi li hi hw hl=>by
 have:=((h.obj i oi hi).newer hw li hl).2
 omega,fun j cs es nx lj hj hlj hbe=>by
 rcases h.views j cs es nx lj hj hlj with ⟨l',k1,k2⟩ | ⟨⟨c,el,fr,k1,_⟩,_⟩
 ·exact ⟨l',k1,k2⟩
 ·have:=(Array.getElem?_eq_some_iff.1 k1).1
  omega⟩
theorem Zma (h : Sim G w0 ι H w) {b : Nat} (hb : w.heap.size≤b) : ∀ c∈w0.prot,b≠c:=fun c hc e=>by
 have p1:=(h.prot c hc).1
 subst e
 rw [Array.getElem?_eq_none hb] at p1;cases p1
def Zop (B : List ((MapEntry × Nat) × Nat)) (en : List MapEntry) : List (Value × Value × Nat):=List.zipWith (fun b x=>(b.1.1.key,Value.map (some b.2),x.born)) B en
theorem Zpr : ∀ (B : List ((MapEntry × Nat) × Nat)) (en : List MapEntry),en.map (fun x=>(x.key,x.val))=B.map (fun b=>(b.1.1.key,Value.map (some b.1.2)))→(∀ b∈B,Qr b.1.1.key=true∧ι b.2=some (ZeF b.1.2))→
  Q4 ι (Zop B en) en∧(Zop B en).map kv=B.map (fun b=>(b.1.1.key,Value.map (some b.2)))∧(Zop B en).map (·.2.2)=en.map (·.born)
 | [],[],_,_=>⟨trivial,rfl,rfl⟩
 | [],_ :: _,h,_=>by simp at h
 | _ :: _,[],h,_=>by simp at h
 | b :: B,x :: en,h,hb=>by
  simp only [List.map_cons,List.cons.injEq,Prod.mk.injEq] at h
  obtain ⟨h1,h2,h3⟩:=Zpr B en h.2 (fun c hc=>hb c (by simp [hc]))
  obtain ⟨g1,g2⟩:=hb b (by simp)
  have hm : RV ι (.map (some b.2)) (.map (some b.1.2)):=.mp (l:=ZeF b.1.2) g2
  refine ⟨⟨⟨g1,h.1.1,by rw [h.1.2];exact hm,rfl⟩,h1⟩,?_,?_⟩
  ·simp only [List.map_cons]
   rw [← h2];rfl
  ·simp only [List.map_cons]
   rw [← h3];rfl
theorem Zqw : ∀ (es : List (Value × Value × Nat)) (L : List (MapEntry × Nat)) (base : Nat),L.map (fun p=>p.1.key)=es.map (·.1)→
  (ZcN base es).map kv=(L.zipIdx base).map (fun b=>(b.1.1.key,Value.map (some b.2)))∧(ZcN base es).map (·.1)=es.map (·.1)
 | [],L,base,h=>by
  have : L=[]:=by simpa using h
  subst this
  exact ⟨rfl,rfl⟩
 | e :: es,[],base,h=>by simp at h
 | e :: es,p :: L,base,h=>by
  simp only [List.map_cons,List.cons.injEq] at h
  obtain ⟨h1,h2⟩:=Zqw es L (base+1) h.2
  refine ⟨?_,?_⟩
  ·simp only [ZcN,List.map_cons,List.zipIdx_cons]
   rw [h1,← h.1];rfl
  ·simp only [ZcN,List.map_cons]
   rw [h2]
theorem Zlx : ∀ {es : List (Value × Value × Nat)} {l : List Zd},Zen H es=some l→∀ e∈es,∃ s x,e.2.1=.map (some s)∧H[s]?=some x∧Zfq x=true
 | [],l,h,e,he=>by cases he
 | e0 :: es,l,h,e,he=>by
  unfold Zen at h
  split at h
  ·rename_i _ _ s l' hv hl'
   split at h
   ·rename_i x hx
    split at h
    ·rename_i hm
     rcases List.mem_cons.1 he with rfl | he
     ·exact ⟨s,x,hv,hx,hm⟩
     ·exact Zlx hl' e he
    ·cases h
   ·cases h
  ·cases h
theorem Znd (hle : ∀ e : Value × Value × Nat,∀ n,RV ι e.2.1 n→(∃ s,e.2.1=.map (some s))→n=Zfl ι e.2.1) : ∀ (es : List (Value × Value × Nat)) (en : List MapEntry),Q4 ι es en→(∀ e∈es,∃ s,e.2.1=.map (some s))→en.map (fun x=>(x.key,x.val))=es.map (fun e=>(e.1,Zfl ι e.2.1))
 | [],[],_,_=>rfl
 | [],_ :: _,h,_=>h.elim
 | _ :: _,[],h,_=>h.elim
 | e :: es,n :: ns,h,hs=>by
  simp only [List.map_cons]
  rw [Znd hle es ns h.2 (fun e he=>hs e (by simp [he])),h.1.2.1,hle e _ h.1.2.2.1 (hs e (by simp))]
theorem Zvq {e : Value × Value × Nat} {n : Value} (h : RV ι e.2.1 n) (hs : ∃ s,e.2.1=.map (some s)) : n=Zfl ι e.2.1:=by
 obtain ⟨s,hs⟩:=hs
 rw [hs] at h ⊢
 obtain ⟨l,hl,rfl⟩:=h.map_inv
 simp [Zfl,hl]
theorem ZrV {g : FuncId} (hC : ZqQ P g) : Zde P G w0 g ZkG:=by
 intro args H v H1 h
 refine .inl ⟨hC.c,fun ι w args' hS hr=>?_⟩
 obtain ⟨gi,o,e1,es,ks,l,rfl,hg,hes,hk,hl,rfl,rfl⟩:=ZsY h
 obtain ⟨x,r,rfl,hx,hr2⟩:=hr.cons_inv
 rw [hr2.nil_inv]
 obtain ⟨lc,hlc,rfl⟩:=hx.ptr_inv
 obtain ⟨cc,el,fr,_,hgrow,hbc,hb5,hb6,hrc,hro,_⟩:=hS.cellsR hg hlc
 have hbase : lc.base=0:=(hro rfl).2.2 hgrow
 have hbl : lc.blk < w.heap.size:=by
  rcases Nat.lt_or_ge lc.blk w.heap.size with h1 | h1
  ·exact h1
  ·rw [Array.getElem?_eq_none h1] at hbc;cases hbc
 obtain ⟨u,hu1,hu2⟩:=hrc.at (o:=0) (by simp)
 obtain ⟨lm,hlm,hu3⟩:=RV.map_inv (id:=o) hu2
 subst hu3
 have hcell : w.cell? ⟨lc.blk,0,none⟩=some (.map (some lm.blk)):=by
  rw [Zd9 hbc]
  simpa [hbase] using hu1
 have hsets:=Zlx hl
 have hismap : ∀ e∈es,∃ s,e.2.1=.map (some s):=fun e he=>by obtain ⟨s,_,h1,_⟩:=hsets e he;exact ⟨s,h1⟩
 obtain ⟨en,clock,es2,hmb,hE,hperm,hst⟩ : ∃ (en : Array MapEntry) (clock : Nat) (es2 : List (Value × Value × Nat)),w.heap[lm.blk]?=some (.map en clock)∧Zay ι es2 en∧(es2.map kv).Perm (es.map kv)∧Zan es2 clock:=by
  unfold Zpj at hes
  split at hes
  ·rename_i es0 clk hid
   split at hes
   ·rename_i hst
    cases hes
    obtain ⟨en,hb,_,hE⟩:=hS.mapR hid hlm
    exact ⟨en,_,_,hb,hE,.refl _,hst⟩
   ·cases hes
  ·rename_i es0 hid
   cases hes
   obtain ⟨en,clk,es2,hb,_,hE,hp⟩:=hS.mapUR hid hlm
   exact ⟨en,clk,es2,hb,hE,hp.perm,hp.st⟩
  ·cases hes
 have hmem2 : ∀ e∈es2,∃ f∈es,f.1=e.1∧f.2.1=e.2.1:=fun e he=>by
  have : kv e∈es.map kv:=hperm.mem_iff.1 (List.mem_map.2 ⟨e,he,rfl⟩)
  obtain ⟨f,hf,h1⟩:=List.mem_map.1 this
  unfold kv at h1
  simp only [Prod.mk.injEq] at h1
  exact ⟨f,hf,h1.1,h1.2⟩
 have hismap2 : ∀ e∈es2,∃ s,e.2.1=.map (some s):=fun e he=>by
  obtain ⟨f,hf,_,h2⟩:=hmem2 e he
  rw [← h2];exact hismap f hf
 obtain ⟨k1,k2⟩:=Q4.keys hE
 have hkv:=Znd (fun e n h hs=>Zvq h hs) es2 en.toList hE hismap2
 have hkeyp : (es2.map (·.1)).Perm (ks.map strv):=by
  have h3:=hperm.map (·.1)
  rw [Zdw,Zdw] at h3
  rw [← hk.keys];exact h3
 have hstr : ∀ x∈en.toList,∃ k : List UInt8,x.key=strv k:=fun x hx=>by
  have h3 : x.key∈es2.map (·.1):=by rw [← k1];exact List.mem_map.2 ⟨x,hx,rfl⟩
  obtain ⟨k,_,h4⟩:=List.mem_map.1 (hkeyp.mem_iff.1 h3)
  exact ⟨k,h4.symm⟩
 have hsets2 : ∀ x∈en.toList,∃ sb ses sclk,x.val=.map (some sb)∧w.heap[sb]?=some (.map ses sclk):=fun x hx=>by
  have h3 : (x.key,x.val)∈es2.map (fun e=>(e.1,Zfl ι e.2.1)):=by rw [← hkv];exact List.mem_map.2 ⟨x,hx,rfl⟩
  obtain ⟨e,he,h4⟩:=List.mem_map.1 h3
  obtain ⟨f,hf,_,hf2⟩:=hmem2 e he
  obtain ⟨s,y,hy1,hy2,hy3⟩:=hsets f hf
  simp only [Prod.mk.injEq] at h4
  rw [← hf2,hy1] at h4
  have hd : y≠.dead:=by rintro rfl;simp [Zfq] at hy3
  obtain ⟨ls,hls,_⟩:=(hS.obj s y hy2).loc hd
  have h5 : x.val=.map (some ls.blk):=by rw [← h4.2];simp [Zfl,hls]
  cases y with
  | map es' clk=>
   obtain ⟨en',hb,_,_⟩:=hS.mapR hy2 hls
   exact ⟨_,_,_,h5,hb⟩
  | mapU es'=>
   obtain ⟨en',clk,_,hb,_,_⟩:=hS.mapUR hy2 hls
   exact ⟨_,_,_,h5,hb⟩
  | _=>simp [Zfq] at hy3
 have hstamp : Go.MapKept.Stamped en clock:=by
  refine ⟨fun x hx=>?_,by rw [k2];exact hst.nod,by rw [k1];exact hkeyp.nodup_iff.2 (ZfN hk.nod)⟩
  have h3 : x.born∈en.toList.map (·.born):=List.mem_map.2 ⟨x,hx,rfl⟩
  rw [k2] at h3
  obtain ⟨e',h1,h2⟩:=List.mem_map.1 h3
  rw [← h2];exact hst.lt e' h1
 simp only [Nat.add_zero,hbase]
 refine (hC.run w lc.blk lm.blk en clock hbl hcell hmb hstamp hstr hsets2).mono fun ee w' ⟨gb',ob,el',en',ck,L,he,hgb,hob,hst',hen',hL,hcp,hnd,hge,hb⟩=>?_
 have hS':=hS.below hb
 have hLkv : (L.map fun p=>(p.1.key,p.1.val)).Perm (es.map fun e=>(e.1,Zfl ι e.2.1)):=by
  have h3:=hL.map (fun x : MapEntry=>(x.key,x.val))
  rw [List.map_map,hkv] at h3
  have h4:=hperm.map (fun q : Value × Value=>(q.1,Zfl ι q.2))
  rw [List.map_map,List.map_map] at h4
  exact h3.trans h4
 obtain ⟨L',hL',hLm⟩:=Zm9 hLkv rfl
 simp only [List.nodup_cons,List.mem_cons,not_or] at hnd
 obtain ⟨⟨n1,n2⟩,n3,n4⟩:=hnd
 have hnod' : (L'.map (·.2)).Nodup:=(hL'.map _).nodup_iff.2 n4
 have hgeL : ∀ p∈L',w.heap.size≤p.2:=fun p hp=>hge _ (by simp only [List.mem_cons,List.mem_map];exact .inr (.inr ⟨p,hL'.mem_iff.1 hp,rfl⟩))
 obtain ⟨ι1,a1,a2,a3,a4,a5⟩:=ZsD hS es L' l ι H hS' (.refl _) hl hLm (fun p hp=>hcp p (hL'.mem_iff.1 hp)) hnod' (fun p hp=>⟨Zce.sim hS (hgeL p hp),Nat.le_trans hS.size (hgeL p hp),Zma hS (hgeL p hp)⟩)
 have hobge:=hge ob (by simp)
 have hgbge:=hge gb' (by simp)
 have hobF : Zce ι1 (H++l) ob:=a5 ob (Zce.sim hS hobge) fun hm=>n3 ((hL'.map (·.2)).mem_iff.1 hm)
 have hgbF : Zce ι1 (H++l) gb':=a5 gb' (Zce.sim hS hgbge) fun hm=>n2 ((hL'.map (·.2)).mem_iff.1 hm)
 obtain ⟨B,hB,hBm⟩:=Zm9 (f:=Prod.fst) (l:=L'.zipIdx H.length) (m':=L) (by rw [List.zipIdx_map_fst];exact hL') rfl
 have hBi : ∀ b∈B,Qr b.1.1.key=true∧ι1 b.2=some (ZeF b.1.2):=fun b hb=>by
  have hb':=hB.mem_iff.1 hb
  obtain ⟨i,hi⟩:=List.getElem?_of_mem hb'
  rw [List.getElem?_zipIdx] at hi
  cases hq : L'[i]? with
  | none=>rw [hq] at hi;cases hi
  | some q=>
   rw [hq] at hi
   have hi : (q,H.length+i)=b:=by simpa using hi
   subst hi
   refine ⟨?_,a4 i q hq⟩
   have hqL : q.1∈L.map (·.1):=List.mem_map.2 ⟨q,hL'.mem_iff.1 (List.mem_of_getElem? hq),rfl⟩
   obtain ⟨k,hk⟩:=hstr q.1 (hL.mem_iff.1 hqL)
   show Qr q.1.key=true
   rw [hk];rfl
 have hen2 : en'.toList.map (fun x=>(x.key,x.val))=B.map (fun b=>(b.1.1.key,Value.map (some b.1.2))):=by
  rw [hen',← hBm,List.map_map];rfl
 obtain ⟨z1,z2,z3⟩:=Zpr B en'.toList hen2 hBi
 have hkeysL : L'.map (fun p=>p.1.key)=es.map (·.1):=by
  have:=congrArg (List.map Prod.fst) hLm
  simpa [List.map_map,Function.comp_def] using this
 obtain ⟨y1,y2⟩:=Zqw es L' H.length hkeysL
 have hle1 : Le ι ι1:=a1
 have hlen : (H++l).length=H.length+l.length:=List.length_append
 have hPU : KS (Zop B en'.toList) ck (ZcN H.length es):=by
  refine ⟨?_,⟨fun e he=>?_,?_⟩,⟨fun e he=>?_,?_⟩⟩
  ·rw [z2,y1]
   exact hB.map _
  ·have : e.1∈(ZcN H.length es).map (·.1):=List.mem_map.2 ⟨e,he,rfl⟩
   rw [y2,hk.keys] at this
   obtain ⟨k,_,h4⟩:=List.mem_map.1 this
   exact ⟨_,h4.symm⟩
  ·rw [y2,hk.keys];exact ZfN hk.nod
  ·have : e.2.2∈(Zop B en'.toList).map (·.2.2):=List.mem_map.2 ⟨e,he,rfl⟩
   rw [z3] at this
   obtain ⟨x,hx,h4⟩:=List.mem_map.1 this
   rw [← h4];exact hst'.1 x hx
  ·rw [z3];exact hst'.2.1
 have hO:=a2.add (o:=.mapU (ZcN H.length es)) (l:=ZeF ob) ⟨ZeF ob,en',ck,_,Z7 _ _ _,hob,Nat.le_trans hS.size hobge,z1.mono (JG a2 _),hPU⟩ hobF.1 (Zma hS hobge) (fun _=>hobF.2)
 have hgbF2 : Zce (Yx ι1 (H++l).length (ZeF ob)) (H++l++[.mapU (ZcN H.length es)]) gb':=hgbF.add a2 (Ne.symm n1)
 have hN:=hO.add (o:=.cells [.map (some (H.length+l.length))] 1 false false) (l:=⟨gb',0,1,1,false⟩) (by
  refine ⟨⟨gb',0,1,1,false⟩,_,_,_,Z7 _ _ _,rfl,rfl,hgb,by simp,by simp,?_,fun _=>⟨Nat.le_trans hS.size hgbge,.inl rfl,fun _=>rfl⟩,by simp,by simp [oneCell]⟩
  refine ⟨rfl,fun i hi=>?_⟩
  have : i=0:=by simpa using hi
  subst this
  refine .mp (l:=ZeF ob) (JG hO _ _ _ ?_)
  rw [← hlen]
  exact Z7 _ _ _) hgbF2.1 (Zma hS hgbge) (fun _=>hgbF2.2)
 refine ⟨_,_,(hle1.trans (JG a2 _)).trans (JG hO _),he,?_,hN⟩
 have hp:=RV.ptr (ι:=Yx (Yx ι1 (H++l).length (ZeF ob)) (H++l++[Zd.mapU (ZcN H.length es)]).length ⟨gb',0,1,1,false⟩) (o:=0) (Z7 _ _ _)
 have hlen2 : (H++l++[Zd.mapU (ZcN H.length es)]).length=H.length+l.length+1:=by rw [List.length_append,List.length_append,List.length_singleton]
 rw [hlen2] at hp ⊢
 exact hp
end
end Go.Proofs.YtedkoimihknggaaGreatDoor.A

namespace Go.Proofs.YtedkoimihknggaaGreatDoor.A
set_option linter.unusedVariables false
set_option linter.unusedSimpArgs false
open Go.RowKit Go.Maps Go.ChangeMaps Go.MapKept
section
variable {P : Program} (w : World) {ops : Array Oper} {rest : List Oper} {o : Oper} {a : Act} {Q : Exit→Act→World→Prop}
theorem Zks (hg : o.guard=none) (m : Operand) (t : TypeId) (hop : o.op=Op.range t m) (k e : TypeId) (ht : P.underlying t=some (.map k e)) (b : Nat) (es : Array MapEntry) (clock : Nat)
  (hm : a.eval m=.map (some b)) (hb : w.heap[b]?=some (.map es clock))
  (hK : wpList P ops Q rest (a.put o.dst (.pointer (some ⟨w.heap.size,0,none⟩))) (w.alloc (.mapIter (some b) clock #[] clock))) :
  wpList P ops Q (o :: rest) a w:=by
 refine wpList_plain hg fun K' hK'=>?_
 have hrun:=run_range_map (P:=P) w t k e b es clock ht hb
 unfold Oper.wp
 simp [execOp,hop,hm,hrun,Result.andThen]
 exact hK' _ _ hK
theorem Zla (hg : o.guard=none) (it : Operand) (hop : o.op=Op.next it false) (b r since c0 clock : Nat) (seen : Array Nat) (es : Array MapEntry)
  (hit : a.eval it=.pointer (some ⟨r,0,none⟩)) (hr : w.heap[r]?=some (.mapIter (some b) since seen c0)) (hb : w.heap[b]?=some (.map es clock)) (hst : Go.MapKept.Stamped es clock) (hsince : since=clock) (hsc : since≤c0)
  (hDone : (∀ x∈es.toList,x.born∈seen)→wpList P ops Q rest (a.put o.dst (.tuple #[.bool false])) w)
  (hMore : ∀ (e : MapEntry) (w' : World),e∈es.toList→e.born∉seen→w'.heap[r]?=some (.mapIter (some b) since (seen.push e.born) clock)→(leftOf es (seen.push e.born)).size < (leftOf es seen).size→
   w.grownBy w' (some r)→w'.heap.size=w.heap.size→(Instr.entry (.pointer (some ⟨r,0,none⟩))).run P w'=.ok (.tuple #[e.key,e.val]) w'→wpList P ops Q rest (a.put o.dst (.tuple #[.bool true,e.key,e.val])) w') :
  wpList P ops Q (o :: rest) a w:=by
 refine wpList_plain hg fun K' hK'=>?_
 unfold Oper.wp
 have hold : ∀ x∈es.toList,x.born < since:=by rw [hsince];exact hst.1
 rcases run_next_at (P:=P) w o.type r b since c0 seen es clock hr hb hold hsc with ⟨h0,hrun⟩ | ⟨e,he,w1,hal,hrun⟩
 ·simp [execOp,hop,hit,hrun,Result.andThen]
  refine hK' _ _ (hDone fun x hx=>?_)
  have:=all_seen es seen h0 x hx
  simpa using this
 ·obtain ⟨hem,hes⟩:=mem_left he
  have hr1 : w1.heap[r]?=some (.mapIter (some b) since seen c0):=by rcases hal with rfl | rfl <;> exact hr
  have hb1 : w1.heap[b]?=some (.map es clock):=by rcases hal with rfl | rfl <;> exact hb
  have hset:=heap_set (o':=.mapIter (some b) since (seen.push e.born) clock) hr1
  have hne : r≠b:=by
   intro e1
   rw [e1,hb] at hr
   cases hr
  have hb' : (setBlock w1 r (.mapIter (some b) since (seen.push e.born) clock)).heap[b]?=some (.map es clock):=(hset.2 b (fun e1=>hne e1.symm)).trans hb1
  simp [execOp,hop,hit,hrun,Result.andThen]
  refine hK' _ _ (hMore e _ hem (by simpa using hes) hset.1 (left_shrinks es seen e he) ?_ ?_ (run_entry_at _ r b since seen es clock e hset.1 hb' hem ((stamped_iff es clock).1 hst).2.1))
  ·rcases hal with rfl | rfl <;> exact ⟨rfl,rfl,rfl,by simp [setBlock],fun i _ hi=>hset.2 i (fun e1=>hi (by rw [e1]))⟩
  ·rcases hal with rfl | rfl <;> simp [setBlock]
end
theorem YE {w : World} {o : Obj} {b : Nat} (h : b < w.heap.size) : (w.alloc o).heap[b]?=w.heap[b]?:=(MapKept.heap_alloc w o).2 b h
theorem Zqr {P : Program} {t kt e : TypeId} {k : List UInt8} {en : Array MapEntry} {ck ob : Nat} {W : World} (ht : P.underlying t=some (.map kt e)) (htk : tkT P kt=.str) (hb : W.heap[ob]?=some (.map en ck)) (hkeys : ∀ x∈en.toList,∃ k',x.key=strv k'∧k'≠k) (v : Value) :
  ∃ W2,(Instr.mapUpdate t (.map (some ob)) (strv k) v).run P W=.ok () W2∧W2=setB W ob (.map (en.push { key:=strv k,val:=v,born:=ck }) (ck+1)):=by
 have hok : okK (tkT P kt) (strv k)=true:=by rw [htk];rfl
 obtain ⟨d,hd,hsk,hchk⟩:=WB hok
 have hE : ∀ l : List MapEntry,(∀ x∈l,∃ k',x.key=strv k'∧k'≠k)→Q4 (fun _=>none) (l.map fun x=>(x.key,Value.tuple #[],x.born)) l∧∀ i,Jw .str (strv k) (l.map fun x=>(x.key,Value.tuple #[],x.born)) i=some none:=by
  intro l
  induction l with
  | nil=>intro _;exact ⟨trivial,fun _=>rfl⟩
  | cons x l ih=>
   intro h
   obtain ⟨k',hk1,hk2⟩:=h x (by simp)
   obtain ⟨h1,h2⟩:=ih fun y hy=>h y (by simp [hy])
   refine ⟨⟨⟨by show Qr x.key=true;rw [hk1];rfl,rfl,.un,rfl⟩,h1⟩,fun i=>?_⟩
   have hs : ZaB .str (strv k) x.key=some (k==k'):=by rw [hk1];simp only [ZaB,strv,Zsz]
   simp only [List.map_cons,Jw,hs]
   rw [show (k==k')=false by rw [beq_eq_false_iff_ne];exact Ne.symm hk2]
   exact h2 _
 obtain ⟨h1,h2⟩:=hE en.toList hkeys
 obtain ⟨r',h3,h4⟩:=Yr (k:=strv k) hd 0 h1 (by rw [htk];exact h2 0)
 cases r' with
 | some p=>exact h4.elim
 | none=>
  refine ⟨_,?_,rfl⟩
  simp only [Instr.mapUpdate,Sem.run_bind,run_underlying ht,Result.andThen_ok,Q9 hb,hchk,Jd hd h3,J3 hb]
structure CpR (w : World) (b r gb' ob : Nat) (es : Array MapEntry) (clock : Nat) (seen : Array Nat) (c0 : Nat) (en : Array MapEntry) (ck : Nat) (L : List (MapEntry × Nat)) (el : TypeId) (wr : World) : Prop where
 it : wr.heap[r]?=some (.mapIter (some b) clock seen c0)
 c0 : clock≤c0
 g : wr.heap[gb']?=some (.cells #[.map (some ob)] el (0,0))
 o : wr.heap[ob]?=some (.map en ck)
 st : Go.MapKept.Stamped en ck
 ent : en.toList.map (fun x=>(x.key,x.val))=L.map (fun p=>(p.1.key,Value.map (some p.2)))
 sn : L.map (·.1.born)=seen.toList
 mem : ∀ p∈L,p.1∈es.toList∧∃ sb ses sclk,p.1.val=.map (some sb)∧w.heap[sb]?=some (.map ses sclk)∧wr.heap[p.2]?=some (.map ses sclk)
 nod : (r :: gb' :: ob :: L.map (·.2)).Nodup
 ge : ∀ q∈r :: gb' :: ob :: L.map (·.2),w.heap.size≤q
 snod : seen.toList.Nodup
 bel : Below w.heap.size w wr
section
variable {w wr w1 : World} {b r g o : Nat} {es : Array MapEntry} {clock : Nat} {seen : Array Nat} {c0 : Nat} {en : Array MapEntry} {ck : Nat} {L : List (MapEntry × Nat)} {el : TypeId}
theorem CpR.lts (h : CpR w b r g o es clock seen c0 en ck L el wr) : r < wr.heap.size∧g < wr.heap.size∧o < wr.heap.size:=⟨(Array.getElem?_eq_some_iff.1 h.it).1,(Array.getElem?_eq_some_iff.1 h.g).1,(Array.getElem?_eq_some_iff.1 h.o).1⟩
theorem CpR.keys (h : CpR w b r g o es clock seen c0 en ck L el wr) (hst : Go.MapKept.Stamped es clock) {e : MapEntry} (he1 : e∈es.toList) (he2 : e.born∉seen) : ∀ x∈en.toList,x.key≠e.key:=fun x hx e4=>by
 have h3 : (x.key,x.val)∈L.map (fun p=>(p.1.key,Value.map (some p.2))):=by rw [← h.ent];exact List.mem_map.2 ⟨x,hx,rfl⟩
 obtain ⟨p,hp,h4⟩:=List.mem_map.1 h3
 simp only [Prod.mk.injEq] at h4
 obtain ⟨hm,_⟩:=h.mem p hp
 have h5 : p.1=e:=entry_eq_of_key ((stamped_iff es clock).1 hst).2.2 hm he1 (h4.1.trans e4)
 have : p.1.born∈seen.toList:=by rw [← h.sn];exact List.mem_map.2 ⟨p,hp,rfl⟩
 rw [h5] at this
 exact he2 (by simpa using this)
theorem CpR.next (h : CpR w b r g o es clock seen c0 en ck L el wr) (hst : Go.MapKept.Stamped es clock) {e : MapEntry} {sb sclk : Nat} {ses : Array MapEntry} (he1 : e∈es.toList) (he2 : e.born∉seen) (hev : e.val=.map (some sb)) (hsb : w.heap[sb]?=some (.map ses sclk))
  (hit : w1.heap[r]?=some (.mapIter (some b) clock (seen.push e.born) clock)) (hgr : wr.grownBy w1 (some r)) (hsz : w1.heap.size=wr.heap.size) :
  CpR w b r g o es clock (seen.push e.born) clock (en.push { key:=e.key,val:=.map (some wr.heap.size),born:=ck }) (ck+1) (L++[(e,wr.heap.size)]) el
   (setB (w1.alloc (.map ses sclk)).drew o (.map (en.push { key:=e.key,val:=.map (some wr.heap.size),born:=ck }) (ck+1))):=by
 obtain ⟨l1,l2,l3⟩:=h.lts
 have hnod:=h.nod
 simp only [List.nodup_cons,List.mem_cons,not_or] at hnod
 obtain ⟨⟨n1,n2,n3⟩,⟨n4,n5⟩,n6,n7⟩:=hnod
 generalize hX : Obj.map (en.push { key:=e.key,val:=.map (some wr.heap.size),born:=ck }) (ck+1)=X
 have hge:=h.ge
 have hLlt : ∀ p∈L,p.2 < wr.heap.size:=fun p hp=>by
  obtain ⟨_,sb',ses',sclk',h1,h2,h3⟩:=h.mem p hp
  exact (Array.getElem?_eq_some_iff.1 h3).1
 have keep : ∀ c,c < wr.heap.size→c≠o→c≠r→(setB (w1.alloc (.map ses sclk)).drew o X).heap[c]?=wr.heap[c]?:=fun c hc h1 h2=>by
  rw [Ja h1]
  show (w1.alloc (.map ses sclk)).heap[c]?=_
  rw [YE (by omega),hgr.block c hc (by simpa using h2)]
 have hk:=h.keys hst he1 he2
 have hst2:=(stamped_iff en ck).1 h.st
 refine ⟨?_,Nat.le_refl _,by rw [keep g l2 n4 (Ne.symm n1)];exact h.g,?_,?_,?_,?_,?_,?_,?_,?_,?_⟩
 ·rw [Ja n2]
  show (w1.alloc (.map ses sclk)).heap[r]?=_
  rw [YE (by omega)];exact hit
 ·rw [ZbW (by show o < (w1.alloc (.map ses sclk)).heap.size;simp;omega),hX]
 ·refine (stamped_iff _ _).2 ⟨fun x hx=>?_,?_,?_⟩
  ·rw [Array.toList_push,List.mem_append] at hx
   rcases hx with hx | hx
   ·exact Nat.lt_succ_of_lt (hst2.1 x hx)
   ·have : x={ key:=e.key,val:=.map (some wr.heap.size),born:=ck }:=by simpa using hx
    rw [this];exact Nat.lt_succ_self _
  ·rw [Array.toList_push,List.map_append,List.nodup_append]
   refine ⟨hst2.2.1,by simp,fun a ha c hc=>?_⟩
   have hc : c=ck:=by simpa using hc
   obtain ⟨x,hx,rfl⟩:=List.mem_map.1 ha
   have:=hst2.1 x hx
   omega
  ·rw [Array.toList_push,List.pairwise_append]
   refine ⟨hst2.2.2,by simp,fun x hx y hy=>?_⟩
   have : y={ key:=e.key,val:=.map (some wr.heap.size),born:=ck }:=by simpa using hy
   rw [this];exact hk x hx
 ·rw [Array.toList_push,List.map_append,List.map_append,h.ent];rfl
 ·rw [List.map_append,h.sn,Array.toList_push];rfl
 ·intro p hp
  rcases List.mem_append.1 hp with hp | hp
  ·obtain ⟨h1,sb',ses',sclk',h2,h4,h3⟩:=h.mem p hp
   have hp2 : p.2∈L.map (·.2):=List.mem_map.2 ⟨p,hp,rfl⟩
   exact ⟨h1,sb',ses',sclk',h2,h4,by rw [keep p.2 (hLlt p hp) (fun e1=>n6 (e1 ▸ hp2)) (fun e1=>n3 (e1 ▸ hp2))];exact h3⟩
  ·have : p=(e,wr.heap.size):=by simpa using hp
   subst this
   refine ⟨he1,sb,ses,sclk,hev,hsb,?_⟩
   rw [Ja (by show wr.heap.size≠o;omega)]
   show (w1.alloc (.map ses sclk)).heap[wr.heap.size]?=_
   rw [← hsz]
   exact (MapKept.heap_alloc w1 _).1
 ·have hnew : ∀ q∈r :: g :: o :: L.map (·.2),q≠wr.heap.size:=fun q hq=>by
   simp only [List.mem_cons] at hq
   rcases hq with rfl | rfl | rfl | hq
   ·omega
   ·omega
   ·omega
   ·obtain ⟨p,hp,rfl⟩:=List.mem_map.1 hq
    exact Nat.ne_of_lt (hLlt p hp)
  have : r :: g :: o :: (L++[(e,wr.heap.size)]).map (·.2)=(r :: g :: o :: L.map (·.2))++[wr.heap.size]:=by simp
  rw [this,List.nodup_append]
  refine ⟨h.nod,by simp,fun a ha c hc=>?_⟩
  have hc : c=wr.heap.size:=by simpa using hc
  rw [hc];exact hnew a ha
 ·intro q hq
  have : r :: g :: o :: (L++[(e,wr.heap.size)]).map (·.2)=(r :: g :: o :: L.map (·.2))++[wr.heap.size]:=by simp
  rw [this] at hq
  rcases List.mem_append.1 hq with hq | hq
  ·exact hge q hq
  ·have : q=wr.heap.size:=by simpa using hq
   rw [this];exact h.bel.size
 ·rw [Array.toList_push,List.nodup_append]
  refine ⟨h.snod,by simp,fun a ha c hc=>?_⟩
  have hc : c=e.born:=by simpa using hc
  rw [hc];rintro rfl;exact he2 (by simpa using ha)
 ·refine ⟨(show w1.os=_ from hgr.os.trans h.bel.os),(show w1.tape=_ from hgr.tape.trans h.bel.tape),(show w1.output=_ from hgr.output.trans h.bel.output),?_,fun i hi=>?_⟩
  ·rw [Zs5]
   show _≤(w1.alloc (.map ses sclk)).heap.size
   have:=h.bel.size
   simp;omega
  ·have ho:=hge o (by simp)
   have hr:=hge r (by simp)
   rw [keep i (Nat.lt_of_lt_of_le hi h.bel.size) (by omega) (by omega)]
   exact h.bel.block i hi
theorem CpR.left (h : CpR w b r g o es clock seen c0 en ck L el wr) (hb : w.heap[b]?=some (.map es clock)) : wr.heap[b]?=some (.map es clock)∧wr.rangeLeft b r=(leftOf es seen).size:=by
 have hbl : b < w.heap.size:=(Array.getElem?_eq_some_iff.1 hb).1
 have h1 : wr.heap[b]?=some (.map es clock):=(h.bel.block b hbl).trans hb
 refine ⟨h1,?_⟩
 simp only [World.rangeLeft,h1,h.it]
theorem CpR.perm (h : CpR w b r g o es clock seen c0 en ck L el wr) (hst : Go.MapKept.Stamped es clock) (hall : ∀ x∈es.toList,x.born∈seen) : (L.map (·.1)).Perm es.toList:=by
 have hst2:=(stamped_iff es clock).1 hst
 have n1 : (L.map (·.1)).Nodup:=by
  have : ((L.map (·.1)).map (·.born)).Nodup:=by rw [List.map_map];exact h.sn ▸ h.snod
  exact List.Pairwise.of_map _ (fun a b h e=>h (congrArg _ e)) this
 have n2 : es.toList.Nodup:=List.Pairwise.of_map _ (fun a b h e=>h (congrArg _ e)) hst2.2.1
 refine (List.perm_ext_iff_of_nodup n1 n2).2 fun x=>⟨fun hx=>?_,fun hx=>?_⟩
 ·obtain ⟨p,hp,rfl⟩:=List.mem_map.1 hx
  exact (h.mem p hp).1
 ·have h1 : x.born∈L.map (·.1.born):=by rw [h.sn];simpa using hall x hx
  obtain ⟨p,hp,h2⟩:=List.mem_map.1 h1
  have : p.1=x:=born_inj hst2.2.1 (h.mem p hp).1 hx h2
  exact List.mem_map.2 ⟨p,hp,this⟩
end
set_option maxRecDepth 100000 in
theorem Zwz (hCl : Zes Tryz.prog 196) : ZqQ Tryz.prog 158 where
 c:=⟨Tryz.f158,Tryz.func158,by kernel_rfl,by kernel_rfl⟩
 run:=fun w gb b es clock hgb hcell hb hst hks hvs=>by
  have hmm:=@run_makeMap Tryz.prog
  have hbl : b < w.heap.size:=(Array.getElem?_eq_some_iff.1 hb).1
  go_enter Tryz.func158,Tryz.ntmps158
  go_wp2_with (first
   | (at_range;refine Zks _ rfl _ 154 rfl _ _ Tryz.underlying154 b es clock rfl ?_ ?_)
   | go_in)
  ·rw [YE (by simp;omega),YE hbl];exact hb
  ·go_frame
   have e1 : ((w.alloc (.map #[] 0)).alloc (.cells #[.map (some w.heap.size)] 156)).heap.size=w.heap.size+2:=by simp
   have e2 : (w.alloc (.map #[] 0)).heap.size=w.heap.size+1:=by simp
   rw [e1]
   try rw [e2]
   go_loopw [4,5] (fun _ _ wr=>∃ seen c0 en ck L,CpR w b (w.heap.size+2) (w.heap.size+1) w.heap.size es clock seen c0 en ck L 156 wr) (fun _ _ wr=>wr.rangeLeft b (w.heap.size+2))
   case atStart=>
    refine ⟨#[],clock,#[],0,[],?_⟩
    have hA:=fun (w : World) (o : Obj)=>(MapKept.heap_alloc w o).1
    refine ⟨?_,Nat.le_refl _,?_,?_,⟨by simp,by simp,by simp⟩,rfl,rfl,by simp,by simp,?_,by simp,?_⟩
    ·rw [← e1];exact hA _ _
    ·rw [YE (by rw [e1];omega),← e2];exact hA _ _
    ·rw [YE (by rw [e1];omega),YE (by rw [e2];omega)];exact hA _ _
    ·intro q hq
     simp only [List.map_nil,List.mem_cons,List.not_mem_nil,or_false] at hq
     omega
    ·exact (((Below.refl _ _).alloc (Nat.le_refl _) _).alloc (by rw [e2];omega) _).alloc (by rw [e1];omega) _
   case round=>
    obtain ⟨seen,c0,en,ck,L,hR⟩:=hrel
    go_wp2_with (first
     | (at_next;refine Zla _ rfl _ rfl b (w.heap.size+2) clock c0 clock seen es rfl hR.it ?_ hst rfl hR.c0 ?_ ?_)
     | go_in)
    ·exact (hR.left hb).1
    ·intro hdone
     go_wp2
     go_ret
     have hp:=hR.perm hst (by simpa using hdone)
     have hnod:=hR.nod
     have hge:=hR.ge
     exact ⟨_,_,_,_,_,_,rfl,hR.g,hR.o,hR.st,hR.ent,hp,fun p hp=>(by obtain ⟨_,sb,ses,sclk,h1,h2,h3⟩:=hR.mem p hp;exact ⟨sb,h1,h3.trans h2.symm⟩),(List.nodup_cons.1 hnod).2,fun q hq=>hge q (List.mem_cons_of_mem _ hq),hR.bel⟩
    ·intro e w1 he1 he2 hit1 hlt hgr hsz hen
     go_upto_region 5 with fail
     have he1 : e∈es.toList:=by simpa using he1
     obtain ⟨sb,ses,sclk,hev,hsb⟩:=hvs e he1
     obtain ⟨k,hek⟩:=hks e he1
     obtain ⟨W2,hcg,hcg2,hsz1,hsb1,hmu,hW2⟩ : ∃ W2,w1.cell? ⟨w.heap.size+1,0,none⟩=some (.map (some w.heap.size))∧(w1.alloc (.map ses sclk)).cell? ⟨w.heap.size+1,0,none⟩=some (.map (some w.heap.size))∧w.heap.size+1 < wr.heap.size∧w1.heap[sb]?=some (.map ses sclk)∧
       (Instr.mapUpdate 154 (.map (some w.heap.size)) (strv k) (.map (some wr.heap.size))).run Tryz.prog (w1.alloc (.map ses sclk)).drew=.ok () W2∧W2=setB (w1.alloc (.map ses sclk)).drew w.heap.size (.map (en.push { key:=strv k,val:=.map (some wr.heap.size),born:=ck }) (ck+1)):=by
      have hw : w.heap.size < wr.heap.size:=(Array.getElem?_eq_some_iff.1 hR.o).1
      have hg1 : w1.heap[w.heap.size+1]?=some (.cells #[.map (some w.heap.size)] 156 (0,0)):=by
       rw [hgr.block _ (Array.getElem?_eq_some_iff.1 hR.g).1 (by simp)];exact hR.g
      have ho1 : w1.heap[w.heap.size]?=some (.map en ck):=by
       rw [hgr.block _ hw (by simp)];exact hR.o
      have hcg : w1.cell? ⟨w.heap.size+1,0,none⟩=some (.map (some w.heap.size)):=by
       rw [Zd9 hg1];rfl
      have hsbl : sb < w.heap.size:=(Array.getElem?_eq_some_iff.1 hsb).1
      have hsb1 : w1.heap[sb]?=some (.map ses sclk):=by
       rw [hgr.block _ (by omega) (by simp;omega),hR.bel.block sb hsbl];exact hsb
      have hoD : (w1.alloc (.map ses sclk)).drew.heap[w.heap.size]?=some (.map en ck):=by
       show (w1.alloc (.map ses sclk)).heap[w.heap.size]?=_
       rw [YE (by omega)];exact ho1
      have hkn : ∀ x∈en.toList,∃ k',x.key=strv k'∧k'≠k:=fun x hx=>by
       have h3 : (x.key,x.val)∈L.map (fun p=>(p.1.key,Value.map (some p.2))):=by rw [← hR.ent];exact List.mem_map.2 ⟨x,hx,rfl⟩
       obtain ⟨p,hp,h4⟩:=List.mem_map.1 h3
       simp only [Prod.mk.injEq] at h4
       obtain ⟨hm,_⟩:=hR.mem p hp
       obtain ⟨k',hk'⟩:=hks p.1 hm
       refine ⟨k',by rw [← h4.1];exact hk',fun e4=>he2 ?_⟩
       have h5 : p.1=e:=entry_eq_of_key ((stamped_iff es clock).1 hst).2.2 hm he1 (by rw [hk',hek,e4])
       have : p.1.born∈seen.toList:=by rw [← hR.sn];exact List.mem_map.2 ⟨p,hp,rfl⟩
       rw [h5] at this
       simpa using this
      obtain ⟨W2,hmu,hW2⟩:=Zqr (P:=Tryz.prog) (t:=154) (k:=k) (v:=.map (some wr.heap.size)) Tryz.underlying154 (by kernel_rfl) hoD hkn
      have hs1 : w.heap.size+1 < wr.heap.size:=(Array.getElem?_eq_some_iff.1 hR.g).1
      have hg2 : (w1.alloc (.map ses sclk)).heap[w.heap.size+1]?=some (.cells #[.map (some w.heap.size)] 156 (0,0)):=by
       rw [YE (by omega)];exact hg1
      exact ⟨W2,hcg,by rw [Zd9 hg2];rfl,hs1,hsb1,hmu,hW2⟩
     rw [hev,hek]
     go_region_with (first
      | (go_at_call 196;refine (hCl.some sb ses sclk _ ?_).mono ?_;exact hsb1;rintro e w' ⟨rfl,rfl⟩)
      | fail)
     ·have hN:=hR.next hst he1 he2 hev hsb hit1 hgr hsz
      rw [hek] at hN
      go_roundw
      case rel=>(repeat apply Exists.intro);exact ⟨⟨_,_,_,_,_,hN⟩,rfl⟩
      case measure=>rw [(hN.left hb).2,(hR.left hb).2];exact hlt
     ·have hN:=hR.next hst he1 he2 hev hsb hit1 hgr hsz
      rw [hek] at hN
      go_roundw
      case rel=>(repeat apply Exists.intro);exact ⟨⟨_,_,_,_,_,hN⟩,rfl⟩
      case measure=>rw [(hN.left hb).2,(hR.left hb).2];exact hlt
end Go.Proofs.YtedkoimihknggaaGreatDoor.A

namespace Go.Proofs
open Go.RowKit Go.Maps Go.Sort Go.Shelf
def Tryz.cloneA_ren : Go.Shelf.Ren := ⟨fun | 5 => 156 | 7 => 194 | n => n, fun | 23 => 82 | 25 => 9 | 3 => 89 | 4 => 4 | 20 => 20 | n => n, fun | n => n⟩
theorem Tryz.cloneA : Go.Proofs.SlLaysW.n5 Tryz.prog Tryz.cloneA_ren := {
  mixed := by kernel_rfl
  f5 := ⟨Tryz.f156.name, by decide, Tryz.func156.trans (congrArg some (by kernel_rfl))⟩
  f7 := Tryz.func194.trans (congrArg some (by kernel_rfl))
  t4 := Tryz.underlying4
  a4 := Tryz.isAgg4
  z4 := Tryz.sizeOf4
  v4 := Tryz.zeroValue4
  t20 := Tryz.underlying20
  a20 := Tryz.isAgg20
  z20 := Tryz.sizeOf20
  v20 := Tryz.zeroValue20
  t23 := Tryz.underlying82
  a23 := Tryz.isAgg82
  z23 := Tryz.sizeOf82
  v23 := Tryz.zeroValue82 }
def Tryz.cloneB_ren : Go.Shelf.Ren := ⟨fun | 5 => 195 | 7 => 194 | n => n, fun | 23 => 130 | 25 => 9 | 3 => 9 | 4 => 4 | 20 => 20 | n => n, fun | n => n⟩
theorem Tryz.cloneB : Go.Proofs.SlLaysW.n5 Tryz.prog Tryz.cloneB_ren := {
  mixed := by kernel_rfl
  f5 := ⟨Tryz.f195.name, by decide, Tryz.func195.trans (congrArg some (by kernel_rfl))⟩
  f7 := Tryz.func194.trans (congrArg some (by kernel_rfl))
  t4 := Tryz.underlying4
  a4 := Tryz.isAgg4
  z4 := Tryz.sizeOf4
  v4 := Tryz.zeroValue4
  t20 := Tryz.underlying20
  a20 := Tryz.isAgg20
  z20 := Tryz.sizeOf20
  v20 := Tryz.zeroValue20
  t23 := Tryz.underlying130
  a23 := Tryz.isAgg130
  z23 := Tryz.sizeOf130
  v23 := Tryz.zeroValue130 }
def Tryz.cloneC_ren : Go.Shelf.Ren := ⟨fun | 5 => 196 | 7 => 194 | n => n, fun | 23 => 151 | 25 => 9 | 3 => 157 | 4 => 4 | 20 => 20 | n => n, fun | n => n⟩
theorem Tryz.cloneC : Go.Proofs.SlLaysW.n5 Tryz.prog Tryz.cloneC_ren := {
  mixed := by kernel_rfl
  f5 := ⟨Tryz.f196.name, by decide, Tryz.func196.trans (congrArg some (by kernel_rfl))⟩
  f7 := Tryz.func194.trans (congrArg some (by kernel_rfl))
  t4 := Tryz.underlying4
  a4 := Tryz.isAgg4
  z4 := Tryz.sizeOf4
  v4 := Tryz.zeroValue4
  t20 := Tryz.underlying20
  a20 := Tryz.isAgg20
  z20 := Tryz.sizeOf20
  v20 := Tryz.zeroValue20
  t23 := Tryz.underlying151
  a23 := Tryz.isAgg151
  z23 := Tryz.sizeOf151
  v23 := Tryz.zeroValue151 }
def Tryz.keysA_ren : Go.Shelf.Ren := ⟨fun | 7 => 171 | 10 => 202 | n => n, fun | 23 => 130 | 26 => 9 | 3 => 9 | 28 => 208 | 0 => 0 | 27 => 207 | 33 => 143 | 4 => 4 | n => n, fun | n => n⟩
theorem Tryz.keysA : Go.Proofs.SlLaysZ.n7 Tryz.prog Tryz.keysA_ren := {
  mixed := by kernel_rfl
  f7 := ⟨Tryz.f171.name, by decide, Tryz.func171.trans (congrArg some (by kernel_rfl))⟩
  f10 := ⟨Tryz.f202.name, by decide, Tryz.func202.trans (congrArg some (by kernel_rfl))⟩
  t0 := Tryz.underlying0
  a0 := Tryz.isAgg0
  z0 := Tryz.sizeOf0
  v0 := Tryz.zeroValue0
  t4 := Tryz.underlying4
  a4 := Tryz.isAgg4
  z4 := Tryz.sizeOf4
  v4 := Tryz.zeroValue4
  t23 := Tryz.underlying130
  a23 := Tryz.isAgg130
  z23 := Tryz.sizeOf130
  v23 := Tryz.zeroValue130
  t26 := Tryz.underlying9
  a26 := Tryz.isAgg9
  z26 := Tryz.sizeOf9
  v26 := Tryz.zeroValue9
  t27 := Tryz.underlying207
  a27 := Tryz.isAgg207
  z27 := Tryz.sizeOf207
  v27 := Tryz.zeroValue207
  t28 := Tryz.underlying208
  a28 := Tryz.isAgg208
  z28 := Tryz.sizeOf208
  v28 := Tryz.zeroValue208
  t33 := Tryz.underlying143
  a33 := Tryz.isAgg143
  z33 := Tryz.sizeOf143
  v33 := Tryz.zeroValue143 }
def Tryz.keysB_ren : Go.Shelf.Ren := ⟨fun | 7 => 174 | 10 => 204 | n => n, fun | 23 => 82 | 26 => 9 | 3 => 89 | 28 => 208 | 0 => 0 | 27 => 207 | 33 => 143 | 4 => 4 | n => n, fun | n => n⟩
theorem Tryz.keysB : Go.Proofs.SlLaysZ.n7 Tryz.prog Tryz.keysB_ren := {
  mixed := by kernel_rfl
  f7 := ⟨Tryz.f174.name, by decide, Tryz.func174.trans (congrArg some (by kernel_rfl))⟩
  f10 := ⟨Tryz.f204.name, by decide, Tryz.func204.trans (congrArg some (by kernel_rfl))⟩
  t0 := Tryz.underlying0
  a0 := Tryz.isAgg0
  z0 := Tryz.sizeOf0
  v0 := Tryz.zeroValue0
  t4 := Tryz.underlying4
  a4 := Tryz.isAgg4
  z4 := Tryz.sizeOf4
  v4 := Tryz.zeroValue4
  t23 := Tryz.underlying82
  a23 := Tryz.isAgg82
  z23 := Tryz.sizeOf82
  v23 := Tryz.zeroValue82
  t26 := Tryz.underlying9
  a26 := Tryz.isAgg9
  z26 := Tryz.sizeOf9
  v26 := Tryz.zeroValue9
  t27 := Tryz.underlying207
  a27 := Tryz.isAgg207
  z27 := Tryz.sizeOf207
  v27 := Tryz.zeroValue207
  t28 := Tryz.underlying208
  a28 := Tryz.isAgg208
  z28 := Tryz.sizeOf208
  v28 := Tryz.zeroValue208
  t33 := Tryz.underlying143
  a33 := Tryz.isAgg143
  z33 := Tryz.sizeOf143
  v33 := Tryz.zeroValue143 }
def Tryz.keysC_ren : Go.Shelf.Ren := ⟨fun | 7 => 207 | 10 => 216 | n => n, fun | 23 => 154 | 26 => 9 | 3 => 151 | 28 => 208 | 0 => 0 | 27 => 207 | 33 => 143 | 4 => 4 | n => n, fun | n => n⟩
theorem Tryz.keysC : Go.Proofs.SlLaysZ.n7 Tryz.prog Tryz.keysC_ren := {
  mixed := by kernel_rfl
  f7 := ⟨Tryz.f207.name, by decide, Tryz.func207.trans (congrArg some (by kernel_rfl))⟩
  f10 := ⟨Tryz.f216.name, by decide, Tryz.func216.trans (congrArg some (by kernel_rfl))⟩
  t0 := Tryz.underlying0
  a0 := Tryz.isAgg0
  z0 := Tryz.sizeOf0
  v0 := Tryz.zeroValue0
  t4 := Tryz.underlying4
  a4 := Tryz.isAgg4
  z4 := Tryz.sizeOf4
  v4 := Tryz.zeroValue4
  t23 := Tryz.underlying154
  a23 := Tryz.isAgg154
  z23 := Tryz.sizeOf154
  v23 := Tryz.zeroValue154
  t26 := Tryz.underlying9
  a26 := Tryz.isAgg9
  z26 := Tryz.sizeOf9
  v26 := Tryz.zeroValue9
  t27 := Tryz.underlying207
  a27 := Tryz.isAgg207
  z27 := Tryz.sizeOf207
  v27 := Tryz.zeroValue207
  t28 := Tryz.underlying208
  a28 := Tryz.isAgg208
  z28 := Tryz.sizeOf208
  v28 := Tryz.zeroValue208
  t33 := Tryz.underlying143
  a33 := Tryz.isAgg143
  z33 := Tryz.sizeOf143
  v33 := Tryz.zeroValue143 }
def Tryz.collA_ren : Go.Shelf.Ren := ⟨fun | 8 => 200 | 11 => 208 | n => n, fun | 26 => 9 | 28 => 208 | 24 => 25 | 0 => 0 | 33 => 143 | 4 => 4 | n => n, fun | n => n⟩
theorem Tryz.collA : Go.Proofs.SlLaysZ.n8 Tryz.prog Tryz.collA_ren := {
  mixed := by kernel_rfl
  f8 := ⟨Tryz.f200.name, by decide, Tryz.func200.trans (congrArg some (by kernel_rfl))⟩
  f11 := ⟨Tryz.f208.name, by decide, Tryz.func208.trans (congrArg some (by kernel_rfl))⟩
  t0 := Tryz.underlying0
  a0 := Tryz.isAgg0
  z0 := Tryz.sizeOf0
  v0 := Tryz.zeroValue0
  t24 := Tryz.underlying25
  a24 := Tryz.isAgg25
  z24 := Tryz.sizeOf25
  v24 := Tryz.zeroValue25
  t26 := Tryz.underlying9
  a26 := Tryz.isAgg9
  z26 := Tryz.sizeOf9
  v26 := Tryz.zeroValue9
  t28 := Tryz.underlying208
  a28 := Tryz.isAgg208
  z28 := Tryz.sizeOf208
  v28 := Tryz.zeroValue208
  i26 := by kernel_rfl }
def Tryz.sortA_ren : Go.Shelf.Ren := ⟨fun | 6 => 201 | 15 => 210 | 14 => 209 | 28 => 225 | 29 => 226 | 20 => 217 | 21 => 218 | 22 => 219 | 23 => 220 | 24 => 221 | 25 => 222 | 26 => 223 | 27 => 224 | 46 => 234 | 47 => 235 | 48 => 236 | 49 => 237 | 50 => 238 | 57 => 242 | n => n, fun | 22 => 25 | 24 => 9 | 25 => 210 | 3 => 3 | 39 => 219 | 0 => 0 | 53 => 248 | 55 => 113 | 4 => 4 | 46 => 241 | 45 => 240 | 50 => 245 | 5 => 5 | 9 => 9 | 66 => 253 | 70 => 257 | 76 => 261 | 77 => 262 | n => n, fun | n => n⟩
theorem Tryz.sortA : Go.Proofs.SlLaysF.n6 Tryz.prog Tryz.sortA_ren := {
  mixed := by kernel_rfl
  f6 := ⟨Tryz.f201.name, by decide, Tryz.func201.trans (congrArg some (by kernel_rfl))⟩
  f14 := ⟨Tryz.f209.name, by decide, Tryz.func209.trans (congrArg some (by kernel_rfl))⟩
  f15 := Tryz.func210.trans (congrArg some (by kernel_rfl))
  f20 := ⟨Tryz.f217.name, by decide, Tryz.func217.trans (congrArg some (by kernel_rfl))⟩
  f21 := ⟨Tryz.f218.name, by decide, Tryz.func218.trans (congrArg some (by kernel_rfl))⟩
  f22 := ⟨Tryz.f219.name, by decide, Tryz.func219.trans (congrArg some (by kernel_rfl))⟩
  f23 := ⟨Tryz.f220.name, by decide, Tryz.func220.trans (congrArg some (by kernel_rfl))⟩
  f24 := ⟨Tryz.f221.name, by decide, Tryz.func221.trans (congrArg some (by kernel_rfl))⟩
  f25 := ⟨Tryz.f222.name, by decide, Tryz.func222.trans (congrArg some (by kernel_rfl))⟩
  f26 := ⟨Tryz.f223.name, by decide, Tryz.func223.trans (congrArg some (by kernel_rfl))⟩
  f27 := ⟨Tryz.f224.name, by decide, Tryz.func224.trans (congrArg some (by kernel_rfl))⟩
  f28 := Tryz.func225.trans (congrArg some (by kernel_rfl))
  f29 := Tryz.func226.trans (congrArg some (by kernel_rfl))
  f46 := ⟨Tryz.f234.name, by decide, Tryz.func234.trans (congrArg some (by kernel_rfl))⟩
  f47 := Tryz.func235.trans (congrArg some (by kernel_rfl))
  f48 := Tryz.func236.trans (congrArg some (by kernel_rfl))
  f49 := ⟨Tryz.f237.name, by decide, Tryz.func237.trans (congrArg some (by kernel_rfl))⟩
  f50 := ⟨Tryz.f238.name, by decide, Tryz.func238.trans (congrArg some (by kernel_rfl))⟩
  f57 := ⟨Tryz.f242.name, by decide, Tryz.func242.trans (congrArg some (by kernel_rfl))⟩
  t0 := Tryz.underlying0
  a0 := Tryz.isAgg0
  z0 := Tryz.sizeOf0
  v0 := Tryz.zeroValue0
  t3 := Tryz.underlying3
  a3 := Tryz.isAgg3
  z3 := Tryz.sizeOf3
  v3 := Tryz.zeroValue3
  t4 := Tryz.underlying4
  a4 := Tryz.isAgg4
  z4 := Tryz.sizeOf4
  v4 := Tryz.zeroValue4
  t5 := Tryz.underlying5
  a5 := Tryz.isAgg5
  z5 := Tryz.sizeOf5
  v5 := Tryz.zeroValue5
  t9 := Tryz.underlying9
  a9 := Tryz.isAgg9
  z9 := Tryz.sizeOf9
  v9 := Tryz.zeroValue9
  t22 := Tryz.underlying25
  a22 := Tryz.isAgg25
  z22 := Tryz.sizeOf25
  v22 := Tryz.zeroValue25
  a24 := Tryz.isAgg9
  z24 := Tryz.sizeOf9
  t25 := Tryz.underlying210
  a25 := Tryz.isAgg210
  z25 := Tryz.sizeOf210
  v25 := Tryz.zeroValue210
  t39 := Tryz.underlying219
  a39 := Tryz.isAgg219
  z39 := Tryz.sizeOf219
  v39 := Tryz.zeroValue219
  t45 := Tryz.underlying240
  a45 := Tryz.isAgg240
  z45 := Tryz.sizeOf240
  v45 := Tryz.zeroValue240
  t46 := Tryz.underlying241
  a46 := Tryz.isAgg241
  z46 := Tryz.sizeOf241
  v46 := Tryz.zeroValue241
  t50 := Tryz.underlying245
  a50 := Tryz.isAgg245
  z50 := Tryz.sizeOf245
  v50 := Tryz.zeroValue245
  t53 := Tryz.underlying248
  a53 := Tryz.isAgg248
  z53 := Tryz.sizeOf248
  v53 := Tryz.zeroValue248
  t55 := Tryz.underlying113
  a55 := Tryz.isAgg113
  z55 := Tryz.sizeOf113
  v55 := Tryz.zeroValue113
  t66 := Tryz.underlying253
  a66 := Tryz.isAgg253
  z66 := Tryz.sizeOf253
  v66 := Tryz.zeroValue253
  t70 := Tryz.underlying257
  a70 := Tryz.isAgg257
  z70 := Tryz.sizeOf257
  v70 := Tryz.zeroValue257
  t76 := Tryz.underlying261
  a76 := Tryz.isAgg261
  z76 := Tryz.sizeOf261
  v76 := Tryz.zeroValue261
  t77 := Tryz.underlying262
  a77 := Tryz.isAgg262
  z77 := Tryz.sizeOf262
  v77 := Tryz.zeroValue262 }
end Go.Proofs
namespace Go.Proofs.YtedkoimihknggaaGreatDoor.A
set_option linter.unusedVariables false
set_option linter.unusedSimpArgs false
open Go.RowKit Go.Maps Go.Sort Go.Shelf Go.Proofs
theorem clA : Zes Tryz.prog 156 where
 c:=⟨Tryz.f156,Tryz.func156,by kernel_rfl,by kernel_rfl⟩
 nil:=fun w=>AnyW.maps_Clone_nil Tryz.cloneA w
 some:=fun b es clock w hb=>AnyW.maps_Clone Tryz.cloneA b es clock w hb
theorem clB : Zes Tryz.prog 195 where
 c:=⟨Tryz.f195,Tryz.func195,by kernel_rfl,by kernel_rfl⟩
 nil:=fun w=>AnyW.maps_Clone_nil Tryz.cloneB w
 some:=fun b es clock w hb=>AnyW.maps_Clone Tryz.cloneB b es clock w hb
theorem clC : Zes Tryz.prog 196 where
 c:=⟨Tryz.f196,Tryz.func196,by kernel_rfl,by kernel_rfl⟩
 nil:=fun w=>AnyW.maps_Clone_nil Tryz.cloneC w
 some:=fun b es clock w hb=>AnyW.maps_Clone Tryz.cloneC b es clock w hb
def Zbn (x y : List UInt8) : Int:=if x < y then -1 else if y < x then 1 else 0
theorem ZvA (x : List UInt8) (w : World) : Calls Tryz.prog 211 #[encStr x] w fun e w'=>e=.returned (.bool false)∧w'=w:=by
 go_enter Tryz.func211,Tryz.ntmps211
 go_wp2
 go_ret
 exact ⟨by simp,rfl⟩
theorem Zih (x y : List UInt8) : x < y∨x=y∨y < x:=by
 by_cases h : x < y
 ·exact .inl h
 ·by_cases h2 : y < x
  ·exact .inr (.inr h2)
  ·exact .inr (.inl (List.le_antisymm h2 h))
theorem Zsj (x y : List UInt8) (w : World) : Calls Tryz.prog 203 #[encStr x,encStr y] w fun e w'=>e=.returned (.int .i64 (Zbn x y))∧w'=w:=by
 have e211 : ∀ args w,(callFunc 211 args).run Tryz.prog w=.ok (.enter 211 args) w:=enters_of Tryz.func211 (by kernel_rfl) rfl
 have hb : Op.bytesLess x y=decide (x < y):=bytesLess_eq x y
 have ht:=Zih x y
 have hn : ∀ a : List UInt8,¬ a < a:=fun a=>List.lt_irrefl a
 have has : x < y→¬ y < x:=fun h=>List.lt_asymm h
 go_enter Tryz.func203,Tryz.ntmps203
 go_wp2_with (go_at_call 211;refine (ZvA _ _).mono ?_;rintro e w' ⟨rfl,hw⟩;rw [hw])
 all_goals (go_ret;refine ⟨?_,rfl⟩;unfold Zbn;rw [hb] at *;by_cases h1 : x < y <;> by_cases h2 : y < x <;> simp_all <;> exact absurd h2 (List.lt_irrefl _))
theorem Znv (x y : List UInt8) (w : World) : Calls Tryz.prog 172 #[encStr x,encStr y] w fun e w'=>e=.returned (.int .i64 (Zbn x y))∧w'=w:=by
 have e203 : ∀ args w,(callFunc 203 args).run Tryz.prog w=.ok (.enter 203 args) w:=enters_of Tryz.func203 (by kernel_rfl) rfl
 go_enter Tryz.func172,Tryz.ntmps172
 go_wp2_with (go_at_call 203;refine (Zsj _ _ _).mono ?_;rintro e w' ⟨rfl,hw⟩;rw [hw])
 go_ret
 exact ⟨rfl,rfl⟩
theorem Zu3 (blk off size : Nat) (w : World) : CmpLays1 Tryz.prog 172 #[] encStr Zbn blk off size w:=fun m os dk hd x y=>
 (Znv x y _).mono fun e w' ⟨he,hw⟩=>⟨he,0,#[],by rw [hw];simp [grow,World.drewN]⟩
theorem Ze5 (x y : List UInt8) : ltOf Zbn x y=decide (x < y):=by
 unfold ltOf Zbn
 by_cases h1 : x < y
 ·simp [h1]
 ·by_cases h2 : y < x <;> simp [h1,h2]
theorem Zxf : SWO (ltOf Zbn) where
 irrefl x:=by rw [Ze5];exact decide_eq_false (List.lt_irrefl x)
 trans x y z h1 h2:=by rw [Ze5] at *;simp only [decide_eq_true_eq] at *;exact List.lt_trans h1 h2
 ntrans x y z h1 h2:=by
  rw [Ze5] at *
  simp only [decide_eq_false_iff_not] at *
  exact List.le_trans h2 h1
theorem Zsu {ss : List (List UInt8)} {d' : Array (List UInt8)} (hp : PermIn 0 ss.toArray.size ss.toArray d') (hs : SortedIn (ltOf Zbn) 0 ss.toArray.size d') : d'=(ss.mergeSort fun x y=>decide (x≤y)).toArray:=by
 have hsz : d'.size=ss.length:=by simpa using hp.1
 have hperm : d'.toList.Perm ss:=by
  have h3 : d'.toList.Perm (ss.take d'.size):=by simpa [← hsz] using hp.2.2
  rwa [List.take_of_length_le (by omega)] at h3
 have hpw : d'.toList.Pairwise fun x y=>(decide (x≤y))=true:=by
  rw [List.pairwise_iff_getElem]
  intro i j hi hj hij
  have hi' : i < d'.size:=by simpa using hi
  have hj' : j < d'.size:=by simpa using hj
  have:=hs i j (Nat.zero_le _) hij (by simpa [hsz] using hj')
  rw [Ze5,getElem!_pos d' j hj',getElem!_pos d' i hi'] at this
  simp only [decide_eq_false_iff_not] at this
  simp only [Array.getElem_toList,decide_eq_true_eq]
  exact this
 have h1 : d'.toList.mergeSort (fun x y=>decide (x≤y))=d'.toList:=List.mergeSort_of_pairwise hpw
 have h2:=mergeSort_of_perm hperm
 apply Array.ext'
 rw [← h1]
 exact h2
theorem Zum {g : FuncId} {args : List Value} {v : Value} {n : Nat} (hg : g < WZ) (hc : ZaU Tryz.prog g) (hx : ∀ w : World,RVs (ι0 Tryz.prog.globals.size) args args) (hrun : ∃ H',run Tryz.prog (fun _=>none) lvs n g args (List.replicate Tryz.prog.globals.size Zd.dead)=some (v,H')) (w : World) :
  Calls Tryz.prog g args.toArray w fun e w'=>∃ v',e=.returned v'∧Go.RowKit.Below w.heap.size w w':=by
 obtain ⟨H',hrun⟩:=hrun
 have hs:=ZeN (P:=Tryz.prog) (prim:=fun _=>none) (lvs:=lvs) (by kernel_rfl) (fun b g m h=>by cases h) n (b0 w) g args _ v H' hrun
 rcases hs with ⟨_,hC | ⟨e,⟨fn',h1,_,h2,_⟩,_⟩⟩ | ⟨hno,_⟩
 ·obtain ⟨_,hC⟩:=hC
  refine (hC (ι0 Tryz.prog.globals.size) w args Zwa (hx w)).mono fun e w' ⟨ι1,v',_,he,_,hS⟩=>⟨v',he,?_⟩
  exact ⟨hS.rest.1,hS.rest.2.1,hS.rest.2.2,hS.size,hS.old⟩
 ·obtain ⟨fn,h3,_,h4⟩:=hc
  rw [h3] at h1;cases h1
  rw [h4] at h2;cases h2
 ·exact absurd hg (Nat.not_lt_of_le hno)
noncomputable abbrev R0 (n : Nat) : Ze:=run Tryz.prog (fun _=>none) lvs n
section
variable {H : Zc} {n : Nat} {f : Value}
theorem Zwk : R0 (n+1) QW [.slice none 0 0,iv 0,iv 0,f] H=some (.tuple #[],H):=by
 rw [R0,ZaG rfl]
 unfold ZY
 have w1 : IntKind.i64.wrap (0+1)=1:=w64 (by omega) (by omega)
 rw [Za Zt,w1]
 refine (ZS (j:=0) (vs:=[]) (H':=H) (ZI ?_)).trans ?_
 ·simp [ZY.l1,↓ZZ,Z0,↓Qw,Qg,Qe,Qf,↓Zb,JL,Zs,Yo,Qh,Jl,Qp,Jm,Jf,QJ,Js,QK,QY,QV,QU,Ql,Zh,ZN,Yh,Ye,Q8,QZ,JK,Zt,Qo,Jq,JO,JM,ZJ,Zp,Zg,Q3,ZK,Qu,JJ,Jy,JA,Jz,↓Yz,JN,↓g_r,Yv,Bool.not_true,Bool.not_false,Bool.false_eq_true,Bool.true_eq_false,reduceIte,List.tail_cons,List.headD_cons,decide_true,decide_false,cond_true,cond_false,Nat.beq_refl,Kg,JY,ZW,ZR,ZB,ZM,JE,JH,Yn,Yy,JX,Yc,Yb,Zv,List.replicate,Zn,Zo,QG,QH,QI,Zi,Jn,ZD,Q5]
 ·rw [Zv];rfl
theorem Zv4 {l : Value} : R0 (n+2) QB [.slice none 0 0,iv 0,iv 0,l,f] H=some (.tuple #[],H):=by
 have e1 : run Tryz.prog (fun _=>none) lvs (n+1) QW [.slice none 0 0,iv 0,iv 0,f] H=_:=Zwk
 rw [R0,Zcf rfl]
 unfold Q1
 refine (QM (v:=.tuple #[]) (H':=H) (Z8 ?_)).trans rfl
 have w1 : IntKind.i64.wrap (0 - 0)=0:=w64 (by omega) (by omega)
 rw [JH]
 unfold Q1.l1
 refine QM ?_
 rw [Za Qo,w1,Za Q3,Zb,if_pos (by simp),Za e1]
 rfl
theorem Zvu {s : ByteArray} {i : Nat} (hi : i < s.size) (q : IntKind) (H : Zc) : ∃ b : UInt8,ixs (.string s) (.int q i) H=some (.int .u8 b.toNat,H):=by
 refine ⟨s[i],?_⟩
 unfold ixs
 simp only [Int.toNat_natCast]
 rw [if_pos (by omega),getElem?_pos s i hi]
set_option maxRecDepth 100000 in
theorem Zwr : ∃ v,R0 (n+2) ZbB [.int .u64 0] H=some (v,H):=by
 have e : ∃ v,R0 (n+1) ZaD [.int .u64 0] H=some (v,H):=by
  rw [R0,Zjj rfl]
  unfold Zch
  have w1 : IntKind.u8.wrap 0=((0 : Nat) : Int):=by rw [wu8];rfl
  generalize ht : (⟨#[0,1,2,2,3,3,3,3,4,4,4,4,4,4,4,4,5,5,5,5,5,5,5,5,5,5,5,5,5,5,5,5,6,6,6,6,6,6,6,6,6,6,6,6,6,6,6,6,6,6,6,6,6,6,6,6,6,6,6,6,6,6,6,6,7,7,7,7,7,7,7,7,7,7,7,7,7,7,7,7,7,7,7,7,7,7,7,7,7,7,7,7,7,7,7,7,7,7,7,7,7,7,7,7,7,7,7,7,7,7,7,7,7,7,7,7,7,7,7,7,7,7,7,7,7,7,7,7,8,8,8,8,8,8,8,8,8,8,8,8,8,8,8,8,8,8,8,8,8,8,8,8,8,8,8,8,8,8,8,8,8,8,8,8,8,8,8,8,8,8,8,8,8,8,8,8,8,8,8,8,8,8,8,8,8,8,8,8,8,8,8,8,8,8,8,8,8,8,8,8,8,8,8,8,8,8,8,8,8,8,8,8,8,8,8,8,8,8,8,8,8,8,8,8,8,8,8,8,8,8,8,8,8,8,8,8,8,8,8,8,8,8,8,8,8,8,8,8,8,8,8,8,8,8,8,8]⟩ : ByteArray)=tab
  have hs : tab.size=256:=by rw [← ht];rfl
  obtain ⟨b,hb⟩:=Zvu (s:=tab) (i:=0) (by omega) .u8 H
  refine ⟨iv (IntKind.i64.wrap (0+IntKind.i64.wrap b.toNat)),?_⟩
  rw [Za Qu]
  refine (QC (vs:=[.int .u64 0,iv 0]) (H':=H) (by rw [Zb,if_neg (by simp)];rfl)).trans ?_
  rw [ZW,Za Qu]
  refine (QC (vs:=[.int .u64 0,iv 0]) (H':=H) (by rw [Zb,if_neg (by simp)];rfl)).trans ?_
  rw [ZW,Za Qu]
  refine (QC (vs:=[.int .u64 0,iv 0]) (H':=H) (by rw [Zb,if_neg (by simp)];rfl)).trans ?_
  rw [ZW,Za Ql,w1,Za hb,Za Ql,Za Zt]
  rfl
 obtain ⟨v,e⟩:=e
 refine ⟨v,?_⟩
 rw [R0,Zln rfl]
 unfold ZdG
 rw [Zb,if_neg (by simp),Za e]
 rfl
theorem Zve : R0 (n+3) Ko [.slice none 0 0,f] H=some (.tuple #[],H):=by
 obtain ⟨v,e1⟩:=Zwr (n:=n) (H:=H)
 have e2 : R0 (n+2) QB [.slice none 0 0,iv 0,iv 0,v,f] H=some (.tuple #[],H):=Zv4
 rw [R0,ZcA rfl]
 unfold Kq
 have w1 : IntKind.u64.wrap ((0 : Nat) : Int)=0:=by rw [Zer];rfl
 rw [Za QV,Za Ql,w1,Za e1]
 refine (Za e2).trans rfl
end
theorem ZtS (w : World) : Calls Tryz.prog 201 #[.slice none 0 0,.func (.func 172) #[] #[]] w fun e w'=>∃ v',e=.returned v'∧Go.RowKit.Below w.heap.size w w':=
 Zum (args:=[.slice none 0 0,.func (.func 172) #[] #[]]) (n:=3) (by decide) ⟨Tryz.f201,Tryz.func201,by kernel_rfl,by kernel_rfl⟩ (fun w=>.cons (.sc rfl) (.cons (.fn (fun l h=>by cases h) rfl (fun i hi=>by cases hi) rfl (fun i hi=>by cases hi)) .nil)) ⟨_,Zve (n:=0)⟩ w
theorem Zge {gk : FuncId} (hg : ∀ args w,(callFunc gk args).run Tryz.prog w=.ok (.enter gk args) w)
  (hseq : ∀ (w : World) (Bm b : Nat) (es : Array MapEntry) (clock : Nat) (ks : List (List UInt8)),Bm < w.heap.size→w.cell? ⟨Bm,0,none⟩=some (.map (some b))→w.heap[b]?=some (.map es clock)→es.toList.map (·.key)=ks.map strv→Go.MapKept.Stamped es clock→
   (∀ k∈ks,k.length≤1000000)→ks.length≤1000000→SeqGives Fence.wide 3 Tryz.prog gk #[.pointer (some ⟨Bm,0,none⟩)] encStr (fun ss=>ss.Perm ks) ks.length w) : Zfs Tryz.prog 170 gk 172 where
 c:=⟨Tryz.f170,Tryz.func170,by kernel_rfl,by kernel_rfl⟩
 run:=fun w Bm b es clock ks hB hc hb hk hst hl hf=>by
  have e201 : ∀ args w,(callFunc 201 args).run Tryz.prog w=.ok (.enter 201 args) w:=enters_of Tryz.func201 (by kernel_rfl) rfl
  have e172 : ∀ args w,(callFunc 172 args).run Tryz.prog w=.ok (.enter 172 args) w:=enters_of Tryz.func172 (by kernel_rfl) rfl
  have hmax : ks.length≤maxLen:=Nat.le_trans hf (by decide)
  have cC:=AnyZ.collect_in Tryz.collA Fence.wide 5 trivial trivial rfl (by omega) gk #[.pointer (some ⟨Bm,0,none⟩)] trivial hg _ _ hmax (by omega) w (hseq w Bm b es clock ks hB hc hb hk hst hl hf)
  have cC:=(callsIn_wide (n:=5)).1 cC
  change Calls Tryz.prog 200 _ _ _ at cC
  go_enter Tryz.func170,Tryz.ntmps170
  go_wp2_with (go_at_call 200;refine cC.mono ?_;rintro e W ⟨v,ss,rfl,hS,hrow,hnil,hbl⟩)
  have hlen : ss.length=ks.length:=hS.length_eq
  rcases hrow.2 with ⟨rfl,hz⟩ | ⟨gb,cap,cur,rfl,hbase,hgb,r1,r2,r3,r4⟩
  ·have hss : ss=[]:=List.eq_nil_of_length_eq_zero hz
   go_wp2_with (go_at_call 201;refine (ZtS W).mono ?_;rintro e w' ⟨v',rfl,hb2⟩)
   go_ret
   have hks : ks=[]:=List.eq_nil_of_length_eq_zero (by rw [← hlen,hss];rfl)
   subst hks
   exact ⟨_,0,rfl,⟨by simp [Qk],.inl ⟨rfl,rfl⟩⟩,by simp,hbl.trans (hb2.mono (by have:=hbl.size;omega))⟩
  ·have hH : Holds encStr W gb 0 ss.toArray:=holds_of_block hgb (by simpa using r4)
   have hgl : gb < W.heap.size:=(Array.getElem?_eq_some_iff.1 hgb).1
   have cS:=Any.slices_SortFunc Tryz.sortA encStr (fun _=>rfl) Zbn Zxf 172 #[] gb 0 cap ss.toArray W e172 (Zu3 gb 0 _ W) hH hgl (by simp;omega)
   change Calls Tryz.prog 201 #[.slice (some ⟨gb,0,none⟩) ss.length cap,.func (.func 172) #[] #[]] W _ at cS
   go_wp2_with (go_at_call 201;refine cS.mono ?_;rintro e w' ⟨rfl,d',nn,os,hp,hs,rfl⟩)
   go_ret
   have hd:=Zsu hp hs
   subst hd
   have hks : Qk ks=ss.mergeSort (fun x y=>decide (x≤y)):=(mergeSort_of_perm hS).symm
   rw [← hlen,hks]
   exact ⟨_,_,rfl,ownsRow_sorted (by simp) hbase hgb r1 r2 r3,hnil.trans ⟨fun h=>List.eq_nil_of_length_eq_zero (by rw [← hlen,h];rfl),fun h=>List.eq_nil_of_length_eq_zero (by rw [hlen,h];rfl)⟩,hbl.grown (grownBy_sorted _) hbl.size (fun j hj=>by cases hj;exact hbase)⟩
section
variable {H : Type}
def Zon (v : Value) : Option (DataW H × List MemPlace):=some (.nil,[])
theorem own_of {P : Program} {k : TypeId} (hk : P.underlying k=some .string) {w : World} {b clock : Nat} {es : Array MapEntry} {ks : List (List UInt8)} (hb : w.heap[b]?=some (.map es clock)) (hks : es.toList.map (·.key)=ks.map strv) (hst : Go.MapKept.Stamped es clock)
  (hl : ∀ k∈ks,k.length≤1000000) (hf : ks.length≤1000000) : ∃ D0 : DataW H,w.ownsMap P k Zon b ks.length D0∧ks.Perm (strKeys D0)∧Maps.size D0=ks.length:=by
 have hsz : es.size=ks.length:=by
  have:=congrArg List.length hks
  simpa using this
 have hrd : ∀ (x : MapEntry) (s : List UInt8),x.key=strv s→s.length≤1000000→Go.WideElems.rd (H:=H) P k Zon x=some (.string s,.nil):=fun x s hs hlen=>by
  have h1 : (⟨s.toArray⟩ : ByteArray).size≤maxLen:=Nat.le_trans (by simpa [ByteArray.size] using hlen) (by decide)
  simp [Go.WideElems.rd,hs,keyOf,hk,mapKey,Zon,h1,strv]
 have hmap : ∀ (l : List MapEntry) (q : List (List UInt8)),l.map (·.key)=q.map strv→(∀ s∈q,s.length≤1000000)→l.map (Go.WideElems.rg (H:=H) P k Zon)=q.map fun s=>(Lit.string s,DataW.nil):=by
  intro l
  induction l with
  | nil=>intro q h _;cases q with | nil=>rfl | cons a q=>simp at h
  | cons x l ih=>
   intro q h hq
   cases q with
   | nil=>simp at h
   | cons a q=>
    simp only [List.map_cons,List.cons.injEq] at h
    rw [List.map_cons,List.map_cons,ih q h.2 (fun s hs=>hq s (List.mem_cons_of_mem _ hs))]
    congr 1
    unfold Go.WideElems.rg
    rw [hrd x a h.1 (hq a (by simp))]
    rfl
 refine ⟨.map ((es.toList.map (Go.WideElems.rg P k Zon)).foldr DataW.insert []),⟨es,clock,hb,⟨by rw [hsz];exact Nat.le_trans hf (by decide),hst,fun x hx=>?_⟩,by omega,rfl⟩,?_,?_⟩
 ·have : x.key∈ks.map strv:=by rw [← hks];exact List.mem_map.2 ⟨x,hx,rfl⟩
  obtain ⟨s,h1,h2⟩:=List.mem_map.1 this
  exact ⟨_,hrd x s h2.symm (hl s h1)⟩
 ·rw [hmap _ _ hks hl]
  have h1:=(Go.WideShapes.sorted_perm (H:=H) (ks.map fun s=>(Lit.string s,DataW.nil))).map fun p=>Go.strOf p.1
  have h2 : (ks.map fun s=>(Lit.string s,(DataW.nil : DataW H))).map (fun p=>Go.strOf p.1)=ks:=by
   rw [List.map_map];exact (List.map_congr_left fun a _=>rfl).trans (List.map_id ks)
  rw [h2] at h1
  exact h1.symm
 ·rw [hmap _ _ hks hl]
  have:=(Go.WideShapes.sorted_perm (H:=H) (ks.map fun s=>(Lit.string s,DataW.nil))).length_eq
  rw [List.length_map] at this
  exact this
end
theorem Zkb {g Bm n : Nat} {ks ks' : List (List UInt8)} {w : World} (h : SeqGives Fence.wide 3 Tryz.prog g #[.pointer (some ⟨Bm,0,none⟩)] encStr (fun ss=>ss.Perm ks') n w) (hn : n=ks.length) (hp : ks.Perm ks') : SeqGives Fence.wide 3 Tryz.prog g #[.pointer (some ⟨Bm,0,none⟩)] encStr (fun ss=>ss.Perm ks) ks.length w:=by
 subst hn
 intro l J W hW hJ hY h0
 refine (h l J W hW hJ hY h0).mono fun e w' ⟨h1,xs,h2,h3⟩=>⟨h1,xs,h2.trans hp.symm,h3⟩
theorem keysA : Zfs Tryz.prog 170 202 172:=Zge (enters_of Tryz.func202 (by kernel_rfl) rfl) fun w Bm b es clock ks hB hc hb hk hst hl hf=>by
 obtain ⟨D0,hown,hp,hs⟩:=own_of (H:=Unit) (P:=Tryz.prog) (k:=Tryz.keysA_ren.t 26) (by kernel_rfl) hb hk hst hl hf
 exact Zkb (AnyZ.keys_gives (ρ:=Tryz.keysA_ren) { Tryz.keysA with } Fence.wide 3 trivial rfl (by omega) Bm b ks.length D0 w hB hc hown) hs hp
theorem keysB : Zfs Tryz.prog 170 204 172:=Zge (enters_of Tryz.func204 (by kernel_rfl) rfl) fun w Bm b es clock ks hB hc hb hk hst hl hf=>by
 obtain ⟨D0,hown,hp,hs⟩:=own_of (H:=Unit) (P:=Tryz.prog) (k:=Tryz.keysB_ren.t 26) (by kernel_rfl) hb hk hst hl hf
 exact Zkb (AnyZ.keys_gives (ρ:=Tryz.keysB_ren) { Tryz.keysB with } Fence.wide 3 trivial rfl (by omega) Bm b ks.length D0 w hB hc hown) hs hp
theorem keysC : Zfs Tryz.prog 170 216 172:=Zge (enters_of Tryz.func216 (by kernel_rfl) rfl) fun w Bm b es clock ks hB hc hb hk hst hl hf=>by
 obtain ⟨D0,hown,hp,hs⟩:=own_of (H:=Unit) (P:=Tryz.prog) (k:=Tryz.keysC_ren.t 26) (by kernel_rfl) hb hk hst hl hf
 exact Zkb (AnyZ.keys_gives (ρ:=Tryz.keysC_ren) { Tryz.keysC with } Fence.wide 3 trivial rfl (by omega) Bm b ks.length D0 w hB hc hown) hs hp
abbrev Zhe : List Nat:=[202,204,216]
noncomputable def np : Nat→Option (List Value→M Value)
 | 156=>some ZhD
 | 195=>some ZhD
 | 196=>some ZhD
 | 158=>some ZkG
 | 170=>some (Zcs Zhe JB)
 | 239=>some Zf2
 | 233=>some ZfO
 | _=>none
theorem np_sound (w0 : Z5) : ∀ g m,np g=some m→Zde Tryz.prog Tryz.prog.globals.size w0 g m:=by
 intro g m h
 unfold np at h
 split at h
 ·cases h;exact Zfm clA
 ·cases h;exact Zfm clB
 ·cases h;exact Zfm clC
 ·cases h;exact ZrV (Zwz clC)
 ·cases h
  exact Zqb (by simp) fun gk hg=>by
   simp only [List.mem_cons,List.not_mem_nil,or_false] at hg
   rcases hg with rfl | rfl | rfl
   ·exact keysA
   ·exact keysB
   ·exact keysC
 ·cases h;exact (ZrR ⟨Tryz.f239,Tryz.func239,by kernel_rfl,by kernel_rfl,by kernel_rfl,by kernel_rfl⟩)
 ·cases h;exact (Zra ⟨Tryz.f233,Tryz.func233,by kernel_rfl,by kernel_rfl,by kernel_rfl,by kernel_rfl⟩)
 ·cases h
noncomputable abbrev R (n : Nat) : Ze:=run Tryz.prog np lvs n
end Go.Proofs.YtedkoimihknggaaGreatDoor.A

namespace Go.Proofs.YtedkoimihknggaaGreatDoor.A
set_option linter.unusedVariables false
set_option linter.unusedSimpArgs false
open Go.Proofs Go.Proofs.YtedkoimihknggaaGreatDoor
abbrev u8v (b : UInt8) : Value:=.int .u8 b.toNat
def Y7 (b : UInt8) : Bool:=decide (97≤b.toNat) && decide (b.toNat≤122)
def ZaM (b : UInt8) : Bool:=decide (48≤b.toNat) && decide (b.toNat≤57)
def Zd1 (b : UInt8) : Bool:=Y7 b || (ZaM b || (decide (b.toNat=45) || decide (b.toNat=46)))
def Zim (b : UInt8) : Bool:=ZaM b || (decide (97≤b.toNat) && decide (b.toNat≤102))
def KC (b : UInt8) : Bool:=Y7 b || ZaM b
def ZA (s : List UInt8) : Bool:=decide (1≤s.length) && decide (s.length≤12) && s.all Zd1 && Y7 (s.getD 0 0) && KC (s.getD (s.length - 1) 0)
def Zaz (s : List UInt8) : Bool:=decide (1≤s.length) && decide (s.length≤12) && s.all Zim
section
variable {H : Zc} {n : Nat} {b : UInt8} {s : List UInt8}
theorem WP {i : Nat} {x : UInt8} (hi : s[i]?=some x) (q : IntKind) (H : Zc) : ixs (strv s) (.int q i) H=some (u8v x,H):=by
 have hlt : i < s.length:=(List.getElem?_eq_some_iff.1 hi).1
 have hx : s[i]=x:=(List.getElem?_eq_some_iff.1 hi).2
 have hs : i < (⟨s.toArray⟩ : ByteArray).size:=by simpa [ByteArray.size] using hlt
 unfold ixs strv
 simp only [Int.toNat_natCast]
 rw [if_pos (by omega),getElem?_pos (⟨s.toArray⟩ : ByteArray) i hs]
 have : (⟨s.toArray⟩ : ByteArray)[i]=x:=by rw [← hx];rfl
 rw [this]
theorem Zf7 : R (n+1) Yg [u8v b] H=some (.bool (Y7 b),H):=by
 rw [R,ZlW rfl]
 unfold Y7
 by_cases h1 : (97 : Int)≤b.toNat
 ·have h1' : 97≤b.toNat:=by omega
  by_cases h2 : (b.toNat : Int)≤122
  ·have h2' : b.toNat≤122:=by omega
   simp [Za1,↓ZZ,Z0,↓Qw,Qg,Qe,Qf,↓Zb,JL,Zs,Yo,Qh,Jl,Qp,Jm,Jf,QJ,Js,QK,QY,QV,QU,Ql,Zh,ZN,Yh,Ye,Q8,QZ,JK,Zt,Qo,Jq,JO,JM,ZJ,Zp,Zg,Q3,ZK,Qu,JJ,Jy,JA,Jz,↓Yz,JN,↓g_r,Yv,Bool.not_true,Bool.not_false,Bool.false_eq_true,Bool.true_eq_false,reduceIte,List.tail_cons,List.headD_cons,decide_true,decide_false,cond_true,cond_false,Nat.beq_refl,Kg,JY,ZW,ZR,ZB,ZM,JE,JH,Yn,Yy,JX,Yc,Yb,Zv,List.replicate,Zn,Zo,QG,QH,QI,Zi,Jn,ZD,Q5,h1,h2,h1',h2']
  ·have h2' : ¬ b.toNat≤122:=by omega
   simp [Za1,↓ZZ,Z0,↓Qw,Qg,Qe,Qf,↓Zb,JL,Zs,Yo,Qh,Jl,Qp,Jm,Jf,QJ,Js,QK,QY,QV,QU,Ql,Zh,ZN,Yh,Ye,Q8,QZ,JK,Zt,Qo,Jq,JO,JM,ZJ,Zp,Zg,Q3,ZK,Qu,JJ,Jy,JA,Jz,↓Yz,JN,↓g_r,Yv,Bool.not_true,Bool.not_false,Bool.false_eq_true,Bool.true_eq_false,reduceIte,List.tail_cons,List.headD_cons,decide_true,decide_false,cond_true,cond_false,Nat.beq_refl,Kg,JY,ZW,ZR,ZB,ZM,JE,JH,Yn,Yy,JX,Yc,Yb,Zv,List.replicate,Zn,Zo,QG,QH,QI,Zi,Jn,ZD,Q5,h1,h2,h1',h2']
 ·have h1' : ¬ 97≤b.toNat:=by omega
  simp [Za1,↓ZZ,Z0,↓Qw,Qg,Qe,Qf,↓Zb,JL,Zs,Yo,Qh,Jl,Qp,Jm,Jf,QJ,Js,QK,QY,QV,QU,Ql,Zh,ZN,Yh,Ye,Q8,QZ,JK,Zt,Qo,Jq,JO,JM,ZJ,Zp,Zg,Q3,ZK,Qu,JJ,Jy,JA,Jz,↓Yz,JN,↓g_r,Yv,Bool.not_true,Bool.not_false,Bool.false_eq_true,Bool.true_eq_false,reduceIte,List.tail_cons,List.headD_cons,decide_true,decide_false,cond_true,cond_false,Nat.beq_refl,Kg,JY,ZW,ZR,ZB,ZM,JE,JH,Yn,Yy,JX,Yc,Yb,Zv,List.replicate,Zn,Zo,QG,QH,QI,Zi,Jn,ZD,Q5,h1,h1']
theorem ZiI : R (n+1) Yw [u8v b] H=some (.bool (ZaM b),H):=by
 rw [R,ZnD rfl]
 unfold ZaM
 by_cases h1 : (48 : Int)≤b.toNat
 ·have h1' : 48≤b.toNat:=by omega
  by_cases h2 : (b.toNat : Int)≤57
  ·have h2' : b.toNat≤57:=by omega
   simp [Zbz,↓ZZ,Z0,↓Qw,Qg,Qe,Qf,↓Zb,JL,Zs,Yo,Qh,Jl,Qp,Jm,Jf,QJ,Js,QK,QY,QV,QU,Ql,Zh,ZN,Yh,Ye,Q8,QZ,JK,Zt,Qo,Jq,JO,JM,ZJ,Zp,Zg,Q3,ZK,Qu,JJ,Jy,JA,Jz,↓Yz,JN,↓g_r,Yv,Bool.not_true,Bool.not_false,Bool.false_eq_true,Bool.true_eq_false,reduceIte,List.tail_cons,List.headD_cons,decide_true,decide_false,cond_true,cond_false,Nat.beq_refl,Kg,JY,ZW,ZR,ZB,ZM,JE,JH,Yn,Yy,JX,Yc,Yb,Zv,List.replicate,Zn,Zo,QG,QH,QI,Zi,Jn,ZD,Q5,h1,h2,h1',h2']
  ·have h2' : ¬ b.toNat≤57:=by omega
   simp [Zbz,↓ZZ,Z0,↓Qw,Qg,Qe,Qf,↓Zb,JL,Zs,Yo,Qh,Jl,Qp,Jm,Jf,QJ,Js,QK,QY,QV,QU,Ql,Zh,ZN,Yh,Ye,Q8,QZ,JK,Zt,Qo,Jq,JO,JM,ZJ,Zp,Zg,Q3,ZK,Qu,JJ,Jy,JA,Jz,↓Yz,JN,↓g_r,Yv,Bool.not_true,Bool.not_false,Bool.false_eq_true,Bool.true_eq_false,reduceIte,List.tail_cons,List.headD_cons,decide_true,decide_false,cond_true,cond_false,Nat.beq_refl,Kg,JY,ZW,ZR,ZB,ZM,JE,JH,Yn,Yy,JX,Yc,Yb,Zv,List.replicate,Zn,Zo,QG,QH,QI,Zi,Jn,ZD,Q5,h1,h2,h1',h2']
 ·have h1' : ¬ 48≤b.toNat:=by omega
  simp [Zbz,↓ZZ,Z0,↓Qw,Qg,Qe,Qf,↓Zb,JL,Zs,Yo,Qh,Jl,Qp,Jm,Jf,QJ,Js,QK,QY,QV,QU,Ql,Zh,ZN,Yh,Ye,Q8,QZ,JK,Zt,Qo,Jq,JO,JM,ZJ,Zp,Zg,Q3,ZK,Qu,JJ,Jy,JA,Jz,↓Yz,JN,↓g_r,Yv,Bool.not_true,Bool.not_false,Bool.false_eq_true,Bool.true_eq_false,reduceIte,List.tail_cons,List.headD_cons,decide_true,decide_false,cond_true,cond_false,Nat.beq_refl,Kg,JY,ZW,ZR,ZB,ZM,JE,JH,Yn,Yy,JX,Yc,Yb,Zv,List.replicate,Zn,Zo,QG,QH,QI,Zi,Jn,ZD,Q5,h1,h1']
theorem ZjP {a b : Nat} : ((a : Int)==(b : Int))=decide (a=b):=by
 rw [Bool.eq_iff_iff,beq_iff_eq,decide_eq_true_eq];omega
theorem Zwq : R (n+2) ZcB [u8v b] H=some (.bool (Zd1 b),H):=by
 have e1 : run Tryz.prog np lvs (n+1) Yg [u8v b] H=some (.bool (Y7 b),H):=Zf7
 have e2 : run Tryz.prog np lvs (n+1) Yw [u8v b] H=some (.bool (ZaM b),H):=ZiI
 have q1 : ((b.toNat : Int)==45)=decide (b.toNat=45):=ZjP (b:=45)
 have q2 : ((b.toNat : Int)==46)=decide (b.toNat=46):=ZjP (b:=46)
 rw [R,Zo5 rfl]
 unfold Zd1
 generalize Y7 b=p at e1 ⊢
 generalize ZaM b=q at e2 ⊢
 cases p <;> cases q <;> cases h3 : decide (b.toNat=45) <;> simp [ZgB,↓ZZ,Z0,↓Qw,Qg,Qe,Qf,↓Zb,JL,Zs,Yo,Qh,Jl,Qp,Jm,Jf,QJ,Js,QK,QY,QV,QU,Ql,Zh,ZN,Yh,Ye,Q8,QZ,JK,Zt,Qo,Jq,JO,JM,ZJ,Zp,Zg,Q3,ZK,Qu,JJ,Jy,JA,Jz,↓Yz,JN,↓g_r,Yv,Bool.not_true,Bool.not_false,Bool.false_eq_true,Bool.true_eq_false,reduceIte,List.tail_cons,List.headD_cons,decide_true,decide_false,cond_true,cond_false,Nat.beq_refl,Kg,JY,ZW,ZR,ZB,ZM,JE,JH,Yn,Yy,JX,Yc,Yb,Zv,List.replicate,Zn,Zo,QG,QH,QI,Zi,Jn,ZD,Q5,e1,e2,q1,q2,h3] <;> (cases h4 : decide (b.toNat=46) <;> simp_all)
theorem Zw4 : R (n+2) Zby [u8v b] H=some (.bool (Zim b),H):=by
 have e2 : run Tryz.prog np lvs (n+1) Yw [u8v b] H=some (.bool (ZaM b),H):=ZiI
 rw [R,ZnI rfl]
 unfold Zim
 generalize ZaM b=q at e2 ⊢
 cases q
 ·by_cases h1 : (97 : Int)≤b.toNat
  ·have h1' : 97≤b.toNat:=by omega
   by_cases h2 : (b.toNat : Int)≤102
   ·have h2' : b.toNat≤102:=by omega
    simp [Zas,↓ZZ,Z0,↓Qw,Qg,Qe,Qf,↓Zb,JL,Zs,Yo,Qh,Jl,Qp,Jm,Jf,QJ,Js,QK,QY,QV,QU,Ql,Zh,ZN,Yh,Ye,Q8,QZ,JK,Zt,Qo,Jq,JO,JM,ZJ,Zp,Zg,Q3,ZK,Qu,JJ,Jy,JA,Jz,↓Yz,JN,↓g_r,Yv,Bool.not_true,Bool.not_false,Bool.false_eq_true,Bool.true_eq_false,reduceIte,List.tail_cons,List.headD_cons,decide_true,decide_false,cond_true,cond_false,Nat.beq_refl,Kg,JY,ZW,ZR,ZB,ZM,JE,JH,Yn,Yy,JX,Yc,Yb,Zv,List.replicate,Zn,Zo,QG,QH,QI,Zi,Jn,ZD,Q5,e2,h1,h2,h1',h2']
   ·have h2' : ¬ b.toNat≤102:=by omega
    simp [Zas,↓ZZ,Z0,↓Qw,Qg,Qe,Qf,↓Zb,JL,Zs,Yo,Qh,Jl,Qp,Jm,Jf,QJ,Js,QK,QY,QV,QU,Ql,Zh,ZN,Yh,Ye,Q8,QZ,JK,Zt,Qo,Jq,JO,JM,ZJ,Zp,Zg,Q3,ZK,Qu,JJ,Jy,JA,Jz,↓Yz,JN,↓g_r,Yv,Bool.not_true,Bool.not_false,Bool.false_eq_true,Bool.true_eq_false,reduceIte,List.tail_cons,List.headD_cons,decide_true,decide_false,cond_true,cond_false,Nat.beq_refl,Kg,JY,ZW,ZR,ZB,ZM,JE,JH,Yn,Yy,JX,Yc,Yb,Zv,List.replicate,Zn,Zo,QG,QH,QI,Zi,Jn,ZD,Q5,e2,h1,h2,h1',h2']
  ·have h1' : ¬ 97≤b.toNat:=by omega
   simp [Zas,↓ZZ,Z0,↓Qw,Qg,Qe,Qf,↓Zb,JL,Zs,Yo,Qh,Jl,Qp,Jm,Jf,QJ,Js,QK,QY,QV,QU,Ql,Zh,ZN,Yh,Ye,Q8,QZ,JK,Zt,Qo,Jq,JO,JM,ZJ,Zp,Zg,Q3,ZK,Qu,JJ,Jy,JA,Jz,↓Yz,JN,↓g_r,Yv,Bool.not_true,Bool.not_false,Bool.false_eq_true,Bool.true_eq_false,reduceIte,List.tail_cons,List.headD_cons,decide_true,decide_false,cond_true,cond_false,Nat.beq_refl,Kg,JY,ZW,ZR,ZB,ZM,JE,JH,Yn,Yy,JX,Yc,Yb,Zv,List.replicate,Zn,Zo,QG,QH,QI,Zi,Jn,ZD,Q5,e2,h1,h1']
 ·simp [Zas,↓ZZ,Z0,↓Qw,Qg,Qe,Qf,↓Zb,JL,Zs,Yo,Qh,Jl,Qp,Jm,Jf,QJ,Js,QK,QY,QV,QU,Ql,Zh,ZN,Yh,Ye,Q8,QZ,JK,Zt,Qo,Jq,JO,JM,ZJ,Zp,Zg,Q3,ZK,Qu,JJ,Jy,JA,Jz,↓Yz,JN,↓g_r,Yv,Bool.not_true,Bool.not_false,Bool.false_eq_true,Bool.true_eq_false,reduceIte,List.tail_cons,List.headD_cons,decide_true,decide_false,cond_true,cond_false,Nat.beq_refl,Kg,JY,ZW,ZR,ZB,ZM,JE,JH,Yn,Yy,JX,Yc,Yb,Zv,List.replicate,Zn,Zo,QG,QH,QI,Zi,Jn,ZD,Q5,e2]
theorem Zsd {f : Value} {p : UInt8→Bool} (hf : ∀ (b : UInt8) (H : Zc),YR (R n) f [u8v b] H=some (.bool (p b),H)) (hs : s.length≤1000000000) : ∀ (t k : Nat),s.length - k=t→k≤s.length→
  Zk (c4 (K0.l1 (R n))) [strv s,f,iv s.length,iv k] H=some (if (s.drop k).all p then .ext 0 [] else .ret (.bool false),H)
 | 0,k,ht,hk=>by
  have : k=s.length:=by omega
  subst this
  rw [List.drop_length]
  refine ZI ?_
  simp [K0.l1,↓ZZ,Z0,↓Qw,Qg,Qe,Qf,↓Zb,JL,Zs,Yo,Qh,Jl,Qp,Jm,Jf,QJ,Js,QK,QY,QV,QU,Ql,Zh,ZN,Yh,Ye,Q8,QZ,JK,Zt,Qo,Jq,JO,JM,ZJ,Zp,Zg,Q3,ZK,Qu,JJ,Jy,JA,Jz,↓Yz,JN,↓g_r,Yv,Bool.not_true,Bool.not_false,Bool.false_eq_true,Bool.true_eq_false,reduceIte,List.tail_cons,List.headD_cons,decide_true,decide_false,cond_true,cond_false,Nat.beq_refl,Kg,JY,ZW,ZR,ZB,ZM,JE,JH,Yn,Yy,JX,Yc,Yb,Zv,List.replicate,Zn,Zo,QG,QH,QI,Zi,Jn,ZD,Q5]
 | t+1,k,ht,hk=>by
  have hkl : k < s.length:=by omega
  have hlt : (k : Int) < s.length:=by omega
  have hg:=List.getElem?_eq_getElem hkl
  have hd:=List.drop_eq_getElem_cons hkl
  generalize s[k]=b at hg hd
  have x1:=WP hg .i64 H
  have ih:=Zsd hf hs t (k+1) (by omega) (by omega)
  rw [hd,List.all_cons]
  cases hp : p b
  ·refine Z8 ?_
   have e:=hf b H
   rw [hp] at e
   rw [ZB]
   unfold K0.l1
   rw [Za Zg,Zb,if_pos (by simpa using hlt),Za x1,Za e,Za ZN,Zb,if_pos (by rfl)]
   rfl
  ·rw [Bool.true_and]
   refine (Zu ?_).trans ih
   have e:=hf b H
   rw [hp] at e
   rw [ZB]
   unfold K0.l1
   rw [Za Zg,Zb,if_pos (by simpa using hlt),Za x1,Za e,Za ZN,Zb,if_neg (by simp),Za Zt,Qm (by omega)]
   rfl
theorem Zrq {f : Value} {p : UInt8→Bool} (hf : ∀ (b : UInt8) (H : Zc),YR (R n) f [u8v b] H=some (.bool (p b),H)) (hs : s.length≤1000000000) : R (n+1) Kf [strv s,f] H=some (.bool (s.all p),H):=by
 have e:=Zsd (H:=H) hf hs s.length 0 (by omega) (by omega)
 rw [List.drop_zero] at e
 have e : Zk (c4 (K0.l1 (R n))) [strv s,f,iv s.length,.int .i64 0] H=_:=e
 rw [R,ZpZ rfl]
 unfold K0
 rw [Za ZD]
 cases h : s.all p
 ·rw [h] at e
  rw [QM e];rfl
 ·rw [h] at e
  rw [ZS e,Zv];rfl
theorem Zok {g : Nat} {args : List Value} (hy : Nat.blt g WZ=true:=by rfl) : YR (R n) (.func (.func g) #[] #[]) args=R n g args:=by
 have : YR (R n) (.func (.func g) #[] #[]) args=R n g ([]++(args++[])):=by
  simp only [YR,hy,cond_true]
 rw [this];simp
theorem Zsb (hs : s.length≤1000000000) : R (n+3) Kf [strv s,.func (.func ZcB) #[] #[]] H=some (.bool (s.all Zd1),H):=
 Zrq (fun b H=>by rw [Zok];exact Zwq) hs
theorem ZtU (hs : s.length≤1000000000) : R (n+3) Kf [strv s,.func (.func Zby) #[] #[]] H=some (.bool (s.all Zim),H):=
 Zrq (fun b H=>by rw [Zok];exact Zw4) hs
theorem Zee : bop .str .eql (strv s) (.string ⟨#[]⟩) H=some (.bool (decide (s.length=0)),H):=by
 have:=Zda (H:=H) (a:=s) (b:=[])
 have h : (s==[])=decide (s.length=0):=by cases s <;> simp
 rw [h] at this
 exact this
theorem Zm8 : R (n+4) Wc [strv s] H=some (.bool (ZA s),H):=by
 rw [R,ZlS rfl]
 unfold ZA
 by_cases h0 : s.length=0
 ·have h1 : ¬ 1≤s.length:=by omega
  unfold ZaI
  rw [Za Zee,decide_eq_true h0]
  simp [↓ZZ,Z0,↓Qw,Qg,Qe,Qf,↓Zb,JL,Zs,Yo,Qh,Jl,Qp,Jm,Jf,QJ,Js,QK,QY,QV,QU,Ql,Zh,ZN,Yh,Ye,Q8,QZ,JK,Zt,Qo,Jq,JO,JM,ZJ,Zp,Zg,Q3,ZK,Qu,JJ,Jy,JA,Jz,↓Yz,JN,↓g_r,Yv,Bool.not_true,Bool.not_false,Bool.false_eq_true,Bool.true_eq_false,reduceIte,List.tail_cons,List.headD_cons,decide_true,decide_false,cond_true,cond_false,Nat.beq_refl,Kg,JY,ZW,ZR,ZB,ZM,JE,JH,Yn,Yy,JX,Yc,Yb,Zv,List.replicate,Zn,Zo,QG,QH,QI,Zi,Jn,ZD,Q5,h1]
 ·have h1 : 1≤s.length:=by omega
  by_cases h12 : s.length≤12
  ·have e1 : run Tryz.prog np lvs (n+3) Kf [strv s,.func (.func ZcB) #[] #[]] H=some (.bool (s.all Zd1),H):=Zsb (by omega)
   have g0 : s[0]?=some (s.getD 0 0):=by rw [List.getElem?_eq_getElem (by omega)];simp [List.getD_eq_getElem?_getD,List.getElem?_eq_getElem (show 0 < s.length by omega)]
   have gl : s[s.length - 1]?=some (s.getD (s.length - 1) 0):=by rw [List.getElem?_eq_getElem (by omega)];simp [List.getD_eq_getElem?_getD,List.getElem?_eq_getElem (show s.length - 1 < s.length by omega)]
   have x0 : ixs (strv s) (.int .i64 0) H=some (u8v (s.getD 0 0),H):=WP g0 .i64 H
   have xl:=WP gl .i64 H
   have wl:=ZnT (k:=s.length) (by omega) (by omega)
   generalize s.getD 0 0=b0 at x0
   generalize s.getD (s.length - 1) 0=bl at xl
   have e2 : run Tryz.prog np lvs (n+3) Yg [u8v b0] H=some (.bool (Y7 b0),H):=Zf7
   have e3 : run Tryz.prog np lvs (n+3) Yg [u8v bl] H=some (.bool (Y7 bl),H):=Zf7
   have e4 : run Tryz.prog np lvs (n+3) Yw [u8v bl] H=some (.bool (ZaM bl),H):=ZiI
   have q1 : bop .int .gtr (iv s.length) (.int .i64 12) H=some (.bool false,H):=by rw [ZK,decide_eq_false (by omega)]
   unfold ZaI
   rw [Za Zee,decide_eq_false h0,decide_eq_true h1,decide_eq_true h12]
   rw [ZL,Zf,Za ZD,Zf,Za q1,ZO,ZR,Za Zh]
   simp only [cond_false]
   rw [ZL,Zf,Za x0,Zf,Za e2,Zf,Za ZN,ZO,ZB,Za Zh]
   simp only [cond_false]
   cases hb0 : Y7 b0
   ·simp [↓ZZ,Z0,↓Qw,Qg,Qe,Qf,↓Zb,JL,Zs,Yo,Qh,Jl,Qp,Jm,Jf,QJ,Js,QK,QY,QV,QU,Ql,Zh,ZN,Yh,Ye,Q8,QZ,JK,Zt,Qo,Jq,JO,JM,ZJ,Zp,Zg,Q3,ZK,Qu,JJ,Jy,JA,Jz,↓Yz,JN,↓g_r,Yv,Bool.not_true,Bool.not_false,Bool.false_eq_true,Bool.true_eq_false,reduceIte,List.tail_cons,List.headD_cons,decide_true,decide_false,cond_true,cond_false,Nat.beq_refl,Kg,JY,ZW,ZR,ZB,ZM,JE,JH,Yn,Yy,JX,Yc,Yb,Zv,List.replicate,Zn,Zo,QG,QH,QI,Zi,Jn,ZD,Q5]
   ·simp only [Bool.not_true]
    rw [ZL,Zf,Za e1,Zf,Za ZN,ZO,ZR,Za Zh]
    simp only [cond_false]
    cases hall : s.all Zd1
    ·simp [↓ZZ,Z0,↓Qw,Qg,Qe,Qf,↓Zb,JL,Zs,Yo,Qh,Jl,Qp,Jm,Jf,QJ,Js,QK,QY,QV,QU,Ql,Zh,ZN,Yh,Ye,Q8,QZ,JK,Zt,Qo,Jq,JO,JM,ZJ,Zp,Zg,Q3,ZK,Qu,JJ,Jy,JA,Jz,↓Yz,JN,↓g_r,Yv,Bool.not_true,Bool.not_false,Bool.false_eq_true,Bool.true_eq_false,reduceIte,List.tail_cons,List.headD_cons,decide_true,decide_false,cond_true,cond_false,Nat.beq_refl,Kg,JY,ZW,ZR,ZB,ZM,JE,JH,Yn,Yy,JX,Yc,Yb,Zv,List.replicate,Zn,Zo,QG,QH,QI,Zi,Jn,ZD,Q5]
    ·simp only [Bool.not_true]
     rw [Zb,if_neg (by simp),Za ZD,Za Qo,wl,Za xl,Za e3]
     unfold KC
     cases hl : Y7 bl
     ·rw [ZL,Zf,Za e4,ZO,ZW,Za Zh]
      simp [ret]
     ·simp [↓ZZ,Z0,↓Qw,Qg,Qe,Qf,↓Zb,JL,Zs,Yo,Qh,Jl,Qp,Jm,Jf,QJ,Js,QK,QY,QV,QU,Ql,Zh,ZN,Yh,Ye,Q8,QZ,JK,Zt,Qo,Jq,JO,JM,ZJ,Zp,Zg,Q3,ZK,Qu,JJ,Jy,JA,Jz,↓Yz,JN,↓g_r,Yv,Bool.not_true,Bool.not_false,Bool.false_eq_true,Bool.true_eq_false,reduceIte,List.tail_cons,List.headD_cons,decide_true,decide_false,cond_true,cond_false,Nat.beq_refl,Kg,JY,ZW,ZR,ZB,ZM,JE,JH,Yn,Yy,JX,Yc,Yb,Zv,List.replicate,Zn,Zo,QG,QH,QI,Zi,Jn,ZD,Q5]
  ·have q1 : bop .int .gtr (iv s.length) (.int .i64 12) H=some (.bool true,H):=by rw [ZK,decide_eq_true (by omega)]
   unfold ZaI
   rw [Za Zee,decide_eq_false h0]
   rw [ZL,Zf,Za ZD,Zf,Za q1,ZO,ZR,Za Zh]
   simp [↓ZZ,Z0,↓Qw,Qg,Qe,Qf,↓Zb,JL,Zs,Yo,Qh,Jl,Qp,Jm,Jf,QJ,Js,QK,QY,QV,QU,Ql,Zh,ZN,Yh,Ye,Q8,QZ,JK,Zt,Qo,Jq,JO,JM,ZJ,Zp,Zg,Q3,ZK,Qu,JJ,Jy,JA,Jz,↓Yz,JN,↓g_r,Yv,Bool.not_true,Bool.not_false,Bool.false_eq_true,Bool.true_eq_false,reduceIte,List.tail_cons,List.headD_cons,decide_true,decide_false,cond_true,cond_false,Nat.beq_refl,Kg,JY,ZW,ZR,ZB,ZM,JE,JH,Yn,Yy,JX,Yc,Yb,Zv,List.replicate,Zn,Zo,QG,QH,QI,Zi,Jn,ZD,Q5,h12]
def Qc (s : List UInt8) : Int:=if ZA s then 0 else 10
def Wz (s : List UInt8) : Int:=if Zaz s then 0 else 4
theorem Zeg : R (n+5) JU [strv s] H=some (iv (Qc s),H):=by
 have e1 : run Tryz.prog np lvs (n+4) Wc [strv s] H=some (.bool (ZA s),H):=Zm8
 rw [R,Zo4 rfl]
 unfold Qc
 generalize ZA s=q at e1 ⊢
 cases q <;> simp [Zgi,↓ZZ,Z0,↓Qw,Qg,Qe,Qf,↓Zb,JL,Zs,Yo,Qh,Jl,Qp,Jm,Jf,QJ,Js,QK,QY,QV,QU,Ql,Zh,ZN,Yh,Ye,Q8,QZ,JK,Zt,Qo,Jq,JO,JM,ZJ,Zp,Zg,Q3,ZK,Qu,JJ,Jy,JA,Jz,↓Yz,JN,↓g_r,Yv,Bool.not_true,Bool.not_false,Bool.false_eq_true,Bool.true_eq_false,reduceIte,List.tail_cons,List.headD_cons,decide_true,decide_false,cond_true,cond_false,Nat.beq_refl,Kg,JY,ZW,ZR,ZB,ZM,JE,JH,Yn,Yy,JX,Yc,Yb,Zv,List.replicate,Zn,Zo,QG,QH,QI,Zi,Jn,ZD,Q5,e1]
theorem ZuY : R (n+4) Zci [strv s] H=some (iv (Wz s),H):=by
 have e1 : s.length≤12→run Tryz.prog np lvs (n+3) Kf [strv s,.func (.func Zby) #[] #[]] H=some (.bool (s.all Zim),H):=fun h12=>ZtU (by omega)
 rw [R,ZoA rfl]
 unfold Wz Zaz Zgs
 rw [Za Zee]
 by_cases h0 : s.length=0
 ·have h1 : ¬ 1≤s.length:=by omega
  rw [decide_eq_true h0]
  simp [↓ZZ,Z0,↓Qw,Qg,Qe,Qf,↓Zb,JL,Zs,Yo,Qh,Jl,Qp,Jm,Jf,QJ,Js,QK,QY,QV,QU,Ql,Zh,ZN,Yh,Ye,Q8,QZ,JK,Zt,Qo,Jq,JO,JM,ZJ,Zp,Zg,Q3,ZK,Qu,JJ,Jy,JA,Jz,↓Yz,JN,↓g_r,Yv,Bool.not_true,Bool.not_false,Bool.false_eq_true,Bool.true_eq_false,reduceIte,List.tail_cons,List.headD_cons,decide_true,decide_false,cond_true,cond_false,Nat.beq_refl,Kg,JY,ZW,ZR,ZB,ZM,JE,JH,Yn,Yy,JX,Yc,Yb,Zv,List.replicate,Zn,Zo,QG,QH,QI,Zi,Jn,ZD,Q5,h1]
 ·have h1 : 1≤s.length:=by omega
  rw [decide_eq_false h0,ZL,Zf,Za ZD]
  by_cases h12 : s.length≤12
  ·have q1 : bop .int .gtr (iv s.length) (.int .i64 12) H=some (.bool false,H):=by rw [ZK,decide_eq_false (by omega)]
   rw [Zf,Za q1,ZO,ZR,Za Zh]
   simp only [cond_false]
   rw [ZL,Zf,Za (e1 h12),Zf,Za ZN,ZO,ZB,Za Zh]
   cases s.all Zim <;> simp [↓ZZ,Z0,↓Qw,Qg,Qe,Qf,↓Zb,JL,Zs,Yo,Qh,Jl,Qp,Jm,Jf,QJ,Js,QK,QY,QV,QU,Ql,Zh,ZN,Yh,Ye,Q8,QZ,JK,Zt,Qo,Jq,JO,JM,ZJ,Zp,Zg,Q3,ZK,Qu,JJ,Jy,JA,Jz,↓Yz,JN,↓g_r,Yv,Bool.not_true,Bool.not_false,Bool.false_eq_true,Bool.true_eq_false,reduceIte,List.tail_cons,List.headD_cons,decide_true,decide_false,cond_true,cond_false,Nat.beq_refl,Kg,JY,ZW,ZR,ZB,ZM,JE,JH,Yn,Yy,JX,Yc,Yb,Zv,List.replicate,Zn,Zo,QG,QH,QI,Zi,Jn,ZD,Q5,h12,h1]
  ·have q1 : bop .int .gtr (iv s.length) (.int .i64 12) H=some (.bool true,H):=by rw [ZK,decide_eq_true (by omega)]
   rw [Zf,Za q1,ZO,ZR,Za Zh]
   simp [↓ZZ,Z0,↓Qw,Qg,Qe,Qf,↓Zb,JL,Zs,Yo,Qh,Jl,Qp,Jm,Jf,QJ,Js,QK,QY,QV,QU,Ql,Zh,ZN,Yh,Ye,Q8,QZ,JK,Zt,Qo,Jq,JO,JM,ZJ,Zp,Zg,Q3,ZK,Qu,JJ,Jy,JA,Jz,↓Yz,JN,↓g_r,Yv,Bool.not_true,Bool.not_false,Bool.false_eq_true,Bool.true_eq_false,reduceIte,List.tail_cons,List.headD_cons,decide_true,decide_false,cond_true,cond_false,Nat.beq_refl,Kg,JY,ZW,ZR,ZB,ZM,JE,JH,Yn,Yy,JX,Yc,Yb,Zv,List.replicate,Zn,Zo,QG,QH,QI,Zi,Jn,ZD,Q5,h12]
theorem ZfB {a b : UInt8} : ((a.toNat : Int)==(b.toNat : Int))=(a==b):=by
 rw [Bool.eq_iff_iff,beq_iff_eq,beq_iff_eq,Int.ofNat_inj,UInt8.toNat_inj]
theorem ZuH {t : List UInt8} (ht : t.length≤1000000) : ∀ (d k : Nat),t.length - k=d→k≤t.length→
  Zk (c3 (K1.l1 (R n))) [u8v b,strv t,iv k] H=some (if (t.drop k).any (·==b) then .ret (.bool true) else .ext 0 [],H)
 | 0,k,hd,hk=>by
  have : k=t.length:=by omega
  subst this
  rw [List.drop_length]
  refine ZI ?_
  rw [ZR]
  unfold K1.l1
  rw [Za ZD,Za Zg,Zb,if_neg (by simp)]
  rfl
 | d+1,k,hd,hk=>by
  have hkl : k < t.length:=by omega
  have hlt : (k : Int) < t.length:=by omega
  have hg:=List.getElem?_eq_getElem hkl
  have hdr:=List.drop_eq_getElem_cons hkl
  generalize t[k]=c at hg hdr
  have x1:=WP hg .i64 H
  have ih:=ZuH ht d (k+1) (by omega) (by omega)
  rw [hdr,List.any_cons]
  cases hc : c==b
  ·rw [Bool.false_or]
   refine (Zu ?_).trans ih
   rw [ZR]
   unfold K1.l1
   rw [Za ZD,Za Zg,Zb,if_pos (by simpa using hlt),Za x1,Za ZJ,ZfB,hc,Zb,if_neg (by simp),Za Zt,Qm (by omega)]
   rfl
  ·refine Z8 ?_
   rw [ZR]
   unfold K1.l1
   rw [Za ZD,Za Zg,Zb,if_pos (by simpa using hlt),Za x1,Za ZJ,ZfB,hc,Zb,if_pos rfl]
   rfl
theorem ZrK {t : List UInt8} (ht : t.length≤1000000) : R (n+1) KX [u8v b,strv t] H=some (.bool (t.any (·==b)),H):=by
 have e:=ZuH (n:=n) (H:=H) (b:=b) ht t.length 0 (by omega) (by omega)
 rw [List.drop_zero] at e
 have e : Zk (c3 (K1.l1 (R n))) [u8v b,strv t,.int .i64 0] H=_:=e
 rw [R,Zp0 rfl]
 unfold K1
 cases h : t.any (·==b)
 ·rw [h] at e
  rw [ZS e,Zv];rfl
 ·rw [h] at e
  rw [QM e];rfl
theorem ZuI {t : List UInt8} (ht : t.length≤1000000) (hs : s.length≤1000000000) : ∀ (d k : Nat),s.length - k=d→k≤s.length→
  Zk (c3 (KZ.l1 (R (n+1)))) [strv s,strv t,iv k] H=some (if (s.drop k).all (fun b=>t.any (·==b)) then .ext 0 [] else .ret (.bool false),H)
 | 0,k,hd,hk=>by
  have : k=s.length:=by omega
  subst this
  rw [List.drop_length]
  refine ZI ?_
  rw [ZR]
  unfold KZ.l1
  rw [Za ZD,Za Zg,Zb,if_neg (by simp)]
  rfl
 | d+1,k,hd,hk=>by
  have hkl : k < s.length:=by omega
  have hlt : (k : Int) < s.length:=by omega
  have hg:=List.getElem?_eq_getElem hkl
  have hdr:=List.drop_eq_getElem_cons hkl
  generalize s[k]=c at hg hdr
  have x1:=WP hg .i64 H
  have e1:=ZrK (n:=n) (b:=c) (H:=H) ht
  have ih:=ZuI ht hs d (k+1) (by omega) (by omega)
  rw [hdr,List.all_cons]
  cases hc : t.any (·==c)
  ·rw [hc] at e1
   refine Z8 ?_
   rw [ZR]
   unfold KZ.l1
   rw [Za ZD,Za Zg,Zb,if_pos (by simpa using hlt),Za x1,Za e1,Za ZN,Zb,if_pos (by rfl)]
   rfl
  ·rw [hc] at e1
   rw [Bool.true_and]
   refine (Zu ?_).trans ih
   rw [ZR]
   unfold KZ.l1
   rw [Za ZD,Za Zg,Zb,if_pos (by simpa using hlt),Za x1,Za e1,Za ZN,Zb,if_neg (by simp),Za Zt,Qm (by omega)]
   rfl
theorem Zv5 {t : List UInt8} {p : UInt8→Bool} (ht : t.length≤1000000) (hs : s.length≤1000000000) (hp : ∀ b,t.any (·==b)=p b) : R (n+2) ZaW [strv s,strv t] H=some (.bool (s.all p),H):=by
 have e:=ZuI (n:=n) (H:=H) ht hs s.length 0 (by omega) (by omega)
 rw [List.drop_zero] at e
 rw [show (fun b=>t.any (·==b))=p from funext hp] at e
 have e : Zk (c3 (KZ.l1 (R (n+1)))) [strv s,strv t,.int .i64 0] H=_:=e
 rw [R,Zp8 rfl]
 unfold KZ
 cases h : s.all p
 ·rw [h] at e
  rw [QM e];rfl
 ·rw [h] at e
  rw [ZS e,Zv];rfl
def ZeD : List UInt8:=[97,98,99,100,101,102,103,104,105,106,107,108,109,110,111,112,113,114,115,116,117,118,119,120,121,122]
def Zo6 : List UInt8:=[97,98,99,100,101,102,103,104,105,106,107,108,109,110,111,112,113,114,115,116,117,118,119,120,121,122,48,49,50,51,52,53,54,55,56,57]
def Ztl : List UInt8:=[97,98,99,100,101,102,103,104,105,106,107,108,109,110,111,112,113,114,115,116,117,118,119,120,121,122,48,49,50,51,52,53,54,55,56,57,45,46]
def ZwD : List UInt8:=[48,49,50,51,52,53,54,55,56,57,97,98,99,100,101,102]
theorem ZfC {p : UInt8→Prop} (h : ∀ n : Nat,n < 256→p (UInt8.ofNat n)) (b : UInt8) : p b:=by
 have:=h b.toNat b.toNat_lt
 rwa [UInt8.ofNat_toNat] at this
theorem Zre : ∀ b,ZeD.any (·==b)=Y7 b:=ZfC (by decide+kernel)
theorem Zpx : ∀ b,Zo6.any (·==b)=KC b:=ZfC (by decide+kernel)
theorem Ztz : ∀ b,Ztl.any (·==b)=Zd1 b:=ZfC (by decide+kernel)
theorem Zwb : ∀ b,ZwD.any (·==b)=Zim b:=ZfC (by decide+kernel)
theorem ZrO : R (n+3) Zbw [strv s] H=some (.bool (Zaz s),H):=by
 have e1 : s.length≤12→run Tryz.prog np lvs (n+2) ZaW [strv s,strv ZwD] H=some (.bool (s.all Zim),H):=fun h12=>Zv5 (by decide) (by omega) Zwb
 rw [R,Znn rfl]
 unfold Zaz Zfh
 rw [Za ZD]
 by_cases h1 : 1≤s.length
 ·have q1 : bop .int .geq (iv s.length) (.int .i64 1) H=some (.bool true,H):=by rw [Qu,decide_eq_true (by omega)]
  rw [Za q1,ZL,Zf,Za ZD]
  by_cases h12 : s.length≤12
  ·have q2 : bop .int .leq (iv s.length) (.int .i64 12) H=some (.bool true,H):=by rw [Q3,decide_eq_true (by omega)]
   rw [Zf,Za q2,ZO,ZR,Za Zh]
   simp only [cond_true]
   rw [ZL,Zf]
   refine (Za (e1 h12)).trans ?_
   rw [ZO,ZW,Za Zh,decide_eq_true h12,decide_eq_true h1]
   rfl
  ·have q2 : bop .int .leq (iv s.length) (.int .i64 12) H=some (.bool false,H):=by rw [Q3,decide_eq_false (by omega)]
   rw [Zf,Za q2,ZO,ZR,Za Zh]
   simp [↓ZZ,Z0,↓Qw,Qg,Qe,Qf,↓Zb,JL,Zs,Yo,Qh,Jl,Qp,Jm,Jf,QJ,Js,QK,QY,QV,QU,Ql,Zh,ZN,Yh,Ye,Q8,QZ,JK,Zt,Qo,Jq,JO,JM,ZJ,Zp,Zg,Q3,ZK,Qu,JJ,Jy,JA,Jz,↓Yz,JN,↓g_r,Yv,Bool.not_true,Bool.not_false,Bool.false_eq_true,Bool.true_eq_false,reduceIte,List.tail_cons,List.headD_cons,decide_true,decide_false,cond_true,cond_false,Nat.beq_refl,Kg,JY,ZW,ZR,ZB,ZM,JE,JH,Yn,Yy,JX,Yc,Yb,Zv,List.replicate,Zn,Zo,QG,QH,QI,Zi,Jn,ZD,Q5,h12]
 ·have q1 : bop .int .geq (iv s.length) (.int .i64 1) H=some (.bool false,H):=by rw [Qu,decide_eq_false (by omega)]
  rw [Za q1]
  simp [↓ZZ,Z0,↓Qw,Qg,Qe,Qf,↓Zb,JL,Zs,Yo,Qh,Jl,Qp,Jm,Jf,QJ,Js,QK,QY,QV,QU,Ql,Zh,ZN,Yh,Ye,Q8,QZ,JK,Zt,Qo,Jq,JO,JM,ZJ,Zp,Zg,Q3,ZK,Qu,JJ,Jy,JA,Jz,↓Yz,JN,↓g_r,Yv,Bool.not_true,Bool.not_false,Bool.false_eq_true,Bool.true_eq_false,reduceIte,List.tail_cons,List.headD_cons,decide_true,decide_false,cond_true,cond_false,Nat.beq_refl,Kg,JY,ZW,ZR,ZB,ZM,JE,JH,Yn,Yy,JX,Yc,Yb,Zv,List.replicate,Zn,Zo,QG,QH,QI,Zi,Jn,ZD,Q5,h1]
theorem Zd8 : R (n+3) YA [strv s] H=some (.bool (ZA s),H):=by
 have e1 : s.length≤12→run Tryz.prog np lvs (n+2) ZaW [strv s,strv Ztl] H=some (.bool (s.all Zd1),H):=fun h12=>Zv5 (by decide) (by omega) Ztz
 rw [R,ZnB rfl]
 unfold ZA Zfi
 rw [Za ZD]
 by_cases h1 : 1≤s.length
 ·have q1 : bop .int .geq (iv s.length) (.int .i64 1) H=some (.bool true,H):=by rw [Qu,decide_eq_true (by omega)]
  rw [Za q1,ZL,Zf]
  by_cases h12 : s.length≤12
  ·have q2 : bop .int .leq (iv s.length) (.int .i64 12) H=some (.bool true,H):=by rw [Q3,decide_eq_true (by omega)]
   have g0 : s[0]?=some (s.getD 0 0):=by rw [List.getElem?_eq_getElem (by omega)];simp [List.getD_eq_getElem?_getD,List.getElem?_eq_getElem (show 0 < s.length by omega)]
   have gl : s[s.length - 1]?=some (s.getD (s.length - 1) 0):=by rw [List.getElem?_eq_getElem (by omega)];simp [List.getD_eq_getElem?_getD,List.getElem?_eq_getElem (show s.length - 1 < s.length by omega)]
   have x0 : ixs (strv s) (.int .i64 0) H=some (u8v (s.getD 0 0),H):=WP g0 .i64 H
   have xl:=WP gl .i64 H
   have wl:=ZnT (k:=s.length) (by omega) (by omega)
   generalize s.getD 0 0=b0 at x0
   generalize s.getD (s.length - 1) 0=bl at xl
   have e2 : run Tryz.prog np lvs (n+2) KX [u8v b0,strv ZeD] H=some (.bool (Y7 b0),H):=by rw [← Zre];exact ZrK (by decide)
   have e3 : run Tryz.prog np lvs (n+2) KX [u8v bl,strv Zo6] H=some (.bool (KC bl),H):=by rw [← Zpx];exact ZrK (by decide)
   rw [Za q2,ZO,ZW,Za Zh]
   simp only [cond_true]
   rw [ZL,Zf]
   refine (Za (e1 h12)).trans ?_
   rw [ZO,ZW,Za Zh,decide_eq_true h12,decide_eq_true h1]
   simp only [cond_true]
   cases hall : s.all Zd1
   ·simp [↓ZZ,Z0,↓Qw,Qg,Qe,Qf,↓Zb,JL,Zs,Yo,Qh,Jl,Qp,Jm,Jf,QJ,Js,QK,QY,QV,QU,Ql,Zh,ZN,Yh,Ye,Q8,QZ,JK,Zt,Qo,Jq,JO,JM,ZJ,Zp,Zg,Q3,ZK,Qu,JJ,Jy,JA,Jz,↓Yz,JN,↓g_r,Yv,Bool.not_true,Bool.not_false,Bool.false_eq_true,Bool.true_eq_false,reduceIte,List.tail_cons,List.headD_cons,decide_true,decide_false,cond_true,cond_false,Nat.beq_refl,Kg,JY,ZW,ZR,ZB,ZM,JE,JH,Yn,Yy,JX,Yc,Yb,Zv,List.replicate,Zn,Zo,QG,QH,QI,Zi,Jn,ZD,Q5]
   ·rw [ZL,Zf,Za x0,Zf]
    refine (Za e2).trans ?_
    rw [ZO,ZR,Za Zh]
    simp only [cond_true]
    cases hb : Y7 b0
    ·simp [↓ZZ,Z0,↓Qw,Qg,Qe,Qf,↓Zb,JL,Zs,Yo,Qh,Jl,Qp,Jm,Jf,QJ,Js,QK,QY,QV,QU,Ql,Zh,ZN,Yh,Ye,Q8,QZ,JK,Zt,Qo,Jq,JO,JM,ZJ,Zp,Zg,Q3,ZK,Qu,JJ,Jy,JA,Jz,↓Yz,JN,↓g_r,Yv,Bool.not_true,Bool.not_false,Bool.false_eq_true,Bool.true_eq_false,reduceIte,List.tail_cons,List.headD_cons,decide_true,decide_false,cond_true,cond_false,Nat.beq_refl,Kg,JY,ZW,ZR,ZB,ZM,JE,JH,Yn,Yy,JX,Yc,Yb,Zv,List.replicate,Zn,Zo,QG,QH,QI,Zi,Jn,ZD,Q5]
    ·rw [ZL,Zf,Za Qo,wl,Zf,Za xl,Zf]
     refine (Za e3).trans ?_
     rw [ZO,ZM,Za Zh]
     rfl
  ·have q2 : bop .int .leq (iv s.length) (.int .i64 12) H=some (.bool false,H):=by rw [Q3,decide_eq_false (by omega)]
   rw [Za q2,ZO,ZW,Za Zh]
   simp [↓ZZ,Z0,↓Qw,Qg,Qe,Qf,↓Zb,JL,Zs,Yo,Qh,Jl,Qp,Jm,Jf,QJ,Js,QK,QY,QV,QU,Ql,Zh,ZN,Yh,Ye,Q8,QZ,JK,Zt,Qo,Jq,JO,JM,ZJ,Zp,Zg,Q3,ZK,Qu,JJ,Jy,JA,Jz,↓Yz,JN,↓g_r,Yv,Bool.not_true,Bool.not_false,Bool.false_eq_true,Bool.true_eq_false,reduceIte,List.tail_cons,List.headD_cons,decide_true,decide_false,cond_true,cond_false,Nat.beq_refl,Kg,JY,ZW,ZR,ZB,ZM,JE,JH,Yn,Yy,JX,Yc,Yb,Zv,List.replicate,Zn,Zo,QG,QH,QI,Zi,Jn,ZD,Q5,h12]
 ·have q1 : bop .int .geq (iv s.length) (.int .i64 1) H=some (.bool false,H):=by rw [Qu,decide_eq_false (by omega)]
  rw [Za q1]
  simp [↓ZZ,Z0,↓Qw,Qg,Qe,Qf,↓Zb,JL,Zs,Yo,Qh,Jl,Qp,Jm,Jf,QJ,Js,QK,QY,QV,QU,Ql,Zh,ZN,Yh,Ye,Q8,QZ,JK,Zt,Qo,Jq,JO,JM,ZJ,Zp,Zg,Q3,ZK,Qu,JJ,Jy,JA,Jz,↓Yz,JN,↓g_r,Yv,Bool.not_true,Bool.not_false,Bool.false_eq_true,Bool.true_eq_false,reduceIte,List.tail_cons,List.headD_cons,decide_true,decide_false,cond_true,cond_false,Nat.beq_refl,Kg,JY,ZW,ZR,ZB,ZM,JE,JH,Yn,Yy,JX,Yc,Yb,Zv,List.replicate,Zn,Zo,QG,QH,QI,Zi,Jn,ZD,Q5,h1]
end
end Go.Proofs.YtedkoimihknggaaGreatDoor.A

namespace Go.Proofs.YtedkoimihknggaaGreatDoor.A
set_option linter.unusedVariables false
set_option linter.unusedSimpArgs false
open Go.Proofs Go.Proofs.YtedkoimihknggaaGreatDoor
abbrev Kz:=List (List UInt8 × List UInt8)
structure Dir (H : Zc) (d b : Nat) (m : Kz) : Prop where
 c : H[d]?=some (.cells [.map (some b)] 1 false false)
 g : J8 strv H b m
 len : ∀ p∈m,p.1.length≤12
 few : m.length≤12
section
variable {H H' : Zc} {n d b p q : Nat} {m : Kz} {k s : List UInt8}
theorem Zn0 {v : Value} (h : oneCell v=true) (hc : v.cells=#[v]) (H : Zc) : alc 1 v H=some (pt H.length,H++[.cells [v] 1 false false]):=by
 rw [QY]
 simp [hc,h]
theorem Zgj {v : Value} {e : Nat} {g ro : Bool} (h : H[p]?=some (.cells [v] e g ro)) : ld1 (pt p) H=some (v,H):=ZV h rfl
theorem Zv9 {g : Nat} {bs args : List Value} (hy : Nat.blt g WZ=true:=by rfl) : YR (R n) (.func (.func g) #[] bs.toArray) args=R n g (args++bs):=by
 have : YR (R n) (.func (.func g) #[] bs.toArray) args=R n g ([]++(args++bs.toArray.toList)):=by
  simp only [YR,hy,cond_true]
 rw [this];simp
theorem Dir.lt (h : Dir H d b m) : d < H.length∧b < H.length:=⟨Z6 h.c,h.g.lt⟩
theorem Dir.keep (h : Dir H d b m) (h1 : H'[d]?=H[d]?) (h2 : H'[b]?=H[b]?) : Dir H' d b m:=⟨by rw [h1];exact h.c,h.g.keep h2,h.len,h.few⟩
theorem Dir.hle (h : Dir H d b m) (hl : HLe H H') : Dir H' d b m:=⟨hl _ _ h.c,h.g.hle hl,h.len,h.few⟩
theorem Dir.step {o1 o2 : List Nat} (h : Dir H d b m) (hs : Zw o1 H o2 H') (h1 : d∉o1) (h2 : b∉o1) : Dir H' d b m:=h.keep (hs.keep d h.lt.1 h1) (hs.keep b h.lt.2 h2)
theorem Dir.ne (h : Dir H d b m) : d≠b:=fun e=>by
 subst e
 obtain ⟨es,_,h1⟩:=h.g.ex
 rw [h.c] at h1
 rcases h1 with ⟨_,h1,_⟩ | h1 <;> cases h1
end
end Go.Proofs.YtedkoimihknggaaGreatDoor.A

namespace Go.Proofs.YtedkoimihknggaaGreatDoor.A
set_option linter.unusedVariables false
set_option linter.unusedSimpArgs false
section
variable {α : Type} {k k' : List UInt8} {v : α} {m : List (List UInt8 × α)}
theorem Zc3 : ∀ {m m' : List (List UInt8 × α)},Zj k (m++m')=(Zj k m).or (Zj k m')
 | [],m'=>rfl
 | p :: m,m'=>by
  simp only [List.cons_append,Zj]
  split
  ·rfl
  ·exact Zc3
theorem K9 (h : k'≠k) : Zj k' (Ju k v m)=Zj k' m:=by
 unfold Ju
 split
 ·have : ∀ m : List (List UInt8 × α),Zj k' (m.map fun p=>if p.1=k then (k,v) else p)=Zj k' m:=by
   intro m
   induction m with
   | nil=>rfl
   | cons p m ih=>
    simp only [List.map_cons,Zj]
    by_cases hp : p.1=k
    ·rw [if_pos hp,if_neg (Ne.symm h),if_neg (fun e=>h (e.symm.trans hp)),ih]
    ·rw [if_neg hp,ih]
  exact this m
 ·rw [Zc3]
  have : Zj k' [(k,v)]=none:=by simp [Zj,Ne.symm h]
  rw [this];cases Zj k' m <;> rfl
theorem W7 : Zj k (Ju k v m)=some v:=by
 unfold Ju
 split
 ·rename_i hs
  have : ∀ m : List (List UInt8 × α),(Zj k m).isSome=true→Zj k (m.map fun p=>if p.1=k then (k,v) else p)=some v:=by
   intro m
   induction m with
   | nil=>intro h;cases h
   | cons p m ih=>
    intro h
    simp only [List.map_cons,Zj] at h ⊢
    by_cases hp : p.1=k
    ·simp [hp]
    ·rw [if_neg hp] at h
     rw [if_neg hp,if_neg hp];exact ih h
  exact this m hs
 ·rename_i hs
  rw [Zc3]
  have : Zj k m=none:=by cases e : Zj k m <;> simp_all
  rw [this];simp [Zj]
theorem Zdk : Zj k (Zav k m)=none:=by
 rw [ZeR]
 intro p hp
 simpa [Zav] using (List.mem_filter.1 hp).2
theorem Wd (h : k'≠k) : Zj k' (Zav k m)=Zj k' m:=by
 unfold Zav
 induction m with
 | nil=>rfl
 | cons p m ih=>
  rw [List.filter_cons]
  by_cases hp : p.1=k
  ·rw [if_neg (by simp [hp]),ih]
   simp only [Zj]
   rw [if_neg (fun e=>h (e.symm.trans hp))]
  ·rw [if_pos (by simpa using hp)]
   simp only [Zj]
   rw [ih]
theorem Zov (hn : (m.map (·.1)).Nodup) (h : (Zj k m).isSome=true) : (Zav k m).length=m.length - 1:=by
 obtain ⟨v,hv⟩:=Option.isSome_iff_exists.1 h
 obtain ⟨j,hj⟩:=ZtY hv
 rw [← Zev hn hj,List.length_eraseIdx,if_pos (List.getElem?_eq_some_iff.1 hj).1]
end
end Go.Proofs.YtedkoimihknggaaGreatDoor.A

namespace Go.Proofs.YtedkoimihknggaaGreatDoor.A
set_option linter.unusedVariables false
set_option linter.unusedSimpArgs false
open Go.Proofs Go.Proofs.YtedkoimihknggaaGreatDoor
section
variable {H H' : Zc} {n d b p q : Nat} {m : Kz} {k s : List UInt8}
theorem Zcu {H : Zc} {a c : Zd} : (H++[a]++[c])[H.length]?=some a:=by simp [List.getElem?_append]
theorem ZwH {H : Zc} {a c : Zd} : (H++[a]++[c])[H.length+1]?=some c:=by simp [List.getElem?_append]
theorem ZfX {α : Type} {m : List (List UInt8 × α)} {v : α} : (Ju k v m).length=if (Zj k m).isSome then m.length else m.length+1:=by
 unfold Ju
 split <;> simp
theorem ZaP (h : ZA k=true) : k.length≤12:=by
 unfold ZA at h
 simp only [Bool.and_eq_true,decide_eq_true_eq] at h
 exact h.1.1.1.2
theorem ZeZ : Qc k=0↔ZA k=true:=by unfold Qc;split <;> simp_all
theorem ZuG : Wz s=0↔Zaz s=true:=by unfold Wz;split <;> simp_all
theorem Zgk {g : Nat} {mm : List Value→M Value} {args : List Value} (hp : np g=some mm) (hy : Nat.blt g WZ=true:=by rfl) : run Tryz.prog np lvs (n+1) g args=mm args:=by
 unfold run
 simp only [hy,hp,cond_true]
end
end Go.Proofs.YtedkoimihknggaaGreatDoor.A

namespace Go.Proofs.YtedkoimihknggaaGreatDoor.A
set_option linter.unusedVariables false
set_option linter.unusedSimpArgs false
open Go.Proofs Go.Proofs.YtedkoimihknggaaGreatDoor
section
variable {H H' : Zc} {n : Nat} {s pre : List UInt8}
theorem Zk0 {k : Nat} (hk : k≤s.length) : sls (strv s) none (some (iv k)) H=some (strv (s.take k),H):=by
 have h1 : (⟨s.toArray⟩ : ByteArray).size=s.length:=by simp [ByteArray.size]
 have h2 : (⟨s.toArray⟩ : ByteArray).extract 0 k=⟨(s.take k).toArray⟩:=by
  apply ByteArray.ext
  rw [ByteArray.data_extract]
  simp
 have hb : bnd (some (iv k)) s.length=some k:=by simp [bnd]
 have hb0 : bnd none 0=some 0:=rfl
 unfold strv sls
 simp only [h1,hb,hb0]
 rw [if_pos ⟨Nat.zero_le _,hk⟩,h2]
section
variable {f v : Value} {p : List UInt8→Bool} {l : List (List UInt8)} {q : List Nat} {Q : Zc→Prop}
theorem JF {ss : List (List UInt8)} {i : Nat} {x : List UInt8} (h : ss[i]?=some x) : (ss.map strv)[i]?=some (strv x):=by rw [List.getElem?_map,h];rfl
theorem Zv8 (hr : Zq H v (l.map strv) q) (hl : l.length≤1000000) (hf : ∀ s∈l,YR (R n) f [strv s] H=some (.bool (p s),H)) : ∀ (t k : Nat),l.length - k=t→k≤l.length→
  Zk (c4 (Zz.l1 (R n))) [v,f,iv l.length,iv k] H=some (match (l.drop k).findIdx? p with | some i=>.ret (iv (k+i : Nat)) | none=>.ext 0 [],H)
 | 0,k,ht,hk=>by
  have : k=l.length:=by omega
  subst this
  rw [List.drop_length]
  refine ZI ?_
  rw [ZB]
  unfold Zz.l1
  rw [Za Zg,Zb,if_neg (by simp)]
  rfl
 | t+1,k,ht,hk=>by
  have hkl : k < l.length:=by omega
  have hlt : (k : Int) < l.length:=by omega
  have hg:=List.getElem?_eq_getElem hkl
  have hm : l[k]∈l:=List.getElem_mem hkl
  have hd:=List.drop_eq_getElem_cons hkl
  generalize l[k]=x at hg hd hm
  have x1:=hr.ix (i:=k) (by simpa using hkl) .i64 H
  have x2:=hr.ldx (JF hg)
  have x3:=hf x hm
  have ih:=Zv8 hr hl hf t (k+1) (by omega) (by omega)
  rw [hd,List.findIdx?_cons]
  cases hp : p x
  ·rw [hp] at x3
   refine (Zu ?_).trans (ih.trans ?_)
   ·rw [ZB]
    unfold Zz.l1
    rw [Za Zg,Zb,if_pos (by simpa using hlt),Za x1,Za x2,Za x3,Zb,if_neg (by simp),Za Zt,Qm (by omega)]
    rfl
   ·cases (l.drop (k+1)).findIdx? p with
    | none=>rfl
    | some i=>simp only [Bool.false_eq_true,if_false,Option.map_some];rw [show k+1+i=k+(i+1) by omega]
  ·rw [hp] at x3
   refine Z8 ?_
   rw [ZB]
   unfold Zz.l1
   rw [Za Zg,Zb,if_pos (by simpa using hlt),Za x1,Za x2,Za x3,Zb,if_pos rfl]
   rfl
theorem ZgL : ∀ {l : List (List UInt8)},(match l.findIdx? p with | some i=>l.filter (fun s=>!p s)=l.take i++(l.drop (i+1)).filter (fun s=>!p s)∧i < l.length | none=>l.filter (fun s=>!p s)=l)
 | []=>by simp
 | x :: l=>by
  have ih:=ZgL (l:=l)
  rw [List.findIdx?_cons]
  cases hp : p x
  ·simp only [Bool.false_eq_true,if_false]
   cases h : l.findIdx? p with
   | none=>rw [h] at ih;simp [hp];simpa using ih
   | some i=>rw [h] at ih;simp [hp,ih.1,ih.2]
  ·simp [hp]
theorem Zwj (k : Nat) : reps k (Value.string ⟨#[]⟩).cells.toList=List.replicate k (strv []):=by
 induction k with
 | zero=>rfl
 | succ k ih=>
  unfold reps at ih ⊢
  rw [List.replicate_succ,List.flatten_cons,ih];rfl
theorem Zsn {cs : List (List UInt8)} {i : Nat} (hr : Zq H v (cs.map strv) q) (hi : i < cs.length) : ∃ a H' v',slv 1 v (some (iv i)) none none H=some (a,H)∧clr (.string ⟨#[]⟩) 1 a H=some (.tuple #[],H')∧slv 1 v none (some (iv i)) none H'=some (v',H')∧Zq H' v' ((cs.take i).map strv) q∧Zw q H q H':=by
 rcases hr with ⟨h1,_,_⟩ | ⟨sid,rest,g,rfl,rfl,hid⟩
 ·simp at h1;simp [h1] at hi
 ·rw [List.length_map] at *
  have b1 : bnd (some (iv i)) 0=some i:=by simp [bnd]
  have b1' : bnd (some (iv i)) cs.length=some i:=by simp [bnd]
  have b2 : ∀ k,bnd none k=some k:=fun _=>rfl
  have hsp : splice (cs.map strv++rest) (List.replicate (cs.length - i) (strv [])) i=(cs.take i).map strv++(List.replicate (cs.length - i) (strv [])++rest):=by
   unfold splice
   rw [List.length_replicate,Nat.add_sub_cancel' (Nat.le_of_lt hi),List.take_append_of_le_length (by simp;omega),List.drop_append_of_le_length (by simp),List.drop_eq_nil_of_le (by simp),List.map_take]
   simp
  refine ⟨.slice (some ⟨sid,0+i * 1,none⟩) (cs.length - i) (cs.length+rest.length - i),H.set sid (.cells ((cs.take i).map strv++(List.replicate (cs.length - i) (strv [])++rest)) 1 g false),.slice (some ⟨sid,0,none⟩) i (cs.length+rest.length),?_,?_,?_,?_,⟨by simp,fun j hj hn=>List.getElem?_set_ne (fun e=>hn (by simp [e])),fun j hj=>.inl hj⟩⟩
  ·simp only [slv,hid,b1,b2]
   rw [if_pos ⟨trivial,by omega,by omega,Nat.le_refl _⟩,if_neg (by omega)]
  ·simp only [clr]
   rw [if_neg (by omega)]
   simp only [hid]
   rw [if_pos ⟨trivial,by simp;omega⟩,Zwj]
   rw [Nat.zero_add,Nat.mul_one,hsp]
  ·simp only [slv,ZT hid,b1',b2]
   rw [if_pos ⟨trivial,by omega,by omega,Nat.le_refl _⟩,if_neg (by omega)]
   simp
  ·have hl : ((cs.take i).map strv).length=i:=by simp;omega
   refine .inr ⟨sid,List.replicate (cs.length - i) (strv [])++rest,g,?_,rfl,ZT hid⟩
   rw [hl]
   simp;omega
end
end
end Go.Proofs.YtedkoimihknggaaGreatDoor.A

namespace Go.Proofs.YtedkoimihknggaaGreatDoor.A
set_option linter.unusedVariables false
set_option linter.unusedSimpArgs false
open Go.Proofs Go.Proofs.YtedkoimihknggaaGreatDoor
def usr (u : List UInt8 × List UInt8) : List Value:=[strv u.1,strv u.2,strv [],.bool false,.slice none 0 0]
section
variable {H H' : Zc} {n d b : Nat} {m : Kz} {pre : List UInt8}
theorem Zvp {k s : List UInt8} {H : Zc} : bld (.agg #[.string ⟨#[]⟩,.string ⟨#[]⟩,.string ⟨#[]⟩,.bool false,.slice none 0 0]) [(0,1,strv k),(1,1,strv s)] H=some (.agg (usr (k,s)).toArray,H):=by
 simp [↓ZZ,Z0,↓Qw,Qg,Qe,Qf,↓Zb,JL,Zs,Yo,Qh,Jl,Qp,Jm,Jf,QJ,Js,QK,QY,QV,QU,Ql,Zh,ZN,Yh,Ye,Q8,QZ,JK,Zt,Qo,Jq,JO,JM,ZJ,Zp,Zg,Q3,ZK,Qu,JJ,Jy,JA,Jz,↓Yz,JN,↓g_r,Yv,YC,KW,splice,Value.cells,strv,usr,oneCell]
end
end Go.Proofs.YtedkoimihknggaaGreatDoor.A

namespace Go.Proofs.YtedkoimihknggaaGreatDoor.A
set_option linter.unusedVariables false
set_option linter.unusedSimpArgs false
open Go.Proofs Go.Proofs.YtedkoimihknggaaGreatDoor
section
variable {H : Zc} {n : Nat}
end
end Go.Proofs.YtedkoimihknggaaGreatDoor.A

namespace Go.Proofs.YtedkoimihknggaaGreatDoor.A
set_option linter.unusedVariables false
set_option linter.unusedSimpArgs false
open Go.Proofs Go.Proofs.YtedkoimihknggaaGreatDoor
abbrev Ent:=List UInt8 × List UInt8
section
variable {m : Kz} {k s : List UInt8} {x : Ent}
end
end Go.Proofs.YtedkoimihknggaaGreatDoor.A

namespace Go.Proofs.YtedkoimihknggaaGreatDoor.A
set_option linter.unusedVariables false
set_option linter.unusedSimpArgs false
open Go.Proofs Go.Proofs.YtedkoimihknggaaGreatDoor
def GV (H : Zc) (gv : Value) (gs : List (List UInt8)) : Prop:=
 (gs=[]∧(gv=.slice none 0 0∨gv=.slice (some ⟨0,0,some 1⟩) 0 0))∨
 ∃ id rest,gv=.slice (some ⟨id,0,none⟩) gs.length (gs.length+rest.length)∧H[id]?=some (.cells (gs.map strv++rest) 1 false true)
section
variable {H H' X : Zc} {n p : Nat} {gv : Value} {gs : List (List UInt8)}
theorem GV.mono (h : GV H gv gs) (hl : HLe H H') : GV H' gv gs:=by
 rcases h with h | ⟨id,rest,h1,h2⟩
 ·exact .inl h
 ·exact .inr ⟨id,rest,h1,hl _ _ h2⟩
theorem GV.sl (h : GV H gv gs) : Sl H gv (gs.map strv):=by
 rcases h with ⟨rfl,rfl | rfl⟩ | ⟨id,rest,rfl,h2⟩
 ·exact Sl.nil
 ·exact ⟨_,_,rfl,(fun e=>by cases e),rfl⟩
 ·refine ⟨some ⟨id,0,none⟩,gs.length+rest.length,by rw [List.length_map],(fun e=>by cases e),?_⟩
  simp only [Qj,h2]
  rw [if_pos (by simp)]
  simp
theorem GV.len (h : GV H gv gs) : ZC gv H'=some (iv gs.length,H'):=by
 have:=h.sl.len (H':=H')
 rwa [List.length_map] at this
theorem GV.one (h : GV H gv gs) : oneCell gv=true:=by
 rcases h with ⟨_,rfl | rfl⟩ | ⟨id,rest,rfl,_⟩ <;> rfl
structure Zm where
 nm : List UInt8
 hs : List UInt8
 ml : List UInt8
 ds : Bool
 gv : Value
 gs : List (List UInt8)
abbrev Zm.cells (u : Zm) : List Value:=[strv u.nm,strv u.hs,strv u.ml,.bool u.ds,u.gv]
def Zm.ok (H : Zc) (u : Zm) : Prop:=GV H u.gv u.gs
theorem Zm.all {u : Zm} (h : u.ok H) : u.cells.all oneCell=true:=by
 have:=GV.one h
 simp only [Zm.cells,List.all_cons,this];rfl
def KV (H : Zc) (sl : Value) (us : List Zm) : Prop:=SlN 5 H sl (us.map Zm.cells)∧∀ u∈us,u.ok H
variable {sl : Value} {us : List Zm}
theorem KV.mono (h : KV H sl us) (hl : HLe H H') : KV H' sl us:=⟨h.1.mono hl,fun u hu=>(h.2 u hu).mono hl⟩
theorem KV.len (h : KV H sl us) : ZC sl H'=some (iv us.length,H'):=by
 have:=h.1.len (H':=H')
 rwa [List.length_map] at this
theorem KV.fetch {β : Type} {k : Value→M β} (h : KV H sl us) {j : Nat} {u : Zm} (hj : us[j]?=some u) :
  bind (ixa 5 sl (iv j)) (fun p=>bind (ldA 5 p) fun v=>bind (alc 1 (.agg #[.string ⟨#[]⟩,.string ⟨#[]⟩,.string ⟨#[]⟩,.bool false,.slice none 0 0])) fun q=>bind (stA 5 q v) fun _=>k q) H=k (pt H.length) (H++[.cells u.cells 1 false false]):=by
 have hr : (us.map Zm.cells)[j]?=some u.cells:=by rw [List.getElem?_map,hj];rfl
 rw [h.1.fetch hr (by omega) .i64]
 exact Zcl (n:=5) (zs:=[.string ⟨#[]⟩,.string ⟨#[]⟩,.string ⟨#[]⟩,.bool false,.slice none 0 0]) (r:=u.cells) rfl rfl rfl (Zm.all (h.2 u (List.mem_of_getElem? hj)))
end
end Go.Proofs.YtedkoimihknggaaGreatDoor.A

