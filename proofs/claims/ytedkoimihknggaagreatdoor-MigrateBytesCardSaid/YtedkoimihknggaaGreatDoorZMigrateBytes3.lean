/- What the law MigrateBytes needs (part 3). -/
import Derived.Test.YtedkoimihknggaaGreatDoorZMigrateBytes2
import Derived.Test.YtedkoimihknggaaGreatDoorProg
import Derived.KernelRfl
import Derived.Maps.Own
import Derived.Sort.KeysCollected
import Derived.Lib.Bytealg
import Derived.WalkKit
import Derived.Maps.RangeWalk
import Derived.Deep.RegionWith
import Derived.Deep.Cut
import Derived.Laws.Cover1
import Derived.Sort.Walk0
import Derived.Sort.OwnSorted
import Derived.Shelf.SlGeneric
import Derived.Shelf.SlIter.Collect
import Derived.Shelf.SlSortCmp.Whole1
import Derived.Shelf.SlMaps.Clone
import Derived.Ground.GgzProg
import Derived.Ground.SlsfProg
import Derived.Ground.SlmcProg
namespace Go.Proofs.YtedkoimihknggaaGreatDoor.A
set_option linter.unusedVariables false
set_option maxRecDepth 100000
set_option linter.unusedSimpArgs false
open Go.Proofs Go.Proofs.YtedkoimihknggaaGreatDoor
noncomputable def KE (Γ : Ze) (x0 : Value) : M Value:=
 bind (Γ ZbH []) fun y1=>
 bind (uop .not y1) fun y2=>
 bind (ZT y2 false 3 (bind (ZH x0) fun y3=>
 bind (bop .int .gtr y3 (Value.int .i64 900)) fun y4=>
 ret [x0,y3,y4])) (c3 fun _ _ q5_2=>
 bind (pick y2 (Value.bool true) q5_2) fun y6=>
 cnd y6
 (bind (Γ ZbH []) fun y7=>
 ret y7)
 (bind (bsl 1 0 (.int .u8 0) []) fun y8=>
 bind (app 1 1 y8 x0) fun y9=>
 bind (Γ Yd [y9]) fun y10=>
 bind (Zz y10 0) fun y11=>
 bind (Zz y10 1) fun y12=>
 bind (b2s x0) fun y13=>
 bind (Γ Zap [y13]) fun y14=>
 bind (Zz y14 0) fun y15=>
 bind (Zz y14 1) fun y16=>
 bind (b2s y11) fun y17=>
 bind (bop .str .neq y17 y15) fun y18=>
 bind (ZT y18 false 3 (bind (bop .int .neq y12 y16) fun y19=>
 ret [y12,y16,y19])) (c3 fun _ _ q20_2=>
 bind (pick y18 (Value.bool true) q20_2) fun y21=>
 bind (ZT y21 false 5 (bind (b2s y9) fun y22=>
 bind (b2s x0) fun y23=>
 bind (bop .str .neq y22 y23) fun y24=>
 ret [y9,y22,x0,y23,y24])) (c5 fun _ _ _ _ q25_4=>
 bind (pick y21 (Value.bool true) q25_4) fun y26=>
 cnd y26
 (ret (Value.bool false))
 (bind (bop .int .neq y12 (Value.int .i64 0)) fun y27=>
 cnd y27
 (ret (Value.bool true))
 (bind (Γ Yd [y11]) fun y28=>
 bind (Zz y28 0) fun y29=>
 bind (Zz y28 1) fun y30=>
 bind (bop .int .eql y30 (Value.int .i64 0)) fun y31=>
 bind (ZT y31 true 5 (bind (b2s y29) fun y32=>
 bind (b2s y11) fun y33=>
 bind (bop .str .eql y32 y33) fun y34=>
 ret [y29,y32,y11,y33,y34])) (c5 fun _ _ _ _ q35_4=>
 bind (pick y31 q35_4 (Value.bool false)) fun y36=>
 bind (ZT y36 true 3 (bind (Γ K1 [y11]) fun y37=>
 bind (bop .int .eql y37 (Value.int .i64 2)) fun y38=>
 ret [y11,y37,y38])) (c3 fun _ _ q39_2=>
 bind (pick y36 q39_2 (Value.bool false)) fun y40=>
 ret y40))))))))
theorem Zht (Γ : Ze) (x0 : Value) : Zy Tryz.prog Γ Tryz.f7 Zdk [x0]=KE Γ x0:=by kernel_rfl
theorem ZgE {prim : FuncId→Option (List Value→M Value)} (hp : prim YP=none) (n : Nat) (x0 : Value) : run Tryz.prog prim lvs (n+1) YP [x0]=KE (run Tryz.prog prim lvs n) x0:=
 (Zl hp (by kernel_rfl) Tryz.func7 (by kernel_rfl)).trans (Zht _ x0)
noncomputable def QJ.l1 (Γ : Ze) (s0 s7 s23 s24 s25 : Value) : M Out:=
 bind (bop .int .lss s25 s24) fun y5=>
 cnd y5
 (bind (ixa 1 s23 s25) fun y6=>
 bind (ld1 y6) fun y7=>
 bind (Jc s7) fun y8=>
 bind (fa 2 y8) fun y9=>
 bind (ld1 y9) fun y10=>
 bind (Γ YK [y10,y7]) fun y11=>
 bind (bop .int .add s25 (Value.int .i64 1)) fun y12=>
 ret (.nrm [s0,s7,s23,s24,y12]))
 (ret (.ext 0 [s0,s7]))
noncomputable def QJ.l3 (Γ : Ze) (s7 s11 s36 s37 s38 s54 s55 s56 : Value) : M Out:=
 bind (bop .int .lss s56 s55) fun y33=>
 cnd y33
 (bind (ixa 1 s54 s56) fun y34=>
 bind (ld1 y34) fun y35=>
 bind (Jc s7) fun y36=>
 bind (fa 2 y36) fun y37=>
 bind (ld1 y37) fun y38=>
 bind (fa 0 s11) fun y39=>
 bind (ld1 y39) fun y40=>
 bind (Γ Kw [y38,y35,y40]) fun y41=>
 bind (bop .int .neq y41 (Value.int .i64 0)) fun y42=>
 cnd y42
 (ret (.ret (Value.tuple #[(Value.pointer none),y41])))
 (bind (bop .int .add s56 (Value.int .i64 1)) fun y43=>
 ret (.nrm [s7,s11,s36,s37,s38,s54,s55,y43])))
 (ret (.ext 4 [s7,s11,s36,s37,s38]))
noncomputable def QJ.l2 (Γ : Ze) (s7 s36 s37 s38 : Value) : M Out:=
 bind (bop .int .lss s38 s37) fun y16=>
 cnd y16
 (bind (ixa 5 s36 s38) fun y17=>
 bind (ldA 5 y17) fun y18=>
 bind (alc 1 (.agg #[.string ⟨#[]⟩,.string ⟨#[]⟩,.string ⟨#[]⟩,.bool false,.slice none 0 0])) fun y19=>
 bind (stA 5 y19 y18) fun _=>
 bind (Jc s7) fun y20=>
 bind (fa 0 y20) fun y21=>
 bind (ld1 y21) fun y22=>
 bind (fa 0 y19) fun y23=>
 bind (ld1 y23) fun y24=>
 bind (fa 1 y19) fun y25=>
 bind (ld1 y25) fun y26=>
 bind (fa 3 y19) fun y27=>
 bind (ld1 y27) fun y28=>
 bind (bld (.agg #[.string ⟨#[]⟩,.bool false]) [(0,1,y26),(1,1,y28)]) fun y29=>
 bind (mup .str y22 y24 y29) fun _=>
 bind (fa 4 y19) fun y30=>
 bind (ld1 y30) fun y31=>
 bind (ZH y31) fun y32=>
 jn (Zj (c8 (QJ.l3 Γ)) [s7,y19,s36,s37,s38,y31,y32,(Value.int .i64 0)]) noN (xk 4 (c5 fun q45_0 q45_1 q45_2 q45_3 q45_4=>
 bind (Jc q45_0) fun y46=>
 bind (fa 1 y46) fun y47=>
 bind (ld1 y47) fun y48=>
 bind (fa 0 q45_1) fun y49=>
 bind (ld1 y49) fun y50=>
 bind (fa 2 q45_1) fun y51=>
 bind (ld1 y51) fun y52=>
 bind (Γ Kd [y48,y50,y52]) fun y53=>
 bind (bop .int .neq y53 (Value.int .i64 0)) fun y54=>
 cnd y54
 (ret (.ret (Value.tuple #[(Value.pointer none),y53])))
 (bind (bop .int .add q45_4 (Value.int .i64 1)) fun y55=>
 ret (.nrm [q45_0,q45_2,q45_3,y55]))) noX) Ji)
 (ret (.ext 2 [s7]))
noncomputable def QJ (Γ : Ze) (x0 x1 : Value) : M Value:=
 bind (Γ Zbu [x0,x1]) fun y1=>
 bind (bop .int .neq y1 (Value.int .i64 0)) fun y2=>
 cnd y2
 (ret (Value.tuple #[(Value.pointer none),y1]))
 (bind (Γ Zdq []) fun y3=>
 bind (ZH x1) fun y4=>
 jn (Zj (c5 (QJ.l1 Γ)) [x0,y3,x1,y4,(Value.int .i64 0)]) noN (xk 0 (c2 fun q14_0 q14_1=>
 bind (ZH q14_0) fun y15=>
 jn (Zj (c4 (QJ.l2 Γ)) [q14_1,q14_0,y15,(Value.int .i64 0)]) noN (xk 2 (c1 fun q58_0=>
 ret (Value.tuple #[q58_0,(Value.int .i64 0)])) noX) ret) noX) ret)
theorem ZtS (Γ : Ze) (x0 x1 : Value) : Zy Tryz.prog Γ Tryz.f12 Zl8 [x0,x1]=QJ Γ x0 x1:=by kernel_rfl
theorem Zr4 {prim : FuncId→Option (List Value→M Value)} (hp : prim ZaG=none) (n : Nat) (x0 x1 : Value) : run Tryz.prog prim lvs (n+1) ZaG [x0,x1]=QJ (run Tryz.prog prim lvs n) x0 x1:=
 (Zl hp (by kernel_rfl) Tryz.func12 (by kernel_rfl)).trans (ZtS _ x0 x1)
noncomputable def KX.l1 (Γ : Ze) (s3 s19 s20 s21 : Value) : M Out:=
 bind (bop .int .lss s21 s20) fun y12=>
 cnd y12
 (bind (ixa 5 s19 s21) fun y13=>
 bind (ldA 5 y13) fun y14=>
 bind (alc 1 (.agg #[.string ⟨#[]⟩,.string ⟨#[]⟩,.string ⟨#[]⟩,.bool false,.slice none 0 0])) fun y15=>
 bind (stA 5 y15 y14) fun _=>
 bind (ldA 5 y15) fun y16=>
 bind (Γ ZfY [s3,(Value.int .i64 2),y16]) fun y17=>
 bind (bop .int .add s21 (Value.int .i64 1)) fun y18=>
 ret (.nrm [s3,s19,s20,y18]))
 (ret (.ext 0 [s3]))
noncomputable def KX (Γ : Ze) (x0 : Value) : M Value:=
 bind (bop .ptr .eql x0 (Value.pointer none)) fun y1=>
 cnd y1
 (ret (Value.slice none 0 0))
 (bind (bld (.agg #[.slice none 0 0]) []) fun y2=>
 bind (alc 1 y2) fun y3=>
 bind (Γ JP [y3,(Value.int .u8 2)]) fun y4=>
 bind (Γ Wv [x0]) fun y5=>
 bind (Γ Y8 [y4,y5]) fun y6=>
 bind (Γ ZaW [x0]) fun y7=>
 bind (cvi .u16 y7) fun y8=>
 bind (Γ Yw [y6,y8]) fun y9=>
 bind (Γ ZaR [x0]) fun y10=>
 bind (ZH y10) fun y11=>
 jn (Zj (c4 (KX.l1 Γ)) [y9,y10,y11,(Value.int .i64 0)]) noN (xk 0 (c1 fun q20_0=>
 bind (Γ KV [q20_0]) fun y21=>
 ret y21) noX) ret)
theorem Zpn (Γ : Ze) (x0 : Value) : Zy Tryz.prog Γ Tryz.f13 ZhY [x0]=KX Γ x0:=by kernel_rfl
theorem Zon {prim : FuncId→Option (List Value→M Value)} (hp : prim ZbA=none) (n : Nat) (x0 : Value) : run Tryz.prog prim lvs (n+1) ZbA [x0]=KX (run Tryz.prog prim lvs n) x0:=
 (Zl hp (by kernel_rfl) Tryz.func13 (by kernel_rfl)).trans (Zpn _ x0)
noncomputable def Kk.l1 (Γ : Ze) (s4 s6 s8 s32 s33 : Value) : M Out:=
 bind (bop .int .lss s33 s32) fun y14=>
 cnd y14
 (bind (Γ WU [s4,(Value.int .i64 2)]) fun y15=>
 bind (bsl 5 1 (.agg #[.string ⟨#[]⟩,.string ⟨#[]⟩,.string ⟨#[]⟩,.bool false,.slice none 0 0]) [(0,5,y15)]) fun y16=>
 bind (app 5 80 s8 y16) fun y17=>
 bind (bop .int .add s33 (Value.int .i64 1)) fun y18=>
 ret (.nrm [s4,s6,y17,s32,y18]))
 (ret (.ext 0 [s4,s6,s8]))
noncomputable def Kk (Γ : Ze) (x0 : Value) : M Value:=
 bind (Γ ZbD [x0]) fun y1=>
 bind (Γ JO [y1]) fun y2=>
 bind (Γ Z4 [y1]) fun y3=>
 bind (bop .int .eql y3 (Value.int .i64 0)) fun y4=>
 bind (ZT y4 true 2 (bind (bop .int .neq y2 (Value.int .u8 2)) fun y5=>
 ret [y2,y5])) (c2 fun _ q6_1=>
 bind (pick y4 q6_1 (Value.bool false)) fun y7=>
 cnd y7
 (ret (Value.tuple #[(Value.pointer none),(Value.int .i64 6)]))
 (bind (Γ Y7 [y1,(Value.int .i64 6),(Value.int .i64 12)]) fun y8=>
 bind (Γ J1 [y1]) fun y9=>
 bind (cvi .i64 y9) fun y10=>
 bind (bop .int .gtr y10 (Value.int .i64 12)) fun y11=>
 jn (cnd y11
 (bind (Γ ZR [y1,(Value.int .i64 7)]) fun y12=>
 ret (.nrm [y1,y8,(Value.int .i64 0)]))
 (ret (.nrm [y1,y8,y10]))) (c3 fun q13_0 q13_1 q13_2=>
 jn (Zj (c5 (Kk.l1 Γ)) [q13_0,q13_1,(Value.slice none 0 0),q13_2,(Value.int .i64 0)]) noN (xk 0 (c3 fun q20_0 q20_1 q20_2=>
 bind (Γ Z4 [q20_0]) fun y21=>
 bind (bop .int .neq y21 (Value.int .i64 0)) fun y22=>
 cnd y22
 (ret (Value.tuple #[(Value.pointer none),y21]))
 (bind (Γ ZaG [q20_2,q20_1]) fun y23=>
 bind (Zz y23 0) fun y24=>
 bind (Zz y23 1) fun y25=>
 bind (bop .int .eql y25 (Value.int .i64 0)) fun y26=>
 jn (cnd y26
 (bind (Γ J0 [q20_0]) fun y27=>
 ret (.nrm [y24,y27]))
 (ret (.nrm [y24,y25]))) (c2 fun q28_0 q28_1=>
 bind (bop .int .neq q28_1 (Value.int .i64 0)) fun y29=>
 cnd y29
 (ret (Value.tuple #[(Value.pointer none),q28_1]))
 (ret (Value.tuple #[q28_0,(Value.int .i64 0)]))) noX ret)) noX) ret) noX ret))
theorem ZqV (Γ : Ze) (x0 : Value) : Zy Tryz.prog Γ Tryz.f15 Zix [x0]=Kk Γ x0:=by kernel_rfl
theorem ZhM {prim : FuncId→Option (List Value→M Value)} (hp : prim Za6=none) (n : Nat) (x0 : Value) : run Tryz.prog prim lvs (n+1) Za6 [x0]=Kk (run Tryz.prog prim lvs n) x0:=
 (Zl hp (by kernel_rfl) Tryz.func15 (by kernel_rfl)).trans (ZqV _ x0)
noncomputable def Yc.l1 (Γ : Ze) (s2 s4 s5 s6 s8 s45 s46 : Value) : M Out:=
 bind (bop .int .lss s46 s45) fun y37=>
 cnd y37
 (bind (ldA 2 s5) fun y38=>
 bind (Γ Wi [y38,(Value.int .i64 2)]) fun y39=>
 bind (Zz y39 0) fun y40=>
 bind (Zz y39 1) fun y41=>
 bind (alc 1 (.agg #[.string ⟨#[]⟩,.int .i64 0])) fun y42=>
 bind (alc 1 (.agg #[.string ⟨#[]⟩,.string ⟨#[]⟩,.string ⟨#[]⟩,.bool false,.slice none 0 0])) fun y43=>
 bind (stA 2 y42 y40) fun _=>
 bind (stA 5 y43 y41) fun _=>
 bind (ldA 2 y42) fun y44=>
 bind (stA 2 s5 y44) fun _=>
 bind (ldA 5 y43) fun y45=>
 bind (bsl 5 1 (.agg #[.string ⟨#[]⟩,.string ⟨#[]⟩,.string ⟨#[]⟩,.bool false,.slice none 0 0]) [(0,5,y45)]) fun y46=>
 bind (app 5 80 s8 y46) fun y47=>
 bind (bop .int .add s46 (Value.int .u64 1)) fun y48=>
 ret (.nrm [s2,s4,s5,s6,y47,s45,y48]))
 (ret (.ext 0 [s2,s4,s5,s6,s8]))
noncomputable def Yc (Γ : Ze) (x0 : Value) : M Value:=
 bind (alc 1 (.agg #[.slice none 0 0,.slice none 0 0])) fun y1=>
 bind (bld (.agg #[.slice none 0 0,.slice none 0 0]) []) fun y2=>
 bind (alc 1 (.agg #[.slice none 0 0,.slice none 0 0])) fun y3=>
 bind (stA 2 y3 y2) fun _=>
 bind (bop .str .eql x0 (Value.string ⟨#[]⟩)) fun y4=>
 cnd y4
 (bind (ldA 2 y3) fun y5=>
 bind (stA 2 y1 y5) fun _=>
 bind (ldA 2 y1) fun y6=>
 ret (Value.tuple #[y6,(Value.int .i64 2)]))
 (bind (ixs x0 (Value.int .i64 0)) fun y7=>
 bind (bop .int .neq y7 (Value.int .u8 2)) fun y8=>
 cnd y8
 (bind (ldA 2 y3) fun y9=>
 bind (stA 2 y1 y9) fun _=>
 bind (ldA 2 y1) fun y10=>
 ret (Value.tuple #[y10,(Value.int .i64 6)]))
 (bind (sls x0 (some (Value.int .i64 1)) none) fun y11=>
 bind (bld (.agg #[.string ⟨#[]⟩,.int .i64 0]) [(0,1,y11)]) fun y12=>
 bind (Γ KA [y12,(Value.int .i64 6),(Value.int .i64 12)]) fun y13=>
 bind (Zz y13 0) fun y14=>
 bind (Zz y13 1) fun y15=>
 bind (alc 1 (.agg #[.string ⟨#[]⟩,.int .i64 0])) fun y16=>
 bind (stA 2 y16 y14) fun _=>
 bind (ldA 2 y16) fun y17=>
 bind (Γ Q7 [y17,(Value.int .i64 2)]) fun y18=>
 bind (Zz y18 0) fun y19=>
 bind (Zz y18 1) fun y20=>
 bind (stA 2 y16 y19) fun _=>
 bind (fa 1 y16) fun y21=>
 bind (ld1 y21) fun y22=>
 bind (bop .int .eql y22 (Value.int .i64 0)) fun y23=>
 bind (ZT y23 true 2 (bind (bop .int .gtr y20 (Value.int .u64 12)) fun y24=>
 ret [y20,y24])) (c2 fun _ q25_1=>
 bind (pick y23 q25_1 (Value.bool false)) fun y26=>
 jn (cnd y26
 (bind (fa 1 y16) fun y27=>
 bind (st1 y27 (Value.int .i64 7)) fun _=>
 ret (.nrm [y1,y3,y16,y15,y20]))
 (ret (.nrm [y1,y3,y16,y15,y20]))) (c5 fun q28_0 q28_1 q28_2 q28_3 q28_4=>
 bind (fa 1 q28_2) fun y29=>
 bind (ld1 y29) fun y30=>
 bind (bop .int .neq y30 (Value.int .i64 0)) fun y31=>
 cnd y31
 (bind (ldA 2 q28_1) fun y32=>
 bind (fa 1 q28_2) fun y33=>
 bind (ld1 y33) fun y34=>
 bind (stA 2 q28_0 y32) fun _=>
 bind (ld1 y33) fun u_35=>same u_35 y34 <|
 bind (ldA 2 q28_0) fun y36=>
 ret (Value.tuple #[y36,y34]))
 (jn (Zj (c7 (Yc.l1 Γ)) [q28_0,q28_1,q28_2,q28_3,(Value.slice none 0 0),q28_4,(Value.int .u64 0)]) noN (xk 0 (c5 fun q50_0 q50_1 q50_2 q50_3 q50_4=>
 bind (fa 1 q50_2) fun y51=>
 bind (ld1 y51) fun y52=>
 bind (bop .int .eql y52 (Value.int .i64 0)) fun y53=>
 jn (cnd y53
 (bind (Γ ZcN [q50_4,q50_3]) fun y54=>
 bind (fa 1 q50_2) fun y55=>
 bind (st1 y55 y54) fun _=>
 ret (.nrm [q50_0,q50_1,q50_2,q50_3,q50_4]))
 (ret (.nrm [q50_0,q50_1,q50_2,q50_3,q50_4]))) (c5 fun q56_0 q56_1 q56_2 q56_3 q56_4=>
 bind (fa 1 q56_2) fun y57=>
 bind (ld1 y57) fun y58=>
 bind (bop .int .eql y58 (Value.int .i64 0)) fun y59=>
 bind (ZT y59 true 3 (bind (fa 0 q56_2) fun y60=>
 bind (ld1 y60) fun y61=>
 bind (bop .str .neq y61 (Value.string ⟨#[]⟩)) fun y62=>
 ret [y60,y61,y62])) (c3 fun _ _ q63_2=>
 bind (pick y59 q63_2 (Value.bool false)) fun y64=>
 jn (cnd y64
 (bind (fa 1 q56_2) fun y65=>
 bind (st1 y65 (Value.int .i64 3)) fun _=>
 ret (.nrm [q56_0,q56_1,q56_2,q56_3,q56_4]))
 (ret (.nrm [q56_0,q56_1,q56_2,q56_3,q56_4]))) (c5 fun q66_0 q66_1 q66_2 q66_3 q66_4=>
 bind (fa 1 q66_2) fun y67=>
 bind (ld1 y67) fun y68=>
 bind (bop .int .neq y68 (Value.int .i64 0)) fun y69=>
 cnd y69
 (bind (ldA 2 q66_1) fun y70=>
 bind (fa 1 q66_2) fun y71=>
 bind (ld1 y71) fun y72=>
 bind (stA 2 q66_0 y70) fun _=>
 bind (ld1 y71) fun u_73=>same u_73 y72 <|
 bind (ldA 2 q66_0) fun y74=>
 ret (Value.tuple #[y74,y72]))
 (bind (bld (.agg #[.slice none 0 0,.slice none 0 0]) [(0,1,q66_4),(1,1,q66_3)]) fun y75=>
 bind (stA 2 q66_0 y75) fun _=>
 bind (ldA 2 q66_0) fun y76=>
 ret (Value.tuple #[y76,(Value.int .i64 0)]))) noX ret)) noX ret) noX) ret)) noX ret)))
theorem ZrC (Γ : Ze) (x0 : Value) : Zy Tryz.prog Γ Tryz.f16 Zi1 [x0]=Yc Γ x0:=by kernel_rfl
theorem Zph {prim : FuncId→Option (List Value→M Value)} (hp : prim Wn=none) (n : Nat) (x0 : Value) : run Tryz.prog prim lvs (n+1) Wn [x0]=Yc (run Tryz.prog prim lvs n) x0:=
 (Zl hp (by kernel_rfl) Tryz.func16 (by kernel_rfl)).trans (ZrC _ x0)
noncomputable def Zge (Γ : Ze) (x0 : Value) : M Value:=
 bind (alc 1 x0) fun y1=>
 bind (fa 1 y1) fun y2=>
 bind (ld1 y2) fun y3=>
 bind (fa 0 y1) fun y4=>
 bind (ld1 y4) fun y5=>
 bind (Γ ZbQ [y3]) fun y6=>
 bind (ld1 y4) fun u_7=>same u_7 y5 <|
 bind (bop .str .add (Value.string ⟨#[2]⟩) y6) fun y8=>
 bind (Γ Zdp [(Value.int .i64 2),y5]) fun y9=>
 bind (bop .str .add y8 y9) fun y10=>
 ret y10
theorem Zq1 (Γ : Ze) (x0 : Value) : Zy Tryz.prog Γ Tryz.f21 Zjq [x0]=Zge Γ x0:=by kernel_rfl
theorem ZpH {prim : FuncId→Option (List Value→M Value)} (hp : prim Zcn=none) (n : Nat) (x0 : Value) : run Tryz.prog prim lvs (n+1) Zcn [x0]=Zge (run Tryz.prog prim lvs n) x0:=
 (Zl hp (by kernel_rfl) Tryz.func21 (by kernel_rfl)).trans (Zq1 _ x0)
noncomputable def ZfK (Γ : Ze) (x0 : Value) : M Value:=
 bind (ZH x0) fun y1=>
 bind (bop .int .gtr y1 (Value.int .i64 0)) fun y2=>
 bind (ZT y2 true 5 (bind (ixa 1 x0 (Value.int .i64 0)) fun y3=>
 bind (ld1 y3) fun y4=>
 bind (bop .int .eql y4 (Value.int .u8 1)) fun y5=>
 ret [x0,y3,y4,y5,y5])) (c5 fun _ _ _ _ q6_4=>
 bind (ZT q6_4 false 4 (bind (ixa 1 x0 (Value.int .i64 0)) fun y7=>
 bind (ld1 y7) fun y8=>
 bind (bop .int .eql y8 (Value.int .u8 2)) fun y9=>
 ret [x0,y7,y8,y9])) (c4 fun _ _ _ q10_3=>
 bind (ZT y2 true 1 (bind (pick q6_4 (Value.bool true) q10_3) fun y11=>
 ret [y11])) (c1 fun q12_0=>
 bind (pick y2 q12_0 (Value.bool false)) fun y13=>
 cnd y13
 (bind (ixa 1 x0 (Value.int .i64 0)) fun y14=>
 bind (ld1 y14) fun y15=>
 bind (cvi .i64 y15) fun y16=>
 ret y16)
 (ret (Value.int .i64 0)))))
theorem Zpg (Γ : Ze) (x0 : Value) : Zy Tryz.prog Γ Tryz.f22 ZhQ [x0]=ZfK Γ x0:=by kernel_rfl
theorem Znt {prim : FuncId→Option (List Value→M Value)} (hp : prim K1=none) (n : Nat) (x0 : Value) : run Tryz.prog prim lvs (n+1) K1 [x0]=ZfK (run Tryz.prog prim lvs n) x0:=
 (Zl hp (by kernel_rfl) Tryz.func22 (by kernel_rfl)).trans (Zpg _ x0)
noncomputable def ZfC (Γ : Ze) : M Value:=
 bind (bsl 1 3 (.int .u8 0) [(0,1,(Value.int .u8 1)),(1,1,(Value.int .u8 0)),(2,1,(Value.int .u8 0))]) fun y1=>
 bind (Γ Yd [y1]) fun y2=>
 bind (Zz y2 0) fun y3=>
 bind (Zz y2 1) fun y4=>
 bind (bop .int .eql y4 (Value.int .i64 0)) fun y5=>
 bind (ZT y5 true 3 (bind (b2s y3) fun y6=>
 bind (bop .str .eql y6 (Value.string ⟨#[2,0,0,0,0]⟩)) fun y7=>
 ret [y3,y6,y7])) (c3 fun _ _ q8_2=>
 bind (pick y5 q8_2 (Value.bool false)) fun y9=>
 ret y9)
theorem Zpd (Γ : Ze) : Zy Tryz.prog Γ Tryz.f23 ZhW []=ZfC Γ :=by kernel_rfl
theorem ZnQ {prim : FuncId→Option (List Value→M Value)} (hp : prim ZbH=none) (n : Nat) : run Tryz.prog prim lvs (n+1) ZbH []=ZfC (run Tryz.prog prim lvs n) :=
 (Zl hp (by kernel_rfl) Tryz.func23 (by kernel_rfl)).trans (Zpd _ )
noncomputable def KH (Γ : Ze) (x0 : Value) : M Value:=
 bind (Γ K1 [x0]) fun y1=>
 bind (bop .int .eql y1 (Value.int .i64 2)) fun y2=>
 cnd y2
 (bind (Γ Za6 [x0]) fun y3=>
 bind (Zz y3 0) fun y4=>
 bind (Zz y3 1) fun y5=>
 bind (bop .int .neq y5 (Value.int .i64 0)) fun y6=>
 cnd y6
 (ret (Value.tuple #[(Value.slice none 0 0),y5]))
 (bind (Γ Wz [x0]) fun y7=>
 ret (Value.tuple #[y7,(Value.int .i64 0)])))
 (bind (Γ ZaK [x0]) fun y8=>
 bind (Zz y8 0) fun y9=>
 bind (Zz y8 1) fun y10=>
 bind (bop .int .neq y10 (Value.int .i64 0)) fun y11=>
 cnd y11
 (ret (Value.tuple #[(Value.slice none 0 0),y10]))
 (bind (Γ Zd0 [y9]) fun y12=>
 bind (Γ ZbA [y12]) fun y13=>
 ret (Value.tuple #[y13,(Value.int .i64 0)])))
theorem ZmB (Γ : Ze) (x0 : Value) : Zy Tryz.prog Γ Tryz.f24 Zf9 [x0]=KH Γ x0:=by kernel_rfl
theorem ZlN {prim : FuncId→Option (List Value→M Value)} (hp : prim Yd=none) (n : Nat) (x0 : Value) : run Tryz.prog prim lvs (n+1) Yd [x0]=KH (run Tryz.prog prim lvs n) x0:=
 (Zl hp (by kernel_rfl) Tryz.func24 (by kernel_rfl)).trans (ZmB _ x0)
noncomputable def Zar (Γ : Ze) (x0 : Value) : M Value:=
 bind (bop .str .neq x0 (Value.string ⟨#[]⟩)) fun y1=>
 bind (ZT y1 true 3 (bind (ixs x0 (Value.int .i64 0)) fun y2=>
 bind (bop .int .eql y2 (Value.int .u8 2)) fun y3=>
 ret [x0,y2,y3])) (c3 fun _ _ q4_2=>
 bind (pick y1 q4_2 (Value.bool false)) fun y5=>
 cnd y5
 (bind (Γ Wn [x0]) fun y6=>
 bind (Zz y6 0) fun y7=>
 bind (Zz y6 1) fun y8=>
 bind (alc 1 (.agg #[.slice none 0 0,.slice none 0 0])) fun y9=>
 bind (stA 2 y9 y7) fun _=>
 bind (bop .int .neq y8 (Value.int .i64 0)) fun y10=>
 cnd y10
 (ret (Value.tuple #[(Value.string ⟨#[]⟩),y8]))
 (ret (Value.tuple #[x0,(Value.int .i64 0)])))
 (bind (Γ Za0 [x0]) fun y11=>
 bind (Zz y11 0) fun y12=>
 bind (Zz y11 1) fun y13=>
 bind (bop .int .neq y13 (Value.int .i64 0)) fun y14=>
 cnd y14
 (ret (Value.tuple #[(Value.string ⟨#[]⟩),y13]))
 (bind (Γ Zex [y12]) fun y15=>
 bind (Γ Zcn [y15]) fun y16=>
 ret (Value.tuple #[y16,(Value.int .i64 0)]))))
theorem Zpt (Γ : Ze) (x0 : Value) : Zy Tryz.prog Γ Tryz.f25 Zh3 [x0]=Zar Γ x0:=by kernel_rfl
theorem Zoi {prim : FuncId→Option (List Value→M Value)} (hp : prim Zap=none) (n : Nat) (x0 : Value) : run Tryz.prog prim lvs (n+1) Zap [x0]=Zar (run Tryz.prog prim lvs n) x0:=
 (Zl hp (by kernel_rfl) Tryz.func25 (by kernel_rfl)).trans (Zpt _ x0)
noncomputable def Zhz (Γ : Ze) : M Value:=
 bind (mkm) fun y1=>
 bind (bld (.agg #[.map none]) [(0,1,y1)]) fun y2=>
 bind (alc 1 y2) fun y3=>
 ret y3
theorem Zsn (Γ : Ze) : Zy Tryz.prog Γ Tryz.f27 ZkM []=Zhz Γ :=by kernel_rfl
theorem Zrb {prim : FuncId→Option (List Value→M Value)} (hp : prim Zdd=none) (n : Nat) : run Tryz.prog prim lvs (n+1) Zdd []=Zhz (run Tryz.prog prim lvs n) :=
 (Zl hp (by kernel_rfl) Tryz.func27 (by kernel_rfl)).trans (Zsn _ )
noncomputable def KP.l1 (Γ : Ze) (s3 s11 s12 s13 : Value) : M Out:=
 bind (bop .int .lss s13 s12) fun y4=>
 cnd y4
 (bind (ixa 5 s11 s13) fun y5=>
 bind (ldA 5 y5) fun y6=>
 bind (alc 1 (.agg #[.string ⟨#[]⟩,.string ⟨#[]⟩,.string ⟨#[]⟩,.bool false,.slice none 0 0])) fun y7=>
 bind (stA 5 y7 y6) fun _=>
 bind (ldA 5 y7) fun y8=>
 bind (Γ Zhi [y8]) fun y9=>
 bind (bsl 5 1 (.agg #[.string ⟨#[]⟩,.string ⟨#[]⟩,.string ⟨#[]⟩,.bool false,.slice none 0 0]) [(0,5,y9)]) fun y10=>
 bind (app 5 80 s3 y10) fun y11=>
 bind (bop .int .add s13 (Value.int .i64 1)) fun y12=>
 ret (.nrm [y11,s11,s12,y12]))
 (ret (.ext 0 [s3]))
noncomputable def KP (Γ : Ze) (x0 : Value) : M Value:=
 bind (bop .ptr .eql x0 (Value.pointer none)) fun y1=>
 cnd y1
 (ret (Value.pointer none))
 (bind (Γ ZaV [x0]) fun y2=>
 bind (ZH y2) fun y3=>
 jn (Zj (c4 (KP.l1 Γ)) [(Value.slice none 0 0),y2,y3,(Value.int .i64 0)]) noN (xk 0 (c1 fun q14_0=>
 bind (Γ ZaG [q14_0,(Value.slice none 0 0)]) fun y15=>
 bind (Zz y15 0) fun y16=>
 bind (Zz y15 1) fun y17=>
 ret y16) noX) ret)
theorem Zp3 (Γ : Ze) (x0 : Value) : Zy Tryz.prog Γ Tryz.f30 ZiW [x0]=KP Γ x0:=by kernel_rfl
theorem ZpF {prim : FuncId→Option (List Value→M Value)} (hp : prim Zd0=none) (n : Nat) (x0 : Value) : run Tryz.prog prim lvs (n+1) Zd0 [x0]=KP (run Tryz.prog prim lvs n) x0:=
 (Zl hp (by kernel_rfl) Tryz.func30 (by kernel_rfl)).trans (Zp3 _ x0)
noncomputable def Ww (Γ : Ze) (x0 x1 : Value) : M Value:=
 bind (alc 1 (.agg #[.string ⟨#[]⟩,.string ⟨#[]⟩,.string ⟨#[]⟩,.bool false,.slice none 0 0])) fun y1=>
 bind (Γ Zaw [x0,x1]) fun y2=>
 bind (Zz y2 0) fun y3=>
 bind (Zz y2 1) fun y4=>
 bind (alc 1 (.agg #[.string ⟨#[]⟩,.bool false])) fun y5=>
 bind (stA 2 y5 y3) fun _=>
 bind (bop .int .neq y4 (Value.int .i64 0)) fun y6=>
 cnd y6
 (bind (bld (.agg #[.string ⟨#[]⟩,.string ⟨#[]⟩,.string ⟨#[]⟩,.bool false,.slice none 0 0]) []) fun y7=>
 bind (stA 5 y1 y7) fun _=>
 bind (ldA 5 y1) fun y8=>
 ret (Value.tuple #[y8,y4]))
 (bind (Jc x0) fun y9=>
 bind (fa 1 y9) fun y10=>
 bind (ld1 y10) fun y11=>
 bind (Γ ZaZ [y11,x1]) fun y12=>
 bind (Zz y12 0) fun y13=>
 bind (Zz y12 1) fun y14=>
 bind (fa 0 y5) fun y15=>
 bind (ld1 y15) fun y16=>
 bind (fa 1 y5) fun y17=>
 bind (ld1 y17) fun y18=>
 bind (Jc x0) fun y19=>
 bind (fa 2 y19) fun y20=>
 bind (ld1 y20) fun y21=>
 bind (Γ W0 [y21,x1]) fun y22=>
 bind (ld1 y17) fun u_23=>same u_23 y18 <|
 bind (ld1 y15) fun u_24=>same u_24 y16 <|
 bind (bld (.agg #[.string ⟨#[]⟩,.string ⟨#[]⟩,.string ⟨#[]⟩,.bool false,.slice none 0 0]) [(0,1,x1),(1,1,y16),(2,1,y13),(3,1,y18),(4,1,y22)]) fun y25=>
 bind (stA 5 y1 y25) fun _=>
 bind (ldA 5 y1) fun y26=>
 ret (Value.tuple #[y26,(Value.int .i64 0)]))
theorem ZkE (Γ : Ze) (x0 x1 : Value) : Zy Tryz.prog Γ Tryz.f33 ZeL [x0,x1]=Ww Γ x0 x1:=by kernel_rfl
theorem ZjP {prim : FuncId→Option (List Value→M Value)} (hp : prim WI=none) (n : Nat) (x0 x1 : Value) : run Tryz.prog prim lvs (n+1) WI [x0,x1]=Ww (run Tryz.prog prim lvs n) x0 x1:=
 (Zl hp (by kernel_rfl) Tryz.func33 (by kernel_rfl)).trans (ZkE _ x0 x1)
noncomputable def Zhw (Γ : Ze) : M Value:=
 bind (mkm) fun y1=>
 bind (Γ ZfX []) fun y2=>
 bind (Γ Ze9 []) fun y3=>
 bind (bld (.agg #[.map none,.pointer none,.pointer none]) [(0,1,y1),(1,1,y2),(2,1,y3)]) fun y4=>
 bind (alc 1 y4) fun y5=>
 ret y5
theorem ZrZ (Γ : Ze) : Zy Tryz.prog Γ Tryz.f37 ZkX []=Zhw Γ :=by kernel_rfl
theorem ZpW {prim : FuncId→Option (List Value→M Value)} (hp : prim Zdq=none) (n : Nat) : run Tryz.prog prim lvs (n+1) Zdq []=Zhw (run Tryz.prog prim lvs n) :=
 (Zl hp (by kernel_rfl) Tryz.func37 (by kernel_rfl)).trans (ZrZ _ )
noncomputable def YZ.l1 (Γ : Ze) (s0 s3 s7 s8 s9 : Value) : M Out:=
 bind (bop .int .lss s9 s8) fun y3=>
 cnd y3
 (bind (ixa 1 s7 s9) fun y4=>
 bind (ld1 y4) fun y5=>
 bind (Jc s0) fun y6=>
 bind (fa 0 y6) fun y7=>
 bind (ld1 y7) fun y8=>
 bind (lkp .str (.string ⟨#[]⟩) false y8 y5) fun y9=>
 bind (bld (.agg #[.string ⟨#[]⟩,.string ⟨#[]⟩,.string ⟨#[]⟩,.bool false,.slice none 0 0]) [(0,1,y5),(1,1,y9)]) fun y10=>
 bind (bsl 5 1 (.agg #[.string ⟨#[]⟩,.string ⟨#[]⟩,.string ⟨#[]⟩,.bool false,.slice none 0 0]) [(0,5,y10)]) fun y11=>
 bind (app 5 80 s3 y11) fun y12=>
 bind (bop .int .add s9 (Value.int .i64 1)) fun y13=>
 ret (.nrm [s0,y12,s7,s8,y13]))
 (ret (.ext 0 [s3]))
noncomputable def YZ (Γ : Ze) (x0 : Value) : M Value:=
 bind (Γ Zbh [x0]) fun y1=>
 bind (ZH y1) fun y2=>
 jn (Zj (c5 (YZ.l1 Γ)) [x0,(Value.slice none 0 0),y1,y2,(Value.int .i64 0)]) noN (xk 0 (c1 fun q15_0=>
 ret q15_0) noX) ret
theorem ZnJ (Γ : Ze) (x0 : Value) : Zy Tryz.prog Γ Tryz.f40 Zgp [x0]=YZ Γ x0:=by kernel_rfl
theorem Znk {prim : FuncId→Option (List Value→M Value)} (hp : prim ZaV=none) (n : Nat) (x0 : Value) : run Tryz.prog prim lvs (n+1) ZaV [x0]=YZ (run Tryz.prog prim lvs n) x0:=
 (Zl hp (by kernel_rfl) Tryz.func40 (by kernel_rfl)).trans (ZnJ _ x0)
noncomputable def QW.l1 (Γ : Ze) (s1 s5 s13 s14 s15 : Value) : M Out:=
 bind (bop .int .lss s15 s14) fun y2=>
 cnd y2
 (bind (ixa 5 s13 s15) fun y3=>
 bind (ldA 5 y3) fun y4=>
 bind (alc 1 (.agg #[.string ⟨#[]⟩,.string ⟨#[]⟩,.string ⟨#[]⟩,.bool false,.slice none 0 0])) fun y5=>
 bind (stA 5 y5 y4) fun _=>
 bind (ldA 5 y5) fun y6=>
 bind (Γ Ye [(Value.int .i64 2),y6]) fun y7=>
 bind (bop .int .neq y7 (Value.int .i64 0)) fun y8=>
 cnd y8
 (ret (.ret y7))
 (bind (fa 0 y5) fun y9=>
 bind (ld1 y9) fun y10=>
 bind (bsl 1 1 (.string ⟨#[]⟩) [(0,1,y10)]) fun y11=>
 bind (app 1 16 s5 y11) fun y12=>
 bind (bop .int .add s15 (Value.int .i64 1)) fun y13=>
 ret (.nrm [s1,y12,s13,s14,y13])))
 (ret (.ext 0 [s1,s5]))
noncomputable def QW.l2 (Γ : Ze) (s1 s35 s36 s37 : Value) : M Out:=
 bind (bop .int .lss s37 s36) fun y19=>
 cnd y19
 (bind (ixa 1 s35 s37) fun y20=>
 bind (ld1 y20) fun y21=>
 bind (Γ JM [y21]) fun y22=>
 bind (bop .int .neq y22 (Value.int .i64 0)) fun y23=>
 cnd y23
 (ret (.ret y22))
 (bind (bop .int .add s37 (Value.int .i64 1)) fun y24=>
 ret (.nrm [s1,s35,s36,y24])))
 (ret (.ext 2 [s1]))
noncomputable def QW (Γ : Ze) (x0 x1 : Value) : M Value:=
 bind (ZH x0) fun y1=>
 jn (Zj (c5 (QW.l1 Γ)) [x1,(Value.slice none 0 0),x0,y1,(Value.int .i64 0)]) noN (xk 0 (c2 fun q15_0 q15_1=>
 bind (Γ Ki [q15_1,(Value.int .i64 12)]) fun y16=>
 bind (bop .int .neq y16 (Value.int .i64 0)) fun y17=>
 cnd y17
 (ret y16)
 (bind (ZH q15_0) fun y18=>
 jn (Zj (c4 (QW.l2 Γ)) [q15_0,q15_0,y18,(Value.int .i64 0)]) noN (xk 2 (c1 fun q26_0=>
 bind (Γ Ki [q26_0,(Value.int .i64 6)]) fun y27=>
 ret y27) noX) ret)) noX) ret
theorem Zpb (Γ : Ze) (x0 x1 : Value) : Zy Tryz.prog Γ Tryz.f41 Zh0 [x0,x1]=QW Γ x0 x1:=by kernel_rfl
theorem ZnT {prim : FuncId→Option (List Value→M Value)} (hp : prim Zbu=none) (n : Nat) (x0 x1 : Value) : run Tryz.prog prim lvs (n+1) Zbu [x0,x1]=QW (run Tryz.prog prim lvs n) x0 x1:=
 (Zl hp (by kernel_rfl) Tryz.func41 (by kernel_rfl)).trans (Zpb _ x0 x1)
noncomputable def Yg (Γ : Ze) (x0 x1 : Value) : M Value:=
 bind (Γ YL [x0,x1,(Value.slice none 0 0)]) fun y1=>
 bind (Zz y1 0) fun y2=>
 bind (Zz y1 1) fun y3=>
 bind (bop .int .eql y3 (Value.int .i64 0)) fun y4=>
 cnd y4
 (ret (Value.int .i64 9))
 (bind (bop .int .neq y3 (Value.int .i64 8)) fun y5=>
 cnd y5
 (ret y3)
 (bind (Jc x0) fun y6=>
 bind (fa 0 y6) fun y7=>
 bind (ld1 y7) fun y8=>
 bind (lenM y8) fun y9=>
 bind (bop .int .geq y9 (Value.int .i64 6)) fun y10=>
 cnd y10
 (ret (Value.int .i64 7))
 (bind (Jc x0) fun y11=>
 bind (fa 0 y11) fun y12=>
 bind (ld1 y12) fun y13=>
 bind (mkm) fun y14=>
 bind (mup .str y13 x1 y14) fun _=>
 ret (Value.int .i64 0))))
theorem ZjB (Γ : Ze) (x0 x1 : Value) : Zy Tryz.prog Γ Tryz.f42 Zed [x0,x1]=Yg Γ x0 x1:=by kernel_rfl
theorem Zih {prim : FuncId→Option (List Value→M Value)} (hp : prim YK=none) (n : Nat) (x0 x1 : Value) : run Tryz.prog prim lvs (n+1) YK [x0,x1]=Yg (run Tryz.prog prim lvs n) x0 x1:=
 (Zl hp (by kernel_rfl) Tryz.func42 (by kernel_rfl)).trans (ZjB _ x0 x1)
noncomputable def Kx (Γ : Ze) (x0 x1 x2 : Value) : M Value:=
 bind (bsl 1 1 (.string ⟨#[]⟩) [(0,1,x2)]) fun y1=>
 bind (Γ YL [x0,x1,y1]) fun y2=>
 bind (Zz y2 0) fun y3=>
 bind (Zz y2 1) fun y4=>
 bind (bop .int .neq y4 (Value.int .i64 0)) fun y5=>
 cnd y5
 (ret y4)
 (bind (lkp .str (.agg #[]) true y3 x2) fun y6=>
 bind (Zz y6 0) fun y7=>
 bind (Zz y6 1) fun y8=>
 bind (alc 1 (.agg #[])) fun y9=>
 bind (stA 0 y9 y7) fun _=>
 cnd y8
 (ret (Value.int .i64 9))
 (bind (bld (.agg #[]) []) fun y10=>
 bind (mup .str y3 x2 y10) fun _=>
 ret (Value.int .i64 0)))
theorem ZiY (Γ : Ze) (x0 x1 x2 : Value) : Zy Tryz.prog Γ Tryz.f43 Zer [x0,x1,x2]=Kx Γ x0 x1 x2:=by kernel_rfl
theorem Zik {prim : FuncId→Option (List Value→M Value)} (hp : prim Kw=none) (n : Nat) (x0 x1 x2 : Value) : run Tryz.prog prim lvs (n+1) Kw [x0,x1,x2]=Kx (run Tryz.prog prim lvs n) x0 x1 x2:=
 (Zl hp (by kernel_rfl) Tryz.func43 (by kernel_rfl)).trans (ZiY _ x0 x1 x2)
noncomputable def Kc (Γ : Ze) (x0 x1 x2 : Value) : M Value:=
 bind (Γ JM [x1]) fun y1=>
 bind (bop .int .neq y1 (Value.int .i64 0)) fun y2=>
 cnd y2
 (ret y1)
 (bind (bop .str .eql x2 (Value.string ⟨#[]⟩)) fun y3=>
 cnd y3
 (bind (Γ YN [x0,x1]) fun y4=>
 ret (Value.int .i64 0))
 (bind (Γ ZbO [x2]) fun y5=>
 bind (Zz y5 0) fun y6=>
 bind (Zz y5 1) fun y7=>
 bind (bop .int .neq y7 (Value.int .i64 0)) fun y8=>
 cnd y8
 (ret y7)
 (bind (Jc x0) fun y9=>
 bind (fa 0 y9) fun y10=>
 bind (ld1 y10) fun y11=>
 bind (lkp .str (.string ⟨#[]⟩) true y11 y6) fun y12=>
 bind (Zz y12 0) fun y13=>
 bind (Zz y12 1) fun y14=>
 bind (ZT y14 true 3 (bind (bop .str .neq y13 x1) fun y15=>
 ret [y13,x1,y15])) (c3 fun _ _ q16_2=>
 bind (pick y14 q16_2 (Value.bool false)) fun y17=>
 cnd y17
 (ret (Value.int .i64 9))
 (bind (Γ YN [x0,x1]) fun y18=>
 bind (Jc x0) fun y19=>
 bind (fa 0 y19) fun y20=>
 bind (ld1 y20) fun y21=>
 bind (Jc x0) fun y22=>
 bind (fa 1 y22) fun y23=>
 bind (ld1 y23) fun y24=>
 bind (men .str (.string ⟨#[]⟩) y21 y6) fun y25=>
 bind (Zz y25 1) fun y26=>
 bind (ens y21 y26 x1) fun _=>
 bind (men .str (.string ⟨#[]⟩) y24 x1) fun y27=>
 bind (Zz y27 1) fun y28=>
 bind (ens y24 y28 y6) fun _=>
 ret (Value.int .i64 0))))))
theorem Zmh (Γ : Ze) (x0 x1 x2 : Value) : Zy Tryz.prog Γ Tryz.f44 Zf1 [x0,x1,x2]=Kc Γ x0 x1 x2:=by kernel_rfl
theorem ZlX {prim : FuncId→Option (List Value→M Value)} (hp : prim Kd=none) (n : Nat) (x0 x1 x2 : Value) : run Tryz.prog prim lvs (n+1) Kd [x0,x1,x2]=Kc (run Tryz.prog prim lvs n) x0 x1 x2:=
 (Zl hp (by kernel_rfl) Tryz.func44 (by kernel_rfl)).trans (Zmh _ x0 x1 x2)
noncomputable def Zcc (Γ : Ze) (x0 x1 : Value) : M Value:=
 bind (cvi .u64 x1) fun y1=>
 bind (Γ Ka [x0,y1,(Value.int .i64 1)]) fun y2=>
 ret y2
theorem Ziv (Γ : Ze) (x0 x1 : Value) : Zy Tryz.prog Γ Tryz.f45 Zeo [x0,x1]=Zcc Γ x0 x1:=by kernel_rfl
theorem Zh8 {prim : FuncId→Option (List Value→M Value)} (hp : prim JP=none) (n : Nat) (x0 x1 : Value) : run Tryz.prog prim lvs (n+1) JP [x0,x1]=Zcc (run Tryz.prog prim lvs n) x0 x1:=
 (Zl hp (by kernel_rfl) Tryz.func45 (by kernel_rfl)).trans (Ziv _ x0 x1)
noncomputable def Yx.l1 (Γ : Ze) (s0 s17 s18 s19 : Value) : M Out:=
 bind (bop .int .lss s19 s18) fun y8=>
 cnd y8
 (bind (ixa 1 s17 s19) fun y9=>
 bind (ld1 y9) fun y10=>
 bind (Γ Jr [s0,y10]) fun y11=>
 bind (bop .int .add s19 (Value.int .i64 1)) fun y12=>
 ret (.nrm [s0,s17,s18,y12]))
 (ret (.ext 0 [s0]))
noncomputable def Yx (Γ : Ze) (x0 x1 : Value) : M Value:=
 bind (ZH x1) fun y1=>
 bind (mxi false y1 (Value.int .i64 65535)) fun y2=>
 bind (slv 1 x1 none (some y2) none) fun y3=>
 bind (ZH y3) fun y4=>
 bind (cvi .u16 y4) fun y5=>
 bind (Γ Yw [x0,y5]) fun y6=>
 bind (ZH y3) fun y7=>
 jn (Zj (c4 (Yx.l1 Γ)) [x0,y3,y7,(Value.int .i64 0)]) noN (xk 0 (c1 fun q14_0=>
 ret q14_0) noX) ret
theorem Zkl (Γ : Ze) (x0 x1 : Value) : Zy Tryz.prog Γ Tryz.f46 ZeH [x0,x1]=Yx Γ x0 x1:=by kernel_rfl
theorem Zjm {prim : FuncId→Option (List Value→M Value)} (hp : prim Y8=none) (n : Nat) (x0 x1 : Value) : run Tryz.prog prim lvs (n+1) Y8 [x0,x1]=Yx (run Tryz.prog prim lvs n) x0 x1:=
 (Zl hp (by kernel_rfl) Tryz.func46 (by kernel_rfl)).trans (Zkl _ x0 x1)
noncomputable def ZcD (Γ : Ze) (x0 : Value) : M Value:=
 bind (Jc x0) fun y1=>
 bind (fa 2 y1) fun y2=>
 bind (ld1 y2) fun y3=>
 bind (Γ Y5 [y3]) fun y4=>
 ret y4
theorem Zkz (Γ : Ze) (x0 : Value) : Zy Tryz.prog Γ Tryz.f47 ZeP [x0]=ZcD Γ x0:=by kernel_rfl
theorem ZjH {prim : FuncId→Option (List Value→M Value)} (hp : prim Wv=none) (n : Nat) (x0 : Value) : run Tryz.prog prim lvs (n+1) Wv [x0]=ZcD (run Tryz.prog prim lvs n) x0:=
 (Zl hp (by kernel_rfl) Tryz.func47 (by kernel_rfl)).trans (Zkz _ x0)
noncomputable def ZcG (Γ : Ze) (x0 x1 : Value) : M Value:=
 bind (cvi .u64 x1) fun y1=>
 bind (Γ Ka [x0,y1,(Value.int .i64 2)]) fun y2=>
 ret y2
theorem Zke (Γ : Ze) (x0 x1 : Value) : Zy Tryz.prog Γ Tryz.f48 ZeQ [x0,x1]=ZcG Γ x0 x1:=by kernel_rfl
theorem Zja {prim : FuncId→Option (List Value→M Value)} (hp : prim Yw=none) (n : Nat) (x0 x1 : Value) : run Tryz.prog prim lvs (n+1) Yw [x0,x1]=ZcG (run Tryz.prog prim lvs n) x0 x1:=
 (Zl hp (by kernel_rfl) Tryz.func48 (by kernel_rfl)).trans (Zke _ x0 x1)
noncomputable def ZeC (Γ : Ze) (x0 : Value) : M Value:=
 bind (Jc x0) fun y1=>
 bind (fa 0 y1) fun y2=>
 bind (ld1 y2) fun y3=>
 bind (lenM y3) fun y4=>
 ret y4
theorem Zop (Γ : Ze) (x0 : Value) : Zy Tryz.prog Γ Tryz.f49 ZgH [x0]=ZeC Γ x0:=by kernel_rfl
theorem ZmM {prim : FuncId→Option (List Value→M Value)} (hp : prim ZaW=none) (n : Nat) (x0 : Value) : run Tryz.prog prim lvs (n+1) ZaW [x0]=ZeC (run Tryz.prog prim lvs n) x0:=
 (Zl hp (by kernel_rfl) Tryz.func49 (by kernel_rfl)).trans (Zop _ x0)
noncomputable def YY.l1 (Γ : Ze) (s0 s3 s9 s10 s11 : Value) : M Out:=
 bind (bop .int .lss s11 s10) fun y3=>
 cnd y3
 (bind (ixa 1 s9 s11) fun y4=>
 bind (ld1 y4) fun y5=>
 bind (Γ WI [s0,y5]) fun y6=>
 bind (Zz y6 0) fun y7=>
 bind (Zz y6 1) fun y8=>
 bind (alc 1 (.agg #[.string ⟨#[]⟩,.string ⟨#[]⟩,.string ⟨#[]⟩,.bool false,.slice none 0 0])) fun y9=>
 bind (stA 5 y9 y7) fun _=>
 bind (ldA 5 y9) fun y10=>
 bind (bsl 5 1 (.agg #[.string ⟨#[]⟩,.string ⟨#[]⟩,.string ⟨#[]⟩,.bool false,.slice none 0 0]) [(0,5,y10)]) fun y11=>
 bind (app 5 80 s3 y11) fun y12=>
 bind (bop .int .add s11 (Value.int .i64 1)) fun y13=>
 ret (.nrm [s0,y12,s9,s10,y13]))
 (ret (.ext 0 [s3]))
noncomputable def YY (Γ : Ze) (x0 : Value) : M Value:=
 bind (Γ WX [x0]) fun y1=>
 bind (ZH y1) fun y2=>
 jn (Zj (c5 (YY.l1 Γ)) [x0,(Value.slice none 0 0),y1,y2,(Value.int .i64 0)]) noN (xk 0 (c1 fun q15_0=>
 ret q15_0) noX) ret
theorem Zoj (Γ : Ze) (x0 : Value) : Zy Tryz.prog Γ Tryz.f50 ZgL [x0]=YY Γ x0:=by kernel_rfl
theorem Zl2 {prim : FuncId→Option (List Value→M Value)} (hp : prim ZaR=none) (n : Nat) (x0 : Value) : run Tryz.prog prim lvs (n+1) ZaR [x0]=YY (run Tryz.prog prim lvs n) x0:=
 (Zl hp (by kernel_rfl) Tryz.func50 (by kernel_rfl)).trans (Zoj _ x0)
noncomputable def Zjl (Γ : Ze) (x0 x1 x2 : Value) : M Value:=
 bind (alc 1 x2) fun y1=>
 bind (ldA 5 y1) fun y2=>
 bind (Γ Ye [x1,y2]) fun y3=>
 bind (bop .int .neq y3 (Value.int .i64 0)) fun y4=>
 cnd y4
 (ret (Value.bool false))
 (bind (fa 0 y1) fun y5=>
 bind (ld1 y5) fun y6=>
 bind (fa 1 y1) fun y7=>
 bind (ld1 y7) fun y8=>
 bind (Γ Jr [x0,y6]) fun y9=>
 bind (ld1 y7) fun u_10=>same u_10 y8 <|
 bind (Γ Jr [y9,y8]) fun y11=>
 bind (bop .int .eql x1 (Value.int .i64 2)) fun y12=>
 jn (cnd y12
 (bind (fa 2 y1) fun y13=>
 bind (ld1 y13) fun y14=>
 bind (fa 3 y1) fun y15=>
 bind (ld1 y15) fun y16=>
 bind (fa 4 y1) fun y17=>
 bind (ld1 y17) fun y18=>
 bind (Γ Jr [x0,y14]) fun y19=>
 bind (ld1 y17) fun u_20=>same u_20 y18 <|
 bind (ld1 y15) fun u_21=>same u_21 y16 <|
 bind (Γ KU [y19,y16]) fun y22=>
 bind (ld1 y17) fun u_23=>same u_23 y18 <|
 bind (Γ Y8 [y22,y18]) fun y24=>
 ret (.nrm []))
 (ret (.nrm []))) (c0 (ret (Value.bool true))) noX ret)
theorem Ztl (Γ : Ze) (x0 x1 x2 : Value) : Zy Tryz.prog Γ Tryz.f51 Zl3 [x0,x1,x2]=Zjl Γ x0 x1 x2:=by kernel_rfl
theorem Zr7 {prim : FuncId→Option (List Value→M Value)} (hp : prim ZfY=none) (n : Nat) (x0 x1 x2 : Value) : run Tryz.prog prim lvs (n+1) ZfY [x0,x1,x2]=Zjl (run Tryz.prog prim lvs n) x0 x1 x2:=
 (Zl hp (by kernel_rfl) Tryz.func51 (by kernel_rfl)).trans (Ztl _ x0 x1 x2)
noncomputable def Zbm (Γ : Ze) (x0 : Value) : M Value:=
 bind (Jc x0) fun y1=>
 bind (fa 0 y1) fun y2=>
 bind (ld1 y2) fun y3=>
 bind (Γ Wz [y3]) fun y4=>
 ret y4
theorem Zic (Γ : Ze) (x0 : Value) : Zy Tryz.prog Γ Tryz.f52 ZdD [x0]=Zbm Γ x0:=by kernel_rfl
theorem Zg3 {prim : FuncId→Option (List Value→M Value)} (hp : prim KV=none) (n : Nat) (x0 : Value) : run Tryz.prog prim lvs (n+1) KV [x0]=Zbm (run Tryz.prog prim lvs n) x0:=
 (Zl hp (by kernel_rfl) Tryz.func52 (by kernel_rfl)).trans (Zic _ x0)
noncomputable def Ziq (Γ : Ze) (x0 : Value) : M Value:=
 bind (Γ Wz [x0]) fun y1=>
 bind (bld (.agg #[.slice none 0 0,.int .i64 0]) [(0,1,y1)]) fun y2=>
 bind (alc 1 y2) fun y3=>
 ret y3
theorem Zt4 (Γ : Ze) (x0 : Value) : Zy Tryz.prog Γ Tryz.f53 ZmN [x0]=Ziq Γ x0:=by kernel_rfl
theorem Zsv {prim : FuncId→Option (List Value→M Value)} (hp : prim ZbD=none) (n : Nat) (x0 : Value) : run Tryz.prog prim lvs (n+1) ZbD [x0]=Ziq (run Tryz.prog prim lvs n) x0:=
 (Zl hp (by kernel_rfl) Tryz.func53 (by kernel_rfl)).trans (Zt4 _ x0)
noncomputable def Zb4 (Γ : Ze) (x0 : Value) : M Value:=
 bind (Γ Y6 [x0,(Value.int .i64 1)]) fun y1=>
 bind (cvi .u8 y1) fun y2=>
 ret y2
theorem Zi0 (Γ : Ze) (x0 : Value) : Zy Tryz.prog Γ Tryz.f54 Zep [x0]=Zb4 Γ x0:=by kernel_rfl
theorem Zim {prim : FuncId→Option (List Value→M Value)} (hp : prim JO=none) (n : Nat) (x0 : Value) : run Tryz.prog prim lvs (n+1) JO [x0]=Zb4 (run Tryz.prog prim lvs n) x0:=
 (Zl hp (by kernel_rfl) Tryz.func54 (by kernel_rfl)).trans (Zi0 _ x0)
noncomputable def Zct (Γ : Ze) (x0 : Value) : M Value:=
 bind (Jc x0) fun y1=>
 bind (fa 1 y1) fun y2=>
 bind (ld1 y2) fun y3=>
 ret y3
theorem Zkq (Γ : Ze) (x0 : Value) : Zy Tryz.prog Γ Tryz.f55 ZeN [x0]=Zct Γ x0:=by kernel_rfl
theorem Zjo {prim : FuncId→Option (List Value→M Value)} (hp : prim Z4=none) (n : Nat) (x0 : Value) : run Tryz.prog prim lvs (n+1) Z4 [x0]=Zct (run Tryz.prog prim lvs n) x0:=
 (Zl hp (by kernel_rfl) Tryz.func55 (by kernel_rfl)).trans (Zkq _ x0)
noncomputable def J3.l1 (Γ : Ze) (s0 s2 s7 s10 s11 : Value) : M Out:=
 bind (bop .int .lss s11 s10) fun y2=>
 cnd y2
 (bind (Γ QQ [s0,s2]) fun y3=>
 bind (bsl 1 1 (.string ⟨#[]⟩) [(0,1,y3)]) fun y4=>
 bind (app 1 16 s7 y4) fun y5=>
 bind (bop .int .add s11 (Value.int .i64 1)) fun y6=>
 ret (.nrm [s0,s2,y5,s10,y6]))
 (ret (.ext 0 [s0,s7]))
noncomputable def J3 (Γ : Ze) (x0 x1 x2 : Value) : M Value:=
 bind (Γ Yy [x0,x1]) fun y1=>
 jn (Zj (c5 (J3.l1 Γ)) [x0,x2,(Value.slice none 0 0),y1,(Value.int .i64 0)]) noN (xk 0 (c2 fun q8_0 q8_1=>
 bind (Jc q8_0) fun y9=>
 bind (fa 1 y9) fun y10=>
 bind (ld1 y10) fun y11=>
 bind (bop .int .neq y11 (Value.int .i64 0)) fun y12=>
 cnd y12
 (ret (Value.slice none 0 0))
 (ret q8_1)) noX) ret
theorem Zkx (Γ : Ze) (x0 x1 x2 : Value) : Zy Tryz.prog Γ Tryz.f56 ZeK [x0,x1,x2]=J3 Γ x0 x1 x2:=by kernel_rfl
theorem Zd8 {prim : FuncId→Option (List Value→M Value)} (hp : prim Y7=none) (n : Nat) (x0 x1 x2 : Value) : run Tryz.prog prim lvs (n+1) Y7 [x0,x1,x2]=J3 (run Tryz.prog prim lvs n) x0 x1 x2:=
 (Zl hp (by kernel_rfl) Tryz.func56 (by kernel_rfl)).trans (Zkx _ x0 x1 x2)
noncomputable def ZcI (Γ : Ze) (x0 : Value) : M Value:=
 bind (Γ Y6 [x0,(Value.int .i64 2)]) fun y1=>
 bind (cvi .u16 y1) fun y2=>
 ret y2
theorem Zki (Γ : Ze) (x0 : Value) : Zy Tryz.prog Γ Tryz.f57 ZeO [x0]=ZcI Γ x0:=by kernel_rfl
theorem ZiP {prim : FuncId→Option (List Value→M Value)} (hp : prim J1=none) (n : Nat) (x0 : Value) : run Tryz.prog prim lvs (n+1) J1 [x0]=ZcI (run Tryz.prog prim lvs n) x0:=
 (Zl hp (by kernel_rfl) Tryz.func57 (by kernel_rfl)).trans (Zki _ x0)
noncomputable def Kv (Γ : Ze) (x0 x1 : Value) : M Value:=
 bind (Jc x0) fun y1=>
 bind (fa 1 y1) fun y2=>
 bind (ld1 y2) fun y3=>
 bind (bop .int .eql y3 (Value.int .i64 0)) fun y4=>
 bind (ZT y4 true 2 (bind (bop .int .neq x1 (Value.int .i64 0)) fun y5=>
 ret [x1,y5])) (c2 fun _ q6_1=>
 bind (pick y4 q6_1 (Value.bool false)) fun y7=>
 jn (cnd y7
 (bind (Jc x0) fun y8=>
 bind (fa 0 y8) fun y9=>
 bind (st1 y9 (Value.slice none 0 0)) fun _=>
 bind (Jc x0) fun y10=>
 bind (fa 1 y10) fun y11=>
 bind (st1 y11 x1) fun _=>
 ret (.nrm []))
 (ret (.nrm []))) (c0 (ret (Value.tuple #[]))) noX ret)
theorem ZiE (Γ : Ze) (x0 x1 : Value) : Zy Tryz.prog Γ Tryz.f58 Zeq [x0,x1]=Kv Γ x0 x1:=by kernel_rfl
theorem Zib {prim : FuncId→Option (List Value→M Value)} (hp : prim ZR=none) (n : Nat) (x0 x1 : Value) : run Tryz.prog prim lvs (n+1) ZR [x0,x1]=Kv (run Tryz.prog prim lvs n) x0 x1:=
 (Zl hp (by kernel_rfl) Tryz.func58 (by kernel_rfl)).trans (ZiE _ x0 x1)
noncomputable def ZcP (Γ : Ze) (x0 x1 : Value) : M Value:=
 bind (alc 1 (.agg #[.string ⟨#[]⟩,.string ⟨#[]⟩,.string ⟨#[]⟩,.bool false,.slice none 0 0])) fun y1=>
 bind (bop .int .neq x1 (Value.int .i64 1)) fun y2=>
 bind (ZT y2 true 2 (bind (bop .int .neq x1 (Value.int .i64 2)) fun y3=>
 ret [x1,y3])) (c2 fun _ q4_1=>
 bind (pick y2 q4_1 (Value.bool false)) fun y5=>
 cnd y5
 (bind (Γ ZR [x0,(Value.int .i64 6)]) fun y6=>
 bind (bld (.agg #[.string ⟨#[]⟩,.string ⟨#[]⟩,.string ⟨#[]⟩,.bool false,.slice none 0 0]) []) fun y7=>
 bind (stA 5 y1 y7) fun _=>
 bind (ldA 5 y1) fun y8=>
 ret y8)
 (bind (Γ QQ [x0,(Value.int .i64 65535)]) fun y9=>
 bind (Γ QQ [x0,(Value.int .i64 65535)]) fun y10=>
 bind (bld (.agg #[.string ⟨#[]⟩,.string ⟨#[]⟩,.string ⟨#[]⟩,.bool false,.slice none 0 0]) [(0,1,y9),(1,1,y10)]) fun y11=>
 bind (alc 1 (.agg #[.string ⟨#[]⟩,.string ⟨#[]⟩,.string ⟨#[]⟩,.bool false,.slice none 0 0])) fun y12=>
 bind (stA 5 y12 y11) fun _=>
 bind (bop .int .eql x1 (Value.int .i64 2)) fun y13=>
 jn (cnd y13
 (bind (Γ QQ [x0,(Value.int .i64 65535)]) fun y14=>
 bind (Γ KT [x0]) fun y15=>
 bind (Γ Y7 [x0,(Value.int .i64 65535),(Value.int .i64 65535)]) fun y16=>
 bind (fa 2 y12) fun y17=>
 bind (st1 y17 y14) fun _=>
 bind (fa 3 y12) fun y18=>
 bind (st1 y18 y15) fun _=>
 bind (fa 4 y12) fun y19=>
 bind (st1 y19 y16) fun _=>
 ret (.nrm [x0,x1,y1,y12]))
 (ret (.nrm [x0,x1,y1,y12]))) (c4 fun q20_0 q20_1 q20_2 q20_3=>
 bind (Γ Z4 [q20_0]) fun y21=>
 bind (bop .int .eql y21 (Value.int .i64 0)) fun y22=>
 jn (cnd y22
 (bind (ldA 5 q20_3) fun y23=>
 bind (Γ Ye [q20_1,y23]) fun y24=>
 bind (Γ ZR [q20_0,y24]) fun y25=>
 ret (.nrm [q20_0,q20_2,q20_3]))
 (ret (.nrm [q20_0,q20_2,q20_3]))) (c3 fun q26_0 q26_1 q26_2=>
 bind (Γ Z4 [q26_0]) fun y27=>
 bind (bop .int .neq y27 (Value.int .i64 0)) fun y28=>
 cnd y28
 (bind (bld (.agg #[.string ⟨#[]⟩,.string ⟨#[]⟩,.string ⟨#[]⟩,.bool false,.slice none 0 0]) []) fun y29=>
 bind (stA 5 q26_1 y29) fun _=>
 bind (ldA 5 q26_1) fun y30=>
 ret y30)
 (bind (ldA 5 q26_2) fun y31=>
 bind (stA 5 q26_1 y31) fun _=>
 bind (ldA 5 q26_1) fun y32=>
 ret y32)) noX ret) noX ret))
theorem Zt1 (Γ : Ze) (x0 x1 : Value) : Zy Tryz.prog Γ Tryz.f59 Zmi [x0,x1]=ZcP Γ x0 x1:=by kernel_rfl
theorem Zgo {prim : FuncId→Option (List Value→M Value)} (hp : prim WU=none) (n : Nat) (x0 x1 : Value) : run Tryz.prog prim lvs (n+1) WU [x0,x1]=ZcP (run Tryz.prog prim lvs n) x0 x1:=
 (Zl hp (by kernel_rfl) Tryz.func59 (by kernel_rfl)).trans (Zt1 _ x0 x1)
noncomputable def ZcB (Γ : Ze) (x0 : Value) : M Value:=
 bind (Jc x0) fun y1=>
 bind (fa 1 y1) fun y2=>
 bind (ld1 y2) fun y3=>
 bind (bop .int .eql y3 (Value.int .i64 0)) fun y4=>
 bind (ZT y4 true 6 (bind (Jc x0) fun y5=>
 bind (fa 0 y5) fun y6=>
 bind (ld1 y6) fun y7=>
 bind (ZH y7) fun y8=>
 bind (bop .int .gtr y8 (Value.int .i64 0)) fun y9=>
 ret [x0,y5,y6,y7,y8,y9])) (c6 fun _ _ _ _ _ q10_5=>
 bind (pick y4 q10_5 (Value.bool false)) fun y11=>
 cnd y11
 (ret (Value.int .i64 3))
 (bind (Jc x0) fun y12=>
 bind (fa 1 y12) fun y13=>
 bind (ld1 y13) fun y14=>
 ret y14))
theorem ZkF (Γ : Ze) (x0 : Value) : Zy Tryz.prog Γ Tryz.f60 ZeF [x0]=ZcB Γ x0:=by kernel_rfl
theorem Zjy {prim : FuncId→Option (List Value→M Value)} (hp : prim J0=none) (n : Nat) (x0 : Value) : run Tryz.prog prim lvs (n+1) J0 [x0]=ZcB (run Tryz.prog prim lvs n) x0:=
 (Zl hp (by kernel_rfl) Tryz.func60 (by kernel_rfl)).trans (ZkF _ x0)
noncomputable def Jw.l1 (Γ : Ze) (s2 s6 s8 s10 s29 s30 : Value) : M Out:=
 bind (bop .int .lss s30 s29) fun y18=>
 cnd y18
 (bind (ldA 2 s8) fun y19=>
 bind (Γ Qt [y19,s2]) fun y20=>
 bind (Zz y20 0) fun y21=>
 bind (Zz y20 1) fun y22=>
 bind (alc 1 (.agg #[.string ⟨#[]⟩,.int .i64 0])) fun y23=>
 bind (stA 2 y23 y21) fun _=>
 bind (ldA 2 y23) fun y24=>
 bind (stA 2 s8 y24) fun _=>
 bind (fa 1 s8) fun y25=>
 bind (ld1 y25) fun y26=>
 bind (bop .int .neq y26 (Value.int .i64 0)) fun y27=>
 cnd y27
 (bind (ldA 2 s8) fun y28=>
 bind (stA 2 s6 y28) fun _=>
 bind (ldA 2 s6) fun y29=>
 ret (.ret (Value.tuple #[y29,(Value.slice none 0 0)])))
 (bind (bsl 1 1 (.string ⟨#[]⟩) [(0,1,y22)]) fun y30=>
 bind (app 1 16 s10 y30) fun y31=>
 bind (bop .int .add s30 (Value.int .u64 1)) fun y32=>
 ret (.nrm [s2,s6,s8,y31,s29,y32])))
 (ret (.ext 0 [s6,s8,s10]))
noncomputable def Jw (Γ : Ze) (x0 x1 x2 : Value) : M Value:=
 bind (alc 1 x0) fun y1=>
 bind (alc 1 (.agg #[.string ⟨#[]⟩,.int .i64 0])) fun y2=>
 bind (ldA 2 y1) fun y3=>
 bind (Γ Q7 [y3,(Value.int .i64 2)]) fun y4=>
 bind (Zz y4 0) fun y5=>
 bind (Zz y4 1) fun y6=>
 bind (alc 1 (.agg #[.string ⟨#[]⟩,.int .i64 0])) fun y7=>
 bind (stA 2 y7 y5) fun _=>
 bind (fa 1 y7) fun y8=>
 bind (ld1 y8) fun y9=>
 bind (bop .int .eql y9 (Value.int .i64 0)) fun y10=>
 bind (ZT y10 true 5 (bind (cvi .i64 y6) fun y11=>
 bind (mxi true (Value.int .i64 0) x1) fun y12=>
 bind (bop .int .gtr y11 y12) fun y13=>
 ret [y6,y11,x1,y12,y13])) (c5 fun _ _ _ _ q14_4=>
 bind (pick y10 q14_4 (Value.bool false)) fun y15=>
 cnd y15
 (bind (bld (.agg #[.string ⟨#[]⟩,.int .i64 0]) [(1,1,(Value.int .i64 3))]) fun y16=>
 bind (stA 2 y2 y16) fun _=>
 bind (ldA 2 y2) fun y17=>
 ret (Value.tuple #[y17,(Value.slice none 0 0)]))
 (jn (Zj (c6 (Jw.l1 Γ)) [x2,y2,y7,(Value.slice none 0 0),y6,(Value.int .u64 0)]) noN (xk 0 (c3 fun q34_0 q34_1 q34_2=>
 bind (ldA 2 q34_1) fun y35=>
 bind (stA 2 q34_0 y35) fun _=>
 bind (ldA 2 q34_0) fun y36=>
 ret (Value.tuple #[y36,q34_2])) noX) ret))
theorem ZnC (Γ : Ze) (x0 x1 x2 : Value) : Zy Tryz.prog Γ Tryz.f61 ZgK [x0,x1,x2]=Jw Γ x0 x1 x2:=by kernel_rfl
theorem Zmj {prim : FuncId→Option (List Value→M Value)} (hp : prim KA=none) (n : Nat) (x0 x1 x2 : Value) : run Tryz.prog prim lvs (n+1) KA [x0,x1,x2]=Jw (run Tryz.prog prim lvs n) x0 x1 x2:=
 (Zl hp (by kernel_rfl) Tryz.func61 (by kernel_rfl)).trans (ZnC _ x0 x1 x2)
noncomputable def ZhG (Γ : Ze) (x0 x1 : Value) : M Value:=
 bind (alc 1 x0) fun y1=>
 bind (alc 1 (.agg #[.string ⟨#[]⟩,.int .i64 0])) fun y2=>
 bind (ldA 2 y1) fun y3=>
 bind (Γ YU [y3,x1]) fun y4=>
 bind (Zz y4 0) fun y5=>
 bind (Zz y4 1) fun y6=>
 bind (Zz y4 2) fun y7=>
 bind (alc 1 (.agg #[.string ⟨#[]⟩,.int .i64 0])) fun y8=>
 bind (stA 2 y8 y5) fun _=>
 bind (ldA 2 y8) fun y9=>
 bind (Γ Zbn [y6]) fun y10=>
 bind (ldA 2 y8) fun u_11=>same u_11 y9 <|
 bind (stA 2 y2 y9) fun _=>
 bind (ldA 2 y2) fun y12=>
 ret (Value.tuple #[y12,y10])
theorem ZrM (Γ : Ze) (x0 x1 : Value) : Zy Tryz.prog Γ Tryz.f62 Zk1 [x0,x1]=ZhG Γ x0 x1:=by kernel_rfl
theorem Zrh {prim : FuncId→Option (List Value→M Value)} (hp : prim Q7=none) (n : Nat) (x0 x1 : Value) : run Tryz.prog prim lvs (n+1) Q7 [x0,x1]=ZhG (run Tryz.prog prim lvs n) x0 x1:=
 (Zl hp (by kernel_rfl) Tryz.func62 (by kernel_rfl)).trans (ZrM _ x0 x1)
noncomputable def Ze5 (Γ : Ze) (x0 x1 : Value) : M Value:=
 bind (alc 1 x0) fun y1=>
 bind (alc 1 (.agg #[.string ⟨#[]⟩,.int .i64 0])) fun y2=>
 bind (alc 1 (.agg #[.string ⟨#[]⟩,.string ⟨#[]⟩,.string ⟨#[]⟩,.bool false,.slice none 0 0])) fun y3=>
 bind (bld (.agg #[.string ⟨#[]⟩,.string ⟨#[]⟩,.string ⟨#[]⟩,.bool false,.slice none 0 0]) []) fun y4=>
 bind (alc 1 (.agg #[.string ⟨#[]⟩,.string ⟨#[]⟩,.string ⟨#[]⟩,.bool false,.slice none 0 0])) fun y5=>
 bind (stA 5 y5 y4) fun _=>
 bind (bop .int .lss x1 (Value.int .i64 1)) fun y6=>
 bind (ZT y6 false 2 (bind (bop .int .gtr x1 (Value.int .i64 2)) fun y7=>
 ret [x1,y7])) (c2 fun _ q8_1=>
 bind (pick y6 (Value.bool true) q8_1) fun y9=>
 cnd y9
 (bind (ldA 2 y1) fun y10=>
 bind (ldA 5 y5) fun y11=>
 bind (Γ Jp [y10,(Value.int .i64 6)]) fun y12=>
 bind (ldA 5 y5) fun u_13=>same u_13 y11 <|
 bind (stA 2 y2 y12) fun _=>
 bind (ldA 5 y5) fun u_14=>same u_14 y11 <|
 bind (stA 5 y3 y11) fun _=>
 bind (ldA 2 y2) fun y15=>
 bind (ldA 5 y3) fun y16=>
 ret (Value.tuple #[y15,y16]))
 (bind (ldA 5 y5) fun y17=>
 bind (alc 1 (.agg #[.string ⟨#[]⟩,.string ⟨#[]⟩,.string ⟨#[]⟩,.bool false,.slice none 0 0])) fun y18=>
 bind (stA 5 y18 y17) fun _=>
 bind (ldA 2 y1) fun y19=>
 bind (Γ Qt [y19,(Value.int .i64 65535)]) fun y20=>
 bind (Zz y20 0) fun y21=>
 bind (Zz y20 1) fun y22=>
 bind (stA 2 y1 y21) fun _=>
 bind (fa 0 y18) fun y23=>
 bind (st1 y23 y22) fun _=>
 bind (ldA 2 y1) fun y24=>
 bind (Γ Qt [y24,(Value.int .i64 65535)]) fun y25=>
 bind (Zz y25 0) fun y26=>
 bind (Zz y25 1) fun y27=>
 bind (stA 2 y1 y26) fun _=>
 bind (fa 1 y18) fun y28=>
 bind (st1 y28 y27) fun _=>
 bind (bop .int .eql x1 (Value.int .i64 2)) fun y29=>
 jn (cnd y29
 (bind (ldA 2 y1) fun y30=>
 bind (Γ Qt [y30,(Value.int .i64 65535)]) fun y31=>
 bind (Zz y31 0) fun y32=>
 bind (Zz y31 1) fun y33=>
 bind (stA 2 y1 y32) fun _=>
 bind (fa 2 y18) fun y34=>
 bind (st1 y34 y33) fun _=>
 bind (ldA 2 y1) fun y35=>
 bind (Γ K5 [y35]) fun y36=>
 bind (Zz y36 0) fun y37=>
 bind (Zz y36 1) fun y38=>
 bind (stA 2 y1 y37) fun _=>
 bind (fa 3 y18) fun y39=>
 bind (st1 y39 y38) fun _=>
 bind (ldA 2 y1) fun y40=>
 bind (Γ KA [y40,(Value.int .i64 65535),(Value.int .i64 65535)]) fun y41=>
 bind (Zz y41 0) fun y42=>
 bind (Zz y41 1) fun y43=>
 bind (stA 2 y1 y42) fun _=>
 bind (fa 4 y18) fun y44=>
 bind (st1 y44 y43) fun _=>
 ret (.nrm [x1,y1,y2,y3,y5,y18]))
 (ret (.nrm [x1,y1,y2,y3,y5,y18]))) (c6 fun q45_0 q45_1 q45_2 q45_3 q45_4 q45_5=>
 bind (ldA 2 q45_1) fun y46=>
 bind (ldA 5 q45_5) fun y47=>
 bind (Γ WH [q45_0,y47]) fun y48=>
 bind (ldA 2 q45_1) fun u_49=>same u_49 y46 <|
 bind (Γ Jp [y46,y48]) fun y50=>
 bind (stA 2 q45_1 y50) fun _=>
 bind (fa 1 q45_1) fun y51=>
 bind (ld1 y51) fun y52=>
 bind (bop .int .neq y52 (Value.int .i64 0)) fun y53=>
 cnd y53
 (bind (ldA 2 q45_1) fun y54=>
 bind (ldA 5 q45_4) fun y55=>
 bind (stA 2 q45_2 y54) fun _=>
 bind (ldA 5 q45_4) fun u_56=>same u_56 y55 <|
 bind (stA 5 q45_3 y55) fun _=>
 bind (ldA 2 q45_2) fun y57=>
 bind (ldA 5 q45_3) fun y58=>
 ret (Value.tuple #[y57,y58]))
 (bind (ldA 2 q45_1) fun y59=>
 bind (ldA 5 q45_5) fun y60=>
 bind (stA 2 q45_2 y59) fun _=>
 bind (ldA 5 q45_5) fun u_61=>same u_61 y60 <|
 bind (stA 5 q45_3 y60) fun _=>
 bind (ldA 2 q45_2) fun y62=>
 bind (ldA 5 q45_3) fun y63=>
 ret (Value.tuple #[y62,y63]))) noX ret))
theorem Zsr (Γ : Ze) (x0 x1 : Value) : Zy Tryz.prog Γ Tryz.f63 Zle [x0,x1]=Ze5 Γ x0 x1:=by kernel_rfl
theorem Zi9 {prim : FuncId→Option (List Value→M Value)} (hp : prim Wi=none) (n : Nat) (x0 x1 : Value) : run Tryz.prog prim lvs (n+1) Wi [x0,x1]=Ze5 (run Tryz.prog prim lvs n) x0 x1:=
 (Zl hp (by kernel_rfl) Tryz.func63 (by kernel_rfl)).trans (Zsr _ x0 x1)
noncomputable def ZS.l1 (Γ : Ze) (s0 s1 s21 s22 s23 : Value) : M Out:=
 bind (bop .int .lss s23 s22) fun y4=>
 cnd y4
 (bind (ixa 1 s21 s23) fun y5=>
 bind (ld1 y5) fun y6=>
 bind (Γ YB [y6]) fun y7=>
 bind (uop .not y7) fun y8=>
 cnd y8
 (ret (.ret (Value.int .i64 10)))
 (bind (bop .int .add s23 (Value.int .i64 1)) fun y9=>
 ret (.nrm [s0,s1,s21,s22,y9])))
 (ret (.ext 0 [s0,s1]))
noncomputable def ZS.l2 (Γ : Ze) (s0 s1 s31 s32 s33 : Value) : M Out:=
 bind (bop .int .lss s33 s32) fun y13=>
 cnd y13
 (bind (ixa 1 s31 s33) fun y14=>
 bind (ld1 y14) fun y15=>
 bind (bop .int .gtr s33 (Value.int .i64 0)) fun y16=>
 bind (ZT y16 true 7 (bind (bop .int .sub s33 (Value.int .i64 1)) fun y17=>
 bind (ixa 1 s1 y17) fun y18=>
 bind (ld1 y18) fun y19=>
 bind (bop .str .geq y19 y15) fun y20=>
 ret [s1,s33,y17,y18,y19,y15,y20])) (c7 fun _ _ _ _ _ _ q21_6=>
 bind (pick y16 q21_6 (Value.bool false)) fun y22=>
 cnd y22
 (ret (.ret (Value.int .i64 9)))
 (bind (bop .int .add s33 (Value.int .i64 1)) fun y23=>
 ret (.nrm [s0,s1,s31,s32,y23]))))
 (ret (.ext 2 [s0,s1]))
noncomputable def ZS.l4 (Γ : Ze) (s0 s1 s10 s11 s53 s54 s55 s61 s62 s63 : Value) : M Out:=
 bind (bop .int .lss s63 s62) fun y36=>
 cnd y36
 (bind (ixa 1 s61 s63) fun y37=>
 bind (ld1 y37) fun y38=>
 bind (Γ Ze2 [s1,y38]) fun y39=>
 bind (uop .not y39) fun y40=>
 cnd y40
 (ret (.ret (Value.int .i64 8)))
 (bind (bop .int .add s63 (Value.int .i64 1)) fun y41=>
 ret (.nrm [s0,s1,s10,s11,s53,s54,s55,s61,s62,y41])))
 (ret (.ext 6 [s0,s1,s10,s11,s53,s54,s55]))
noncomputable def ZS.l5 (Γ : Ze) (s0 s1 s11 s53 s54 s55 s74 s75 s76 : Value) : M Out:=
 bind (bop .int .lss s76 s75) fun y46=>
 cnd y46
 (bind (ixa 5 s74 s76) fun y47=>
 bind (ldA 5 y47) fun y48=>
 bind (alc 1 (.agg #[.string ⟨#[]⟩,.string ⟨#[]⟩,.string ⟨#[]⟩,.bool false,.slice none 0 0])) fun y49=>
 bind (stA 5 y49 y48) fun _=>
 bind (fa 2 s11) fun y50=>
 bind (ld1 y50) fun y51=>
 bind (bop .str .neq y51 (Value.string ⟨#[]⟩)) fun y52=>
 bind (ZT y52 true 5 (bind (fa 2 s11) fun y53=>
 bind (ld1 y53) fun y54=>
 bind (fa 2 y49) fun y55=>
 bind (ld1 y55) fun y56=>
 bind (bop .str .eql y54 y56) fun y57=>
 ret [y53,y54,y55,y56,y57])) (c5 fun _ _ _ _ q58_4=>
 bind (pick y52 q58_4 (Value.bool false)) fun y59=>
 cnd y59
 (ret (.ret (Value.int .i64 9)))
 (bind (bop .int .add s76 (Value.int .i64 1)) fun y60=>
 ret (.nrm [s0,s1,s11,s53,s54,s55,s74,s75,y60]))))
 (ret (.ext 8 [s0,s1,s53,s54,s55]))
noncomputable def ZS.l3 (Γ : Ze) (s0 s1 s53 s54 s55 : Value) : M Out:=
 bind (bop .int .lss s55 s54) fun y29=>
 cnd y29
 (bind (ixa 5 s53 s55) fun y30=>
 bind (ldA 5 y30) fun y31=>
 bind (alc 1 (.agg #[.string ⟨#[]⟩,.string ⟨#[]⟩,.string ⟨#[]⟩,.bool false,.slice none 0 0])) fun y32=>
 bind (stA 5 y32 y31) fun _=>
 bind (fa 4 y32) fun y33=>
 bind (ld1 y33) fun y34=>
 bind (ZH y34) fun y35=>
 jn (Zj (c10 (ZS.l4 Γ)) [s0,s1,s55,y32,s53,s54,s55,y34,y35,(Value.int .i64 0)]) noN (xk 6 (c7 fun q43_0 q43_1 q43_2 q43_3 q43_4 q43_5 q43_6=>
 bind (slv 5 q43_0 none (some q43_2) none) fun y44=>
 bind (ZH y44) fun y45=>
 jn (Zj (c9 (ZS.l5 Γ)) [q43_0,q43_1,q43_3,q43_4,q43_5,q43_6,y44,y45,(Value.int .i64 0)]) noN (xk 8 (c5 fun q62_0 q62_1 q62_2 q62_3 q62_4=>
 bind (bop .int .add q62_4 (Value.int .i64 1)) fun y63=>
 ret (.nrm [q62_0,q62_1,q62_2,q62_3,y63])) noX) Ji) noX) Ji)
 (ret (.ext 4 []))
noncomputable def ZS (Γ : Ze) (x0 x1 : Value) : M Value:=
 bind (Γ W6 [x0,(Value.int .i64 2)]) fun y1=>
 bind (bop .int .neq y1 (Value.int .i64 0)) fun y2=>
 cnd y2
 (ret y1)
 (bind (ZH x1) fun y3=>
 jn (Zj (c5 (ZS.l1 Γ)) [x0,x1,x1,y3,(Value.int .i64 0)]) noN (xk 0 (c2 fun q11_0 q11_1=>
 bind (ZH q11_1) fun y12=>
 jn (Zj (c5 (ZS.l2 Γ)) [q11_0,q11_1,q11_1,y12,(Value.int .i64 0)]) noN (xk 2 (c2 fun q25_0 q25_1=>
 bind (ZH q25_1) fun y26=>
 bind (bop .int .gtr y26 (Value.int .i64 6)) fun y27=>
 cnd y27
 (ret (Value.int .i64 7))
 (bind (ZH q25_0) fun y28=>
 jn (Zj (c5 (ZS.l3 Γ)) [q25_0,q25_1,q25_0,y28,(Value.int .i64 0)]) noN (xk 4 (c0 (ret (Value.int .i64 0))) noX) ret)) noX) ret) noX) ret)
theorem ZtW (Γ : Ze) (x0 x1 : Value) : Zy Tryz.prog Γ Tryz.f64 Zml [x0,x1]=ZS Γ x0 x1:=by kernel_rfl
theorem Zsl {prim : FuncId→Option (List Value→M Value)} (hp : prim ZcN=none) (n : Nat) (x0 x1 : Value) : run Tryz.prog prim lvs (n+1) ZcN [x0,x1]=ZS (run Tryz.prog prim lvs n) x0 x1:=
 (Zl hp (by kernel_rfl) Tryz.func64 (by kernel_rfl)).trans (ZtW _ x0 x1)
noncomputable def W3.l1 (Γ : Ze) (s3 s10 s11 s12 : Value) : M Out:=
 bind (bop .int .lss s12 s11) fun y5=>
 cnd y5
 (bind (ixa 1 s10 s12) fun y6=>
 bind (ld1 y6) fun y7=>
 bind (Γ Kj [y7]) fun y8=>
 bind (bop .str .add s3 y8) fun y9=>
 bind (bop .int .add s12 (Value.int .i64 1)) fun y10=>
 ret (.nrm [y9,s10,s11,y10]))
 (ret (.ext 0 [s3]))
noncomputable def W3 (Γ : Ze) (x0 : Value) : M Value:=
 bind (ZH x0) fun y1=>
 bind (cvi .u64 y1) fun y2=>
 bind (Γ We [y2,(Value.int .i64 2)]) fun y3=>
 bind (ZH x0) fun y4=>
 jn (Zj (c4 (W3.l1 Γ)) [y3,x0,y4,(Value.int .i64 0)]) noN (xk 0 (c1 fun q12_0=>
 ret q12_0) noX) ret
theorem ZrW (Γ : Ze) (x0 : Value) : Zy Tryz.prog Γ Tryz.f86 ZkZ [x0]=W3 Γ x0:=by kernel_rfl
theorem Zq0 {prim : FuncId→Option (List Value→M Value)} (hp : prim ZbQ=none) (n : Nat) (x0 : Value) : run Tryz.prog prim lvs (n+1) ZbQ [x0]=W3 (run Tryz.prog prim lvs n) x0:=
 (Zl hp (by kernel_rfl) Tryz.func86 (by kernel_rfl)).trans (ZrW _ x0)
noncomputable def KZ.l1 (Γ : Ze) (s0 s5 s12 s13 s14 : Value) : M Out:=
 bind (bop .int .lss s14 s13) fun y5=>
 cnd y5
 (bind (ixa 5 s12 s14) fun y6=>
 bind (ldA 5 y6) fun y7=>
 bind (alc 1 (.agg #[.string ⟨#[]⟩,.string ⟨#[]⟩,.string ⟨#[]⟩,.bool false,.slice none 0 0])) fun y8=>
 bind (stA 5 y8 y7) fun _=>
 bind (ldA 5 y8) fun y9=>
 bind (Γ ZdY [s0,y9]) fun y10=>
 bind (bop .str .add s5 y10) fun y11=>
 bind (bop .int .add s14 (Value.int .i64 1)) fun y12=>
 ret (.nrm [s0,y11,s12,s13,y12]))
 (ret (.ext 0 [s5]))
noncomputable def KZ (Γ : Ze) (x0 x1 : Value) : M Value:=
 bind (ZH x1) fun y1=>
 bind (cvi .u64 y1) fun y2=>
 bind (Γ We [y2,(Value.int .i64 2)]) fun y3=>
 bind (ZH x1) fun y4=>
 jn (Zj (c5 (KZ.l1 Γ)) [x0,y3,x1,y4,(Value.int .i64 0)]) noN (xk 0 (c1 fun q14_0=>
 ret q14_0) noX) ret
theorem ZpE (Γ : Ze) (x0 x1 : Value) : Zy Tryz.prog Γ Tryz.f87 Zh2 [x0,x1]=KZ Γ x0 x1:=by kernel_rfl
theorem Zou {prim : FuncId→Option (List Value→M Value)} (hp : prim Zdp=none) (n : Nat) (x0 x1 : Value) : run Tryz.prog prim lvs (n+1) Zdp [x0,x1]=KZ (run Tryz.prog prim lvs n) x0 x1:=
 (Zl hp (by kernel_rfl) Tryz.func87 (by kernel_rfl)).trans (ZpE _ x0 x1)
noncomputable def Zde (Γ : Ze) (x0 : Value) : M Value:=
 bind (bop .slc .eql x0 (Value.slice none 0 0)) fun y1=>
 cnd y1
 (ret (Value.slice none 0 0))
 (bind (bsl 1 0 (.int .u8 0) []) fun y2=>
 bind (app 1 1 y2 x0) fun y3=>
 ret y3)
theorem Zpj (Γ : Ze) (x0 : Value) : Zy Tryz.prog Γ Tryz.f88 ZhU [x0]=Zde Γ x0:=by kernel_rfl
theorem ZnW {prim : FuncId→Option (List Value→M Value)} (hp : prim Wz=none) (n : Nat) (x0 : Value) : run Tryz.prog prim lvs (n+1) Wz [x0]=Zde (run Tryz.prog prim lvs n) x0:=
 (Zl hp (by kernel_rfl) Tryz.func88 (by kernel_rfl)).trans (Zpj _ x0)
noncomputable def Ko.l1 (Γ : Ze) (s4 s7 s29 s30 : Value) : M Out:=
 bind (bop .int .lss s30 s29) fun y13=>
 cnd y13
 (bind (Γ WU [s4,(Value.int .i64 1)]) fun y14=>
 bind (bsl 5 1 (.agg #[.string ⟨#[]⟩,.string ⟨#[]⟩,.string ⟨#[]⟩,.bool false,.slice none 0 0]) [(0,5,y14)]) fun y15=>
 bind (app 5 80 s7 y15) fun y16=>
 bind (bop .int .add s30 (Value.int .i64 1)) fun y17=>
 ret (.nrm [s4,y16,s29,y17]))
 (ret (.ext 0 [s4,s7]))
noncomputable def Ko (Γ : Ze) (x0 : Value) : M Value:=
 bind (Γ ZbD [x0]) fun y1=>
 bind (Γ JO [y1]) fun y2=>
 bind (Γ Z4 [y1]) fun y3=>
 bind (bop .int .eql y3 (Value.int .i64 0)) fun y4=>
 bind (ZT y4 true 2 (bind (bop .int .neq y2 (Value.int .u8 1)) fun y5=>
 ret [y2,y5])) (c2 fun _ q6_1=>
 bind (pick y4 q6_1 (Value.bool false)) fun y7=>
 cnd y7
 (ret (Value.tuple #[(Value.pointer none),(Value.int .i64 6)]))
 (bind (Γ J1 [y1]) fun y8=>
 bind (cvi .i64 y8) fun y9=>
 bind (bop .int .gtr y9 (Value.int .i64 12)) fun y10=>
 jn (cnd y10
 (bind (Γ ZR [y1,(Value.int .i64 7)]) fun y11=>
 ret (.nrm [y1,(Value.int .i64 0)]))
 (ret (.nrm [y1,y9]))) (c2 fun q12_0 q12_1=>
 jn (Zj (c4 (Ko.l1 Γ)) [q12_0,(Value.slice none 0 0),q12_1,(Value.int .i64 0)]) noN (xk 0 (c2 fun q19_0 q19_1=>
 bind (Γ Z4 [q19_0]) fun y20=>
 bind (bop .int .neq y20 (Value.int .i64 0)) fun y21=>
 cnd y21
 (ret (Value.tuple #[(Value.pointer none),y20]))
 (bind (Γ ZcQ [q19_1]) fun y22=>
 bind (Zz y22 0) fun y23=>
 bind (Zz y22 1) fun y24=>
 bind (bop .int .eql y24 (Value.int .i64 0)) fun y25=>
 jn (cnd y25
 (bind (Γ J0 [q19_0]) fun y26=>
 ret (.nrm [y23,y26]))
 (ret (.nrm [y23,y24]))) (c2 fun q27_0 q27_1=>
 bind (bop .int .neq q27_1 (Value.int .i64 0)) fun y28=>
 cnd y28
 (ret (Value.tuple #[(Value.pointer none),q27_1]))
 (ret (Value.tuple #[q27_0,(Value.int .i64 0)]))) noX ret)) noX) ret) noX ret))
theorem Zr2 (Γ : Ze) (x0 : Value) : Zy Tryz.prog Γ Tryz.f89 ZkW [x0]=Ko Γ x0:=by kernel_rfl
theorem Zrc {prim : FuncId→Option (List Value→M Value)} (hp : prim ZaK=none) (n : Nat) (x0 : Value) : run Tryz.prog prim lvs (n+1) ZaK [x0]=Ko (run Tryz.prog prim lvs n) x0:=
 (Zl hp (by kernel_rfl) Tryz.func89 (by kernel_rfl)).trans (Zr2 _ x0)
noncomputable def Za8 (Γ : Ze) (x0 : Value) : M Value:=
 bind (bop .str .eql x0 (Value.string ⟨#[]⟩)) fun y1=>
 cnd y1
 (ret (Value.tuple #[(Value.slice none 0 0),(Value.int .i64 2)]))
 (bind (ixs x0 (Value.int .i64 0)) fun y2=>
 bind (bop .int .neq y2 (Value.int .u8 1)) fun y3=>
 cnd y3
 (ret (Value.tuple #[(Value.slice none 0 0),(Value.int .i64 6)]))
 (bind (sls x0 (some (Value.int .i64 1)) none) fun y4=>
 bind (bld (.agg #[.string ⟨#[]⟩,.int .i64 0]) [(0,1,y4)]) fun y5=>
 bind (Γ Km [y5,(Value.int .i64 1)]) fun y6=>
 bind (Zz y6 0) fun y7=>
 bind (Zz y6 1) fun y8=>
 bind (alc 1 (.agg #[.string ⟨#[]⟩,.int .i64 0])) fun y9=>
 bind (stA 2 y9 y7) fun _=>
 bind (fa 1 y9) fun y10=>
 bind (ld1 y10) fun y11=>
 bind (bop .int .eql y11 (Value.int .i64 0)) fun y12=>
 bind (ZT y12 true 3 (bind (fa 0 y9) fun y13=>
 bind (ld1 y13) fun y14=>
 bind (bop .str .neq y14 (Value.string ⟨#[]⟩)) fun y15=>
 ret [y13,y14,y15])) (c3 fun _ _ q16_2=>
 bind (pick y12 q16_2 (Value.bool false)) fun y17=>
 jn (cnd y17
 (bind (fa 1 y9) fun y18=>
 bind (st1 y18 (Value.int .i64 3)) fun _=>
 ret (.nrm [y9,y8]))
 (ret (.nrm [y9,y8]))) (c2 fun q19_0 q19_1=>
 bind (fa 1 q19_0) fun y20=>
 bind (ld1 y20) fun y21=>
 bind (bop .int .neq y21 (Value.int .i64 0)) fun y22=>
 cnd y22
 (bind (fa 1 q19_0) fun y23=>
 bind (ld1 y23) fun y24=>
 ret (Value.tuple #[(Value.slice none 0 0),y24]))
 (ret (Value.tuple #[q19_1,(Value.int .i64 0)]))) noX ret)))
theorem ZrA (Γ : Ze) (x0 : Value) : Zy Tryz.prog Γ Tryz.f90 ZiV [x0]=Za8 Γ x0:=by kernel_rfl
theorem ZpC {prim : FuncId→Option (List Value→M Value)} (hp : prim Za0=none) (n : Nat) (x0 : Value) : run Tryz.prog prim lvs (n+1) Za0 [x0]=Za8 (run Tryz.prog prim lvs n) x0:=
 (Zl hp (by kernel_rfl) Tryz.func90 (by kernel_rfl)).trans (ZrA _ x0)
noncomputable def W5.l1 (Γ : Ze) (s2 s3 s6 s7 s8 : Value) : M Out:=
 bind (bop .int .lss s8 s7) fun y3=>
 cnd y3
 (bind (ixa 5 s6 s8) fun y4=>
 bind (ldA 5 y4) fun y5=>
 bind (alc 1 (.agg #[.string ⟨#[]⟩,.string ⟨#[]⟩,.string ⟨#[]⟩,.bool false,.slice none 0 0])) fun y6=>
 bind (stA 5 y6 y5) fun _=>
 bind (fa 0 y6) fun y7=>
 bind (ld1 y7) fun y8=>
 bind (fa 1 y6) fun y9=>
 bind (ld1 y9) fun y10=>
 bind (bld (.agg #[.string ⟨#[]⟩,.string ⟨#[]⟩,.string ⟨#[]⟩,.bool false,.slice none 0 0]) [(0,1,y8),(1,1,y10)]) fun y11=>
 bind (bsl 5 1 (.agg #[.string ⟨#[]⟩,.string ⟨#[]⟩,.string ⟨#[]⟩,.bool false,.slice none 0 0]) [(0,5,y11)]) fun y12=>
 bind (app 5 80 s3 y12) fun y13=>
 bind (bop .int .add s8 (Value.int .i64 1)) fun y14=>
 ret (.nrm [s2,y13,s6,s7,y14]))
 (ret (.ext 0 [s2,s3]))
noncomputable def W5 (Γ : Ze) (x0 : Value) : M Value:=
 bind (alc 1 (.agg #[.slice none 0 0,.slice none 0 0])) fun y1=>
 bind (ZH x0) fun y2=>
 jn (Zj (c5 (W5.l1 Γ)) [y1,(Value.slice none 0 0),x0,y2,(Value.int .i64 0)]) noN (xk 0 (c2 fun q16_0 q16_1=>
 bind (bld (.agg #[.slice none 0 0,.slice none 0 0]) [(0,1,q16_1)]) fun y17=>
 bind (stA 2 q16_0 y17) fun _=>
 bind (ldA 2 q16_0) fun y18=>
 ret y18) noX) ret
theorem Zt7 (Γ : Ze) (x0 : Value) : Zy Tryz.prog Γ Tryz.f91 ZmR [x0]=W5 Γ x0:=by kernel_rfl
theorem ZrP {prim : FuncId→Option (List Value→M Value)} (hp : prim Zex=none) (n : Nat) (x0 : Value) : run Tryz.prog prim lvs (n+1) Zex [x0]=W5 (run Tryz.prog prim lvs n) x0:=
 (Zl hp (by kernel_rfl) Tryz.func91 (by kernel_rfl)).trans (Zt7 _ x0)
noncomputable def Zls (Γ : Ze) (x0 : Value) : M Value:=
 bind (alc 1 x0) fun y1=>
 bind (alc 1 (.agg #[.string ⟨#[]⟩,.string ⟨#[]⟩,.string ⟨#[]⟩,.bool false,.slice none 0 0])) fun y2=>
 bind (fa 0 y1) fun y3=>
 bind (ld1 y3) fun y4=>
 bind (fa 1 y1) fun y5=>
 bind (ld1 y5) fun y6=>
 bind (bld (.agg #[.string ⟨#[]⟩,.string ⟨#[]⟩,.string ⟨#[]⟩,.bool false,.slice none 0 0]) [(0,1,y4),(1,1,y6)]) fun y7=>
 bind (stA 5 y2 y7) fun _=>
 bind (ldA 5 y2) fun y8=>
 ret y8
theorem ZuR (Γ : Ze) (x0 : Value) : Zy Tryz.prog Γ Tryz.f96 ZoN [x0]=Zls Γ x0:=by kernel_rfl
theorem ZtI {prim : FuncId→Option (List Value→M Value)} (hp : prim Zhi=none) (n : Nat) (x0 : Value) : run Tryz.prog prim lvs (n+1) Zhi [x0]=Zls (run Tryz.prog prim lvs n) x0:=
 (Zl hp (by kernel_rfl) Tryz.func96 (by kernel_rfl)).trans (ZuR _ x0)
noncomputable def Wt (Γ : Ze) (x0 x1 : Value) : M Value:=
 bind (alc 1 (.agg #[.string ⟨#[]⟩,.bool false])) fun y1=>
 bind (Γ JM [x1]) fun y2=>
 bind (bop .int .neq y2 (Value.int .i64 0)) fun y3=>
 cnd y3
 (bind (bld (.agg #[.string ⟨#[]⟩,.bool false]) []) fun y4=>
 bind (stA 2 y1 y4) fun _=>
 bind (ldA 2 y1) fun y5=>
 ret (Value.tuple #[y5,y2]))
 (bind (Jc x0) fun y6=>
 bind (fa 0 y6) fun y7=>
 bind (ld1 y7) fun y8=>
 bind (lkp .str (.agg #[.string ⟨#[]⟩,.bool false]) true y8 x1) fun y9=>
 bind (Zz y9 0) fun y10=>
 bind (Zz y9 1) fun y11=>
 bind (alc 1 (.agg #[.string ⟨#[]⟩,.bool false])) fun y12=>
 bind (stA 2 y12 y10) fun _=>
 bind (uop .not y11) fun y13=>
 cnd y13
 (bind (bld (.agg #[.string ⟨#[]⟩,.bool false]) []) fun y14=>
 bind (stA 2 y1 y14) fun _=>
 bind (ldA 2 y1) fun y15=>
 ret (Value.tuple #[y15,(Value.int .i64 8)]))
 (bind (ldA 2 y12) fun y16=>
 bind (stA 2 y1 y16) fun _=>
 bind (ldA 2 y1) fun y17=>
 ret (Value.tuple #[y17,(Value.int .i64 0)])))
theorem Zmz (Γ : Ze) (x0 x1 : Value) : Zy Tryz.prog Γ Tryz.f99 ZfU [x0,x1]=Wt Γ x0 x1:=by kernel_rfl
theorem Zlr {prim : FuncId→Option (List Value→M Value)} (hp : prim Zaw=none) (n : Nat) (x0 x1 : Value) : run Tryz.prog prim lvs (n+1) Zaw [x0,x1]=Wt (run Tryz.prog prim lvs n) x0 x1:=
 (Zl hp (by kernel_rfl) Tryz.func99 (by kernel_rfl)).trans (Zmz _ x0 x1)
noncomputable def Zey (Γ : Ze) (x0 x1 : Value) : M Value:=
 bind (Jc x0) fun y1=>
 bind (fa 1 y1) fun y2=>
 bind (ld1 y2) fun y3=>
 bind (lkp .str (.string ⟨#[]⟩) true y3 x1) fun y4=>
 bind (Zz y4 0) fun y5=>
 bind (Zz y4 1) fun y6=>
 ret (Value.tuple #[y5,y6])
theorem Zoq (Γ : Ze) (x0 x1 : Value) : Zy Tryz.prog Γ Tryz.f100 ZgJ [x0,x1]=Zey Γ x0 x1:=by kernel_rfl
theorem Zm0 {prim : FuncId→Option (List Value→M Value)} (hp : prim ZaZ=none) (n : Nat) (x0 x1 : Value) : run Tryz.prog prim lvs (n+1) ZaZ [x0,x1]=Zey (run Tryz.prog prim lvs n) x0 x1:=
 (Zl hp (by kernel_rfl) Tryz.func100 (by kernel_rfl)).trans (Zoq _ x0 x1)
noncomputable def Zdi (Γ : Ze) (x0 x1 : Value) : M Value:=
 bind (alc 1 x0) fun y1=>
 bind (alc 1 x1) fun y2=>
 bind (ld1 y1) fun y3=>
 bind (Γ Y5 [y3]) fun y4=>
 bind (Γ QY [y4,(Value.func (.func 166) #[] #[y1,y2])]) fun y5=>
 ret y5
theorem Zlh (Γ : Ze) (x0 x1 : Value) : Zy Tryz.prog Γ Tryz.f101 Zfu [x0,x1]=Zdi Γ x0 x1:=by kernel_rfl
theorem ZkB {prim : FuncId→Option (List Value→M Value)} (hp : prim W0=none) (n : Nat) (x0 x1 : Value) : run Tryz.prog prim lvs (n+1) W0 [x0,x1]=Zdi (run Tryz.prog prim lvs n) x0 x1:=
 (Zl hp (by kernel_rfl) Tryz.func101 (by kernel_rfl)).trans (Zlh _ x0 x1)
noncomputable def Z6.l1 (Γ : Ze) (s0 s1 s5 s6 : Value) : M Out:=
 bind (ZH s0) fun y4=>
 bind (bop .int .lss s6 y4) fun y5=>
 cnd y5
 (bind (ixa 1 s0 s6) fun y6=>
 bind (ld1 y6) fun y7=>
 bind (Kh Γ s1 [y7]) fun y8=>
 bind (uop .not y8) fun y9=>
 jn (cnd y9
 (bind (ixa 1 s0 s5) fun y10=>
 bind (st1 y10 y7) fun _=>
 bind (bop .int .add s5 (Value.int .i64 1)) fun y11=>
 ret (.nrm [s0,s1,y11,s6]))
 (ret (.nrm [s0,s1,s5,s6]))) (c4 fun q12_0 q12_1 q12_2 q12_3=>
 bind (bop .int .add q12_3 (Value.int .i64 1)) fun y13=>
 ret (.nrm [q12_0,q12_1,q12_2,y13])) noX Ji)
 (ret (.ext 0 [s0,s5]))
noncomputable def Z6 (Γ : Ze) (x0 x1 : Value) : M Value:=
 bind (Γ JJ [x0,x1]) fun y1=>
 bind (bop .int .eql y1 (Value.int .i64 (-1))) fun y2=>
 cnd y2
 (ret x0)
 (bind (bop .int .add y1 (Value.int .i64 1)) fun y3=>
 jn (Zj (c4 (Z6.l1 Γ)) [x0,x1,y1,y3]) noN (xk 0 (c2 fun q16_0 q16_1=>
 bind (slv 1 q16_0 (some q16_1) none none) fun y17=>
 bind (clr (.string ⟨#[]⟩) 1 y17) fun _=>
 bind (slv 1 q16_0 none (some q16_1) none) fun y18=>
 ret y18) noX) ret)
theorem ZcV (Γ : Ze) (x0 x1 : Value) : Zy Tryz.prog Γ Tryz.f103 WM [x0,x1]=Z6 Γ x0 x1:=by kernel_rfl
theorem ZcE {prim : FuncId→Option (List Value→M Value)} (hp : prim QY=none) (n : Nat) (x0 x1 : Value) : run Tryz.prog prim lvs (n+1) QY [x0,x1]=Z6 (run Tryz.prog prim lvs n) x0 x1:=
 (Zl hp (by kernel_rfl) Tryz.func103 (by kernel_rfl)).trans (ZcV _ x0 x1)
noncomputable def Zdf (Γ : Ze) (x0 : Value) : M Value:=
 bind (Jc x0) fun y1=>
 bind (fa 0 y1) fun y2=>
 bind (ld1 y2) fun y3=>
 bind (Γ Jt [y3]) fun y4=>
 bind (Γ QF [y4,(Value.func (.func 172) #[] #[])]) fun y5=>
 ret y5
theorem ZlO (Γ : Ze) (x0 : Value) : Zy Tryz.prog Γ Tryz.f104 Zfi [x0]=Zdf Γ x0:=by kernel_rfl
theorem Zkn {prim : FuncId→Option (List Value→M Value)} (hp : prim Zbh=none) (n : Nat) (x0 : Value) : run Tryz.prog prim lvs (n+1) Zbh [x0]=Zdf (run Tryz.prog prim lvs n) x0:=
 (Zl hp (by kernel_rfl) Tryz.func104 (by kernel_rfl)).trans (ZlO _ x0)
noncomputable def Zc4 (Γ : Ze) (x0 : Value) : M Value:=
 bind (Jc x0) fun y1=>
 bind (fa 0 y1) fun y2=>
 bind (ld1 y2) fun y3=>
 bind (Γ QA [y3]) fun y4=>
 bind (Γ QF [y4,(Value.func (.func 172) #[] #[])]) fun y5=>
 ret y5
theorem ZlV (Γ : Ze) (x0 : Value) : Zy Tryz.prog Γ Tryz.f107 ZfH [x0]=Zc4 Γ x0:=by kernel_rfl
theorem ZkG {prim : FuncId→Option (List Value→M Value)} (hp : prim WX=none) (n : Nat) (x0 : Value) : run Tryz.prog prim lvs (n+1) WX [x0]=Zc4 (run Tryz.prog prim lvs n) x0:=
 (Zl hp (by kernel_rfl) Tryz.func107 (by kernel_rfl)).trans (ZlV _ x0)
noncomputable def ZiC (Γ : Ze) : M Value:=
 bind (mkm) fun y1=>
 bind (mkm) fun y2=>
 bind (bld (.agg #[.map none,.map none]) [(0,1,y1),(1,1,y2)]) fun y3=>
 bind (alc 1 y3) fun y4=>
 ret y4
theorem ZtV (Γ : Ze) : Zy Tryz.prog Γ Tryz.f109 ZmK []=ZiC Γ :=by kernel_rfl
theorem Zr1 {prim : FuncId→Option (List Value→M Value)} (hp : prim ZfX=none) (n : Nat) : run Tryz.prog prim lvs (n+1) ZfX []=ZiC (run Tryz.prog prim lvs n) :=
 (Zl hp (by kernel_rfl) Tryz.func109 (by kernel_rfl)).trans (ZtV _ )
noncomputable def ZgW (Γ : Ze) : M Value:=
 bind (mkm) fun y1=>
 bind (bld (.agg #[.map none]) [(0,1,y1)]) fun y2=>
 bind (alc 1 y2) fun y3=>
 ret y3
theorem Zr9 (Γ : Ze) : Zy Tryz.prog Γ Tryz.f110 ZkR []=ZgW Γ :=by kernel_rfl
theorem Zrr {prim : FuncId→Option (List Value→M Value)} (hp : prim Ze9=none) (n : Nat) : run Tryz.prog prim lvs (n+1) Ze9 []=ZgW (run Tryz.prog prim lvs n) :=
 (Zl hp (by kernel_rfl) Tryz.func110 (by kernel_rfl)).trans (Zr9 _ )
noncomputable def Q9.l1 (Γ : Ze) (s0 s4 s11 s12 s13 : Value) : M Out:=
 bind (bop .int .lss s13 s12) fun y3=>
 cnd y3
 (bind (ixa 5 s11 s13) fun y4=>
 bind (ldA 5 y4) fun y5=>
 bind (alc 1 (.agg #[.string ⟨#[]⟩,.string ⟨#[]⟩,.string ⟨#[]⟩,.bool false,.slice none 0 0])) fun y6=>
 bind (stA 5 y6 y5) fun _=>
 bind (ldA 5 y6) fun y7=>
 bind (Γ Ye [(Value.int .i64 1),y7]) fun y8=>
 bind (bop .int .neq y8 (Value.int .i64 0)) fun y9=>
 cnd y9
 (ret (.ret (Value.tuple #[(Value.pointer none),y8])))
 (bind (bop .int .add s13 (Value.int .i64 1)) fun y10=>
 ret (.nrm [s0,s4,s11,s12,y10])))
 (ret (.ext 0 [s0,s4]))
noncomputable def Q9.l2 (Γ : Ze) (s0 s4 s23 s24 s25 : Value) : M Out:=
 bind (bop .int .lss s25 s24) fun y14=>
 cnd y14
 (bind (ixa 5 s23 s25) fun y15=>
 bind (ldA 5 y15) fun y16=>
 bind (alc 1 (.agg #[.string ⟨#[]⟩,.string ⟨#[]⟩,.string ⟨#[]⟩,.bool false,.slice none 0 0])) fun y17=>
 bind (stA 5 y17 y16) fun _=>
 bind (bop .int .gtr s25 (Value.int .i64 0)) fun y18=>
 bind (ZJ y18 true (ret s0)) fun y19=>
 bind (ZJ y18 true (ret s25)) fun y20=>
 bind (ZJ y18 true (bop .int .sub y20 (Value.int .i64 1))) fun y21=>
 bind (ZJ y18 true (ixa 5 y19 y21)) fun y22=>
 bind (ZJ y18 true (fa 0 y22)) fun y23=>
 bind (ZJ y18 true (ld1 y23)) fun y24=>
 bind (ZJ y18 true (fa 0 y17)) fun y25=>
 bind (ZJ y18 true (ld1 y25)) fun y26=>
 bind (ZJ y18 true (Γ Qx [y24,y26])) fun y27=>
 bind (ZJ y18 true (bop .int .geq y27 (Value.int .i64 0))) fun y28=>
 bind (pick y18 y28 (Value.bool false)) fun y29=>
 cnd y29
 (ret (.ret (Value.tuple #[(Value.pointer none),(Value.int .i64 9)])))
 (bind (Jc s4) fun y30=>
 bind (fa 0 y30) fun y31=>
 bind (ld1 y31) fun y32=>
 bind (fa 0 y17) fun y33=>
 bind (ld1 y33) fun y34=>
 bind (fa 1 y17) fun y35=>
 bind (ld1 y35) fun y36=>
 bind (mup .str y32 y34 y36) fun _=>
 bind (bop .int .add s25 (Value.int .i64 1)) fun y37=>
 ret (.nrm [s0,s4,s23,s24,y37])))
 (ret (.ext 2 [s0,s4]))
noncomputable def Q9 (Γ : Ze) (x0 : Value) : M Value:=
 bind (Γ Zdd []) fun y1=>
 bind (ZH x0) fun y2=>
 jn (Zj (c5 (Q9.l1 Γ)) [x0,y1,x0,y2,(Value.int .i64 0)]) noN (xk 0 (c2 fun q12_0 q12_1=>
 bind (ZH q12_0) fun y13=>
 jn (Zj (c5 (Q9.l2 Γ)) [q12_0,q12_1,q12_0,y13,(Value.int .i64 0)]) noN (xk 2 (c2 fun q39_0 q39_1=>
 bind (ZH q39_0) fun y40=>
 bind (bop .int .gtr y40 (Value.int .i64 12)) fun y41=>
 cnd y41
 (ret (Value.tuple #[(Value.pointer none),(Value.int .i64 7)]))
 (ret (Value.tuple #[q39_1,(Value.int .i64 0)]))) noX) ret) noX) ret
theorem Ztj (Γ : Ze) (x0 : Value) : Zy Tryz.prog Γ Tryz.f111 Zmx [x0]=Q9 Γ x0:=by kernel_rfl
theorem ZrT {prim : FuncId→Option (List Value→M Value)} (hp : prim ZcQ=none) (n : Nat) (x0 : Value) : run Tryz.prog prim lvs (n+1) ZcQ [x0]=Q9 (run Tryz.prog prim lvs n) x0:=
 (Zl hp (by kernel_rfl) Tryz.func111 (by kernel_rfl)).trans (Ztj _ x0)
noncomputable def W9 (Γ : Ze) (x0 x1 : Value) : M Value:=
 bind (alc 1 x1) fun y1=>
 bind (bop .int .neq x0 (Value.int .i64 1)) fun y2=>
 bind (ZT y2 true 2 (bind (bop .int .neq x0 (Value.int .i64 2)) fun y3=>
 ret [x0,y3])) (c2 fun _ q4_1=>
 bind (pick y2 q4_1 (Value.bool false)) fun y5=>
 cnd y5
 (ret (Value.int .i64 6))
 (bind (fa 0 y1) fun y6=>
 bind (ld1 y6) fun y7=>
 bind (fa 1 y1) fun y8=>
 bind (ld1 y8) fun y9=>
 bind (Γ JM [y7]) fun y10=>
 bind (ld1 y8) fun u_11=>same u_11 y9 <|
 bind (Γ ZbP [y9]) fun y12=>
 bind (bsl 1 2 (.int .i64 0) [(0,1,y10),(1,1,y12)]) fun y13=>
 bind (Γ Wr [y13]) fun y14=>
 bind (bop .int .neq y14 (Value.int .i64 0)) fun y15=>
 cnd y15
 (ret y14)
 (bind (bop .int .eql x0 (Value.int .i64 2)) fun y16=>
 cnd y16
 (bind (fa 2 y1) fun y17=>
 bind (ld1 y17) fun y18=>
 bind (fa 4 y1) fun y19=>
 bind (ld1 y19) fun y20=>
 bind (Γ Zdm [y18]) fun y21=>
 bind (ld1 y19) fun u_22=>same u_22 y20 <|
 bind (Γ ZbM [y20]) fun y23=>
 bind (bsl 1 2 (.int .i64 0) [(0,1,y21),(1,1,y23)]) fun y24=>
 bind (Γ Wr [y24]) fun y25=>
 ret y25)
 (bind (fa 2 y1) fun y26=>
 bind (ld1 y26) fun y27=>
 bind (bop .str .neq y27 (Value.string ⟨#[]⟩)) fun y28=>
 bind (ZT y28 false 2 (bind (fa 3 y1) fun y29=>
 bind (ld1 y29) fun y30=>
 ret [y29,y30])) (c2 fun _ q31_1=>
 bind (pick y28 (Value.bool true) q31_1) fun y32=>
 bind (ZT y32 false 4 (bind (fa 4 y1) fun y33=>
 bind (ld1 y33) fun y34=>
 bind (ZH y34) fun y35=>
 bind (bop .int .gtr y35 (Value.int .i64 0)) fun y36=>
 ret [y33,y34,y35,y36])) (c4 fun _ _ _ q37_3=>
 bind (pick y32 (Value.bool true) q37_3) fun y38=>
 cnd y38
 (ret (Value.int .i64 12))
 (ret (Value.int .i64 0))))))))
theorem Zqf (Γ : Ze) (x0 x1 : Value) : Zy Tryz.prog Γ Tryz.f113 Zjt [x0,x1]=W9 Γ x0 x1:=by kernel_rfl
theorem ZhN {prim : FuncId→Option (List Value→M Value)} (hp : prim Ye=none) (n : Nat) (x0 x1 : Value) : run Tryz.prog prim lvs (n+1) Ye [x0,x1]=W9 (run Tryz.prog prim lvs n) x0 x1:=
 (Zl hp (by kernel_rfl) Tryz.func113 (by kernel_rfl)).trans (Zqf _ x0 x1)
noncomputable def KO.l1 (Γ : Ze) (s0 s1 s5 : Value) : M Out:=
 bind (ZH s0) fun y1=>
 bind (bop .int .lss s5 y1) fun y2=>
 cnd y2
 (bind (bop .int .sub s5 (Value.int .i64 1)) fun y3=>
 bind (ixa 1 s0 y3) fun y4=>
 bind (ld1 y4) fun y5=>
 bind (ixa 1 s0 s5) fun y6=>
 bind (ld1 y6) fun y7=>
 bind (Γ Qx [y5,y7]) fun y8=>
 bind (bop .int .geq y8 (Value.int .i64 0)) fun y9=>
 cnd y9
 (ret (.ret (Value.int .i64 9)))
 (bind (bop .int .add s5 (Value.int .i64 1)) fun y10=>
 ret (.nrm [s0,s1,y10])))
 (ret (.ext 0 [s0,s1]))
noncomputable def KO (Γ : Ze) (x0 x1 : Value) : M Value:=
 jn (Zj (c3 (KO.l1 Γ)) [x0,x1,(Value.int .i64 1)]) noN (xk 0 (c2 fun q12_0 q12_1=>
 bind (ZH q12_0) fun y13=>
 bind (bop .int .gtr y13 q12_1) fun y14=>
 cnd y14
 (ret (Value.int .i64 7))
 (ret (Value.int .i64 0))) noX) ret
theorem Zrz (Γ : Ze) (x0 x1 : Value) : Zy Tryz.prog Γ Tryz.f114 ZiT [x0,x1]=KO Γ x0 x1:=by kernel_rfl
theorem Zpu {prim : FuncId→Option (List Value→M Value)} (hp : prim Ki=none) (n : Nat) (x0 x1 : Value) : run Tryz.prog prim lvs (n+1) Ki [x0,x1]=KO (run Tryz.prog prim lvs n) x0 x1:=
 (Zl hp (by kernel_rfl) Tryz.func114 (by kernel_rfl)).trans (Zrz _ x0 x1)
noncomputable def ZhB (Γ : Ze) (x0 : Value) : M Value:=
 bind (Γ WC [x0]) fun y1=>
 bind (uop .not y1) fun y2=>
 cnd y2
 (ret (Value.int .i64 10))
 (ret (Value.int .i64 0))
theorem ZrL (Γ : Ze) (x0 : Value) : Zy Tryz.prog Γ Tryz.f115 Zk5 [x0]=ZhB Γ x0:=by kernel_rfl
theorem Zrt {prim : FuncId→Option (List Value→M Value)} (hp : prim JM=none) (n : Nat) (x0 : Value) : run Tryz.prog prim lvs (n+1) JM [x0]=ZhB (run Tryz.prog prim lvs n) x0:=
 (Zl hp (by kernel_rfl) Tryz.func115 (by kernel_rfl)).trans (ZrL _ x0)
noncomputable def Zb1 (Γ : Ze) (x0 x1 x2 : Value) : M Value:=
 bind (bsl 1 1 (.string ⟨#[]⟩) [(0,1,x1)]) fun y1=>
 bind (app 1 16 y1 x2) fun y2=>
 bind (Γ Zbr [y2]) fun y3=>
 bind (bop .int .neq y3 (Value.int .i64 0)) fun y4=>
 cnd y4
 (ret (Value.tuple #[(Value.map none),y3]))
 (bind (Jc x0) fun y5=>
 bind (fa 0 y5) fun y6=>
 bind (ld1 y6) fun y7=>
 bind (lkp .str (.map none) true y7 x1) fun y8=>
 bind (Zz y8 0) fun y9=>
 bind (Zz y8 1) fun y10=>
 bind (uop .not y10) fun y11=>
 cnd y11
 (ret (Value.tuple #[(Value.map none),(Value.int .i64 8)]))
 (ret (Value.tuple #[y9,(Value.int .i64 0)])))
theorem Zjd (Γ : Ze) (x0 x1 x2 : Value) : Zy Tryz.prog Γ Tryz.f116 Zev [x0,x1,x2]=Zb1 Γ x0 x1 x2:=by kernel_rfl
theorem Zia {prim : FuncId→Option (List Value→M Value)} (hp : prim YL=none) (n : Nat) (x0 x1 x2 : Value) : run Tryz.prog prim lvs (n+1) YL [x0,x1,x2]=Zb1 (run Tryz.prog prim lvs n) x0 x1 x2:=
 (Zl hp (by kernel_rfl) Tryz.func116 (by kernel_rfl)).trans (Zjd _ x0 x1 x2)
noncomputable def WW (Γ : Ze) (x0 x1 : Value) : M Value:=
 bind (Jc x0) fun y1=>
 bind (fa 1 y1) fun y2=>
 bind (ld1 y2) fun y3=>
 bind (lkp .str (.string ⟨#[]⟩) true y3 x1) fun y4=>
 bind (Zz y4 0) fun y5=>
 bind (Zz y4 1) fun y6=>
 jn (cnd y6
 (bind (Jc x0) fun y7=>
 bind (fa 0 y7) fun y8=>
 bind (ld1 y8) fun y9=>
 bind (mde .str y9 y5) fun _=>
 bind (Jc x0) fun y10=>
 bind (fa 1 y10) fun y11=>
 bind (ld1 y11) fun y12=>
 bind (mde .str y12 x1) fun _=>
 ret (.nrm [y6]))
 (ret (.nrm [y6]))) (c1 fun q13_0=>
 ret q13_0) noX ret
theorem ZlP (Γ : Ze) (x0 x1 : Value) : Zy Tryz.prog Γ Tryz.f117 Zfs [x0,x1]=WW Γ x0 x1:=by kernel_rfl
theorem Zkf {prim : FuncId→Option (List Value→M Value)} (hp : prim YN=none) (n : Nat) (x0 x1 : Value) : run Tryz.prog prim lvs (n+1) YN [x0,x1]=WW (run Tryz.prog prim lvs n) x0 x1:=
 (Zl hp (by kernel_rfl) Tryz.func117 (by kernel_rfl)).trans (ZlP _ x0 x1)
noncomputable def Y0.l1 (Γ : Ze) (s0 s35 s36 s37 : Value) : M Out:=
 bind (bop .int .lss s37 s36) fun y19=>
 cnd y19
 (bind (ixa 1 s35 s37) fun y20=>
 bind (ld1 y20) fun y21=>
 bind (bop .str .eql y21 (Value.string ⟨#[]⟩)) fun y22=>
 bind (ZT y22 false 3 (bind (Γ KB [y21,(Value.func (.func 183) #[] #[])]) fun y23=>
 bind (uop .not y23) fun y24=>
 ret [y21,y23,y24])) (c3 fun _ _ q25_2=>
 bind (pick y22 (Value.bool true) q25_2) fun y26=>
 cnd y26
 (ret (.ret (Value.tuple #[(Value.string ⟨#[]⟩),(Value.int .i64 11)])))
 (bind (bop .int .add s37 (Value.int .i64 1)) fun y27=>
 ret (.nrm [s0,s35,s36,y27]))))
 (ret (.ext 0 [s0]))
noncomputable def Y0 (Γ : Ze) (x0 : Value) : M Value:=
 bind (Ym x0) fun y1=>
 bind (bop .int .gtr y1 (Value.int .i64 20)) fun y2=>
 cnd y2
 (ret (Value.tuple #[(Value.string ⟨#[]⟩),(Value.int .i64 11)]))
 (bind (Γ Zdn [x0]) fun y3=>
 bind (Γ WG [y3,(Value.string ⟨#[64]⟩)]) fun y4=>
 bind (Zz y4 0) fun y5=>
 bind (Zz y4 1) fun y6=>
 bind (Zz y4 2) fun y7=>
 bind (Γ Zas [y6,(Value.string ⟨#[46]⟩)]) fun y8=>
 bind (uop .not y7) fun y9=>
 bind (ZT y9 false 3 (bind (Γ WC [y5]) fun y10=>
 bind (uop .not y10) fun y11=>
 ret [y5,y10,y11])) (c3 fun _ _ q12_2=>
 bind (pick y9 (Value.bool true) q12_2) fun y13=>
 bind (ZT y13 false 3 (bind (ZH y8) fun y14=>
 bind (bop .int .lss y14 (Value.int .i64 2)) fun y15=>
 ret [y8,y14,y15])) (c3 fun _ _ q16_2=>
 bind (pick y13 (Value.bool true) q16_2) fun y17=>
 cnd y17
 (ret (Value.tuple #[(Value.string ⟨#[]⟩),(Value.int .i64 11)]))
 (bind (ZH y8) fun y18=>
 jn (Zj (c4 (Y0.l1 Γ)) [y3,y8,y18,(Value.int .i64 0)]) noN (xk 0 (c1 fun q29_0=>
 ret (Value.tuple #[q29_0,(Value.int .i64 0)])) noX) ret))))
theorem Zsd (Γ : Ze) (x0 : Value) : Zy Tryz.prog Γ Tryz.f118 Zlc [x0]=Y0 Γ x0:=by kernel_rfl
theorem Zp5 {prim : FuncId→Option (List Value→M Value)} (hp : prim ZbO=none) (n : Nat) (x0 : Value) : run Tryz.prog prim lvs (n+1) ZbO [x0]=Y0 (run Tryz.prog prim lvs n) x0:=
 (Zl hp (by kernel_rfl) Tryz.func118 (by kernel_rfl)).trans (Zsd _ x0)
noncomputable def J5.l1 (Γ : Ze) (s0 s1 s7 s8 : Value) : M Out:=
 bind (bop .int .lss s8 s7) fun y1=>
 cnd y1
 (bind (Jc s0) fun y2=>
 bind (fa 0 y2) fun y3=>
 bind (ld1 y3) fun y4=>
 bind (cvi .u8 s1) fun y5=>
 bind (bsl 1 1 (.int .u8 0) [(0,1,y5)]) fun y6=>
 bind (app 1 1 y4 y6) fun y7=>
 bind (Jc s0) fun y8=>
 bind (fa 0 y8) fun y9=>
 bind (st1 y9 y7) fun _=>
 bind (bop .int .shr s1 (Value.int .u64 8)) fun y10=>
 bind (bop .int .add s8 (Value.int .i64 1)) fun y11=>
 ret (.nrm [s0,y10,s7,y11]))
 (ret (.ext 0 [s0]))
noncomputable def J5 (Γ : Ze) (x0 x1 x2 : Value) : M Value:=
 jn (Zj (c4 (J5.l1 Γ)) [x0,x1,x2,(Value.int .i64 0)]) noN (xk 0 (c1 fun q13_0=>
 ret q13_0) noX) ret
theorem Zkv (Γ : Ze) (x0 x1 x2 : Value) : Zy Tryz.prog Γ Tryz.f119 ZeM [x0,x1,x2]=J5 Γ x0 x1 x2:=by kernel_rfl
theorem ZiO {prim : FuncId→Option (List Value→M Value)} (hp : prim Ka=none) (n : Nat) (x0 x1 x2 : Value) : run Tryz.prog prim lvs (n+1) Ka [x0,x1,x2]=J5 (run Tryz.prog prim lvs n) x0 x1 x2:=
 (Zl hp (by kernel_rfl) Tryz.func119 (by kernel_rfl)).trans (Zkv _ x0 x1 x2)
noncomputable def Zb5 (Γ : Ze) (x0 x1 : Value) : M Value:=
 bind (Ym x1) fun y1=>
 bind (mxi false y1 (Value.int .i64 65535)) fun y2=>
 bind (sls x1 none (some y2)) fun y3=>
 bind (Ym y3) fun y4=>
 bind (cvi .u16 y4) fun y5=>
 bind (Γ Yw [x0,y5]) fun y6=>
 bind (Jc x0) fun y7=>
 bind (fa 0 y7) fun y8=>
 bind (ld1 y8) fun y9=>
 bind (app 1 1 y9 y3) fun y10=>
 bind (Jc x0) fun y11=>
 bind (fa 0 y11) fun y12=>
 bind (st1 y12 y10) fun _=>
 ret x0
theorem ZiL (Γ : Ze) (x0 x1 : Value) : Zy Tryz.prog Γ Tryz.f120 Zeb [x0,x1]=Zb5 Γ x0 x1:=by kernel_rfl
theorem Zie {prim : FuncId→Option (List Value→M Value)} (hp : prim Jr=none) (n : Nat) (x0 x1 : Value) : run Tryz.prog prim lvs (n+1) Jr [x0,x1]=Zb5 (run Tryz.prog prim lvs n) x0 x1:=
 (Zl hp (by kernel_rfl) Tryz.func120 (by kernel_rfl)).trans (ZiL _ x0 x1)
noncomputable def Zcy (Γ : Ze) (x0 : Value) : M Value:=
 bind (Jc x0) fun y1=>
 bind (fa 0 y1) fun y2=>
 bind (ld1 y2) fun y3=>
 bind (Γ K3 [y3]) fun y4=>
 ret y4
theorem ZkA (Γ : Ze) (x0 : Value) : Zy Tryz.prog Γ Tryz.f121 ZeG [x0]=Zcy Γ x0:=by kernel_rfl
theorem ZjR {prim : FuncId→Option (List Value→M Value)} (hp : prim Y5=none) (n : Nat) (x0 : Value) : run Tryz.prog prim lvs (n+1) Y5 [x0]=Zcy (run Tryz.prog prim lvs n) x0:=
 (Zl hp (by kernel_rfl) Tryz.func121 (by kernel_rfl)).trans (ZkA _ x0)
noncomputable def ZbE (Γ : Ze) (x0 x1 : Value) : M Value:=
 cnd x1
 (bind (Γ JP [x0,(Value.int .u8 1)]) fun y1=>
 ret y1)
 (bind (Γ JP [x0,(Value.int .u8 0)]) fun y2=>
 ret y2)
theorem Zif (Γ : Ze) (x0 x1 : Value) : Zy Tryz.prog Γ Tryz.f122 ZdF [x0,x1]=ZbE Γ x0 x1:=by kernel_rfl
theorem Zhn {prim : FuncId→Option (List Value→M Value)} (hp : prim KU=none) (n : Nat) (x0 x1 : Value) : run Tryz.prog prim lvs (n+1) KU [x0,x1]=ZbE (run Tryz.prog prim lvs n) x0 x1:=
 (Zl hp (by kernel_rfl) Tryz.func122 (by kernel_rfl)).trans (Zif _ x0 x1)
noncomputable def J4.l1 (Γ : Ze) (s5 s10 s11 s12 : Value) : M Out:=
 bind (bop .int .lss s12 s11) fun y3=>
 cnd y3
 (bind (ixa 1 s10 s12) fun y4=>
 bind (ld1 y4) fun y5=>
 bind (cvi .u64 y5) fun y6=>
 bind (bop .int .mul (Value.int .i64 8) s12) fun y7=>
 bind (bop .int .shl y6 y7) fun y8=>
 bind (bop .int .or s5 y8) fun y9=>
 bind (bop .int .add s12 (Value.int .i64 1)) fun y10=>
 ret (.nrm [y9,s10,s11,y10]))
 (ret (.ext 0 [s5]))
noncomputable def J4 (Γ : Ze) (x0 x1 : Value) : M Value:=
 bind (Γ YJ [x0,x1]) fun y1=>
 bind (ZH y1) fun y2=>
 jn (Zj (c4 (J4.l1 Γ)) [(Value.int .u64 0),y1,y2,(Value.int .i64 0)]) noN (xk 0 (c1 fun q12_0=>
 ret q12_0) noX) ret
theorem Zkj (Γ : Ze) (x0 x1 : Value) : Zy Tryz.prog Γ Tryz.f123 ZeJ [x0,x1]=J4 Γ x0 x1:=by kernel_rfl
theorem Zjz {prim : FuncId→Option (List Value→M Value)} (hp : prim Y6=none) (n : Nat) (x0 x1 : Value) : run Tryz.prog prim lvs (n+1) Y6 [x0,x1]=J4 (run Tryz.prog prim lvs n) x0 x1:=
 (Zl hp (by kernel_rfl) Tryz.func123 (by kernel_rfl)).trans (Zkj _ x0 x1)
noncomputable def KY (Γ : Ze) (x0 x1 : Value) : M Value:=
 bind (Γ J1 [x0]) fun y1=>
 bind (cvi .i64 y1) fun y2=>
 bind (mxi true (Value.int .i64 0) x1) fun y3=>
 bind (bop .int .gtr y2 y3) fun y4=>
 cnd y4
 (bind (Γ ZR [x0,(Value.int .i64 3)]) fun y5=>
 ret (Value.int .i64 0))
 (ret y2)
theorem Zil (Γ : Ze) (x0 x1 : Value) : Zy Tryz.prog Γ Tryz.f124 ZdB [x0,x1]=KY Γ x0 x1:=by kernel_rfl
theorem ZhK {prim : FuncId→Option (List Value→M Value)} (hp : prim Yy=none) (n : Nat) (x0 x1 : Value) : run Tryz.prog prim lvs (n+1) Yy [x0,x1]=KY (run Tryz.prog prim lvs n) x0 x1:=
 (Zl hp (by kernel_rfl) Tryz.func124 (by kernel_rfl)).trans (Zil _ x0 x1)
noncomputable def Zb3 (Γ : Ze) (x0 x1 : Value) : M Value:=
 bind (Γ Yy [x0,x1]) fun y1=>
 bind (Γ YJ [x0,y1]) fun y2=>
 bind (b2s y2) fun y3=>
 ret y3
theorem ZiA (Γ : Ze) (x0 x1 : Value) : Zy Tryz.prog Γ Tryz.f125 Zea [x0,x1]=Zb3 Γ x0 x1:=by kernel_rfl
theorem Zid {prim : FuncId→Option (List Value→M Value)} (hp : prim QQ=none) (n : Nat) (x0 x1 : Value) : run Tryz.prog prim lvs (n+1) QQ [x0,x1]=Zb3 (run Tryz.prog prim lvs n) x0 x1:=
 (Zl hp (by kernel_rfl) Tryz.func125 (by kernel_rfl)).trans (ZiA _ x0 x1)
noncomputable def WY (Γ : Ze) (x0 : Value) : M Value:=
 bind (Γ JO [x0]) fun y1=>
 bind (bop .int .gtr y1 (Value.int .u8 1)) fun y2=>
 jn (cnd y2
 (bind (Γ ZR [x0,(Value.int .i64 4)]) fun y3=>
 ret (.nrm [y1]))
 (ret (.nrm [y1]))) (c1 fun q4_0=>
 bind (bop .int .eql q4_0 (Value.int .u8 1)) fun y5=>
 ret y5) noX ret
theorem Zij (Γ : Ze) (x0 : Value) : Zy Tryz.prog Γ Tryz.f126 ZdE [x0]=WY Γ x0:=by kernel_rfl
theorem Zdg {prim : FuncId→Option (List Value→M Value)} (hp : prim KT=none) (n : Nat) (x0 : Value) : run Tryz.prog prim lvs (n+1) KT [x0]=WY (run Tryz.prog prim lvs n) x0:=
 (Zl hp (by kernel_rfl) Tryz.func126 (by kernel_rfl)).trans (Zij _ x0)
noncomputable def Wu (Γ : Ze) (x0 x1 : Value) : M Value:=
 bind (alc 1 x0) fun y1=>
 bind (alc 1 (.agg #[.string ⟨#[]⟩,.int .i64 0])) fun y2=>
 bind (ldA 2 y1) fun y3=>
 bind (Γ Q7 [y3,(Value.int .i64 2)]) fun y4=>
 bind (Zz y4 0) fun y5=>
 bind (Zz y4 1) fun y6=>
 bind (alc 1 (.agg #[.string ⟨#[]⟩,.int .i64 0])) fun y7=>
 bind (stA 2 y7 y5) fun _=>
 bind (fa 1 y7) fun y8=>
 bind (ld1 y8) fun y9=>
 bind (bop .int .eql y9 (Value.int .i64 0)) fun y10=>
 bind (ZT y10 true 5 (bind (cvi .i64 y6) fun y11=>
 bind (mxi true (Value.int .i64 0) x1) fun y12=>
 bind (bop .int .gtr y11 y12) fun y13=>
 ret [y6,y11,x1,y12,y13])) (c5 fun _ _ _ _ q14_4=>
 bind (pick y10 q14_4 (Value.bool false)) fun y15=>
 cnd y15
 (bind (bld (.agg #[.string ⟨#[]⟩,.int .i64 0]) [(1,1,(Value.int .i64 3))]) fun y16=>
 bind (stA 2 y2 y16) fun _=>
 bind (ldA 2 y2) fun y17=>
 ret (Value.tuple #[y17,(Value.string ⟨#[]⟩)]))
 (bind (ldA 2 y7) fun y18=>
 bind (cvi .i64 y6) fun y19=>
 bind (Γ YU [y18,y19]) fun y20=>
 bind (Zz y20 0) fun y21=>
 bind (Zz y20 1) fun y22=>
 bind (Zz y20 2) fun y23=>
 bind (stA 2 y7 y21) fun _=>
 bind (ldA 2 y7) fun y24=>
 bind (stA 2 y2 y24) fun _=>
 bind (ldA 2 y2) fun y25=>
 ret (Value.tuple #[y25,y22])))
theorem Zni (Γ : Ze) (x0 x1 : Value) : Zy Tryz.prog Γ Tryz.f127 Zf2 [x0,x1]=Wu Γ x0 x1:=by kernel_rfl
theorem ZfM {prim : FuncId→Option (List Value→M Value)} (hp : prim Qt=none) (n : Nat) (x0 x1 : Value) : run Tryz.prog prim lvs (n+1) Qt [x0,x1]=Wu (run Tryz.prog prim lvs n) x0 x1:=
 (Zl hp (by kernel_rfl) Tryz.func127 (by kernel_rfl)).trans (Zni _ x0 x1)
noncomputable def Za5 (Γ : Ze) (x0 x1 : Value) : M Value:=
 bind (alc 1 x0) fun y1=>
 bind (alc 1 (.agg #[.string ⟨#[]⟩,.int .i64 0])) fun y2=>
 bind (fa 1 y1) fun y3=>
 bind (ld1 y3) fun y4=>
 bind (bop .int .neq y4 (Value.int .i64 0)) fun y5=>
 bind (ZT y5 false 5 (bind (fa 0 y1) fun y6=>
 bind (ld1 y6) fun y7=>
 bind (Ym y7) fun y8=>
 bind (bop .int .gtr x1 y8) fun y9=>
 ret [x1,y6,y7,y8,y9])) (c5 fun _ _ _ _ q10_4=>
 bind (pick y5 (Value.bool true) q10_4) fun y11=>
 cnd y11
 (bind (ldA 2 y1) fun y12=>
 bind (Γ Jp [y12,(Value.int .i64 2)]) fun y13=>
 bind (stA 2 y2 y13) fun _=>
 bind (ldA 2 y2) fun y14=>
 ret (Value.tuple #[y14,(Value.string ⟨#[]⟩),(Value.bool false)]))
 (bind (fa 0 y1) fun y15=>
 bind (ld1 y15) fun y16=>
 bind (sls y16 (some x1) none) fun y17=>
 bind (bld (.agg #[.string ⟨#[]⟩,.int .i64 0]) [(0,1,y17)]) fun y18=>
 bind (fa 0 y1) fun y19=>
 bind (ld1 y19) fun y20=>
 bind (sls y20 none (some x1)) fun y21=>
 bind (stA 2 y2 y18) fun _=>
 bind (ld1 y19) fun u_22=>same u_22 y20 <|
 bind (ldA 2 y2) fun y23=>
 ret (Value.tuple #[y23,y21,(Value.bool true)])))
theorem ZrD (Γ : Ze) (x0 x1 : Value) : Zy Tryz.prog Γ Tryz.f128 Zi2 [x0,x1]=Za5 Γ x0 x1:=by kernel_rfl
theorem Zpr {prim : FuncId→Option (List Value→M Value)} (hp : prim YU=none) (n : Nat) (x0 x1 : Value) : run Tryz.prog prim lvs (n+1) YU [x0,x1]=Za5 (run Tryz.prog prim lvs n) x0 x1:=
 (Zl hp (by kernel_rfl) Tryz.func128 (by kernel_rfl)).trans (ZrD _ x0 x1)
noncomputable def Kp.l1 (Γ : Ze) (s0 s3 s4 : Value) : M Out:=
 bind (bop .int .geq s4 (Value.int .i64 0)) fun y3=>
 cnd y3
 (bind (bop .int .mul s3 (Value.int .u64 256)) fun y4=>
 bind (ixs s0 s4) fun y5=>
 bind (cvi .u64 y5) fun y6=>
 bind (bop .int .add y4 y6) fun y7=>
 bind (bop .int .sub s4 (Value.int .i64 1)) fun y8=>
 ret (.nrm [s0,y7,y8]))
 (ret (.ext 0 [s3]))
noncomputable def Kp (Γ : Ze) (x0 : Value) : M Value:=
 bind (Ym x0) fun y1=>
 bind (bop .int .sub y1 (Value.int .i64 1)) fun y2=>
 jn (Zj (c3 (Kp.l1 Γ)) [x0,(Value.int .u64 0),y2]) noN (xk 0 (c1 fun q10_0=>
 ret q10_0) noX) ret
theorem Zpi (Γ : Ze) (x0 : Value) : Zy Tryz.prog Γ Tryz.f129 Zh1 [x0]=Kp Γ x0:=by kernel_rfl
theorem ZnA {prim : FuncId→Option (List Value→M Value)} (hp : prim Zbn=none) (n : Nat) (x0 : Value) : run Tryz.prog prim lvs (n+1) Zbn [x0]=Kp (run Tryz.prog prim lvs n) x0:=
 (Zl hp (by kernel_rfl) Tryz.func129 (by kernel_rfl)).trans (Zpi _ x0)
noncomputable def Zd2 (Γ : Ze) (x0 x1 : Value) : M Value:=
 bind (alc 1 x0) fun y1=>
 bind (alc 1 (.agg #[.string ⟨#[]⟩,.int .i64 0])) fun y2=>
 bind (fa 1 y1) fun y3=>
 bind (ld1 y3) fun y4=>
 bind (bop .int .neq y4 (Value.int .i64 0)) fun y5=>
 bind (ZT y5 false 2 (bind (bop .int .eql x1 (Value.int .i64 0)) fun y6=>
 ret [x1,y6])) (c2 fun _ q7_1=>
 bind (pick y5 (Value.bool true) q7_1) fun y8=>
 cnd y8
 (bind (ldA 2 y1) fun y9=>
 bind (stA 2 y2 y9) fun _=>
 bind (ldA 2 y2) fun y10=>
 ret y10)
 (bind (bld (.agg #[.string ⟨#[]⟩,.int .i64 0]) [(1,1,x1)]) fun y11=>
 bind (stA 2 y2 y11) fun _=>
 bind (ldA 2 y2) fun y12=>
 ret y12))
theorem ZqE (Γ : Ze) (x0 x1 : Value) : Zy Tryz.prog Γ Tryz.f130 Zjn [x0,x1]=Zd2 Γ x0 x1:=by kernel_rfl
theorem Zpc {prim : FuncId→Option (List Value→M Value)} (hp : prim Jp=none) (n : Nat) (x0 x1 : Value) : run Tryz.prog prim lvs (n+1) Jp [x0,x1]=Zd2 (run Tryz.prog prim lvs n) x0 x1:=
 (Zl hp (by kernel_rfl) Tryz.func130 (by kernel_rfl)).trans (ZqE _ x0 x1)
noncomputable def WZ (Γ : Ze) (x0 : Value) : M Value:=
 bind (alc 1 x0) fun y1=>
 bind (alc 1 (.agg #[.string ⟨#[]⟩,.int .i64 0])) fun y2=>
 bind (ldA 2 y1) fun y3=>
 bind (Γ Q7 [y3,(Value.int .i64 1)]) fun y4=>
 bind (Zz y4 0) fun y5=>
 bind (Zz y4 1) fun y6=>
 bind (alc 1 (.agg #[.string ⟨#[]⟩,.int .i64 0])) fun y7=>
 bind (stA 2 y7 y5) fun _=>
 bind (bop .int .gtr y6 (Value.int .u64 1)) fun y8=>
 cnd y8
 (bind (bld (.agg #[.string ⟨#[]⟩,.int .i64 0]) [(1,1,(Value.int .i64 4))]) fun y9=>
 bind (stA 2 y2 y9) fun _=>
 bind (ldA 2 y2) fun y10=>
 ret (Value.tuple #[y10,(Value.bool false)]))
 (bind (ldA 2 y7) fun y11=>
 bind (bop .int .eql y6 (Value.int .u64 1)) fun y12=>
 bind (stA 2 y2 y11) fun _=>
 bind (ldA 2 y2) fun y13=>
 ret (Value.tuple #[y13,y12]))
theorem ZlW (Γ : Ze) (x0 : Value) : Zy Tryz.prog Γ Tryz.f131 Zfl [x0]=WZ Γ x0:=by kernel_rfl
theorem Zkm {prim : FuncId→Option (List Value→M Value)} (hp : prim K5=none) (n : Nat) (x0 : Value) : run Tryz.prog prim lvs (n+1) K5 [x0]=WZ (run Tryz.prog prim lvs n) x0:=
 (Zl hp (by kernel_rfl) Tryz.func131 (by kernel_rfl)).trans (ZlW _ x0)
noncomputable def QE.l1 (Γ : Ze) (s3 s62 s63 s64 : Value) : M Out:=
 bind (bop .int .lss s64 s63) fun y50=>
 cnd y50
 (bind (ixa 1 s62 s64) fun y51=>
 bind (ld1 y51) fun y52=>
 bind (Γ YB [y52]) fun y53=>
 bind (uop .not y53) fun y54=>
 cnd y54
 (ret (.ret (Value.int .i64 10)))
 (bind (bop .int .add s64 (Value.int .i64 1)) fun y55=>
 ret (.nrm [s3,s62,s63,y55])))
 (ret (.ext 0 [s3]))
noncomputable def QE.l2 (Γ : Ze) (s3 s73 s74 s75 : Value) : M Out:=
 bind (bop .int .lss s75 s74) fun y61=>
 cnd y61
 (bind (ixa 1 s73 s75) fun y62=>
 bind (ld1 y62) fun y63=>
 bind (bop .int .gtr s75 (Value.int .i64 0)) fun y64=>
 bind (ZT y64 true 8 (bind (fa 4 s3) fun y65=>
 bind (ld1 y65) fun y66=>
 bind (bop .int .sub s75 (Value.int .i64 1)) fun y67=>
 bind (ixa 1 y66 y67) fun y68=>
 bind (ld1 y68) fun y69=>
 bind (bop .str .leq y63 y69) fun y70=>
 ret [y63,y65,y66,s75,y67,y68,y69,y70])) (c8 fun _ _ _ _ _ _ _ q71_7=>
 bind (pick y64 q71_7 (Value.bool false)) fun y72=>
 cnd y72
 (ret (.ret (Value.int .i64 9)))
 (bind (bop .int .add s75 (Value.int .i64 1)) fun y73=>
 ret (.nrm [s3,s73,s74,y73]))))
 (ret (.ext 2 []))
noncomputable def QE (Γ : Ze) (x0 x1 : Value) : M Value:=
 bind (alc 1 x1) fun y1=>
 bind (bop .int .lss x0 (Value.int .i64 1)) fun y2=>
 bind (ZT y2 false 2 (bind (bop .int .gtr x0 (Value.int .i64 2)) fun y3=>
 ret [x0,y3])) (c2 fun _ q4_1=>
 bind (pick y2 (Value.bool true) q4_1) fun y5=>
 cnd y5
 (ret (Value.int .i64 6))
 (bind (fa 0 y1) fun y6=>
 bind (ld1 y6) fun y7=>
 bind (Γ YB [y7]) fun y8=>
 bind (uop .not y8) fun y9=>
 cnd y9
 (ret (Value.int .i64 10))
 (bind (fa 1 y1) fun y10=>
 bind (ld1 y10) fun y11=>
 bind (Γ Za1 [y11]) fun y12=>
 bind (uop .not y12) fun y13=>
 cnd y13
 (ret (Value.int .i64 4))
 (bind (bop .int .eql x0 (Value.int .i64 1)) fun y14=>
 cnd y14
 (bind (fa 2 y1) fun y15=>
 bind (ld1 y15) fun y16=>
 bind (bop .str .neq y16 (Value.string ⟨#[]⟩)) fun y17=>
 bind (ZT y17 false 2 (bind (fa 3 y1) fun y18=>
 bind (ld1 y18) fun y19=>
 ret [y18,y19])) (c2 fun _ q20_1=>
 bind (pick y17 (Value.bool true) q20_1) fun y21=>
 bind (ZT y21 false 4 (bind (fa 4 y1) fun y22=>
 bind (ld1 y22) fun y23=>
 bind (ZH y23) fun y24=>
 bind (bop .int .gtr y24 (Value.int .i64 0)) fun y25=>
 ret [y22,y23,y24,y25])) (c4 fun _ _ _ q26_3=>
 bind (pick y21 (Value.bool true) q26_3) fun y27=>
 cnd y27
 (ret (Value.int .i64 12))
 (ret (Value.int .i64 0)))))
 (bind (fa 2 y1) fun y28=>
 bind (ld1 y28) fun y29=>
 bind (bop .str .neq y29 (Value.string ⟨#[]⟩)) fun y30=>
 jn (cnd y30
 (bind (fa 2 y1) fun y31=>
 bind (ld1 y31) fun y32=>
 bind (Γ Zac [y32]) fun y33=>
 bind (Zz y33 0) fun y34=>
 bind (Zz y33 1) fun y35=>
 bind (uop .not y35) fun y36=>
 bind (ZT y36 false 4 (bind (fa 2 y1) fun y37=>
 bind (ld1 y37) fun y38=>
 bind (bop .str .neq y34 y38) fun y39=>
 ret [y34,y37,y38,y39])) (c4 fun _ _ _ q40_3=>
 bind (pick y36 (Value.bool true) q40_3) fun y41=>
 cnd y41
 (ret (.ret (Value.int .i64 11)))
 (ret (.nrm [y1]))))
 (ret (.nrm [y1]))) (c1 fun q42_0=>
 bind (fa 4 q42_0) fun y43=>
 bind (ld1 y43) fun y44=>
 bind (ZH y44) fun y45=>
 bind (bop .int .gtr y45 (Value.int .i64 6)) fun y46=>
 cnd y46
 (ret (Value.int .i64 7))
 (bind (fa 4 q42_0) fun y47=>
 bind (ld1 y47) fun y48=>
 bind (ZH y48) fun y49=>
 jn (Zj (c4 (QE.l1 Γ)) [q42_0,y48,y49,(Value.int .i64 0)]) noN (xk 0 (c1 fun q57_0=>
 bind (fa 4 q57_0) fun y58=>
 bind (ld1 y58) fun y59=>
 bind (ZH y59) fun y60=>
 jn (Zj (c4 (QE.l2 Γ)) [q57_0,y59,y60,(Value.int .i64 0)]) noN (xk 2 (c0 (ret (Value.int .i64 0))) noX) ret) noX) ret)) noX ret)))))
theorem Zo6 (Γ : Ze) (x0 x1 : Value) : Zy Tryz.prog Γ Tryz.f132 ZhR [x0,x1]=QE Γ x0 x1:=by kernel_rfl
theorem Zgu {prim : FuncId→Option (List Value→M Value)} (hp : prim WH=none) (n : Nat) (x0 x1 : Value) : run Tryz.prog prim lvs (n+1) WH [x0,x1]=QE (run Tryz.prog prim lvs n) x0 x1:=
 (Zl hp (by kernel_rfl) Tryz.func132 (by kernel_rfl)).trans (Zo6 _ x0 x1)
noncomputable def Qb.l1 (Γ : Ze) (s0 s1 s10 s11 s12 : Value) : M Out:=
 bind (bop .int .lss s12 s11) fun y2=>
 cnd y2
 (bind (ixa 5 s10 s12) fun y3=>
 bind (ldA 5 y3) fun y4=>
 bind (alc 1 (.agg #[.string ⟨#[]⟩,.string ⟨#[]⟩,.string ⟨#[]⟩,.bool false,.slice none 0 0])) fun y5=>
 bind (stA 5 y5 y4) fun _=>
 bind (ldA 5 y5) fun y6=>
 bind (Γ WH [s1,y6]) fun y7=>
 bind (bop .int .neq y7 (Value.int .i64 0)) fun y8=>
 cnd y8
 (ret (.ret y7))
 (bind (bop .int .add s12 (Value.int .i64 1)) fun y9=>
 ret (.nrm [s0,s1,s10,s11,y9])))
 (ret (.ext 0 [s0]))
noncomputable def Qb.l2 (Γ : Ze) (s0 s23 s24 s25 : Value) : M Out:=
 bind (bop .int .lss s25 s24) fun y13=>
 cnd y13
 (bind (ixa 5 s23 s25) fun y14=>
 bind (ldA 5 y14) fun y15=>
 bind (alc 1 (.agg #[.string ⟨#[]⟩,.string ⟨#[]⟩,.string ⟨#[]⟩,.bool false,.slice none 0 0])) fun y16=>
 bind (stA 5 y16 y15) fun _=>
 bind (bop .int .gtr s25 (Value.int .i64 0)) fun y17=>
 bind (ZJ y17 true (ret s0)) fun y18=>
 bind (ZJ y17 true (ret s25)) fun y19=>
 bind (ZJ y17 true (bop .int .sub y19 (Value.int .i64 1))) fun y20=>
 bind (ZJ y17 true (ixa 5 y18 y20)) fun y21=>
 bind (ZJ y17 true (fa 0 y21)) fun y22=>
 bind (ZJ y17 true (ld1 y22)) fun y23=>
 bind (ZJ y17 true (fa 0 y16)) fun y24=>
 bind (ZJ y17 true (ld1 y24)) fun y25=>
 bind (ZJ y17 true (bop .str .geq y23 y25)) fun y26=>
 bind (pick y17 y26 (Value.bool false)) fun y27=>
 cnd y27
 (ret (.ret (Value.int .i64 9)))
 (bind (bop .int .add s25 (Value.int .i64 1)) fun y28=>
 ret (.nrm [s0,s23,s24,y28])))
 (ret (.ext 2 [s0]))
noncomputable def Qb (Γ : Ze) (x0 x1 : Value) : M Value:=
 bind (ZH x0) fun y1=>
 jn (Zj (c5 (Qb.l1 Γ)) [x0,x1,x0,y1,(Value.int .i64 0)]) noN (xk 0 (c1 fun q11_0=>
 bind (ZH q11_0) fun y12=>
 jn (Zj (c4 (Qb.l2 Γ)) [q11_0,q11_0,y12,(Value.int .i64 0)]) noN (xk 2 (c1 fun q30_0=>
 bind (ZH q30_0) fun y31=>
 bind (bop .int .gtr y31 (Value.int .i64 12)) fun y32=>
 cnd y32
 (ret (Value.int .i64 7))
 (ret (Value.int .i64 0))) noX) ret) noX) ret
theorem ZtO (Γ : Ze) (x0 x1 : Value) : Zy Tryz.prog Γ Tryz.f133 ZlY [x0,x1]=Qb Γ x0 x1:=by kernel_rfl
theorem ZkP {prim : FuncId→Option (List Value→M Value)} (hp : prim W6=none) (n : Nat) (x0 x1 : Value) : run Tryz.prog prim lvs (n+1) W6 [x0,x1]=Qb (run Tryz.prog prim lvs n) x0 x1:=
 (Zl hp (by kernel_rfl) Tryz.func133 (by kernel_rfl)).trans (ZtO _ x0 x1)
noncomputable def Zgg (Γ : Ze) (x0 : Value) : M Value:=
 bind (Ym x0) fun y1=>
 bind (bop .int .geq y1 (Value.int .i64 1)) fun y2=>
 bind (ZT y2 true 2 (bind (bop .int .leq y1 (Value.int .i64 12)) fun y3=>
 ret [y1,y3])) (c2 fun _ q4_1=>
 bind (pick y2 q4_1 (Value.bool false)) fun y5=>
 bind (ZT y5 true 2 (bind (Γ Zbq [x0,(Value.string ⟨#[97,98,99,100,101,102,103,104,105,106,107,108,109,110,111,112,113,114,115,116,117,118,119,120,121,122,48,49,50,51,52,53,54,55,56,57,45,46]⟩)]) fun y6=>
 ret [x0,y6])) (c2 fun _ q7_1=>
 bind (pick y5 q7_1 (Value.bool false)) fun y8=>
 bind (ZT y8 true 3 (bind (ixs x0 (Value.int .i64 0)) fun y9=>
 bind (Γ Wq [y9,(Value.string ⟨#[97,98,99,100,101,102,103,104,105,106,107,108,109,110,111,112,113,114,115,116,117,118,119,120,121,122]⟩)]) fun y10=>
 ret [x0,y9,y10])) (c3 fun _ _ q11_2=>
 bind (pick y8 q11_2 (Value.bool false)) fun y12=>
 bind (ZT y12 true 5 (bind (bop .int .sub y1 (Value.int .i64 1)) fun y13=>
 bind (ixs x0 y13) fun y14=>
 bind (Γ Wq [y14,(Value.string ⟨#[97,98,99,100,101,102,103,104,105,106,107,108,109,110,111,112,113,114,115,116,117,118,119,120,121,122,48,49,50,51,52,53,54,55,56,57]⟩)]) fun y15=>
 ret [x0,y1,y13,y14,y15])) (c5 fun _ _ _ _ q16_4=>
 bind (pick y12 q16_4 (Value.bool false)) fun y17=>
 ret y17))))
theorem Zry (Γ : Ze) (x0 : Value) : Zy Tryz.prog Γ Tryz.f134 Zjh [x0]=Zgg Γ x0:=by kernel_rfl
theorem Zpp {prim : FuncId→Option (List Value→M Value)} (hp : prim YB=none) (n : Nat) (x0 : Value) : run Tryz.prog prim lvs (n+1) YB [x0]=Zgg (run Tryz.prog prim lvs n) x0:=
 (Zl hp (by kernel_rfl) Tryz.func134 (by kernel_rfl)).trans (Zry _ x0)
noncomputable def Wf.l1 (Γ : Ze) (s1 s7 s8 s9 : Value) : M Out:=
 bind (bop .int .lss s9 s8) fun y2=>
 cnd y2
 (bind (ixa 1 s7 s9) fun y3=>
 bind (ld1 y3) fun y4=>
 bind (bop .str .eql y4 s1) fun y5=>
 cnd y5
 (ret (.ret (Value.bool true)))
 (bind (bop .int .add s9 (Value.int .i64 1)) fun y6=>
 ret (.nrm [s1,s7,s8,y6])))
 (ret (.ext 0 []))
noncomputable def Wf (Γ : Ze) (x0 x1 : Value) : M Value:=
 bind (ZH x0) fun y1=>
 jn (Zj (c4 (Wf.l1 Γ)) [x1,x0,y1,(Value.int .i64 0)]) noN (xk 0 (c0 (ret (Value.bool false))) noX) ret
theorem Zss (Γ : Ze) (x0 x1 : Value) : Zy Tryz.prog Γ Tryz.f135 Zk2 [x0,x1]=Wf Γ x0 x1:=by kernel_rfl
theorem ZqL {prim : FuncId→Option (List Value→M Value)} (hp : prim Ze2=none) (n : Nat) (x0 x1 : Value) : run Tryz.prog prim lvs (n+1) Ze2 [x0,x1]=Wf (run Tryz.prog prim lvs n) x0 x1:=
 (Zl hp (by kernel_rfl) Tryz.func135 (by kernel_rfl)).trans (Zss _ x0 x1)
noncomputable def Zhf (Γ : Ze) (x0 : Value) : M Value:=
 bind (bop .str .eql x0 (Value.string ⟨#[]⟩)) fun y1=>
 bind (ZT y1 false 3 (bind (Ym x0) fun y2=>
 bind (bop .int .gtr y2 (Value.int .i64 12)) fun y3=>
 ret [x0,y2,y3])) (c3 fun _ _ q4_2=>
 bind (pick y1 (Value.bool true) q4_2) fun y5=>
 bind (ZT y5 false 4 (bind (Γ KB [x0,(Value.func (.func 191) #[] #[])]) fun y6=>
 bind (uop .not y6) fun y7=>
 ret [x0,(Value.func (.func 191) #[] #[]),y6,y7])) (c4 fun _ _ _ q8_3=>
 bind (pick y5 (Value.bool true) q8_3) fun y9=>
 cnd y9
 (ret (Value.int .i64 4))
 (ret (Value.int .i64 0))))
theorem ZrO (Γ : Ze) (x0 : Value) : Zy Tryz.prog Γ Tryz.f137 Zk9 [x0]=Zhf Γ x0:=by kernel_rfl
theorem ZqP {prim : FuncId→Option (List Value→M Value)} (hp : prim ZbP=none) (n : Nat) (x0 : Value) : run Tryz.prog prim lvs (n+1) ZbP [x0]=Zhf (run Tryz.prog prim lvs n) x0:=
 (Zl hp (by kernel_rfl) Tryz.func137 (by kernel_rfl)).trans (ZrO _ x0)
noncomputable def Zgh (Γ : Ze) (x0 : Value) : M Value:=
 bind (Ym x0) fun y1=>
 bind (bop .int .geq y1 (Value.int .i64 1)) fun y2=>
 bind (ZT y2 true 3 (bind (Ym x0) fun y3=>
 bind (bop .int .leq y3 (Value.int .i64 12)) fun y4=>
 ret [x0,y3,y4])) (c3 fun _ _ q5_2=>
 bind (pick y2 q5_2 (Value.bool false)) fun y6=>
 bind (ZT y6 true 2 (bind (Γ Zbq [x0,(Value.string ⟨#[48,49,50,51,52,53,54,55,56,57,97,98,99,100,101,102]⟩)]) fun y7=>
 ret [x0,y7])) (c2 fun _ q8_1=>
 bind (pick y6 q8_1 (Value.bool false)) fun y9=>
 ret y9))
theorem Zrq (Γ : Ze) (x0 : Value) : Zy Tryz.prog Γ Tryz.f141 ZjM [x0]=Zgh Γ x0:=by kernel_rfl
theorem Zpm {prim : FuncId→Option (List Value→M Value)} (hp : prim Za1=none) (n : Nat) (x0 : Value) : run Tryz.prog prim lvs (n+1) Za1 [x0]=Zgh (run Tryz.prog prim lvs n) x0:=
 (Zl hp (by kernel_rfl) Tryz.func141 (by kernel_rfl)).trans (Zrq _ x0)
noncomputable def QR.l1 (Γ : Ze) (s0 s4 : Value) : M Out:=
 bind (Ym s0) fun y4=>
 bind (bop .int .lss s4 y4) fun y5=>
 bind (ZT y5 true 4 (bind (ixs s0 s4) fun y6=>
 bind (bop .int .neq y6 (Value.int .u8 64)) fun y7=>
 ret [s0,s4,y6,y7])) (c4 fun _ _ _ q8_3=>
 bind (pick y5 q8_3 (Value.bool false)) fun y9=>
 cnd y9
 (bind (bop .int .add s4 (Value.int .i64 1)) fun y10=>
 ret (.nrm [s0,y10]))
 (ret (.ext 0 [s0,s4])))
noncomputable def QR.l2 (Γ : Ze) (s0 s5 s6 s7 : Value) : M Out:=
 bind (Ym s0) fun y21=>
 bind (bop .int .lss s7 y21) fun y22=>
 cnd y22
 (bind (ixs s0 s7) fun y23=>
 bind (bop .int .eql y23 (Value.int .u8 46)) fun y24=>
 jn (cnd y24
 (bind (bop .int .eql s6 (Value.int .i64 0)) fun y25=>
 cnd y25
 (ret (.ret (Value.tuple #[(Value.string ⟨#[]⟩),(Value.bool false)])))
 (bind (bop .int .add s5 (Value.int .i64 1)) fun y26=>
 ret (.nrm [s0,y26,(Value.int .i64 0),s7])))
 (bind (ixs s0 s7) fun y27=>
 bind (Γ Wq [y27,(Value.string ⟨#[97,98,99,100,101,102,103,104,105,106,107,108,109,110,111,112,113,114,115,116,117,118,119,120,121,122,48,49,50,51,52,53,54,55,56,57]⟩)]) fun y28=>
 bind (uop .not y28) fun y29=>
 cnd y29
 (ret (.ret (Value.tuple #[(Value.string ⟨#[]⟩),(Value.bool false)])))
 (bind (bop .int .add s6 (Value.int .i64 1)) fun y30=>
 ret (.nrm [s0,s5,y30,s7])))) (c4 fun q31_0 q31_1 q31_2 q31_3=>
 bind (bop .int .add q31_3 (Value.int .i64 1)) fun y32=>
 ret (.nrm [q31_0,q31_1,q31_2,y32])) noX Ji)
 (ret (.ext 2 [s0,s5,s6]))
noncomputable def QR (Γ : Ze) (x0 : Value) : M Value:=
 bind (Ym x0) fun y1=>
 bind (bop .int .gtr y1 (Value.int .i64 20)) fun y2=>
 cnd y2
 (ret (Value.tuple #[(Value.string ⟨#[]⟩),(Value.bool false)]))
 (bind (Γ Zcf [x0]) fun y3=>
 jn (Zj (c2 (QR.l1 Γ)) [y3,(Value.int .i64 0)]) noN (xk 0 (c2 fun q12_0 q12_1=>
 bind (Ym q12_0) fun y13=>
 bind (bop .int .eql q12_1 y13) fun y14=>
 bind (ZT y14 false 5 (bind (sls q12_0 none (some q12_1)) fun y15=>
 bind (Γ YB [y15]) fun y16=>
 bind (uop .not y16) fun y17=>
 ret [q12_0,q12_1,y15,y16,y17])) (c5 fun _ _ _ _ q18_4=>
 bind (pick y14 (Value.bool true) q18_4) fun y19=>
 cnd y19
 (ret (Value.tuple #[(Value.string ⟨#[]⟩),(Value.bool false)]))
 (bind (bop .int .add q12_1 (Value.int .i64 1)) fun y20=>
 jn (Zj (c4 (QR.l2 Γ)) [q12_0,(Value.int .i64 0),(Value.int .i64 0),y20]) noN (xk 2 (c3 fun q35_0 q35_1 q35_2=>
 bind (bop .int .eql q35_1 (Value.int .i64 0)) fun y36=>
 bind (ZT y36 false 2 (bind (bop .int .eql q35_2 (Value.int .i64 0)) fun y37=>
 ret [q35_2,y37])) (c2 fun _ q38_1=>
 bind (pick y36 (Value.bool true) q38_1) fun y39=>
 cnd y39
 (ret (Value.tuple #[(Value.string ⟨#[]⟩),(Value.bool false)]))
 (ret (Value.tuple #[q35_0,(Value.bool true)])))) noX) ret))) noX) ret)
theorem Zqc (Γ : Ze) (x0 : Value) : Zy Tryz.prog Γ Tryz.f143 Ziw [x0]=QR Γ x0:=by kernel_rfl
theorem Zpk {prim : FuncId→Option (List Value→M Value)} (hp : prim Zac=none) (n : Nat) (x0 : Value) : run Tryz.prog prim lvs (n+1) Zac [x0]=QR (run Tryz.prog prim lvs n) x0:=
 (Zl hp (by kernel_rfl) Tryz.func143 (by kernel_rfl)).trans (Zqc _ x0)
noncomputable def Wd.l1 (Γ : Ze) (s0 s5 s6 s7 : Value) : M Out:=
 bind (bop .int .lss s7 s6) fun y1=>
 cnd y1
 (bind (bop .int .rem s0 (Value.int .u64 256)) fun y2=>
 bind (cvi .u8 y2) fun y3=>
 bind (bsl 1 1 (.int .u8 0) [(0,1,y3)]) fun y4=>
 bind (b2s y4) fun y5=>
 bind (bop .str .add s5 y5) fun y6=>
 bind (bop .int .quo s0 (Value.int .u64 256)) fun y7=>
 bind (bop .int .add s7 (Value.int .i64 1)) fun y8=>
 ret (.nrm [y7,y6,s6,y8]))
 (ret (.ext 0 [s5]))
noncomputable def Wd (Γ : Ze) (x0 x1 : Value) : M Value:=
 jn (Zj (c4 (Wd.l1 Γ)) [x0,(Value.string ⟨#[]⟩),x1,(Value.int .i64 0)]) noN (xk 0 (c1 fun q10_0=>
 ret q10_0) noX) ret
theorem ZrN (Γ : Ze) (x0 x1 : Value) : Zy Tryz.prog Γ Tryz.f159 Zla [x0,x1]=Wd Γ x0 x1:=by kernel_rfl
theorem Zp8 {prim : FuncId→Option (List Value→M Value)} (hp : prim We=none) (n : Nat) (x0 x1 : Value) : run Tryz.prog prim lvs (n+1) We [x0,x1]=Wd (run Tryz.prog prim lvs n) x0 x1:=
 (Zl hp (by kernel_rfl) Tryz.func159 (by kernel_rfl)).trans (ZrN _ x0 x1)
noncomputable def Zgk (Γ : Ze) (x0 : Value) : M Value:=
 bind (Ym x0) fun y1=>
 bind (cvi .u64 y1) fun y2=>
 bind (Γ We [y2,(Value.int .i64 2)]) fun y3=>
 bind (bop .str .add y3 x0) fun y4=>
 ret y4
theorem ZqH (Γ : Ze) (x0 : Value) : Zy Tryz.prog Γ Tryz.f160 ZjT [x0]=Zgk Γ x0:=by kernel_rfl
theorem Zo9 {prim : FuncId→Option (List Value→M Value)} (hp : prim Kj=none) (n : Nat) (x0 : Value) : run Tryz.prog prim lvs (n+1) Kj [x0]=Zgk (run Tryz.prog prim lvs n) x0:=
 (Zl hp (by kernel_rfl) Tryz.func160 (by kernel_rfl)).trans (ZqH _ x0)
noncomputable def Zgc (Γ : Ze) (x0 x1 : Value) : M Value:=
 bind (alc 1 x1) fun y1=>
 bind (fa 0 y1) fun y2=>
 bind (ld1 y2) fun y3=>
 bind (fa 1 y1) fun y4=>
 bind (ld1 y4) fun y5=>
 bind (Γ Kj [y3]) fun y6=>
 bind (ld1 y4) fun u_7=>same u_7 y5 <|
 bind (Γ Kj [y5]) fun y8=>
 bind (bop .str .add y6 y8) fun y9=>
 bind (bop .int .eql x0 (Value.int .i64 2)) fun y10=>
 jn (cnd y10
 (bind (fa 2 y1) fun y11=>
 bind (ld1 y11) fun y12=>
 bind (fa 3 y1) fun y13=>
 bind (ld1 y13) fun y14=>
 bind (fa 4 y1) fun y15=>
 bind (ld1 y15) fun y16=>
 bind (Γ Kj [y12]) fun y17=>
 bind (ld1 y15) fun u_18=>same u_18 y16 <|
 bind (ld1 y13) fun u_19=>same u_19 y14 <|
 bind (bop .str .add y9 y17) fun y20=>
 bind (Γ ZbN [y14]) fun y21=>
 bind (ld1 y15) fun u_22=>same u_22 y16 <|
 bind (bop .str .add y20 y21) fun y23=>
 bind (Γ ZbQ [y16]) fun y24=>
 bind (bop .str .add y23 y24) fun y25=>
 ret (.nrm [y25]))
 (ret (.nrm [y9]))) (c1 fun q26_0=>
 ret q26_0) noX ret
theorem Zqb (Γ : Ze) (x0 x1 : Value) : Zy Tryz.prog Γ Tryz.f161 ZiI [x0,x1]=Zgc Γ x0 x1:=by kernel_rfl
theorem Zo8 {prim : FuncId→Option (List Value→M Value)} (hp : prim ZdY=none) (n : Nat) (x0 x1 : Value) : run Tryz.prog prim lvs (n+1) ZdY [x0,x1]=Zgc (run Tryz.prog prim lvs n) x0 x1:=
 (Zl hp (by kernel_rfl) Tryz.func161 (by kernel_rfl)).trans (Zqb _ x0 x1)
noncomputable def JC.l1 (Γ : Ze) (s1 s2 s4 s7 s24 s25 : Value) : M Out:=
 bind (bop .int .lss s25 s24) fun y16=>
 cnd y16
 (bind (ldA 2 s2) fun y17=>
 bind (Γ Wi [y17,s1]) fun y18=>
 bind (Zz y18 0) fun y19=>
 bind (Zz y18 1) fun y20=>
 bind (alc 1 (.agg #[.string ⟨#[]⟩,.int .i64 0])) fun y21=>
 bind (alc 1 (.agg #[.string ⟨#[]⟩,.string ⟨#[]⟩,.string ⟨#[]⟩,.bool false,.slice none 0 0])) fun y22=>
 bind (stA 2 y21 y19) fun _=>
 bind (stA 5 y22 y20) fun _=>
 bind (ldA 2 y21) fun y23=>
 bind (stA 2 s2 y23) fun _=>
 bind (ldA 5 y22) fun y24=>
 bind (bsl 5 1 (.agg #[.string ⟨#[]⟩,.string ⟨#[]⟩,.string ⟨#[]⟩,.bool false,.slice none 0 0]) [(0,5,y24)]) fun y25=>
 bind (app 5 80 s7 y25) fun y26=>
 bind (bop .int .add s25 (Value.int .u64 1)) fun y27=>
 ret (.nrm [s1,s2,s4,y26,s24,y27]))
 (ret (.ext 0 [s1,s2,s4,s7]))
noncomputable def JC (Γ : Ze) (x0 x1 : Value) : M Value:=
 bind (alc 1 x0) fun y1=>
 bind (alc 1 (.agg #[.string ⟨#[]⟩,.int .i64 0])) fun y2=>
 bind (ldA 2 y1) fun y3=>
 bind (Γ Q7 [y3,(Value.int .i64 2)]) fun y4=>
 bind (Zz y4 0) fun y5=>
 bind (Zz y4 1) fun y6=>
 bind (stA 2 y1 y5) fun _=>
 bind (fa 1 y1) fun y7=>
 bind (ld1 y7) fun y8=>
 bind (bop .int .eql y8 (Value.int .i64 0)) fun y9=>
 bind (ZT y9 true 2 (bind (bop .int .gtr y6 (Value.int .u64 12)) fun y10=>
 ret [y6,y10])) (c2 fun _ q11_1=>
 bind (pick y9 q11_1 (Value.bool false)) fun y12=>
 cnd y12
 (bind (ldA 2 y1) fun y13=>
 bind (Γ Jp [y13,(Value.int .i64 7)]) fun y14=>
 bind (stA 2 y2 y14) fun _=>
 bind (ldA 2 y2) fun y15=>
 ret (Value.tuple #[y15,(Value.slice none 0 0)]))
 (jn (Zj (c6 (JC.l1 Γ)) [x1,y1,y2,(Value.slice none 0 0),y6,(Value.int .u64 0)]) noN (xk 0 (c4 fun q29_0 q29_1 q29_2 q29_3=>
 bind (fa 1 q29_1) fun y30=>
 bind (ld1 y30) fun y31=>
 bind (bop .int .eql y31 (Value.int .i64 0)) fun y32=>
 jn (cnd y32
 (bind (ldA 2 q29_1) fun y33=>
 bind (Γ W6 [q29_3,q29_0]) fun y34=>
 bind (ldA 2 q29_1) fun u_35=>same u_35 y33 <|
 bind (Γ Jp [y33,y34]) fun y36=>
 bind (stA 2 q29_1 y36) fun _=>
 ret (.nrm [q29_1,q29_2,q29_3]))
 (ret (.nrm [q29_1,q29_2,q29_3]))) (c3 fun q37_0 q37_1 q37_2=>
 bind (fa 1 q37_0) fun y38=>
 bind (ld1 y38) fun y39=>
 bind (bop .int .neq y39 (Value.int .i64 0)) fun y40=>
 cnd y40
 (bind (ldA 2 q37_0) fun y41=>
 bind (stA 2 q37_1 y41) fun _=>
 bind (ldA 2 q37_1) fun y42=>
 ret (Value.tuple #[y42,(Value.slice none 0 0)]))
 (bind (ldA 2 q37_0) fun y43=>
 bind (stA 2 q37_1 y43) fun _=>
 bind (ldA 2 q37_1) fun y44=>
 ret (Value.tuple #[y44,q37_2]))) noX ret) noX) ret))
theorem ZlF (Γ : Ze) (x0 x1 : Value) : Zy Tryz.prog Γ Tryz.f162 ZfG [x0,x1]=JC Γ x0 x1:=by kernel_rfl
theorem Zkg {prim : FuncId→Option (List Value→M Value)} (hp : prim Km=none) (n : Nat) (x0 x1 : Value) : run Tryz.prog prim lvs (n+1) Km [x0,x1]=JC (run Tryz.prog prim lvs n) x0 x1:=
 (Zl hp (by kernel_rfl) Tryz.func162 (by kernel_rfl)).trans (ZlF _ x0 x1)
noncomputable def ZcJ (Γ : Ze) (x0 x1 x2 : Value) : M Value:=
 bind (ld1 x1) fun y1=>
 bind (Jc y1) fun y2=>
 bind (fa 0 y2) fun y3=>
 bind (ld1 y3) fun y4=>
 bind (lkp .str (.map none) false y4 x0) fun y5=>
 bind (ld1 x2) fun y6=>
 bind (lkp .str (.agg #[]) true y5 y6) fun y7=>
 bind (Zz y7 0) fun y8=>
 bind (Zz y7 1) fun y9=>
 bind (alc 1 (.agg #[])) fun y10=>
 bind (lkp .str (.agg #[]) true y5 y6) fun u_11=>same u_11 y7 <|
 bind (ld1 x2) fun u_12=>same u_12 y6 <|
 bind (lkp .str (.map none) false y4 x0) fun u_13=>same u_13 y5 <|
 bind (ld1 y3) fun u_14=>same u_14 y4 <|
 bind (ld1 x1) fun u_15=>same u_15 y1 <|
 bind (stA 0 y10 y8) fun _=>
 bind (uop .not y9) fun y16=>
 ret y16
theorem Zkd (Γ : Ze) (x0 x1 x2 : Value) : Zy Tryz.prog Γ Tryz.f166 ZeI [x0,x1,x2]=ZcJ Γ x0 x1 x2:=by kernel_rfl
theorem Ziy {prim : FuncId→Option (List Value→M Value)} (hp : prim Kb=none) (n : Nat) (x0 x1 x2 : Value) : run Tryz.prog prim lvs (n+1) Kb [x0,x1,x2]=ZcJ (run Tryz.prog prim lvs n) x0 x1 x2:=
 (Zl hp (by kernel_rfl) Tryz.func166 (by kernel_rfl)).trans (Zkd _ x0 x1 x2)
noncomputable def Wp.l1 (Γ : Ze) (s0 s1 s7 s8 : Value) : M Out:=
 bind (bop .int .lss s8 s7) fun y2=>
 cnd y2
 (bind (ixs s0 s8) fun y3=>
 bind (Kh Γ s1 [y3]) fun y4=>
 bind (uop .not y4) fun y5=>
 cnd y5
 (ret (.ret (Value.bool false)))
 (bind (bop .int .add s8 (Value.int .i64 1)) fun y6=>
 ret (.nrm [s0,s1,s7,y6])))
 (ret (.ext 0 []))
noncomputable def Wp (Γ : Ze) (x0 x1 : Value) : M Value:=
 bind (Ym x0) fun y1=>
 jn (Zj (c4 (Wp.l1 Γ)) [x0,x1,y1,(Value.int .i64 0)]) noN (xk 0 (c0 (ret (Value.bool true))) noX) ret
theorem Ztm (Γ : Ze) (x0 x1 : Value) : Zy Tryz.prog Γ Tryz.f167 ZmI [x0,x1]=Wp Γ x0 x1:=by kernel_rfl
theorem Zsk {prim : FuncId→Option (List Value→M Value)} (hp : prim KB=none) (n : Nat) (x0 x1 : Value) : run Tryz.prog prim lvs (n+1) KB [x0,x1]=Wp (run Tryz.prog prim lvs n) x0 x1:=
 (Zl hp (by kernel_rfl) Tryz.func167 (by kernel_rfl)).trans (Ztm _ x0 x1)
noncomputable def ZgR (Γ : Ze) (x0 : Value) : M Value:=
 bind (Γ YA [x0]) fun y1=>
 bind (ZT y1 false 2 (bind (Γ YV [x0]) fun y2=>
 ret [x0,y2])) (c2 fun _ q3_1=>
 bind (pick y1 (Value.bool true) q3_1) fun y4=>
 bind (ZT y4 false 2 (bind (bop .int .eql x0 (Value.int .u8 45)) fun y5=>
 ret [x0,y5])) (c2 fun _ q6_1=>
 bind (pick y4 (Value.bool true) q6_1) fun y7=>
 bind (ZT y7 false 2 (bind (bop .int .eql x0 (Value.int .u8 46)) fun y8=>
 ret [x0,y8])) (c2 fun _ q9_1=>
 bind (pick y7 (Value.bool true) q9_1) fun y10=>
 ret y10)))
theorem Zsa (Γ : Ze) (x0 : Value) : Zy Tryz.prog Γ Tryz.f168 Zk8 [x0]=ZgR Γ x0:=by kernel_rfl
theorem ZqR {prim : FuncId→Option (List Value→M Value)} (hp : prim Zdx=none) (n : Nat) (x0 : Value) : run Tryz.prog prim lvs (n+1) Zdx [x0]=ZgR (run Tryz.prog prim lvs n) x0:=
 (Zl hp (by kernel_rfl) Tryz.func168 (by kernel_rfl)).trans (Zsa _ x0)
noncomputable def ZG.l1 (Γ : Ze) (s0 s1 s7 s8 : Value) : M Out:=
 bind (bop .int .lss s8 s7) fun y2=>
 cnd y2
 (bind (ixa 1 s0 s8) fun y3=>
 bind (ld1 y3) fun y4=>
 bind (Kh Γ s1 [y4]) fun y5=>
 cnd y5
 (ret (.ret s8))
 (bind (bop .int .add s8 (Value.int .i64 1)) fun y6=>
 ret (.nrm [s0,s1,s7,y6])))
 (ret (.ext 0 []))
noncomputable def ZG (Γ : Ze) (x0 x1 : Value) : M Value:=
 bind (ZH x0) fun y1=>
 jn (Zj (c4 (ZG.l1 Γ)) [x0,x1,y1,(Value.int .i64 0)]) noN (xk 0 (c0 (ret (Value.int .i64 (-1)))) noX) ret
theorem Zc6 (Γ : Ze) (x0 x1 : Value) : Zy Tryz.prog Γ Tryz.f169 W4 [x0,x1]=ZG Γ x0 x1:=by kernel_rfl
theorem Zc0 {prim : FuncId→Option (List Value→M Value)} (hp : prim JJ=none) (n : Nat) (x0 x1 : Value) : run Tryz.prog prim lvs (n+1) JJ [x0,x1]=ZG (run Tryz.prog prim lvs n) x0 x1:=
 (Zl hp (by kernel_rfl) Tryz.func169 (by kernel_rfl)).trans (Zc6 _ x0 x1)
noncomputable def Yq (Γ : Ze) (x0 : Value) : M Value:=
 bind (alc 1 x0) fun y1=>
 ret (Value.func (.func 202) #[] #[y1])
theorem Zbe (Γ : Ze) (x0 : Value) : Zy Tryz.prog Γ Tryz.f171 KF [x0]=Yq Γ x0:=by kernel_rfl
theorem ZaS {prim : FuncId→Option (List Value→M Value)} (hp : prim Jt=none) (n : Nat) (x0 : Value) : run Tryz.prog prim lvs (n+1) Jt [x0]=Yq (run Tryz.prog prim lvs n) x0:=
 (Zl hp (by kernel_rfl) Tryz.func171 (by kernel_rfl)).trans (Zbe _ x0)
noncomputable def ZeE (Γ : Ze) (x0 x1 : Value) : M Value:=
 bind (Γ WV [x0,x1]) fun y1=>
 ret y1
theorem ZnR (Γ : Ze) (x0 x1 : Value) : Zy Tryz.prog Γ Tryz.f172 ZgA [x0,x1]=ZeE Γ x0 x1:=by kernel_rfl
theorem ZmF {prim : FuncId→Option (List Value→M Value)} (hp : prim Qx=none) (n : Nat) (x0 x1 : Value) : run Tryz.prog prim lvs (n+1) Qx [x0,x1]=ZeE (run Tryz.prog prim lvs n) x0 x1:=
 (Zl hp (by kernel_rfl) Tryz.func172 (by kernel_rfl)).trans (ZnR _ x0 x1)
noncomputable def Jb (Γ : Ze) (x0 : Value) : M Value:=
 bind (alc 1 x0) fun y1=>
 ret (Value.func (.func 204) #[] #[y1])
theorem Wh (Γ : Ze) (x0 : Value) : Zy Tryz.prog Γ Tryz.f174 Yl [x0]=Jb Γ x0:=by kernel_rfl
theorem Wa {prim : FuncId→Option (List Value→M Value)} (hp : prim QA=none) (n : Nat) (x0 : Value) : run Tryz.prog prim lvs (n+1) QA [x0]=Jb (run Tryz.prog prim lvs n) x0:=
 (Zl hp (by kernel_rfl) Tryz.func174 (by kernel_rfl)).trans (Wh _ x0)
noncomputable def JF.l1 (Γ : Ze) (s5 s6 s7 : Value) : M Out:=
 bind (bop .int .lss s7 s6) fun y2=>
 cnd y2
 (bind (ixa 1 s5 s7) fun y3=>
 bind (ld1 y3) fun y4=>
 bind (bop .int .neq y4 (Value.int .i64 0)) fun y5=>
 cnd y5
 (ret (.ret y4))
 (bind (bop .int .add s7 (Value.int .i64 1)) fun y6=>
 ret (.nrm [s5,s6,y6])))
 (ret (.ext 0 []))
noncomputable def JF (Γ : Ze) (x0 : Value) : M Value:=
 bind (ZH x0) fun y1=>
 jn (Zj (c3 (JF.l1 Γ)) [x0,y1,(Value.int .i64 0)]) noN (xk 0 (c0 (ret (Value.int .i64 0))) noX) ret
theorem Zq6 (Γ : Ze) (x0 : Value) : Zy Tryz.prog Γ Tryz.f175 ZiS [x0]=JF Γ x0:=by kernel_rfl
theorem ZpG {prim : FuncId→Option (List Value→M Value)} (hp : prim Wr=none) (n : Nat) (x0 : Value) : run Tryz.prog prim lvs (n+1) Wr [x0]=JF (run Tryz.prog prim lvs n) x0:=
 (Zl hp (by kernel_rfl) Tryz.func175 (by kernel_rfl)).trans (Zq6 _ x0)
noncomputable def Zc9 (Γ : Ze) (x0 : Value) : M Value:=
 bind (bop .str .eql x0 (Value.string ⟨#[]⟩)) fun y1=>
 cnd y1
 (ret (Value.int .i64 0))
 (bind (Γ ZbO [x0]) fun y2=>
 bind (Zz y2 0) fun y3=>
 bind (Zz y2 1) fun y4=>
 bind (bop .int .neq y4 (Value.int .i64 0)) fun y5=>
 bind (ZT y5 false 3 (bind (bop .str .neq y3 x0) fun y6=>
 ret [y3,x0,y6])) (c3 fun _ _ q7_2=>
 bind (pick y5 (Value.bool true) q7_2) fun y8=>
 cnd y8
 (ret (Value.int .i64 11))
 (ret (Value.int .i64 0))))
theorem Zr3 (Γ : Ze) (x0 : Value) : Zy Tryz.prog Γ Tryz.f176 ZkN [x0]=Zc9 Γ x0:=by kernel_rfl
theorem Zqh {prim : FuncId→Option (List Value→M Value)} (hp : prim Zdm=none) (n : Nat) (x0 : Value) : run Tryz.prog prim lvs (n+1) Zdm [x0]=Zc9 (run Tryz.prog prim lvs n) x0:=
 (Zl hp (by kernel_rfl) Tryz.func176 (by kernel_rfl)).trans (Zr3 _ x0)
noncomputable def Jh.l1 (Γ : Ze) (s0 s10 s11 s12 : Value) : M Out:=
 bind (bop .int .lss s12 s11) fun y4=>
 cnd y4
 (bind (ixa 1 s10 s12) fun y5=>
 bind (ld1 y5) fun y6=>
 bind (Γ JM [y6]) fun y7=>
 bind (bop .int .neq y7 (Value.int .i64 0)) fun y8=>
 cnd y8
 (ret (.ret y7))
 (bind (bop .int .add s12 (Value.int .i64 1)) fun y9=>
 ret (.nrm [s0,s10,s11,y9])))
 (ret (.ext 0 [s0]))
noncomputable def Jh.l2 (Γ : Ze) (s0 s6 : Value) : M Out:=
 bind (ZH s0) fun y12=>
 bind (bop .int .lss s6 y12) fun y13=>
 cnd y13
 (bind (bop .int .sub s6 (Value.int .i64 1)) fun y14=>
 bind (ixa 1 s0 y14) fun y15=>
 bind (ld1 y15) fun y16=>
 bind (ixa 1 s0 s6) fun y17=>
 bind (ld1 y17) fun y18=>
 bind (bop .str .geq y16 y18) fun y19=>
 cnd y19
 (ret (.ret (Value.int .i64 9)))
 (bind (bop .int .add s6 (Value.int .i64 1)) fun y20=>
 ret (.nrm [s0,y20])))
 (ret (.ext 2 []))
noncomputable def Jh (Γ : Ze) (x0 : Value) : M Value:=
 bind (ZH x0) fun y1=>
 bind (bop .int .gtr y1 (Value.int .i64 6)) fun y2=>
 cnd y2
 (ret (Value.int .i64 7))
 (bind (ZH x0) fun y3=>
 jn (Zj (c4 (Jh.l1 Γ)) [x0,x0,y3,(Value.int .i64 0)]) noN (xk 0 (c1 fun q11_0=>
 jn (Zj (c2 (Jh.l2 Γ)) [q11_0,(Value.int .i64 1)]) noN (xk 2 (c0 (ret (Value.int .i64 0))) noX) ret) noX) ret)
theorem ZpD (Γ : Ze) (x0 : Value) : Zy Tryz.prog Γ Tryz.f177 ZhV [x0]=Jh Γ x0:=by kernel_rfl
theorem Zn3 {prim : FuncId→Option (List Value→M Value)} (hp : prim ZbM=none) (n : Nat) (x0 : Value) : run Tryz.prog prim lvs (n+1) ZbM [x0]=Jh (run Tryz.prog prim lvs n) x0:=
 (Zl hp (by kernel_rfl) Tryz.func177 (by kernel_rfl)).trans (ZpD _ x0)
noncomputable def ZbL (Γ : Ze) (x0 : Value) : M Value:=
 bind (bop .str .eql x0 (Value.string ⟨#[]⟩)) fun y1=>
 bind (ZT y1 false 3 (bind (Ym x0) fun y2=>
 bind (bop .int .gtr y2 (Value.int .i64 12)) fun y3=>
 ret [x0,y2,y3])) (c3 fun _ _ q4_2=>
 bind (pick y1 (Value.bool true) q4_2) fun y5=>
 bind (ZT y5 false 4 (bind (ixs x0 (Value.int .i64 0)) fun y6=>
 bind (Γ YA [y6]) fun y7=>
 bind (uop .not y7) fun y8=>
 ret [x0,y6,y7,y8])) (c4 fun _ _ _ q9_3=>
 bind (pick y5 (Value.bool true) q9_3) fun y10=>
 bind (ZT y10 false 3 (bind (Γ KB [x0,(Value.func (.func 168) #[] #[])]) fun y11=>
 bind (uop .not y11) fun y12=>
 ret [x0,y11,y12])) (c3 fun _ _ q13_2=>
 bind (pick y10 (Value.bool true) q13_2) fun y14=>
 cnd y14
 (ret (Value.bool false))
 (bind (Ym x0) fun y15=>
 bind (bop .int .sub y15 (Value.int .i64 1)) fun y16=>
 bind (ixs x0 y16) fun y17=>
 bind (Γ YA [y17]) fun y18=>
 bind (ZT y18 false 2 (bind (Γ YV [y17]) fun y19=>
 ret [y17,y19])) (c2 fun _ q20_1=>
 bind (pick y18 (Value.bool true) q20_1) fun y21=>
 ret y21)))))
theorem Zpa (Γ : Ze) (x0 : Value) : Zy Tryz.prog Γ Tryz.f178 Zh5 [x0]=ZbL Γ x0:=by kernel_rfl
theorem ZnZ {prim : FuncId→Option (List Value→M Value)} (hp : prim WC=none) (n : Nat) (x0 : Value) : run Tryz.prog prim lvs (n+1) WC [x0]=ZbL (run Tryz.prog prim lvs n) x0:=
 (Zl hp (by kernel_rfl) Tryz.func178 (by kernel_rfl)).trans (Zpa _ x0)
noncomputable def Ku.l1 (Γ : Ze) (s6 s7 s8 : Value) : M Out:=
 bind (bop .int .lss s8 s7) fun y2=>
 cnd y2
 (bind (ixa 1 s6 s8) fun y3=>
 bind (ld1 y3) fun y4=>
 bind (Γ JM [y4]) fun y5=>
 bind (bop .int .neq y5 (Value.int .i64 0)) fun y6=>
 cnd y6
 (ret (.ret y5))
 (bind (bop .int .add s8 (Value.int .i64 1)) fun y7=>
 ret (.nrm [s6,s7,y7])))
 (ret (.ext 0 []))
noncomputable def Ku (Γ : Ze) (x0 : Value) : M Value:=
 bind (ZH x0) fun y1=>
 jn (Zj (c3 (Ku.l1 Γ)) [x0,y1,(Value.int .i64 0)]) noN (xk 0 (c0 (ret (Value.int .i64 0))) noX) ret
theorem Zpv (Γ : Ze) (x0 : Value) : Zy Tryz.prog Γ Tryz.f179 ZhP [x0]=Ku Γ x0:=by kernel_rfl
theorem Zn8 {prim : FuncId→Option (List Value→M Value)} (hp : prim Zbr=none) (n : Nat) (x0 : Value) : run Tryz.prog prim lvs (n+1) Zbr [x0]=Ku (run Tryz.prog prim lvs n) x0:=
 (Zl hp (by kernel_rfl) Tryz.func179 (by kernel_rfl)).trans (Zpv _ x0)
noncomputable def KN.l1 (Γ : Ze) (s3 s8 s9 s10 : Value) : M Out:=
 bind (bop .int .lss s10 s9) fun y3=>
 cnd y3
 (bind (ixa 1 s8 s10) fun y4=>
 bind (ld1 y4) fun y5=>
 bind (bop .int .geq y5 (Value.int .u8 65)) fun y6=>
 bind (ZT y6 true 2 (bind (bop .int .leq y5 (Value.int .u8 90)) fun y7=>
 ret [y5,y7])) (c2 fun _ q8_1=>
 bind (pick y6 q8_1 (Value.bool false)) fun y9=>
 jn (cnd y9
 (bind (bop .int .add y5 (Value.int .u8 97)) fun y10=>
 bind (bop .int .sub y10 (Value.int .u8 65)) fun y11=>
 bind (ixa 1 s3 s10) fun y12=>
 bind (st1 y12 y11) fun _=>
 ret (.nrm [s3,s8,s9,s10]))
 (ret (.nrm [s3,s8,s9,s10]))) (c4 fun q13_0 q13_1 q13_2 q13_3=>
 bind (bop .int .add q13_3 (Value.int .i64 1)) fun y14=>
 ret (.nrm [q13_0,q13_1,q13_2,y14])) noX Ji))
 (ret (.ext 0 [s3]))
noncomputable def KN (Γ : Ze) (x0 : Value) : M Value:=
 bind (s2b x0) fun y1=>
 bind (ZH y1) fun y2=>
 jn (Zj (c4 (KN.l1 Γ)) [y1,y1,y2,(Value.int .i64 0)]) noN (xk 0 (c1 fun q17_0=>
 bind (b2s q17_0) fun y18=>
 ret y18) noX) ret
theorem ZrS (Γ : Ze) (x0 : Value) : Zy Tryz.prog Γ Tryz.f180 Zld [x0]=KN Γ x0:=by kernel_rfl
theorem ZrE {prim : FuncId→Option (List Value→M Value)} (hp : prim Zdn=none) (n : Nat) (x0 : Value) : run Tryz.prog prim lvs (n+1) Zdn [x0]=KN (run Tryz.prog prim lvs n) x0:=
 (Zl hp (by kernel_rfl) Tryz.func180 (by kernel_rfl)).trans (ZrS _ x0)
noncomputable def Zfh (Γ : Ze) (x0 x1 : Value) : M Value:=
 bind (Γ Kr [x0,x1]) fun y1=>
 bind (Zz y1 0) fun y2=>
 bind (Zz y1 1) fun y3=>
 bind (Zz y1 2) fun y4=>
 ret (Value.tuple #[y2,y3,y4])
theorem ZpB (Γ : Ze) (x0 x1 : Value) : Zy Tryz.prog Γ Tryz.f181 Zh4 [x0,x1]=Zfh Γ x0 x1:=by kernel_rfl
theorem Zns {prim : FuncId→Option (List Value→M Value)} (hp : prim WG=none) (n : Nat) (x0 x1 : Value) : run Tryz.prog prim lvs (n+1) WG [x0,x1]=Zfh (run Tryz.prog prim lvs n) x0 x1:=
 (Zl hp (by kernel_rfl) Tryz.func181 (by kernel_rfl)).trans (ZpB _ x0 x1)
noncomputable def ZdL (Γ : Ze) (x0 x1 : Value) : M Value:=
 bind (Γ Zan [x0,x1,(Value.int .i64 0),(Value.int .i64 (-1))]) fun y1=>
 ret y1
theorem Zmr (Γ : Ze) (x0 x1 : Value) : Zy Tryz.prog Γ Tryz.f182 ZfP [x0,x1]=ZdL Γ x0 x1:=by kernel_rfl
theorem Zlm {prim : FuncId→Option (List Value→M Value)} (hp : prim Zas=none) (n : Nat) (x0 x1 : Value) : run Tryz.prog prim lvs (n+1) Zas [x0,x1]=ZdL (run Tryz.prog prim lvs n) x0 x1:=
 (Zl hp (by kernel_rfl) Tryz.func182 (by kernel_rfl)).trans (Zmr _ x0 x1)
noncomputable def Zgi (Γ : Ze) (x0 : Value) : M Value:=
 bind (Γ YA [x0]) fun y1=>
 bind (ZT y1 false 2 (bind (Γ YV [x0]) fun y2=>
 ret [x0,y2])) (c2 fun _ q3_1=>
 bind (pick y1 (Value.bool true) q3_1) fun y4=>
 ret y4)
theorem Zq9 (Γ : Ze) (x0 : Value) : Zy Tryz.prog Γ Tryz.f183 Zi5 [x0]=Zgi Γ x0:=by kernel_rfl
theorem ZpJ {prim : FuncId→Option (List Value→M Value)} (hp : prim Zco=none) (n : Nat) (x0 : Value) : run Tryz.prog prim lvs (n+1) Zco [x0]=Zgi (run Tryz.prog prim lvs n) x0:=
 (Zl hp (by kernel_rfl) Tryz.func183 (by kernel_rfl)).trans (Zq9 _ x0)
noncomputable def ZbI (Γ : Ze) (x0 : Value) : M Value:=
 bind (bop .int .geq x0 (Value.int .u8 97)) fun y1=>
 bind (ZT y1 true 2 (bind (bop .int .leq x0 (Value.int .u8 122)) fun y2=>
 ret [x0,y2])) (c2 fun _ q3_1=>
 bind (pick y1 q3_1 (Value.bool false)) fun y4=>
 ret y4)
theorem Zpx (Γ : Ze) (x0 : Value) : Zy Tryz.prog Γ Tryz.f184 ZhO [x0]=ZbI Γ x0:=by kernel_rfl
theorem Zoa {prim : FuncId→Option (List Value→M Value)} (hp : prim YA=none) (n : Nat) (x0 : Value) : run Tryz.prog prim lvs (n+1) YA [x0]=ZbI (run Tryz.prog prim lvs n) x0:=
 (Zl hp (by kernel_rfl) Tryz.func184 (by kernel_rfl)).trans (Zpx _ x0)
noncomputable def Zcj (Γ : Ze) (x0 : Value) : M Value:=
 bind (bop .int .geq x0 (Value.int .u8 48)) fun y1=>
 bind (ZT y1 true 2 (bind (bop .int .leq x0 (Value.int .u8 57)) fun y2=>
 ret [x0,y2])) (c2 fun _ q3_1=>
 bind (pick y1 q3_1 (Value.bool false)) fun y4=>
 ret y4)
theorem ZqC (Γ : Ze) (x0 : Value) : Zy Tryz.prog Γ Tryz.f185 ZjW [x0]=Zcj Γ x0:=by kernel_rfl
theorem Zpf {prim : FuncId→Option (List Value→M Value)} (hp : prim YV=none) (n : Nat) (x0 : Value) : run Tryz.prog prim lvs (n+1) YV [x0]=Zcj (run Tryz.prog prim lvs n) x0:=
 (Zl hp (by kernel_rfl) Tryz.func185 (by kernel_rfl)).trans (ZqC _ x0)
noncomputable def Zax (Γ : Ze) (x0 : Value) : M Value:=
 bind (Γ Q2 [x0]) fun y1=>
 bind (Γ QF [y1,(Value.func (.func 172) #[] #[])]) fun y2=>
 ret y2
theorem Zgj (Γ : Ze) (x0 : Value) : Zy Tryz.prog Γ Tryz.f186 Zch [x0]=Zax Γ x0:=by kernel_rfl
theorem ZfO {prim : FuncId→Option (List Value→M Value)} (hp : prim K3=none) (n : Nat) (x0 : Value) : run Tryz.prog prim lvs (n+1) K3 [x0]=Zax (run Tryz.prog prim lvs n) x0:=
 (Zl hp (by kernel_rfl) Tryz.func186 (by kernel_rfl)).trans (Zgj _ x0)
noncomputable def K9 (Γ : Ze) (x0 x1 : Value) : M Value:=
 bind (Jc x0) fun y1=>
 bind (fa 0 y1) fun y2=>
 bind (ld1 y2) fun y3=>
 bind (ZH y3) fun y4=>
 bind (bop .int .gtr x1 y4) fun y5=>
 cnd y5
 (bind (Γ ZR [x0,(Value.int .i64 2)]) fun y6=>
 ret (Value.slice none 0 0))
 (bind (Jc x0) fun y7=>
 bind (fa 0 y7) fun y8=>
 bind (ld1 y8) fun y9=>
 bind (slv 1 y9 none (some x1) none) fun y10=>
 bind (Jc x0) fun y11=>
 bind (fa 0 y11) fun y12=>
 bind (ld1 y12) fun y13=>
 bind (slv 1 y13 (some x1) none none) fun y14=>
 bind (Jc x0) fun y15=>
 bind (fa 0 y15) fun y16=>
 bind (st1 y16 y14) fun _=>
 ret y10)
theorem ZjF (Γ : Ze) (x0 x1 : Value) : Zy Tryz.prog Γ Tryz.f187 Zd7 [x0,x1]=K9 Γ x0 x1:=by kernel_rfl
theorem Zin {prim : FuncId→Option (List Value→M Value)} (hp : prim YJ=none) (n : Nat) (x0 x1 : Value) : run Tryz.prog prim lvs (n+1) YJ [x0,x1]=K9 (run Tryz.prog prim lvs n) x0 x1:=
 (Zl hp (by kernel_rfl) Tryz.func187 (by kernel_rfl)).trans (ZjF _ x0 x1)
noncomputable def Wo.l1 (Γ : Ze) (s0 s1 s5 : Value) : M Out:=
 bind (Ym s0) fun y1=>
 bind (bop .int .lss s5 y1) fun y2=>
 cnd y2
 (bind (ixs s0 s5) fun y3=>
 bind (Γ Wq [y3,s1]) fun y4=>
 bind (uop .not y4) fun y5=>
 cnd y5
 (ret (.ret (Value.bool false)))
 (bind (bop .int .add s5 (Value.int .i64 1)) fun y6=>
 ret (.nrm [s0,s1,y6])))
 (ret (.ext 0 []))
noncomputable def Wo (Γ : Ze) (x0 x1 : Value) : M Value:=
 jn (Zj (c3 (Wo.l1 Γ)) [x0,x1,(Value.int .i64 0)]) noN (xk 0 (c0 (ret (Value.bool true))) noX) ret
theorem Zty (Γ : Ze) (x0 x1 : Value) : Zy Tryz.prog Γ Tryz.f188 Zl4 [x0,x1]=Wo Γ x0 x1:=by kernel_rfl
theorem Zso {prim : FuncId→Option (List Value→M Value)} (hp : prim Zbq=none) (n : Nat) (x0 x1 : Value) : run Tryz.prog prim lvs (n+1) Zbq [x0,x1]=Wo (run Tryz.prog prim lvs n) x0 x1:=
 (Zl hp (by kernel_rfl) Tryz.func188 (by kernel_rfl)).trans (Zty _ x0 x1)
noncomputable def Wm.l1 (Γ : Ze) (s0 s1 s5 : Value) : M Out:=
 bind (Ym s1) fun y1=>
 bind (bop .int .lss s5 y1) fun y2=>
 cnd y2
 (bind (ixs s1 s5) fun y3=>
 bind (bop .int .eql y3 s0) fun y4=>
 cnd y4
 (ret (.ret (Value.bool true)))
 (bind (bop .int .add s5 (Value.int .i64 1)) fun y5=>
 ret (.nrm [s0,s1,y5])))
 (ret (.ext 0 []))
noncomputable def Wm (Γ : Ze) (x0 x1 : Value) : M Value:=
 jn (Zj (c3 (Wm.l1 Γ)) [x0,x1,(Value.int .i64 0)]) noN (xk 0 (c0 (ret (Value.bool false))) noX) ret
theorem Ztf (Γ : Ze) (x0 x1 : Value) : Zy Tryz.prog Γ Tryz.f189 Zno [x0,x1]=Wm Γ x0 x1:=by kernel_rfl
theorem Zr0 {prim : FuncId→Option (List Value→M Value)} (hp : prim Wq=none) (n : Nat) (x0 x1 : Value) : run Tryz.prog prim lvs (n+1) Wq [x0,x1]=Wm (run Tryz.prog prim lvs n) x0 x1:=
 (Zl hp (by kernel_rfl) Tryz.func189 (by kernel_rfl)).trans (Ztf _ x0 x1)
noncomputable def Za7 (Γ : Ze) (x0 : Value) : M Value:=
 bind (Γ YV [x0]) fun y1=>
 bind (ZT y1 false 3 (bind (bop .int .geq x0 (Value.int .u8 97)) fun y2=>
 ret [x0,y2,y2])) (c3 fun _ _ q3_2=>
 bind (ZT q3_2 true 2 (bind (bop .int .leq x0 (Value.int .u8 102)) fun y4=>
 ret [x0,y4])) (c2 fun _ q5_1=>
 bind (ZT y1 false 1 (bind (pick q3_2 q5_1 (Value.bool false)) fun y6=>
 ret [y6])) (c1 fun q7_0=>
 bind (pick y1 (Value.bool true) q7_0) fun y8=>
 ret y8)))
theorem ZrI (Γ : Ze) (x0 : Value) : Zy Tryz.prog Γ Tryz.f191 Zjc [x0]=Za7 Γ x0:=by kernel_rfl
theorem ZpI {prim : FuncId→Option (List Value→M Value)} (hp : prim Zcd=none) (n : Nat) (x0 : Value) : run Tryz.prog prim lvs (n+1) Zcd [x0]=Za7 (run Tryz.prog prim lvs n) x0:=
 (Zl hp (by kernel_rfl) Tryz.func191 (by kernel_rfl)).trans (ZrI _ x0)
noncomputable def Jq.l2 (Γ : Ze) (s0 s3 s4 s5 s6 s19 : Value) : M Out:=
 bind (bop .int .lss s19 (Value.int .i64 26)) fun y5=>
 cnd y5
 (bind (ixs s0 s5) fun y6=>
 bind (ixs s3 s19) fun y7=>
 bind (bop .int .eql y6 y7) fun y8=>
 jn (cnd y8
 (bind (bop .int .add s19 (Value.int .i64 1)) fun y9=>
 bind (sls (Value.string ⟨#[97,98,99,100,101,102,103,104,105,106,107,108,109,110,111,112,113,114,115,116,117,118,119,120,121,122]⟩) (some s19) (some y9)) fun y10=>
 ret (.nrm [s0,s3,s4,s5,y10,s19]))
 (ret (.nrm [s0,s3,s4,s5,s6,s19]))) (c6 fun q11_0 q11_1 q11_2 q11_3 q11_4 q11_5=>
 bind (bop .int .add q11_5 (Value.int .i64 1)) fun y12=>
 ret (.nrm [q11_0,q11_1,q11_2,q11_3,q11_4,y12])) noX Ji)
 (ret (.ext 2 [s0,s3,s4,s5,s6]))
noncomputable def Jq.l1 (Γ : Ze) (s0 s3 s4 s5 : Value) : M Out:=
 bind (Ym s0) fun y1=>
 bind (bop .int .lss s5 y1) fun y2=>
 cnd y2
 (bind (bop .int .add s5 (Value.int .i64 1)) fun y3=>
 bind (sls s0 (some s5) (some y3)) fun y4=>
 jn (Zj (c6 (Jq.l2 Γ)) [s0,s3,s4,s5,y4,(Value.int .i64 0)]) noN (xk 2 (c5 fun q15_0 q15_1 q15_2 q15_3 q15_4=>
 bind (bop .str .add q15_2 q15_4) fun y16=>
 bind (bop .int .add q15_3 (Value.int .i64 1)) fun y17=>
 ret (.nrm [q15_0,q15_1,y16,y17])) noX) Ji)
 (ret (.ext 0 [s4]))
noncomputable def Jq (Γ : Ze) (x0 : Value) : M Value:=
 jn (Zj (c4 (Jq.l1 Γ)) [x0,(Value.string ⟨#[65,66,67,68,69,70,71,72,73,74,75,76,77,78,79,80,81,82,83,84,85,86,87,88,89,90]⟩),(Value.string ⟨#[]⟩),(Value.int .i64 0)]) noN (xk 0 (c1 fun q20_0=>
 ret q20_0) noX) ret
theorem ZpY (Γ : Ze) (x0 : Value) : Zy Tryz.prog Γ Tryz.f192 Zjk [x0]=Jq Γ x0:=by kernel_rfl
theorem Zo5 {prim : FuncId→Option (List Value→M Value)} (hp : prim Zcf=none) (n : Nat) (x0 : Value) : run Tryz.prog prim lvs (n+1) Zcf [x0]=Jq (run Tryz.prog prim lvs n) x0:=
 (Zl hp (by kernel_rfl) Tryz.func192 (by kernel_rfl)).trans (ZpY _ x0)
noncomputable def Zfk (Γ : Ze) (x0 : Value) : M Value:=
 cnd x0
 (ret (Value.string ⟨#[1]⟩))
 (ret (Value.string ⟨#[0]⟩))
theorem ZpA (Γ : Ze) (x0 : Value) : Zy Tryz.prog Γ Tryz.f197 ZhX [x0]=Zfk Γ x0:=by kernel_rfl
theorem Znz {prim : FuncId→Option (List Value→M Value)} (hp : prim ZbN=none) (n : Nat) (x0 : Value) : run Tryz.prog prim lvs (n+1) ZbN [x0]=Zfk (run Tryz.prog prim lvs n) x0:=
 (Zl hp (by kernel_rfl) Tryz.func197 (by kernel_rfl)).trans (ZpA _ x0)
noncomputable def KI (Γ : Ze) (x0 x1 : Value) : M Value:=
 bind (ZH x0) fun y1=>
 bind (cvi .u64 y1) fun y2=>
 bind (Γ Zcp [y2]) fun y3=>
 bind (Γ QK [x0,(Value.int .i64 0),y1,y3,x1]) fun y4=>
 ret (Value.tuple #[])
theorem ZdA (Γ : Ze) (x0 x1 : Value) : Zy Tryz.prog Γ Tryz.f201 Zai [x0,x1]=KI Γ x0 x1:=by kernel_rfl
theorem Zc1 {prim : FuncId→Option (List Value→M Value)} (hp : prim KG=none) (n : Nat) (x0 x1 : Value) : run Tryz.prog prim lvs (n+1) KG [x0,x1]=KI (run Tryz.prog prim lvs n) x0 x1:=
 (Zl hp (by kernel_rfl) Tryz.func201 (by kernel_rfl)).trans (ZdA _ x0 x1)
noncomputable def Zbt (Γ : Ze) (x0 x1 : Value) : M Value:=
 bind (Γ Y9 [x0]) fun y1=>
 bind (Γ Y9 [x1]) fun y2=>
 cnd y1
 (cnd y2
 (ret (Value.int .i64 0))
 (ret (Value.int .i64 (-1))))
 (cnd y2
 (ret (Value.int .i64 1))
 (bind (bop .str .lss x0 x1) fun y3=>
 cnd y3
 (ret (Value.int .i64 (-1)))
 (bind (bop .str .gtr x0 x1) fun y4=>
 cnd y4
 (ret (Value.int .i64 1))
 (ret (Value.int .i64 0)))))
theorem Zio (Γ : Ze) (x0 x1 : Value) : Zy Tryz.prog Γ Tryz.f203 ZdC [x0,x1]=Zbt Γ x0 x1:=by kernel_rfl
theorem Zhh {prim : FuncId→Option (List Value→M Value)} (hp : prim WV=none) (n : Nat) (x0 x1 : Value) : run Tryz.prog prim lvs (n+1) WV [x0,x1]=Zbt (run Tryz.prog prim lvs n) x0 x1:=
 (Zl hp (by kernel_rfl) Tryz.func203 (by kernel_rfl)).trans (Zio _ x0 x1)
noncomputable def WB (Γ : Ze) (x0 x1 : Value) : M Value:=
 bind (Γ Q1 [x0,x1]) fun y1=>
 bind (bop .int .geq y1 (Value.int .i64 0)) fun y2=>
 cnd y2
 (bind (sls x0 none (some y1)) fun y3=>
 bind (Ym x1) fun y4=>
 bind (bop .int .add y1 y4) fun y5=>
 bind (sls x0 (some y5) none) fun y6=>
 ret (Value.tuple #[y3,y6,(Value.bool true)]))
 (ret (Value.tuple #[x0,(Value.string ⟨#[]⟩),(Value.bool false)]))
theorem ZeY (Γ : Ze) (x0 x1 : Value) : Zy Tryz.prog Γ Tryz.f205 Zbg [x0,x1]=WB Γ x0 x1:=by kernel_rfl
theorem ZeD {prim : FuncId→Option (List Value→M Value)} (hp : prim Kr=none) (n : Nat) (x0 x1 : Value) : run Tryz.prog prim lvs (n+1) Kr [x0,x1]=WB (run Tryz.prog prim lvs n) x0 x1:=
 (Zl hp (by kernel_rfl) Tryz.func205 (by kernel_rfl)).trans (ZeY _ x0 x1)
noncomputable def JL.l1 (Γ : Ze) (s0 s1 s2 s3 s9 s10 : Value) : M Out:=
 bind (bop .int .lss s10 s3) fun y13=>
 cnd y13
 (bind (Γ Ws [s0,s1]) fun y14=>
 bind (bop .int .lss y14 (Value.int .i64 0)) fun y15=>
 cnd y15
 (ret (.ext 0 [s0,s9,s10]))
 (bind (bop .int .add y14 s2) fun y16=>
 bind (sls s0 none (some y16)) fun y17=>
 bind (ixa 1 s9 s10) fun y18=>
 bind (st1 y18 y17) fun _=>
 bind (Ym s1) fun y19=>
 bind (bop .int .add y14 y19) fun y20=>
 bind (sls s0 (some y20) none) fun y21=>
 bind (bop .int .add s10 (Value.int .i64 1)) fun y22=>
 ret (.nrm [y21,s1,s2,s3,s9,y22])))
 (ret (.ext 0 [s0,s9,s10]))
noncomputable def JL (Γ : Ze) (x0 x1 x2 x3 : Value) : M Value:=
 bind (bop .int .eql x3 (Value.int .i64 0)) fun y1=>
 cnd y1
 (ret (Value.slice none 0 0))
 (bind (bop .str .eql x1 (Value.string ⟨#[]⟩)) fun y2=>
 cnd y2
 (bind (Γ ZlL [x0,x3]) fun y3=>
 ret y3)
 (bind (bop .int .lss x3 (Value.int .i64 0)) fun y4=>
 jn (cnd y4
 (bind (Γ Zav [x0,x1]) fun y5=>
 bind (bop .int .add y5 (Value.int .i64 1)) fun y6=>
 ret (.nrm [x0,x1,x2,y6]))
 (ret (.nrm [x0,x1,x2,x3]))) (c4 fun q7_0 q7_1 q7_2 q7_3=>
 bind (Ym q7_0) fun y8=>
 bind (bop .int .add y8 (Value.int .i64 1)) fun y9=>
 bind (mxi false q7_3 y9) fun y10=>
 bind (mks 1 16 (.string ⟨#[]⟩) y10 y10) fun y11=>
 bind (bop .int .sub y10 (Value.int .i64 1)) fun y12=>
 jn (jn (Zj (c6 (JL.l1 Γ)) [q7_0,q7_1,q7_2,y12,y11,(Value.int .i64 0)]) noN (xk 0 (c3 fun q24_0 q24_1 q24_2=>
 ret (.nrm [q24_0,q24_1,q24_2])) noX) Ji) (c3 fun q26_0 q26_1 q26_2=>
 bind (ixa 1 q26_1 q26_2) fun y27=>
 bind (st1 y27 q26_0) fun _=>
 bind (bop .int .add q26_2 (Value.int .i64 1)) fun y28=>
 bind (slv 1 q26_1 none (some y28) none) fun y29=>
 ret y29) noX ret) noX ret))
theorem Zi8 (Γ : Ze) (x0 x1 x2 x3 : Value) : Zy Tryz.prog Γ Tryz.f206 Zel [x0,x1,x2,x3]=JL Γ x0 x1 x2 x3:=by kernel_rfl
theorem Zip {prim : FuncId→Option (List Value→M Value)} (hp : prim Zan=none) (n : Nat) (x0 x1 x2 x3 : Value) : run Tryz.prog prim lvs (n+1) Zan [x0,x1,x2,x3]=JL (run Tryz.prog prim lvs n) x0 x1 x2 x3:=
 (Zl hp (by kernel_rfl) Tryz.func206 (by kernel_rfl)).trans (Zi8 _ x0 x1 x2 x3)
noncomputable def JY (Γ : Ze) (x0 : Value) : M Value:=
 bind (alc 1 x0) fun y1=>
 ret (Value.func (.func 216) #[] #[y1])
theorem ZaB (Γ : Ze) (x0 : Value) : Zy Tryz.prog Γ Tryz.f207 Ke [x0]=JY Γ x0:=by kernel_rfl
theorem Zaj {prim : FuncId→Option (List Value→M Value)} (hp : prim Q2=none) (n : Nat) (x0 : Value) : run Tryz.prog prim lvs (n+1) Q2 [x0]=JY (run Tryz.prog prim lvs n) x0:=
 (Zl hp (by kernel_rfl) Tryz.func207 (by kernel_rfl)).trans (ZaB _ x0)
noncomputable abbrev Zag.o1 (s2 : Value) (st : LoopState) (pd : Option Code) : Zc:=.loop Tryz.f208 Ks 26 [0] (Zzh Tryz.f208 26) [(2,s2)] st pd
noncomputable def Zag.r1 (Γ : Ze) (L : Nat) (s2 : Value) (a0 : Value) : M Value:=
 Zw4 L (
 bind (ld1 s2) fun y2=>
 bind (bsl 1 1 (.string ⟨#[]⟩) [(0,1,a0)]) fun y3=>
 bind (app 1 16 y2 y3) fun y4=>
 bind (st1 s2 y4) fun _=>
 ZnS L none)
noncomputable def Zag (Γ : Ze) (x0 x1 : Value) : M Value:=
 bind (alc 1 x0) fun y1=>
 ZiD (ZpU Tryz.prog) Γ x1 Tryz.f208 Ks 26 [0] (Zzh Tryz.f208 26) [(2,y1)] fun pd_5=>
 (match pd_5 with
 | none=>bind (ld1 y1) fun y6=>
 ret y6
 | some (.exit j_5)=>fail
 | some .ret=>ret (Value.slice none 0 0)
 | _=>fail)
noncomputable def Jd.l1 (Γ : Ze) (s0 s1 s2 s3 s4 s10 s11 : Value) : M Out:=
 jn (bind (bop .int .sub s2 s1) fun y1=>
 bind (bop .int .leq y1 (Value.int .i64 12)) fun y2=>
 cnd y2
 (bind (Γ Q3 [s0,s1,s2,s4]) fun y3=>
 ret (.ret (Value.tuple #[])))
 (bind (bop .int .eql s3 (Value.int .i64 0)) fun y4=>
 cnd y4
 (bind (Γ Zdy [s0,s1,s2,s4]) fun y5=>
 ret (.ret (Value.tuple #[])))
 (bind (uop .not s10) fun y6=>
 jn (cnd y6
 (bind (Γ Zb9 [s0,s1,s2,s4]) fun y7=>
 bind (bop .int .sub s3 (Value.int .i64 1)) fun y8=>
 ret (.nrm [s0,s1,s2,y8,s4,s10,s11,y1]))
 (ret (.nrm [s0,s1,s2,s3,s4,s10,s11,y1]))) (c8 fun q9_0 q9_1 q9_2 q9_3 q9_4 q9_5 q9_6 q9_7=>
 bind (Γ ZcH [q9_0,q9_1,q9_2,q9_4]) fun y10=>
 bind (Zz y10 0) fun y11=>
 bind (Zz y10 1) fun y12=>
 bind (bop .int .eql y12 (Value.int .i64 2)) fun y13=>
 jn (cnd y13
 (bind (Γ Zcg [q9_0,q9_1,q9_2,q9_4]) fun y14=>
 bind (bop .int .sub q9_2 (Value.int .i64 1)) fun y15=>
 bind (bop .int .sub y11 q9_1) fun y16=>
 bind (bop .int .sub y15 y16) fun y17=>
 ret (.nrm [q9_0,q9_1,q9_2,q9_3,q9_4,q9_5,q9_6,q9_7,y17,(Value.int .i64 1)]))
 (ret (.nrm [q9_0,q9_1,q9_2,q9_3,q9_4,q9_5,q9_6,q9_7,y11,y12]))) (c10 fun q18_0 q18_1 q18_2 q18_3 q18_4 q18_5 q18_6 q18_7 q18_8 q18_9=>
 bind (ZT q18_5 true 1 (ret [q18_6])) (c1 fun q19_0=>
 bind (pick q18_5 q19_0 (Value.bool false)) fun y20=>
 bind (ZT y20 true 2 (bind (bop .int .eql q18_9 (Value.int .i64 1)) fun y21=>
 ret [q18_9,y21])) (c2 fun _ q22_1=>
 bind (pick y20 q22_1 (Value.bool false)) fun y23=>
 jn (cnd y23
 (bind (Γ ZaC [q18_0,q18_1,q18_2,q18_4]) fun y24=>
 cnd y24
 (ret (.ret (Value.tuple #[])))
 (ret (.nrm [q18_0,q18_1,q18_2,q18_3,q18_4,q18_5,q18_6,q18_7,q18_8])))
 (ret (.nrm [q18_0,q18_1,q18_2,q18_3,q18_4,q18_5,q18_6,q18_7,q18_8]))) (c9 fun q25_0 q25_1 q25_2 q25_3 q25_4 q25_5 q25_6 q25_7 q25_8=>
 bind (bop .int .gtr q25_1 (Value.int .i64 0)) fun y26=>
 bind (ZJ y26 true (ret q25_4)) fun y27=>
 bind (ZJ y26 true (ret q25_0)) fun y28=>
 bind (ZJ y26 true (ret q25_1)) fun y29=>
 bind (ZJ y26 true (bop .int .sub y29 (Value.int .i64 1))) fun y30=>
 bind (ZJ y26 true (ixa 1 y28 y30)) fun y31=>
 bind (ZJ y26 true (ld1 y31)) fun y32=>
 bind (ZJ y26 true (ret q25_0)) fun y33=>
 bind (ZJ y26 true (ret q25_8)) fun y34=>
 bind (ZJ y26 true (ixa 1 y33 y34)) fun y35=>
 bind (ZJ y26 true (ld1 y35)) fun y36=>
 bind (ZJ y26 true (Kh Γ y27 [y32,y36])) fun y37=>
 bind (ZJ y26 true (bop .int .lss y37 (Value.int .i64 0))) fun y38=>
 bind (ZJ y26 true (uop .not y38)) fun y39=>
 bind (pick y26 y39 (Value.bool false)) fun y40=>
 cnd y40
 (bind (Γ ZbU [q25_0,q25_1,q25_2,q25_8,q25_4]) fun y41=>
 ret (.nrm [q25_0,y41,q25_2,q25_3,q25_4,q25_5,q25_6]))
 (bind (Γ Zdb [q25_0,q25_1,q25_2,q25_8,q25_4]) fun y42=>
 bind (Zz y42 0) fun y43=>
 bind (Zz y42 1) fun y44=>
 bind (bop .int .sub y43 q25_1) fun y45=>
 bind (bop .int .sub q25_2 y43) fun y46=>
 bind (bop .int .quo q25_7 (Value.int .i64 8)) fun y47=>
 bind (bop .int .lss y45 y46) fun y48=>
 jn (cnd y48
 (bind (bop .int .geq y45 y47) fun y49=>
 bind (Γ QK [q25_0,q25_1,y43,q25_3,q25_4]) fun y50=>
 bind (bop .int .add y43 (Value.int .i64 1)) fun y51=>
 ret (.nrm [q25_0,y51,q25_2,q25_3,q25_4,y49,y44]))
 (bind (bop .int .geq y46 y47) fun y52=>
 bind (bop .int .add y43 (Value.int .i64 1)) fun y53=>
 bind (Γ QK [q25_0,y53,q25_2,q25_3,q25_4]) fun y54=>
 ret (.nrm [q25_0,q25_1,y43,q25_3,q25_4,y52,y44]))) (c7 fun q55_0 q55_1 q55_2 q55_3 q55_4 q55_5 q55_6=>
 ret (.nrm [q55_0,q55_1,q55_2,q55_3,q55_4,q55_5,q55_6])) noX Ji)) noX Ji))) noX Ji) noX Ji))) (c7 fun q60_0 q60_1 q60_2 q60_3 q60_4 q60_5 q60_6=>
 ret (.nrm [q60_0,q60_1,q60_2,q60_3,q60_4,q60_5,q60_6])) noX Ji
noncomputable def Jd (Γ : Ze) (x0 x1 x2 x3 x4 : Value) : M Value:=
 jn (Zj (c7 (Jd.l1 Γ)) [x0,x1,x2,x3,x4,(Value.bool true),(Value.bool true)]) noN noX ret
theorem Zdz (Γ : Ze) (x0 x1 x2 x3 x4 : Value) : Zy Tryz.prog Γ Tryz.f209 Zah [x0,x1,x2,x3,x4]=Jd Γ x0 x1 x2 x3 x4:=by kernel_rfl
theorem Zdv {prim : FuncId→Option (List Value→M Value)} (hp : prim QK=none) (n : Nat) (x0 x1 x2 x3 x4 : Value) : run Tryz.prog prim lvs (n+1) QK [x0,x1,x2,x3,x4]=Jd (run Tryz.prog prim lvs n) x0 x1 x2 x3 x4:=
 (Zl hp (by kernel_rfl) Tryz.func209 (by kernel_rfl)).trans (Zdz _ x0 x1 x2 x3 x4)
noncomputable def Zez (Γ : Ze) (x0 : Value) : M Value:=
 cnd (Value.bool false)
 (bind (cvi .u32 x0) fun y1=>
 bind (Γ Zl1 [y1]) fun y2=>
 ret y2)
 (bind (Γ Zbk [x0]) fun y3=>
 ret y3)
theorem Zom (Γ : Ze) (x0 : Value) : Zy Tryz.prog Γ Tryz.f210 Zgs [x0]=Zez Γ x0:=by kernel_rfl
theorem ZmP {prim : FuncId→Option (List Value→M Value)} (hp : prim Zcp=none) (n : Nat) (x0 : Value) : run Tryz.prog prim lvs (n+1) Zcp [x0]=Zez (run Tryz.prog prim lvs n) x0:=
 (Zl hp (by kernel_rfl) Tryz.func210 (by kernel_rfl)).trans (Zom _ x0)
noncomputable def Zcz (Γ : Ze) (x0 : Value) : M Value:=
 bind (bop .str .neq x0 x0) fun y1=>
 ret y1
theorem Zkb (Γ : Ze) (x0 : Value) : Zy Tryz.prog Γ Tryz.f211 ZeR [x0]=Zcz Γ x0:=by kernel_rfl
theorem ZiQ {prim : FuncId→Option (List Value→M Value)} (hp : prim Y9=none) (n : Nat) (x0 : Value) : run Tryz.prog prim lvs (n+1) Y9 [x0]=Zcz (run Tryz.prog prim lvs n) x0:=
 (Zl hp (by kernel_rfl) Tryz.func211 (by kernel_rfl)).trans (Zkb _ x0)
noncomputable def J7.l1 (Γ : Ze) (s0 s1 s5 s6 s7 s8 s9 s10 : Value) : M Out:=
 bind (bop .int .lss s8 s9) fun y23=>
 cnd y23
 (bind (ixs s0 s8) fun y24=>
 bind (bop .int .neq y24 s6) fun y25=>
 jn (cnd y25
 (bind (bop .int .add s8 (Value.int .i64 1)) fun y26=>
 bind (sls s0 (some y26) (some s9)) fun y27=>
 bind (Γ Jz [y27,s6]) fun y28=>
 bind (bop .int .lss y28 (Value.int .i64 0)) fun y29=>
 cnd y29
 (ret (.ret (Value.int .i64 (-1))))
 (bind (bop .int .add y28 (Value.int .i64 1)) fun y30=>
 bind (bop .int .add s8 y30) fun y31=>
 ret (.nrm [s0,s1,s5,s6,s7,y31,s9,s10])))
 (ret (.nrm [s0,s1,s5,s6,s7,s8,s9,s10]))) (c8 fun q32_0 q32_1 q32_2 q32_3 q32_4 q32_5 q32_6 q32_7=>
 bind (bop .int .add q32_5 (Value.int .i64 1)) fun y33=>
 bind (ixs q32_0 y33) fun y34=>
 bind (bop .int .eql y34 q32_4) fun y35=>
 bind (ZT y35 true 8 (bind (bop .int .add q32_5 q32_2) fun y36=>
 bind (sls q32_0 (some q32_5) (some y36)) fun y37=>
 bind (bop .str .eql y37 q32_1) fun y38=>
 ret [q32_0,q32_5,q32_5,q32_2,y36,y37,q32_1,y38])) (c8 fun _ _ _ _ _ _ _ q39_7=>
 bind (pick y35 q39_7 (Value.bool false)) fun y40=>
 cnd y40
 (ret (.ret q32_5))
 (bind (bop .int .add q32_5 (Value.int .i64 1)) fun y41=>
 bind (bop .int .add q32_7 (Value.int .i64 1)) fun y42=>
 bind (ld1 (Value.pointer (some ⟨0,0,none⟩))) fun y43=>
 bind (bop .int .leq q32_2 y43) fun y44=>
 bind (ZT y44 true 4 (bind (Γ Zfj [y41]) fun y45=>
 bind (bop .int .gtr y42 y45) fun y46=>
 ret [y42,y41,y45,y46])) (c4 fun _ _ _ q47_3=>
 bind (pick y44 q47_3 (Value.bool false)) fun y48=>
 cnd y48
 (bind (sls q32_0 (some y41) none) fun y49=>
 bind (Γ Zao [y49,q32_1]) fun y50=>
 bind (bop .int .geq y50 (Value.int .i64 0)) fun y51=>
 cnd y51
 (bind (bop .int .add y50 y41) fun y52=>
 ret (.ret y52))
 (ret (.ret (Value.int .i64 (-1)))))
 (bind (ld1 (Value.pointer (some ⟨0,0,none⟩))) fun y53=>
 bind (bop .int .gtr q32_2 y53) fun y54=>
 bind (ZT y54 true 5 (bind (bop .int .shr y41 (Value.int .u64 4)) fun y55=>
 bind (bop .int .add (Value.int .i64 4) y55) fun y56=>
 bind (bop .int .geq y42 y56) fun y57=>
 ret [y42,y41,y55,y56,y57])) (c5 fun _ _ _ _ q58_4=>
 bind (pick y54 q58_4 (Value.bool false)) fun y59=>
 bind (ZT y59 true 3 (bind (bop .int .lss y41 q32_6) fun y60=>
 ret [y41,q32_6,y60])) (c3 fun _ _ q61_2=>
 bind (pick y59 q61_2 (Value.bool false)) fun y62=>
 cnd y62
 (bind (sls q32_0 (some y41) none) fun y63=>
 bind (Γ Zbl [y63,q32_1]) fun y64=>
 bind (bop .int .lss y64 (Value.int .i64 0)) fun y65=>
 cnd y65
 (ret (.ret (Value.int .i64 (-1))))
 (bind (bop .int .add y41 y64) fun y66=>
 ret (.ret y66)))
 (ret (.nrm [q32_0,q32_1,q32_2,q32_3,q32_4,y41,q32_6,y42]))))))))) noX Ji)
 (ret (.ext 1 []))
noncomputable def J7 (Γ : Ze) (x0 x1 : Value) : M Value:=
 bind (Ym x1) fun y1=>
 bind (bop .int .eql y1 (Value.int .i64 0)) fun y2=>
 bind (ZT y2 false 3 (bind (bop .str .eql x1 x0) fun y3=>
 ret [x1,x0,y3])) (c3 fun _ _ q4_2=>
 bind (pick y2 (Value.bool true) q4_2) fun y5=>
 cnd y5
 (ret (Value.int .i64 0))
 (bind (bop .int .eql y1 (Value.int .i64 1)) fun y6=>
 cnd y6
 (bind (ixs x1 (Value.int .i64 0)) fun y7=>
 bind (Γ Jz [x0,y7]) fun y8=>
 ret y8)
 (bind (Ym x0) fun y9=>
 bind (bop .int .geq y1 y9) fun y10=>
 cnd y10
 (ret (Value.int .i64 (-1)))
 (bind (ld1 (Value.pointer (some ⟨0,0,none⟩))) fun y11=>
 bind (bop .int .leq y1 y11) fun y12=>
 bind (ZT y12 true 3 (bind (Ym x0) fun y13=>
 bind (bop .int .leq y13 (Value.int .i64 64)) fun y14=>
 ret [x0,y13,y14])) (c3 fun _ _ q15_2=>
 bind (pick y12 q15_2 (Value.bool false)) fun y16=>
 cnd y16
 (bind (Γ Zao [x0,x1]) fun y17=>
 ret y17)
 (bind (ixs x1 (Value.int .i64 0)) fun y18=>
 bind (ixs x1 (Value.int .i64 1)) fun y19=>
 bind (Ym x0) fun y20=>
 bind (bop .int .sub y20 y1) fun y21=>
 bind (bop .int .add y21 (Value.int .i64 1)) fun y22=>
 jn (Zj (c8 (J7.l1 Γ)) [x0,x1,y1,y18,y19,(Value.int .i64 0),y22,(Value.int .i64 0)]) noN (xk 1 (c0 (ret (Value.int .i64 (-1)))) noX) ret))))))
theorem Zen (Γ : Ze) (x0 x1 : Value) : Zy Tryz.prog Γ Tryz.f212 ZaE [x0,x1]=J7 Γ x0 x1:=by kernel_rfl
theorem ZdR {prim : FuncId→Option (List Value→M Value)} (hp : prim Q1=none) (n : Nat) (x0 x1 : Value) : run Tryz.prog prim lvs (n+1) Q1 [x0,x1]=J7 (run Tryz.prog prim lvs n) x0 x1:=
 (Zl hp (by kernel_rfl) Tryz.func212 (by kernel_rfl)).trans (Zen _ x0 x1)
noncomputable def Zaq.l1 (Γ : Ze) (s0 s1 s5 : Value) : M Out:=
 bind (Γ Ws [s0,s1]) fun y9=>
 bind (bop .int .eql y9 (Value.int .i64 (-1))) fun y10=>
 cnd y10
 (ret (.ret s5))
 (bind (bop .int .add s5 (Value.int .i64 1)) fun y11=>
 bind (Ym s1) fun y12=>
 bind (bop .int .add y9 y12) fun y13=>
 bind (sls s0 (some y13) none) fun y14=>
 ret (.nrm [y14,s1,y11]))
noncomputable def Zaq (Γ : Ze) (x0 x1 : Value) : M Value:=
 bind (Ym x1) fun y1=>
 bind (bop .int .eql y1 (Value.int .i64 0)) fun y2=>
 cnd y2
 (bind (Γ Zda [x0]) fun y3=>
 bind (bop .int .add y3 (Value.int .i64 1)) fun y4=>
 ret y4)
 (bind (Ym x1) fun y5=>
 bind (bop .int .eql y5 (Value.int .i64 1)) fun y6=>
 cnd y6
 (bind (ixs x1 (Value.int .i64 0)) fun y7=>
 bind (Γ YE [x0,y7]) fun y8=>
 ret y8)
 (jn (Zj (c3 (Zaq.l1 Γ)) [x0,x1,(Value.int .i64 0)]) noN noX ret))
theorem ZmL (Γ : Ze) (x0 x1 : Value) : Zy Tryz.prog Γ Tryz.f214 ZfQ [x0,x1]=Zaq Γ x0 x1:=by kernel_rfl
theorem Zlg {prim : FuncId→Option (List Value→M Value)} (hp : prim Zav=none) (n : Nat) (x0 x1 : Value) : run Tryz.prog prim lvs (n+1) Zav [x0,x1]=Zaq (run Tryz.prog prim lvs n) x0 x1:=
 (Zl hp (by kernel_rfl) Tryz.func214 (by kernel_rfl)).trans (ZmL _ x0 x1)
noncomputable def ZdP (Γ : Ze) (x0 x1 : Value) : M Value:=
 bind (Γ Q1 [x0,x1]) fun y1=>
 ret y1
theorem ZmX (Γ : Ze) (x0 x1 : Value) : Zy Tryz.prog Γ Tryz.f215 Zf8 [x0,x1]=ZdP Γ x0 x1:=by kernel_rfl
theorem ZlA {prim : FuncId→Option (List Value→M Value)} (hp : prim Ws=none) (n : Nat) (x0 x1 : Value) : run Tryz.prog prim lvs (n+1) Ws [x0,x1]=ZdP (run Tryz.prog prim lvs n) x0 x1:=
 (Zl hp (by kernel_rfl) Tryz.func215 (by kernel_rfl)).trans (ZmX _ x0 x1)
noncomputable def Z9.l2 (Γ : Ze) (s0 s1 s2 s3 s8 s9 : Value) : M Out:=
 bind (bop .int .gtr s9 s1) fun y3=>
 bind (ZJ y3 true (ret s3)) fun y4=>
 bind (ZJ y3 true (ret s0)) fun y5=>
 bind (ZJ y3 true (ret s9)) fun y6=>
 bind (ZJ y3 true (ixa 1 y5 y6)) fun y7=>
 bind (ZJ y3 true (ld1 y7)) fun y8=>
 bind (ZJ y3 true (ret s0)) fun y9=>
 bind (ZJ y3 true (ret s9)) fun y10=>
 bind (ZJ y3 true (bop .int .sub y10 (Value.int .i64 1))) fun y11=>
 bind (ZJ y3 true (ixa 1 y9 y11)) fun y12=>
 bind (ZJ y3 true (ld1 y12)) fun y13=>
 bind (ZJ y3 true (Kh Γ y4 [y8,y13])) fun y14=>
 bind (ZJ y3 true (bop .int .lss y14 (Value.int .i64 0))) fun y15=>
 bind (pick y3 y15 (Value.bool false)) fun y16=>
 cnd y16
 (bind (bop .int .sub s9 (Value.int .i64 1)) fun y17=>
 bind (bop .int .sub s9 (Value.int .i64 1)) fun y18=>
 bind (ixa 1 s0 y18) fun y19=>
 bind (ld1 y19) fun y20=>
 bind (ixa 1 s0 s9) fun y21=>
 bind (ld1 y21) fun y22=>
 bind (ixa 1 s0 s9) fun y23=>
 bind (st1 y23 y20) fun _=>
 bind (ixa 1 s0 y17) fun y24=>
 bind (st1 y24 y22) fun _=>
 bind (bop .int .sub s9 (Value.int .i64 1)) fun y25=>
 ret (.nrm [s0,s1,s2,s3,s8,y25]))
 (ret (.ext 2 [s0,s1,s2,s3,s8]))
noncomputable def Z9.l1 (Γ : Ze) (s0 s1 s2 s3 s8 : Value) : M Out:=
 bind (bop .int .lss s8 s2) fun y2=>
 cnd y2
 (jn (Zj (c6 (Z9.l2 Γ)) [s0,s1,s2,s3,s8,s8]) noN (xk 2 (c5 fun q27_0 q27_1 q27_2 q27_3 q27_4=>
 bind (bop .int .add q27_4 (Value.int .i64 1)) fun y28=>
 ret (.nrm [q27_0,q27_1,q27_2,q27_3,y28])) noX) Ji)
 (ret (.ext 0 []))
noncomputable def Z9 (Γ : Ze) (x0 x1 x2 x3 : Value) : M Value:=
 bind (bop .int .add x1 (Value.int .i64 1)) fun y1=>
 jn (Zj (c5 (Z9.l1 Γ)) [x0,x1,x2,x3,y1]) noN (xk 0 (c0 (ret (Value.tuple #[]))) noX) ret
theorem ZbS (Γ : Ze) (x0 x1 x2 x3 : Value) : Zy Tryz.prog Γ Tryz.f217 K4 [x0,x1,x2,x3]=Z9 Γ x0 x1 x2 x3:=by kernel_rfl
theorem ZbK {prim : FuncId→Option (List Value→M Value)} (hp : prim Q3=none) (n : Nat) (x0 x1 x2 x3 : Value) : run Tryz.prog prim lvs (n+1) Q3 [x0,x1,x2,x3]=Z9 (run Tryz.prog prim lvs n) x0 x1 x2 x3:=
 (Zl hp (by kernel_rfl) Tryz.func217 (by kernel_rfl)).trans (ZbS _ x0 x1 x2 x3)
noncomputable def Zdc (Γ : Ze) (x0 : Value) : M Value:=
 bind (bop .int .geq x0 (Value.int .u64 4294967296)) fun y1=>
 jn (cnd y1
 (bind (bop .int .shr x0 (Value.int .u64 32)) fun y2=>
 ret (.nrm [y2,(Value.int .i64 32)]))
 (ret (.nrm [x0,(Value.int .i64 0)]))) (c2 fun q3_0 q3_1=>
 bind (bop .int .geq q3_0 (Value.int .u64 65536)) fun y4=>
 jn (cnd y4
 (bind (bop .int .shr q3_0 (Value.int .u64 16)) fun y5=>
 bind (bop .int .add q3_1 (Value.int .i64 16)) fun y6=>
 ret (.nrm [y5,y6]))
 (ret (.nrm [q3_0,q3_1]))) (c2 fun q7_0 q7_1=>
 bind (bop .int .geq q7_0 (Value.int .u64 256)) fun y8=>
 jn (cnd y8
 (bind (bop .int .shr q7_0 (Value.int .u64 8)) fun y9=>
 bind (bop .int .add q7_1 (Value.int .i64 8)) fun y10=>
 ret (.nrm [y9,y10]))
 (ret (.nrm [q7_0,q7_1]))) (c2 fun q11_0 q11_1=>
 bind (cvi .u8 q11_0) fun y12=>
 bind (ixs (Value.string ⟨#[0,1,2,2,3,3,3,3,4,4,4,4,4,4,4,4,5,5,5,5,5,5,5,5,5,5,5,5,5,5,5,5,6,6,6,6,6,6,6,6,6,6,6,6,6,6,6,6,6,6,6,6,6,6,6,6,6,6,6,6,6,6,6,6,7,7,7,7,7,7,7,7,7,7,7,7,7,7,7,7,7,7,7,7,7,7,7,7,7,7,7,7,7,7,7,7,7,7,7,7,7,7,7,7,7,7,7,7,7,7,7,7,7,7,7,7,7,7,7,7,7,7,7,7,7,7,7,7,8,8,8,8,8,8,8,8,8,8,8,8,8,8,8,8,8,8,8,8,8,8,8,8,8,8,8,8,8,8,8,8,8,8,8,8,8,8,8,8,8,8,8,8,8,8,8,8,8,8,8,8,8,8,8,8,8,8,8,8,8,8,8,8,8,8,8,8,8,8,8,8,8,8,8,8,8,8,8,8,8,8,8,8,8,8,8,8,8,8,8,8,8,8,8,8,8,8,8,8,8,8,8,8,8,8,8,8,8,8,8,8,8,8,8,8,8,8,8,8,8,8,8,8,8,8,8,8]⟩) y12) fun y13=>
 bind (cvi .i64 y13) fun y14=>
 bind (bop .int .add q11_1 y14) fun y15=>
 ret y15) noX ret) noX ret) noX ret
theorem ZlJ (Γ : Ze) (x0 : Value) : Zy Tryz.prog Γ Tryz.f226 ZfJ [x0]=Zdc Γ x0:=by kernel_rfl
theorem ZkD {prim : FuncId→Option (List Value→M Value)} (hp : prim Zbk=none) (n : Nat) (x0 : Value) : run Tryz.prog prim lvs (n+1) Zbk [x0]=Zdc (run Tryz.prog prim lvs n) x0:=
 (Zl hp (by kernel_rfl) Tryz.func226 (by kernel_rfl)).trans (ZlJ _ x0)
noncomputable def Kt (Γ : Ze) (x0 x1 : Value) : M Value:=
 bind (Γ J6 [x0,x1]) fun y1=>
 ret y1
theorem ZcY (Γ : Ze) (x0 x1 : Value) : Zy Tryz.prog Γ Tryz.f227 WN [x0,x1]=Kt Γ x0 x1:=by kernel_rfl
theorem ZcK {prim : FuncId→Option (List Value→M Value)} (hp : prim Jz=none) (n : Nat) (x0 x1 : Value) : run Tryz.prog prim lvs (n+1) Jz [x0,x1]=Kt (run Tryz.prog prim lvs n) x0 x1:=
 (Zl hp (by kernel_rfl) Tryz.func227 (by kernel_rfl)).trans (ZcY _ x0 x1)
end Go.Proofs.YtedkoimihknggaaGreatDoor.A

namespace Go.Proofs.YtedkoimihknggaaGreatDoor.A
set_option linter.unusedVariables false
set_option linter.unusedSimpArgs false
open Go.Sort
section
variable {P : Program} {w0 : Qe} {ι : Nat→Option Loc} {H H1 : Zd} {w w' : World} {v : Value} {G : Nat}
def ZjQ (args : List Value) : M Value:=fun H=>
 match args with
 | [.map none]=>some (.map none,H)
 | [.map (some id)]=>match H[id]? with
  | some (.map es clk)=>some (.map (some H.length),H++[.map es clk])
  | some (.mapU es)=>some (.map (some H.length),H++[.mapU es])
  | _=>none
 | _=>none
structure ZfD (P : Program) (g : FuncId) : Prop where
 c : ZbG P g
 nil : ∀ w,Calls P g #[.map none] w fun e w'=>e=.returned (.map none)∧w'=w
 some : ∀ b es clock w,w.heap[b]?=some (.map es clock)→Calls P g #[.map (some b)] w fun e w'=>e=.returned (.map (some w.heap.size))∧w'=w.alloc (.map es clock)
theorem Zgb {g : FuncId} (hC : ZfD P g) : Zek P G w0 g ZjQ:=by
 intro args H v H1 h
 refine .inl ⟨hC.c,fun ι w args' hS hr=>?_⟩
 unfold ZjQ at h
 split at h
 ·cases h
  obtain ⟨x,r,rfl,hx,hr2⟩:=hr.cons_inv
  rw [hr2.nil_inv,hx.scalar_inv rfl]
  refine (hC.nil w).mono fun e w' ⟨he,hw⟩=>⟨ι,_,.refl ι,he,.sc rfl,by rw [hw];exact hS⟩
 ·obtain ⟨x,r,rfl,hx,hr2⟩:=hr.cons_inv
  obtain ⟨l,hl,rfl⟩:=hx.map_inv
  rw [hr2.nil_inv]
  split at h
  ·rename_i id _ es clk hid
   cases h
   obtain ⟨en,hb,hge,hE⟩:=hS.mapR hid hl
   refine (hC.some l.blk en clk w hb).mono fun e w' ⟨he,hw⟩=>?_
   have hnew:=hS.new (x:=.map es clk) (l:=⟨w.heap.size,0,0,0,false⟩) (.map en clk) rfl ⟨_,en,Qg _ _ _,ZcS w _,hS.size,hE.mono (JW hS _)⟩
   exact ⟨_,_,JW hS _,he,.mp (Qg _ _ _),by rw [hw];exact hnew⟩
  ·rename_i id _ es hid
   cases h
   obtain ⟨en,clk,es2,hb,hge,hE,hp⟩:=hS.mapUR hid hl
   refine (hC.some l.blk en clk w hb).mono fun e w' ⟨he,hw⟩=>?_
   have hnew:=hS.new (x:=.mapU es) (l:=⟨w.heap.size,0,0,0,false⟩) (.map en clk) rfl ⟨_,en,clk,es2,Qg _ _ _,ZcS w _,hS.size,hE.mono (JW hS _),hp⟩
   exact ⟨_,_,JW hS _,he,.mp (Qg _ _ _),by rw [hw];exact hnew⟩
  ·cases h
 ·cases h
abbrev Qs (ks : List (List UInt8)) : List (List UInt8):=ks.mergeSort leB
structure Zfg (es : List (Value × Value × Nat)) (ks : List (List UInt8)) : Prop where
 keys : es.map (·.1)=ks.map strv
 nod : ks.Nodup
 few : ks.length≤1000000
 len : ∀ k∈ks,k.length≤1000000
theorem Zlq {a b : List UInt8} (h : strv a=strv b) : a=b:=by simpa [strv] using h
theorem Zq8 {a b : List (List UInt8)} (h : a.map strv=b.map strv) : a=b:=by
 have : Function.Injective strv:=fun _ _ h=>Zlq h
 exact (List.map_inj_right (fun _ _ h=>Zlq h)).1 h
def Zgy (ks : List (List UInt8)) (H : Zd) : Option (Value × Zd):=
 if ks=[] then some (.slice none 0 0,H)
 else some (.slice (some ⟨H.length,0,none⟩) ks.length ks.length,H++[.cells ((Qs ks).map strv) 1 true false])
open Classical in
noncomputable def Zce (gks : List FuncId) (gc : FuncId) (args : List Value) : M Value:=fun H=>
 if h : ∃ gk c id es ks,gk∈gks∧args=[.func (.func gk) #[] #[pt c],.func (.func gc) #[] #[]]∧(∃ e,H[c]?=some (.cells [.map (some id)] e false false))∧Zfg es ks∧((∃ clk,H[id]?=some (.map es clk)∧ZaU es clk)∨H[id]?=some (.mapU es)) then
  Zgy (Classical.choose (Classical.choose_spec (Classical.choose_spec (Classical.choose_spec (Classical.choose_spec h))))) H
 else none
theorem Zqw {gks : List FuncId} {gc gk : FuncId} {c id e : Nat} {es : List (Value × Value × Nat)} {ks : List (List UInt8)} (hg : gk∈gks) (hc : H[c]?=some (.cells [.map (some id)] e false false)) (hk : Zfg es ks)
  (hm : (∃ clk,H[id]?=some (.map es clk)∧ZaU es clk)∨H[id]?=some (.mapU es)) : Zce gks gc [.func (.func gk) #[] #[pt c],.func (.func gc) #[] #[]] H=Zgy ks H:=by
 have hex : ∃ gk' c' id' es' ks',gk'∈gks∧[Value.func (.func gk) #[] #[pt c],.func (.func gc) #[] #[]]=[.func (.func gk') #[] #[pt c'],.func (.func gc) #[] #[]]∧(∃ e,H[c']?=some (.cells [.map (some id')] e false false))∧Zfg es' ks'∧((∃ clk,H[id']?=some (.map es' clk)∧ZaU es' clk)∨H[id']?=some (.mapU es')):=
  ⟨gk,c,id,es,ks,hg,rfl,⟨e,hc⟩,hk,hm⟩
 unfold Zce
 rw [dif_pos hex]
 congr 1
 obtain ⟨_,h2,⟨e',h3⟩,h4,h5⟩:=Classical.choose_spec (Classical.choose_spec (Classical.choose_spec (Classical.choose_spec (Classical.choose_spec hex))))
 generalize Classical.choose (Classical.choose_spec (Classical.choose_spec (Classical.choose_spec (Classical.choose_spec hex))))=ks' at h4 ⊢
 generalize Classical.choose (Classical.choose_spec (Classical.choose_spec (Classical.choose_spec hex)))=es' at h4 h5
 generalize Classical.choose (Classical.choose_spec (Classical.choose_spec hex))=id' at h3 h5
 generalize Classical.choose (Classical.choose_spec hex)=c' at h2 h3
 have ec : c=c':=by simp at h2;exact h2.2
 subst ec
 rw [hc] at h3
 have ei : id=id':=by simp at h3;exact h3.1
 subst ei
 have ees : es'=es:=by
  rcases hm with ⟨clk,h6,_⟩ | h6 <;> rcases h5 with ⟨clk',h7,_⟩ | h7 <;> rw [h6] at h7 <;> cases h7 <;> rfl
 subst ees
 exact Zq8 (h4.keys.symm.trans hk.keys)
theorem Zuo {gks : List FuncId} {gc : FuncId} {args : List Value} (h : Zce gks gc args H=some (v,H1)) :
  ∃ gk c id e es ks,gk∈gks∧args=[.func (.func gk) #[] #[pt c],.func (.func gc) #[] #[]]∧H[c]?=some (.cells [.map (some id)] e false false)∧Zfg es ks∧((∃ clk,H[id]?=some (.map es clk)∧ZaU es clk)∨H[id]?=some (.mapU es))∧Zgy ks H=some (v,H1):=by
 have h0:=h
 unfold Zce at h
 split at h
 ·rename_i hex
  obtain ⟨gk,c,id,es,ks,h1,rfl,⟨e,h3⟩,h4,h5⟩:=hex
  rw [Zqw h1 h3 h4 h5] at h0
  exact ⟨gk,c,id,e,es,ks,h1,rfl,h3,h4,h5,h0⟩
 ·cases h
structure ZgI (P : Program) (g gk gc : FuncId) : Prop where
 c : ZbG P g
 run : ∀ (w : World) (Bm b : Nat) (es : Array MapEntry) (clock : Nat) (ks : List (List UInt8)),Bm < w.heap.size→w.cell? ⟨Bm,0,none⟩=some (.map (some b))→w.heap[b]?=some (.map es clock)→es.toList.map (·.key)=ks.map strv→Go.MapKept.Stamped es clock→
  (∀ k∈ks,k.length≤1000000)→ks.length≤1000000→
  Calls P g #[.func (.func gk) #[] #[.pointer (some ⟨Bm,0,none⟩)],.func (.func gc) #[] #[]] w fun e w'=>∃ (v : Value) (t : TypeId),e=.returned v∧w'.ownsRow w.heap.size t 1 v ks.length ((Qs ks).map strv)∧(v=.slice none 0 0↔ks=[])∧Go.RowKit.Below w.heap.size w w'
theorem Sim.below (h : Sim G w0 ι H w) (hb : Go.RowKit.Below w.heap.size w w') : Sim G w0 ι H w':=by
 refine ⟨fun i x hx=>(h.obj i x hx).blk fun l hl hd=>?_,h.inj,Nat.le_trans h.size hb.size,fun b hlt=>by rw [hb.block b (Nat.lt_of_lt_of_le hlt h.size)];exact h.old b hlt,h.dom,h.glob,?_,fun b hbp=>?_,fun j cs es nx l hj hl=>(h.views j cs es nx l hj hl).to (.refl ι) fun h1 ⟨c0,el0,fr0,hc0⟩=>⟨fun c el fr hc=>⟨fr,by rw [hb.block _ (Array.getElem?_eq_some_iff.1 hc0).1];exact hc⟩,h1⟩⟩
 ·obtain ⟨l',hl',hlt⟩:=(h.obj i x hx).loc hd
  rw [hl] at hl';cases hl'
  exact hb.block _ hlt
 ·rw [hb.os,hb.tape,hb.output];exact h.rest
 ·obtain ⟨p1,p2,p3⟩:=h.prot b hbp
  have hlt : b < w.heap.size:=by
   rcases Nat.lt_or_ge b w.heap.size with h1 | h1
   ·exact h1
   ·rw [Array.getElem?_eq_none h1] at p1;cases p1
  exact ⟨by rw [hb.block b hlt];exact p1,p2,p3⟩
theorem Jg.keys {ι : Nat→Option Loc} : ∀ {es : List (Value × Value × Nat)} {en : List MapEntry},Jg ι es en→en.map (·.key)=es.map (·.1)∧en.map (·.born)=es.map (·.2.2)
 | [],[],_=>⟨rfl,rfl⟩
 | e :: es,n :: ns,h=>by
  obtain ⟨h1,h2⟩:=Jg.keys h.2
  exact ⟨by rw [List.map_cons,List.map_cons,h1,h.1.2.1],by rw [List.map_cons,List.map_cons,h2,h.1.2.2.2]⟩
 | [],_ :: _,h=>h.elim
 | _ :: _,[],h=>h.elim
theorem Ztx {a b : List (List UInt8)} (h : a.Perm b) : Qs a=Qs b:=mergeSort_of_perm h
theorem ZjA (ks : List (List UInt8)) : (Qs ks).length=ks.length:=List.length_mergeSort ks
theorem Zhx {ks : List (List UInt8)} (h : ks.Nodup) : (ks.map strv).Nodup:=by
 rw [List.nodup_iff_pairwise_ne] at h ⊢
 rw [List.pairwise_map]
 exact h.imp fun h e=>h (Zlq e)
theorem Zsh {gks : List FuncId} {g gc : FuncId} (hgks : gks≠[]) (hC : ∀ gk∈gks,ZgI P g gk gc) : Zek P G w0 g (Zce gks gc):=by
 intro args H v H1 h
 have hcall : ZbG P g:=by
  cases gks with
  | nil=>exact absurd rfl hgks
  | cons a l=>exact (hC a (by simp)).c
 refine .inl ⟨hcall,fun ι w args' hS hr=>?_⟩
 obtain ⟨gk,c,id,e,es,ks,hg,rfl,hc,hk,hm,ho⟩:=Zuo h
 obtain ⟨x,r,rfl,hx,hr2⟩:=hr.cons_inv
 obtain ⟨y,r,rfl,hy,hr3⟩:=hr2.cons_inv
 rw [hr3.nil_inv]
 obtain ⟨a1,b1,rfl,ha1,hb1⟩:=hx.fn_inv
 obtain ⟨a2,b2,rfl,ha2,hb2⟩:=hy.fn_inv
 have ea1 : a1=#[]:=by have:=ha1.nil_inv;simpa using this
 have ea2 : a2=#[]:=by have:=ha2.nil_inv;simpa using this
 have eb2 : b2=#[]:=by have:=hb2.nil_inv;simpa using this
 obtain ⟨p',q',eb1,hp',hq'⟩:=hb1.cons_inv
 have:=hq'.nil_inv
 subst this
 obtain ⟨lc,hlc,rfl⟩:=hp'.ptr_inv
 have eb1 : b1=#[.pointer (some ⟨lc.blk,lc.base+0,none⟩)]:=by
  apply Array.ext'
  simpa using eb1
 subst ea1
 subst ea2
 subst eb2
 subst eb1
 obtain ⟨cc,el,fr,_,hgrow,hbc,hb5,hb6,hrc,hro,_⟩:=hS.cellsR hc hlc
 have hbase : lc.base=0:=(hro rfl).2.2 hgrow
 have hbl : lc.blk < w.heap.size:=by
  rcases Nat.lt_or_ge lc.blk w.heap.size with h1 | h1
  ·exact h1
  ·rw [Array.getElem?_eq_none h1] at hbc;cases hbc
 obtain ⟨u,hu1,hu2⟩:=hrc.at (o:=0) (by simp)
 obtain ⟨lm,hlm,hu3⟩:=RV.map_inv (id:=id) hu2
 subst hu3
 have hcell : w.cell? ⟨lc.blk,0,none⟩=some (.map (some lm.blk)):=by
  rw [Ze6 hbc]
  simpa [hbase] using hu1
 obtain ⟨en,clock,ks',hmb,hkeys,hst,hperm⟩ : ∃ (en : Array MapEntry) (clock : Nat) (ks' : List (List UInt8)),w.heap[lm.blk]?=some (.map en clock)∧en.toList.map (·.key)=ks'.map strv∧Go.MapKept.Stamped en clock∧ks'.Perm ks:=by
  rcases hm with ⟨clk,hid,hst⟩ | hid
  ·obtain ⟨en,hb,_,hE⟩:=hS.mapR hid hlm
   obtain ⟨k1,k2⟩:=Jg.keys hE
   refine ⟨en,clk,ks,hb,k1.trans hk.keys,⟨fun x hx=>?_,by rw [k2];exact hst.nod,by rw [k1,hk.keys];exact Zhx hk.nod⟩,.refl _⟩
   have : x.born∈en.toList.map (·.born):=List.mem_map.2 ⟨x,hx,rfl⟩
   rw [k2] at this
   obtain ⟨e',h1,h2⟩:=List.mem_map.1 this
   rw [← h2];exact hst.lt e' h1
  ·obtain ⟨en,clk,es2,hb,_,hE,hp⟩:=hS.mapUR hid hlm
   obtain ⟨k1,k2⟩:=Jg.keys hE
   have hpk : (es2.map (·.1)).Perm (es.map (·.1)):=by
    have:=hp.perm.map (·.1)
    rwa [Zeh,Zeh] at this
   obtain ⟨ks2,hks2⟩ : ∃ ks2 : List (List UInt8),es2.map (·.1)=ks2.map strv:=by
    refine ⟨es2.map fun e=>match e.1 with | .string s=>s.data.toList | _=>[],?_⟩
    rw [List.map_map]
    refine List.map_congr_left fun e he=>?_
    obtain ⟨s,hs⟩:=hp.strs e he
    simp [hs,strv]
   rw [hks2,hk.keys] at hpk
   have hpk2 : ks2.Perm ks:=by
    have h3:=hpk.map fun v : Value=>match v with | .string s=>s.data.toList | _=>([] : List UInt8)
    simpa [List.map_map,Function.comp_def,strv] using h3
   refine ⟨en,clk,ks2,hb,k1.trans hks2,⟨fun x hx=>?_,by rw [k2];exact hp.st.nod,by rw [k1];exact hp.nod2⟩,hpk2⟩
   have : x.born∈en.toList.map (·.born):=List.mem_map.2 ⟨x,hx,rfl⟩
   rw [k2] at this
   obtain ⟨e',h1,h2⟩:=List.mem_map.1 this
   rw [← h2];exact hp.st.lt e' h1
 have hfew:=hk.few
 have hcon:=(hC gk hg).run w lc.blk lm.blk en clock ks' hbl hcell hmb hkeys hst (fun k hm=>hk.len k (hperm.mem_iff.1 hm)) (by rw [hperm.length_eq];exact hfew)
 rw [Ztx hperm,hperm.length_eq] at hcon
 simp only [Nat.add_zero,hbase]
 refine hcon.mono fun ee w' ⟨v',t,he,hrow,hnil,hb⟩=>?_
 have hnil2 : v'=.slice none 0 0↔ks=[]:=by
  rw [hnil]
  constructor
  ·rintro rfl;exact List.eq_nil_of_length_eq_zero (by rw [← hperm.length_eq];rfl)
  ·rintro rfl;exact List.eq_nil_of_length_eq_zero (by rw [hperm.length_eq];rfl)
 have hS':=hS.below hb
 unfold Zgy at ho
 by_cases h0 : ks=[]
 ·rw [if_pos h0] at ho
  cases ho
  exact ⟨ι,_,.refl ι,he,by rw [hnil2.2 h0];exact .sc rfl,hS'⟩
 ·rw [if_neg h0] at ho
  cases ho
  rcases hrow.2 with ⟨hv,_⟩ | ⟨gb,cap,cur,rfl,hge,hgb,r1,r2,r3,r4⟩
  ·exact absurd (hnil2.1 hv) h0
  have hlen : ((Qs ks).map strv).length=ks.length:=by rw [List.length_map,ZjA]
  rw [Nat.mul_one] at r3 r4
  have hadd:=hS'.add (o:=.cells ((Qs ks).map strv) 1 true false) (l:=⟨gb,0,cap,1,true⟩) ⟨⟨gb,0,cap,1,true⟩,cur,t,(0,0),Qg _ _ _,rfl,rfl,hgb,by show 0+_≤cap;omega,by show cap≤cur.size;omega,by
   show RVs _ _ ((cur.toList.drop 0).take _)
   rw [List.drop_zero,hlen,r4]
   refine ⟨rfl,fun i hi=>?_⟩
   rw [List.getD_eq_getElem?_getD,List.getElem?_eq_getElem hi]
   simp only [List.getElem_map,Option.getD_some]
   exact .sc rfl,fun _=>⟨Nat.le_trans hS.size hge,.inl rfl,fun h=>by cases h⟩,by simp,fun x hx=>by
   obtain ⟨k,_,rfl⟩:=List.mem_map.1 hx
   rfl⟩ (fun i oi li hi hw hl=>by
   have:=((hS.obj i oi hi).newer hw li hl).2
   show li.blk≠gb
   omega) (fun b hbp=>by
   have p1:=(hS.prot b hbp).1
   show gb≠b
   rintro rfl
   rw [Array.getElem?_eq_none hge] at p1;cases p1) (fun _ j cs es nx lj hj hlj hbe=>by
   rcases hS.views j cs es nx lj hj hlj with ⟨l',k1,k2⟩ | ⟨⟨c,el,fr,k1,_⟩,_⟩
   ·exact ⟨l',k1,k2⟩
   ·have:=(Array.getElem?_eq_some_iff.1 k1).1
    have hbe : lj.blk=gb:=hbe
    omega)
  refine ⟨_,_,JW hS' _,he,?_,hadd⟩
  have:=RV.slc (ι:=YW ι H.length ⟨gb,0,cap,1,true⟩) (id:=H.length) (o:=0) (n:=ks.length) (c:=ks.length) (c':=cap) (Qg _ _ _) (Nat.le_refl _) r1 (fun h=>by cases h) (by simp)
  simpa using this
end
end Go.Proofs.YtedkoimihknggaaGreatDoor.A
namespace Go.Proofs.YtedkoimihknggaaGreatDoor.A
set_option linter.unusedVariables false
set_option linter.unusedSimpArgs false
section
variable {α : Type}
def Zk (k : List UInt8) : List (List UInt8 × α)→Option α
 | []=>none
 | p :: m=>if p.1=k then some p.2 else Zk k m
def Zbc (k : List UInt8) (m : List (List UInt8 × α)) : List (List UInt8 × α):=m.filter fun p=>decide (p.1≠k)
def JB (k : List UInt8) (v : α) (m : List (List UInt8 × α)) : List (List UInt8 × α):=
 if (Zk k m).isSome then m.map fun p=>if p.1=k then (k,v) else p else m++[(k,v)]
variable {k : List UInt8} {v : α} {m : List (List UInt8 × α)}
theorem Zem : ∀ {m : List (List UInt8 × α)},Zk k m=none↔∀ p∈m,p.1≠k
 | []=>by simp [Zk]
 | p :: m=>by
  simp only [Zk]
  split
  ·rename_i h;simp [h]
  ·rename_i h
   rw [Zem]
   simp [h]
theorem Zae : ∀ {m : List (List UInt8 × α)} {v : α},Zk k m=some v→(k,v)∈m
 | [],v,h=>by cases h
 | p :: m,v,h=>by
  simp only [Zk] at h
  split at h
  ·rename_i hp
   cases h
   subst hp
   simp
  ·exact List.mem_cons_of_mem _ (Zae h)
theorem Zaf : ∀ {m : List (List UInt8 × α)} {v : α},(m.map (·.1)).Nodup→(k,v)∈m→Zk k m=some v
 | [],v,_,h=>by cases h
 | p :: m,v,hn,h=>by
  simp only [List.map_cons,List.nodup_cons,List.mem_map,not_exists,not_and] at hn
  simp only [Zk]
  rcases List.mem_cons.1 h with h | h
  ·subst h;rw [if_pos rfl]
  ·rw [if_neg fun e=>hn.1 _ h e.symm]
   exact Zaf hn.2 h
theorem Zwt : ∀ {m : List (List UInt8 × α)} {v : α},Zk k m=some v→∃ j : Nat,m[j]?=some (k,v)
 | m,v,h=>List.getElem?_of_mem (Zae h)
theorem ZhD : ∀ {m : List (List UInt8 × α)} {j : Nat} {v0 : α},(m.map (·.1)).Nodup→m[j]?=some (k,v0)→m.set j (k,v)=m.map fun p=>if p.1=k then (k,v) else p
 | [],j,v0,_,h=>by simp at h
 | p :: m,0,v0,hn,h=>by
  have : p=(k,v0):=by simpa using h
  subst this
  simp only [List.map_cons,List.nodup_cons,List.mem_map,not_exists,not_and] at hn
  simp only [List.set_cons_zero,List.map_cons,if_true]
  congr 1
  conv=>lhs;rw [← List.map_id m]
  refine List.map_congr_left fun q hq=>?_
  rw [if_neg (hn.1 q hq)];rfl
 | p :: m,j+1,v0,hn,h=>by
  have h' : m[j]?=some (k,v0):=by simpa using h
  simp only [List.map_cons,List.nodup_cons,List.mem_map,not_exists,not_and] at hn
  have hp : ¬ p.1=k:=fun e=>hn.1 (k,v0) (List.mem_of_getElem? h') e.symm
  simp only [List.set_cons_succ,List.map_cons,if_neg hp]
  rw [ZhD hn.2 h']
theorem Zfw : ∀ {m : List (List UInt8 × α)} {j : Nat} {v0 : α},(m.map (·.1)).Nodup→m[j]?=some (k,v0)→m.eraseIdx j=Zbc k m
 | [],j,v0,_,h=>by simp at h
 | p :: m,0,v0,hn,h=>by
  have : p=(k,v0):=by simpa using h
  subst this
  simp only [List.map_cons,List.nodup_cons,List.mem_map,not_exists,not_and] at hn
  unfold Zbc
  rw [List.eraseIdx_cons_zero,List.filter_cons,if_neg (by simp)]
  symm
  rw [List.filter_eq_self]
  exact fun q hq=>decide_eq_true (hn.1 q hq)
 | p :: m,j+1,v0,hn,h=>by
  have h' : m[j]?=some (k,v0):=by simpa using h
  simp only [List.map_cons,List.nodup_cons,List.mem_map,not_exists,not_and] at hn
  have hp : ¬ p.1=k:=fun e=>hn.1 (k,v0) (List.mem_of_getElem? h') e.symm
  have ih:=Zfw hn.2 h'
  unfold Zbc at ih ⊢
  rw [List.eraseIdx_cons_succ,List.filter_cons,if_pos (by simpa using hp),ih]
theorem Zum (h : Zk k m=none) : Zbc k m=m:=by
 unfold Zbc
 rw [List.filter_eq_self]
 exact fun p hp=>decide_eq_true (Zem.1 h p hp)
theorem ZmA (h : (m.map (·.1)).Nodup) : ((JB k v m).map (·.1)).Nodup:=by
 unfold JB
 split
 ·rw [List.map_map]
  have : ((fun p : List UInt8 × α=>p.1) ∘ fun p=>if p.1=k then (k,v) else p)=fun p=>p.1:=by
   funext p
   simp only [Function.comp]
   split
   ·rename_i h;exact h.symm
   ·rfl
  rw [this];exact h
 ·rename_i hs
  have hn : Zk k m=none:=by cases e : Zk k m <;> simp_all
  rw [List.map_append,List.nodup_append]
  refine ⟨h,by simp,fun a ha b hb=>?_⟩
  have hb : b=k:=by simpa using hb
  obtain ⟨p,hp,rfl⟩:=List.mem_map.1 ha
  rw [hb];exact Zem.1 hn p hp
theorem ZtL (h : (m.map (·.1)).Nodup) : ((Zbc k m).map (·.1)).Nodup:=(List.filter_sublist.map _).nodup h
end
theorem ZuT {a b : List UInt8} : ((⟨a.toArray⟩ : ByteArray)==⟨b.toArray⟩)=(a==b):=by
 rw [Znr]
 simp
theorem ZgP {α : Type} {enc : α→Value} {k : List UInt8} : ∀ {es : List (Value × Value × Nat)} {m : List (List UInt8 × α)} (i : Nat),es.map kv=m.map (fun p=>(strv p.1,enc p.2))→
  (Zk k m=none∧JS .str (strv k) es i=some none)∨∃ j v,m[j]?=some (k,v)∧Zk k m=some v∧JS .str (strv k) es i=some (some (i+j,enc v))
 | [],[],i,_=>.inl ⟨rfl,rfl⟩
 | e :: es,p :: m,i,h=>by
  simp only [List.map_cons,List.cons.injEq,kv,Prod.mk.injEq] at h
  obtain ⟨⟨h1,h2⟩,h3⟩:=h
  have hs : Zbi .str (strv k) e.1=some (k==p.1):=by rw [h1];simp only [Zbi,strv,ZuT]
  simp only [JS,hs,Zk]
  by_cases hk : p.1=k
  ·rw [show (k==p.1)=true by rw [hk];simp,if_pos hk]
   exact .inr ⟨0,p.2,by rw [← hk];rfl,rfl,by rw [h2];rfl⟩
  ·rw [show (k==p.1)=false by rw [beq_eq_false_iff_ne];exact Ne.symm hk,if_neg hk]
   rcases ZgP (i+1) h3 with ⟨h4,h5⟩ | ⟨j,v,h4,h5,h6⟩
   ·exact .inl ⟨h4,h5⟩
   ·exact .inr ⟨j+1,v,by simpa using h4,h5,by simp only;rw [h6];congr 3;omega⟩
 | [],_ :: _,_,h=>by cases h
 | _ :: _,[],_,h=>by cases h
theorem Zg6 {u : Value} : ∀ {es : List (Value × Value × Nat)} {j : Nat} {p : Value × Value},(es.map kv)[j]?=some p→(Yp es j u).map kv=(es.map kv).set j (p.1,u)
 | [],j,p,h=>by simp at h
 | e :: es,0,p,h=>by
  have : kv e=p:=by simpa using h
  subst this
  simp [Yp,kv]
 | e :: es,j+1,p,h=>by
  have:=Zg6 (u:=u) (es:=es) (j:=j) (p:=p) (by simpa using h)
  simp only [Yp] at this
  simp only [Yp,List.modify_succ_cons,List.map_cons,List.set_cons_succ,this]
section
variable {α : Type} {enc : α→Value} {H H' : Zd} {id : Nat} {m : List (List UInt8 × α)} {k : List UInt8} {v : α}
structure Ya (enc : α→Value) (H : Zd) (id : Nat) (m : List (List UInt8 × α)) : Prop where
 ex : ∃ es,es.map kv=m.map (fun p=>(strv p.1,enc p.2))∧((∃ clk,H[id]?=some (.map es clk)∧ZaU es clk)∨H[id]?=some (.mapU es))
 nod : (m.map (·.1)).Nodup
theorem Ya.lt (h : Ya enc H id m) : id < H.length:=by
 obtain ⟨es,_,h1 | h1⟩:=h.ex
 ·obtain ⟨clk,h1,_⟩:=h1;exact Z5 h1
 ·exact Z5 h1
theorem Ya.keep (h : Ya enc H id m) (hk : H'[id]?=H[id]?) : Ya enc H' id m:=by
 obtain ⟨es,h1,h2⟩:=h.ex
 exact ⟨⟨es,h1,by rw [hk];exact h2⟩,h.nod⟩
theorem Ya.hle (h : Ya enc H id m) (hl : HLe H H') : Ya enc H' id m:=h.keep (hl.step.keep id h.lt (by simp))
theorem Ya.step {o1 o2 : List Nat} (h : Ya enc H id m) (hs : Zw o1 H o2 H') (hn : id∉o1) : Ya enc H' id m:=h.keep (hs.keep id h.lt hn)
theorem Za3 : okK .str (strv k)=true:=rfl
theorem Ya.len (h : Ya enc H id m) : lenM (.map (some id)) H=some (iv m.length,H):=by
 obtain ⟨es,h1,h2⟩:=h.ex
 have hl : es.length=m.length:=by have:=congrArg List.length h1;simpa using this
 unfold lenM
 rcases h2 with ⟨clk,h2,_⟩ | h2 <;> simp only [h2,hl]
theorem Ya.lkp (h : Ya enc H id m) {z : Value} {ok : Bool} : A.lkp .str z ok (.map (some id)) (strv k) H=
  some (match Zk k m with
   | some v=>bif ok then .tuple #[enc v,.bool true] else enc v
   | none=>bif ok then .tuple #[z,.bool false] else z,H):=by
 obtain ⟨es,h1,h2⟩:=h.ex
 unfold A.lkp
 rcases ZgP (k:=k) 0 h1 with ⟨h3,h4⟩ | ⟨j,v,h3,h4,h5⟩
 ·rcases h2 with ⟨clk,h2,_⟩ | h2 <;> simp only [h2,Za3,cond_true,h3,h4]
 ·rcases h2 with ⟨clk,h2,_⟩ | h2 <;> simp only [h2,Za3,cond_true,h4,h5]
theorem Ya.mup (h : Ya enc H id m) : ∃ H',A.mup .str (.map (some id)) (strv k) (enc v) H=some (undef,H')∧Ya enc H' id (JB k v m)∧Zw [id] H [id] H'∧H'.length=H.length:=by
 obtain ⟨es,h1,h2⟩:=h.ex
 have hst : ∀ o,Zw [id] H [id] (H.set id o):=fun o=>⟨by simp,fun j hj hn=>List.getElem?_set_ne (fun e=>hn (by simp [e])),fun j hj=>.inl hj⟩
 have hnod:=ZmA (k:=k) (v:=v) h.nod
 have hget : ∀ {j : Nat} {v0 : α},m[j]?=some (k,v0)→(es.map kv)[j]?=some (strv k,enc v0):=fun hj=>by rw [h1,List.getElem?_map,hj];rfl
 rcases ZgP (k:=k) 0 h1 with ⟨h3,h4⟩ | ⟨j,v0,h3,h4,h5⟩
 ·have ha : JB k v m=m++[(k,v)]:=by unfold JB;rw [h3];rfl
  rw [ha] at hnod ⊢
  have hm : ∀ b,(es++[(strv k,enc v,b)]).map kv=(m++[(k,v)]).map fun p=>(strv p.1,enc p.2):=fun b=>by rw [List.map_append,List.map_append,h1];rfl
  rcases h2 with ⟨clk,h2,hs⟩ | h2
  ·refine ⟨H.set id (.map (es++[(strv k,enc v,clk)]) (clk+1)),?_,⟨⟨_,hm clk,.inl ⟨clk+1,ZI h2,⟨fun e he=>?_,?_⟩⟩⟩,hnod⟩,hst _,by simp⟩
   ·unfold A.mup;simp only [h2,Za3,cond_true,h4]
   ·rcases List.mem_append.1 he with he | he
    ·have:=hs.lt e he;omega
    ·have : e=(strv k,enc v,clk):=by simpa using he
     rw [this];exact Nat.lt_succ_self _
   ·rw [List.map_append,List.nodup_append]
    refine ⟨hs.nod,by simp,fun a ha b hb=>?_⟩
    have hb : b=clk:=by simpa using hb
    obtain ⟨e,he,rfl⟩:=List.mem_map.1 ha
    have:=hs.lt e he;omega
  ·refine ⟨H.set id (.mapU (es++[(strv k,enc v,0)])),?_,⟨⟨_,hm 0,.inr (ZI h2)⟩,hnod⟩,hst _,by simp⟩
   unfold A.mup;simp only [h2,Za3,cond_true,h4];rfl
 ·have ha : JB k v m=m.set j (k,v):=by unfold JB;rw [h4];exact (ZhD h.nod h3).symm
  rw [ha] at hnod ⊢
  rw [Nat.zero_add] at h5
  have hm : (Yp es j (enc v)).map kv=(m.set j (k,v)).map fun p=>(strv p.1,enc p.2):=by
   rw [Zg6 (hget h3),h1,List.map_set]
  rcases h2 with ⟨clk,h2,hs⟩ | h2
  ·refine ⟨H.set id (.map (Yp es j (enc v)) clk),?_,⟨⟨_,hm,.inl ⟨clk,ZI h2,Zj9 hs⟩⟩,hnod⟩,hst _,by simp⟩
   unfold A.mup;simp only [h2,Za3,cond_true,h5]
  ·refine ⟨H.set id (.mapU (Yp es j (enc v))),?_,⟨⟨_,hm,.inr (ZI h2)⟩,hnod⟩,hst _,by simp⟩
   unfold A.mup;simp only [h2,Za3,cond_true,h5]
theorem ZpO (H : Zd) : ∃ H',mkm H=some (.map (some H.length),H')∧Ya enc H' H.length []∧HLe H H':=
 ⟨_,rfl,⟨⟨[],rfl,.inl ⟨0,Zm,⟨by simp,by simp⟩⟩⟩,by simp⟩,.app _ _⟩
theorem Ya.keys (h : Ya enc H id m) {gks : List FuncId} {gc gk : FuncId} {c e : Nat} (hg : gk∈gks) (hc : H[c]?=some (.cells [.map (some id)] e false false)) (hf : m.length≤1000000) (hl : ∀ p∈m,p.1.length≤1000000) :
  ∃ v q H',Zce gks gc [.func (.func gk) #[] #[pt c],.func (.func gc) #[] #[]] H=some (v,H')∧Zs H' v ((Qs (m.map (·.1))).map strv) q∧HLe H H'∧∀ j∈q,H.length≤j:=by
 obtain ⟨es,h1,h2⟩:=h.ex
 have hk : Zfg es (m.map (·.1)):=⟨by
  have:=congrArg (List.map (·.1)) h1
  rw [Zeh] at this
  rw [this];simp [Function.comp_def],h.nod,by simpa using hf,fun k hk=>by
  obtain ⟨p,hp,rfl⟩:=List.mem_map.1 hk
  exact hl p hp⟩
 rw [Zqw hg hc hk h2]
 unfold Zgy
 by_cases h0 : m.map (·.1)=[]
 ·rw [if_pos h0,h0]
  have hz : Qs ([] : List (List UInt8))=[]:=List.mergeSort_nil
  rw [hz]
  exact ⟨_,[],_,rfl,Zs.nil,.refl _,by simp⟩
 ·rw [if_neg h0]
  refine ⟨_,[H.length],_,rfl,.inr ⟨H.length,[],true,?_,rfl,by simp⟩,.app _ _,by simp⟩
  simp [ZjA]
end
end Go.Proofs.YtedkoimihknggaaGreatDoor.A

namespace Go.Proofs.YtedkoimihknggaaGreatDoor.A
set_option linter.unusedVariables false
set_option linter.unusedSimpArgs false
def Zg1 (args : List Value) : M Value:=fun H=>
 match args with
 | [.string s,.int .u8 c]=>some (iv (Go.Lib.indexByte s.data.toList c.toNat.toUInt8),H)
 | _=>none
def Zhp (args : List Value) : M Value:=fun H=>
 match args with
 | [.string s,.int .u8 c]=>some (iv (Go.Lib.countByte s.data.toList c.toNat.toUInt8),H)
 | _=>none
section
variable {P : Program} {G : Nat} {w0 : Qe}
theorem Zt5 {g : FuncId} (he : ZnX P g Extern.BytealgIndexByte.indexByte) : Zek P G w0 g Zg1:=by
 intro args H v H1 h
 refine .inr ⟨_,he,fun ι w args' hS hr=>?_⟩
 unfold Zg1 at h
 split at h
 ·rename_i s c
  cases h
  obtain ⟨p',r',rfl,hp',hr'⟩:=hr.cons_inv
  obtain ⟨y',r2,rfl,hy',hr2⟩:=hr'.cons_inv
  have:=hr2.nil_inv;subst this
  have:=hy'.int_inv;subst this
  have:=hp'.scalar_inv rfl;subst this
  exact ⟨ι,_,w,.refl ι,hS,.sc rfl,Go.Lib.run_indexByteString s c w⟩
 ·cases h
theorem ZtQ {g : FuncId} (he : ZnX P g Extern.BytealgCount.count) : Zek P G w0 g Zhp:=by
 intro args H v H1 h
 refine .inr ⟨_,he,fun ι w args' hS hr=>?_⟩
 unfold Zhp at h
 split at h
 ·rename_i s c
  cases h
  obtain ⟨p',r',rfl,hp',hr'⟩:=hr.cons_inv
  obtain ⟨y',r2,rfl,hy',hr2⟩:=hr'.cons_inv
  have:=hr2.nil_inv;subst this
  have:=hy'.int_inv;subst this
  have:=hp'.scalar_inv rfl;subst this
  exact ⟨ι,_,w,.refl ι,hS,.sc rfl,Go.Lib.run_countString s c w⟩
 ·cases h
end
theorem ZsI (b : UInt8) : (b.toNat : Int).toNat.toUInt8=b:=by
 rw [Int.toNat_natCast]
 simp
theorem Zyw {s : List UInt8} {b : UInt8} {H : Zd} : Zg1 [strv s,.int .u8 b.toNat] H=some (iv (Go.Lib.indexByte s b),H):=by
 unfold Zg1 strv
 simp only [ZsI]
theorem Zza {s : List UInt8} {b : UInt8} {H : Zd} : Zhp [strv s,.int .u8 b.toNat] H=some (iv (s.count b),H):=by
 unfold Zhp strv Go.Lib.countByte
 simp only [ZsI]
theorem ZdV {b : UInt8} : ∀ {s : List UInt8},Go.Lib.indexByte s b=if b∈s then (((s.takeWhile (· !=b)).length : Nat) : Int) else -1
 | []=>rfl
 | c :: s=>by
  have ih:=ZdV (b:=b) (s:=s)
  unfold Go.Lib.indexByte
  by_cases hc : c=b
  ·subst hc;simp
  ·have h1 : (c==b)=false:=beq_eq_false_iff_ne.2 hc
   have h2 : (c !=b)=true:=by simp [hc]
   rw [h1,List.takeWhile_cons,h2,ih]
   by_cases hm : b∈s
   ·have : ¬ ((((s.takeWhile (· !=b)).length : Nat) : Int)==-1)=true:=by simp
    simp [hm,this]
   ·have hm2 : ¬ b∈c :: s:=by simp [hm,Ne.symm hc]
    simp [hm,Ne.symm hc]
end Go.Proofs.YtedkoimihknggaaGreatDoor.A

namespace Go.Proofs.YtedkoimihknggaaGreatDoor.A
set_option linter.unusedVariables false
set_option linter.unusedSimpArgs false
theorem Zo2 {α β : Type} {f : α→β} {m m' : List β} (h : m.Perm m') : ∀ {l : List α},l.map f=m→∃ l' : List α,l'.Perm l∧l'.map f=m':=by
 induction h with
 | nil=>intro l h;exact ⟨l,.refl _,h⟩
 | cons x _ ih=>
  intro l h
  cases l with
  | nil=>cases h
  | cons a l=>
   simp only [List.map_cons,List.cons.injEq] at h
   obtain ⟨l',h1,h2⟩:=ih h.2
   exact ⟨a :: l',h1.cons a,by simp [h.1,h2]⟩
 | swap x y l=>
  intro q h
  match q,h with
  | a :: b :: q,h=>
   simp only [List.map_cons,List.cons.injEq] at h
   exact ⟨b :: a :: q,.swap a b q,by simp [h.1,h.2.1,h.2.2]⟩
 | trans _ _ ih1 ih2=>
  intro l h
  obtain ⟨l1,h1,h2⟩:=ih1 h
  obtain ⟨l2,h3,h4⟩:=ih2 h2
  exact ⟨l2,h3.trans h1,h4⟩
def Zgx : Zc→Bool
 | .map _ _=>true
 | .mapU _=>true
 | _=>false
def ZfL (H : Zd) : List (Value × Value × Nat)→Option (List Zc)
 | []=>some []
 | e :: es=>match e.2.1,ZfL H es with
  | .map (some s),some l=>match H[s]? with
   | some x=>if Zgx x then some (x :: l) else none
   | none=>none
  | _,_=>none
def ZdU (base : Nat) : List (Value × Value × Nat)→List (Value × Value × Nat)
 | []=>[]
 | e :: es=>(e.1,.map (some base),0) :: ZdU (base+1) es
open Classical in
noncomputable def Zqu (H : Zd) (o : Nat) : Option (List (Value × Value × Nat)):=
 match H[o]? with
 | some (.map es clk)=>if ZaU es clk then some es else none
 | some (.mapU es)=>some es
 | _=>none
open Classical in
noncomputable def Znh (args : List Value) : M Value:=fun H=>
 match args with
 | [.pointer (some ⟨g,0,none⟩)]=>match H[g]? with
  | some (.cells [.map (some o)] _ false false)=>match Zqu H o with
   | some es=>match ZfL H es with
    | some l=>if ∃ ks,Zfg es ks then some (pt (H.length+l.length+1),H++l++[.mapU (ZdU H.length es)]++[.cells [.map (some (H.length+l.length))] 1 false false]) else none
    | none=>none
   | none=>none
  | _=>none
 | _=>none
section
variable {P : Program} {w0 : Qe} {ι : Nat→Option Loc} {H H1 : Zd} {w w' : World} {v : Value} {G : Nat}
theorem ZvE {args : List Value} (h : Znh args H=some (v,H1)) : ∃ g o e es ks l,args=[pt g]∧H[g]?=some (.cells [.map (some o)] e false false)∧Zqu H o=some es∧Zfg es ks∧ZfL H es=some l∧v=pt (H.length+l.length+1)∧H1=H++l++[.mapU (ZdU H.length es)]++[.cells [.map (some (H.length+l.length))] 1 false false]:=by
 unfold Znh at h
 split at h
 ·rename_i g
  split at h
  ·rename_i o e hg
   split at h
   ·rename_i es hes
    split at h
    ·rename_i l hl
     split at h
     ·rename_i hk
      obtain ⟨ks,hk⟩:=hk
      cases h
      exact ⟨g,o,e,es,ks,l,rfl,hg,hes,hk,hl,rfl,rfl⟩
     ·cases h
    ·cases h
   ·cases h
  ·cases h
 ·cases h
structure Zsy (P : Program) (g : FuncId) : Prop where
 c : ZbG P g
 run : ∀ (w : World) (gb b : Nat) (es : Array MapEntry) (clock : Nat),gb < w.heap.size→w.cell? ⟨gb,0,none⟩=some (.map (some b))→w.heap[b]?=some (.map es clock)→Go.MapKept.Stamped es clock→
  (∀ x∈es.toList,∃ k : List UInt8,x.key=strv k)→(∀ x∈es.toList,∃ sb ses sclk,x.val=.map (some sb)∧w.heap[sb]?=some (.map ses sclk))→
  Calls P g #[.pointer (some ⟨gb,0,none⟩)] w fun e w'=>∃ (gb' ob : Nat) (el : TypeId) (en : Array MapEntry) (ck : Nat) (L : List (MapEntry × Nat)),e=.returned (.pointer (some ⟨gb',0,none⟩))∧
   w'.heap[gb']?=some (.cells #[.map (some ob)] el (0,0))∧w'.heap[ob]?=some (.map en ck)∧Go.MapKept.Stamped en ck∧
   en.toList.map (fun x=>(x.key,x.val))=L.map (fun p=>(p.1.key,Value.map (some p.2)))∧(L.map (·.1)).Perm es.toList∧
   (∀ p∈L,∃ sb,p.1.val=.map (some sb)∧w'.heap[p.2]?=w.heap[sb]?)∧(gb' :: ob :: L.map (·.2)).Nodup∧(∀ q∈gb' :: ob :: L.map (·.2),w.heap.size≤q)∧Go.RowKit.Below w.heap.size w w'
def Zdr (ι : Nat→Option Loc) (H : Zd) (b : Nat) : Prop:=(∀ i oi li,H[i]?=some oi→oi.wr=true→ι i=some li→li.blk≠b)∧
 ∀ j cs es nx lj,H[j]?=some (.view cs es nx)→ι j=some lj→lj.blk=b→∃ l',ι nx=some l'∧l'.blk=lj.blk∧l'.base=lj.base
theorem Zdr.add {o : Zc} {l : Loc} {b : Nat} (h : Zdr ι H b) (hS : Sim G w0 ι H w) (hb : l.blk≠b) (hov : o.isV=false:=by rfl) : Zdr (YW ι H.length l) (H++[o]) b:=by
 refine ⟨?_,fun j cs es nx lj hj hlj hbe=>?_⟩
 rotate_left
 ·rcases Nat.lt_trichotomy j H.length with hlt | rfl | hgt
  ·rw [List.getElem?_append_left hlt] at hj
   have : YW ι H.length l j=ι j:=by unfold YW;simp [Nat.ne_of_lt hlt]
   rw [this] at hlj
   obtain ⟨l',k1,k2⟩:=h.2 j cs es nx lj hj hlj hbe
   exact ⟨l',JW hS _ _ _ k1,k2⟩
  ·rw [Zm] at hj
   rw [Option.some.inj hj] at hov;cases hov
  ·rw [List.getElem?_eq_none (by simp;omega)] at hj;cases hj
 intro i oi li hi hw hl
 rcases Nat.lt_trichotomy i H.length with hlt | rfl | hgt
 ·rw [List.getElem?_append_left hlt] at hi
  have : YW ι H.length l i=ι i:=by unfold YW;simp [Nat.ne_of_lt hlt]
  rw [this] at hl
  exact h.1 i oi li hi hw hl
 ·have : YW ι H.length l H.length=some l:=Qg _ _ _
  rw [this] at hl
  cases hl
  exact hb
 ·rw [List.getElem?_eq_none (by simp;omega)] at hi;cases hi
abbrev ZfF (b : Nat) : Loc:=⟨b,0,0,0,false⟩
def Zgm (ι : Nat→Option Loc) : Value→Value
 | .map (some s)=>.map ((ι s).map (·.blk))
 | v=>v
theorem Zvd {H : Zd} {w' : World} (hS : Sim G w0 ι H w) : ∀ (es : List (Value × Value × Nat)) (L : List (MapEntry × Nat)) (l : List Zc) (ι0 : Nat→Option Loc) (H0 : Zd),Sim G w0 ι0 H0 w'→Le ι ι0→ZfL H es=some l→
  L.map (fun p=>(p.1.key,p.1.val))=es.map (fun e=>(e.1,Zgm ι e.2.1))→(∀ p∈L,∃ sb,p.1.val=.map (some sb)∧w'.heap[p.2]?=w.heap[sb]?)→(L.map (·.2)).Nodup→(∀ p∈L,Zdr ι0 H0 p.2∧w0.heap.size≤p.2∧∀ b∈w0.prot,p.2≠b)→
  ∃ ι1,Le ι0 ι1∧Sim G w0 ι1 (H0++l) w'∧l.length=es.length∧(∀ i p,L[i]?=some p→ι1 (H0.length+i)=some (ZfF p.2))∧(∀ b,Zdr ι0 H0 b→b∉L.map (·.2)→Zdr ι1 (H0++l) b)
 | [],L,l,ι0,H0,h0,hle,hl,hm,_,_,_=>by
  cases hl
  have : L=[]:=by simpa using hm
  subst this
  exact ⟨ι0,.refl _,by rw [List.append_nil];exact h0,rfl,fun i p h=>by simp at h,fun b h _=>by rw [List.append_nil];exact h⟩
 | e :: es,L,l,ι0,H0,h0,hle,hl,hm,hc,hn,hf=>by
  cases L with
  | nil=>simp at hm
  | cons p L=>
   simp only [List.map_cons,List.cons.injEq,Prod.mk.injEq] at hm
   unfold ZfL at hl
   split at hl
   ·rename_i _ _ s l' he hl'
    split at hl
    ·rename_i x hx
     split at hl
     ·rename_i hmp
      cases hl
      obtain ⟨sb,hsb,hcp⟩:=hc p (by simp)
      obtain ⟨hfp,hgp,hpp⟩:=hf p (by simp)
      rw [he] at hm
      have hv:=hm.1.2
      rw [hsb] at hv
      have hsl : ∃ ls,ι s=some ls∧ls.blk=sb:=by
       simp only [Zgm] at hv
       cases hs : ι s with
       | none=>rw [hs] at hv;simp at hv
       | some ls=>rw [hs] at hv;exact ⟨ls,rfl,by simpa using hv.symm⟩
      obtain ⟨ls,hls,rfl⟩:=hsl
      have hR : ZbJ w0 (YW ι0 H0.length (ZfF p.2)) H0.length x w':=by
       have hle2 : Le ι (YW ι0 H0.length (ZfF p.2)):=hle.trans (JW h0 _)
       cases x with
       | map es' clk=>
        obtain ⟨en,hb,hge,hE⟩:=hS.mapR hx hls
        exact ⟨_,en,Qg _ _ _,hcp.trans hb,hgp,hE.mono hle2⟩
       | mapU es'=>
        obtain ⟨en,clk,es2,hb,hge,hE,hp⟩:=hS.mapUR hx hls
        exact ⟨_,en,clk,es2,Qg _ _ _,hcp.trans hb,hgp,hE.mono hle2,hp⟩
       | _=>simp [Zgx] at hmp
      have hov : x.isV=false:=by cases x <;> first | rfl | simp [Zgx] at hmp
      have h1:=h0.add hR hfp.1 hpp (fun _=>hfp.2) hov
      simp only [List.map_cons,List.nodup_cons] at hn
      obtain ⟨ι1,a1,a2,a3,a4,a5⟩:=Zvd hS es L l' _ _ h1 (hle.trans (JW h0 _)) hl' hm.2 (fun q hq=>hc q (by simp [hq])) hn.2 (fun q hq=>by
       obtain ⟨b1,b2⟩:=hf q (by simp [hq])
       exact ⟨b1.add h0 (fun e=>hn.1 (List.mem_map.2 ⟨q,hq,e.symm⟩)) hov,b2⟩)
      refine ⟨ι1,(JW h0 _).trans a1,by rw [List.append_assoc,List.singleton_append] at a2;exact a2,by simp [a3],fun i q hi=>?_,fun b hb hnb=>?_⟩
      ·cases i with
       | zero=>
        have : p=q:=by simpa using hi
        subst this
        exact a1 _ _ (Qg _ _ _)
       | succ i=>
        have:=a4 i q (by simpa using hi)
        rwa [List.length_append,List.length_singleton,Nat.add_assoc,Nat.add_comm 1 i] at this
      ·simp only [List.map_cons,List.mem_cons,not_or] at hnb
       have:=a5 b (hb.add h0 (Ne.symm hnb.1) hov) hnb.2
       rwa [List.append_assoc,List.singleton_append] at this
     ·cases hl
    ·cases hl
   ·cases hl
theorem Zdr.sim (h : Sim G w0 ι H w) {b : Nat} (hb : w.heap.size≤b) : Zdr ι H b:=⟨fun i oi li hi hw hl=>by
 have:=((h.obj i oi hi).newer hw li hl).2
 omega,fun j cs es nx lj hj hlj hbe=>by
 rcases h.views j cs es nx lj hj hlj with ⟨l',k1,k2⟩ | ⟨⟨c,el,fr,k1,_⟩,_⟩
 ·exact ⟨l',k1,k2⟩
 ·have:=(Array.getElem?_eq_some_iff.1 k1).1
  omega⟩
theorem Zn0 (h : Sim G w0 ι H w) {b : Nat} (hb : w.heap.size≤b) : ∀ c∈w0.prot,b≠c:=fun c hc e=>by
 have p1:=(h.prot c hc).1
 subst e
 rw [Array.getElem?_eq_none hb] at p1;cases p1
def Zrj (B : List ((MapEntry × Nat) × Nat)) (en : List MapEntry) : List (Value × Value × Nat):=List.zipWith (fun b x=>(b.1.1.key,Value.map (some b.2),x.born)) B en
theorem Zrn : ∀ (B : List ((MapEntry × Nat) × Nat)) (en : List MapEntry),en.map (fun x=>(x.key,x.val))=B.map (fun b=>(b.1.1.key,Value.map (some b.1.2)))→(∀ b∈B,QC b.1.1.key=true∧ι b.2=some (ZfF b.1.2))→
  Jg ι (Zrj B en) en∧(Zrj B en).map kv=B.map (fun b=>(b.1.1.key,Value.map (some b.2)))∧(Zrj B en).map (·.2.2)=en.map (·.born)
 | [],[],_,_=>⟨trivial,rfl,rfl⟩
 | [],_ :: _,h,_=>by simp at h
 | _ :: _,[],h,_=>by simp at h
 | b :: B,x :: en,h,hb=>by
  simp only [List.map_cons,List.cons.injEq,Prod.mk.injEq] at h
  obtain ⟨h1,h2,h3⟩:=Zrn B en h.2 (fun c hc=>hb c (by simp [hc]))
  obtain ⟨g1,g2⟩:=hb b (by simp)
  have hm : RV ι (.map (some b.2)) (.map (some b.1.2)):=.mp (l:=ZfF b.1.2) g2
  refine ⟨⟨⟨g1,h.1.1,by rw [h.1.2];exact hm,rfl⟩,h1⟩,?_,?_⟩
  ·simp only [List.map_cons]
   rw [← h2];rfl
  ·simp only [List.map_cons]
   rw [← h3];rfl
theorem Ztc : ∀ (es : List (Value × Value × Nat)) (L : List (MapEntry × Nat)) (base : Nat),L.map (fun p=>p.1.key)=es.map (·.1)→
  (ZdU base es).map kv=(L.zipIdx base).map (fun b=>(b.1.1.key,Value.map (some b.2)))∧(ZdU base es).map (·.1)=es.map (·.1)
 | [],L,base,h=>by
  have : L=[]:=by simpa using h
  subst this
  exact ⟨rfl,rfl⟩
 | e :: es,[],base,h=>by simp at h
 | e :: es,p :: L,base,h=>by
  simp only [List.map_cons,List.cons.injEq] at h
  obtain ⟨h1,h2⟩:=Ztc es L (base+1) h.2
  refine ⟨?_,?_⟩
  ·simp only [ZdU,List.map_cons,List.zipIdx_cons]
   rw [h1,← h.1];rfl
  ·simp only [ZdU,List.map_cons]
   rw [h2]
theorem Zm7 : ∀ {es : List (Value × Value × Nat)} {l : List Zc},ZfL H es=some l→∀ e∈es,∃ s x,e.2.1=.map (some s)∧H[s]?=some x∧Zgx x=true
 | [],l,h,e,he=>by cases he
 | e0 :: es,l,h,e,he=>by
  unfold ZfL at h
  split at h
  ·rename_i _ _ s l' hv hl'
   split at h
   ·rename_i x hx
    split at h
    ·rename_i hm
     rcases List.mem_cons.1 he with rfl | he
     ·exact ⟨s,x,hv,hx,hm⟩
     ·exact Zm7 hl' e he
    ·cases h
   ·cases h
  ·cases h
theorem ZoU (hle : ∀ e : Value × Value × Nat,∀ n,RV ι e.2.1 n→(∃ s,e.2.1=.map (some s))→n=Zgm ι e.2.1) : ∀ (es : List (Value × Value × Nat)) (en : List MapEntry),Jg ι es en→(∀ e∈es,∃ s,e.2.1=.map (some s))→en.map (fun x=>(x.key,x.val))=es.map (fun e=>(e.1,Zgm ι e.2.1))
 | [],[],_,_=>rfl
 | [],_ :: _,h,_=>h.elim
 | _ :: _,[],h,_=>h.elim
 | e :: es,n :: ns,h,hs=>by
  simp only [List.map_cons]
  rw [ZoU hle es ns h.2 (fun e he=>hs e (by simp [he])),h.1.2.1,hle e _ h.1.2.2.1 (hs e (by simp))]
theorem ZxK {e : Value × Value × Nat} {n : Value} (h : RV ι e.2.1 n) (hs : ∃ s,e.2.1=.map (some s)) : n=Zgm ι e.2.1:=by
 obtain ⟨s,hs⟩:=hs
 rw [hs] at h ⊢
 obtain ⟨l,hl,rfl⟩:=h.map_inv
 simp [Zgm,hl]
theorem ZtK {g : FuncId} (hC : Zsy P g) : Zek P G w0 g Znh:=by
 intro args H v H1 h
 refine .inl ⟨hC.c,fun ι w args' hS hr=>?_⟩
 obtain ⟨gi,o,e1,es,ks,l,rfl,hg,hes,hk,hl,rfl,rfl⟩:=ZvE h
 obtain ⟨x,r,rfl,hx,hr2⟩:=hr.cons_inv
 rw [hr2.nil_inv]
 obtain ⟨lc,hlc,rfl⟩:=hx.ptr_inv
 obtain ⟨cc,el,fr,_,hgrow,hbc,hb5,hb6,hrc,hro,_⟩:=hS.cellsR hg hlc
 have hbase : lc.base=0:=(hro rfl).2.2 hgrow
 have hbl : lc.blk < w.heap.size:=by
  rcases Nat.lt_or_ge lc.blk w.heap.size with h1 | h1
  ·exact h1
  ·rw [Array.getElem?_eq_none h1] at hbc;cases hbc
 obtain ⟨u,hu1,hu2⟩:=hrc.at (o:=0) (by simp)
 obtain ⟨lm,hlm,hu3⟩:=RV.map_inv (id:=o) hu2
 subst hu3
 have hcell : w.cell? ⟨lc.blk,0,none⟩=some (.map (some lm.blk)):=by
  rw [Ze6 hbc]
  simpa [hbase] using hu1
 have hsets:=Zm7 hl
 have hismap : ∀ e∈es,∃ s,e.2.1=.map (some s):=fun e he=>by obtain ⟨s,_,h1,_⟩:=hsets e he;exact ⟨s,h1⟩
 obtain ⟨en,clock,es2,hmb,hE,hperm,hst⟩ : ∃ (en : Array MapEntry) (clock : Nat) (es2 : List (Value × Value × Nat)),w.heap[lm.blk]?=some (.map en clock)∧Zba ι es2 en∧(es2.map kv).Perm (es.map kv)∧ZaU es2 clock:=by
  unfold Zqu at hes
  split at hes
  ·rename_i es0 clk hid
   split at hes
   ·rename_i hst
    cases hes
    obtain ⟨en,hb,_,hE⟩:=hS.mapR hid hlm
    exact ⟨en,_,_,hb,hE,.refl _,hst⟩
   ·cases hes
  ·rename_i es0 hid
   cases hes
   obtain ⟨en,clk,es2,hb,_,hE,hp⟩:=hS.mapUR hid hlm
   exact ⟨en,clk,es2,hb,hE,hp.perm,hp.st⟩
  ·cases hes
 have hmem2 : ∀ e∈es2,∃ f∈es,f.1=e.1∧f.2.1=e.2.1:=fun e he=>by
  have : kv e∈es.map kv:=hperm.mem_iff.1 (List.mem_map.2 ⟨e,he,rfl⟩)
  obtain ⟨f,hf,h1⟩:=List.mem_map.1 this
  unfold kv at h1
  simp only [Prod.mk.injEq] at h1
  exact ⟨f,hf,h1.1,h1.2⟩
 have hismap2 : ∀ e∈es2,∃ s,e.2.1=.map (some s):=fun e he=>by
  obtain ⟨f,hf,_,h2⟩:=hmem2 e he
  rw [← h2];exact hismap f hf
 obtain ⟨k1,k2⟩:=Jg.keys hE
 have hkv:=ZoU (fun e n h hs=>ZxK h hs) es2 en.toList hE hismap2
 have hkeyp : (es2.map (·.1)).Perm (ks.map strv):=by
  have h3:=hperm.map (·.1)
  rw [Zeh,Zeh] at h3
  rw [← hk.keys];exact h3
 have hstr : ∀ x∈en.toList,∃ k : List UInt8,x.key=strv k:=fun x hx=>by
  have h3 : x.key∈es2.map (·.1):=by rw [← k1];exact List.mem_map.2 ⟨x,hx,rfl⟩
  obtain ⟨k,_,h4⟩:=List.mem_map.1 (hkeyp.mem_iff.1 h3)
  exact ⟨k,h4.symm⟩
 have hsets2 : ∀ x∈en.toList,∃ sb ses sclk,x.val=.map (some sb)∧w.heap[sb]?=some (.map ses sclk):=fun x hx=>by
  have h3 : (x.key,x.val)∈es2.map (fun e=>(e.1,Zgm ι e.2.1)):=by rw [← hkv];exact List.mem_map.2 ⟨x,hx,rfl⟩
  obtain ⟨e,he,h4⟩:=List.mem_map.1 h3
  obtain ⟨f,hf,_,hf2⟩:=hmem2 e he
  obtain ⟨s,y,hy1,hy2,hy3⟩:=hsets f hf
  simp only [Prod.mk.injEq] at h4
  rw [← hf2,hy1] at h4
  have hd : y≠.dead:=by rintro rfl;simp [Zgx] at hy3
  obtain ⟨ls,hls,_⟩:=(hS.obj s y hy2).loc hd
  have h5 : x.val=.map (some ls.blk):=by rw [← h4.2];simp [Zgm,hls]
  cases y with
  | map es' clk=>
   obtain ⟨en',hb,_,_⟩:=hS.mapR hy2 hls
   exact ⟨_,_,_,h5,hb⟩
  | mapU es'=>
   obtain ⟨en',clk,_,hb,_,_⟩:=hS.mapUR hy2 hls
   exact ⟨_,_,_,h5,hb⟩
  | _=>simp [Zgx] at hy3
 have hstamp : Go.MapKept.Stamped en clock:=by
  refine ⟨fun x hx=>?_,by rw [k2];exact hst.nod,by rw [k1];exact hkeyp.nodup_iff.2 (Zhx hk.nod)⟩
  have h3 : x.born∈en.toList.map (·.born):=List.mem_map.2 ⟨x,hx,rfl⟩
  rw [k2] at h3
  obtain ⟨e',h1,h2⟩:=List.mem_map.1 h3
  rw [← h2];exact hst.lt e' h1
 simp only [Nat.add_zero,hbase]
 refine (hC.run w lc.blk lm.blk en clock hbl hcell hmb hstamp hstr hsets2).mono fun ee w' ⟨gb',ob,el',en',ck,L,he,hgb,hob,hst',hen',hL,hcp,hnd,hge,hb⟩=>?_
 have hS':=hS.below hb
 have hLkv : (L.map fun p=>(p.1.key,p.1.val)).Perm (es.map fun e=>(e.1,Zgm ι e.2.1)):=by
  have h3:=hL.map (fun x : MapEntry=>(x.key,x.val))
  rw [List.map_map,hkv] at h3
  have h4:=hperm.map (fun q : Value × Value=>(q.1,Zgm ι q.2))
  rw [List.map_map,List.map_map] at h4
  exact h3.trans h4
 obtain ⟨L',hL',hLm⟩:=Zo2 hLkv rfl
 simp only [List.nodup_cons,List.mem_cons,not_or] at hnd
 obtain ⟨⟨n1,n2⟩,n3,n4⟩:=hnd
 have hnod' : (L'.map (·.2)).Nodup:=(hL'.map _).nodup_iff.2 n4
 have hgeL : ∀ p∈L',w.heap.size≤p.2:=fun p hp=>hge _ (by simp only [List.mem_cons,List.mem_map];exact .inr (.inr ⟨p,hL'.mem_iff.1 hp,rfl⟩))
 obtain ⟨ι1,a1,a2,a3,a4,a5⟩:=Zvd hS es L' l ι H hS' (.refl _) hl hLm (fun p hp=>hcp p (hL'.mem_iff.1 hp)) hnod' (fun p hp=>⟨Zdr.sim hS (hgeL p hp),Nat.le_trans hS.size (hgeL p hp),Zn0 hS (hgeL p hp)⟩)
 have hobge:=hge ob (by simp)
 have hgbge:=hge gb' (by simp)
 have hobF : Zdr ι1 (H++l) ob:=a5 ob (Zdr.sim hS hobge) fun hm=>n3 ((hL'.map (·.2)).mem_iff.1 hm)
 have hgbF : Zdr ι1 (H++l) gb':=a5 gb' (Zdr.sim hS hgbge) fun hm=>n2 ((hL'.map (·.2)).mem_iff.1 hm)
 obtain ⟨B,hB,hBm⟩:=Zo2 (f:=Prod.fst) (l:=L'.zipIdx H.length) (m':=L) (by rw [List.zipIdx_map_fst];exact hL') rfl
 have hBi : ∀ b∈B,QC b.1.1.key=true∧ι1 b.2=some (ZfF b.1.2):=fun b hb=>by
  have hb':=hB.mem_iff.1 hb
  obtain ⟨i,hi⟩:=List.getElem?_of_mem hb'
  rw [List.getElem?_zipIdx] at hi
  cases hq : L'[i]? with
  | none=>rw [hq] at hi;cases hi
  | some q=>
   rw [hq] at hi
   have hi : (q,H.length+i)=b:=by simpa using hi
   subst hi
   refine ⟨?_,a4 i q hq⟩
   have hqL : q.1∈L.map (·.1):=List.mem_map.2 ⟨q,hL'.mem_iff.1 (List.mem_of_getElem? hq),rfl⟩
   obtain ⟨k,hk⟩:=hstr q.1 (hL.mem_iff.1 hqL)
   show QC q.1.key=true
   rw [hk];rfl
 have hen2 : en'.toList.map (fun x=>(x.key,x.val))=B.map (fun b=>(b.1.1.key,Value.map (some b.1.2))):=by
  rw [hen',← hBm,List.map_map];rfl
 obtain ⟨z1,z2,z3⟩:=Zrn B en'.toList hen2 hBi
 have hkeysL : L'.map (fun p=>p.1.key)=es.map (·.1):=by
  have:=congrArg (List.map Prod.fst) hLm
  simpa [List.map_map,Function.comp_def] using this
 obtain ⟨y1,y2⟩:=Ztc es L' H.length hkeysL
 have hle1 : Le ι ι1:=a1
 have hlen : (H++l).length=H.length+l.length:=List.length_append
 have hPU : Wj (Zrj B en'.toList) ck (ZdU H.length es):=by
  refine ⟨?_,⟨fun e he=>?_,?_⟩,⟨fun e he=>?_,?_⟩⟩
  ·rw [z2,y1]
   exact hB.map _
  ·have : e.1∈(ZdU H.length es).map (·.1):=List.mem_map.2 ⟨e,he,rfl⟩
   rw [y2,hk.keys] at this
   obtain ⟨k,_,h4⟩:=List.mem_map.1 this
   exact ⟨_,h4.symm⟩
  ·rw [y2,hk.keys];exact Zhx hk.nod
  ·have : e.2.2∈(Zrj B en'.toList).map (·.2.2):=List.mem_map.2 ⟨e,he,rfl⟩
   rw [z3] at this
   obtain ⟨x,hx,h4⟩:=List.mem_map.1 this
   rw [← h4];exact hst'.1 x hx
  ·rw [z3];exact hst'.2.1
 have hO:=a2.add (o:=.mapU (ZdU H.length es)) (l:=ZfF ob) ⟨ZfF ob,en',ck,_,Qg _ _ _,hob,Nat.le_trans hS.size hobge,z1.mono (JW a2 _),hPU⟩ hobF.1 (Zn0 hS hobge) (fun _=>hobF.2)
 have hgbF2 : Zdr (YW ι1 (H++l).length (ZfF ob)) (H++l++[.mapU (ZdU H.length es)]) gb':=hgbF.add a2 (Ne.symm n1)
 have hN:=hO.add (o:=.cells [.map (some (H.length+l.length))] 1 false false) (l:=⟨gb',0,1,1,false⟩) (by
  refine ⟨⟨gb',0,1,1,false⟩,_,_,_,Qg _ _ _,rfl,rfl,hgb,by simp,by simp,?_,fun _=>⟨Nat.le_trans hS.size hgbge,.inl rfl,fun _=>rfl⟩,by simp,by simp [oneCell]⟩
  refine ⟨rfl,fun i hi=>?_⟩
  have : i=0:=by simpa using hi
  subst this
  refine .mp (l:=ZfF ob) (JW hO _ _ _ ?_)
  rw [← hlen]
  exact Qg _ _ _) hgbF2.1 (Zn0 hS hgbge) (fun _=>hgbF2.2)
 refine ⟨_,_,(hle1.trans (JW a2 _)).trans (JW hO _),he,?_,hN⟩
 have hp:=RV.ptr (ι:=YW (YW ι1 (H++l).length (ZfF ob)) (H++l++[Zc.mapU (ZdU H.length es)]).length ⟨gb',0,1,1,false⟩) (o:=0) (Qg _ _ _)
 have hlen2 : (H++l++[Zc.mapU (ZdU H.length es)]).length=H.length+l.length+1:=by rw [List.length_append,List.length_append,List.length_singleton]
 rw [hlen2] at hp ⊢
 exact hp
end
end Go.Proofs.YtedkoimihknggaaGreatDoor.A

namespace Go.Proofs.YtedkoimihknggaaGreatDoor.A
set_option linter.unusedVariables false
set_option linter.unusedSimpArgs false
open Go.RowKit Go.Maps Go.ChangeMaps Go.MapKept
section
variable {P : Program} (w : World) {ops : Array Oper} {rest : List Oper} {o : Oper} {a : Act} {Q : Exit→Act→World→Prop}
theorem Zlx (hg : o.guard=none) (m : Operand) (t : TypeId) (hop : o.op=Op.range t m) (k e : TypeId) (ht : P.underlying t=some (.map k e)) (b : Nat) (es : Array MapEntry) (clock : Nat)
  (hm : a.eval m=.map (some b)) (hb : w.heap[b]?=some (.map es clock))
  (hK : wpList P ops Q rest (a.put o.dst (.pointer (some ⟨w.heap.size,0,none⟩))) (w.alloc (.mapIter (some b) clock #[] clock))) :
  wpList P ops Q (o :: rest) a w:=by
 refine wpList_plain hg fun K' hK'=>?_
 have hrun:=run_range_map (P:=P) w t k e b es clock ht hb
 unfold Oper.wp
 simp [execOp,hop,hm,hrun,Result.andThen]
 exact hK' _ _ hK
theorem Zna (hg : o.guard=none) (it : Operand) (hop : o.op=Op.next it false) (b r since c0 clock : Nat) (seen : Array Nat) (es : Array MapEntry)
  (hit : a.eval it=.pointer (some ⟨r,0,none⟩)) (hr : w.heap[r]?=some (.mapIter (some b) since seen c0)) (hb : w.heap[b]?=some (.map es clock)) (hst : Go.MapKept.Stamped es clock) (hsince : since=clock) (hsc : since≤c0)
  (hDone : (∀ x∈es.toList,x.born∈seen)→wpList P ops Q rest (a.put o.dst (.tuple #[.bool false])) w)
  (hMore : ∀ (e : MapEntry) (w' : World),e∈es.toList→e.born∉seen→w'.heap[r]?=some (.mapIter (some b) since (seen.push e.born) clock)→(leftOf es (seen.push e.born)).size < (leftOf es seen).size→
   w.grownBy w' (some r)→w'.heap.size=w.heap.size→(Instr.entry (.pointer (some ⟨r,0,none⟩))).run P w'=.ok (.tuple #[e.key,e.val]) w'→wpList P ops Q rest (a.put o.dst (.tuple #[.bool true,e.key,e.val])) w') :
  wpList P ops Q (o :: rest) a w:=by
 refine wpList_plain hg fun K' hK'=>?_
 unfold Oper.wp
 have hold : ∀ x∈es.toList,x.born < since:=by rw [hsince];exact hst.1
 rcases run_next_at (P:=P) w o.type r b since c0 seen es clock hr hb hold hsc with ⟨h0,hrun⟩ | ⟨e,he,w1,hal,hrun⟩
 ·simp [execOp,hop,hit,hrun,Result.andThen]
  refine hK' _ _ (hDone fun x hx=>?_)
  have:=all_seen es seen h0 x hx
  simpa using this
 ·obtain ⟨hem,hes⟩:=mem_left he
  have hr1 : w1.heap[r]?=some (.mapIter (some b) since seen c0):=by rcases hal with rfl | rfl <;> exact hr
  have hb1 : w1.heap[b]?=some (.map es clock):=by rcases hal with rfl | rfl <;> exact hb
  have hset:=heap_set (o':=.mapIter (some b) since (seen.push e.born) clock) hr1
  have hne : r≠b:=by
   intro e1
   rw [e1,hb] at hr
   cases hr
  have hb' : (setBlock w1 r (.mapIter (some b) since (seen.push e.born) clock)).heap[b]?=some (.map es clock):=(hset.2 b (fun e1=>hne e1.symm)).trans hb1
  simp [execOp,hop,hit,hrun,Result.andThen]
  refine hK' _ _ (hMore e _ hem (by simpa using hes) hset.1 (left_shrinks es seen e he) ?_ ?_ (run_entry_at _ r b since seen es clock e hset.1 hb' hem ((stamped_iff es clock).1 hst).2.1))
  ·rcases hal with rfl | rfl <;> exact ⟨rfl,rfl,rfl,by simp [setBlock],fun i _ hi=>hset.2 i (fun e1=>hi (by rw [e1]))⟩
  ·rcases hal with rfl | rfl <;> simp [setBlock]
end
theorem Y4 {w : World} {o : Obj} {b : Nat} (h : b < w.heap.size) : (w.alloc o).heap[b]?=w.heap[b]?:=(MapKept.heap_alloc w o).2 b h
theorem Zsq {P : Program} {t kt e : TypeId} {k : List UInt8} {en : Array MapEntry} {ck ob : Nat} {W : World} (ht : P.underlying t=some (.map kt e)) (htk : tkT P kt=.str) (hb : W.heap[ob]?=some (.map en ck)) (hkeys : ∀ x∈en.toList,∃ k',x.key=strv k'∧k'≠k) (v : Value) :
  ∃ W2,(Instr.mapUpdate t (.map (some ob)) (strv k) v).run P W=.ok () W2∧W2=setB W ob (.map (en.push { key:=strv k,val:=v,born:=ck }) (ck+1)):=by
 have hok : okK (tkT P kt) (strv k)=true:=by rw [htk];rfl
 obtain ⟨d,hd,hsk,hchk⟩:=Zaa hok
 have hE : ∀ l : List MapEntry,(∀ x∈l,∃ k',x.key=strv k'∧k'≠k)→Jg (fun _=>none) (l.map fun x=>(x.key,Value.tuple #[],x.born)) l∧∀ i,JS .str (strv k) (l.map fun x=>(x.key,Value.tuple #[],x.born)) i=some none:=by
  intro l
  induction l with
  | nil=>intro _;exact ⟨trivial,fun _=>rfl⟩
  | cons x l ih=>
   intro h
   obtain ⟨k',hk1,hk2⟩:=h x (by simp)
   obtain ⟨h1,h2⟩:=ih fun y hy=>h y (by simp [hy])
   refine ⟨⟨⟨by show QC x.key=true;rw [hk1];rfl,rfl,.un,rfl⟩,h1⟩,fun i=>?_⟩
   have hs : Zbi .str (strv k) x.key=some (k==k'):=by rw [hk1];simp only [Zbi,strv,ZuT]
   simp only [List.map_cons,JS,hs]
   rw [show (k==k')=false by rw [beq_eq_false_iff_ne];exact Ne.symm hk2]
   exact h2 _
 obtain ⟨h1,h2⟩:=hE en.toList hkeys
 obtain ⟨r',h3,h4⟩:=YM (k:=strv k) hd 0 h1 (by rw [htk];exact h2 0)
 cases r' with
 | some p=>exact h4.elim
 | none=>
  refine ⟨_,?_,rfl⟩
  simp only [Instr.mapUpdate,Sem.run_bind,run_underlying ht,Result.andThen_ok,Jl hb,hchk,Jo hd h3,Yk hb]
structure CpR (w : World) (b r gb' ob : Nat) (es : Array MapEntry) (clock : Nat) (seen : Array Nat) (c0 : Nat) (en : Array MapEntry) (ck : Nat) (L : List (MapEntry × Nat)) (el : TypeId) (wr : World) : Prop where
 it : wr.heap[r]?=some (.mapIter (some b) clock seen c0)
 c0 : clock≤c0
 g : wr.heap[gb']?=some (.cells #[.map (some ob)] el (0,0))
 o : wr.heap[ob]?=some (.map en ck)
 st : Go.MapKept.Stamped en ck
 ent : en.toList.map (fun x=>(x.key,x.val))=L.map (fun p=>(p.1.key,Value.map (some p.2)))
 sn : L.map (·.1.born)=seen.toList
 mem : ∀ p∈L,p.1∈es.toList∧∃ sb ses sclk,p.1.val=.map (some sb)∧w.heap[sb]?=some (.map ses sclk)∧wr.heap[p.2]?=some (.map ses sclk)
 nod : (r :: gb' :: ob :: L.map (·.2)).Nodup
 ge : ∀ q∈r :: gb' :: ob :: L.map (·.2),w.heap.size≤q
 snod : seen.toList.Nodup
 bel : Below w.heap.size w wr
section
variable {w wr w1 : World} {b r g o : Nat} {es : Array MapEntry} {clock : Nat} {seen : Array Nat} {c0 : Nat} {en : Array MapEntry} {ck : Nat} {L : List (MapEntry × Nat)} {el : TypeId}
theorem CpR.lts (h : CpR w b r g o es clock seen c0 en ck L el wr) : r < wr.heap.size∧g < wr.heap.size∧o < wr.heap.size:=⟨(Array.getElem?_eq_some_iff.1 h.it).1,(Array.getElem?_eq_some_iff.1 h.g).1,(Array.getElem?_eq_some_iff.1 h.o).1⟩
theorem CpR.keys (h : CpR w b r g o es clock seen c0 en ck L el wr) (hst : Go.MapKept.Stamped es clock) {e : MapEntry} (he1 : e∈es.toList) (he2 : e.born∉seen) : ∀ x∈en.toList,x.key≠e.key:=fun x hx e4=>by
 have h3 : (x.key,x.val)∈L.map (fun p=>(p.1.key,Value.map (some p.2))):=by rw [← h.ent];exact List.mem_map.2 ⟨x,hx,rfl⟩
 obtain ⟨p,hp,h4⟩:=List.mem_map.1 h3
 simp only [Prod.mk.injEq] at h4
 obtain ⟨hm,_⟩:=h.mem p hp
 have h5 : p.1=e:=entry_eq_of_key ((stamped_iff es clock).1 hst).2.2 hm he1 (h4.1.trans e4)
 have : p.1.born∈seen.toList:=by rw [← h.sn];exact List.mem_map.2 ⟨p,hp,rfl⟩
 rw [h5] at this
 exact he2 (by simpa using this)
theorem CpR.next (h : CpR w b r g o es clock seen c0 en ck L el wr) (hst : Go.MapKept.Stamped es clock) {e : MapEntry} {sb sclk : Nat} {ses : Array MapEntry} (he1 : e∈es.toList) (he2 : e.born∉seen) (hev : e.val=.map (some sb)) (hsb : w.heap[sb]?=some (.map ses sclk))
  (hit : w1.heap[r]?=some (.mapIter (some b) clock (seen.push e.born) clock)) (hgr : wr.grownBy w1 (some r)) (hsz : w1.heap.size=wr.heap.size) :
  CpR w b r g o es clock (seen.push e.born) clock (en.push { key:=e.key,val:=.map (some wr.heap.size),born:=ck }) (ck+1) (L++[(e,wr.heap.size)]) el
   (setB (w1.alloc (.map ses sclk)).drew o (.map (en.push { key:=e.key,val:=.map (some wr.heap.size),born:=ck }) (ck+1))):=by
 obtain ⟨l1,l2,l3⟩:=h.lts
 have hnod:=h.nod
 simp only [List.nodup_cons,List.mem_cons,not_or] at hnod
 obtain ⟨⟨n1,n2,n3⟩,⟨n4,n5⟩,n6,n7⟩:=hnod
 generalize hX : Obj.map (en.push { key:=e.key,val:=.map (some wr.heap.size),born:=ck }) (ck+1)=X
 have hge:=h.ge
 have hLlt : ∀ p∈L,p.2 < wr.heap.size:=fun p hp=>by
  obtain ⟨_,sb',ses',sclk',h1,h2,h3⟩:=h.mem p hp
  exact (Array.getElem?_eq_some_iff.1 h3).1
 have keep : ∀ c,c < wr.heap.size→c≠o→c≠r→(setB (w1.alloc (.map ses sclk)).drew o X).heap[c]?=wr.heap[c]?:=fun c hc h1 h2=>by
  rw [Jj h1]
  show (w1.alloc (.map ses sclk)).heap[c]?=_
  rw [Y4 (by omega),hgr.block c hc (by simpa using h2)]
 have hk:=h.keys hst he1 he2
 have hst2:=(stamped_iff en ck).1 h.st
 refine ⟨?_,Nat.le_refl _,by rw [keep g l2 n4 (Ne.symm n1)];exact h.g,?_,?_,?_,?_,?_,?_,?_,?_,?_⟩
 ·rw [Jj n2]
  show (w1.alloc (.map ses sclk)).heap[r]?=_
  rw [Y4 (by omega)];exact hit
 ·rw [ZcR (by show o < (w1.alloc (.map ses sclk)).heap.size;simp;omega),hX]
 ·refine (stamped_iff _ _).2 ⟨fun x hx=>?_,?_,?_⟩
  ·rw [Array.toList_push,List.mem_append] at hx
   rcases hx with hx | hx
   ·exact Nat.lt_succ_of_lt (hst2.1 x hx)
   ·have : x={ key:=e.key,val:=.map (some wr.heap.size),born:=ck }:=by simpa using hx
    rw [this];exact Nat.lt_succ_self _
  ·rw [Array.toList_push,List.map_append,List.nodup_append]
   refine ⟨hst2.2.1,by simp,fun a ha c hc=>?_⟩
   have hc : c=ck:=by simpa using hc
   obtain ⟨x,hx,rfl⟩:=List.mem_map.1 ha
   have:=hst2.1 x hx
   omega
  ·rw [Array.toList_push,List.pairwise_append]
   refine ⟨hst2.2.2,by simp,fun x hx y hy=>?_⟩
   have : y={ key:=e.key,val:=.map (some wr.heap.size),born:=ck }:=by simpa using hy
   rw [this];exact hk x hx
 ·rw [Array.toList_push,List.map_append,List.map_append,h.ent];rfl
 ·rw [List.map_append,h.sn,Array.toList_push];rfl
 ·intro p hp
  rcases List.mem_append.1 hp with hp | hp
  ·obtain ⟨h1,sb',ses',sclk',h2,h4,h3⟩:=h.mem p hp
   have hp2 : p.2∈L.map (·.2):=List.mem_map.2 ⟨p,hp,rfl⟩
   exact ⟨h1,sb',ses',sclk',h2,h4,by rw [keep p.2 (hLlt p hp) (fun e1=>n6 (e1 ▸ hp2)) (fun e1=>n3 (e1 ▸ hp2))];exact h3⟩
  ·have : p=(e,wr.heap.size):=by simpa using hp
   subst this
   refine ⟨he1,sb,ses,sclk,hev,hsb,?_⟩
   rw [Jj (by show wr.heap.size≠o;omega)]
   show (w1.alloc (.map ses sclk)).heap[wr.heap.size]?=_
   rw [← hsz]
   exact (MapKept.heap_alloc w1 _).1
 ·have hnew : ∀ q∈r :: g :: o :: L.map (·.2),q≠wr.heap.size:=fun q hq=>by
   simp only [List.mem_cons] at hq
   rcases hq with rfl | rfl | rfl | hq
   ·omega
   ·omega
   ·omega
   ·obtain ⟨p,hp,rfl⟩:=List.mem_map.1 hq
    exact Nat.ne_of_lt (hLlt p hp)
  have : r :: g :: o :: (L++[(e,wr.heap.size)]).map (·.2)=(r :: g :: o :: L.map (·.2))++[wr.heap.size]:=by simp
  rw [this,List.nodup_append]
  refine ⟨h.nod,by simp,fun a ha c hc=>?_⟩
  have hc : c=wr.heap.size:=by simpa using hc
  rw [hc];exact hnew a ha
 ·intro q hq
  have : r :: g :: o :: (L++[(e,wr.heap.size)]).map (·.2)=(r :: g :: o :: L.map (·.2))++[wr.heap.size]:=by simp
  rw [this] at hq
  rcases List.mem_append.1 hq with hq | hq
  ·exact hge q hq
  ·have : q=wr.heap.size:=by simpa using hq
   rw [this];exact h.bel.size
 ·rw [Array.toList_push,List.nodup_append]
  refine ⟨h.snod,by simp,fun a ha c hc=>?_⟩
  have hc : c=e.born:=by simpa using hc
  rw [hc];rintro rfl;exact he2 (by simpa using ha)
 ·refine ⟨(show w1.os=_ from hgr.os.trans h.bel.os),(show w1.tape=_ from hgr.tape.trans h.bel.tape),(show w1.output=_ from hgr.output.trans h.bel.output),?_,fun i hi=>?_⟩
  ·rw [Zvy]
   show _≤(w1.alloc (.map ses sclk)).heap.size
   have:=h.bel.size
   simp;omega
  ·have ho:=hge o (by simp)
   have hr:=hge r (by simp)
   rw [keep i (Nat.lt_of_lt_of_le hi h.bel.size) (by omega) (by omega)]
   exact h.bel.block i hi
theorem CpR.left (h : CpR w b r g o es clock seen c0 en ck L el wr) (hb : w.heap[b]?=some (.map es clock)) : wr.heap[b]?=some (.map es clock)∧wr.rangeLeft b r=(leftOf es seen).size:=by
 have hbl : b < w.heap.size:=(Array.getElem?_eq_some_iff.1 hb).1
 have h1 : wr.heap[b]?=some (.map es clock):=(h.bel.block b hbl).trans hb
 refine ⟨h1,?_⟩
 simp only [World.rangeLeft,h1,h.it]
theorem CpR.perm (h : CpR w b r g o es clock seen c0 en ck L el wr) (hst : Go.MapKept.Stamped es clock) (hall : ∀ x∈es.toList,x.born∈seen) : (L.map (·.1)).Perm es.toList:=by
 have hst2:=(stamped_iff es clock).1 hst
 have n1 : (L.map (·.1)).Nodup:=by
  have : ((L.map (·.1)).map (·.born)).Nodup:=by rw [List.map_map];exact h.sn ▸ h.snod
  exact List.Pairwise.of_map _ (fun a b h e=>h (congrArg _ e)) this
 have n2 : es.toList.Nodup:=List.Pairwise.of_map _ (fun a b h e=>h (congrArg _ e)) hst2.2.1
 refine (List.perm_ext_iff_of_nodup n1 n2).2 fun x=>⟨fun hx=>?_,fun hx=>?_⟩
 ·obtain ⟨p,hp,rfl⟩:=List.mem_map.1 hx
  exact (h.mem p hp).1
 ·have h1 : x.born∈L.map (·.1.born):=by rw [h.sn];simpa using hall x hx
  obtain ⟨p,hp,h2⟩:=List.mem_map.1 h1
  have : p.1=x:=born_inj hst2.2.1 (h.mem p hp).1 hx h2
  exact List.mem_map.2 ⟨p,hp,this⟩
end
set_option maxRecDepth 100000 in
theorem ZyV (hCl : ZfD Tryz.prog 196) : Zsy Tryz.prog 158 where
 c:=⟨Tryz.f158,Tryz.func158,by kernel_rfl,by kernel_rfl⟩
 run:=fun w gb b es clock hgb hcell hb hst hks hvs=>by
  have hmm:=@run_makeMap Tryz.prog
  have hbl : b < w.heap.size:=(Array.getElem?_eq_some_iff.1 hb).1
  go_enter Tryz.func158,Tryz.ntmps158
  go_wp2_with (first
   | (at_range;refine Zlx _ rfl _ 154 rfl _ _ Tryz.underlying154 b es clock rfl ?_ ?_)
   | go_in)
  ·rw [Y4 (by simp;omega),Y4 hbl];exact hb
  ·go_frame
   have e1 : ((w.alloc (.map #[] 0)).alloc (.cells #[.map (some w.heap.size)] 156)).heap.size=w.heap.size+2:=by simp
   have e2 : (w.alloc (.map #[] 0)).heap.size=w.heap.size+1:=by simp
   rw [e1]
   try rw [e2]
   go_loopw [4,5] (fun _ _ wr=>∃ seen c0 en ck L,CpR w b (w.heap.size+2) (w.heap.size+1) w.heap.size es clock seen c0 en ck L 156 wr) (fun _ _ wr=>wr.rangeLeft b (w.heap.size+2))
   case atStart=>
    refine ⟨#[],clock,#[],0,[],?_⟩
    have hA:=fun (w : World) (o : Obj)=>(MapKept.heap_alloc w o).1
    refine ⟨?_,Nat.le_refl _,?_,?_,⟨by simp,by simp,by simp⟩,rfl,rfl,by simp,by simp,?_,by simp,?_⟩
    ·rw [← e1];exact hA _ _
    ·rw [Y4 (by rw [e1];omega),← e2];exact hA _ _
    ·rw [Y4 (by rw [e1];omega),Y4 (by rw [e2];omega)];exact hA _ _
    ·intro q hq
     simp only [List.map_nil,List.mem_cons,List.not_mem_nil,or_false] at hq
     omega
    ·exact (((Below.refl _ _).alloc (Nat.le_refl _) _).alloc (by rw [e2];omega) _).alloc (by rw [e1];omega) _
   case round=>
    obtain ⟨seen,c0,en,ck,L,hR⟩:=hrel
    go_wp2_with (first
     | (at_next;refine Zna _ rfl _ rfl b (w.heap.size+2) clock c0 clock seen es rfl hR.it ?_ hst rfl hR.c0 ?_ ?_)
     | go_in)
    ·exact (hR.left hb).1
    ·intro hdone
     go_wp2
     go_ret
     have hp:=hR.perm hst (by simpa using hdone)
     have hnod:=hR.nod
     have hge:=hR.ge
     exact ⟨_,_,_,_,_,_,rfl,hR.g,hR.o,hR.st,hR.ent,hp,fun p hp=>(by obtain ⟨_,sb,ses,sclk,h1,h2,h3⟩:=hR.mem p hp;exact ⟨sb,h1,h3.trans h2.symm⟩),(List.nodup_cons.1 hnod).2,fun q hq=>hge q (List.mem_cons_of_mem _ hq),hR.bel⟩
    ·intro e w1 he1 he2 hit1 hlt hgr hsz hen
     go_upto_region 5 with fail
     have he1 : e∈es.toList:=by simpa using he1
     obtain ⟨sb,ses,sclk,hev,hsb⟩:=hvs e he1
     obtain ⟨k,hek⟩:=hks e he1
     obtain ⟨W2,hcg,hcg2,hsz1,hsb1,hmu,hW2⟩ : ∃ W2,w1.cell? ⟨w.heap.size+1,0,none⟩=some (.map (some w.heap.size))∧(w1.alloc (.map ses sclk)).cell? ⟨w.heap.size+1,0,none⟩=some (.map (some w.heap.size))∧w.heap.size+1 < wr.heap.size∧w1.heap[sb]?=some (.map ses sclk)∧
       (Instr.mapUpdate 154 (.map (some w.heap.size)) (strv k) (.map (some wr.heap.size))).run Tryz.prog (w1.alloc (.map ses sclk)).drew=.ok () W2∧W2=setB (w1.alloc (.map ses sclk)).drew w.heap.size (.map (en.push { key:=strv k,val:=.map (some wr.heap.size),born:=ck }) (ck+1)):=by
      have hw : w.heap.size < wr.heap.size:=(Array.getElem?_eq_some_iff.1 hR.o).1
      have hg1 : w1.heap[w.heap.size+1]?=some (.cells #[.map (some w.heap.size)] 156 (0,0)):=by
       rw [hgr.block _ (Array.getElem?_eq_some_iff.1 hR.g).1 (by simp)];exact hR.g
      have ho1 : w1.heap[w.heap.size]?=some (.map en ck):=by
       rw [hgr.block _ hw (by simp)];exact hR.o
      have hcg : w1.cell? ⟨w.heap.size+1,0,none⟩=some (.map (some w.heap.size)):=by
       rw [Ze6 hg1];rfl
      have hsbl : sb < w.heap.size:=(Array.getElem?_eq_some_iff.1 hsb).1
      have hsb1 : w1.heap[sb]?=some (.map ses sclk):=by
       rw [hgr.block _ (by omega) (by simp;omega),hR.bel.block sb hsbl];exact hsb
      have hoD : (w1.alloc (.map ses sclk)).drew.heap[w.heap.size]?=some (.map en ck):=by
       show (w1.alloc (.map ses sclk)).heap[w.heap.size]?=_
       rw [Y4 (by omega)];exact ho1
      have hkn : ∀ x∈en.toList,∃ k',x.key=strv k'∧k'≠k:=fun x hx=>by
       have h3 : (x.key,x.val)∈L.map (fun p=>(p.1.key,Value.map (some p.2))):=by rw [← hR.ent];exact List.mem_map.2 ⟨x,hx,rfl⟩
       obtain ⟨p,hp,h4⟩:=List.mem_map.1 h3
       simp only [Prod.mk.injEq] at h4
       obtain ⟨hm,_⟩:=hR.mem p hp
       obtain ⟨k',hk'⟩:=hks p.1 hm
       refine ⟨k',by rw [← h4.1];exact hk',fun e4=>he2 ?_⟩
       have h5 : p.1=e:=entry_eq_of_key ((stamped_iff es clock).1 hst).2.2 hm he1 (by rw [hk',hek,e4])
       have : p.1.born∈seen.toList:=by rw [← hR.sn];exact List.mem_map.2 ⟨p,hp,rfl⟩
       rw [h5] at this
       simpa using this
      obtain ⟨W2,hmu,hW2⟩:=Zsq (P:=Tryz.prog) (t:=154) (k:=k) (v:=.map (some wr.heap.size)) Tryz.underlying154 (by kernel_rfl) hoD hkn
      have hs1 : w.heap.size+1 < wr.heap.size:=(Array.getElem?_eq_some_iff.1 hR.g).1
      have hg2 : (w1.alloc (.map ses sclk)).heap[w.heap.size+1]?=some (.cells #[.map (some w.heap.size)] 156 (0,0)):=by
       rw [Y4 (by omega)];exact hg1
      exact ⟨W2,hcg,by rw [Ze6 hg2];rfl,hs1,hsb1,hmu,hW2⟩
     rw [hev,hek]
     go_region_with (first
      | (go_at_call 196;refine (hCl.some sb ses sclk _ ?_).mono ?_;exact hsb1;rintro e w' ⟨rfl,rfl⟩)
      | fail)
     ·have hN:=hR.next hst he1 he2 hev hsb hit1 hgr hsz
      rw [hek] at hN
      go_roundw
      case rel=>(repeat apply Exists.intro);exact ⟨⟨_,_,_,_,_,hN⟩,rfl⟩
      case measure=>rw [(hN.left hb).2,(hR.left hb).2];exact hlt
     ·have hN:=hR.next hst he1 he2 hev hsb hit1 hgr hsz
      rw [hek] at hN
      go_roundw
      case rel=>(repeat apply Exists.intro);exact ⟨⟨_,_,_,_,_,hN⟩,rfl⟩
      case measure=>rw [(hN.left hb).2,(hR.left hb).2];exact hlt
end Go.Proofs.YtedkoimihknggaaGreatDoor.A

namespace Go.Proofs
open Go.RowKit Go.Maps Go.Sort Go.Shelf
def Tryz.cloneA_ren : Go.Shelf.Ren := ⟨fun | 5 => 156 | 7 => 194 | n => n, fun | 23 => 82 | 25 => 9 | 3 => 89 | 4 => 4 | 20 => 20 | n => n, fun | n => n⟩
theorem Tryz.cloneA : Go.Proofs.SlLaysW.n5 Tryz.prog Tryz.cloneA_ren := {
  mixed := by kernel_rfl
  f5 := ⟨Tryz.f156.name, by decide, Tryz.func156.trans (congrArg some (by kernel_rfl))⟩
  f7 := Tryz.func194.trans (congrArg some (by kernel_rfl))
  t4 := Tryz.underlying4
  a4 := Tryz.isAgg4
  z4 := Tryz.sizeOf4
  v4 := Tryz.zeroValue4
  t20 := Tryz.underlying20
  a20 := Tryz.isAgg20
  z20 := Tryz.sizeOf20
  v20 := Tryz.zeroValue20
  t23 := Tryz.underlying82
  a23 := Tryz.isAgg82
  z23 := Tryz.sizeOf82
  v23 := Tryz.zeroValue82 }
def Tryz.cloneB_ren : Go.Shelf.Ren := ⟨fun | 5 => 195 | 7 => 194 | n => n, fun | 23 => 130 | 25 => 9 | 3 => 9 | 4 => 4 | 20 => 20 | n => n, fun | n => n⟩
theorem Tryz.cloneB : Go.Proofs.SlLaysW.n5 Tryz.prog Tryz.cloneB_ren := {
  mixed := by kernel_rfl
  f5 := ⟨Tryz.f195.name, by decide, Tryz.func195.trans (congrArg some (by kernel_rfl))⟩
  f7 := Tryz.func194.trans (congrArg some (by kernel_rfl))
  t4 := Tryz.underlying4
  a4 := Tryz.isAgg4
  z4 := Tryz.sizeOf4
  v4 := Tryz.zeroValue4
  t20 := Tryz.underlying20
  a20 := Tryz.isAgg20
  z20 := Tryz.sizeOf20
  v20 := Tryz.zeroValue20
  t23 := Tryz.underlying130
  a23 := Tryz.isAgg130
  z23 := Tryz.sizeOf130
  v23 := Tryz.zeroValue130 }
def Tryz.cloneC_ren : Go.Shelf.Ren := ⟨fun | 5 => 196 | 7 => 194 | n => n, fun | 23 => 151 | 25 => 9 | 3 => 157 | 4 => 4 | 20 => 20 | n => n, fun | n => n⟩
theorem Tryz.cloneC : Go.Proofs.SlLaysW.n5 Tryz.prog Tryz.cloneC_ren := {
  mixed := by kernel_rfl
  f5 := ⟨Tryz.f196.name, by decide, Tryz.func196.trans (congrArg some (by kernel_rfl))⟩
  f7 := Tryz.func194.trans (congrArg some (by kernel_rfl))
  t4 := Tryz.underlying4
  a4 := Tryz.isAgg4
  z4 := Tryz.sizeOf4
  v4 := Tryz.zeroValue4
  t20 := Tryz.underlying20
  a20 := Tryz.isAgg20
  z20 := Tryz.sizeOf20
  v20 := Tryz.zeroValue20
  t23 := Tryz.underlying151
  a23 := Tryz.isAgg151
  z23 := Tryz.sizeOf151
  v23 := Tryz.zeroValue151 }
def Tryz.keysA_ren : Go.Shelf.Ren := ⟨fun | 7 => 171 | 10 => 202 | n => n, fun | 23 => 130 | 26 => 9 | 3 => 9 | 28 => 208 | 0 => 0 | 27 => 207 | 33 => 143 | 4 => 4 | n => n, fun | n => n⟩
theorem Tryz.keysA : Go.Proofs.SlLaysZ.n7 Tryz.prog Tryz.keysA_ren := {
  mixed := by kernel_rfl
  f7 := ⟨Tryz.f171.name, by decide, Tryz.func171.trans (congrArg some (by kernel_rfl))⟩
  f10 := ⟨Tryz.f202.name, by decide, Tryz.func202.trans (congrArg some (by kernel_rfl))⟩
  t0 := Tryz.underlying0
  a0 := Tryz.isAgg0
  z0 := Tryz.sizeOf0
  v0 := Tryz.zeroValue0
  t4 := Tryz.underlying4
  a4 := Tryz.isAgg4
  z4 := Tryz.sizeOf4
  v4 := Tryz.zeroValue4
  t23 := Tryz.underlying130
  a23 := Tryz.isAgg130
  z23 := Tryz.sizeOf130
  v23 := Tryz.zeroValue130
  t26 := Tryz.underlying9
  a26 := Tryz.isAgg9
  z26 := Tryz.sizeOf9
  v26 := Tryz.zeroValue9
  t27 := Tryz.underlying207
  a27 := Tryz.isAgg207
  z27 := Tryz.sizeOf207
  v27 := Tryz.zeroValue207
  t28 := Tryz.underlying208
  a28 := Tryz.isAgg208
  z28 := Tryz.sizeOf208
  v28 := Tryz.zeroValue208
  t33 := Tryz.underlying143
  a33 := Tryz.isAgg143
  z33 := Tryz.sizeOf143
  v33 := Tryz.zeroValue143 }
def Tryz.keysB_ren : Go.Shelf.Ren := ⟨fun | 7 => 174 | 10 => 204 | n => n, fun | 23 => 82 | 26 => 9 | 3 => 89 | 28 => 208 | 0 => 0 | 27 => 207 | 33 => 143 | 4 => 4 | n => n, fun | n => n⟩
theorem Tryz.keysB : Go.Proofs.SlLaysZ.n7 Tryz.prog Tryz.keysB_ren := {
  mixed := by kernel_rfl
  f7 := ⟨Tryz.f174.name, by decide, Tryz.func174.trans (congrArg some (by kernel_rfl))⟩
  f10 := ⟨Tryz.f204.name, by decide, Tryz.func204.trans (congrArg some (by kernel_rfl))⟩
  t0 := Tryz.underlying0
  a0 := Tryz.isAgg0
  z0 := Tryz.sizeOf0
  v0 := Tryz.zeroValue0
  t4 := Tryz.underlying4
  a4 := Tryz.isAgg4
  z4 := Tryz.sizeOf4
  v4 := Tryz.zeroValue4
  t23 := Tryz.underlying82
  a23 := Tryz.isAgg82
  z23 := Tryz.sizeOf82
  v23 := Tryz.zeroValue82
  t26 := Tryz.underlying9
  a26 := Tryz.isAgg9
  z26 := Tryz.sizeOf9
  v26 := Tryz.zeroValue9
  t27 := Tryz.underlying207
  a27 := Tryz.isAgg207
  z27 := Tryz.sizeOf207
  v27 := Tryz.zeroValue207
  t28 := Tryz.underlying208
  a28 := Tryz.isAgg208
  z28 := Tryz.sizeOf208
  v28 := Tryz.zeroValue208
  t33 := Tryz.underlying143
  a33 := Tryz.isAgg143
  z33 := Tryz.sizeOf143
  v33 := Tryz.zeroValue143 }
def Tryz.keysC_ren : Go.Shelf.Ren := ⟨fun | 7 => 207 | 10 => 216 | n => n, fun | 23 => 154 | 26 => 9 | 3 => 151 | 28 => 208 | 0 => 0 | 27 => 207 | 33 => 143 | 4 => 4 | n => n, fun | n => n⟩
theorem Tryz.keysC : Go.Proofs.SlLaysZ.n7 Tryz.prog Tryz.keysC_ren := {
  mixed := by kernel_rfl
  f7 := ⟨Tryz.f207.name, by decide, Tryz.func207.trans (congrArg some (by kernel_rfl))⟩
  f10 := ⟨Tryz.f216.name, by decide, Tryz.func216.trans (congrArg some (by kernel_rfl))⟩
  t0 := Tryz.underlying0
  a0 := Tryz.isAgg0
  z0 := Tryz.sizeOf0
  v0 := Tryz.zeroValue0
  t4 := Tryz.underlying4
  a4 := Tryz.isAgg4
  z4 := Tryz.sizeOf4
  v4 := Tryz.zeroValue4
  t23 := Tryz.underlying154
  a23 := Tryz.isAgg154
  z23 := Tryz.sizeOf154
  v23 := Tryz.zeroValue154
  t26 := Tryz.underlying9
  a26 := Tryz.isAgg9
  z26 := Tryz.sizeOf9
  v26 := Tryz.zeroValue9
  t27 := Tryz.underlying207
  a27 := Tryz.isAgg207
  z27 := Tryz.sizeOf207
  v27 := Tryz.zeroValue207
  t28 := Tryz.underlying208
  a28 := Tryz.isAgg208
  z28 := Tryz.sizeOf208
  v28 := Tryz.zeroValue208
  t33 := Tryz.underlying143
  a33 := Tryz.isAgg143
  z33 := Tryz.sizeOf143
  v33 := Tryz.zeroValue143 }
def Tryz.collA_ren : Go.Shelf.Ren := ⟨fun | 8 => 200 | 11 => 208 | n => n, fun | 26 => 9 | 28 => 208 | 24 => 25 | 0 => 0 | 33 => 143 | 4 => 4 | n => n, fun | n => n⟩
theorem Tryz.collA : Go.Proofs.SlLaysZ.n8 Tryz.prog Tryz.collA_ren := {
  mixed := by kernel_rfl
  f8 := ⟨Tryz.f200.name, by decide, Tryz.func200.trans (congrArg some (by kernel_rfl))⟩
  f11 := ⟨Tryz.f208.name, by decide, Tryz.func208.trans (congrArg some (by kernel_rfl))⟩
  t0 := Tryz.underlying0
  a0 := Tryz.isAgg0
  z0 := Tryz.sizeOf0
  v0 := Tryz.zeroValue0
  t24 := Tryz.underlying25
  a24 := Tryz.isAgg25
  z24 := Tryz.sizeOf25
  v24 := Tryz.zeroValue25
  t26 := Tryz.underlying9
  a26 := Tryz.isAgg9
  z26 := Tryz.sizeOf9
  v26 := Tryz.zeroValue9
  t28 := Tryz.underlying208
  a28 := Tryz.isAgg208
  z28 := Tryz.sizeOf208
  v28 := Tryz.zeroValue208
  i26 := by kernel_rfl }
def Tryz.sortA_ren : Go.Shelf.Ren := ⟨fun | 6 => 201 | 15 => 210 | 14 => 209 | 28 => 225 | 29 => 226 | 20 => 217 | 21 => 218 | 22 => 219 | 23 => 220 | 24 => 221 | 25 => 222 | 26 => 223 | 27 => 224 | 46 => 234 | 47 => 235 | 48 => 236 | 49 => 237 | 50 => 238 | 57 => 242 | n => n, fun | 22 => 25 | 24 => 9 | 25 => 210 | 3 => 3 | 39 => 219 | 0 => 0 | 53 => 248 | 55 => 113 | 4 => 4 | 46 => 241 | 45 => 240 | 50 => 245 | 5 => 5 | 9 => 9 | 66 => 253 | 70 => 257 | 76 => 261 | 77 => 262 | n => n, fun | n => n⟩
theorem Tryz.sortA : Go.Proofs.SlLaysF.n6 Tryz.prog Tryz.sortA_ren := {
  mixed := by kernel_rfl
  f6 := ⟨Tryz.f201.name, by decide, Tryz.func201.trans (congrArg some (by kernel_rfl))⟩
  f14 := ⟨Tryz.f209.name, by decide, Tryz.func209.trans (congrArg some (by kernel_rfl))⟩
  f15 := Tryz.func210.trans (congrArg some (by kernel_rfl))
  f20 := ⟨Tryz.f217.name, by decide, Tryz.func217.trans (congrArg some (by kernel_rfl))⟩
  f21 := ⟨Tryz.f218.name, by decide, Tryz.func218.trans (congrArg some (by kernel_rfl))⟩
  f22 := ⟨Tryz.f219.name, by decide, Tryz.func219.trans (congrArg some (by kernel_rfl))⟩
  f23 := ⟨Tryz.f220.name, by decide, Tryz.func220.trans (congrArg some (by kernel_rfl))⟩
  f24 := ⟨Tryz.f221.name, by decide, Tryz.func221.trans (congrArg some (by kernel_rfl))⟩
  f25 := ⟨Tryz.f222.name, by decide, Tryz.func222.trans (congrArg some (by kernel_rfl))⟩
  f26 := ⟨Tryz.f223.name, by decide, Tryz.func223.trans (congrArg some (by kernel_rfl))⟩
  f27 := ⟨Tryz.f224.name, by decide, Tryz.func224.trans (congrArg some (by kernel_rfl))⟩
  f28 := Tryz.func225.trans (congrArg some (by kernel_rfl))
  f29 := Tryz.func226.trans (congrArg some (by kernel_rfl))
  f46 := ⟨Tryz.f234.name, by decide, Tryz.func234.trans (congrArg some (by kernel_rfl))⟩
  f47 := Tryz.func235.trans (congrArg some (by kernel_rfl))
  f48 := Tryz.func236.trans (congrArg some (by kernel_rfl))
  f49 := ⟨Tryz.f237.name, by decide, Tryz.func237.trans (congrArg some (by kernel_rfl))⟩
  f50 := ⟨Tryz.f238.name, by decide, Tryz.func238.trans (congrArg some (by kernel_rfl))⟩
  f57 := ⟨Tryz.f242.name, by decide, Tryz.func242.trans (congrArg some (by kernel_rfl))⟩
  t0 := Tryz.underlying0
  a0 := Tryz.isAgg0
  z0 := Tryz.sizeOf0
  v0 := Tryz.zeroValue0
  t3 := Tryz.underlying3
  a3 := Tryz.isAgg3
  z3 := Tryz.sizeOf3
  v3 := Tryz.zeroValue3
  t4 := Tryz.underlying4
  a4 := Tryz.isAgg4
  z4 := Tryz.sizeOf4
  v4 := Tryz.zeroValue4
  t5 := Tryz.underlying5
  a5 := Tryz.isAgg5
  z5 := Tryz.sizeOf5
  v5 := Tryz.zeroValue5
  t9 := Tryz.underlying9
  a9 := Tryz.isAgg9
  z9 := Tryz.sizeOf9
  v9 := Tryz.zeroValue9
  t22 := Tryz.underlying25
  a22 := Tryz.isAgg25
  z22 := Tryz.sizeOf25
  v22 := Tryz.zeroValue25
  a24 := Tryz.isAgg9
  z24 := Tryz.sizeOf9
  t25 := Tryz.underlying210
  a25 := Tryz.isAgg210
  z25 := Tryz.sizeOf210
  v25 := Tryz.zeroValue210
  t39 := Tryz.underlying219
  a39 := Tryz.isAgg219
  z39 := Tryz.sizeOf219
  v39 := Tryz.zeroValue219
  t45 := Tryz.underlying240
  a45 := Tryz.isAgg240
  z45 := Tryz.sizeOf240
  v45 := Tryz.zeroValue240
  t46 := Tryz.underlying241
  a46 := Tryz.isAgg241
  z46 := Tryz.sizeOf241
  v46 := Tryz.zeroValue241
  t50 := Tryz.underlying245
  a50 := Tryz.isAgg245
  z50 := Tryz.sizeOf245
  v50 := Tryz.zeroValue245
  t53 := Tryz.underlying248
  a53 := Tryz.isAgg248
  z53 := Tryz.sizeOf248
  v53 := Tryz.zeroValue248
  t55 := Tryz.underlying113
  a55 := Tryz.isAgg113
  z55 := Tryz.sizeOf113
  v55 := Tryz.zeroValue113
  t66 := Tryz.underlying253
  a66 := Tryz.isAgg253
  z66 := Tryz.sizeOf253
  v66 := Tryz.zeroValue253
  t70 := Tryz.underlying257
  a70 := Tryz.isAgg257
  z70 := Tryz.sizeOf257
  v70 := Tryz.zeroValue257
  t76 := Tryz.underlying261
  a76 := Tryz.isAgg261
  z76 := Tryz.sizeOf261
  v76 := Tryz.zeroValue261
  t77 := Tryz.underlying262
  a77 := Tryz.isAgg262
  z77 := Tryz.sizeOf262
  v77 := Tryz.zeroValue262 }
end Go.Proofs
namespace Go.Proofs.YtedkoimihknggaaGreatDoor.A
set_option linter.unusedVariables false
set_option linter.unusedSimpArgs false
open Go.RowKit Go.Maps Go.Sort Go.Shelf Go.Proofs
theorem clA : ZfD Tryz.prog 156 where
 c:=⟨Tryz.f156,Tryz.func156,by kernel_rfl,by kernel_rfl⟩
 nil:=fun w=>AnyW.maps_Clone_nil Tryz.cloneA w
 some:=fun b es clock w hb=>AnyW.maps_Clone Tryz.cloneA b es clock w hb
theorem clB : ZfD Tryz.prog 195 where
 c:=⟨Tryz.f195,Tryz.func195,by kernel_rfl,by kernel_rfl⟩
 nil:=fun w=>AnyW.maps_Clone_nil Tryz.cloneB w
 some:=fun b es clock w hb=>AnyW.maps_Clone Tryz.cloneB b es clock w hb
theorem clC : ZfD Tryz.prog 196 where
 c:=⟨Tryz.f196,Tryz.func196,by kernel_rfl,by kernel_rfl⟩
 nil:=fun w=>AnyW.maps_Clone_nil Tryz.cloneC w
 some:=fun b es clock w hb=>AnyW.maps_Clone Tryz.cloneC b es clock w hb
def Zb7 (x y : List UInt8) : Int:=if x < y then -1 else if y < x then 1 else 0
theorem Zys (x : List UInt8) (w : World) : Calls Tryz.prog 211 #[encStr x] w fun e w'=>e=.returned (.bool false)∧w'=w:=by
 go_enter Tryz.func211,Tryz.ntmps211
 go_wp2
 go_ret
 exact ⟨by simp,rfl⟩
theorem ZgN (x y : List UInt8) : x < y∨x=y∨y < x:=by
 by_cases h : x < y
 ·exact .inl h
 ·by_cases h2 : y < x
  ·exact .inr (.inr h2)
  ·exact .inr (.inl (List.le_antisymm h2 h))
theorem Zu2 (x y : List UInt8) (w : World) : Calls Tryz.prog 203 #[encStr x,encStr y] w fun e w'=>e=.returned (.int .i64 (Zb7 x y))∧w'=w:=by
 have e211 : ∀ args w,(callFunc 211 args).run Tryz.prog w=.ok (.enter 211 args) w:=enters_of Tryz.func211 (by kernel_rfl) rfl
 have hb : Op.bytesLess x y=decide (x < y):=bytesLess_eq x y
 have ht:=ZgN x y
 have hn : ∀ a : List UInt8,¬ a < a:=fun a=>List.lt_irrefl a
 have has : x < y→¬ y < x:=fun h=>List.lt_asymm h
 go_enter Tryz.func203,Tryz.ntmps203
 go_wp2_with (go_at_call 211;refine (Zys _ _).mono ?_;rintro e w' ⟨rfl,hw⟩;rw [hw])
 all_goals (go_ret;refine ⟨?_,rfl⟩;unfold Zb7;rw [hb] at *;by_cases h1 : x < y <;> by_cases h2 : y < x <;> simp_all <;> exact absurd h2 (List.lt_irrefl _))
theorem Zpe (x y : List UInt8) (w : World) : Calls Tryz.prog 172 #[encStr x,encStr y] w fun e w'=>e=.returned (.int .i64 (Zb7 x y))∧w'=w:=by
 have e203 : ∀ args w,(callFunc 203 args).run Tryz.prog w=.ok (.enter 203 args) w:=enters_of Tryz.func203 (by kernel_rfl) rfl
 go_enter Tryz.func172,Tryz.ntmps172
 go_wp2_with (go_at_call 203;refine (Zu2 _ _ _).mono ?_;rintro e w' ⟨rfl,hw⟩;rw [hw])
 go_ret
 exact ⟨rfl,rfl⟩
theorem ZxE (blk off size : Nat) (w : World) : CmpLays1 Tryz.prog 172 #[] encStr Zb7 blk off size w:=fun m os dk hd x y=>
 (Zpe x y _).mono fun e w' ⟨he,hw⟩=>⟨he,0,#[],by rw [hw];simp [grow,World.drewN]⟩
theorem Zf3 (x y : List UInt8) : ltOf Zb7 x y=decide (x < y):=by
 unfold ltOf Zb7
 by_cases h1 : x < y
 ·simp [h1]
 ·by_cases h2 : y < x <;> simp [h1,h2]
theorem ZzP : SWO (ltOf Zb7) where
 irrefl x:=by rw [Zf3];exact decide_eq_false (List.lt_irrefl x)
 trans x y z h1 h2:=by rw [Zf3] at *;simp only [decide_eq_true_eq] at *;exact List.lt_trans h1 h2
 ntrans x y z h1 h2:=by
  rw [Zf3] at *
  simp only [decide_eq_false_iff_not] at *
  exact List.le_trans h2 h1
theorem ZvJ {ss : List (List UInt8)} {d' : Array (List UInt8)} (hp : PermIn 0 ss.toArray.size ss.toArray d') (hs : SortedIn (ltOf Zb7) 0 ss.toArray.size d') : d'=(ss.mergeSort fun x y=>decide (x≤y)).toArray:=by
 have hsz : d'.size=ss.length:=by simpa using hp.1
 have hperm : d'.toList.Perm ss:=by
  have h3 : d'.toList.Perm (ss.take d'.size):=by simpa [← hsz] using hp.2.2
  rwa [List.take_of_length_le (by omega)] at h3
 have hpw : d'.toList.Pairwise fun x y=>(decide (x≤y))=true:=by
  rw [List.pairwise_iff_getElem]
  intro i j hi hj hij
  have hi' : i < d'.size:=by simpa using hi
  have hj' : j < d'.size:=by simpa using hj
  have:=hs i j (Nat.zero_le _) hij (by simpa [hsz] using hj')
  rw [Zf3,getElem!_pos d' j hj',getElem!_pos d' i hi'] at this
  simp only [decide_eq_false_iff_not] at this
  simp only [Array.getElem_toList,decide_eq_true_eq]
  exact this
 have h1 : d'.toList.mergeSort (fun x y=>decide (x≤y))=d'.toList:=List.mergeSort_of_pairwise hpw
 have h2:=mergeSort_of_perm hperm
 apply Array.ext'
 rw [← h1]
 exact h2
theorem ZwS {g : FuncId} {args : List Value} {v : Value} {n : Nat} (hg : g < Zay) (hc : ZbG Tryz.prog g) (hx : ∀ w : World,RVs (ι0 Tryz.prog.globals.size) args args) (hrun : ∃ H',run Tryz.prog (fun _=>none) lvs n g args (List.replicate Tryz.prog.globals.size Zc.dead)=some (v,H')) (w : World) :
  Calls Tryz.prog g args.toArray w fun e w'=>∃ v',e=.returned v'∧Go.RowKit.Below w.heap.size w w':=by
 obtain ⟨H',hrun⟩:=hrun
 have hs:=ZfT (P:=Tryz.prog) (prim:=fun _=>none) (lvs:=lvs) (by kernel_rfl) (fun b g m h=>by cases h) n (b0 w) g args _ v H' hrun
 rcases hs with ⟨_,hC | ⟨e,⟨fn',h1,_,h2,_⟩,_⟩⟩ | ⟨hno,_⟩
 ·obtain ⟨_,hC⟩:=hC
  refine (hC (ι0 Tryz.prog.globals.size) w args ZyZ (hx w)).mono fun e w' ⟨ι1,v',_,he,_,hS⟩=>⟨v',he,?_⟩
  exact ⟨hS.rest.1,hS.rest.2.1,hS.rest.2.2,hS.size,hS.old⟩
 ·obtain ⟨fn,h3,_,h4⟩:=hc
  rw [h3] at h1;cases h1
  rw [h4] at h2;cases h2
 ·exact absurd hg (Nat.not_lt_of_le hno)
noncomputable abbrev R0 (n : Nat) : Ze:=run Tryz.prog (fun _=>none) lvs n
section
variable {H : Zd} {n : Nat} {f : Value}
theorem Zy2 : R0 (n+1) Q3 [.slice none 0 0,iv 0,iv 0,f] H=some (.tuple #[],H):=by
 rw [R0,ZbK rfl]
 unfold Z9
 have w1 : IntKind.i64.wrap (0+1)=1:=w64 (by omega) (by omega)
 rw [Za Zt,w1]
 refine (ZO (j:=0) (vs:=[]) (H':=H) (ZD ?_)).trans ?_
 ·simp [Z9.l1,↓Qa,Z8,↓QG,Qk,Qm,Ql,↓Zb,JR,Zv,Yh,Qj,Ju,Qv,Jv,Je,QO,JE,QP,QX,QZ,Q0,Qi,Zh,ZY,Yi,Ys,Jf,Q4,JQ,Zt,Qr,JD,JI,JG,ZA,Zq,Zg,Q8,ZF,Qz,JT,JN,JA,JK,↓YI,JU,↓g_r,YD,Bool.not_true,Bool.not_false,Bool.false_eq_true,Bool.true_eq_false,reduceIte,List.tail_cons,List.headD_cons,decide_true,decide_false,cond_true,cond_false,Nat.beq_refl,KC,Jy,ZP,ZX,ZC,ZU,Jx,Yn,YG,YR,J2,Yu,Yt,Zu,List.replicate,Zo,Zn,QM,QL,QN,Zi,QD,ZM,Ji]
 ·rw [Zu];rfl
theorem Zzc {l : Value} : R0 (n+2) QK [.slice none 0 0,iv 0,iv 0,l,f] H=some (.tuple #[],H):=by
 have e1 : run Tryz.prog (fun _=>none) lvs (n+1) Q3 [.slice none 0 0,iv 0,iv 0,f] H=_:=Zy2
 rw [R0,Zdv rfl]
 unfold Jd
 refine (QI (v:=.tuple #[]) (H':=H) (Qc ?_)).trans rfl
 have w1 : IntKind.i64.wrap (0 - 0)=0:=w64 (by omega) (by omega)
 rw [Yn]
 unfold Jd.l1
 refine QI ?_
 rw [Za Qr,w1,Za Q8,Zb,if_pos (by simp),Za e1]
 rfl
theorem Zxn {s : ByteArray} {i : Nat} (hi : i < s.size) (q : IntKind) (H : Zd) : ∃ b : UInt8,ixs (.string s) (.int q i) H=some (.int .u8 b.toNat,H):=by
 refine ⟨s[i],?_⟩
 unfold ixs
 simp only [Int.toNat_natCast]
 rw [if_pos (by omega),getElem?_pos s i hi]
set_option maxRecDepth 100000 in
theorem ZyW : ∃ v,R0 (n+2) Zcp [.int .u64 0] H=some (v,H):=by
 have e : ∃ v,R0 (n+1) Zbk [.int .u64 0] H=some (v,H):=by
  rw [R0,ZkD rfl]
  unfold Zdc
  have w1 : IntKind.u8.wrap 0=((0 : Nat) : Int):=by rw [wu8];rfl
  generalize ht : (⟨#[0,1,2,2,3,3,3,3,4,4,4,4,4,4,4,4,5,5,5,5,5,5,5,5,5,5,5,5,5,5,5,5,6,6,6,6,6,6,6,6,6,6,6,6,6,6,6,6,6,6,6,6,6,6,6,6,6,6,6,6,6,6,6,6,7,7,7,7,7,7,7,7,7,7,7,7,7,7,7,7,7,7,7,7,7,7,7,7,7,7,7,7,7,7,7,7,7,7,7,7,7,7,7,7,7,7,7,7,7,7,7,7,7,7,7,7,7,7,7,7,7,7,7,7,7,7,7,7,8,8,8,8,8,8,8,8,8,8,8,8,8,8,8,8,8,8,8,8,8,8,8,8,8,8,8,8,8,8,8,8,8,8,8,8,8,8,8,8,8,8,8,8,8,8,8,8,8,8,8,8,8,8,8,8,8,8,8,8,8,8,8,8,8,8,8,8,8,8,8,8,8,8,8,8,8,8,8,8,8,8,8,8,8,8,8,8,8,8,8,8,8,8,8,8,8,8,8,8,8,8,8,8,8,8,8,8,8,8,8,8,8,8,8,8,8,8,8,8,8,8,8,8,8,8,8,8]⟩ : ByteArray)=tab
  have hs : tab.size=256:=by rw [← ht];rfl
  obtain ⟨b,hb⟩:=Zxn (s:=tab) (i:=0) (by omega) .u8 H
  refine ⟨iv (IntKind.i64.wrap (0+IntKind.i64.wrap b.toNat)),?_⟩
  rw [Za Qz]
  refine (Qf (vs:=[.int .u64 0,iv 0]) (H':=H) (by rw [Zb,if_neg (by simp)];rfl)).trans ?_
  rw [ZP,Za Qz]
  refine (Qf (vs:=[.int .u64 0,iv 0]) (H':=H) (by rw [Zb,if_neg (by simp)];rfl)).trans ?_
  rw [ZP,Za Qz]
  refine (Qf (vs:=[.int .u64 0,iv 0]) (H':=H) (by rw [Zb,if_neg (by simp)];rfl)).trans ?_
  rw [ZP,Za Qi,w1,Za hb,Za Qi,Za Zt]
  rfl
 obtain ⟨v,e⟩:=e
 refine ⟨v,?_⟩
 rw [R0,ZmP rfl]
 unfold Zez
 rw [Zb,if_neg (by simp),Za e]
 rfl
theorem ZxX : R0 (n+3) KG [.slice none 0 0,f] H=some (.tuple #[],H):=by
 obtain ⟨v,e1⟩:=ZyW (n:=n) (H:=H)
 have e2 : R0 (n+2) QK [.slice none 0 0,iv 0,iv 0,v,f] H=some (.tuple #[],H):=Zzc
 rw [R0,Zc1 rfl]
 unfold KI
 have w1 : IntKind.u64.wrap ((0 : Nat) : Int)=0:=by rw [Zds];rfl
 rw [Za QZ,Za Qi,w1,Za e1]
 refine (Za e2).trans rfl
end
theorem Zv5 (w : World) : Calls Tryz.prog 201 #[.slice none 0 0,.func (.func 172) #[] #[]] w fun e w'=>∃ v',e=.returned v'∧Go.RowKit.Below w.heap.size w w':=
 ZwS (args:=[.slice none 0 0,.func (.func 172) #[] #[]]) (n:=3) (by decide) ⟨Tryz.f201,Tryz.func201,by kernel_rfl,by kernel_rfl⟩ (fun w=>.cons (.sc rfl) (.cons (.fn (fun l h=>by cases h) rfl (fun i hi=>by cases hi) rfl (fun i hi=>by cases hi)) .nil)) ⟨_,ZxX (n:=0)⟩ w
theorem ZgX {gk : FuncId} (hg : ∀ args w,(callFunc gk args).run Tryz.prog w=.ok (.enter gk args) w)
  (hseq : ∀ (w : World) (Bm b : Nat) (es : Array MapEntry) (clock : Nat) (ks : List (List UInt8)),Bm < w.heap.size→w.cell? ⟨Bm,0,none⟩=some (.map (some b))→w.heap[b]?=some (.map es clock)→es.toList.map (·.key)=ks.map strv→Go.MapKept.Stamped es clock→
   (∀ k∈ks,k.length≤1000000)→ks.length≤1000000→SeqGives Fence.wide 3 Tryz.prog gk #[.pointer (some ⟨Bm,0,none⟩)] encStr (fun ss=>ss.Perm ks) ks.length w) : ZgI Tryz.prog 170 gk 172 where
 c:=⟨Tryz.f170,Tryz.func170,by kernel_rfl,by kernel_rfl⟩
 run:=fun w Bm b es clock ks hB hc hb hk hst hl hf=>by
  have e201 : ∀ args w,(callFunc 201 args).run Tryz.prog w=.ok (.enter 201 args) w:=enters_of Tryz.func201 (by kernel_rfl) rfl
  have e172 : ∀ args w,(callFunc 172 args).run Tryz.prog w=.ok (.enter 172 args) w:=enters_of Tryz.func172 (by kernel_rfl) rfl
  have hmax : ks.length≤maxLen:=Nat.le_trans hf (by decide)
  have cC:=AnyZ.collect_in Tryz.collA Fence.wide 5 trivial trivial rfl (by omega) gk #[.pointer (some ⟨Bm,0,none⟩)] trivial hg _ _ hmax (by omega) w (hseq w Bm b es clock ks hB hc hb hk hst hl hf)
  have cC:=(callsIn_wide (n:=5)).1 cC
  change Calls Tryz.prog 200 _ _ _ at cC
  go_enter Tryz.func170,Tryz.ntmps170
  go_wp2_with (go_at_call 200;refine cC.mono ?_;rintro e W ⟨v,ss,rfl,hS,hrow,hnil,hbl⟩)
  have hlen : ss.length=ks.length:=hS.length_eq
  rcases hrow.2 with ⟨rfl,hz⟩ | ⟨gb,cap,cur,rfl,hbase,hgb,r1,r2,r3,r4⟩
  ·have hss : ss=[]:=List.eq_nil_of_length_eq_zero hz
   go_wp2_with (go_at_call 201;refine (Zv5 W).mono ?_;rintro e w' ⟨v',rfl,hb2⟩)
   go_ret
   have hks : ks=[]:=List.eq_nil_of_length_eq_zero (by rw [← hlen,hss];rfl)
   subst hks
   exact ⟨_,0,rfl,⟨by simp [Qs],.inl ⟨rfl,rfl⟩⟩,by simp,hbl.trans (hb2.mono (by have:=hbl.size;omega))⟩
  ·have hH : Holds encStr W gb 0 ss.toArray:=holds_of_block hgb (by simpa using r4)
   have hgl : gb < W.heap.size:=(Array.getElem?_eq_some_iff.1 hgb).1
   have cS:=Any.slices_SortFunc Tryz.sortA encStr (fun _=>rfl) Zb7 ZzP 172 #[] gb 0 cap ss.toArray W e172 (ZxE gb 0 _ W) hH hgl (by simp;omega)
   change Calls Tryz.prog 201 #[.slice (some ⟨gb,0,none⟩) ss.length cap,.func (.func 172) #[] #[]] W _ at cS
   go_wp2_with (go_at_call 201;refine cS.mono ?_;rintro e w' ⟨rfl,d',nn,os,hp,hs,rfl⟩)
   go_ret
   have hd:=ZvJ hp hs
   subst hd
   have hks : Qs ks=ss.mergeSort (fun x y=>decide (x≤y)):=(mergeSort_of_perm hS).symm
   rw [← hlen,hks]
   exact ⟨_,_,rfl,ownsRow_sorted (by simp) hbase hgb r1 r2 r3,hnil.trans ⟨fun h=>List.eq_nil_of_length_eq_zero (by rw [← hlen,h];rfl),fun h=>List.eq_nil_of_length_eq_zero (by rw [hlen,h];rfl)⟩,hbl.grown (grownBy_sorted _) hbl.size (fun j hj=>by cases hj;exact hbase)⟩
section
variable {H : Type}
def Zqr (v : Value) : Option (DataW H × List MemPlace):=some (.nil,[])
theorem own_of {P : Program} {k : TypeId} (hk : P.underlying k=some .string) {w : World} {b clock : Nat} {es : Array MapEntry} {ks : List (List UInt8)} (hb : w.heap[b]?=some (.map es clock)) (hks : es.toList.map (·.key)=ks.map strv) (hst : Go.MapKept.Stamped es clock)
  (hl : ∀ k∈ks,k.length≤1000000) (hf : ks.length≤1000000) : ∃ D0 : DataW H,w.ownsMap P k Zqr b ks.length D0∧ks.Perm (strKeys D0)∧Maps.size D0=ks.length:=by
 have hsz : es.size=ks.length:=by
  have:=congrArg List.length hks
  simpa using this
 have hrd : ∀ (x : MapEntry) (s : List UInt8),x.key=strv s→s.length≤1000000→Go.WideElems.rd (H:=H) P k Zqr x=some (.string s,.nil):=fun x s hs hlen=>by
  have h1 : (⟨s.toArray⟩ : ByteArray).size≤maxLen:=Nat.le_trans (by simpa [ByteArray.size] using hlen) (by decide)
  simp [Go.WideElems.rd,hs,keyOf,hk,mapKey,Zqr,h1,strv]
 have hmap : ∀ (l : List MapEntry) (q : List (List UInt8)),l.map (·.key)=q.map strv→(∀ s∈q,s.length≤1000000)→l.map (Go.WideElems.rg (H:=H) P k Zqr)=q.map fun s=>(Lit.string s,DataW.nil):=by
  intro l
  induction l with
  | nil=>intro q h _;cases q with | nil=>rfl | cons a q=>simp at h
  | cons x l ih=>
   intro q h hq
   cases q with
   | nil=>simp at h
   | cons a q=>
    simp only [List.map_cons,List.cons.injEq] at h
    rw [List.map_cons,List.map_cons,ih q h.2 (fun s hs=>hq s (List.mem_cons_of_mem _ hs))]
    congr 1
    unfold Go.WideElems.rg
    rw [hrd x a h.1 (hq a (by simp))]
    rfl
 refine ⟨.map ((es.toList.map (Go.WideElems.rg P k Zqr)).foldr DataW.insert []),⟨es,clock,hb,⟨by rw [hsz];exact Nat.le_trans hf (by decide),hst,fun x hx=>?_⟩,by omega,rfl⟩,?_,?_⟩
 ·have : x.key∈ks.map strv:=by rw [← hks];exact List.mem_map.2 ⟨x,hx,rfl⟩
  obtain ⟨s,h1,h2⟩:=List.mem_map.1 this
  exact ⟨_,hrd x s h2.symm (hl s h1)⟩
 ·rw [hmap _ _ hks hl]
  have h1:=(Go.WideShapes.sorted_perm (H:=H) (ks.map fun s=>(Lit.string s,DataW.nil))).map fun p=>Go.strOf p.1
  have h2 : (ks.map fun s=>(Lit.string s,(DataW.nil : DataW H))).map (fun p=>Go.strOf p.1)=ks:=by
   rw [List.map_map];exact (List.map_congr_left fun a _=>rfl).trans (List.map_id ks)
  rw [h2] at h1
  exact h1.symm
 ·rw [hmap _ _ hks hl]
  have:=(Go.WideShapes.sorted_perm (H:=H) (ks.map fun s=>(Lit.string s,DataW.nil))).length_eq
  rw [List.length_map] at this
  exact this
end
theorem ZlK {g Bm n : Nat} {ks ks' : List (List UInt8)} {w : World} (h : SeqGives Fence.wide 3 Tryz.prog g #[.pointer (some ⟨Bm,0,none⟩)] encStr (fun ss=>ss.Perm ks') n w) (hn : n=ks.length) (hp : ks.Perm ks') : SeqGives Fence.wide 3 Tryz.prog g #[.pointer (some ⟨Bm,0,none⟩)] encStr (fun ss=>ss.Perm ks) ks.length w:=by
 subst hn
 intro l J W hW hJ hY h0
 refine (h l J W hW hJ hY h0).mono fun e w' ⟨h1,xs,h2,h3⟩=>⟨h1,xs,h2.trans hp.symm,h3⟩
theorem keysA : ZgI Tryz.prog 170 202 172:=ZgX (enters_of Tryz.func202 (by kernel_rfl) rfl) fun w Bm b es clock ks hB hc hb hk hst hl hf=>by
 obtain ⟨D0,hown,hp,hs⟩:=own_of (H:=Unit) (P:=Tryz.prog) (k:=Tryz.keysA_ren.t 26) (by kernel_rfl) hb hk hst hl hf
 exact ZlK (AnyZ.keys_gives (ρ:=Tryz.keysA_ren) { Tryz.keysA with } Fence.wide 3 trivial rfl (by omega) Bm b ks.length D0 w hB hc hown) hs hp
theorem keysB : ZgI Tryz.prog 170 204 172:=ZgX (enters_of Tryz.func204 (by kernel_rfl) rfl) fun w Bm b es clock ks hB hc hb hk hst hl hf=>by
 obtain ⟨D0,hown,hp,hs⟩:=own_of (H:=Unit) (P:=Tryz.prog) (k:=Tryz.keysB_ren.t 26) (by kernel_rfl) hb hk hst hl hf
 exact ZlK (AnyZ.keys_gives (ρ:=Tryz.keysB_ren) { Tryz.keysB with } Fence.wide 3 trivial rfl (by omega) Bm b ks.length D0 w hB hc hown) hs hp
theorem keysC : ZgI Tryz.prog 170 216 172:=ZgX (enters_of Tryz.func216 (by kernel_rfl) rfl) fun w Bm b es clock ks hB hc hb hk hst hl hf=>by
 obtain ⟨D0,hown,hp,hs⟩:=own_of (H:=Unit) (P:=Tryz.prog) (k:=Tryz.keysC_ren.t 26) (by kernel_rfl) hb hk hst hl hf
 exact ZlK (AnyZ.keys_gives (ρ:=Tryz.keysC_ren) { Tryz.keysC with } Fence.wide 3 trivial rfl (by omega) Bm b ks.length D0 w hB hc hown) hs hp
abbrev ZjJ : Nat:=202
abbrev Zff : List Nat:=[202,204,216]
noncomputable def np : Nat→Option (List Value→M Value)
 | 156=>some ZjQ
 | 195=>some ZjQ
 | 196=>some ZjQ
 | 158=>some Znh
 | 170=>some (Zce Zff Qx)
 | 239=>some Zg1
 | 233=>some Zhp
 | _=>none
theorem np_sound (w0 : Qe) : ∀ g m,np g=some m→Zek Tryz.prog Tryz.prog.globals.size w0 g m:=by
 intro g m h
 unfold np at h
 split at h
 ·cases h;exact Zgb clA
 ·cases h;exact Zgb clB
 ·cases h;exact Zgb clC
 ·cases h;exact ZtK (ZyV clC)
 ·cases h
  exact Zsh (by simp) fun gk hg=>by
   simp only [List.mem_cons,List.not_mem_nil,or_false] at hg
   rcases hg with rfl | rfl | rfl
   ·exact keysA
   ·exact keysB
   ·exact keysC
 ·cases h;exact (Zt5 ⟨Tryz.f239,Tryz.func239,by kernel_rfl,by kernel_rfl,by kernel_rfl,by kernel_rfl⟩)
 ·cases h;exact (ZtQ ⟨Tryz.f233,Tryz.func233,by kernel_rfl,by kernel_rfl,by kernel_rfl,by kernel_rfl⟩)
 ·cases h
noncomputable abbrev R (n : Nat) : Ze:=run Tryz.prog np lvs n
end Go.Proofs.YtedkoimihknggaaGreatDoor.A

