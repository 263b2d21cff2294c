/- What the law NewerOf needs (part 3). -/
import Derived.Test.YtnnehafmjfmbnaaGreatDoorZNewerOf2
import Derived.Test.YtnnehafmjfmbnaaGreatDoorProg
import Derived.KernelRfl
import Derived.Maps.Own
import Derived.Sort.KeysCollected
import Derived.Lib.Bytealg
import Derived.WalkKit
import Derived.Maps.RangeWalk
import Derived.Deep.RegionWith
import Derived.Deep.Cut
import Derived.Laws.Cover1
import Derived.Sort.Walk0
import Derived.Sort.OwnSorted
import Derived.Shelf.SlGeneric
import Derived.Shelf.SlIter.Collect
import Derived.Shelf.SlSortCmp.Whole1
import Derived.Shelf.SlMaps.Clone
import Derived.Ground.GgzProg
import Derived.Ground.SlsfProg
import Derived.Ground.SlmcProg
namespace Go.Proofs.YtnnehafmjfmbnaaGreatDoor.A
set_option linter.unusedVariables false
set_option maxRecDepth 100000
set_option linter.unusedSimpArgs false
open Go.Proofs Go.Proofs.YtnnehafmjfmbnaaGreatDoor
noncomputable def Zl.l1 (Γ : Zd) (s0 s1 s5 s30 s31 s32 : Value) : M Out:=
 bind (bop .int .lss s32 s31) fun y13=>
 cnd y13
 (bind (ixa 5 s30 s32) fun y14=>
 bind (ldA 5 y14) fun y15=>
 bind (alc 1 (.agg #[.string ⟨#[]⟩,.string ⟨#[]⟩,.string ⟨#[]⟩,.bool false,.slice none 0 0])) fun y16=>
 bind (stA 5 y16 y15) fun _=>
 bind (ldA 5 y16) fun y17=>
 bind (Γ ZbA [y17]) fun y18=>
 bind (uop .not y18) fun y19=>
 cnd y19
 (ret (.ret (Value.bool true)))
 (bind (bsl 1 0 (.string ⟨#[]⟩) []) fun y20=>
 bind (fa 4 y16) fun y21=>
 bind (ld1 y21) fun y22=>
 bind (app 1 16 y20 y22) fun y23=>
 bind (fa 4 y16) fun y24=>
 bind (st1 y24 y23) fun _=>
 bind (ldA 5 y16) fun y25=>
 bind (bsl 5 1 (.agg #[.string ⟨#[]⟩,.string ⟨#[]⟩,.string ⟨#[]⟩,.bool false,.slice none 0 0]) [(0,5,y25)]) fun y26=>
 bind (app 5 80 s5 y26) fun y27=>
 bind (bop .int .add s32 (Value.int .i64 1)) fun y28=>
 ret (.nrm [s0,s1,y27,s30,s31,y28])))
 (ret (.ext 0 [s0,s1,s5]))
noncomputable def Zl.l2 (Γ : Zd) (s0 s1 s5 s49 s50 s51 : Value) : M Out:=
 bind (bop .int .lss s51 s50) fun y32=>
 cnd y32
 (bind (ixa 1 s49 s51) fun y33=>
 bind (ld1 y33) fun y34=>
 bind (JT y34) fun y35=>
 bind (bop .int .gtr y35 (Value.int .i64 50)) fun y36=>
 cnd y36
 (ret (.ret (Value.bool true)))
 (bind (bop .int .add s51 (Value.int .i64 1)) fun y37=>
 ret (.nrm [s0,s1,s5,s49,s50,y37])))
 (ret (.ext 2 [s0,s1,s5]))
noncomputable def Zl.l4 (Γ : Zd) (s0 s1 s5 s10 s12 s75 s76 s84 s85 : Value) : M Out:=
 bind (bop .int .lss s85 s84) fun y53=>
 cnd y53
 (bind (ixa 5 s5 s12) fun y54=>
 bind (fa 4 y54) fun y55=>
 bind (ld1 y55) fun y56=>
 bind (ixa 1 y56 s85) fun y57=>
 bind (st1 y57 (Value.string ⟨#[122,122,122]⟩)) fun _=>
 bind (bop .int .add s85 (Value.int .i64 1)) fun y58=>
 ret (.nrm [s0,s1,s5,s10,s12,s75,s76,s84,y58]))
 (ret (.ext 6 [s0,s1,s5,s10,s75,s76]))
noncomputable def Zl.l3 (Γ : Zd) (s0 s1 s5 s10 s75 s76 : Value) : M Out:=
 bind (bop .int .lss s76 s75) fun y48=>
 cnd y48
 (bind (ixa 5 s5 s76) fun y49=>
 bind (fa 4 y49) fun y50=>
 bind (ld1 y50) fun y51=>
 bind (Zx y51) fun y52=>
 jn (Zj (c9 (Zl.l4 Γ)) [s0,s1,s5,s10,s76,s75,s76,y52,(Value.int .i64 0)]) noN (xk 6 (c6 fun q60_0 q60_1 q60_2 q60_3 q60_4 q60_5=>
 bind (bop .int .add q60_5 (Value.int .i64 1)) fun y61=>
 ret (.nrm [q60_0,q60_1,q60_2,q60_3,q60_4,y61])) noX) QH)
 (ret (.ext 4 [s0,s1,s10]))
noncomputable def Zl.l6 (Γ : Zd) (s0 s1 s10 s14 s15 s100 s101 s109 s110 : Value) : M Out:=
 bind (bop .int .lss s110 s109) fun y72=>
 cnd y72
 (bind (ixa 5 s14 s15) fun y73=>
 bind (fa 4 y73) fun y74=>
 bind (ld1 y74) fun y75=>
 bind (ixa 1 y75 s110) fun y76=>
 bind (st1 y76 (Value.string ⟨#[121,121,121]⟩)) fun _=>
 bind (bop .int .add s110 (Value.int .i64 1)) fun y77=>
 ret (.nrm [s0,s1,s10,s14,s15,s100,s101,s109,y77]))
 (ret (.ext 10 [s0,s1,s10,s14,s100,s101]))
noncomputable def Zl.l5 (Γ : Zd) (s0 s1 s10 s14 s100 s101 : Value) : M Out:=
 bind (bop .int .lss s101 s100) fun y67=>
 cnd y67
 (bind (ixa 5 s14 s101) fun y68=>
 bind (fa 4 y68) fun y69=>
 bind (ld1 y69) fun y70=>
 bind (Zx y70) fun y71=>
 jn (Zj (c9 (Zl.l6 Γ)) [s0,s1,s10,s14,s101,s100,s101,y71,(Value.int .i64 0)]) noN (xk 10 (c6 fun q79_0 q79_1 q79_2 q79_3 q79_4 q79_5=>
 bind (bop .int .add q79_5 (Value.int .i64 1)) fun y80=>
 ret (.nrm [q79_0,q79_1,q79_2,q79_3,q79_4,y80])) noX) QH)
 (ret (.ext 8 [s0,s1,s10]))
noncomputable def Zl (Γ : Zd) (x0 x1 : Value) : M Value:=
 bind (Γ WY []) fun y1=>
 bind (uop .not y1) fun y2=>
 bind (ZO y2 false 3 (bind (Zx x0) fun y3=>
 bind (bop .int .gtr y3 (Value.int .i64 30)) fun y4=>
 ret [x0,y3,y4])) (c3 fun _ _ q5_2=>
 bind (pick y2 (Value.bool true) q5_2) fun y6=>
 bind (ZO y6 false 3 (bind (Zx x1) fun y7=>
 bind (bop .int .gtr y7 (Value.int .i64 20)) fun y8=>
 ret [x1,y7,y8])) (c3 fun _ _ q9_2=>
 bind (pick y6 (Value.bool true) q9_2) fun y10=>
 cnd y10
 (bind (Γ WY []) fun y11=>
 ret y11)
 (bind (Zx x0) fun y12=>
 jn (Zj (c6 (Zl.l1 Γ)) [x0,x1,(Value.slice none 0 0),x0,y12,(Value.int .i64 0)]) noN (xk 0 (c3 fun q30_0 q30_1 q30_2=>
 bind (Zx q30_1) fun y31=>
 jn (Zj (c6 (Zl.l2 Γ)) [q30_0,q30_1,q30_2,q30_1,y31,(Value.int .i64 0)]) noN (xk 2 (c3 fun q39_0 q39_1 q39_2=>
 bind (Γ ZaW [q39_2,q39_1]) fun y40=>
 bind (ZF y40 0) fun y41=>
 bind (ZF y40 1) fun y42=>
 bind (Γ ZaX [q39_0,q39_1]) fun y43=>
 bind (bop .int .neq y42 y43) fun y44=>
 cnd y44
 (ret (Value.bool false))
 (bind (bop .int .neq y42 (Value.int .i64 0)) fun y45=>
 cnd y45
 (bind (bop .ptr .eql y41 (Value.pointer none)) fun y46=>
 ret y46)
 (bind (Zx q39_2) fun y47=>
 jn (Zj (c6 (Zl.l3 Γ)) [q39_0,q39_1,q39_2,y41,y47,(Value.int .i64 0)]) noN (xk 4 (c3 fun q64_0 q64_1 q64_2=>
 bind (Γ KR [q64_2]) fun y65=>
 bind (Zx y65) fun y66=>
 jn (Zj (c6 (Zl.l5 Γ)) [q64_0,q64_1,q64_2,y65,y66,(Value.int .i64 0)]) noN (xk 8 (c3 fun q83_0 q83_1 q83_2=>
 bind (bld (.agg #[.slice none 0 0,.slice none 0 0]) [(0,1,q83_0),(1,1,q83_1)]) fun y84=>
 bind (Γ ZaC [q83_2,y84]) fun y85=>
 ret y85) noX) ret) noX) ret))) noX) ret) noX) ret)))
theorem ZiP (Γ : Zd) (x0 x1 : Value) : ZG Tryz.prog Γ Tryz.f4 Zdz [x0,x1]=Zl Γ x0 x1:=by kernel_rfl
theorem Zht {prim : FuncId→Option (List Value→M Value)} (hp : prim We=none) (n : Nat) (x0 x1 : Value) : run Tryz.prog prim lvs (n+1) We [x0,x1]=Zl (run Tryz.prog prim lvs n) x0 x1:=
 (Zt hp (by kernel_rfl) Tryz.func4 (by kernel_rfl)).trans (ZiP _ x0 x1)
noncomputable def Zc5 (Γ : Zd) : M Value:=
 bind (Γ Wz []) fun y1=>
 bind (bop .ptr .eql y1 (Value.pointer none)) fun y2=>
 cnd y2
 (ret (Value.bool false))
 (bind (Γ Y4 [y1,(Value.string ⟨#[97,110,110]⟩),(Value.string ⟨#[49]⟩)]) fun y3=>
 bind (Γ YO [y1,(Value.string ⟨#[97,110,110]⟩),(Value.string ⟨#[65,64,98,46,99]⟩)]) fun y4=>
 bind (Γ YV [y1,(Value.string ⟨#[97,110,110]⟩),(Value.string ⟨#[98,111,98]⟩)]) fun y5=>
 bind (Γ Wf [y1,(Value.string ⟨#[97,64,98,46,99]⟩)]) fun y6=>
 bind (ZF y6 0) fun y7=>
 bind (ZF y6 1) fun y8=>
 bind (bop .int .eql y3 (Value.int .i64 0)) fun y9=>
 bind (ZO y9 true 2 (bind (bop .int .eql y4 (Value.int .i64 0)) fun y10=>
 ret [y4,y10])) (c2 fun _ q11_1=>
 bind (pick y9 q11_1 (Value.bool false)) fun y12=>
 bind (ZO y12 true 2 (bind (bop .int .eql y5 (Value.int .i64 0)) fun y13=>
 ret [y5,y13])) (c2 fun _ q14_1=>
 bind (pick y12 q14_1 (Value.bool false)) fun y15=>
 bind (ZO y15 true 2 (bind (bop .int .eql y8 (Value.int .i64 0)) fun y16=>
 ret [y8,y16])) (c2 fun _ q17_1=>
 bind (pick y15 q17_1 (Value.bool false)) fun y18=>
 bind (ZO y18 true 2 (bind (bop .str .eql y7 (Value.string ⟨#[98,111,98]⟩)) fun y19=>
 ret [y7,y19])) (c2 fun _ q20_1=>
 bind (pick y18 q20_1 (Value.bool false)) fun y21=>
 ret y21)))))
theorem Zkx (Γ : Zd) : ZG Tryz.prog Γ Tryz.f7 Ze5 []=Zc5 Γ :=by kernel_rfl
theorem Zja {prim : FuncId→Option (List Value→M Value)} (hp : prim WY=none) (n : Nat) : run Tryz.prog prim lvs (n+1) WY []=Zc5 (run Tryz.prog prim lvs n) :=
 (Zt hp (by kernel_rfl) Tryz.func7 (by kernel_rfl)).trans (Zkx _ )
noncomputable def Zeu (Γ : Zd) : M Value:=
 bind (mkm) fun y1=>
 bind (Γ ZdB []) fun y2=>
 bind (Γ ZcS []) fun y3=>
 bind (bld (.agg #[.map none,.pointer none,.pointer none]) [(0,1,y1),(1,1,y2),(2,1,y3)]) fun y4=>
 bind (alc 1 y4) fun y5=>
 ret y5
theorem Zmv (Γ : Zd) : ZG Tryz.prog Γ Tryz.f9 Zhc []=Zeu Γ :=by kernel_rfl
theorem ZlS {prim : FuncId→Option (List Value→M Value)} (hp : prim Wz=none) (n : Nat) : run Tryz.prog prim lvs (n+1) Wz []=Zeu (run Tryz.prog prim lvs n) :=
 (Zt hp (by kernel_rfl) Tryz.func9 (by kernel_rfl)).trans (Zmv _ )
noncomputable def Yk.l1 (Γ : Zd) (s0 s3 s9 s10 s11 : Value) : M Out:=
 bind (bop .int .lss s11 s10) fun y3=>
 cnd y3
 (bind (ixa 1 s9 s11) fun y4=>
 bind (ld1 y4) fun y5=>
 bind (Γ KC [s0,y5]) fun y6=>
 bind (ZF y6 0) fun y7=>
 bind (ZF y6 1) fun y8=>
 bind (alc 1 (.agg #[.string ⟨#[]⟩,.string ⟨#[]⟩,.string ⟨#[]⟩,.bool false,.slice none 0 0])) fun y9=>
 bind (stA 5 y9 y7) fun _=>
 bind (ldA 5 y9) fun y10=>
 bind (bsl 5 1 (.agg #[.string ⟨#[]⟩,.string ⟨#[]⟩,.string ⟨#[]⟩,.bool false,.slice none 0 0]) [(0,5,y10)]) fun y11=>
 bind (app 5 80 s3 y11) fun y12=>
 bind (bop .int .add s11 (Value.int .i64 1)) fun y13=>
 ret (.nrm [s0,y12,s9,s10,y13]))
 (ret (.ext 0 [s3]))
noncomputable def Yk (Γ : Zd) (x0 : Value) : M Value:=
 bind (Γ KZ [x0]) fun y1=>
 bind (Zx y1) fun y2=>
 jn (Zj (c5 (Yk.l1 Γ)) [x0,(Value.slice none 0 0),y1,y2,(Value.int .i64 0)]) noN (xk 0 (c1 fun q15_0=>
 ret q15_0) noX) ret
theorem Zjw (Γ : Zd) (x0 : Value) : ZG Tryz.prog Γ Tryz.f11 ZdW [x0]=Yk Γ x0:=by kernel_rfl
theorem Zh6 {prim : FuncId→Option (List Value→M Value)} (hp : prim KR=none) (n : Nat) (x0 : Value) : run Tryz.prog prim lvs (n+1) KR [x0]=Yk (run Tryz.prog prim lvs n) x0:=
 (Zt hp (by kernel_rfl) Tryz.func11 (by kernel_rfl)).trans (Zjw _ x0)
noncomputable def KF (Γ : Zd) (x0 x1 : Value) : M Value:=
 bind (alc 1 (.agg #[.string ⟨#[]⟩,.string ⟨#[]⟩,.string ⟨#[]⟩,.bool false,.slice none 0 0])) fun y1=>
 bind (Γ QT [x0,x1]) fun y2=>
 bind (ZF y2 0) fun y3=>
 bind (ZF y2 1) fun y4=>
 bind (alc 1 (.agg #[.string ⟨#[]⟩,.bool false])) fun y5=>
 bind (stA 2 y5 y3) fun _=>
 bind (bop .int .neq y4 (Value.int .i64 0)) fun y6=>
 cnd y6
 (bind (bld (.agg #[.string ⟨#[]⟩,.string ⟨#[]⟩,.string ⟨#[]⟩,.bool false,.slice none 0 0]) []) fun y7=>
 bind (stA 5 y1 y7) fun _=>
 bind (ldA 5 y1) fun y8=>
 ret (Value.tuple #[y8,y4]))
 (bind (Q9 x0) fun y9=>
 bind (fa 1 y9) fun y10=>
 bind (ld1 y10) fun y11=>
 bind (Γ WE [y11,x1]) fun y12=>
 bind (ZF y12 0) fun y13=>
 bind (ZF y12 1) fun y14=>
 bind (fa 0 y5) fun y15=>
 bind (ld1 y15) fun y16=>
 bind (fa 1 y5) fun y17=>
 bind (ld1 y17) fun y18=>
 bind (Q9 x0) fun y19=>
 bind (fa 2 y19) fun y20=>
 bind (ld1 y20) fun y21=>
 bind (Γ JP [y21,x1]) fun y22=>
 bind (ld1 y17) fun u_23=>same u_23 y18 <|
 bind (ld1 y15) fun u_24=>same u_24 y16 <|
 bind (bld (.agg #[.string ⟨#[]⟩,.string ⟨#[]⟩,.string ⟨#[]⟩,.bool false,.slice none 0 0]) [(0,1,x1),(1,1,y16),(2,1,y13),(3,1,y18),(4,1,y22)]) fun y25=>
 bind (stA 5 y1 y25) fun _=>
 bind (ldA 5 y1) fun y26=>
 ret (Value.tuple #[y26,(Value.int .i64 0)]))
theorem ZgK (Γ : Zd) (x0 x1 : Value) : ZG Tryz.prog Γ Tryz.f12 ZcF [x0,x1]=KF Γ x0 x1:=by kernel_rfl
theorem Zgn {prim : FuncId→Option (List Value→M Value)} (hp : prim KC=none) (n : Nat) (x0 x1 : Value) : run Tryz.prog prim lvs (n+1) KC [x0,x1]=KF (run Tryz.prog prim lvs n) x0 x1:=
 (Zt hp (by kernel_rfl) Tryz.func12 (by kernel_rfl)).trans (ZgK _ x0 x1)
noncomputable def QB.l1 (Γ : Zd) (s0 s1 s12 s13 : Value) : M Out:=
 bind (bop .int .lss s13 s12) fun y5=>
 cnd y5
 (bind (ixa 5 s0 s13) fun y6=>
 bind (ldA 5 y6) fun y7=>
 bind (ixa 5 s1 s13) fun y8=>
 bind (ldA 5 y8) fun y9=>
 bind (Γ Zb3 [y7,y9]) fun y10=>
 bind (uop .not y10) fun y11=>
 cnd y11
 (ret (.ret (Value.bool false)))
 (bind (bop .int .add s13 (Value.int .i64 1)) fun y12=>
 ret (.nrm [s0,s1,s12,y12])))
 (ret (.ext 0 []))
noncomputable def QB (Γ : Zd) (x0 x1 : Value) : M Value:=
 bind (Zx x0) fun y1=>
 bind (Zx x1) fun y2=>
 bind (bop .int .neq y1 y2) fun y3=>
 cnd y3
 (ret (Value.bool false))
 (bind (Zx x0) fun y4=>
 jn (Zj (c4 (QB.l1 Γ)) [x0,x1,y4,(Value.int .i64 0)]) noN (xk 0 (c0 (ret (Value.bool true))) noX) ret)
theorem ZgM (Γ : Zd) (x0 x1 : Value) : ZG Tryz.prog Γ Tryz.f13 ZcC [x0,x1]=QB Γ x0 x1:=by kernel_rfl
theorem Zfr {prim : FuncId→Option (List Value→M Value)} (hp : prim YX=none) (n : Nat) (x0 x1 : Value) : run Tryz.prog prim lvs (n+1) YX [x0,x1]=QB (run Tryz.prog prim lvs n) x0 x1:=
 (Zt hp (by kernel_rfl) Tryz.func13 (by kernel_rfl)).trans (ZgM _ x0 x1)
noncomputable def ZbU (Γ : Zd) (x0 x1 : Value) : M Value:=
 bind (Q9 x0) fun y1=>
 bind (fa 1 y1) fun y2=>
 bind (ld1 y2) fun y3=>
 bind (Γ KX [y3,x1]) fun y4=>
 bind (ZF y4 0) fun y5=>
 bind (ZF y4 1) fun y6=>
 ret (Value.tuple #[y5,y6])
theorem ZiL (Γ : Zd) (x0 x1 : Value) : ZG Tryz.prog Γ Tryz.f15 Zdw [x0,x1]=ZbU Γ x0 x1:=by kernel_rfl
theorem Zhx {prim : FuncId→Option (List Value→M Value)} (hp : prim Wf=none) (n : Nat) (x0 x1 : Value) : run Tryz.prog prim lvs (n+1) Wf [x0,x1]=ZbU (run Tryz.prog prim lvs n) x0 x1:=
 (Zt hp (by kernel_rfl) Tryz.func15 (by kernel_rfl)).trans (ZiL _ x0 x1)
noncomputable def Ky (Γ : Zd) (x0 x1 x2 : Value) : M Value:=
 bind (Γ QT [x0,x1]) fun y1=>
 bind (ZF y1 0) fun y2=>
 bind (ZF y1 1) fun y3=>
 bind (alc 1 (.agg #[.string ⟨#[]⟩,.bool false])) fun y4=>
 bind (stA 2 y4 y2) fun _=>
 bind (bop .int .eql y3 (Value.int .i64 10)) fun y5=>
 cnd y5
 (ret y3)
 (bind (Γ WA [x2]) fun y6=>
 bind (bop .int .neq y6 (Value.int .i64 0)) fun y7=>
 cnd y7
 (ret (Value.int .i64 4))
 (bind (bop .int .eql y3 (Value.int .i64 0)) fun y8=>
 cnd y8
 (ret (Value.int .i64 9))
 (bind (Q9 x0) fun y9=>
 bind (fa 0 y9) fun y10=>
 bind (ld1 y10) fun y11=>
 bind (lenM y11) fun y12=>
 bind (bop .int .geq y12 (Value.int .i64 12)) fun y13=>
 cnd y13
 (ret (Value.int .i64 7))
 (bind (Q9 x0) fun y14=>
 bind (fa 0 y14) fun y15=>
 bind (ld1 y15) fun y16=>
 bind (bld (.agg #[.string ⟨#[]⟩,.bool false]) [(0,1,x2)]) fun y17=>
 bind (mup .str y16 x1 y17) fun _=>
 ret (Value.int .i64 0)))))
theorem ZgF (Γ : Zd) (x0 x1 x2 : Value) : ZG Tryz.prog Γ Tryz.f16 ZcB [x0,x1,x2]=Ky Γ x0 x1 x2:=by kernel_rfl
theorem ZfO {prim : FuncId→Option (List Value→M Value)} (hp : prim Y4=none) (n : Nat) (x0 x1 x2 : Value) : run Tryz.prog prim lvs (n+1) Y4 [x0,x1,x2]=Ky (run Tryz.prog prim lvs n) x0 x1 x2:=
 (Zt hp (by kernel_rfl) Tryz.func16 (by kernel_rfl)).trans (ZgF _ x0 x1 x2)
noncomputable def Kj.l1 (Γ : Zd) (s1 s3 s23 s24 s25 : Value) : M Out:=
 bind (bop .int .lss s25 s24) fun y21=>
 cnd y21
 (bind (ixa 1 s23 s25) fun y22=>
 bind (ld1 y22) fun y23=>
 bind (JT y23) fun y24=>
 bind (mxi false y24 (Value.int .i64 1000)) fun y25=>
 bind (bop .int .add s3 y25) fun y26=>
 bind (bop .int .add s25 (Value.int .i64 1)) fun y27=>
 ret (.nrm [s1,y26,s23,s24,y27]))
 (ret (.ext 0 [s1,s3]))
noncomputable def Kj (Γ : Zd) (x0 : Value) : M Value:=
 bind (alc 1 x0) fun y1=>
 bind (fa 0 y1) fun y2=>
 bind (ld1 y2) fun y3=>
 bind (JT y3) fun y4=>
 bind (fa 1 y1) fun y5=>
 bind (ld1 y5) fun y6=>
 bind (JT y6) fun y7=>
 bind (bop .int .add y4 y7) fun y8=>
 bind (fa 2 y1) fun y9=>
 bind (ld1 y9) fun y10=>
 bind (JT y10) fun y11=>
 bind (bop .int .add y8 y11) fun y12=>
 bind (fa 4 y1) fun y13=>
 bind (ld1 y13) fun y14=>
 bind (fa 4 y1) fun y15=>
 bind (ld1 y15) fun y16=>
 bind (Zx y16) fun y17=>
 bind (mxi false y17 (Value.int .i64 30)) fun y18=>
 bind (slv 1 y14 none (some y18) none) fun y19=>
 bind (Zx y19) fun y20=>
 jn (Zj (c5 (Kj.l1 Γ)) [y1,y12,y19,y20,(Value.int .i64 0)]) noN (xk 0 (c2 fun q29_0 q29_1=>
 bind (bop .int .leq q29_1 (Value.int .i64 400)) fun y30=>
 bind (ZO y30 true 4 (bind (fa 4 q29_0) fun y31=>
 bind (ld1 y31) fun y32=>
 bind (Zx y32) fun y33=>
 bind (bop .int .leq y33 (Value.int .i64 20)) fun y34=>
 ret [y31,y32,y33,y34])) (c4 fun _ _ _ q35_3=>
 bind (pick y30 q35_3 (Value.bool false)) fun y36=>
 ret y36)) noX) ret
theorem Zmp (Γ : Zd) (x0 : Value) : ZG Tryz.prog Γ Tryz.f17 Zg1 [x0]=Kj Γ x0:=by kernel_rfl
theorem ZkX {prim : FuncId→Option (List Value→M Value)} (hp : prim ZbA=none) (n : Nat) (x0 : Value) : run Tryz.prog prim lvs (n+1) ZbA [x0]=Kj (run Tryz.prog prim lvs n) x0:=
 (Zt hp (by kernel_rfl) Tryz.func17 (by kernel_rfl)).trans (Zmp _ x0)
noncomputable def Qn.l1 (Γ : Zd) (s0 s7 s23 s24 s25 : Value) : M Out:=
 bind (bop .int .lss s25 s24) fun y5=>
 cnd y5
 (bind (ixa 1 s23 s25) fun y6=>
 bind (ld1 y6) fun y7=>
 bind (Q9 s7) fun y8=>
 bind (fa 2 y8) fun y9=>
 bind (ld1 y9) fun y10=>
 bind (Γ J9 [y10,y7]) fun y11=>
 bind (bop .int .add s25 (Value.int .i64 1)) fun y12=>
 ret (.nrm [s0,s7,s23,s24,y12]))
 (ret (.ext 0 [s0,s7]))
noncomputable def Qn.l3 (Γ : Zd) (s7 s11 s36 s37 s38 s54 s55 s56 : Value) : M Out:=
 bind (bop .int .lss s56 s55) fun y33=>
 cnd y33
 (bind (ixa 1 s54 s56) fun y34=>
 bind (ld1 y34) fun y35=>
 bind (Q9 s7) fun y36=>
 bind (fa 2 y36) fun y37=>
 bind (ld1 y37) fun y38=>
 bind (fa 0 s11) fun y39=>
 bind (ld1 y39) fun y40=>
 bind (Γ YK [y38,y35,y40]) fun y41=>
 bind (bop .int .neq y41 (Value.int .i64 0)) fun y42=>
 cnd y42
 (ret (.ret (Value.tuple #[(Value.pointer none),y41])))
 (bind (bop .int .add s56 (Value.int .i64 1)) fun y43=>
 ret (.nrm [s7,s11,s36,s37,s38,s54,s55,y43])))
 (ret (.ext 4 [s7,s11,s36,s37,s38]))
noncomputable def Qn.l2 (Γ : Zd) (s7 s36 s37 s38 : Value) : M Out:=
 bind (bop .int .lss s38 s37) fun y16=>
 cnd y16
 (bind (ixa 5 s36 s38) fun y17=>
 bind (ldA 5 y17) fun y18=>
 bind (alc 1 (.agg #[.string ⟨#[]⟩,.string ⟨#[]⟩,.string ⟨#[]⟩,.bool false,.slice none 0 0])) fun y19=>
 bind (stA 5 y19 y18) fun _=>
 bind (Q9 s7) fun y20=>
 bind (fa 0 y20) fun y21=>
 bind (ld1 y21) fun y22=>
 bind (fa 0 y19) fun y23=>
 bind (ld1 y23) fun y24=>
 bind (fa 1 y19) fun y25=>
 bind (ld1 y25) fun y26=>
 bind (fa 3 y19) fun y27=>
 bind (ld1 y27) fun y28=>
 bind (bld (.agg #[.string ⟨#[]⟩,.bool false]) [(0,1,y26),(1,1,y28)]) fun y29=>
 bind (mup .str y22 y24 y29) fun _=>
 bind (fa 4 y19) fun y30=>
 bind (ld1 y30) fun y31=>
 bind (Zx y31) fun y32=>
 jn (Zj (c8 (Qn.l3 Γ)) [s7,y19,s36,s37,s38,y31,y32,(Value.int .i64 0)]) noN (xk 4 (c5 fun q45_0 q45_1 q45_2 q45_3 q45_4=>
 bind (Q9 q45_0) fun y46=>
 bind (fa 1 y46) fun y47=>
 bind (ld1 y47) fun y48=>
 bind (fa 0 q45_1) fun y49=>
 bind (ld1 y49) fun y50=>
 bind (fa 2 q45_1) fun y51=>
 bind (ld1 y51) fun y52=>
 bind (Γ J3 [y48,y50,y52]) fun y53=>
 bind (bop .int .neq y53 (Value.int .i64 0)) fun y54=>
 cnd y54
 (ret (.ret (Value.tuple #[(Value.pointer none),y53])))
 (bind (bop .int .add q45_4 (Value.int .i64 1)) fun y55=>
 ret (.nrm [q45_0,q45_2,q45_3,y55]))) noX) QH)
 (ret (.ext 2 [s7]))
noncomputable def Qn (Γ : Zd) (x0 x1 : Value) : M Value:=
 bind (Γ Zaa [x0,x1]) fun y1=>
 bind (bop .int .neq y1 (Value.int .i64 0)) fun y2=>
 cnd y2
 (ret (Value.tuple #[(Value.pointer none),y1]))
 (bind (Γ Wz []) fun y3=>
 bind (Zx x1) fun y4=>
 jn (Zj (c5 (Qn.l1 Γ)) [x0,y3,x1,y4,(Value.int .i64 0)]) noN (xk 0 (c2 fun q14_0 q14_1=>
 bind (Zx q14_0) fun y15=>
 jn (Zj (c4 (Qn.l2 Γ)) [q14_1,q14_0,y15,(Value.int .i64 0)]) noN (xk 2 (c1 fun q58_0=>
 ret (Value.tuple #[q58_0,(Value.int .i64 0)])) noX) ret) noX) ret)
theorem Zny (Γ : Zd) (x0 x1 : Value) : ZG Tryz.prog Γ Tryz.f18 Ziw [x0,x1]=Qn Γ x0 x1:=by kernel_rfl
theorem ZmC {prim : FuncId→Option (List Value→M Value)} (hp : prim ZaW=none) (n : Nat) (x0 x1 : Value) : run Tryz.prog prim lvs (n+1) ZaW [x0,x1]=Qn (run Tryz.prog prim lvs n) x0 x1:=
 (Zt hp (by kernel_rfl) Tryz.func18 (by kernel_rfl)).trans (Zny _ x0 x1)
noncomputable def ZB.l1 (Γ : Zd) (s0 s1 s21 s22 s23 : Value) : M Out:=
 bind (bop .int .lss s23 s22) fun y4=>
 cnd y4
 (bind (ixa 1 s21 s23) fun y5=>
 bind (ld1 y5) fun y6=>
 bind (Γ Yg [y6]) fun y7=>
 bind (uop .not y7) fun y8=>
 cnd y8
 (ret (.ret (Value.int .i64 10)))
 (bind (bop .int .add s23 (Value.int .i64 1)) fun y9=>
 ret (.nrm [s0,s1,s21,s22,y9])))
 (ret (.ext 0 [s0,s1]))
noncomputable def ZB.l2 (Γ : Zd) (s0 s1 s31 s32 s33 : Value) : M Out:=
 bind (bop .int .lss s33 s32) fun y13=>
 cnd y13
 (bind (ixa 1 s31 s33) fun y14=>
 bind (ld1 y14) fun y15=>
 bind (bop .int .gtr s33 (Value.int .i64 0)) fun y16=>
 bind (ZO y16 true 7 (bind (bop .int .sub s33 (Value.int .i64 1)) fun y17=>
 bind (ixa 1 s1 y17) fun y18=>
 bind (ld1 y18) fun y19=>
 bind (bop .str .geq y19 y15) fun y20=>
 ret [s1,s33,y17,y18,y19,y15,y20])) (c7 fun _ _ _ _ _ _ q21_6=>
 bind (pick y16 q21_6 (Value.bool false)) fun y22=>
 cnd y22
 (ret (.ret (Value.int .i64 9)))
 (bind (bop .int .add s33 (Value.int .i64 1)) fun y23=>
 ret (.nrm [s0,s1,s31,s32,y23]))))
 (ret (.ext 2 [s0,s1]))
noncomputable def ZB.l4 (Γ : Zd) (s0 s1 s10 s11 s53 s54 s55 s61 s62 s63 : Value) : M Out:=
 bind (bop .int .lss s63 s62) fun y36=>
 cnd y36
 (bind (ixa 1 s61 s63) fun y37=>
 bind (ld1 y37) fun y38=>
 bind (Γ ZcN [s1,y38]) fun y39=>
 bind (uop .not y39) fun y40=>
 cnd y40
 (ret (.ret (Value.int .i64 8)))
 (bind (bop .int .add s63 (Value.int .i64 1)) fun y41=>
 ret (.nrm [s0,s1,s10,s11,s53,s54,s55,s61,s62,y41])))
 (ret (.ext 6 [s0,s1,s10,s11,s53,s54,s55]))
noncomputable def ZB.l5 (Γ : Zd) (s0 s1 s11 s53 s54 s55 s74 s75 s76 : Value) : M Out:=
 bind (bop .int .lss s76 s75) fun y46=>
 cnd y46
 (bind (ixa 5 s74 s76) fun y47=>
 bind (ldA 5 y47) fun y48=>
 bind (alc 1 (.agg #[.string ⟨#[]⟩,.string ⟨#[]⟩,.string ⟨#[]⟩,.bool false,.slice none 0 0])) fun y49=>
 bind (stA 5 y49 y48) fun _=>
 bind (fa 2 s11) fun y50=>
 bind (ld1 y50) fun y51=>
 bind (bop .str .neq y51 (Value.string ⟨#[]⟩)) fun y52=>
 bind (ZO y52 true 5 (bind (fa 2 s11) fun y53=>
 bind (ld1 y53) fun y54=>
 bind (fa 2 y49) fun y55=>
 bind (ld1 y55) fun y56=>
 bind (bop .str .eql y54 y56) fun y57=>
 ret [y53,y54,y55,y56,y57])) (c5 fun _ _ _ _ q58_4=>
 bind (pick y52 q58_4 (Value.bool false)) fun y59=>
 cnd y59
 (ret (.ret (Value.int .i64 9)))
 (bind (bop .int .add s76 (Value.int .i64 1)) fun y60=>
 ret (.nrm [s0,s1,s11,s53,s54,s55,s74,s75,y60]))))
 (ret (.ext 8 [s0,s1,s53,s54,s55]))
noncomputable def ZB.l3 (Γ : Zd) (s0 s1 s53 s54 s55 : Value) : M Out:=
 bind (bop .int .lss s55 s54) fun y29=>
 cnd y29
 (bind (ixa 5 s53 s55) fun y30=>
 bind (ldA 5 y30) fun y31=>
 bind (alc 1 (.agg #[.string ⟨#[]⟩,.string ⟨#[]⟩,.string ⟨#[]⟩,.bool false,.slice none 0 0])) fun y32=>
 bind (stA 5 y32 y31) fun _=>
 bind (fa 4 y32) fun y33=>
 bind (ld1 y33) fun y34=>
 bind (Zx y34) fun y35=>
 jn (Zj (c10 (ZB.l4 Γ)) [s0,s1,s55,y32,s53,s54,s55,y34,y35,(Value.int .i64 0)]) noN (xk 6 (c7 fun q43_0 q43_1 q43_2 q43_3 q43_4 q43_5 q43_6=>
 bind (slv 5 q43_0 none (some q43_2) none) fun y44=>
 bind (Zx y44) fun y45=>
 jn (Zj (c9 (ZB.l5 Γ)) [q43_0,q43_1,q43_3,q43_4,q43_5,q43_6,y44,y45,(Value.int .i64 0)]) noN (xk 8 (c5 fun q62_0 q62_1 q62_2 q62_3 q62_4=>
 bind (bop .int .add q62_4 (Value.int .i64 1)) fun y63=>
 ret (.nrm [q62_0,q62_1,q62_2,q62_3,y63])) noX) QH) noX) QH)
 (ret (.ext 4 []))
noncomputable def ZB (Γ : Zd) (x0 x1 : Value) : M Value:=
 bind (Γ Zcf [x0,(Value.int .i64 2)]) fun y1=>
 bind (bop .int .neq y1 (Value.int .i64 0)) fun y2=>
 cnd y2
 (ret y1)
 (bind (Zx x1) fun y3=>
 jn (Zj (c5 (ZB.l1 Γ)) [x0,x1,x1,y3,(Value.int .i64 0)]) noN (xk 0 (c2 fun q11_0 q11_1=>
 bind (Zx q11_1) fun y12=>
 jn (Zj (c5 (ZB.l2 Γ)) [q11_0,q11_1,q11_1,y12,(Value.int .i64 0)]) noN (xk 2 (c2 fun q25_0 q25_1=>
 bind (Zx q25_1) fun y26=>
 bind (bop .int .gtr y26 (Value.int .i64 6)) fun y27=>
 cnd y27
 (ret (Value.int .i64 7))
 (bind (Zx q25_0) fun y28=>
 jn (Zj (c5 (ZB.l3 Γ)) [q25_0,q25_1,q25_0,y28,(Value.int .i64 0)]) noN (xk 4 (c0 (ret (Value.int .i64 0))) noX) ret)) noX) ret) noX) ret)
theorem ZnT (Γ : Zd) (x0 x1 : Value) : ZG Tryz.prog Γ Tryz.f19 ZiC [x0,x1]=ZB Γ x0 x1:=by kernel_rfl
theorem Zmh {prim : FuncId→Option (List Value→M Value)} (hp : prim ZaX=none) (n : Nat) (x0 x1 : Value) : run Tryz.prog prim lvs (n+1) ZaX [x0,x1]=ZB (run Tryz.prog prim lvs n) x0 x1:=
 (Zt hp (by kernel_rfl) Tryz.func19 (by kernel_rfl)).trans (ZnT _ x0 x1)
noncomputable def ZdL (Γ : Zd) (x0 x1 : Value) : M Value:=
 bind (alc 1 x1) fun y1=>
 bind (fa 0 y1) fun y2=>
 bind (ld1 y2) fun y3=>
 bind (Zx y3) fun y4=>
 bind (Γ WC [x0]) fun y5=>
 bind (ld1 y2) fun u_6=>same u_6 y3 <|
 bind (bop .int .eql y5 y4) fun y7=>
 bind (ZJ y7 true (ret x0)) fun y8=>
 bind (ZJ y7 true (fa 0 y1)) fun y9=>
 bind (ZJ y7 true (ld1 y9)) fun y10=>
 bind (ZJ y7 true (Γ KR [y8])) fun y11=>
 bind (ZJ y7 true (ld1 y9)) fun u_12=>same u_12 y10 <|
 bind (ZJ y7 true (Γ YX [y11,y10])) fun y13=>
 bind (pick y7 y13 (Value.bool false)) fun y14=>
 bind (ZJ y14 true (ret x0)) fun y15=>
 bind (ZJ y14 true (fa 1 y1)) fun y16=>
 bind (ZJ y14 true (ld1 y16)) fun y17=>
 bind (ZJ y14 true (Γ KA [y15])) fun y18=>
 bind (ZJ y14 true (ld1 y16)) fun u_19=>same u_19 y17 <|
 bind (ZJ y14 true (Γ KD [y18,y17])) fun y20=>
 bind (pick y14 y20 (Value.bool false)) fun y21=>
 ret y21
theorem Zk3 (Γ : Zd) (x0 x1 : Value) : ZG Tryz.prog Γ Tryz.f20 Zfs [x0,x1]=ZdL Γ x0 x1:=by kernel_rfl
theorem Zku {prim : FuncId→Option (List Value→M Value)} (hp : prim ZaC=none) (n : Nat) (x0 x1 : Value) : run Tryz.prog prim lvs (n+1) ZaC [x0,x1]=ZdL (run Tryz.prog prim lvs n) x0 x1:=
 (Zt hp (by kernel_rfl) Tryz.func20 (by kernel_rfl)).trans (Zk3 _ x0 x1)
noncomputable def JB.l1 (Γ : Zd) (s0 s1 s12 s13 : Value) : M Out:=
 bind (bop .int .lss s13 s12) fun y5=>
 cnd y5
 (bind (ixa 1 s0 s13) fun y6=>
 bind (ld1 y6) fun y7=>
 bind (ixa 1 s1 s13) fun y8=>
 bind (ld1 y8) fun y9=>
 bind (bop .str .neq y7 y9) fun y10=>
 cnd y10
 (ret (.ret (Value.bool false)))
 (bind (bop .int .add s13 (Value.int .i64 1)) fun y11=>
 ret (.nrm [s0,s1,s12,y11])))
 (ret (.ext 0 []))
noncomputable def JB (Γ : Zd) (x0 x1 : Value) : M Value:=
 bind (Zx x0) fun y1=>
 bind (Zx x1) fun y2=>
 bind (bop .int .neq y1 y2) fun y3=>
 cnd y3
 (ret (Value.bool false))
 (bind (Zx x0) fun y4=>
 jn (Zj (c4 (JB.l1 Γ)) [x0,x1,y4,(Value.int .i64 0)]) noN (xk 0 (c0 (ret (Value.bool true))) noX) ret)
theorem ZgT (Γ : Zd) (x0 x1 : Value) : ZG Tryz.prog Γ Tryz.f27 Zcy [x0,x1]=JB Γ x0 x1:=by kernel_rfl
theorem Zfl {prim : FuncId→Option (List Value→M Value)} (hp : prim KD=none) (n : Nat) (x0 x1 : Value) : run Tryz.prog prim lvs (n+1) KD [x0,x1]=JB (run Tryz.prog prim lvs n) x0 x1:=
 (Zt hp (by kernel_rfl) Tryz.func27 (by kernel_rfl)).trans (ZgT _ x0 x1)
noncomputable def J8 (Γ : Zd) (x0 x1 x2 : Value) : M Value:=
 bind (Γ QT [x0,x1]) fun y1=>
 bind (ZF y1 0) fun y2=>
 bind (ZF y1 1) fun y3=>
 bind (alc 1 (.agg #[.string ⟨#[]⟩,.bool false])) fun y4=>
 bind (stA 2 y4 y2) fun _=>
 bind (Γ Ko [x2]) fun y5=>
 bind (ZF y5 0) fun y6=>
 bind (ZF y5 1) fun y7=>
 bind (bop .int .eql y3 (Value.int .i64 10)) fun y8=>
 cnd y8
 (ret y3)
 (bind (bop .str .neq x2 (Value.string ⟨#[]⟩)) fun y9=>
 bind (ZO y9 true 2 (bind (bop .int .neq y7 (Value.int .i64 0)) fun y10=>
 ret [y7,y10])) (c2 fun _ q11_1=>
 bind (pick y9 q11_1 (Value.bool false)) fun y12=>
 cnd y12
 (ret y7)
 (bind (bop .int .neq y3 (Value.int .i64 0)) fun y13=>
 cnd y13
 (ret y3)
 (bind (Q9 x0) fun y14=>
 bind (fa 1 y14) fun y15=>
 bind (ld1 y15) fun y16=>
 bind (Γ J3 [y16,x1,x2]) fun y17=>
 ret y17))))
theorem Zfn (Γ : Zd) (x0 x1 x2 : Value) : ZG Tryz.prog Γ Tryz.f28 Zcn [x0,x1,x2]=J8 Γ x0 x1 x2:=by kernel_rfl
theorem Zfb {prim : FuncId→Option (List Value→M Value)} (hp : prim YO=none) (n : Nat) (x0 x1 x2 : Value) : run Tryz.prog prim lvs (n+1) YO [x0,x1,x2]=J8 (run Tryz.prog prim lvs n) x0 x1 x2:=
 (Zt hp (by kernel_rfl) Tryz.func28 (by kernel_rfl)).trans (Zfn _ x0 x1 x2)
noncomputable def KH (Γ : Zd) (x0 x1 x2 : Value) : M Value:=
 bind (Γ QT [x0,x1]) fun y1=>
 bind (ZF y1 0) fun y2=>
 bind (ZF y1 1) fun y3=>
 bind (alc 1 (.agg #[.string ⟨#[]⟩,.bool false])) fun y4=>
 bind (stA 2 y4 y2) fun _=>
 bind (Γ QT [x0,x2]) fun y5=>
 bind (ZF y5 0) fun y6=>
 bind (ZF y5 1) fun y7=>
 bind (alc 1 (.agg #[.string ⟨#[]⟩,.bool false])) fun y8=>
 bind (stA 2 y8 y6) fun _=>
 bind (bop .int .eql y3 (Value.int .i64 10)) fun y9=>
 bind (ZO y9 false 2 (bind (bop .int .eql y7 (Value.int .i64 10)) fun y10=>
 ret [y7,y10])) (c2 fun _ q11_1=>
 bind (pick y9 (Value.bool true) q11_1) fun y12=>
 cnd y12
 (ret (Value.int .i64 10))
 (bind (bop .int .neq y3 (Value.int .i64 0)) fun y13=>
 cnd y13
 (ret y3)
 (bind (bop .int .eql y7 (Value.int .i64 0)) fun y14=>
 cnd y14
 (ret (Value.int .i64 9))
 (bind (Q9 x0) fun y15=>
 bind (fa 0 y15) fun y16=>
 bind (ld1 y16) fun y17=>
 bind (mde .str y17 x1) fun _=>
 bind (Q9 x0) fun y18=>
 bind (fa 0 y18) fun y19=>
 bind (ld1 y19) fun y20=>
 bind (ldA 2 y4) fun y21=>
 bind (mup .str y20 x2 y21) fun _=>
 bind (Q9 x0) fun y22=>
 bind (fa 1 y22) fun y23=>
 bind (ld1 y23) fun y24=>
 bind (Γ YN [y24,x1,x2]) fun y25=>
 bind (Q9 x0) fun y26=>
 bind (fa 2 y26) fun y27=>
 bind (ld1 y27) fun y28=>
 bind (Γ Ye [y28,x1,x2]) fun y29=>
 ret (Value.int .i64 0)))))
theorem ZgL (Γ : Zd) (x0 x1 x2 : Value) : ZG Tryz.prog Γ Tryz.f29 Zcx [x0,x1,x2]=KH Γ x0 x1 x2:=by kernel_rfl
theorem Zf9 {prim : FuncId→Option (List Value→M Value)} (hp : prim YV=none) (n : Nat) (x0 x1 x2 : Value) : run Tryz.prog prim lvs (n+1) YV [x0,x1,x2]=KH (run Tryz.prog prim lvs n) x0 x1 x2:=
 (Zt hp (by kernel_rfl) Tryz.func29 (by kernel_rfl)).trans (ZgL _ x0 x1 x2)
noncomputable def ZfB (Γ : Zd) : M Value:=
 bind (mkm) fun y1=>
 bind (mkm) fun y2=>
 bind (bld (.agg #[.map none,.map none]) [(0,1,y1),(1,1,y2)]) fun y3=>
 bind (alc 1 y3) fun y4=>
 ret y4
theorem Znj (Γ : Zd) : ZG Tryz.prog Γ Tryz.f30 ZhV []=ZfB Γ :=by kernel_rfl
theorem Zmd {prim : FuncId→Option (List Value→M Value)} (hp : prim ZdB=none) (n : Nat) : run Tryz.prog prim lvs (n+1) ZdB []=ZfB (run Tryz.prog prim lvs n) :=
 (Zt hp (by kernel_rfl) Tryz.func30 (by kernel_rfl)).trans (Znj _ )
noncomputable def Zew (Γ : Zd) : M Value:=
 bind (mkm) fun y1=>
 bind (bld (.agg #[.map none]) [(0,1,y1)]) fun y2=>
 bind (alc 1 y2) fun y3=>
 ret y3
theorem Zmq (Γ : Zd) : ZG Tryz.prog Γ Tryz.f31 Zhe []=Zew Γ :=by kernel_rfl
theorem Zk1 {prim : FuncId→Option (List Value→M Value)} (hp : prim ZcS=none) (n : Nat) : run Tryz.prog prim lvs (n+1) ZcS []=Zew (run Tryz.prog prim lvs n) :=
 (Zt hp (by kernel_rfl) Tryz.func31 (by kernel_rfl)).trans (Zmq _ )
noncomputable def Zbq (Γ : Zd) (x0 : Value) : M Value:=
 bind (Q9 x0) fun y1=>
 bind (fa 0 y1) fun y2=>
 bind (ld1 y2) fun y3=>
 bind (Γ Qh [y3]) fun y4=>
 bind (Γ Jk [y4,(Value.func (.func 97) #[] #[])]) fun y5=>
 ret y5
theorem Zhr (Γ : Zd) (x0 : Value) : ZG Tryz.prog Γ Tryz.f49 Zdi [x0]=Zbq Γ x0:=by kernel_rfl
theorem ZgE {prim : FuncId→Option (List Value→M Value)} (hp : prim KZ=none) (n : Nat) (x0 : Value) : run Tryz.prog prim lvs (n+1) KZ [x0]=Zbq (run Tryz.prog prim lvs n) x0:=
 (Zt hp (by kernel_rfl) Tryz.func49 (by kernel_rfl)).trans (Zhr _ x0)
noncomputable def Y6 (Γ : Zd) (x0 x1 : Value) : M Value:=
 bind (alc 1 (.agg #[.string ⟨#[]⟩,.bool false])) fun y1=>
 bind (Γ Q7 [x1]) fun y2=>
 bind (bop .int .neq y2 (Value.int .i64 0)) fun y3=>
 cnd y3
 (bind (bld (.agg #[.string ⟨#[]⟩,.bool false]) []) fun y4=>
 bind (stA 2 y1 y4) fun _=>
 bind (ldA 2 y1) fun y5=>
 ret (Value.tuple #[y5,y2]))
 (bind (Q9 x0) fun y6=>
 bind (fa 0 y6) fun y7=>
 bind (ld1 y7) fun y8=>
 bind (lkp .str (.agg #[.string ⟨#[]⟩,.bool false]) true y8 x1) fun y9=>
 bind (ZF y9 0) fun y10=>
 bind (ZF y9 1) fun y11=>
 bind (alc 1 (.agg #[.string ⟨#[]⟩,.bool false])) fun y12=>
 bind (stA 2 y12 y10) fun _=>
 bind (uop .not y11) fun y13=>
 cnd y13
 (bind (bld (.agg #[.string ⟨#[]⟩,.bool false]) []) fun y14=>
 bind (stA 2 y1 y14) fun _=>
 bind (ldA 2 y1) fun y15=>
 ret (Value.tuple #[y15,(Value.int .i64 8)]))
 (bind (ldA 2 y12) fun y16=>
 bind (stA 2 y1 y16) fun _=>
 bind (ldA 2 y1) fun y17=>
 ret (Value.tuple #[y17,(Value.int .i64 0)])))
theorem ZgH (Γ : Zd) (x0 x1 : Value) : ZG Tryz.prog Γ Tryz.f50 Zcz [x0,x1]=Y6 Γ x0 x1:=by kernel_rfl
theorem Zf8 {prim : FuncId→Option (List Value→M Value)} (hp : prim QT=none) (n : Nat) (x0 x1 : Value) : run Tryz.prog prim lvs (n+1) QT [x0,x1]=Y6 (run Tryz.prog prim lvs n) x0 x1:=
 (Zt hp (by kernel_rfl) Tryz.func50 (by kernel_rfl)).trans (ZgH _ x0 x1)
noncomputable def Zcs (Γ : Zd) (x0 x1 : Value) : M Value:=
 bind (Q9 x0) fun y1=>
 bind (fa 1 y1) fun y2=>
 bind (ld1 y2) fun y3=>
 bind (lkp .str (.string ⟨#[]⟩) true y3 x1) fun y4=>
 bind (ZF y4 0) fun y5=>
 bind (ZF y4 1) fun y6=>
 ret (Value.tuple #[y5,y6])
theorem Zjm (Γ : Zd) (x0 x1 : Value) : ZG Tryz.prog Γ Tryz.f51 Zd1 [x0,x1]=Zcs Γ x0 x1:=by kernel_rfl
theorem Zit {prim : FuncId→Option (List Value→M Value)} (hp : prim WE=none) (n : Nat) (x0 x1 : Value) : run Tryz.prog prim lvs (n+1) WE [x0,x1]=Zcs (run Tryz.prog prim lvs n) x0 x1:=
 (Zt hp (by kernel_rfl) Tryz.func51 (by kernel_rfl)).trans (Zjm _ x0 x1)
noncomputable def Zbr (Γ : Zd) (x0 x1 : Value) : M Value:=
 bind (alc 1 x0) fun y1=>
 bind (alc 1 x1) fun y2=>
 bind (ld1 y1) fun y3=>
 bind (Γ Yp [y3]) fun y4=>
 bind (Γ Qv [y4,(Value.func (.func 100) #[] #[y1,y2])]) fun y5=>
 ret y5
theorem ZhE (Γ : Zd) (x0 x1 : Value) : ZG Tryz.prog Γ Tryz.f52 Zdb [x0,x1]=Zbr Γ x0 x1:=by kernel_rfl
theorem ZgR {prim : FuncId→Option (List Value→M Value)} (hp : prim JP=none) (n : Nat) (x0 x1 : Value) : run Tryz.prog prim lvs (n+1) JP [x0,x1]=Zbr (run Tryz.prog prim lvs n) x0 x1:=
 (Zt hp (by kernel_rfl) Tryz.func52 (by kernel_rfl)).trans (ZhE _ x0 x1)
noncomputable def YB.l1 (Γ : Zd) (s2 s3 s43 s44 : Value) : M Out:=
 bind (bop .int .lss s44 s43) fun y41=>
 cnd y41
 (bind (fa 4 s2) fun y42=>
 bind (ld1 y42) fun y43=>
 bind (ixa 1 y43 s44) fun y44=>
 bind (ld1 y44) fun y45=>
 bind (fa 4 s3) fun y46=>
 bind (ld1 y46) fun y47=>
 bind (ixa 1 y47 s44) fun y48=>
 bind (ld1 y48) fun y49=>
 bind (bop .str .neq y45 y49) fun y50=>
 cnd y50
 (ret (.ret (Value.bool false)))
 (bind (bop .int .add s44 (Value.int .i64 1)) fun y51=>
 ret (.nrm [s2,s3,s43,y51])))
 (ret (.ext 0 []))
noncomputable def YB (Γ : Zd) (x0 x1 : Value) : M Value:=
 bind (alc 1 x0) fun y1=>
 bind (alc 1 x1) fun y2=>
 bind (fa 0 y1) fun y3=>
 bind (ld1 y3) fun y4=>
 bind (fa 0 y2) fun y5=>
 bind (ld1 y5) fun y6=>
 bind (bop .str .neq y4 y6) fun y7=>
 bind (ZO y7 false 5 (bind (fa 1 y1) fun y8=>
 bind (ld1 y8) fun y9=>
 bind (fa 1 y2) fun y10=>
 bind (ld1 y10) fun y11=>
 bind (bop .str .neq y9 y11) fun y12=>
 ret [y8,y9,y10,y11,y12])) (c5 fun _ _ _ _ q13_4=>
 bind (pick y7 (Value.bool true) q13_4) fun y14=>
 bind (ZO y14 false 5 (bind (fa 2 y1) fun y15=>
 bind (ld1 y15) fun y16=>
 bind (fa 2 y2) fun y17=>
 bind (ld1 y17) fun y18=>
 bind (bop .str .neq y16 y18) fun y19=>
 ret [y15,y16,y17,y18,y19])) (c5 fun _ _ _ _ q20_4=>
 bind (pick y14 (Value.bool true) q20_4) fun y21=>
 bind (ZO y21 false 5 (bind (fa 3 y1) fun y22=>
 bind (ld1 y22) fun y23=>
 bind (fa 3 y2) fun y24=>
 bind (ld1 y24) fun y25=>
 bind (bop .bool .neq y23 y25) fun y26=>
 ret [y22,y23,y24,y25,y26])) (c5 fun _ _ _ _ q27_4=>
 bind (pick y21 (Value.bool true) q27_4) fun y28=>
 bind (ZO y28 false 7 (bind (fa 4 y1) fun y29=>
 bind (ld1 y29) fun y30=>
 bind (Zx y30) fun y31=>
 bind (fa 4 y2) fun y32=>
 bind (ld1 y32) fun y33=>
 bind (Zx y33) fun y34=>
 bind (bop .int .neq y31 y34) fun y35=>
 ret [y29,y30,y31,y32,y33,y34,y35])) (c7 fun _ _ _ _ _ _ q36_6=>
 bind (pick y28 (Value.bool true) q36_6) fun y37=>
 cnd y37
 (ret (Value.bool false))
 (bind (fa 4 y1) fun y38=>
 bind (ld1 y38) fun y39=>
 bind (Zx y39) fun y40=>
 jn (Zj (c4 (YB.l1 Γ)) [y1,y2,y40,(Value.int .i64 0)]) noN (xk 0 (c0 (ret (Value.bool true))) noX) ret)))))
theorem ZkO (Γ : Zd) (x0 x1 : Value) : ZG Tryz.prog Γ Tryz.f53 ZfI [x0,x1]=YB Γ x0 x1:=by kernel_rfl
theorem Zkj {prim : FuncId→Option (List Value→M Value)} (hp : prim Zb3=none) (n : Nat) (x0 x1 : Value) : run Tryz.prog prim lvs (n+1) Zb3 [x0,x1]=YB (run Tryz.prog prim lvs n) x0 x1:=
 (Zt hp (by kernel_rfl) Tryz.func53 (by kernel_rfl)).trans (ZkO _ x0 x1)
noncomputable def KU (Γ : Zd) (x0 x1 : Value) : M Value:=
 bind (Q9 x0) fun y1=>
 bind (fa 1 y1) fun y2=>
 bind (ld1 y2) fun y3=>
 bind (lkp .str (.string ⟨#[]⟩) true y3 x1) fun y4=>
 bind (ZF y4 0) fun y5=>
 bind (ZF y4 1) fun y6=>
 jn (cnd y6
 (bind (Q9 x0) fun y7=>
 bind (fa 0 y7) fun y8=>
 bind (ld1 y8) fun y9=>
 bind (mde .str y9 y5) fun _=>
 bind (Q9 x0) fun y10=>
 bind (fa 1 y10) fun y11=>
 bind (ld1 y11) fun y12=>
 bind (mde .str y12 x1) fun _=>
 ret (.nrm [y6]))
 (ret (.nrm [y6]))) (c1 fun q13_0=>
 ret q13_0) noX ret
theorem Zhz (Γ : Zd) (x0 x1 : Value) : ZG Tryz.prog Γ Tryz.f54 Zdc [x0,x1]=KU Γ x0 x1:=by kernel_rfl
theorem ZgU {prim : FuncId→Option (List Value→M Value)} (hp : prim Jo=none) (n : Nat) (x0 x1 : Value) : run Tryz.prog prim lvs (n+1) Jo [x0,x1]=KU (run Tryz.prog prim lvs n) x0 x1:=
 (Zt hp (by kernel_rfl) Tryz.func54 (by kernel_rfl)).trans (Zhz _ x0 x1)
noncomputable def WT (Γ : Zd) (x0 x1 : Value) : M Value:=
 bind (Γ Ko [x1]) fun y1=>
 bind (ZF y1 0) fun y2=>
 bind (ZF y1 1) fun y3=>
 bind (bop .int .neq y3 (Value.int .i64 0)) fun y4=>
 cnd y4
 (ret (Value.tuple #[(Value.string ⟨#[]⟩),y3]))
 (bind (Q9 x0) fun y5=>
 bind (fa 0 y5) fun y6=>
 bind (ld1 y6) fun y7=>
 bind (lkp .str (.string ⟨#[]⟩) true y7 y2) fun y8=>
 bind (ZF y8 0) fun y9=>
 bind (ZF y8 1) fun y10=>
 bind (uop .not y10) fun y11=>
 cnd y11
 (ret (Value.tuple #[(Value.string ⟨#[]⟩),(Value.int .i64 8)]))
 (ret (Value.tuple #[y9,(Value.int .i64 0)])))
theorem Zhm (Γ : Zd) (x0 x1 : Value) : ZG Tryz.prog Γ Tryz.f56 Zde [x0,x1]=WT Γ x0 x1:=by kernel_rfl
theorem ZgN {prim : FuncId→Option (List Value→M Value)} (hp : prim KX=none) (n : Nat) (x0 x1 : Value) : run Tryz.prog prim lvs (n+1) KX [x0,x1]=WT (run Tryz.prog prim lvs n) x0 x1:=
 (Zt hp (by kernel_rfl) Tryz.func56 (by kernel_rfl)).trans (Zhm _ x0 x1)
noncomputable def Zej (Γ : Zd) (x0 : Value) : M Value:=
 bind (bop .str .eql x0 (Value.string ⟨#[]⟩)) fun y1=>
 bind (ZO y1 false 3 (bind (JT x0) fun y2=>
 bind (bop .int .gtr y2 (Value.int .i64 12)) fun y3=>
 ret [x0,y2,y3])) (c3 fun _ _ q4_2=>
 bind (pick y1 (Value.bool true) q4_2) fun y5=>
 bind (ZO y5 false 4 (bind (Γ YQ [x0,(Value.func (.func 101) #[] #[])]) fun y6=>
 bind (uop .not y6) fun y7=>
 ret [x0,(Value.func (.func 101) #[] #[]),y6,y7])) (c4 fun _ _ _ q8_3=>
 bind (pick y5 (Value.bool true) q8_3) fun y9=>
 cnd y9
 (ret (Value.int .i64 4))
 (ret (Value.int .i64 0))))
theorem ZmF (Γ : Zd) (x0 : Value) : ZG Tryz.prog Γ Tryz.f57 Zhi [x0]=Zej Γ x0:=by kernel_rfl
theorem ZkU {prim : FuncId→Option (List Value→M Value)} (hp : prim WA=none) (n : Nat) (x0 : Value) : run Tryz.prog prim lvs (n+1) WA [x0]=Zej (run Tryz.prog prim lvs n) x0:=
 (Zt hp (by kernel_rfl) Tryz.func57 (by kernel_rfl)).trans (ZmF _ x0)
noncomputable def Qu.l1 (Γ : Zd) (s1 s5 s13 s14 s15 : Value) : M Out:=
 bind (bop .int .lss s15 s14) fun y2=>
 cnd y2
 (bind (ixa 5 s13 s15) fun y3=>
 bind (ldA 5 y3) fun y4=>
 bind (alc 1 (.agg #[.string ⟨#[]⟩,.string ⟨#[]⟩,.string ⟨#[]⟩,.bool false,.slice none 0 0])) fun y5=>
 bind (stA 5 y5 y4) fun _=>
 bind (ldA 5 y5) fun y6=>
 bind (Γ ZaB [(Value.int .i64 2),y6]) fun y7=>
 bind (bop .int .neq y7 (Value.int .i64 0)) fun y8=>
 cnd y8
 (ret (.ret y7))
 (bind (fa 0 y5) fun y9=>
 bind (ld1 y9) fun y10=>
 bind (bsl 1 1 (.string ⟨#[]⟩) [(0,1,y10)]) fun y11=>
 bind (app 1 16 s5 y11) fun y12=>
 bind (bop .int .add s15 (Value.int .i64 1)) fun y13=>
 ret (.nrm [s1,y12,s13,s14,y13])))
 (ret (.ext 0 [s1,s5]))
noncomputable def Qu.l2 (Γ : Zd) (s1 s35 s36 s37 : Value) : M Out:=
 bind (bop .int .lss s37 s36) fun y19=>
 cnd y19
 (bind (ixa 1 s35 s37) fun y20=>
 bind (ld1 y20) fun y21=>
 bind (Γ Q7 [y21]) fun y22=>
 bind (bop .int .neq y22 (Value.int .i64 0)) fun y23=>
 cnd y23
 (ret (.ret y22))
 (bind (bop .int .add s37 (Value.int .i64 1)) fun y24=>
 ret (.nrm [s1,s35,s36,y24])))
 (ret (.ext 2 [s1]))
noncomputable def Qu (Γ : Zd) (x0 x1 : Value) : M Value:=
 bind (Zx x0) fun y1=>
 jn (Zj (c5 (Qu.l1 Γ)) [x1,(Value.slice none 0 0),x0,y1,(Value.int .i64 0)]) noN (xk 0 (c2 fun q15_0 q15_1=>
 bind (Γ YC [q15_1,(Value.int .i64 12)]) fun y16=>
 bind (bop .int .neq y16 (Value.int .i64 0)) fun y17=>
 cnd y17
 (ret y16)
 (bind (Zx q15_0) fun y18=>
 jn (Zj (c4 (Qu.l2 Γ)) [q15_0,q15_0,y18,(Value.int .i64 0)]) noN (xk 2 (c1 fun q26_0=>
 bind (Γ YC [q26_0,(Value.int .i64 6)]) fun y27=>
 ret y27) noX) ret)) noX) ret
theorem Zkf (Γ : Zd) (x0 x1 : Value) : ZG Tryz.prog Γ Tryz.f58 Ze6 [x0,x1]=Qu Γ x0 x1:=by kernel_rfl
theorem Zjq {prim : FuncId→Option (List Value→M Value)} (hp : prim Zaa=none) (n : Nat) (x0 x1 : Value) : run Tryz.prog prim lvs (n+1) Zaa [x0,x1]=Qu (run Tryz.prog prim lvs n) x0 x1:=
 (Zt hp (by kernel_rfl) Tryz.func58 (by kernel_rfl)).trans (Zkf _ x0 x1)
noncomputable def JL (Γ : Zd) (x0 x1 : Value) : M Value:=
 bind (Γ J6 [x0,x1,(Value.slice none 0 0)]) fun y1=>
 bind (ZF y1 0) fun y2=>
 bind (ZF y1 1) fun y3=>
 bind (bop .int .eql y3 (Value.int .i64 0)) fun y4=>
 cnd y4
 (ret (Value.int .i64 9))
 (bind (bop .int .neq y3 (Value.int .i64 8)) fun y5=>
 cnd y5
 (ret y3)
 (bind (Q9 x0) fun y6=>
 bind (fa 0 y6) fun y7=>
 bind (ld1 y7) fun y8=>
 bind (lenM y8) fun y9=>
 bind (bop .int .geq y9 (Value.int .i64 6)) fun y10=>
 cnd y10
 (ret (Value.int .i64 7))
 (bind (Q9 x0) fun y11=>
 bind (fa 0 y11) fun y12=>
 bind (ld1 y12) fun y13=>
 bind (mkm) fun y14=>
 bind (mup .str y13 x1 y14) fun _=>
 ret (Value.int .i64 0))))
theorem ZfE (Γ : Zd) (x0 x1 : Value) : ZG Tryz.prog Γ Tryz.f59 Zcj [x0,x1]=JL Γ x0 x1:=by kernel_rfl
theorem Zfg {prim : FuncId→Option (List Value→M Value)} (hp : prim J9=none) (n : Nat) (x0 x1 : Value) : run Tryz.prog prim lvs (n+1) J9 [x0,x1]=JL (run Tryz.prog prim lvs n) x0 x1:=
 (Zt hp (by kernel_rfl) Tryz.func59 (by kernel_rfl)).trans (ZfE _ x0 x1)
noncomputable def YM (Γ : Zd) (x0 x1 x2 : Value) : M Value:=
 bind (bsl 1 1 (.string ⟨#[]⟩) [(0,1,x2)]) fun y1=>
 bind (Γ J6 [x0,x1,y1]) fun y2=>
 bind (ZF y2 0) fun y3=>
 bind (ZF y2 1) fun y4=>
 bind (bop .int .neq y4 (Value.int .i64 0)) fun y5=>
 cnd y5
 (ret y4)
 (bind (lkp .str (.agg #[]) true y3 x2) fun y6=>
 bind (ZF y6 0) fun y7=>
 bind (ZF y6 1) fun y8=>
 bind (alc 1 (.agg #[])) fun y9=>
 bind (stA 0 y9 y7) fun _=>
 cnd y8
 (ret (Value.int .i64 9))
 (bind (bld (.agg #[]) []) fun y10=>
 bind (mup .str y3 x2 y10) fun _=>
 ret (Value.int .i64 0)))
theorem ZfY (Γ : Zd) (x0 x1 x2 : Value) : ZG Tryz.prog Γ Tryz.f60 Zb7 [x0,x1,x2]=YM Γ x0 x1 x2:=by kernel_rfl
theorem Zfd {prim : FuncId→Option (List Value→M Value)} (hp : prim YK=none) (n : Nat) (x0 x1 x2 : Value) : run Tryz.prog prim lvs (n+1) YK [x0,x1,x2]=YM (run Tryz.prog prim lvs n) x0 x1 x2:=
 (Zt hp (by kernel_rfl) Tryz.func60 (by kernel_rfl)).trans (ZfY _ x0 x1 x2)
noncomputable def Yu (Γ : Zd) (x0 x1 x2 : Value) : M Value:=
 bind (Γ Q7 [x1]) fun y1=>
 bind (bop .int .neq y1 (Value.int .i64 0)) fun y2=>
 cnd y2
 (ret y1)
 (bind (bop .str .eql x2 (Value.string ⟨#[]⟩)) fun y3=>
 cnd y3
 (bind (Γ Jo [x0,x1]) fun y4=>
 ret (Value.int .i64 0))
 (bind (Γ Ko [x2]) fun y5=>
 bind (ZF y5 0) fun y6=>
 bind (ZF y5 1) fun y7=>
 bind (bop .int .neq y7 (Value.int .i64 0)) fun y8=>
 cnd y8
 (ret y7)
 (bind (Q9 x0) fun y9=>
 bind (fa 0 y9) fun y10=>
 bind (ld1 y10) fun y11=>
 bind (lkp .str (.string ⟨#[]⟩) true y11 y6) fun y12=>
 bind (ZF y12 0) fun y13=>
 bind (ZF y12 1) fun y14=>
 bind (ZO y14 true 3 (bind (bop .str .neq y13 x1) fun y15=>
 ret [y13,x1,y15])) (c3 fun _ _ q16_2=>
 bind (pick y14 q16_2 (Value.bool false)) fun y17=>
 cnd y17
 (ret (Value.int .i64 9))
 (bind (Γ Jo [x0,x1]) fun y18=>
 bind (Q9 x0) fun y19=>
 bind (fa 0 y19) fun y20=>
 bind (ld1 y20) fun y21=>
 bind (Q9 x0) fun y22=>
 bind (fa 1 y22) fun y23=>
 bind (ld1 y23) fun y24=>
 bind (men .str (.string ⟨#[]⟩) y21 y6) fun y25=>
 bind (ZF y25 1) fun y26=>
 bind (ens y21 y26 x1) fun _=>
 bind (men .str (.string ⟨#[]⟩) y24 x1) fun y27=>
 bind (ZF y27 1) fun y28=>
 bind (ens y24 y28 y6) fun _=>
 ret (Value.int .i64 0))))))
theorem Zip (Γ : Zd) (x0 x1 x2 : Value) : ZG Tryz.prog Γ Tryz.f61 Zdp [x0,x1,x2]=Yu Γ x0 x1 x2:=by kernel_rfl
theorem ZhM {prim : FuncId→Option (List Value→M Value)} (hp : prim J3=none) (n : Nat) (x0 x1 x2 : Value) : run Tryz.prog prim lvs (n+1) J3 [x0,x1,x2]=Yu (run Tryz.prog prim lvs n) x0 x1 x2:=
 (Zt hp (by kernel_rfl) Tryz.func61 (by kernel_rfl)).trans (Zip _ x0 x1 x2)
noncomputable def Q6.l1 (Γ : Zd) (s0 s1 s10 s11 s12 : Value) : M Out:=
 bind (bop .int .lss s12 s11) fun y2=>
 cnd y2
 (bind (ixa 5 s10 s12) fun y3=>
 bind (ldA 5 y3) fun y4=>
 bind (alc 1 (.agg #[.string ⟨#[]⟩,.string ⟨#[]⟩,.string ⟨#[]⟩,.bool false,.slice none 0 0])) fun y5=>
 bind (stA 5 y5 y4) fun _=>
 bind (ldA 5 y5) fun y6=>
 bind (Γ Zbg [s1,y6]) fun y7=>
 bind (bop .int .neq y7 (Value.int .i64 0)) fun y8=>
 cnd y8
 (ret (.ret y7))
 (bind (bop .int .add s12 (Value.int .i64 1)) fun y9=>
 ret (.nrm [s0,s1,s10,s11,y9])))
 (ret (.ext 0 [s0]))
noncomputable def Q6.l2 (Γ : Zd) (s0 s23 s24 s25 : Value) : M Out:=
 bind (bop .int .lss s25 s24) fun y13=>
 cnd y13
 (bind (ixa 5 s23 s25) fun y14=>
 bind (ldA 5 y14) fun y15=>
 bind (alc 1 (.agg #[.string ⟨#[]⟩,.string ⟨#[]⟩,.string ⟨#[]⟩,.bool false,.slice none 0 0])) fun y16=>
 bind (stA 5 y16 y15) fun _=>
 bind (bop .int .gtr s25 (Value.int .i64 0)) fun y17=>
 bind (ZJ y17 true (ret s0)) fun y18=>
 bind (ZJ y17 true (ret s25)) fun y19=>
 bind (ZJ y17 true (bop .int .sub y19 (Value.int .i64 1))) fun y20=>
 bind (ZJ y17 true (ixa 5 y18 y20)) fun y21=>
 bind (ZJ y17 true (fa 0 y21)) fun y22=>
 bind (ZJ y17 true (ld1 y22)) fun y23=>
 bind (ZJ y17 true (fa 0 y16)) fun y24=>
 bind (ZJ y17 true (ld1 y24)) fun y25=>
 bind (ZJ y17 true (bop .str .geq y23 y25)) fun y26=>
 bind (pick y17 y26 (Value.bool false)) fun y27=>
 cnd y27
 (ret (.ret (Value.int .i64 9)))
 (bind (bop .int .add s25 (Value.int .i64 1)) fun y28=>
 ret (.nrm [s0,s23,s24,y28])))
 (ret (.ext 2 [s0]))
noncomputable def Q6 (Γ : Zd) (x0 x1 : Value) : M Value:=
 bind (Zx x0) fun y1=>
 jn (Zj (c5 (Q6.l1 Γ)) [x0,x1,x0,y1,(Value.int .i64 0)]) noN (xk 0 (c1 fun q11_0=>
 bind (Zx q11_0) fun y12=>
 jn (Zj (c4 (Q6.l2 Γ)) [q11_0,q11_0,y12,(Value.int .i64 0)]) noN (xk 2 (c1 fun q30_0=>
 bind (Zx q30_0) fun y31=>
 bind (bop .int .gtr y31 (Value.int .i64 12)) fun y32=>
 cnd y32
 (ret (Value.int .i64 7))
 (ret (Value.int .i64 0))) noX) ret) noX) ret
theorem ZnS (Γ : Zd) (x0 x1 : Value) : ZG Tryz.prog Γ Tryz.f62 Zif [x0,x1]=Q6 Γ x0 x1:=by kernel_rfl
theorem Zmz {prim : FuncId→Option (List Value→M Value)} (hp : prim Zcf=none) (n : Nat) (x0 x1 : Value) : run Tryz.prog prim lvs (n+1) Zcf [x0,x1]=Q6 (run Tryz.prog prim lvs n) x0 x1:=
 (Zt hp (by kernel_rfl) Tryz.func62 (by kernel_rfl)).trans (ZnS _ x0 x1)
noncomputable def ZdP (Γ : Zd) (x0 : Value) : M Value:=
 bind (JT x0) fun y1=>
 bind (bop .int .geq y1 (Value.int .i64 1)) fun y2=>
 bind (ZO y2 true 2 (bind (bop .int .leq y1 (Value.int .i64 12)) fun y3=>
 ret [y1,y3])) (c2 fun _ q4_1=>
 bind (pick y2 q4_1 (Value.bool false)) fun y5=>
 bind (ZO y5 true 2 (bind (Γ Zae [x0,(Value.string ⟨#[97,98,99,100,101,102,103,104,105,106,107,108,109,110,111,112,113,114,115,116,117,118,119,120,121,122,48,49,50,51,52,53,54,55,56,57,45,46]⟩)]) fun y6=>
 ret [x0,y6])) (c2 fun _ q7_1=>
 bind (pick y5 q7_1 (Value.bool false)) fun y8=>
 bind (ZO y8 true 3 (bind (ixs x0 (Value.int .i64 0)) fun y9=>
 bind (Γ Kt [y9,(Value.string ⟨#[97,98,99,100,101,102,103,104,105,106,107,108,109,110,111,112,113,114,115,116,117,118,119,120,121,122]⟩)]) fun y10=>
 ret [x0,y9,y10])) (c3 fun _ _ q11_2=>
 bind (pick y8 q11_2 (Value.bool false)) fun y12=>
 bind (ZO y12 true 5 (bind (bop .int .sub y1 (Value.int .i64 1)) fun y13=>
 bind (ixs x0 y13) fun y14=>
 bind (Γ Kt [y14,(Value.string ⟨#[97,98,99,100,101,102,103,104,105,106,107,108,109,110,111,112,113,114,115,116,117,118,119,120,121,122,48,49,50,51,52,53,54,55,56,57]⟩)]) fun y15=>
 ret [x0,y1,y13,y14,y15])) (c5 fun _ _ _ _ q16_4=>
 bind (pick y12 q16_4 (Value.bool false)) fun y17=>
 ret y17))))
theorem ZkY (Γ : Zd) (x0 : Value) : ZG Tryz.prog Γ Tryz.f63 Zgi [x0]=ZdP Γ x0:=by kernel_rfl
theorem Zkb {prim : FuncId→Option (List Value→M Value)} (hp : prim Yg=none) (n : Nat) (x0 : Value) : run Tryz.prog prim lvs (n+1) Yg [x0]=ZdP (run Tryz.prog prim lvs n) x0:=
 (Zt hp (by kernel_rfl) Tryz.func63 (by kernel_rfl)).trans (ZkY _ x0)
noncomputable def Kn.l1 (Γ : Zd) (s1 s7 s8 s9 : Value) : M Out:=
 bind (bop .int .lss s9 s8) fun y2=>
 cnd y2
 (bind (ixa 1 s7 s9) fun y3=>
 bind (ld1 y3) fun y4=>
 bind (bop .str .eql y4 s1) fun y5=>
 cnd y5
 (ret (.ret (Value.bool true)))
 (bind (bop .int .add s9 (Value.int .i64 1)) fun y6=>
 ret (.nrm [s1,s7,s8,y6])))
 (ret (.ext 0 []))
noncomputable def Kn (Γ : Zd) (x0 x1 : Value) : M Value:=
 bind (Zx x0) fun y1=>
 jn (Zj (c4 (Kn.l1 Γ)) [x1,x0,y1,(Value.int .i64 0)]) noN (xk 0 (c0 (ret (Value.bool false))) noX) ret
theorem Zmk (Γ : Zd) (x0 x1 : Value) : ZG Tryz.prog Γ Tryz.f64 Zg7 [x0,x1]=Kn Γ x0 x1:=by kernel_rfl
theorem ZlM {prim : FuncId→Option (List Value→M Value)} (hp : prim ZcN=none) (n : Nat) (x0 x1 : Value) : run Tryz.prog prim lvs (n+1) ZcN [x0,x1]=Kn (run Tryz.prog prim lvs n) x0 x1:=
 (Zt hp (by kernel_rfl) Tryz.func64 (by kernel_rfl)).trans (Zmk _ x0 x1)
noncomputable def Zcr (Γ : Zd) (x0 : Value) : M Value:=
 bind (Q9 x0) fun y1=>
 bind (fa 0 y1) fun y2=>
 bind (ld1 y2) fun y3=>
 bind (lenM y3) fun y4=>
 ret y4
theorem ZjI (Γ : Zd) (x0 : Value) : ZG Tryz.prog Γ Tryz.f65 Zd6 [x0]=Zcr Γ x0:=by kernel_rfl
theorem ZiU {prim : FuncId→Option (List Value→M Value)} (hp : prim WC=none) (n : Nat) (x0 : Value) : run Tryz.prog prim lvs (n+1) WC [x0]=Zcr (run Tryz.prog prim lvs n) x0:=
 (Zt hp (by kernel_rfl) Tryz.func65 (by kernel_rfl)).trans (ZjI _ x0)
noncomputable def ZaL (Γ : Zd) (x0 : Value) : M Value:=
 bind (Q9 x0) fun y1=>
 bind (fa 2 y1) fun y2=>
 bind (ld1 y2) fun y3=>
 bind (Γ Yp [y3]) fun y4=>
 ret y4
theorem ZgS (Γ : Zd) (x0 : Value) : ZG Tryz.prog Γ Tryz.f66 ZcD [x0]=ZaL Γ x0:=by kernel_rfl
theorem ZfL {prim : FuncId→Option (List Value→M Value)} (hp : prim KA=none) (n : Nat) (x0 : Value) : run Tryz.prog prim lvs (n+1) KA [x0]=ZaL (run Tryz.prog prim lvs n) x0:=
 (Zt hp (by kernel_rfl) Tryz.func66 (by kernel_rfl)).trans (ZgS _ x0)
noncomputable def Qs.l1 (Γ : Zd) (s0 s4 : Value) : M Out:=
 bind (JT s0) fun y4=>
 bind (bop .int .lss s4 y4) fun y5=>
 bind (ZO y5 true 4 (bind (ixs s0 s4) fun y6=>
 bind (bop .int .neq y6 (Value.int .u8 64)) fun y7=>
 ret [s0,s4,y6,y7])) (c4 fun _ _ _ q8_3=>
 bind (pick y5 q8_3 (Value.bool false)) fun y9=>
 cnd y9
 (bind (bop .int .add s4 (Value.int .i64 1)) fun y10=>
 ret (.nrm [s0,y10]))
 (ret (.ext 0 [s0,s4])))
noncomputable def Qs.l2 (Γ : Zd) (s0 s5 s6 s7 : Value) : M Out:=
 bind (JT s0) fun y21=>
 bind (bop .int .lss s7 y21) fun y22=>
 cnd y22
 (bind (ixs s0 s7) fun y23=>
 bind (bop .int .eql y23 (Value.int .u8 46)) fun y24=>
 jn (cnd y24
 (bind (bop .int .eql s6 (Value.int .i64 0)) fun y25=>
 cnd y25
 (ret (.ret (Value.tuple #[(Value.string ⟨#[]⟩),(Value.bool false)])))
 (bind (bop .int .add s5 (Value.int .i64 1)) fun y26=>
 ret (.nrm [s0,y26,(Value.int .i64 0),s7])))
 (bind (ixs s0 s7) fun y27=>
 bind (Γ Kt [y27,(Value.string ⟨#[97,98,99,100,101,102,103,104,105,106,107,108,109,110,111,112,113,114,115,116,117,118,119,120,121,122,48,49,50,51,52,53,54,55,56,57]⟩)]) fun y28=>
 bind (uop .not y28) fun y29=>
 cnd y29
 (ret (.ret (Value.tuple #[(Value.string ⟨#[]⟩),(Value.bool false)])))
 (bind (bop .int .add s6 (Value.int .i64 1)) fun y30=>
 ret (.nrm [s0,s5,y30,s7])))) (c4 fun q31_0 q31_1 q31_2 q31_3=>
 bind (bop .int .add q31_3 (Value.int .i64 1)) fun y32=>
 ret (.nrm [q31_0,q31_1,q31_2,y32])) noX QH)
 (ret (.ext 2 [s0,s5,s6]))
noncomputable def Qs (Γ : Zd) (x0 : Value) : M Value:=
 bind (JT x0) fun y1=>
 bind (bop .int .gtr y1 (Value.int .i64 20)) fun y2=>
 cnd y2
 (ret (Value.tuple #[(Value.string ⟨#[]⟩),(Value.bool false)]))
 (bind (Γ Zay [x0]) fun y3=>
 jn (Zj (c2 (Qs.l1 Γ)) [y3,(Value.int .i64 0)]) noN (xk 0 (c2 fun q12_0 q12_1=>
 bind (JT q12_0) fun y13=>
 bind (bop .int .eql q12_1 y13) fun y14=>
 bind (ZO y14 false 5 (bind (sls q12_0 none (some q12_1)) fun y15=>
 bind (Γ Yg [y15]) fun y16=>
 bind (uop .not y16) fun y17=>
 ret [q12_0,q12_1,y15,y16,y17])) (c5 fun _ _ _ _ q18_4=>
 bind (pick y14 (Value.bool true) q18_4) fun y19=>
 cnd y19
 (ret (Value.tuple #[(Value.string ⟨#[]⟩),(Value.bool false)]))
 (bind (bop .int .add q12_1 (Value.int .i64 1)) fun y20=>
 jn (Zj (c4 (Qs.l2 Γ)) [q12_0,(Value.int .i64 0),(Value.int .i64 0),y20]) noN (xk 2 (c3 fun q35_0 q35_1 q35_2=>
 bind (bop .int .eql q35_1 (Value.int .i64 0)) fun y36=>
 bind (ZO y36 false 2 (bind (bop .int .eql q35_2 (Value.int .i64 0)) fun y37=>
 ret [q35_2,y37])) (c2 fun _ q38_1=>
 bind (pick y36 (Value.bool true) q38_1) fun y39=>
 cnd y39
 (ret (Value.tuple #[(Value.string ⟨#[]⟩),(Value.bool false)]))
 (ret (Value.tuple #[q35_0,(Value.bool true)])))) noX) ret))) noX) ret)
theorem ZlR (Γ : Zd) (x0 : Value) : ZG Tryz.prog Γ Tryz.f68 ZfZ [x0]=Qs Γ x0:=by kernel_rfl
theorem Zkn {prim : FuncId→Option (List Value→M Value)} (hp : prim K3=none) (n : Nat) (x0 : Value) : run Tryz.prog prim lvs (n+1) K3 [x0]=Qs (run Tryz.prog prim lvs n) x0:=
 (Zt hp (by kernel_rfl) Tryz.func68 (by kernel_rfl)).trans (ZlR _ x0)
noncomputable def ZL.l1 (Γ : Zd) (s0 s1 s5 s6 : Value) : M Out:=
 bind (Zx s0) fun y4=>
 bind (bop .int .lss s6 y4) fun y5=>
 cnd y5
 (bind (ixa 1 s0 s6) fun y6=>
 bind (ld1 y6) fun y7=>
 bind (Yz Γ s1 [y7]) fun y8=>
 bind (uop .not y8) fun y9=>
 jn (cnd y9
 (bind (ixa 1 s0 s5) fun y10=>
 bind (st1 y10 y7) fun _=>
 bind (bop .int .add s5 (Value.int .i64 1)) fun y11=>
 ret (.nrm [s0,s1,y11,s6]))
 (ret (.nrm [s0,s1,s5,s6]))) (c4 fun q12_0 q12_1 q12_2 q12_3=>
 bind (bop .int .add q12_3 (Value.int .i64 1)) fun y13=>
 ret (.nrm [q12_0,q12_1,q12_2,y13])) noX QH)
 (ret (.ext 0 [s0,s5]))
noncomputable def ZL (Γ : Zd) (x0 x1 : Value) : M Value:=
 bind (Γ Jg [x0,x1]) fun y1=>
 bind (bop .int .eql y1 (Value.int .i64 (-1))) fun y2=>
 cnd y2
 (ret x0)
 (bind (bop .int .add y1 (Value.int .i64 1)) fun y3=>
 jn (Zj (c4 (ZL.l1 Γ)) [x0,x1,y1,y3]) noN (xk 0 (c2 fun q16_0 q16_1=>
 bind (slv 1 q16_0 (some q16_1) none none) fun y17=>
 bind (clr (.string ⟨#[]⟩) 1 y17) fun _=>
 bind (slv 1 q16_0 none (some q16_1) none) fun y18=>
 ret y18) noX) ret)
theorem Za5 (Γ : Zd) (x0 x1 : Value) : ZG Tryz.prog Γ Tryz.f70 KM [x0,x1]=ZL Γ x0 x1:=by kernel_rfl
theorem ZaN {prim : FuncId→Option (List Value→M Value)} (hp : prim Qv=none) (n : Nat) (x0 x1 : Value) : run Tryz.prog prim lvs (n+1) Qv [x0,x1]=ZL (run Tryz.prog prim lvs n) x0 x1:=
 (Zt hp (by kernel_rfl) Tryz.func70 (by kernel_rfl)).trans (Za5 _ x0 x1)
noncomputable def Yn.l1 (Γ : Zd) (s0 s35 s36 s37 : Value) : M Out:=
 bind (bop .int .lss s37 s36) fun y19=>
 cnd y19
 (bind (ixa 1 s35 s37) fun y20=>
 bind (ld1 y20) fun y21=>
 bind (bop .str .eql y21 (Value.string ⟨#[]⟩)) fun y22=>
 bind (ZO y22 false 3 (bind (Γ YQ [y21,(Value.func (.func 120) #[] #[])]) fun y23=>
 bind (uop .not y23) fun y24=>
 ret [y21,y23,y24])) (c3 fun _ _ q25_2=>
 bind (pick y22 (Value.bool true) q25_2) fun y26=>
 cnd y26
 (ret (.ret (Value.tuple #[(Value.string ⟨#[]⟩),(Value.int .i64 11)])))
 (bind (bop .int .add s37 (Value.int .i64 1)) fun y27=>
 ret (.nrm [s0,s35,s36,y27]))))
 (ret (.ext 0 [s0]))
noncomputable def Yn (Γ : Zd) (x0 : Value) : M Value:=
 bind (JT x0) fun y1=>
 bind (bop .int .gtr y1 (Value.int .i64 20)) fun y2=>
 cnd y2
 (ret (Value.tuple #[(Value.string ⟨#[]⟩),(Value.int .i64 11)]))
 (bind (Γ Zbv [x0]) fun y3=>
 bind (Γ KJ [y3,(Value.string ⟨#[64]⟩)]) fun y4=>
 bind (ZF y4 0) fun y5=>
 bind (ZF y4 1) fun y6=>
 bind (ZF y4 2) fun y7=>
 bind (Γ Wj [y6,(Value.string ⟨#[46]⟩)]) fun y8=>
 bind (uop .not y7) fun y9=>
 bind (ZO y9 false 3 (bind (Γ KG [y5]) fun y10=>
 bind (uop .not y10) fun y11=>
 ret [y5,y10,y11])) (c3 fun _ _ q12_2=>
 bind (pick y9 (Value.bool true) q12_2) fun y13=>
 bind (ZO y13 false 3 (bind (Zx y8) fun y14=>
 bind (bop .int .lss y14 (Value.int .i64 2)) fun y15=>
 ret [y8,y14,y15])) (c3 fun _ _ q16_2=>
 bind (pick y13 (Value.bool true) q16_2) fun y17=>
 cnd y17
 (ret (Value.tuple #[(Value.string ⟨#[]⟩),(Value.int .i64 11)]))
 (bind (Zx y8) fun y18=>
 jn (Zj (c4 (Yn.l1 Γ)) [y3,y8,y18,(Value.int .i64 0)]) noN (xk 0 (c1 fun q29_0=>
 ret (Value.tuple #[q29_0,(Value.int .i64 0)])) noX) ret))))
theorem Zmr (Γ : Zd) (x0 : Value) : ZG Tryz.prog Γ Tryz.f75 Zg2 [x0]=Yn Γ x0:=by kernel_rfl
theorem ZlZ {prim : FuncId→Option (List Value→M Value)} (hp : prim Ko=none) (n : Nat) (x0 : Value) : run Tryz.prog prim lvs (n+1) Ko [x0]=Yn (run Tryz.prog prim lvs n) x0:=
 (Zt hp (by kernel_rfl) Tryz.func75 (by kernel_rfl)).trans (Zmr _ x0)
noncomputable def Ya (Γ : Zd) (x0 x1 x2 : Value) : M Value:=
 bind (Γ Q7 [x2]) fun y1=>
 bind (bop .int .neq y1 (Value.int .i64 0)) fun y2=>
 cnd y2
 (ret y1)
 (bind (Q9 x0) fun y3=>
 bind (fa 1 y3) fun y4=>
 bind (ld1 y4) fun y5=>
 bind (lkp .str (.string ⟨#[]⟩) true y5 x1) fun y6=>
 bind (ZF y6 0) fun y7=>
 bind (ZF y6 1) fun y8=>
 bind (Q9 x0) fun y9=>
 bind (fa 1 y9) fun y10=>
 bind (ld1 y10) fun y11=>
 bind (lkp .str (.string ⟨#[]⟩) true y11 x2) fun y12=>
 bind (ZF y12 0) fun y13=>
 bind (ZF y12 1) fun y14=>
 bind (uop .not y8) fun y15=>
 cnd y15
 (ret (Value.int .i64 8))
 (bind (ZO y14 true 3 (bind (bop .str .neq x2 x1) fun y16=>
 ret [x2,x1,y16])) (c3 fun _ _ q17_2=>
 bind (pick y14 q17_2 (Value.bool false)) fun y18=>
 cnd y18
 (ret (Value.int .i64 9))
 (bind (Γ Jo [x0,x1]) fun y19=>
 bind (Q9 x0) fun y20=>
 bind (fa 0 y20) fun y21=>
 bind (ld1 y21) fun y22=>
 bind (Q9 x0) fun y23=>
 bind (fa 1 y23) fun y24=>
 bind (ld1 y24) fun y25=>
 bind (men .str (.string ⟨#[]⟩) y22 y7) fun y26=>
 bind (ZF y26 1) fun y27=>
 bind (ens y22 y27 x2) fun _=>
 bind (men .str (.string ⟨#[]⟩) y25 x2) fun y28=>
 bind (ZF y28 1) fun y29=>
 bind (ens y25 y29 y7) fun _=>
 ret (Value.int .i64 0)))))
theorem Zgf (Γ : Zd) (x0 x1 x2 : Value) : ZG Tryz.prog Γ Tryz.f76 Zcd [x0,x1,x2]=Ya Γ x0 x1 x2:=by kernel_rfl
theorem Zfc {prim : FuncId→Option (List Value→M Value)} (hp : prim YN=none) (n : Nat) (x0 x1 x2 : Value) : run Tryz.prog prim lvs (n+1) YN [x0,x1,x2]=Ya (run Tryz.prog prim lvs n) x0 x1 x2:=
 (Zt hp (by kernel_rfl) Tryz.func76 (by kernel_rfl)).trans (Zgf _ x0 x1 x2)
noncomputable def Qg.l1 (Γ : Zd) (s0 s1 s2 s26 s27 s28 : Value) : M Out:=
 bind (bop .int .lss s28 s27) fun y10=>
 cnd y10
 (bind (ixa 1 s26 s28) fun y11=>
 bind (ld1 y11) fun y12=>
 bind (Q9 s0) fun y13=>
 bind (fa 0 y13) fun y14=>
 bind (ld1 y14) fun y15=>
 bind (lkp .str (.map none) false y15 y12) fun y16=>
 bind (mde .str y16 s1) fun _=>
 bind (Q9 s0) fun y17=>
 bind (fa 0 y17) fun y18=>
 bind (ld1 y18) fun y19=>
 bind (lkp .str (.map none) false y19 y12) fun y20=>
 bind (bld (.agg #[]) []) fun y21=>
 bind (mup .str y20 s2 y21) fun _=>
 bind (bop .int .add s28 (Value.int .i64 1)) fun y22=>
 ret (.nrm [s0,s1,s2,s26,s27,y22]))
 (ret (.ext 0 []))
noncomputable def Qg (Γ : Zd) (x0 x1 x2 : Value) : M Value:=
 bind (bsl 1 1 (.string ⟨#[]⟩) [(0,1,x2)]) fun y1=>
 bind (Γ KB [y1]) fun y2=>
 bind (bop .int .neq y2 (Value.int .i64 0)) fun y3=>
 cnd y3
 (ret y2)
 (bind (bop .str .eql x1 x2) fun y4=>
 cnd y4
 (ret (Value.int .i64 0))
 (bind (Γ JP [x0,x2]) fun y5=>
 bind (Zx y5) fun y6=>
 bind (bop .int .gtr y6 (Value.int .i64 0)) fun y7=>
 cnd y7
 (ret (Value.int .i64 9))
 (bind (Γ JP [x0,x1]) fun y8=>
 bind (Zx y8) fun y9=>
 jn (Zj (c6 (Qg.l1 Γ)) [x0,x1,x2,y8,y9,(Value.int .i64 0)]) noN (xk 0 (c0 (ret (Value.int .i64 0))) noX) ret)))
theorem Zei (Γ : Zd) (x0 x1 x2 : Value) : ZG Tryz.prog Γ Tryz.f77 Zbf [x0,x1,x2]=Qg Γ x0 x1 x2:=by kernel_rfl
theorem ZdV {prim : FuncId→Option (List Value→M Value)} (hp : prim Ye=none) (n : Nat) (x0 x1 x2 : Value) : run Tryz.prog prim lvs (n+1) Ye [x0,x1,x2]=Qg (run Tryz.prog prim lvs n) x0 x1 x2:=
 (Zt hp (by kernel_rfl) Tryz.func77 (by kernel_rfl)).trans (Zei _ x0 x1 x2)
noncomputable def ZdO (Γ : Zd) (x0 : Value) : M Value:=
 bind (JT x0) fun y1=>
 bind (bop .int .geq y1 (Value.int .i64 1)) fun y2=>
 bind (ZO y2 true 3 (bind (JT x0) fun y3=>
 bind (bop .int .leq y3 (Value.int .i64 12)) fun y4=>
 ret [x0,y3,y4])) (c3 fun _ _ q5_2=>
 bind (pick y2 q5_2 (Value.bool false)) fun y6=>
 bind (ZO y6 true 2 (bind (Γ Zae [x0,(Value.string ⟨#[48,49,50,51,52,53,54,55,56,57,97,98,99,100,101,102]⟩)]) fun y7=>
 ret [x0,y7])) (c2 fun _ q8_1=>
 bind (pick y6 q8_1 (Value.bool false)) fun y9=>
 ret y9))
theorem Zl2 (Γ : Zd) (x0 : Value) : ZG Tryz.prog Γ Tryz.f80 Zgc [x0]=ZdO Γ x0:=by kernel_rfl
theorem Zko {prim : FuncId→Option (List Value→M Value)} (hp : prim ZaE=none) (n : Nat) (x0 : Value) : run Tryz.prog prim lvs (n+1) ZaE [x0]=ZdO (run Tryz.prog prim lvs n) x0:=
 (Zt hp (by kernel_rfl) Tryz.func80 (by kernel_rfl)).trans (Zl2 _ x0)
noncomputable def QP (Γ : Zd) (x0 : Value) : M Value:=
 bind (alc 1 x0) fun y1=>
 ret (Value.func (.func 129) #[] #[y1])
theorem Kl (Γ : Zd) (x0 : Value) : ZG Tryz.prog Γ Tryz.f96 JN [x0]=QP Γ x0:=by kernel_rfl
theorem Kg {prim : FuncId→Option (List Value→M Value)} (hp : prim Qh=none) (n : Nat) (x0 : Value) : run Tryz.prog prim lvs (n+1) Qh [x0]=QP (run Tryz.prog prim lvs n) x0:=
 (Zt hp (by kernel_rfl) Tryz.func96 (by kernel_rfl)).trans (Kl _ x0)
noncomputable def Zcu (Γ : Zd) (x0 x1 : Value) : M Value:=
 bind (Γ KT [x0,x1]) fun y1=>
 ret y1
theorem Zju (Γ : Zd) (x0 x1 : Value) : ZG Tryz.prog Γ Tryz.f97 Zd3 [x0,x1]=Zcu Γ x0 x1:=by kernel_rfl
theorem ZiI {prim : FuncId→Option (List Value→M Value)} (hp : prim Jj=none) (n : Nat) (x0 x1 : Value) : run Tryz.prog prim lvs (n+1) Jj [x0,x1]=Zcu (run Tryz.prog prim lvs n) x0 x1:=
 (Zt hp (by kernel_rfl) Tryz.func97 (by kernel_rfl)).trans (Zju _ x0 x1)
noncomputable def Zer (Γ : Zd) (x0 : Value) : M Value:=
 bind (Γ KG [x0]) fun y1=>
 bind (uop .not y1) fun y2=>
 cnd y2
 (ret (Value.int .i64 10))
 (ret (Value.int .i64 0))
theorem Zmw (Γ : Zd) (x0 : Value) : ZG Tryz.prog Γ Tryz.f98 Zhg [x0]=Zer Γ x0:=by kernel_rfl
theorem ZkL {prim : FuncId→Option (List Value→M Value)} (hp : prim Q7=none) (n : Nat) (x0 : Value) : run Tryz.prog prim lvs (n+1) Q7 [x0]=Zer (run Tryz.prog prim lvs n) x0:=
 (Zt hp (by kernel_rfl) Tryz.func98 (by kernel_rfl)).trans (Zmw _ x0)
noncomputable def ZaJ (Γ : Zd) (x0 : Value) : M Value:=
 bind (Q9 x0) fun y1=>
 bind (fa 0 y1) fun y2=>
 bind (ld1 y2) fun y3=>
 bind (Γ Kd [y3]) fun y4=>
 ret y4
theorem ZgI (Γ : Zd) (x0 : Value) : ZG Tryz.prog Γ Tryz.f99 ZcE [x0]=ZaJ Γ x0:=by kernel_rfl
theorem Zf2 {prim : FuncId→Option (List Value→M Value)} (hp : prim Yp=none) (n : Nat) (x0 : Value) : run Tryz.prog prim lvs (n+1) Yp [x0]=ZaJ (run Tryz.prog prim lvs n) x0:=
 (Zt hp (by kernel_rfl) Tryz.func99 (by kernel_rfl)).trans (ZgI _ x0)
noncomputable def ZaP (Γ : Zd) (x0 x1 x2 : Value) : M Value:=
 bind (ld1 x1) fun y1=>
 bind (Q9 y1) fun y2=>
 bind (fa 0 y2) fun y3=>
 bind (ld1 y3) fun y4=>
 bind (lkp .str (.map none) false y4 x0) fun y5=>
 bind (ld1 x2) fun y6=>
 bind (lkp .str (.agg #[]) true y5 y6) fun y7=>
 bind (ZF y7 0) fun y8=>
 bind (ZF y7 1) fun y9=>
 bind (alc 1 (.agg #[])) fun y10=>
 bind (lkp .str (.agg #[]) true y5 y6) fun u_11=>same u_11 y7 <|
 bind (ld1 x2) fun u_12=>same u_12 y6 <|
 bind (lkp .str (.map none) false y4 x0) fun u_13=>same u_13 y5 <|
 bind (ld1 y3) fun u_14=>same u_14 y4 <|
 bind (ld1 x1) fun u_15=>same u_15 y1 <|
 bind (stA 0 y10 y8) fun _=>
 bind (uop .not y9) fun y16=>
 ret y16
theorem ZgX (Γ : Zd) (x0 x1 x2 : Value) : ZG Tryz.prog Γ Tryz.f100 ZcA [x0,x1,x2]=ZaP Γ x0 x1 x2:=by kernel_rfl
theorem ZfQ {prim : FuncId→Option (List Value→M Value)} (hp : prim Ys=none) (n : Nat) (x0 x1 x2 : Value) : run Tryz.prog prim lvs (n+1) Ys [x0,x1,x2]=ZaP (run Tryz.prog prim lvs n) x0 x1 x2:=
 (Zt hp (by kernel_rfl) Tryz.func100 (by kernel_rfl)).trans (ZgX _ x0 x1 x2)
noncomputable def WJ (Γ : Zd) (x0 : Value) : M Value:=
 bind (Γ Yj [x0]) fun y1=>
 bind (ZO y1 false 3 (bind (bop .int .geq x0 (Value.int .u8 97)) fun y2=>
 ret [x0,y2,y2])) (c3 fun _ _ q3_2=>
 bind (ZO q3_2 true 2 (bind (bop .int .leq x0 (Value.int .u8 102)) fun y4=>
 ret [x0,y4])) (c2 fun _ q5_1=>
 bind (ZO y1 false 1 (bind (pick q3_2 q5_1 (Value.bool false)) fun y6=>
 ret [y6])) (c1 fun q7_0=>
 bind (pick y1 (Value.bool true) q7_0) fun y8=>
 ret y8)))
theorem Zlk (Γ : Zd) (x0 : Value) : ZG Tryz.prog Γ Tryz.f101 Zga [x0]=WJ Γ x0:=by kernel_rfl
theorem Zkq {prim : FuncId→Option (List Value→M Value)} (hp : prim Zaz=none) (n : Nat) (x0 : Value) : run Tryz.prog prim lvs (n+1) Zaz [x0]=WJ (run Tryz.prog prim lvs n) x0:=
 (Zt hp (by kernel_rfl) Tryz.func101 (by kernel_rfl)).trans (Zlk _ x0)
noncomputable def Zau (Γ : Zd) (x0 : Value) : M Value:=
 bind (bop .int .geq x0 (Value.int .u8 48)) fun y1=>
 bind (ZO y1 true 2 (bind (bop .int .leq x0 (Value.int .u8 57)) fun y2=>
 ret [x0,y2])) (c2 fun _ q3_1=>
 bind (pick y1 q3_1 (Value.bool false)) fun y4=>
 ret y4)
theorem ZlQ (Γ : Zd) (x0 : Value) : ZG Tryz.prog Γ Tryz.f102 ZfH [x0]=Zau Γ x0:=by kernel_rfl
theorem Zki {prim : FuncId→Option (List Value→M Value)} (hp : prim Yj=none) (n : Nat) (x0 : Value) : run Tryz.prog prim lvs (n+1) Yj [x0]=Zau (run Tryz.prog prim lvs n) x0:=
 (Zt hp (by kernel_rfl) Tryz.func102 (by kernel_rfl)).trans (ZlQ _ x0)
noncomputable def Kp.l1 (Γ : Zd) (s0 s1 s7 s8 : Value) : M Out:=
 bind (bop .int .lss s8 s7) fun y2=>
 cnd y2
 (bind (ixs s0 s8) fun y3=>
 bind (Yz Γ s1 [y3]) fun y4=>
 bind (uop .not y4) fun y5=>
 cnd y5
 (ret (.ret (Value.bool false)))
 (bind (bop .int .add s8 (Value.int .i64 1)) fun y6=>
 ret (.nrm [s0,s1,s7,y6])))
 (ret (.ext 0 []))
noncomputable def Kp (Γ : Zd) (x0 x1 : Value) : M Value:=
 bind (JT x0) fun y1=>
 jn (Zj (c4 (Kp.l1 Γ)) [x0,x1,y1,(Value.int .i64 0)]) noN (xk 0 (c0 (ret (Value.bool true))) noX) ret
theorem ZnK (Γ : Zd) (x0 x1 : Value) : ZG Tryz.prog Γ Tryz.f103 ZiG [x0,x1]=Kp Γ x0 x1:=by kernel_rfl
theorem Zmx {prim : FuncId→Option (List Value→M Value)} (hp : prim YQ=none) (n : Nat) (x0 x1 : Value) : run Tryz.prog prim lvs (n+1) YQ [x0,x1]=Kp (run Tryz.prog prim lvs n) x0 x1:=
 (Zt hp (by kernel_rfl) Tryz.func103 (by kernel_rfl)).trans (ZnK _ x0 x1)
noncomputable def WI (Γ : Zd) (x0 x1 : Value) : M Value:=
 bind (alc 1 x1) fun y1=>
 bind (bop .int .neq x0 (Value.int .i64 1)) fun y2=>
 bind (ZO y2 true 2 (bind (bop .int .neq x0 (Value.int .i64 2)) fun y3=>
 ret [x0,y3])) (c2 fun _ q4_1=>
 bind (pick y2 q4_1 (Value.bool false)) fun y5=>
 cnd y5
 (ret (Value.int .i64 6))
 (bind (fa 0 y1) fun y6=>
 bind (ld1 y6) fun y7=>
 bind (fa 1 y1) fun y8=>
 bind (ld1 y8) fun y9=>
 bind (Γ Q7 [y7]) fun y10=>
 bind (ld1 y8) fun u_11=>same u_11 y9 <|
 bind (Γ WA [y9]) fun y12=>
 bind (bsl 1 2 (.int .i64 0) [(0,1,y10),(1,1,y12)]) fun y13=>
 bind (Γ K0 [y13]) fun y14=>
 bind (bop .int .neq y14 (Value.int .i64 0)) fun y15=>
 cnd y15
 (ret y14)
 (bind (bop .int .eql x0 (Value.int .i64 2)) fun y16=>
 cnd y16
 (bind (fa 2 y1) fun y17=>
 bind (ld1 y17) fun y18=>
 bind (fa 4 y1) fun y19=>
 bind (ld1 y19) fun y20=>
 bind (Γ Zbb [y18]) fun y21=>
 bind (ld1 y19) fun u_22=>same u_22 y20 <|
 bind (Γ WX [y20]) fun y23=>
 bind (bsl 1 2 (.int .i64 0) [(0,1,y21),(1,1,y23)]) fun y24=>
 bind (Γ K0 [y24]) fun y25=>
 ret y25)
 (bind (fa 2 y1) fun y26=>
 bind (ld1 y26) fun y27=>
 bind (bop .str .neq y27 (Value.string ⟨#[]⟩)) fun y28=>
 bind (ZO y28 false 2 (bind (fa 3 y1) fun y29=>
 bind (ld1 y29) fun y30=>
 ret [y29,y30])) (c2 fun _ q31_1=>
 bind (pick y28 (Value.bool true) q31_1) fun y32=>
 bind (ZO y32 false 4 (bind (fa 4 y1) fun y33=>
 bind (ld1 y33) fun y34=>
 bind (Zx y34) fun y35=>
 bind (bop .int .gtr y35 (Value.int .i64 0)) fun y36=>
 ret [y33,y34,y35,y36])) (c4 fun _ _ _ q37_3=>
 bind (pick y32 (Value.bool true) q37_3) fun y38=>
 cnd y38
 (ret (Value.int .i64 12))
 (ret (Value.int .i64 0))))))))
theorem Zlq (Γ : Zd) (x0 x1 : Value) : ZG Tryz.prog Γ Tryz.f104 Zfp [x0,x1]=WI Γ x0 x1:=by kernel_rfl
theorem Zkv {prim : FuncId→Option (List Value→M Value)} (hp : prim ZaB=none) (n : Nat) (x0 x1 : Value) : run Tryz.prog prim lvs (n+1) ZaB [x0,x1]=WI (run Tryz.prog prim lvs n) x0 x1:=
 (Zt hp (by kernel_rfl) Tryz.func104 (by kernel_rfl)).trans (Zlq _ x0 x1)
noncomputable def Y8.l1 (Γ : Zd) (s0 s1 s5 : Value) : M Out:=
 bind (Zx s0) fun y1=>
 bind (bop .int .lss s5 y1) fun y2=>
 cnd y2
 (bind (bop .int .sub s5 (Value.int .i64 1)) fun y3=>
 bind (ixa 1 s0 y3) fun y4=>
 bind (ld1 y4) fun y5=>
 bind (ixa 1 s0 s5) fun y6=>
 bind (ld1 y6) fun y7=>
 bind (Γ Jj [y5,y7]) fun y8=>
 bind (bop .int .geq y8 (Value.int .i64 0)) fun y9=>
 cnd y9
 (ret (.ret (Value.int .i64 9)))
 (bind (bop .int .add s5 (Value.int .i64 1)) fun y10=>
 ret (.nrm [s0,s1,y10])))
 (ret (.ext 0 [s0,s1]))
noncomputable def Y8 (Γ : Zd) (x0 x1 : Value) : M Value:=
 jn (Zj (c3 (Y8.l1 Γ)) [x0,x1,(Value.int .i64 1)]) noN (xk 0 (c2 fun q12_0 q12_1=>
 bind (Zx q12_0) fun y13=>
 bind (bop .int .gtr y13 q12_1) fun y14=>
 cnd y14
 (ret (Value.int .i64 7))
 (ret (Value.int .i64 0))) noX) ret
theorem Zlv (Γ : Zd) (x0 x1 : Value) : ZG Tryz.prog Γ Tryz.f105 Zfz [x0,x1]=Y8 Γ x0 x1:=by kernel_rfl
theorem Zkk {prim : FuncId→Option (List Value→M Value)} (hp : prim YC=none) (n : Nat) (x0 x1 : Value) : run Tryz.prog prim lvs (n+1) YC [x0,x1]=Y8 (run Tryz.prog prim lvs n) x0 x1:=
 (Zt hp (by kernel_rfl) Tryz.func105 (by kernel_rfl)).trans (Zlv _ x0 x1)
noncomputable def Zat (Γ : Zd) (x0 x1 x2 : Value) : M Value:=
 bind (bsl 1 1 (.string ⟨#[]⟩) [(0,1,x1)]) fun y1=>
 bind (app 1 16 y1 x2) fun y2=>
 bind (Γ KB [y2]) fun y3=>
 bind (bop .int .neq y3 (Value.int .i64 0)) fun y4=>
 cnd y4
 (ret (Value.tuple #[(Value.map none),y3]))
 (bind (Q9 x0) fun y5=>
 bind (fa 0 y5) fun y6=>
 bind (ld1 y6) fun y7=>
 bind (lkp .str (.map none) true y7 x1) fun y8=>
 bind (ZF y8 0) fun y9=>
 bind (ZF y8 1) fun y10=>
 bind (uop .not y10) fun y11=>
 cnd y11
 (ret (Value.tuple #[(Value.map none),(Value.int .i64 8)]))
 (ret (Value.tuple #[y9,(Value.int .i64 0)])))
theorem Zfw (Γ : Zd) (x0 x1 x2 : Value) : ZG Tryz.prog Γ Tryz.f106 Zb8 [x0,x1,x2]=Zat Γ x0 x1 x2:=by kernel_rfl
theorem Zfe {prim : FuncId→Option (List Value→M Value)} (hp : prim J6=none) (n : Nat) (x0 x1 x2 : Value) : run Tryz.prog prim lvs (n+1) J6 [x0,x1,x2]=Zat (run Tryz.prog prim lvs n) x0 x1 x2:=
 (Zt hp (by kernel_rfl) Tryz.func106 (by kernel_rfl)).trans (Zfw _ x0 x1 x2)
noncomputable def Qm.l1 (Γ : Zd) (s3 s62 s63 s64 : Value) : M Out:=
 bind (bop .int .lss s64 s63) fun y50=>
 cnd y50
 (bind (ixa 1 s62 s64) fun y51=>
 bind (ld1 y51) fun y52=>
 bind (Γ Yg [y52]) fun y53=>
 bind (uop .not y53) fun y54=>
 cnd y54
 (ret (.ret (Value.int .i64 10)))
 (bind (bop .int .add s64 (Value.int .i64 1)) fun y55=>
 ret (.nrm [s3,s62,s63,y55])))
 (ret (.ext 0 [s3]))
noncomputable def Qm.l2 (Γ : Zd) (s3 s73 s74 s75 : Value) : M Out:=
 bind (bop .int .lss s75 s74) fun y61=>
 cnd y61
 (bind (ixa 1 s73 s75) fun y62=>
 bind (ld1 y62) fun y63=>
 bind (bop .int .gtr s75 (Value.int .i64 0)) fun y64=>
 bind (ZO y64 true 8 (bind (fa 4 s3) fun y65=>
 bind (ld1 y65) fun y66=>
 bind (bop .int .sub s75 (Value.int .i64 1)) fun y67=>
 bind (ixa 1 y66 y67) fun y68=>
 bind (ld1 y68) fun y69=>
 bind (bop .str .leq y63 y69) fun y70=>
 ret [y63,y65,y66,s75,y67,y68,y69,y70])) (c8 fun _ _ _ _ _ _ _ q71_7=>
 bind (pick y64 q71_7 (Value.bool false)) fun y72=>
 cnd y72
 (ret (.ret (Value.int .i64 9)))
 (bind (bop .int .add s75 (Value.int .i64 1)) fun y73=>
 ret (.nrm [s3,s73,s74,y73]))))
 (ret (.ext 2 []))
noncomputable def Qm (Γ : Zd) (x0 x1 : Value) : M Value:=
 bind (alc 1 x1) fun y1=>
 bind (bop .int .lss x0 (Value.int .i64 1)) fun y2=>
 bind (ZO y2 false 2 (bind (bop .int .gtr x0 (Value.int .i64 2)) fun y3=>
 ret [x0,y3])) (c2 fun _ q4_1=>
 bind (pick y2 (Value.bool true) q4_1) fun y5=>
 cnd y5
 (ret (Value.int .i64 6))
 (bind (fa 0 y1) fun y6=>
 bind (ld1 y6) fun y7=>
 bind (Γ Yg [y7]) fun y8=>
 bind (uop .not y8) fun y9=>
 cnd y9
 (ret (Value.int .i64 10))
 (bind (fa 1 y1) fun y10=>
 bind (ld1 y10) fun y11=>
 bind (Γ ZaE [y11]) fun y12=>
 bind (uop .not y12) fun y13=>
 cnd y13
 (ret (Value.int .i64 4))
 (bind (bop .int .eql x0 (Value.int .i64 1)) fun y14=>
 cnd y14
 (bind (fa 2 y1) fun y15=>
 bind (ld1 y15) fun y16=>
 bind (bop .str .neq y16 (Value.string ⟨#[]⟩)) fun y17=>
 bind (ZO y17 false 2 (bind (fa 3 y1) fun y18=>
 bind (ld1 y18) fun y19=>
 ret [y18,y19])) (c2 fun _ q20_1=>
 bind (pick y17 (Value.bool true) q20_1) fun y21=>
 bind (ZO y21 false 4 (bind (fa 4 y1) fun y22=>
 bind (ld1 y22) fun y23=>
 bind (Zx y23) fun y24=>
 bind (bop .int .gtr y24 (Value.int .i64 0)) fun y25=>
 ret [y22,y23,y24,y25])) (c4 fun _ _ _ q26_3=>
 bind (pick y21 (Value.bool true) q26_3) fun y27=>
 cnd y27
 (ret (Value.int .i64 12))
 (ret (Value.int .i64 0)))))
 (bind (fa 2 y1) fun y28=>
 bind (ld1 y28) fun y29=>
 bind (bop .str .neq y29 (Value.string ⟨#[]⟩)) fun y30=>
 jn (cnd y30
 (bind (fa 2 y1) fun y31=>
 bind (ld1 y31) fun y32=>
 bind (Γ K3 [y32]) fun y33=>
 bind (ZF y33 0) fun y34=>
 bind (ZF y33 1) fun y35=>
 bind (uop .not y35) fun y36=>
 bind (ZO y36 false 4 (bind (fa 2 y1) fun y37=>
 bind (ld1 y37) fun y38=>
 bind (bop .str .neq y34 y38) fun y39=>
 ret [y34,y37,y38,y39])) (c4 fun _ _ _ q40_3=>
 bind (pick y36 (Value.bool true) q40_3) fun y41=>
 cnd y41
 (ret (.ret (Value.int .i64 11)))
 (ret (.nrm [y1]))))
 (ret (.nrm [y1]))) (c1 fun q42_0=>
 bind (fa 4 q42_0) fun y43=>
 bind (ld1 y43) fun y44=>
 bind (Zx y44) fun y45=>
 bind (bop .int .gtr y45 (Value.int .i64 6)) fun y46=>
 cnd y46
 (ret (Value.int .i64 7))
 (bind (fa 4 q42_0) fun y47=>
 bind (ld1 y47) fun y48=>
 bind (Zx y48) fun y49=>
 jn (Zj (c4 (Qm.l1 Γ)) [q42_0,y48,y49,(Value.int .i64 0)]) noN (xk 0 (c1 fun q57_0=>
 bind (fa 4 q57_0) fun y58=>
 bind (ld1 y58) fun y59=>
 bind (Zx y59) fun y60=>
 jn (Zj (c4 (Qm.l2 Γ)) [q57_0,y59,y60,(Value.int .i64 0)]) noN (xk 2 (c0 (ret (Value.int .i64 0))) noX) ret) noX) ret)) noX ret)))))
theorem Zkl (Γ : Zd) (x0 x1 : Value) : ZG Tryz.prog Γ Tryz.f107 Ze7 [x0,x1]=Qm Γ x0 x1:=by kernel_rfl
theorem Zjr {prim : FuncId→Option (List Value→M Value)} (hp : prim Zbg=none) (n : Nat) (x0 x1 : Value) : run Tryz.prog prim lvs (n+1) Zbg [x0,x1]=Qm (run Tryz.prog prim lvs n) x0 x1:=
 (Zt hp (by kernel_rfl) Tryz.func107 (by kernel_rfl)).trans (Zkl _ x0 x1)
noncomputable def Kq.l1 (Γ : Zd) (s0 s1 s5 : Value) : M Out:=
 bind (JT s0) fun y1=>
 bind (bop .int .lss s5 y1) fun y2=>
 cnd y2
 (bind (ixs s0 s5) fun y3=>
 bind (Γ Kt [y3,s1]) fun y4=>
 bind (uop .not y4) fun y5=>
 cnd y5
 (ret (.ret (Value.bool false)))
 (bind (bop .int .add s5 (Value.int .i64 1)) fun y6=>
 ret (.nrm [s0,s1,y6])))
 (ret (.ext 0 []))
noncomputable def Kq (Γ : Zd) (x0 x1 : Value) : M Value:=
 jn (Zj (c3 (Kq.l1 Γ)) [x0,x1,(Value.int .i64 0)]) noN (xk 0 (c0 (ret (Value.bool true))) noX) ret
theorem ZnD (Γ : Zd) (x0 x1 : Value) : ZG Tryz.prog Γ Tryz.f108 Zio [x0,x1]=Kq Γ x0 x1:=by kernel_rfl
theorem Zl9 {prim : FuncId→Option (List Value→M Value)} (hp : prim Zae=none) (n : Nat) (x0 x1 : Value) : run Tryz.prog prim lvs (n+1) Zae [x0,x1]=Kq (run Tryz.prog prim lvs n) x0 x1:=
 (Zt hp (by kernel_rfl) Tryz.func108 (by kernel_rfl)).trans (ZnD _ x0 x1)
noncomputable def Ks.l1 (Γ : Zd) (s0 s1 s5 : Value) : M Out:=
 bind (JT s1) fun y1=>
 bind (bop .int .lss s5 y1) fun y2=>
 cnd y2
 (bind (ixs s1 s5) fun y3=>
 bind (bop .int .eql y3 s0) fun y4=>
 cnd y4
 (ret (.ret (Value.bool true)))
 (bind (bop .int .add s5 (Value.int .i64 1)) fun y5=>
 ret (.nrm [s0,s1,y5])))
 (ret (.ext 0 []))
noncomputable def Ks (Γ : Zd) (x0 x1 : Value) : M Value:=
 jn (Zj (c3 (Ks.l1 Γ)) [x0,x1,(Value.int .i64 0)]) noN (xk 0 (c0 (ret (Value.bool false))) noX) ret
theorem Znc (Γ : Zd) (x0 x1 : Value) : ZG Tryz.prog Γ Tryz.f109 Zh9 [x0,x1]=Ks Γ x0 x1:=by kernel_rfl
theorem Zma {prim : FuncId→Option (List Value→M Value)} (hp : prim Kt=none) (n : Nat) (x0 x1 : Value) : run Tryz.prog prim lvs (n+1) Kt [x0,x1]=Ks (run Tryz.prog prim lvs n) x0 x1:=
 (Zt hp (by kernel_rfl) Tryz.func109 (by kernel_rfl)).trans (Znc _ x0 x1)
noncomputable def QY.l2 (Γ : Zd) (s0 s3 s4 s5 s6 s19 : Value) : M Out:=
 bind (bop .int .lss s19 (Value.int .i64 26)) fun y5=>
 cnd y5
 (bind (ixs s0 s5) fun y6=>
 bind (ixs s3 s19) fun y7=>
 bind (bop .int .eql y6 y7) fun y8=>
 jn (cnd y8
 (bind (bop .int .add s19 (Value.int .i64 1)) fun y9=>
 bind (sls (Value.string ⟨#[97,98,99,100,101,102,103,104,105,106,107,108,109,110,111,112,113,114,115,116,117,118,119,120,121,122]⟩) (some s19) (some y9)) fun y10=>
 ret (.nrm [s0,s3,s4,s5,y10,s19]))
 (ret (.nrm [s0,s3,s4,s5,s6,s19]))) (c6 fun q11_0 q11_1 q11_2 q11_3 q11_4 q11_5=>
 bind (bop .int .add q11_5 (Value.int .i64 1)) fun y12=>
 ret (.nrm [q11_0,q11_1,q11_2,q11_3,q11_4,y12])) noX QH)
 (ret (.ext 2 [s0,s3,s4,s5,s6]))
noncomputable def QY.l1 (Γ : Zd) (s0 s3 s4 s5 : Value) : M Out:=
 bind (JT s0) fun y1=>
 bind (bop .int .lss s5 y1) fun y2=>
 cnd y2
 (bind (bop .int .add s5 (Value.int .i64 1)) fun y3=>
 bind (sls s0 (some s5) (some y3)) fun y4=>
 jn (Zj (c6 (QY.l2 Γ)) [s0,s3,s4,s5,y4,(Value.int .i64 0)]) noN (xk 2 (c5 fun q15_0 q15_1 q15_2 q15_3 q15_4=>
 bind (bop .str .add q15_2 q15_4) fun y16=>
 bind (bop .int .add q15_3 (Value.int .i64 1)) fun y17=>
 ret (.nrm [q15_0,q15_1,y16,y17])) noX) QH)
 (ret (.ext 0 [s4]))
noncomputable def QY (Γ : Zd) (x0 : Value) : M Value:=
 jn (Zj (c4 (QY.l1 Γ)) [x0,(Value.string ⟨#[65,66,67,68,69,70,71,72,73,74,75,76,77,78,79,80,81,82,83,84,85,86,87,88,89,90]⟩),(Value.string ⟨#[]⟩),(Value.int .i64 0)]) noN (xk 0 (c1 fun q20_0=>
 ret q20_0) noX) ret
theorem ZlV (Γ : Zd) (x0 : Value) : ZG Tryz.prog Γ Tryz.f111 Zfv [x0]=QY Γ x0:=by kernel_rfl
theorem Zky {prim : FuncId→Option (List Value→M Value)} (hp : prim Zay=none) (n : Nat) (x0 : Value) : run Tryz.prog prim lvs (n+1) Zay [x0]=QY (run Tryz.prog prim lvs n) x0:=
 (Zt hp (by kernel_rfl) Tryz.func111 (by kernel_rfl)).trans (ZlV _ x0)
noncomputable def ZeE (Γ : Zd) (x0 : Value) : M Value:=
 bind (Γ JX [x0]) fun y1=>
 bind (ZO y1 false 2 (bind (Γ Yj [x0]) fun y2=>
 ret [x0,y2])) (c2 fun _ q3_1=>
 bind (pick y1 (Value.bool true) q3_1) fun y4=>
 bind (ZO y4 false 2 (bind (bop .int .eql x0 (Value.int .u8 45)) fun y5=>
 ret [x0,y5])) (c2 fun _ q6_1=>
 bind (pick y4 (Value.bool true) q6_1) fun y7=>
 bind (ZO y7 false 2 (bind (bop .int .eql x0 (Value.int .u8 46)) fun y8=>
 ret [x0,y8])) (c2 fun _ q9_1=>
 bind (pick y7 (Value.bool true) q9_1) fun y10=>
 ret y10)))
theorem Zmo (Γ : Zd) (x0 : Value) : ZG Tryz.prog Γ Tryz.f112 Zhd [x0]=ZeE Γ x0:=by kernel_rfl
theorem Zls {prim : FuncId→Option (List Value→M Value)} (hp : prim Zbn=none) (n : Nat) (x0 : Value) : run Tryz.prog prim lvs (n+1) Zbn [x0]=ZeE (run Tryz.prog prim lvs n) x0:=
 (Zt hp (by kernel_rfl) Tryz.func112 (by kernel_rfl)).trans (Zmo _ x0)
noncomputable def Zy.l1 (Γ : Zd) (s0 s1 s7 s8 : Value) : M Out:=
 bind (bop .int .lss s8 s7) fun y2=>
 cnd y2
 (bind (ixa 1 s0 s8) fun y3=>
 bind (ld1 y3) fun y4=>
 bind (Yz Γ s1 [y4]) fun y5=>
 cnd y5
 (ret (.ret s8))
 (bind (bop .int .add s8 (Value.int .i64 1)) fun y6=>
 ret (.nrm [s0,s1,s7,y6])))
 (ret (.ext 0 []))
noncomputable def Zy (Γ : Zd) (x0 x1 : Value) : M Value:=
 bind (Zx x0) fun y1=>
 jn (Zj (c4 (Zy.l1 Γ)) [x0,x1,y1,(Value.int .i64 0)]) noN (xk 0 (c0 (ret (Value.int .i64 (-1)))) noX) ret
theorem Zbc (Γ : Zd) (x0 x1 : Value) : ZG Tryz.prog Γ Tryz.f113 KS [x0,x1]=Zy Γ x0 x1:=by kernel_rfl
theorem Za7 {prim : FuncId→Option (List Value→M Value)} (hp : prim Jg=none) (n : Nat) (x0 x1 : Value) : run Tryz.prog prim lvs (n+1) Jg [x0,x1]=Zy (run Tryz.prog prim lvs n) x0 x1:=
 (Zt hp (by kernel_rfl) Tryz.func113 (by kernel_rfl)).trans (Zbc _ x0 x1)
noncomputable def Y7.l1 (Γ : Zd) (s3 s8 s9 s10 : Value) : M Out:=
 bind (bop .int .lss s10 s9) fun y3=>
 cnd y3
 (bind (ixa 1 s8 s10) fun y4=>
 bind (ld1 y4) fun y5=>
 bind (bop .int .geq y5 (Value.int .u8 65)) fun y6=>
 bind (ZO y6 true 2 (bind (bop .int .leq y5 (Value.int .u8 90)) fun y7=>
 ret [y5,y7])) (c2 fun _ q8_1=>
 bind (pick y6 q8_1 (Value.bool false)) fun y9=>
 jn (cnd y9
 (bind (bop .int .add y5 (Value.int .u8 97)) fun y10=>
 bind (bop .int .sub y10 (Value.int .u8 65)) fun y11=>
 bind (ixa 1 s3 s10) fun y12=>
 bind (st1 y12 y11) fun _=>
 ret (.nrm [s3,s8,s9,s10]))
 (ret (.nrm [s3,s8,s9,s10]))) (c4 fun q13_0 q13_1 q13_2 q13_3=>
 bind (bop .int .add q13_3 (Value.int .i64 1)) fun y14=>
 ret (.nrm [q13_0,q13_1,q13_2,y14])) noX QH))
 (ret (.ext 0 [s3]))
noncomputable def Y7 (Γ : Zd) (x0 : Value) : M Value:=
 bind (s2b x0) fun y1=>
 bind (Zx y1) fun y2=>
 jn (Zj (c4 (Y7.l1 Γ)) [y1,y1,y2,(Value.int .i64 0)]) noN (xk 0 (c1 fun q17_0=>
 bind (b2s q17_0) fun y18=>
 ret y18) noX) ret
theorem ZmA (Γ : Zd) (x0 : Value) : ZG Tryz.prog Γ Tryz.f116 Zg3 [x0]=Y7 Γ x0:=by kernel_rfl
theorem ZlI {prim : FuncId→Option (List Value→M Value)} (hp : prim Zbv=none) (n : Nat) (x0 : Value) : run Tryz.prog prim lvs (n+1) Zbv [x0]=Y7 (run Tryz.prog prim lvs n) x0:=
 (Zt hp (by kernel_rfl) Tryz.func116 (by kernel_rfl)).trans (ZmA _ x0)
noncomputable def Zc1 (Γ : Zd) (x0 x1 : Value) : M Value:=
 bind (Γ YJ [x0,x1]) fun y1=>
 bind (ZF y1 0) fun y2=>
 bind (ZF y1 1) fun y3=>
 bind (ZF y1 2) fun y4=>
 ret (Value.tuple #[y2,y3,y4])
theorem Zkg (Γ : Zd) (x0 x1 : Value) : ZG Tryz.prog Γ Tryz.f117 Ze4 [x0,x1]=Zc1 Γ x0 x1:=by kernel_rfl
theorem Zi1 {prim : FuncId→Option (List Value→M Value)} (hp : prim KJ=none) (n : Nat) (x0 x1 : Value) : run Tryz.prog prim lvs (n+1) KJ [x0,x1]=Zc1 (run Tryz.prog prim lvs n) x0 x1:=
 (Zt hp (by kernel_rfl) Tryz.func117 (by kernel_rfl)).trans (Zkg _ x0 x1)
noncomputable def ZbM (Γ : Zd) (x0 x1 : Value) : M Value:=
 bind (Γ Wb [x0,x1,(Value.int .i64 0),(Value.int .i64 (-1))]) fun y1=>
 ret y1
theorem Zia (Γ : Zd) (x0 x1 : Value) : ZG Tryz.prog Γ Tryz.f118 Zdt [x0,x1]=ZbM Γ x0 x1:=by kernel_rfl
theorem ZhC {prim : FuncId→Option (List Value→M Value)} (hp : prim Wj=none) (n : Nat) (x0 x1 : Value) : run Tryz.prog prim lvs (n+1) Wj [x0,x1]=ZbM (run Tryz.prog prim lvs n) x0 x1:=
 (Zt hp (by kernel_rfl) Tryz.func118 (by kernel_rfl)).trans (Zia _ x0 x1)
noncomputable def W4 (Γ : Zd) (x0 : Value) : M Value:=
 bind (bop .str .eql x0 (Value.string ⟨#[]⟩)) fun y1=>
 bind (ZO y1 false 3 (bind (JT x0) fun y2=>
 bind (bop .int .gtr y2 (Value.int .i64 12)) fun y3=>
 ret [x0,y2,y3])) (c3 fun _ _ q4_2=>
 bind (pick y1 (Value.bool true) q4_2) fun y5=>
 bind (ZO y5 false 4 (bind (ixs x0 (Value.int .i64 0)) fun y6=>
 bind (Γ JX [y6]) fun y7=>
 bind (uop .not y7) fun y8=>
 ret [x0,y6,y7,y8])) (c4 fun _ _ _ q9_3=>
 bind (pick y5 (Value.bool true) q9_3) fun y10=>
 bind (ZO y10 false 3 (bind (Γ YQ [x0,(Value.func (.func 112) #[] #[])]) fun y11=>
 bind (uop .not y11) fun y12=>
 ret [x0,y11,y12])) (c3 fun _ _ q13_2=>
 bind (pick y10 (Value.bool true) q13_2) fun y14=>
 cnd y14
 (ret (Value.bool false))
 (bind (JT x0) fun y15=>
 bind (bop .int .sub y15 (Value.int .i64 1)) fun y16=>
 bind (ixs x0 y16) fun y17=>
 bind (Γ JX [y17]) fun y18=>
 bind (ZO y18 false 2 (bind (Γ Yj [y17]) fun y19=>
 ret [y17,y19])) (c2 fun _ q20_1=>
 bind (pick y18 (Value.bool true) q20_1) fun y21=>
 ret y21)))))
theorem Zkd (Γ : Zd) (x0 : Value) : ZG Tryz.prog Γ Tryz.f119 ZeZ [x0]=W4 Γ x0:=by kernel_rfl
theorem ZjE {prim : FuncId→Option (List Value→M Value)} (hp : prim KG=none) (n : Nat) (x0 : Value) : run Tryz.prog prim lvs (n+1) KG [x0]=W4 (run Tryz.prog prim lvs n) x0:=
 (Zt hp (by kernel_rfl) Tryz.func119 (by kernel_rfl)).trans (Zkd _ x0)
noncomputable def ZdN (Γ : Zd) (x0 : Value) : M Value:=
 bind (Γ JX [x0]) fun y1=>
 bind (ZO y1 false 2 (bind (Γ Yj [x0]) fun y2=>
 ret [x0,y2])) (c2 fun _ q3_1=>
 bind (pick y1 (Value.bool true) q3_1) fun y4=>
 ret y4)
theorem ZkQ (Γ : Zd) (x0 : Value) : ZG Tryz.prog Γ Tryz.f120 Zf7 [x0]=ZdN Γ x0:=by kernel_rfl
theorem Zkm {prim : FuncId→Option (List Value→M Value)} (hp : prim ZaA=none) (n : Nat) (x0 : Value) : run Tryz.prog prim lvs (n+1) ZaA [x0]=ZdN (run Tryz.prog prim lvs n) x0:=
 (Zt hp (by kernel_rfl) Tryz.func120 (by kernel_rfl)).trans (ZkQ _ x0)
noncomputable def W0 (Γ : Zd) (x0 : Value) : M Value:=
 bind (bop .int .geq x0 (Value.int .u8 97)) fun y1=>
 bind (ZO y1 true 2 (bind (bop .int .leq x0 (Value.int .u8 122)) fun y2=>
 ret [x0,y2])) (c2 fun _ q3_1=>
 bind (pick y1 q3_1 (Value.bool false)) fun y4=>
 ret y4)
theorem Zkh (Γ : Zd) (x0 : Value) : ZG Tryz.prog Γ Tryz.f121 Ze8 [x0]=W0 Γ x0:=by kernel_rfl
theorem Zjp {prim : FuncId→Option (List Value→M Value)} (hp : prim JX=none) (n : Nat) (x0 : Value) : run Tryz.prog prim lvs (n+1) JX [x0]=W0 (run Tryz.prog prim lvs n) x0:=
 (Zt hp (by kernel_rfl) Tryz.func121 (by kernel_rfl)).trans (Zkh _ x0)
noncomputable def YG.l1 (Γ : Zd) (s6 s7 s8 : Value) : M Out:=
 bind (bop .int .lss s8 s7) fun y2=>
 cnd y2
 (bind (ixa 1 s6 s8) fun y3=>
 bind (ld1 y3) fun y4=>
 bind (Γ Q7 [y4]) fun y5=>
 bind (bop .int .neq y5 (Value.int .i64 0)) fun y6=>
 cnd y6
 (ret (.ret y5))
 (bind (bop .int .add s8 (Value.int .i64 1)) fun y7=>
 ret (.nrm [s6,s7,y7])))
 (ret (.ext 0 []))
noncomputable def YG (Γ : Zd) (x0 : Value) : M Value:=
 bind (Zx x0) fun y1=>
 jn (Zj (c3 (YG.l1 Γ)) [x0,y1,(Value.int .i64 0)]) noN (xk 0 (c0 (ret (Value.int .i64 0))) noX) ret
theorem Zkz (Γ : Zd) (x0 : Value) : ZG Tryz.prog Γ Tryz.f122 Ze2 [x0]=YG Γ x0:=by kernel_rfl
theorem Zje {prim : FuncId→Option (List Value→M Value)} (hp : prim KB=none) (n : Nat) (x0 : Value) : run Tryz.prog prim lvs (n+1) KB [x0]=YG (run Tryz.prog prim lvs n) x0:=
 (Zt hp (by kernel_rfl) Tryz.func122 (by kernel_rfl)).trans (Zkz _ x0)
noncomputable def YY (Γ : Zd) (x0 x1 : Value) : M Value:=
 bind (Zx x0) fun y1=>
 bind (cvi .u64 y1) fun y2=>
 bind (Γ ZaG [y2]) fun y3=>
 bind (Γ Qp [x0,(Value.int .i64 0),y1,y3,x1]) fun y4=>
 ret (Value.tuple #[])
theorem ZbC (Γ : Zd) (x0 x1 : Value) : ZG Tryz.prog Γ Tryz.f128 K9 [x0,x1]=YY Γ x0 x1:=by kernel_rfl
theorem Zbw {prim : FuncId→Option (List Value→M Value)} (hp : prim Y5=none) (n : Nat) (x0 x1 : Value) : run Tryz.prog prim lvs (n+1) Y5 [x0,x1]=YY (run Tryz.prog prim lvs n) x0 x1:=
 (Zt hp (by kernel_rfl) Tryz.func128 (by kernel_rfl)).trans (ZbC _ x0 x1)
noncomputable def W9 (Γ : Zd) (x0 x1 : Value) : M Value:=
 bind (Γ Yo [x0]) fun y1=>
 bind (Γ Yo [x1]) fun y2=>
 cnd y1
 (cnd y2
 (ret (Value.int .i64 0))
 (ret (Value.int .i64 (-1))))
 (cnd y2
 (ret (Value.int .i64 1))
 (bind (bop .str .lss x0 x1) fun y3=>
 cnd y3
 (ret (Value.int .i64 (-1)))
 (bind (bop .str .gtr x0 x1) fun y4=>
 cnd y4
 (ret (Value.int .i64 1))
 (ret (Value.int .i64 0)))))
theorem Zfa (Γ : Zd) (x0 x1 : Value) : ZG Tryz.prog Γ Tryz.f130 ZbF [x0,x1]=W9 Γ x0 x1:=by kernel_rfl
theorem ZeH {prim : FuncId→Option (List Value→M Value)} (hp : prim KT=none) (n : Nat) (x0 x1 : Value) : run Tryz.prog prim lvs (n+1) KT [x0,x1]=W9 (run Tryz.prog prim lvs n) x0 x1:=
 (Zt hp (by kernel_rfl) Tryz.func130 (by kernel_rfl)).trans (Zfa _ x0 x1)
noncomputable def Wn (Γ : Zd) (x0 : Value) : M Value:=
 bind (Γ QC [x0]) fun y1=>
 bind (Γ Jk [y1,(Value.func (.func 97) #[] #[])]) fun y2=>
 ret y2
theorem ZdK (Γ : Zd) (x0 : Value) : ZG Tryz.prog Γ Tryz.f131 Zaw [x0]=Wn Γ x0:=by kernel_rfl
theorem Zdn {prim : FuncId→Option (List Value→M Value)} (hp : prim Kd=none) (n : Nat) (x0 : Value) : run Tryz.prog prim lvs (n+1) Kd [x0]=Wn (run Tryz.prog prim lvs n) x0:=
 (Zt hp (by kernel_rfl) Tryz.func131 (by kernel_rfl)).trans (ZdK _ x0)
noncomputable def Q8.l1 (Γ : Zd) (s5 s6 s7 : Value) : M Out:=
 bind (bop .int .lss s7 s6) fun y2=>
 cnd y2
 (bind (ixa 1 s5 s7) fun y3=>
 bind (ld1 y3) fun y4=>
 bind (bop .int .neq y4 (Value.int .i64 0)) fun y5=>
 cnd y5
 (ret (.ret y4))
 (bind (bop .int .add s7 (Value.int .i64 1)) fun y6=>
 ret (.nrm [s5,s6,y6])))
 (ret (.ext 0 []))
noncomputable def Q8 (Γ : Zd) (x0 : Value) : M Value:=
 bind (Zx x0) fun y1=>
 jn (Zj (c3 (Q8.l1 Γ)) [x0,y1,(Value.int .i64 0)]) noN (xk 0 (c0 (ret (Value.int .i64 0))) noX) ret
theorem Zk7 (Γ : Zd) (x0 : Value) : ZG Tryz.prog Γ Tryz.f132 Zfq [x0]=Q8 Γ x0:=by kernel_rfl
theorem Zkp {prim : FuncId→Option (List Value→M Value)} (hp : prim K0=none) (n : Nat) (x0 : Value) : run Tryz.prog prim lvs (n+1) K0 [x0]=Q8 (run Tryz.prog prim lvs n) x0:=
 (Zt hp (by kernel_rfl) Tryz.func132 (by kernel_rfl)).trans (Zk7 _ x0)
noncomputable def Zbx (Γ : Zd) (x0 : Value) : M Value:=
 bind (bop .str .eql x0 (Value.string ⟨#[]⟩)) fun y1=>
 cnd y1
 (ret (Value.int .i64 0))
 (bind (Γ Ko [x0]) fun y2=>
 bind (ZF y2 0) fun y3=>
 bind (ZF y2 1) fun y4=>
 bind (bop .int .neq y4 (Value.int .i64 0)) fun y5=>
 bind (ZO y5 false 3 (bind (bop .str .neq y3 x0) fun y6=>
 ret [y3,x0,y6])) (c3 fun _ _ q7_2=>
 bind (pick y5 (Value.bool true) q7_2) fun y8=>
 cnd y8
 (ret (Value.int .i64 11))
 (ret (Value.int .i64 0))))
theorem Zms (Γ : Zd) (x0 : Value) : ZG Tryz.prog Γ Tryz.f133 Zha [x0]=Zbx Γ x0:=by kernel_rfl
theorem Zk6 {prim : FuncId→Option (List Value→M Value)} (hp : prim Zbb=none) (n : Nat) (x0 : Value) : run Tryz.prog prim lvs (n+1) Zbb [x0]=Zbx (run Tryz.prog prim lvs n) x0:=
 (Zt hp (by kernel_rfl) Tryz.func133 (by kernel_rfl)).trans (Zms _ x0)
noncomputable def QU.l1 (Γ : Zd) (s0 s10 s11 s12 : Value) : M Out:=
 bind (bop .int .lss s12 s11) fun y4=>
 cnd y4
 (bind (ixa 1 s10 s12) fun y5=>
 bind (ld1 y5) fun y6=>
 bind (Γ Q7 [y6]) fun y7=>
 bind (bop .int .neq y7 (Value.int .i64 0)) fun y8=>
 cnd y8
 (ret (.ret y7))
 (bind (bop .int .add s12 (Value.int .i64 1)) fun y9=>
 ret (.nrm [s0,s10,s11,y9])))
 (ret (.ext 0 [s0]))
noncomputable def QU.l2 (Γ : Zd) (s0 s6 : Value) : M Out:=
 bind (Zx s0) fun y12=>
 bind (bop .int .lss s6 y12) fun y13=>
 cnd y13
 (bind (bop .int .sub s6 (Value.int .i64 1)) fun y14=>
 bind (ixa 1 s0 y14) fun y15=>
 bind (ld1 y15) fun y16=>
 bind (ixa 1 s0 s6) fun y17=>
 bind (ld1 y17) fun y18=>
 bind (bop .str .geq y16 y18) fun y19=>
 cnd y19
 (ret (.ret (Value.int .i64 9)))
 (bind (bop .int .add s6 (Value.int .i64 1)) fun y20=>
 ret (.nrm [s0,y20])))
 (ret (.ext 2 []))
noncomputable def QU (Γ : Zd) (x0 : Value) : M Value:=
 bind (Zx x0) fun y1=>
 bind (bop .int .gtr y1 (Value.int .i64 6)) fun y2=>
 cnd y2
 (ret (Value.int .i64 7))
 (bind (Zx x0) fun y3=>
 jn (Zj (c4 (QU.l1 Γ)) [x0,x0,y3,(Value.int .i64 0)]) noN (xk 0 (c1 fun q11_0=>
 jn (Zj (c2 (QU.l2 Γ)) [q11_0,(Value.int .i64 1)]) noN (xk 2 (c0 (ret (Value.int .i64 0))) noX) ret) noX) ret)
theorem Zks (Γ : Zd) (x0 : Value) : ZG Tryz.prog Γ Tryz.f134 ZeY [x0]=QU Γ x0:=by kernel_rfl
theorem Zi0 {prim : FuncId→Option (List Value→M Value)} (hp : prim WX=none) (n : Nat) (x0 : Value) : run Tryz.prog prim lvs (n+1) WX [x0]=QU (run Tryz.prog prim lvs n) x0:=
 (Zt hp (by kernel_rfl) Tryz.func134 (by kernel_rfl)).trans (Zks _ x0)
noncomputable def KI (Γ : Zd) (x0 x1 : Value) : M Value:=
 bind (Γ Qy [x0,x1]) fun y1=>
 bind (bop .int .geq y1 (Value.int .i64 0)) fun y2=>
 cnd y2
 (bind (sls x0 none (some y1)) fun y3=>
 bind (JT x1) fun y4=>
 bind (bop .int .add y1 y4) fun y5=>
 bind (sls x0 (some y5) none) fun y6=>
 ret (Value.tuple #[y3,y6,(Value.bool true)]))
 (ret (Value.tuple #[x0,(Value.string ⟨#[]⟩),(Value.bool false)]))
theorem ZcG (Γ : Zd) (x0 x1 : Value) : ZG Tryz.prog Γ Tryz.f136 WS [x0,x1]=KI Γ x0 x1:=by kernel_rfl
theorem Zct {prim : FuncId→Option (List Value→M Value)} (hp : prim YJ=none) (n : Nat) (x0 x1 : Value) : run Tryz.prog prim lvs (n+1) YJ [x0,x1]=KI (run Tryz.prog prim lvs n) x0 x1:=
 (Zt hp (by kernel_rfl) Tryz.func136 (by kernel_rfl)).trans (ZcG _ x0 x1)
noncomputable def Jh.l1 (Γ : Zd) (s0 s1 s2 s3 s9 s10 : Value) : M Out:=
 bind (bop .int .lss s10 s3) fun y13=>
 cnd y13
 (bind (Γ Kv [s0,s1]) fun y14=>
 bind (bop .int .lss y14 (Value.int .i64 0)) fun y15=>
 cnd y15
 (ret (.ext 0 [s0,s9,s10]))
 (bind (bop .int .add y14 s2) fun y16=>
 bind (sls s0 none (some y16)) fun y17=>
 bind (ixa 1 s9 s10) fun y18=>
 bind (st1 y18 y17) fun _=>
 bind (JT s1) fun y19=>
 bind (bop .int .add y14 y19) fun y20=>
 bind (sls s0 (some y20) none) fun y21=>
 bind (bop .int .add s10 (Value.int .i64 1)) fun y22=>
 ret (.nrm [y21,s1,s2,s3,s9,y22])))
 (ret (.ext 0 [s0,s9,s10]))
noncomputable def Jh (Γ : Zd) (x0 x1 x2 x3 : Value) : M Value:=
 bind (bop .int .eql x3 (Value.int .i64 0)) fun y1=>
 cnd y1
 (ret (Value.slice none 0 0))
 (bind (bop .str .eql x1 (Value.string ⟨#[]⟩)) fun y2=>
 cnd y2
 (bind (Γ Zhq [x0,x3]) fun y3=>
 ret y3)
 (bind (bop .int .lss x3 (Value.int .i64 0)) fun y4=>
 jn (cnd y4
 (bind (Γ Wg [x0,x1]) fun y5=>
 bind (bop .int .add y5 (Value.int .i64 1)) fun y6=>
 ret (.nrm [x0,x1,x2,y6]))
 (ret (.nrm [x0,x1,x2,x3]))) (c4 fun q7_0 q7_1 q7_2 q7_3=>
 bind (JT q7_0) fun y8=>
 bind (bop .int .add y8 (Value.int .i64 1)) fun y9=>
 bind (mxi false q7_3 y9) fun y10=>
 bind (mks 1 16 (.string ⟨#[]⟩) y10 y10) fun y11=>
 bind (bop .int .sub y10 (Value.int .i64 1)) fun y12=>
 jn (jn (Zj (c6 (Jh.l1 Γ)) [q7_0,q7_1,q7_2,y12,y11,(Value.int .i64 0)]) noN (xk 0 (c3 fun q24_0 q24_1 q24_2=>
 ret (.nrm [q24_0,q24_1,q24_2])) noX) QH) (c3 fun q26_0 q26_1 q26_2=>
 bind (ixa 1 q26_1 q26_2) fun y27=>
 bind (st1 y27 q26_0) fun _=>
 bind (bop .int .add q26_2 (Value.int .i64 1)) fun y28=>
 bind (slv 1 q26_1 none (some y28) none) fun y29=>
 ret y29) noX ret) noX ret))
theorem Zgk (Γ : Zd) (x0 x1 x2 x3 : Value) : ZG Tryz.prog Γ Tryz.f137 Zcg [x0,x1,x2,x3]=Jh Γ x0 x1 x2 x3:=by kernel_rfl
theorem Ze9 {prim : FuncId→Option (List Value→M Value)} (hp : prim Wb=none) (n : Nat) (x0 x1 x2 x3 : Value) : run Tryz.prog prim lvs (n+1) Wb [x0,x1,x2,x3]=Jh (run Tryz.prog prim lvs n) x0 x1 x2 x3:=
 (Zt hp (by kernel_rfl) Tryz.func137 (by kernel_rfl)).trans (Zgk _ x0 x1 x2 x3)
noncomputable abbrev K7.o1 (s2 : Value) (st : LoopState) (pd : Option Code) : Zi:=.loop Tryz.f138 YH 26 [0] (ZrU Tryz.f138 26) [(2,s2)] st pd
noncomputable def K7.r1 (Γ : Zd) (L : Nat) (s2 : Value) (a0 : Value) : M Value:=
 ZpL L (
 bind (ld1 s2) fun y2=>
 bind (bsl 1 1 (.string ⟨#[]⟩) [(0,1,a0)]) fun y3=>
 bind (app 1 16 y2 y3) fun y4=>
 bind (st1 s2 y4) fun _=>
 ZjG L none)
noncomputable def K7 (Γ : Zd) (x0 x1 : Value) : M Value:=
 bind (alc 1 x0) fun y1=>
 ZfU (ZkD Tryz.prog) Γ x1 Tryz.f138 YH 26 [0] (ZrU Tryz.f138 26) [(2,y1)] fun pd_5=>
 (match pd_5 with
 | none=>bind (ld1 y1) fun y6=>
 ret y6
 | some (.exit j_5)=>fail
 | some .ret=>ret (Value.slice none 0 0)
 | _=>fail)
noncomputable def QQ.l1 (Γ : Zd) (s0 s1 s2 s3 s4 s10 s11 : Value) : M Out:=
 jn (bind (bop .int .sub s2 s1) fun y1=>
 bind (bop .int .leq y1 (Value.int .i64 12)) fun y2=>
 cnd y2
 (bind (Γ QD [s0,s1,s2,s4]) fun y3=>
 ret (.ret (Value.tuple #[])))
 (bind (bop .int .eql s3 (Value.int .i64 0)) fun y4=>
 cnd y4
 (bind (Γ ZbE [s0,s1,s2,s4]) fun y5=>
 ret (.ret (Value.tuple #[])))
 (bind (uop .not s10) fun y6=>
 jn (cnd y6
 (bind (Γ Zar [s0,s1,s2,s4]) fun y7=>
 bind (bop .int .sub s3 (Value.int .i64 1)) fun y8=>
 ret (.nrm [s0,s1,s2,y8,s4,s10,s11,y1]))
 (ret (.nrm [s0,s1,s2,s3,s4,s10,s11,y1]))) (c8 fun q9_0 q9_1 q9_2 q9_3 q9_4 q9_5 q9_6 q9_7=>
 bind (Γ ZaQ [q9_0,q9_1,q9_2,q9_4]) fun y10=>
 bind (ZF y10 0) fun y11=>
 bind (ZF y10 1) fun y12=>
 bind (bop .int .eql y12 (Value.int .i64 2)) fun y13=>
 jn (cnd y13
 (bind (Γ ZaD [q9_0,q9_1,q9_2,q9_4]) fun y14=>
 bind (bop .int .sub q9_2 (Value.int .i64 1)) fun y15=>
 bind (bop .int .sub y11 q9_1) fun y16=>
 bind (bop .int .sub y15 y16) fun y17=>
 ret (.nrm [q9_0,q9_1,q9_2,q9_3,q9_4,q9_5,q9_6,q9_7,y17,(Value.int .i64 1)]))
 (ret (.nrm [q9_0,q9_1,q9_2,q9_3,q9_4,q9_5,q9_6,q9_7,y11,y12]))) (c10 fun q18_0 q18_1 q18_2 q18_3 q18_4 q18_5 q18_6 q18_7 q18_8 q18_9=>
 bind (ZO q18_5 true 1 (ret [q18_6])) (c1 fun q19_0=>
 bind (pick q18_5 q19_0 (Value.bool false)) fun y20=>
 bind (ZO y20 true 2 (bind (bop .int .eql q18_9 (Value.int .i64 1)) fun y21=>
 ret [q18_9,y21])) (c2 fun _ q22_1=>
 bind (pick y20 q22_1 (Value.bool false)) fun y23=>
 jn (cnd y23
 (bind (Γ Ws [q18_0,q18_1,q18_2,q18_4]) fun y24=>
 cnd y24
 (ret (.ret (Value.tuple #[])))
 (ret (.nrm [q18_0,q18_1,q18_2,q18_3,q18_4,q18_5,q18_6,q18_7,q18_8])))
 (ret (.nrm [q18_0,q18_1,q18_2,q18_3,q18_4,q18_5,q18_6,q18_7,q18_8]))) (c9 fun q25_0 q25_1 q25_2 q25_3 q25_4 q25_5 q25_6 q25_7 q25_8=>
 bind (bop .int .gtr q25_1 (Value.int .i64 0)) fun y26=>
 bind (ZJ y26 true (ret q25_4)) fun y27=>
 bind (ZJ y26 true (ret q25_0)) fun y28=>
 bind (ZJ y26 true (ret q25_1)) fun y29=>
 bind (ZJ y26 true (bop .int .sub y29 (Value.int .i64 1))) fun y30=>
 bind (ZJ y26 true (ixa 1 y28 y30)) fun y31=>
 bind (ZJ y26 true (ld1 y31)) fun y32=>
 bind (ZJ y26 true (ret q25_0)) fun y33=>
 bind (ZJ y26 true (ret q25_8)) fun y34=>
 bind (ZJ y26 true (ixa 1 y33 y34)) fun y35=>
 bind (ZJ y26 true (ld1 y35)) fun y36=>
 bind (ZJ y26 true (Yz Γ y27 [y32,y36])) fun y37=>
 bind (ZJ y26 true (bop .int .lss y37 (Value.int .i64 0))) fun y38=>
 bind (ZJ y26 true (uop .not y38)) fun y39=>
 bind (pick y26 y39 (Value.bool false)) fun y40=>
 cnd y40
 (bind (Γ Zam [q25_0,q25_1,q25_2,q25_8,q25_4]) fun y41=>
 ret (.nrm [q25_0,y41,q25_2,q25_3,q25_4,q25_5,q25_6]))
 (bind (Γ Zbd [q25_0,q25_1,q25_2,q25_8,q25_4]) fun y42=>
 bind (ZF y42 0) fun y43=>
 bind (ZF y42 1) fun y44=>
 bind (bop .int .sub y43 q25_1) fun y45=>
 bind (bop .int .sub q25_2 y43) fun y46=>
 bind (bop .int .quo q25_7 (Value.int .i64 8)) fun y47=>
 bind (bop .int .lss y45 y46) fun y48=>
 jn (cnd y48
 (bind (bop .int .geq y45 y47) fun y49=>
 bind (Γ Qp [q25_0,q25_1,y43,q25_3,q25_4]) fun y50=>
 bind (bop .int .add y43 (Value.int .i64 1)) fun y51=>
 ret (.nrm [q25_0,y51,q25_2,q25_3,q25_4,y49,y44]))
 (bind (bop .int .geq y46 y47) fun y52=>
 bind (bop .int .add y43 (Value.int .i64 1)) fun y53=>
 bind (Γ Qp [q25_0,y53,q25_2,q25_3,q25_4]) fun y54=>
 ret (.nrm [q25_0,q25_1,y43,q25_3,q25_4,y52,y44]))) (c7 fun q55_0 q55_1 q55_2 q55_3 q55_4 q55_5 q55_6=>
 ret (.nrm [q55_0,q55_1,q55_2,q55_3,q55_4,q55_5,q55_6])) noX QH)) noX QH))) noX QH) noX QH))) (c7 fun q60_0 q60_1 q60_2 q60_3 q60_4 q60_5 q60_6=>
 ret (.nrm [q60_0,q60_1,q60_2,q60_3,q60_4,q60_5,q60_6])) noX QH
noncomputable def QQ (Γ : Zd) (x0 x1 x2 x3 x4 : Value) : M Value:=
 jn (Zj (c7 (QQ.l1 Γ)) [x0,x1,x2,x3,x4,(Value.bool true),(Value.bool true)]) noN noX ret
theorem ZbD (Γ : Zd) (x0 x1 x2 x3 x4 : Value) : ZG Tryz.prog Γ Tryz.f139 K8 [x0,x1,x2,x3,x4]=QQ Γ x0 x1 x2 x3 x4:=by kernel_rfl
theorem Zbh {prim : FuncId→Option (List Value→M Value)} (hp : prim Qp=none) (n : Nat) (x0 x1 x2 x3 x4 : Value) : run Tryz.prog prim lvs (n+1) Qp [x0,x1,x2,x3,x4]=QQ (run Tryz.prog prim lvs n) x0 x1 x2 x3 x4:=
 (Zt hp (by kernel_rfl) Tryz.func139 (by kernel_rfl)).trans (ZbD _ x0 x1 x2 x3 x4)
noncomputable def Zcq (Γ : Zd) (x0 : Value) : M Value:=
 cnd (Value.bool false)
 (bind (cvi .u32 x0) fun y1=>
 bind (Γ Zh8 [y1]) fun y2=>
 ret y2)
 (bind (Γ WQ [x0]) fun y3=>
 ret y3)
theorem Zjk (Γ : Zd) (x0 : Value) : ZG Tryz.prog Γ Tryz.f140 Zd8 [x0]=Zcq Γ x0:=by kernel_rfl
theorem ZiS {prim : FuncId→Option (List Value→M Value)} (hp : prim ZaG=none) (n : Nat) (x0 : Value) : run Tryz.prog prim lvs (n+1) ZaG [x0]=Zcq (run Tryz.prog prim lvs n) x0:=
 (Zt hp (by kernel_rfl) Tryz.func140 (by kernel_rfl)).trans (Zjk _ x0)
noncomputable def ZaI (Γ : Zd) (x0 : Value) : M Value:=
 bind (bop .str .neq x0 x0) fun y1=>
 ret y1
theorem ZgV (Γ : Zd) (x0 : Value) : ZG Tryz.prog Γ Tryz.f141 Zcw [x0]=ZaI Γ x0:=by kernel_rfl
theorem Zge {prim : FuncId→Option (List Value→M Value)} (hp : prim Yo=none) (n : Nat) (x0 : Value) : run Tryz.prog prim lvs (n+1) Yo [x0]=ZaI (run Tryz.prog prim lvs n) x0:=
 (Zt hp (by kernel_rfl) Tryz.func141 (by kernel_rfl)).trans (ZgV _ x0)
noncomputable def Jq (Γ : Zd) (x0 : Value) : M Value:=
 bind (alc 1 x0) fun y1=>
 ret (Value.func (.func 158) #[] #[y1])
theorem Wi (Γ : Zd) (x0 : Value) : ZG Tryz.prog Γ Tryz.f142 Yw [x0]=Jq Γ x0:=by kernel_rfl
theorem Wa {prim : FuncId→Option (List Value→M Value)} (hp : prim QC=none) (n : Nat) (x0 : Value) : run Tryz.prog prim lvs (n+1) QC [x0]=Jq (run Tryz.prog prim lvs n) x0:=
 (Zt hp (by kernel_rfl) Tryz.func142 (by kernel_rfl)).trans (Wi _ x0)
noncomputable def JH.l1 (Γ : Zd) (s0 s1 s5 s6 s7 s8 s9 s10 : Value) : M Out:=
 bind (bop .int .lss s8 s9) fun y23=>
 cnd y23
 (bind (ixs s0 s8) fun y24=>
 bind (bop .int .neq y24 s6) fun y25=>
 jn (cnd y25
 (bind (bop .int .add s8 (Value.int .i64 1)) fun y26=>
 bind (sls s0 (some y26) (some s9)) fun y27=>
 bind (Γ Q4 [y27,s6]) fun y28=>
 bind (bop .int .lss y28 (Value.int .i64 0)) fun y29=>
 cnd y29
 (ret (.ret (Value.int .i64 (-1))))
 (bind (bop .int .add y28 (Value.int .i64 1)) fun y30=>
 bind (bop .int .add s8 y30) fun y31=>
 ret (.nrm [s0,s1,s5,s6,s7,y31,s9,s10])))
 (ret (.nrm [s0,s1,s5,s6,s7,s8,s9,s10]))) (c8 fun q32_0 q32_1 q32_2 q32_3 q32_4 q32_5 q32_6 q32_7=>
 bind (bop .int .add q32_5 (Value.int .i64 1)) fun y33=>
 bind (ixs q32_0 y33) fun y34=>
 bind (bop .int .eql y34 q32_4) fun y35=>
 bind (ZO y35 true 8 (bind (bop .int .add q32_5 q32_2) fun y36=>
 bind (sls q32_0 (some q32_5) (some y36)) fun y37=>
 bind (bop .str .eql y37 q32_1) fun y38=>
 ret [q32_0,q32_5,q32_5,q32_2,y36,y37,q32_1,y38])) (c8 fun _ _ _ _ _ _ _ q39_7=>
 bind (pick y35 q39_7 (Value.bool false)) fun y40=>
 cnd y40
 (ret (.ret q32_5))
 (bind (bop .int .add q32_5 (Value.int .i64 1)) fun y41=>
 bind (bop .int .add q32_7 (Value.int .i64 1)) fun y42=>
 bind (ld1 (Value.pointer (some ⟨0,0,none⟩))) fun y43=>
 bind (bop .int .leq q32_2 y43) fun y44=>
 bind (ZO y44 true 4 (bind (Γ Zda [y41]) fun y45=>
 bind (bop .int .gtr y42 y45) fun y46=>
 ret [y42,y41,y45,y46])) (c4 fun _ _ _ q47_3=>
 bind (pick y44 q47_3 (Value.bool false)) fun y48=>
 cnd y48
 (bind (sls q32_0 (some y41) none) fun y49=>
 bind (Γ Wh [y49,q32_1]) fun y50=>
 bind (bop .int .geq y50 (Value.int .i64 0)) fun y51=>
 cnd y51
 (bind (bop .int .add y50 y41) fun y52=>
 ret (.ret y52))
 (ret (.ret (Value.int .i64 (-1)))))
 (bind (ld1 (Value.pointer (some ⟨0,0,none⟩))) fun y53=>
 bind (bop .int .gtr q32_2 y53) fun y54=>
 bind (ZO y54 true 5 (bind (bop .int .shr y41 (Value.int .u64 4)) fun y55=>
 bind (bop .int .add (Value.int .i64 4) y55) fun y56=>
 bind (bop .int .geq y42 y56) fun y57=>
 ret [y42,y41,y55,y56,y57])) (c5 fun _ _ _ _ q58_4=>
 bind (pick y54 q58_4 (Value.bool false)) fun y59=>
 bind (ZO y59 true 3 (bind (bop .int .lss y41 q32_6) fun y60=>
 ret [y41,q32_6,y60])) (c3 fun _ _ q61_2=>
 bind (pick y59 q61_2 (Value.bool false)) fun y62=>
 cnd y62
 (bind (sls q32_0 (some y41) none) fun y63=>
 bind (Γ WV [y63,q32_1]) fun y64=>
 bind (bop .int .lss y64 (Value.int .i64 0)) fun y65=>
 cnd y65
 (ret (.ret (Value.int .i64 (-1))))
 (bind (bop .int .add y41 y64) fun y66=>
 ret (.ret y66)))
 (ret (.nrm [q32_0,q32_1,q32_2,q32_3,q32_4,y41,q32_6,y42]))))))))) noX QH)
 (ret (.ext 1 []))
noncomputable def JH (Γ : Zd) (x0 x1 : Value) : M Value:=
 bind (JT x1) fun y1=>
 bind (bop .int .eql y1 (Value.int .i64 0)) fun y2=>
 bind (ZO y2 false 3 (bind (bop .str .eql x1 x0) fun y3=>
 ret [x1,x0,y3])) (c3 fun _ _ q4_2=>
 bind (pick y2 (Value.bool true) q4_2) fun y5=>
 cnd y5
 (ret (Value.int .i64 0))
 (bind (bop .int .eql y1 (Value.int .i64 1)) fun y6=>
 cnd y6
 (bind (ixs x1 (Value.int .i64 0)) fun y7=>
 bind (Γ Q4 [x0,y7]) fun y8=>
 ret y8)
 (bind (JT x0) fun y9=>
 bind (bop .int .geq y1 y9) fun y10=>
 cnd y10
 (ret (Value.int .i64 (-1)))
 (bind (ld1 (Value.pointer (some ⟨0,0,none⟩))) fun y11=>
 bind (bop .int .leq y1 y11) fun y12=>
 bind (ZO y12 true 3 (bind (JT x0) fun y13=>
 bind (bop .int .leq y13 (Value.int .i64 64)) fun y14=>
 ret [x0,y13,y14])) (c3 fun _ _ q15_2=>
 bind (pick y12 q15_2 (Value.bool false)) fun y16=>
 cnd y16
 (bind (Γ Wh [x0,x1]) fun y17=>
 ret y17)
 (bind (ixs x1 (Value.int .i64 0)) fun y18=>
 bind (ixs x1 (Value.int .i64 1)) fun y19=>
 bind (JT x0) fun y20=>
 bind (bop .int .sub y20 y1) fun y21=>
 bind (bop .int .add y21 (Value.int .i64 1)) fun y22=>
 jn (Zj (c8 (JH.l1 Γ)) [x0,x1,y1,y18,y19,(Value.int .i64 0),y22,(Value.int .i64 0)]) noN (xk 1 (c0 (ret (Value.int .i64 (-1)))) noX) ret))))))
theorem Zca (Γ : Zd) (x0 x1 : Value) : ZG Tryz.prog Γ Tryz.f144 Wu [x0,x1]=JH Γ x0 x1:=by kernel_rfl
theorem ZbT {prim : FuncId→Option (List Value→M Value)} (hp : prim Qy=none) (n : Nat) (x0 x1 : Value) : run Tryz.prog prim lvs (n+1) Qy [x0,x1]=JH (run Tryz.prog prim lvs n) x0 x1:=
 (Zt hp (by kernel_rfl) Tryz.func144 (by kernel_rfl)).trans (Zca _ x0 x1)
noncomputable def Wo.l1 (Γ : Zd) (s0 s1 s5 : Value) : M Out:=
 bind (Γ Kv [s0,s1]) fun y9=>
 bind (bop .int .eql y9 (Value.int .i64 (-1))) fun y10=>
 cnd y10
 (ret (.ret s5))
 (bind (bop .int .add s5 (Value.int .i64 1)) fun y11=>
 bind (JT s1) fun y12=>
 bind (bop .int .add y9 y12) fun y13=>
 bind (sls s0 (some y13) none) fun y14=>
 ret (.nrm [y14,s1,y11]))
noncomputable def Wo (Γ : Zd) (x0 x1 : Value) : M Value:=
 bind (JT x1) fun y1=>
 bind (bop .int .eql y1 (Value.int .i64 0)) fun y2=>
 cnd y2
 (bind (Γ Zbt [x0]) fun y3=>
 bind (bop .int .add y3 (Value.int .i64 1)) fun y4=>
 ret y4)
 (bind (JT x1) fun y5=>
 bind (bop .int .eql y5 (Value.int .i64 1)) fun y6=>
 cnd y6
 (bind (ixs x1 (Value.int .i64 0)) fun y7=>
 bind (Γ J1 [x0,y7]) fun y8=>
 ret y8)
 (jn (Zj (c3 (Wo.l1 Γ)) [x0,x1,(Value.int .i64 0)]) noN noX ret))
theorem ZhU (Γ : Zd) (x0 x1 : Value) : ZG Tryz.prog Γ Tryz.f146 ZdD [x0,x1]=Wo Γ x0 x1:=by kernel_rfl
theorem ZhF {prim : FuncId→Option (List Value→M Value)} (hp : prim Wg=none) (n : Nat) (x0 x1 : Value) : run Tryz.prog prim lvs (n+1) Wg [x0,x1]=Wo (run Tryz.prog prim lvs n) x0 x1:=
 (Zt hp (by kernel_rfl) Tryz.func146 (by kernel_rfl)).trans (ZhU _ x0 x1)
noncomputable def ZbY (Γ : Zd) (x0 x1 : Value) : M Value:=
 bind (Γ Qy [x0,x1]) fun y1=>
 ret y1
theorem ZiB (Γ : Zd) (x0 x1 : Value) : ZG Tryz.prog Γ Tryz.f147 ZdA [x0,x1]=ZbY Γ x0 x1:=by kernel_rfl
theorem Zhp {prim : FuncId→Option (List Value→M Value)} (hp : prim Kv=none) (n : Nat) (x0 x1 : Value) : run Tryz.prog prim lvs (n+1) Kv [x0,x1]=ZbY (run Tryz.prog prim lvs n) x0 x1:=
 (Zt hp (by kernel_rfl) Tryz.func147 (by kernel_rfl)).trans (ZiB _ x0 x1)
noncomputable def ZP.l2 (Γ : Zd) (s0 s1 s2 s3 s8 s9 : Value) : M Out:=
 bind (bop .int .gtr s9 s1) fun y3=>
 bind (ZJ y3 true (ret s3)) fun y4=>
 bind (ZJ y3 true (ret s0)) fun y5=>
 bind (ZJ y3 true (ret s9)) fun y6=>
 bind (ZJ y3 true (ixa 1 y5 y6)) fun y7=>
 bind (ZJ y3 true (ld1 y7)) fun y8=>
 bind (ZJ y3 true (ret s0)) fun y9=>
 bind (ZJ y3 true (ret s9)) fun y10=>
 bind (ZJ y3 true (bop .int .sub y10 (Value.int .i64 1))) fun y11=>
 bind (ZJ y3 true (ixa 1 y9 y11)) fun y12=>
 bind (ZJ y3 true (ld1 y12)) fun y13=>
 bind (ZJ y3 true (Yz Γ y4 [y8,y13])) fun y14=>
 bind (ZJ y3 true (bop .int .lss y14 (Value.int .i64 0))) fun y15=>
 bind (pick y3 y15 (Value.bool false)) fun y16=>
 cnd y16
 (bind (bop .int .sub s9 (Value.int .i64 1)) fun y17=>
 bind (bop .int .sub s9 (Value.int .i64 1)) fun y18=>
 bind (ixa 1 s0 y18) fun y19=>
 bind (ld1 y19) fun y20=>
 bind (ixa 1 s0 s9) fun y21=>
 bind (ld1 y21) fun y22=>
 bind (ixa 1 s0 s9) fun y23=>
 bind (st1 y23 y20) fun _=>
 bind (ixa 1 s0 y17) fun y24=>
 bind (st1 y24 y22) fun _=>
 bind (bop .int .sub s9 (Value.int .i64 1)) fun y25=>
 ret (.nrm [s0,s1,s2,s3,s8,y25]))
 (ret (.ext 2 [s0,s1,s2,s3,s8]))
noncomputable def ZP.l1 (Γ : Zd) (s0 s1 s2 s3 s8 : Value) : M Out:=
 bind (bop .int .lss s8 s2) fun y2=>
 cnd y2
 (jn (Zj (c6 (ZP.l2 Γ)) [s0,s1,s2,s3,s8,s8]) noN (xk 2 (c5 fun q27_0 q27_1 q27_2 q27_3 q27_4=>
 bind (bop .int .add q27_4 (Value.int .i64 1)) fun y28=>
 ret (.nrm [q27_0,q27_1,q27_2,q27_3,y28])) noX) QH)
 (ret (.ext 0 []))
noncomputable def ZP (Γ : Zd) (x0 x1 x2 x3 : Value) : M Value:=
 bind (bop .int .add x1 (Value.int .i64 1)) fun y1=>
 jn (Zj (c5 (ZP.l1 Γ)) [x0,x1,x2,x3,y1]) noN (xk 0 (c0 (ret (Value.tuple #[]))) noX) ret
theorem Zak (Γ : Zd) (x0 x1 x2 x3 : Value) : ZG Tryz.prog Γ Tryz.f148 Kb [x0,x1,x2,x3]=ZP Γ x0 x1 x2 x3:=by kernel_rfl
theorem W1 {prim : FuncId→Option (List Value→M Value)} (hp : prim QD=none) (n : Nat) (x0 x1 x2 x3 : Value) : run Tryz.prog prim lvs (n+1) QD [x0,x1,x2,x3]=ZP (run Tryz.prog prim lvs n) x0 x1 x2 x3:=
 (Zt hp (by kernel_rfl) Tryz.func148 (by kernel_rfl)).trans (Zak _ x0 x1 x2 x3)
noncomputable def Zbj (Γ : Zd) (x0 : Value) : M Value:=
 bind (bop .int .geq x0 (Value.int .u64 4294967296)) fun y1=>
 jn (cnd y1
 (bind (bop .int .shr x0 (Value.int .u64 32)) fun y2=>
 ret (.nrm [y2,(Value.int .i64 32)]))
 (ret (.nrm [x0,(Value.int .i64 0)]))) (c2 fun q3_0 q3_1=>
 bind (bop .int .geq q3_0 (Value.int .u64 65536)) fun y4=>
 jn (cnd y4
 (bind (bop .int .shr q3_0 (Value.int .u64 16)) fun y5=>
 bind (bop .int .add q3_1 (Value.int .i64 16)) fun y6=>
 ret (.nrm [y5,y6]))
 (ret (.nrm [q3_0,q3_1]))) (c2 fun q7_0 q7_1=>
 bind (bop .int .geq q7_0 (Value.int .u64 256)) fun y8=>
 jn (cnd y8
 (bind (bop .int .shr q7_0 (Value.int .u64 8)) fun y9=>
 bind (bop .int .add q7_1 (Value.int .i64 8)) fun y10=>
 ret (.nrm [y9,y10]))
 (ret (.nrm [q7_0,q7_1]))) (c2 fun q11_0 q11_1=>
 bind (cvi .u8 q11_0) fun y12=>
 bind (ixs (Value.string ⟨#[0,1,2,2,3,3,3,3,4,4,4,4,4,4,4,4,5,5,5,5,5,5,5,5,5,5,5,5,5,5,5,5,6,6,6,6,6,6,6,6,6,6,6,6,6,6,6,6,6,6,6,6,6,6,6,6,6,6,6,6,6,6,6,6,7,7,7,7,7,7,7,7,7,7,7,7,7,7,7,7,7,7,7,7,7,7,7,7,7,7,7,7,7,7,7,7,7,7,7,7,7,7,7,7,7,7,7,7,7,7,7,7,7,7,7,7,7,7,7,7,7,7,7,7,7,7,7,7,8,8,8,8,8,8,8,8,8,8,8,8,8,8,8,8,8,8,8,8,8,8,8,8,8,8,8,8,8,8,8,8,8,8,8,8,8,8,8,8,8,8,8,8,8,8,8,8,8,8,8,8,8,8,8,8,8,8,8,8,8,8,8,8,8,8,8,8,8,8,8,8,8,8,8,8,8,8,8,8,8,8,8,8,8,8,8,8,8,8,8,8,8,8,8,8,8,8,8,8,8,8,8,8,8,8,8,8,8,8,8,8,8,8,8,8,8,8,8,8,8,8,8,8,8,8,8,8]⟩) y12) fun y13=>
 bind (cvi .i64 y13) fun y14=>
 bind (bop .int .add q11_1 y14) fun y15=>
 ret y15) noX ret) noX ret) noX ret
theorem ZhP (Γ : Zd) (x0 : Value) : ZG Tryz.prog Γ Tryz.f157 Zc3 [x0]=Zbj Γ x0:=by kernel_rfl
theorem ZgW {prim : FuncId→Option (List Value→M Value)} (hp : prim WQ=none) (n : Nat) (x0 : Value) : run Tryz.prog prim lvs (n+1) WQ [x0]=Zbj (run Tryz.prog prim lvs n) x0:=
 (Zt hp (by kernel_rfl) Tryz.func157 (by kernel_rfl)).trans (ZhP _ x0)
noncomputable def YI (Γ : Zd) (x0 x1 : Value) : M Value:=
 bind (Γ Jw [x0,x1]) fun y1=>
 ret y1
theorem Za8 (Γ : Zd) (x0 x1 : Value) : ZG Tryz.prog Γ Tryz.f159 KN [x0,x1]=YI Γ x0 x1:=by kernel_rfl
theorem ZaR {prim : FuncId→Option (List Value→M Value)} (hp : prim Q4=none) (n : Nat) (x0 x1 : Value) : run Tryz.prog prim lvs (n+1) Q4 [x0,x1]=YI (run Tryz.prog prim lvs n) x0 x1:=
 (Zt hp (by kernel_rfl) Tryz.func159 (by kernel_rfl)).trans (Za8 _ x0 x1)
end Go.Proofs.YtnnehafmjfmbnaaGreatDoor.A

namespace Go.Proofs.YtnnehafmjfmbnaaGreatDoor.A
set_option linter.unusedVariables false
set_option linter.unusedSimpArgs false
open Go.Sort
section
variable {P : Program} {w0 : ZY} {ι : Nat→Option Loc} {H H1 : Zc} {w w' : World} {v : Value} {G : Nat}
def ZfT (args : List Value) : M Value:=fun H=>
 match args with
 | [.map none]=>some (.map none,H)
 | [.map (some id)]=>match H[id]? with
  | some (.map es clk)=>some (.map (some H.length),H++[.map es clk])
  | some (.mapU es)=>some (.map (some H.length),H++[.mapU es])
  | _=>none
 | _=>none
structure Zc4 (P : Program) (g : FuncId) : Prop where
 c : WW P g
 nil : ∀ w,Calls P g #[.map none] w fun e w'=>e=.returned (.map none)∧w'=w
 some : ∀ b es clock w,w.heap[b]?=some (.map es clock)→Calls P g #[.map (some b)] w fun e w'=>e=.returned (.map (some w.heap.size))∧w'=w.alloc (.map es clock)
theorem ZdH {g : FuncId} (hC : Zc4 P g) : Zb5 P G w0 g ZfT:=by
 intro args H v H1 h
 refine .inl ⟨hC.c,fun ι w args' hS hr=>?_⟩
 unfold ZfT at h
 split at h
 ·cases h
  obtain ⟨x,r,rfl,hx,hr2⟩:=hr.cons_inv
  rw [hr2.nil_inv,hx.scalar_inv rfl]
  refine (hC.nil w).mono fun e w' ⟨he,hw⟩=>⟨ι,_,.refl ι,he,.sc rfl,by rw [hw];exact hS⟩
 ·obtain ⟨x,r,rfl,hx,hr2⟩:=hr.cons_inv
  obtain ⟨l,hl,rfl⟩:=hx.map_inv
  rw [hr2.nil_inv]
  split at h
  ·rename_i id _ es clk hid
   cases h
   obtain ⟨en,hb,hge,hE⟩:=hS.mapR hid hl
   refine (hC.some l.blk en clk w hb).mono fun e w' ⟨he,hw⟩=>?_
   have hnew:=hS.new (x:=.map es clk) (l:=⟨w.heap.size,0,0,0,false⟩) (.map en clk) rfl ⟨_,en,Z3 _ _ _,Za1 w _,hS.size,hE.mono (Jm hS _)⟩
   exact ⟨_,_,Jm hS _,he,.mp (Z3 _ _ _),by rw [hw];exact hnew⟩
  ·rename_i id _ es hid
   cases h
   obtain ⟨en,clk,es2,hb,hge,hE,hp⟩:=hS.mapUR hid hl
   refine (hC.some l.blk en clk w hb).mono fun e w' ⟨he,hw⟩=>?_
   have hnew:=hS.new (x:=.mapU es) (l:=⟨w.heap.size,0,0,0,false⟩) (.map en clk) rfl ⟨_,en,clk,es2,Z3 _ _ _,Za1 w _,hS.size,hE.mono (Jm hS _),hp⟩
   exact ⟨_,_,Jm hS _,he,.mp (Z3 _ _ _),by rw [hw];exact hnew⟩
  ·cases h
 ·cases h
abbrev JI (ks : List (List UInt8)) : List (List UInt8):=ks.mergeSort leB
structure Zdd (es : List (Value × Value × Nat)) (ks : List (List UInt8)) : Prop where
 keys : es.map (·.1)=ks.map strv
 nod : ks.Nodup
 few : ks.length≤1000000
 len : ∀ k∈ks,k.length≤1000000
theorem Zhk {a b : List UInt8} (h : strv a=strv b) : a=b:=by simpa [strv] using h
theorem Zlo {a b : List (List UInt8)} (h : a.map strv=b.map strv) : a=b:=by
 have : Function.Injective strv:=fun _ _ h=>Zhk h
 exact (List.map_inj_right (fun _ _ h=>Zhk h)).1 h
def Zd0 (ks : List (List UInt8)) (H : Zc) : Option (Value × Zc):=
 if ks=[] then some (.slice none 0 0,H)
 else some (.slice (some ⟨H.length,0,none⟩) ks.length ks.length,H++[.cells ((JI ks).map strv) 1 true false])
open Classical in
noncomputable def Za9 (gks : List FuncId) (gc : FuncId) (args : List Value) : M Value:=fun H=>
 if h : ∃ gk c id es ks,gk∈gks∧args=[.func (.func gk) #[] #[pt c],.func (.func gc) #[] #[]]∧(∃ e,H[c]?=some (.cells [.map (some id)] e false false))∧Zdd es ks∧((∃ clk,H[id]?=some (.map es clk)∧WG es clk)∨H[id]?=some (.mapU es)) then
  Zd0 (Classical.choose (Classical.choose_spec (Classical.choose_spec (Classical.choose_spec (Classical.choose_spec h))))) H
 else none
theorem Zk4 {gks : List FuncId} {gc gk : FuncId} {c id e : Nat} {es : List (Value × Value × Nat)} {ks : List (List UInt8)} (hg : gk∈gks) (hc : H[c]?=some (.cells [.map (some id)] e false false)) (hk : Zdd es ks)
  (hm : (∃ clk,H[id]?=some (.map es clk)∧WG es clk)∨H[id]?=some (.mapU es)) : Za9 gks gc [.func (.func gk) #[] #[pt c],.func (.func gc) #[] #[]] H=Zd0 ks H:=by
 have hex : ∃ gk' c' id' es' ks',gk'∈gks∧[Value.func (.func gk) #[] #[pt c],.func (.func gc) #[] #[]]=[.func (.func gk') #[] #[pt c'],.func (.func gc) #[] #[]]∧(∃ e,H[c']?=some (.cells [.map (some id')] e false false))∧Zdd es' ks'∧((∃ clk,H[id']?=some (.map es' clk)∧WG es' clk)∨H[id']?=some (.mapU es')):=
  ⟨gk,c,id,es,ks,hg,rfl,⟨e,hc⟩,hk,hm⟩
 unfold Za9
 rw [dif_pos hex]
 congr 1
 obtain ⟨_,h2,⟨e',h3⟩,h4,h5⟩:=Classical.choose_spec (Classical.choose_spec (Classical.choose_spec (Classical.choose_spec (Classical.choose_spec hex))))
 generalize Classical.choose (Classical.choose_spec (Classical.choose_spec (Classical.choose_spec (Classical.choose_spec hex))))=ks' at h4 ⊢
 generalize Classical.choose (Classical.choose_spec (Classical.choose_spec (Classical.choose_spec hex)))=es' at h4 h5
 generalize Classical.choose (Classical.choose_spec (Classical.choose_spec hex))=id' at h3 h5
 generalize Classical.choose (Classical.choose_spec hex)=c' at h2 h3
 have ec : c=c':=by simp at h2;exact h2.2
 subst ec
 rw [hc] at h3
 have ei : id=id':=by simp at h3;exact h3.1
 subst ei
 have ees : es'=es:=by
  rcases hm with ⟨clk,h6,_⟩ | h6 <;> rcases h5 with ⟨clk',h7,_⟩ | h7 <;> rw [h6] at h7 <;> cases h7 <;> rfl
 subst ees
 exact Zlo (h4.keys.symm.trans hk.keys)
theorem ZoB {gks : List FuncId} {gc : FuncId} {args : List Value} (h : Za9 gks gc args H=some (v,H1)) :
  ∃ gk c id e es ks,gk∈gks∧args=[.func (.func gk) #[] #[pt c],.func (.func gc) #[] #[]]∧H[c]?=some (.cells [.map (some id)] e false false)∧Zdd es ks∧((∃ clk,H[id]?=some (.map es clk)∧WG es clk)∨H[id]?=some (.mapU es))∧Zd0 ks H=some (v,H1):=by
 have h0:=h
 unfold Za9 at h
 split at h
 ·rename_i hex
  obtain ⟨gk,c,id,es,ks,h1,rfl,⟨e,h3⟩,h4,h5⟩:=hex
  rw [Zk4 h1 h3 h4 h5] at h0
  exact ⟨gk,c,id,e,es,ks,h1,rfl,h3,h4,h5,h0⟩
 ·cases h
structure Zd4 (P : Program) (g gk gc : FuncId) : Prop where
 c : WW P g
 run : ∀ (w : World) (Bm b : Nat) (es : Array MapEntry) (clock : Nat) (ks : List (List UInt8)),Bm < w.heap.size→w.cell? ⟨Bm,0,none⟩=some (.map (some b))→w.heap[b]?=some (.map es clock)→es.toList.map (·.key)=ks.map strv→Go.MapKept.Stamped es clock→
  (∀ k∈ks,k.length≤1000000)→ks.length≤1000000→
  Calls P g #[.func (.func gk) #[] #[.pointer (some ⟨Bm,0,none⟩)],.func (.func gc) #[] #[]] w fun e w'=>∃ (v : Value) (t : TypeId),e=.returned v∧w'.ownsRow w.heap.size t 1 v ks.length ((JI ks).map strv)∧(v=.slice none 0 0↔ks=[])∧Go.RowKit.Below w.heap.size w w'
theorem Sim.below (h : Sim G w0 ι H w) (hb : Go.RowKit.Below w.heap.size w w') : Sim G w0 ι H w':=by
 refine ⟨fun i x hx=>(h.obj i x hx).blk fun l hl hd=>?_,h.inj,Nat.le_trans h.size hb.size,fun b hlt=>by rw [hb.block b (Nat.lt_of_lt_of_le hlt h.size)];exact h.old b hlt,h.dom,h.glob,?_,fun b hbp=>?_,fun j cs es nx l hj hl=>(h.views j cs es nx l hj hl).to (.refl ι) fun h1 ⟨c0,el0,fr0,hc0⟩=>⟨fun c el fr hc=>⟨fr,by rw [hb.block _ (Array.getElem?_eq_some_iff.1 hc0).1];exact hc⟩,h1⟩⟩
 ·obtain ⟨l',hl',hlt⟩:=(h.obj i x hx).loc hd
  rw [hl] at hl';cases hl'
  exact hb.block _ hlt
 ·rw [hb.os,hb.tape,hb.output];exact h.rest
 ·obtain ⟨p1,p2,p3⟩:=h.prot b hbp
  have hlt : b < w.heap.size:=by
   rcases Nat.lt_or_ge b w.heap.size with h1 | h1
   ·exact h1
   ·rw [Array.getElem?_eq_none h1] at p1;cases p1
  exact ⟨by rw [hb.block b hlt];exact p1,p2,p3⟩
theorem QR.keys {ι : Nat→Option Loc} : ∀ {es : List (Value × Value × Nat)} {en : List MapEntry},QR ι es en→en.map (·.key)=es.map (·.1)∧en.map (·.born)=es.map (·.2.2)
 | [],[],_=>⟨rfl,rfl⟩
 | e :: es,n :: ns,h=>by
  obtain ⟨h1,h2⟩:=QR.keys h.2
  exact ⟨by rw [List.map_cons,List.map_cons,h1,h.1.2.1],by rw [List.map_cons,List.map_cons,h2,h.1.2.2.2]⟩
 | [],_ :: _,h=>h.elim
 | _ :: _,[],h=>h.elim
theorem ZnX {a b : List (List UInt8)} (h : a.Perm b) : JI a=JI b:=mergeSort_of_perm h
theorem Zka (ks : List (List UInt8)) : (JI ks).length=ks.length:=List.length_mergeSort ks
theorem ZeD {ks : List (List UInt8)} (h : ks.Nodup) : (ks.map strv).Nodup:=by
 rw [List.nodup_iff_pairwise_ne] at h ⊢
 rw [List.pairwise_map]
 exact h.imp fun h e=>h (Zhk e)
theorem ZmD {gks : List FuncId} {g gc : FuncId} (hgks : gks≠[]) (hC : ∀ gk∈gks,Zd4 P g gk gc) : Zb5 P G w0 g (Za9 gks gc):=by
 intro args H v H1 h
 have hcall : WW P g:=by
  cases gks with
  | nil=>exact absurd rfl hgks
  | cons a l=>exact (hC a (by simp)).c
 refine .inl ⟨hcall,fun ι w args' hS hr=>?_⟩
 obtain ⟨gk,c,id,e,es,ks,hg,rfl,hc,hk,hm,ho⟩:=ZoB h
 obtain ⟨x,r,rfl,hx,hr2⟩:=hr.cons_inv
 obtain ⟨y,r,rfl,hy,hr3⟩:=hr2.cons_inv
 rw [hr3.nil_inv]
 obtain ⟨a1,b1,rfl,ha1,hb1⟩:=hx.fn_inv
 obtain ⟨a2,b2,rfl,ha2,hb2⟩:=hy.fn_inv
 have ea1 : a1=#[]:=by have:=ha1.nil_inv;simpa using this
 have ea2 : a2=#[]:=by have:=ha2.nil_inv;simpa using this
 have eb2 : b2=#[]:=by have:=hb2.nil_inv;simpa using this
 obtain ⟨p',q',eb1,hp',hq'⟩:=hb1.cons_inv
 have:=hq'.nil_inv
 subst this
 obtain ⟨lc,hlc,rfl⟩:=hp'.ptr_inv
 have eb1 : b1=#[.pointer (some ⟨lc.blk,lc.base+0,none⟩)]:=by
  apply Array.ext'
  simpa using eb1
 subst ea1
 subst ea2
 subst eb2
 subst eb1
 obtain ⟨cc,el,fr,_,hgrow,hbc,hb5,hb6,hrc,hro,_⟩:=hS.cellsR hc hlc
 have hbase : lc.base=0:=(hro rfl).2.2 hgrow
 have hbl : lc.blk < w.heap.size:=by
  rcases Nat.lt_or_ge lc.blk w.heap.size with h1 | h1
  ·exact h1
  ·rw [Array.getElem?_eq_none h1] at hbc;cases hbc
 obtain ⟨u,hu1,hu2⟩:=hrc.at (o:=0) (by simp)
 obtain ⟨lm,hlm,hu3⟩:=RV.map_inv (id:=id) hu2
 subst hu3
 have hcell : w.cell? ⟨lc.blk,0,none⟩=some (.map (some lm.blk)):=by
  rw [ZcI hbc]
  simpa [hbase] using hu1
 obtain ⟨en,clock,ks',hmb,hkeys,hst,hperm⟩ : ∃ (en : Array MapEntry) (clock : Nat) (ks' : List (List UInt8)),w.heap[lm.blk]?=some (.map en clock)∧en.toList.map (·.key)=ks'.map strv∧Go.MapKept.Stamped en clock∧ks'.Perm ks:=by
  rcases hm with ⟨clk,hid,hst⟩ | hid
  ·obtain ⟨en,hb,_,hE⟩:=hS.mapR hid hlm
   obtain ⟨k1,k2⟩:=QR.keys hE
   refine ⟨en,clk,ks,hb,k1.trans hk.keys,⟨fun x hx=>?_,by rw [k2];exact hst.nod,by rw [k1,hk.keys];exact ZeD hk.nod⟩,.refl _⟩
   have : x.born∈en.toList.map (·.born):=List.mem_map.2 ⟨x,hx,rfl⟩
   rw [k2] at this
   obtain ⟨e',h1,h2⟩:=List.mem_map.1 this
   rw [← h2];exact hst.lt e' h1
  ·obtain ⟨en,clk,es2,hb,_,hE,hp⟩:=hS.mapUR hid hlm
   obtain ⟨k1,k2⟩:=QR.keys hE
   have hpk : (es2.map (·.1)).Perm (es.map (·.1)):=by
    have:=hp.perm.map (·.1)
    rwa [Zcb,Zcb] at this
   obtain ⟨ks2,hks2⟩ : ∃ ks2 : List (List UInt8),es2.map (·.1)=ks2.map strv:=by
    refine ⟨es2.map fun e=>match e.1 with | .string s=>s.data.toList | _=>[],?_⟩
    rw [List.map_map]
    refine List.map_congr_left fun e he=>?_
    obtain ⟨s,hs⟩:=hp.strs e he
    simp [hs,strv]
   rw [hks2,hk.keys] at hpk
   have hpk2 : ks2.Perm ks:=by
    have h3:=hpk.map fun v : Value=>match v with | .string s=>s.data.toList | _=>([] : List UInt8)
    simpa [List.map_map,Function.comp_def,strv] using h3
   refine ⟨en,clk,ks2,hb,k1.trans hks2,⟨fun x hx=>?_,by rw [k2];exact hp.st.nod,by rw [k1];exact hp.nod2⟩,hpk2⟩
   have : x.born∈en.toList.map (·.born):=List.mem_map.2 ⟨x,hx,rfl⟩
   rw [k2] at this
   obtain ⟨e',h1,h2⟩:=List.mem_map.1 this
   rw [← h2];exact hp.st.lt e' h1
 have hfew:=hk.few
 have hcon:=(hC gk hg).run w lc.blk lm.blk en clock ks' hbl hcell hmb hkeys hst (fun k hm=>hk.len k (hperm.mem_iff.1 hm)) (by rw [hperm.length_eq];exact hfew)
 rw [ZnX hperm,hperm.length_eq] at hcon
 simp only [Nat.add_zero,hbase]
 refine hcon.mono fun ee w' ⟨v',t,he,hrow,hnil,hb⟩=>?_
 have hnil2 : v'=.slice none 0 0↔ks=[]:=by
  rw [hnil]
  constructor
  ·rintro rfl;exact List.eq_nil_of_length_eq_zero (by rw [← hperm.length_eq];rfl)
  ·rintro rfl;exact List.eq_nil_of_length_eq_zero (by rw [hperm.length_eq];rfl)
 have hS':=hS.below hb
 unfold Zd0 at ho
 by_cases h0 : ks=[]
 ·rw [if_pos h0] at ho
  cases ho
  exact ⟨ι,_,.refl ι,he,by rw [hnil2.2 h0];exact .sc rfl,hS'⟩
 ·rw [if_neg h0] at ho
  cases ho
  rcases hrow.2 with ⟨hv,_⟩ | ⟨gb,cap,cur,rfl,hge,hgb,r1,r2,r3,r4⟩
  ·exact absurd (hnil2.1 hv) h0
  have hlen : ((JI ks).map strv).length=ks.length:=by rw [List.length_map,Zka]
  rw [Nat.mul_one] at r3 r4
  have hadd:=hS'.add (o:=.cells ((JI ks).map strv) 1 true false) (l:=⟨gb,0,cap,1,true⟩) ⟨⟨gb,0,cap,1,true⟩,cur,t,(0,0),Z3 _ _ _,rfl,rfl,hgb,by show 0+_≤cap;omega,by show cap≤cur.size;omega,by
   show RVs _ _ ((cur.toList.drop 0).take _)
   rw [List.drop_zero,hlen,r4]
   refine ⟨rfl,fun i hi=>?_⟩
   rw [List.getD_eq_getElem?_getD,List.getElem?_eq_getElem hi]
   simp only [List.getElem_map,Option.getD_some]
   exact .sc rfl,fun _=>⟨Nat.le_trans hS.size hge,.inl rfl,fun h=>by cases h⟩,by simp,fun x hx=>by
   obtain ⟨k,_,rfl⟩:=List.mem_map.1 hx
   rfl⟩ (fun i oi li hi hw hl=>by
   have:=((hS.obj i oi hi).newer hw li hl).2
   show li.blk≠gb
   omega) (fun b hbp=>by
   have p1:=(hS.prot b hbp).1
   show gb≠b
   rintro rfl
   rw [Array.getElem?_eq_none hge] at p1;cases p1) (fun _ j cs es nx lj hj hlj hbe=>by
   rcases hS.views j cs es nx lj hj hlj with ⟨l',k1,k2⟩ | ⟨⟨c,el,fr,k1,_⟩,_⟩
   ·exact ⟨l',k1,k2⟩
   ·have:=(Array.getElem?_eq_some_iff.1 k1).1
    have hbe : lj.blk=gb:=hbe
    omega)
  refine ⟨_,_,Jm hS' _,he,?_,hadd⟩
  have:=RV.slc (ι:=Yf ι H.length ⟨gb,0,cap,1,true⟩) (id:=H.length) (o:=0) (n:=ks.length) (c:=ks.length) (c':=cap) (Z3 _ _ _) (Nat.le_refl _) r1 (fun h=>by cases h) (by simp)
  simpa using this
end
end Go.Proofs.YtnnehafmjfmbnaaGreatDoor.A
namespace Go.Proofs.YtnnehafmjfmbnaaGreatDoor.A
set_option linter.unusedVariables false
set_option linter.unusedSimpArgs false
section
variable {α : Type}
def Ze (k : List UInt8) : List (List UInt8 × α)→Option α
 | []=>none
 | p :: m=>if p.1=k then some p.2 else Ze k m
def YA (k : List UInt8) (m : List (List UInt8 × α)) : List (List UInt8 × α):=m.filter fun p=>decide (p.1≠k)
def Qz (k : List UInt8) (v : α) (m : List (List UInt8 × α)) : List (List UInt8 × α):=
 if (Ze k m).isSome then m.map fun p=>if p.1=k then (k,v) else p else m++[(k,v)]
variable {k : List UInt8} {v : α} {m : List (List UInt8 × α)}
theorem Zdx : ∀ {m : List (List UInt8 × α)},Ze k m=none↔∀ p∈m,p.1≠k
 | []=>by simp [Ze]
 | p :: m=>by
  simp only [Ze]
  split
  ·rename_i h;simp [h]
  ·rename_i h
   rw [Zdx]
   simp [h]
theorem K6 : ∀ {m : List (List UInt8 × α)} {v : α},Ze k m=some v→(k,v)∈m
 | [],v,h=>by cases h
 | p :: m,v,h=>by
  simp only [Ze] at h
  split at h
  ·rename_i hp
   cases h
   subst hp
   simp
  ·exact List.mem_cons_of_mem _ (K6 h)
theorem Zax : ∀ {m : List (List UInt8 × α)} {v : α},(m.map (·.1)).Nodup→(k,v)∈m→Ze k m=some v
 | [],v,_,h=>by cases h
 | p :: m,v,hn,h=>by
  simp only [List.map_cons,List.nodup_cons,List.mem_map,not_exists,not_and] at hn
  simp only [Ze]
  rcases List.mem_cons.1 h with h | h
  ·subst h;rw [if_pos rfl]
  ·rw [if_neg fun e=>hn.1 _ h e.symm]
   exact Zax hn.2 h
theorem ZpS : ∀ {m : List (List UInt8 × α)} {v : α},Ze k m=some v→∃ j : Nat,m[j]?=some (k,v)
 | m,v,h=>List.getElem?_of_mem (K6 h)
theorem ZeQ : ∀ {m : List (List UInt8 × α)} {j : Nat} {v0 : α},(m.map (·.1)).Nodup→m[j]?=some (k,v0)→m.set j (k,v)=m.map fun p=>if p.1=k then (k,v) else p
 | [],j,v0,_,h=>by simp at h
 | p :: m,0,v0,hn,h=>by
  have : p=(k,v0):=by simpa using h
  subst this
  simp only [List.map_cons,List.nodup_cons,List.mem_map,not_exists,not_and] at hn
  simp only [List.set_cons_zero,List.map_cons,if_true]
  congr 1
  conv=>lhs;rw [← List.map_id m]
  refine List.map_congr_left fun q hq=>?_
  rw [if_neg (hn.1 q hq)];rfl
 | p :: m,j+1,v0,hn,h=>by
  have h' : m[j]?=some (k,v0):=by simpa using h
  simp only [List.map_cons,List.nodup_cons,List.mem_map,not_exists,not_and] at hn
  have hp : ¬ p.1=k:=fun e=>hn.1 (k,v0) (List.mem_of_getElem? h') e.symm
  simp only [List.set_cons_succ,List.map_cons,if_neg hp]
  rw [ZeQ hn.2 h']
theorem Zba : ∀ {m : List (List UInt8 × α)} {j : Nat} {v0 : α},(m.map (·.1)).Nodup→m[j]?=some (k,v0)→m.eraseIdx j=YA k m
 | [],j,v0,_,h=>by simp at h
 | p :: m,0,v0,hn,h=>by
  have : p=(k,v0):=by simpa using h
  subst this
  simp only [List.map_cons,List.nodup_cons,List.mem_map,not_exists,not_and] at hn
  unfold YA
  rw [List.eraseIdx_cons_zero,List.filter_cons,if_neg (by simp)]
  symm
  rw [List.filter_eq_self]
  exact fun q hq=>decide_eq_true (hn.1 q hq)
 | p :: m,j+1,v0,hn,h=>by
  have h' : m[j]?=some (k,v0):=by simpa using h
  simp only [List.map_cons,List.nodup_cons,List.mem_map,not_exists,not_and] at hn
  have hp : ¬ p.1=k:=fun e=>hn.1 (k,v0) (List.mem_of_getElem? h') e.symm
  have ih:=Zba hn.2 h'
  unfold YA at ih ⊢
  rw [List.eraseIdx_cons_succ,List.filter_cons,if_pos (by simpa using hp),ih]
theorem ZjT (h : Ze k m=none) : YA k m=m:=by
 unfold YA
 rw [List.filter_eq_self]
 exact fun p hp=>decide_eq_true (Zdx.1 h p hp)
theorem Zib (h : (m.map (·.1)).Nodup) : ((Qz k v m).map (·.1)).Nodup:=by
 unfold Qz
 split
 ·rw [List.map_map]
  have : ((fun p : List UInt8 × α=>p.1) ∘ fun p=>if p.1=k then (k,v) else p)=fun p=>p.1:=by
   funext p
   simp only [Function.comp]
   split
   ·rename_i h;exact h.symm
   ·rfl
  rw [this];exact h
 ·rename_i hs
  have hn : Ze k m=none:=by cases e : Ze k m <;> simp_all
  rw [List.map_append,List.nodup_append]
  refine ⟨h,by simp,fun a ha b hb=>?_⟩
  have hb : b=k:=by simpa using hb
  obtain ⟨p,hp,rfl⟩:=List.mem_map.1 ha
  rw [hb];exact Zdx.1 hn p hp
theorem ZhT (h : (m.map (·.1)).Nodup) : ((YA k m).map (·.1)).Nodup:=(List.filter_sublist.map _).nodup h
end
theorem Zoj {a b : List UInt8} : ((⟨a.toArray⟩ : ByteArray)==⟨b.toArray⟩)=(a==b):=by
 rw [Zjb]
 simp
theorem ZcU {α : Type} {enc : α→Value} {k : List UInt8} : ∀ {es : List (Value × Value × Nat)} {m : List (List UInt8 × α)} (i : Nat),es.map kv=m.map (fun p=>(strv p.1,enc p.2))→
  (Ze k m=none∧Ji .str (strv k) es i=some none)∨∃ j v,m[j]?=some (k,v)∧Ze k m=some v∧Ji .str (strv k) es i=some (some (i+j,enc v))
 | [],[],i,_=>.inl ⟨rfl,rfl⟩
 | e :: es,p :: m,i,h=>by
  simp only [List.map_cons,List.cons.injEq,kv,Prod.mk.injEq] at h
  obtain ⟨⟨h1,h2⟩,h3⟩:=h
  have hs : WU .str (strv k) e.1=some (k==p.1):=by rw [h1];simp only [WU,strv,Zoj]
  simp only [Ji,hs,Ze]
  by_cases hk : p.1=k
  ·rw [show (k==p.1)=true by rw [hk];simp,if_pos hk]
   exact .inr ⟨0,p.2,by rw [← hk];rfl,rfl,by rw [h2];rfl⟩
  ·rw [show (k==p.1)=false by rw [beq_eq_false_iff_ne];exact Ne.symm hk,if_neg hk]
   rcases ZcU (i+1) h3 with ⟨h4,h5⟩ | ⟨j,v,h4,h5,h6⟩
   ·exact .inl ⟨h4,h5⟩
   ·exact .inr ⟨j+1,v,by simpa using h4,h5,by simp only;rw [h6];congr 3;omega⟩
 | [],_ :: _,_,h=>by cases h
 | _ :: _,[],_,h=>by cases h
theorem Zee {u : Value} : ∀ {es : List (Value × Value × Nat)} {j : Nat} {p : Value × Value},(es.map kv)[j]?=some p→(JU es j u).map kv=(es.map kv).set j (p.1,u)
 | [],j,p,h=>by simp at h
 | e :: es,0,p,h=>by
  have : kv e=p:=by simpa using h
  subst this
  simp [JU,kv]
 | e :: es,j+1,p,h=>by
  have:=Zee (u:=u) (es:=es) (j:=j) (p:=p) (by simpa using h)
  simp only [JU] at this
  simp only [JU,List.modify_succ_cons,List.map_cons,List.set_cons_succ,this]
section
variable {α : Type} {enc : α→Value} {H H' : Zc} {id : Nat} {m : List (List UInt8 × α)} {k : List UInt8} {v : α}
structure Js (enc : α→Value) (H : Zc) (id : Nat) (m : List (List UInt8 × α)) : Prop where
 ex : ∃ es,es.map kv=m.map (fun p=>(strv p.1,enc p.2))∧((∃ clk,H[id]?=some (.map es clk)∧WG es clk)∨H[id]?=some (.mapU es))
 nod : (m.map (·.1)).Nodup
theorem Js.lt (h : Js enc H id m) : id < H.length:=by
 obtain ⟨es,_,h1 | h1⟩:=h.ex
 ·obtain ⟨clk,h1,_⟩:=h1;exact Yv h1
 ·exact Yv h1
theorem Js.keep (h : Js enc H id m) (hk : H'[id]?=H[id]?) : Js enc H' id m:=by
 obtain ⟨es,h1,h2⟩:=h.ex
 exact ⟨⟨es,h1,by rw [hk];exact h2⟩,h.nod⟩
theorem Js.hle (h : Js enc H id m) (hl : HLe H H') : Js enc H' id m:=h.keep (hl.step.keep id h.lt (by simp))
theorem Js.step {o1 o2 : List Nat} (h : Js enc H id m) (hs : ZK o1 H o2 H') (hn : id∉o1) : Js enc H' id m:=h.keep (hs.keep id h.lt hn)
theorem Kw : okK .str (strv k)=true:=rfl
theorem Js.len (h : Js enc H id m) : lenM (.map (some id)) H=some (iv m.length,H):=by
 obtain ⟨es,h1,h2⟩:=h.ex
 have hl : es.length=m.length:=by have:=congrArg List.length h1;simpa using this
 unfold lenM
 rcases h2 with ⟨clk,h2,_⟩ | h2 <;> simp only [h2,hl]
theorem Js.lkp (h : Js enc H id m) {z : Value} {ok : Bool} : A.lkp .str z ok (.map (some id)) (strv k) H=
  some (match Ze k m with
   | some v=>bif ok then .tuple #[enc v,.bool true] else enc v
   | none=>bif ok then .tuple #[z,.bool false] else z,H):=by
 obtain ⟨es,h1,h2⟩:=h.ex
 unfold A.lkp
 rcases ZcU (k:=k) 0 h1 with ⟨h3,h4⟩ | ⟨j,v,h3,h4,h5⟩
 ·rcases h2 with ⟨clk,h2,_⟩ | h2 <;> simp only [h2,Kw,cond_true,h3,h4]
 ·rcases h2 with ⟨clk,h2,_⟩ | h2 <;> simp only [h2,Kw,cond_true,h4,h5]
theorem Js.mup (h : Js enc H id m) : ∃ H',A.mup .str (.map (some id)) (strv k) (enc v) H=some (undef,H')∧Js enc H' id (Qz k v m)∧ZK [id] H [id] H'∧H'.length=H.length:=by
 obtain ⟨es,h1,h2⟩:=h.ex
 have hst : ∀ o,ZK [id] H [id] (H.set id o):=fun o=>⟨by simp,fun j hj hn=>List.getElem?_set_ne (fun e=>hn (by simp [e])),fun j hj=>.inl hj⟩
 have hnod:=Zib (k:=k) (v:=v) h.nod
 have hget : ∀ {j : Nat} {v0 : α},m[j]?=some (k,v0)→(es.map kv)[j]?=some (strv k,enc v0):=fun hj=>by rw [h1,List.getElem?_map,hj];rfl
 rcases ZcU (k:=k) 0 h1 with ⟨h3,h4⟩ | ⟨j,v0,h3,h4,h5⟩
 ·have ha : Qz k v m=m++[(k,v)]:=by unfold Qz;rw [h3];rfl
  rw [ha] at hnod ⊢
  have hm : ∀ b,(es++[(strv k,enc v,b)]).map kv=(m++[(k,v)]).map fun p=>(strv p.1,enc p.2):=fun b=>by rw [List.map_append,List.map_append,h1];rfl
  rcases h2 with ⟨clk,h2,hs⟩ | h2
  ·refine ⟨H.set id (.map (es++[(strv k,enc v,clk)]) (clk+1)),?_,⟨⟨_,hm clk,.inl ⟨clk+1,Jc h2,⟨fun e he=>?_,?_⟩⟩⟩,hnod⟩,hst _,by simp⟩
   ·unfold A.mup;simp only [h2,Kw,cond_true,h4]
   ·rcases List.mem_append.1 he with he | he
    ·have:=hs.lt e he;omega
    ·have : e=(strv k,enc v,clk):=by simpa using he
     rw [this];exact Nat.lt_succ_self _
   ·rw [List.map_append,List.nodup_append]
    refine ⟨hs.nod,by simp,fun a ha b hb=>?_⟩
    have hb : b=clk:=by simpa using hb
    obtain ⟨e,he,rfl⟩:=List.mem_map.1 ha
    have:=hs.lt e he;omega
  ·refine ⟨H.set id (.mapU (es++[(strv k,enc v,0)])),?_,⟨⟨_,hm 0,.inr (Jc h2)⟩,hnod⟩,hst _,by simp⟩
   unfold A.mup;simp only [h2,Kw,cond_true,h4];rfl
 ·have ha : Qz k v m=m.set j (k,v):=by unfold Qz;rw [h4];exact (ZeQ h.nod h3).symm
  rw [ha] at hnod ⊢
  rw [Nat.zero_add] at h5
  have hm : (JU es j (enc v)).map kv=(m.set j (k,v)).map fun p=>(strv p.1,enc p.2):=by
   rw [Zee (hget h3),h1,List.map_set]
  rcases h2 with ⟨clk,h2,hs⟩ | h2
  ·refine ⟨H.set id (.map (JU es j (enc v)) clk),?_,⟨⟨_,hm,.inl ⟨clk,Jc h2,Zgu hs⟩⟩,hnod⟩,hst _,by simp⟩
   unfold A.mup;simp only [h2,Kw,cond_true,h5]
  ·refine ⟨H.set id (.mapU (JU es j (enc v))),?_,⟨⟨_,hm,.inr (Jc h2)⟩,hnod⟩,hst _,by simp⟩
   unfold A.mup;simp only [h2,Kw,cond_true,h5]
theorem Js.mde (h : Js enc H id m) : ∃ H',A.mde .str (.map (some id)) (strv k) H=some (.tuple #[],H')∧Js enc H' id (YA k m)∧ZK [id] H [id] H'∧H'.length=H.length:=by
 obtain ⟨es,h1,h2⟩:=h.ex
 have hst : ∀ o,ZK [id] H [id] (H.set id o):=fun o=>⟨by simp,fun j hj hn=>List.getElem?_set_ne (fun e=>hn (by simp [e])),fun j hj=>.inl hj⟩
 have hnod:=ZhT (k:=k) h.nod
 rcases ZcU (k:=k) 0 h1 with ⟨h3,h4⟩ | ⟨j,v0,h3,h4,h5⟩
 ·refine ⟨H,?_,by rw [ZjT h3];exact h,.refl _ _,rfl⟩
  unfold A.mde
  rcases h2 with ⟨clk,h2,hs⟩ | h2 <;> simp only [h2,Kw,cond_true,h4]
 ·have ha : YA k m=m.eraseIdx j:=(Zba h.nod h3).symm
  rw [ha] at hnod ⊢
  rw [Nat.zero_add] at h5
  have hm : (es.eraseIdx j).map kv=(m.eraseIdx j).map fun p=>(strv p.1,enc p.2):=by
   have hg : ∀ {β γ : Type} (f : β→γ) (l : List β) (j : Nat),(l.eraseIdx j).map f=(l.map f).eraseIdx j:=fun f l j=>by
    rw [List.eraseIdx_eq_take_drop_succ,List.eraseIdx_eq_take_drop_succ,List.map_append,List.map_take,List.map_drop]
   rw [hg,hg,h1]
  rcases h2 with ⟨clk,h2,hs⟩ | h2
  ·refine ⟨H.set id (.map (es.eraseIdx j) clk),?_,⟨⟨_,hm,.inl ⟨clk,Jc h2,⟨fun e he=>hs.lt e ((List.eraseIdx_sublist es j).subset he),((List.eraseIdx_sublist es j).map _).nodup hs.nod⟩⟩⟩,hnod⟩,hst _,by simp⟩
   unfold A.mde;simp only [h2,Kw,cond_true,h5]
  ·refine ⟨H.set id (.mapU (es.eraseIdx j)),?_,⟨⟨_,hm,.inr (Jc h2)⟩,hnod⟩,hst _,by simp⟩
   unfold A.mde;simp only [h2,Kw,cond_true,h5]
theorem Zne (H : Zc) : ∃ H',mkm H=some (.map (some H.length),H')∧Js enc H' H.length []∧HLe H H':=
 ⟨_,rfl,⟨⟨[],rfl,.inl ⟨0,ZZ,⟨by simp,by simp⟩⟩⟩,by simp⟩,.app _ _⟩
theorem Js.keys (h : Js enc H id m) {gks : List FuncId} {gc gk : FuncId} {c e : Nat} (hg : gk∈gks) (hc : H[c]?=some (.cells [.map (some id)] e false false)) (hf : m.length≤1000000) (hl : ∀ p∈m,p.1.length≤1000000) :
  ∃ v q H',Za9 gks gc [.func (.func gk) #[] #[pt c],.func (.func gc) #[] #[]] H=some (v,H')∧ZC H' v ((JI (m.map (·.1))).map strv) q∧HLe H H'∧∀ j∈q,H.length≤j:=by
 obtain ⟨es,h1,h2⟩:=h.ex
 have hk : Zdd es (m.map (·.1)):=⟨by
  have:=congrArg (List.map (·.1)) h1
  rw [Zcb] at this
  rw [this];simp [Function.comp_def],h.nod,by simpa using hf,fun k hk=>by
  obtain ⟨p,hp,rfl⟩:=List.mem_map.1 hk
  exact hl p hp⟩
 rw [Zk4 hg hc hk h2]
 unfold Zd0
 by_cases h0 : m.map (·.1)=[]
 ·rw [if_pos h0,h0]
  have hz : JI ([] : List (List UInt8))=[]:=List.mergeSort_nil
  rw [hz]
  exact ⟨_,[],_,rfl,ZC.nil,.refl _,by simp⟩
 ·rw [if_neg h0]
  refine ⟨_,[H.length],_,rfl,.inr ⟨H.length,[],true,?_,rfl,by simp⟩,.app _ _,by simp⟩
  simp [Zka]
end
end Go.Proofs.YtnnehafmjfmbnaaGreatDoor.A

namespace Go.Proofs.YtnnehafmjfmbnaaGreatDoor.A
set_option linter.unusedVariables false
set_option linter.unusedSimpArgs false
def ZeL (args : List Value) : M Value:=fun H=>
 match args with
 | [.string s,.int .u8 c]=>some (iv (Go.Lib.indexByte s.data.toList c.toNat.toUInt8),H)
 | _=>none
def Zes (args : List Value) : M Value:=fun H=>
 match args with
 | [.string s,.int .u8 c]=>some (iv (Go.Lib.countByte s.data.toList c.toNat.toUInt8),H)
 | _=>none
section
variable {P : Program} {G : Nat} {w0 : ZY}
theorem Zni {g : FuncId} (he : ZjL P g Extern.BytealgIndexByte.indexByte) : Zb5 P G w0 g ZeL:=by
 intro args H v H1 h
 refine .inr ⟨_,he,fun ι w args' hS hr=>?_⟩
 unfold ZeL at h
 split at h
 ·rename_i s c
  cases h
  obtain ⟨p',r',rfl,hp',hr'⟩:=hr.cons_inv
  obtain ⟨y',r2,rfl,hy',hr2⟩:=hr'.cons_inv
  have:=hr2.nil_inv;subst this
  have:=hy'.int_inv;subst this
  have:=hp'.scalar_inv rfl;subst this
  exact ⟨ι,_,w,.refl ι,hS,.sc rfl,Go.Lib.run_indexByteString s c w⟩
 ·cases h
theorem ZnA {g : FuncId} (he : ZjL P g Extern.BytealgCount.count) : Zb5 P G w0 g Zes:=by
 intro args H v H1 h
 refine .inr ⟨_,he,fun ι w args' hS hr=>?_⟩
 unfold Zes at h
 split at h
 ·rename_i s c
  cases h
  obtain ⟨p',r',rfl,hp',hr'⟩:=hr.cons_inv
  obtain ⟨y',r2,rfl,hy',hr2⟩:=hr'.cons_inv
  have:=hr2.nil_inv;subst this
  have:=hy'.int_inv;subst this
  have:=hp'.scalar_inv rfl;subst this
  exact ⟨ι,_,w,.refl ι,hS,.sc rfl,Go.Lib.run_countString s c w⟩
 ·cases h
end
theorem Zm6 (b : UInt8) : (b.toNat : Int).toNat.toUInt8=b:=by
 rw [Int.toNat_natCast]
 simp
theorem ZrG {s : List UInt8} {b : UInt8} {H : Zc} : ZeL [strv s,.int .u8 b.toNat] H=some (iv (Go.Lib.indexByte s b),H):=by
 unfold ZeL strv
 simp only [Zm6]
theorem Zrt {s : List UInt8} {b : UInt8} {H : Zc} : Zes [strv s,.int .u8 b.toNat] H=some (iv (s.count b),H):=by
 unfold Zes strv Go.Lib.countByte
 simp only [Zm6]
theorem ZbG {b : UInt8} : ∀ {s : List UInt8},Go.Lib.indexByte s b=if b∈s then (((s.takeWhile (· !=b)).length : Nat) : Int) else -1
 | []=>rfl
 | c :: s=>by
  have ih:=ZbG (b:=b) (s:=s)
  unfold Go.Lib.indexByte
  by_cases hc : c=b
  ·subst hc;simp
  ·have h1 : (c==b)=false:=beq_eq_false_iff_ne.2 hc
   have h2 : (c !=b)=true:=by simp [hc]
   rw [h1,List.takeWhile_cons,h2,ih]
   by_cases hm : b∈s
   ·have : ¬ ((((s.takeWhile (· !=b)).length : Nat) : Int)==-1)=true:=by simp
    simp [hm,this]
   ·have hm2 : ¬ b∈c :: s:=by simp [hm,Ne.symm hc]
    simp [hm,Ne.symm hc]
end Go.Proofs.YtnnehafmjfmbnaaGreatDoor.A

namespace Go.Proofs.YtnnehafmjfmbnaaGreatDoor.A
set_option linter.unusedVariables false
set_option linter.unusedSimpArgs false
theorem Zj9 {α β : Type} {f : α→β} {m m' : List β} (h : m.Perm m') : ∀ {l : List α},l.map f=m→∃ l' : List α,l'.Perm l∧l'.map f=m':=by
 induction h with
 | nil=>intro l h;exact ⟨l,.refl _,h⟩
 | cons x _ ih=>
  intro l h
  cases l with
  | nil=>cases h
  | cons a l=>
   simp only [List.map_cons,List.cons.injEq] at h
   obtain ⟨l',h1,h2⟩:=ih h.2
   exact ⟨a :: l',h1.cons a,by simp [h.1,h2]⟩
 | swap x y l=>
  intro q h
  match q,h with
  | a :: b :: q,h=>
   simp only [List.map_cons,List.cons.injEq] at h
   exact ⟨b :: a :: q,.swap a b q,by simp [h.1,h.2.1,h.2.2]⟩
 | trans _ _ ih1 ih2=>
  intro l h
  obtain ⟨l1,h1,h2⟩:=ih1 h
  obtain ⟨l2,h3,h4⟩:=ih2 h2
  exact ⟨l2,h3.trans h1,h4⟩
def Zd9 : Zi→Bool
 | .map _ _=>true
 | .mapU _=>true
 | _=>false
def Zc6 (H : Zc) : List (Value × Value × Nat)→Option (List Zi)
 | []=>some []
 | e :: es=>match e.2.1,Zc6 H es with
  | .map (some s),some l=>match H[s]? with
   | some x=>if Zd9 x then some (x :: l) else none
   | none=>none
  | _,_=>none
def ZbX (base : Nat) : List (Value × Value × Nat)→List (Value × Value × Nat)
 | []=>[]
 | e :: es=>(e.1,.map (some base),0) :: ZbX (base+1) es
open Classical in
noncomputable def ZlL (H : Zc) (o : Nat) : Option (List (Value × Value × Nat)):=
 match H[o]? with
 | some (.map es clk)=>if WG es clk then some es else none
 | some (.mapU es)=>some es
 | _=>none
open Classical in
noncomputable def ZiM (args : List Value) : M Value:=fun H=>
 match args with
 | [.pointer (some ⟨g,0,none⟩)]=>match H[g]? with
  | some (.cells [.map (some o)] _ false false)=>match ZlL H o with
   | some es=>match Zc6 H es with
    | some l=>if ∃ ks,Zdd es ks then some (pt (H.length+l.length+1),H++l++[.mapU (ZbX H.length es)]++[.cells [.map (some (H.length+l.length))] 1 false false]) else none
    | none=>none
   | none=>none
  | _=>none
 | _=>none
section
variable {P : Program} {w0 : ZY} {ι : Nat→Option Loc} {H H1 : Zc} {w w' : World} {v : Value} {G : Nat}
theorem Zoe {args : List Value} (h : ZiM args H=some (v,H1)) : ∃ g o e es ks l,args=[pt g]∧H[g]?=some (.cells [.map (some o)] e false false)∧ZlL H o=some es∧Zdd es ks∧Zc6 H es=some l∧v=pt (H.length+l.length+1)∧H1=H++l++[.mapU (ZbX H.length es)]++[.cells [.map (some (H.length+l.length))] 1 false false]:=by
 unfold ZiM at h
 split at h
 ·rename_i g
  split at h
  ·rename_i o e hg
   split at h
   ·rename_i es hes
    split at h
    ·rename_i l hl
     split at h
     ·rename_i hk
      obtain ⟨ks,hk⟩:=hk
      cases h
      exact ⟨g,o,e,es,ks,l,rfl,hg,hes,hk,hl,rfl,rfl⟩
     ·cases h
    ·cases h
   ·cases h
  ·cases h
 ·cases h
structure Zm4 (P : Program) (g : FuncId) : Prop where
 c : WW P g
 run : ∀ (w : World) (gb b : Nat) (es : Array MapEntry) (clock : Nat),gb < w.heap.size→w.cell? ⟨gb,0,none⟩=some (.map (some b))→w.heap[b]?=some (.map es clock)→Go.MapKept.Stamped es clock→
  (∀ x∈es.toList,∃ k : List UInt8,x.key=strv k)→(∀ x∈es.toList,∃ sb ses sclk,x.val=.map (some sb)∧w.heap[sb]?=some (.map ses sclk))→
  Calls P g #[.pointer (some ⟨gb,0,none⟩)] w fun e w'=>∃ (gb' ob : Nat) (el : TypeId) (en : Array MapEntry) (ck : Nat) (L : List (MapEntry × Nat)),e=.returned (.pointer (some ⟨gb',0,none⟩))∧
   w'.heap[gb']?=some (.cells #[.map (some ob)] el (0,0))∧w'.heap[ob]?=some (.map en ck)∧Go.MapKept.Stamped en ck∧
   en.toList.map (fun x=>(x.key,x.val))=L.map (fun p=>(p.1.key,Value.map (some p.2)))∧(L.map (·.1)).Perm es.toList∧
   (∀ p∈L,∃ sb,p.1.val=.map (some sb)∧w'.heap[p.2]?=w.heap[sb]?)∧(gb' :: ob :: L.map (·.2)).Nodup∧(∀ q∈gb' :: ob :: L.map (·.2),w.heap.size≤q)∧Go.RowKit.Below w.heap.size w w'
def Zbs (ι : Nat→Option Loc) (H : Zc) (b : Nat) : Prop:=(∀ i oi li,H[i]?=some oi→oi.wr=true→ι i=some li→li.blk≠b)∧
 ∀ j cs es nx lj,H[j]?=some (.view cs es nx)→ι j=some lj→lj.blk=b→∃ l',ι nx=some l'∧l'.blk=lj.blk∧l'.base=lj.base
theorem Zbs.add {o : Zi} {l : Loc} {b : Nat} (h : Zbs ι H b) (hS : Sim G w0 ι H w) (hb : l.blk≠b) (hov : o.isV=false:=by rfl) : Zbs (Yf ι H.length l) (H++[o]) b:=by
 refine ⟨?_,fun j cs es nx lj hj hlj hbe=>?_⟩
 rotate_left
 ·rcases Nat.lt_trichotomy j H.length with hlt | rfl | hgt
  ·rw [List.getElem?_append_left hlt] at hj
   have : Yf ι H.length l j=ι j:=by unfold Yf;simp [Nat.ne_of_lt hlt]
   rw [this] at hlj
   obtain ⟨l',k1,k2⟩:=h.2 j cs es nx lj hj hlj hbe
   exact ⟨l',Jm hS _ _ _ k1,k2⟩
  ·rw [ZZ] at hj
   rw [Option.some.inj hj] at hov;cases hov
  ·rw [List.getElem?_eq_none (by simp;omega)] at hj;cases hj
 intro i oi li hi hw hl
 rcases Nat.lt_trichotomy i H.length with hlt | rfl | hgt
 ·rw [List.getElem?_append_left hlt] at hi
  have : Yf ι H.length l i=ι i:=by unfold Yf;simp [Nat.ne_of_lt hlt]
  rw [this] at hl
  exact h.1 i oi li hi hw hl
 ·have : Yf ι H.length l H.length=some l:=Z3 _ _ _
  rw [this] at hl
  cases hl
  exact hb
 ·rw [List.getElem?_eq_none (by simp;omega)] at hi;cases hi
abbrev Zdf (b : Nat) : Loc:=⟨b,0,0,0,false⟩
def ZdM (ι : Nat→Option Loc) : Value→Value
 | .map (some s)=>.map ((ι s).map (·.blk))
 | v=>v
theorem ZoL {H : Zc} {w' : World} (hS : Sim G w0 ι H w) : ∀ (es : List (Value × Value × Nat)) (L : List (MapEntry × Nat)) (l : List Zi) (ι0 : Nat→Option Loc) (H0 : Zc),Sim G w0 ι0 H0 w'→Le ι ι0→Zc6 H es=some l→
  L.map (fun p=>(p.1.key,p.1.val))=es.map (fun e=>(e.1,ZdM ι e.2.1))→(∀ p∈L,∃ sb,p.1.val=.map (some sb)∧w'.heap[p.2]?=w.heap[sb]?)→(L.map (·.2)).Nodup→(∀ p∈L,Zbs ι0 H0 p.2∧w0.heap.size≤p.2∧∀ b∈w0.prot,p.2≠b)→
  ∃ ι1,Le ι0 ι1∧Sim G w0 ι1 (H0++l) w'∧l.length=es.length∧(∀ i p,L[i]?=some p→ι1 (H0.length+i)=some (Zdf p.2))∧(∀ b,Zbs ι0 H0 b→b∉L.map (·.2)→Zbs ι1 (H0++l) b)
 | [],L,l,ι0,H0,h0,hle,hl,hm,_,_,_=>by
  cases hl
  have : L=[]:=by simpa using hm
  subst this
  exact ⟨ι0,.refl _,by rw [List.append_nil];exact h0,rfl,fun i p h=>by simp at h,fun b h _=>by rw [List.append_nil];exact h⟩
 | e :: es,L,l,ι0,H0,h0,hle,hl,hm,hc,hn,hf=>by
  cases L with
  | nil=>simp at hm
  | cons p L=>
   simp only [List.map_cons,List.cons.injEq,Prod.mk.injEq] at hm
   unfold Zc6 at hl
   split at hl
   ·rename_i _ _ s l' he hl'
    split at hl
    ·rename_i x hx
     split at hl
     ·rename_i hmp
      cases hl
      obtain ⟨sb,hsb,hcp⟩:=hc p (by simp)
      obtain ⟨hfp,hgp,hpp⟩:=hf p (by simp)
      rw [he] at hm
      have hv:=hm.1.2
      rw [hsb] at hv
      have hsl : ∃ ls,ι s=some ls∧ls.blk=sb:=by
       simp only [ZdM] at hv
       cases hs : ι s with
       | none=>rw [hs] at hv;simp at hv
       | some ls=>rw [hs] at hv;exact ⟨ls,rfl,by simpa using hv.symm⟩
      obtain ⟨ls,hls,rfl⟩:=hsl
      have hR : Zac w0 (Yf ι0 H0.length (Zdf p.2)) H0.length x w':=by
       have hle2 : Le ι (Yf ι0 H0.length (Zdf p.2)):=hle.trans (Jm h0 _)
       cases x with
       | map es' clk=>
        obtain ⟨en,hb,hge,hE⟩:=hS.mapR hx hls
        exact ⟨_,en,Z3 _ _ _,hcp.trans hb,hgp,hE.mono hle2⟩
       | mapU es'=>
        obtain ⟨en,clk,es2,hb,hge,hE,hp⟩:=hS.mapUR hx hls
        exact ⟨_,en,clk,es2,Z3 _ _ _,hcp.trans hb,hgp,hE.mono hle2,hp⟩
       | _=>simp [Zd9] at hmp
      have hov : x.isV=false:=by cases x <;> first | rfl | simp [Zd9] at hmp
      have h1:=h0.add hR hfp.1 hpp (fun _=>hfp.2) hov
      simp only [List.map_cons,List.nodup_cons] at hn
      obtain ⟨ι1,a1,a2,a3,a4,a5⟩:=ZoL hS es L l' _ _ h1 (hle.trans (Jm h0 _)) hl' hm.2 (fun q hq=>hc q (by simp [hq])) hn.2 (fun q hq=>by
       obtain ⟨b1,b2⟩:=hf q (by simp [hq])
       exact ⟨b1.add h0 (fun e=>hn.1 (List.mem_map.2 ⟨q,hq,e.symm⟩)) hov,b2⟩)
      refine ⟨ι1,(Jm h0 _).trans a1,by rw [List.append_assoc,List.singleton_append] at a2;exact a2,by simp [a3],fun i q hi=>?_,fun b hb hnb=>?_⟩
      ·cases i with
       | zero=>
        have : p=q:=by simpa using hi
        subst this
        exact a1 _ _ (Z3 _ _ _)
       | succ i=>
        have:=a4 i q (by simpa using hi)
        rwa [List.length_append,List.length_singleton,Nat.add_assoc,Nat.add_comm 1 i] at this
      ·simp only [List.map_cons,List.mem_cons,not_or] at hnb
       have:=a5 b (hb.add h0 (Ne.symm hnb.1) hov) hnb.2
       rwa [List.append_assoc,List.singleton_append] at this
     ·cases hl
    ·cases hl
   ·cases hl
theorem Zbs.sim (h : Sim G w0 ι H w) {b : Nat} (hb : w.heap.size≤b) : Zbs ι H b:=⟨fun i oi li hi hw hl=>by
 have:=((h.obj i oi hi).newer hw li hl).2
 omega,fun j cs es nx lj hj hlj hbe=>by
 rcases h.views j cs es nx lj hj hlj with ⟨l',k1,k2⟩ | ⟨⟨c,el,fr,k1,_⟩,_⟩
 ·exact ⟨l',k1,k2⟩
 ·have:=(Array.getElem?_eq_some_iff.1 k1).1
  omega⟩
theorem Zi8 (h : Sim G w0 ι H w) {b : Nat} (hb : w.heap.size≤b) : ∀ c∈w0.prot,b≠c:=fun c hc e=>by
 have p1:=(h.prot c hc).1
 subst e
 rw [Array.getElem?_eq_none hb] at p1;cases p1
def ZkM (B : List ((MapEntry × Nat) × Nat)) (en : List MapEntry) : List (Value × Value × Nat):=List.zipWith (fun b x=>(b.1.1.key,Value.map (some b.2),x.born)) B en
theorem Zla : ∀ (B : List ((MapEntry × Nat) × Nat)) (en : List MapEntry),en.map (fun x=>(x.key,x.val))=B.map (fun b=>(b.1.1.key,Value.map (some b.1.2)))→(∀ b∈B,Qj b.1.1.key=true∧ι b.2=some (Zdf b.1.2))→
  QR ι (ZkM B en) en∧(ZkM B en).map kv=B.map (fun b=>(b.1.1.key,Value.map (some b.2)))∧(ZkM B en).map (·.2.2)=en.map (·.born)
 | [],[],_,_=>⟨trivial,rfl,rfl⟩
 | [],_ :: _,h,_=>by simp at h
 | _ :: _,[],h,_=>by simp at h
 | b :: B,x :: en,h,hb=>by
  simp only [List.map_cons,List.cons.injEq,Prod.mk.injEq] at h
  obtain ⟨h1,h2,h3⟩:=Zla B en h.2 (fun c hc=>hb c (by simp [hc]))
  obtain ⟨g1,g2⟩:=hb b (by simp)
  have hm : RV ι (.map (some b.2)) (.map (some b.1.2)):=.mp (l:=Zdf b.1.2) g2
  refine ⟨⟨⟨g1,h.1.1,by rw [h.1.2];exact hm,rfl⟩,h1⟩,?_,?_⟩
  ·simp only [List.map_cons]
   rw [← h2];rfl
  ·simp only [List.map_cons]
   rw [← h3];rfl
theorem ZmU : ∀ (es : List (Value × Value × Nat)) (L : List (MapEntry × Nat)) (base : Nat),L.map (fun p=>p.1.key)=es.map (·.1)→
  (ZbX base es).map kv=(L.zipIdx base).map (fun b=>(b.1.1.key,Value.map (some b.2)))∧(ZbX base es).map (·.1)=es.map (·.1)
 | [],L,base,h=>by
  have : L=[]:=by simpa using h
  subst this
  exact ⟨rfl,rfl⟩
 | e :: es,[],base,h=>by simp at h
 | e :: es,p :: L,base,h=>by
  simp only [List.map_cons,List.cons.injEq] at h
  obtain ⟨h1,h2⟩:=ZmU es L (base+1) h.2
  refine ⟨?_,?_⟩
  ·simp only [ZbX,List.map_cons,List.zipIdx_cons]
   rw [h1,← h.1];rfl
  ·simp only [ZbX,List.map_cons]
   rw [h2]
theorem ZiN : ∀ {es : List (Value × Value × Nat)} {l : List Zi},Zc6 H es=some l→∀ e∈es,∃ s x,e.2.1=.map (some s)∧H[s]?=some x∧Zd9 x=true
 | [],l,h,e,he=>by cases he
 | e0 :: es,l,h,e,he=>by
  unfold Zc6 at h
  split at h
  ·rename_i _ _ s l' hv hl'
   split at h
   ·rename_i x hx
    split at h
    ·rename_i hm
     rcases List.mem_cons.1 he with rfl | he
     ·exact ⟨s,x,hv,hx,hm⟩
     ·exact ZiN hl' e he
    ·cases h
   ·cases h
  ·cases h
theorem Zj2 (hle : ∀ e : Value × Value × Nat,∀ n,RV ι e.2.1 n→(∃ s,e.2.1=.map (some s))→n=ZdM ι e.2.1) : ∀ (es : List (Value × Value × Nat)) (en : List MapEntry),QR ι es en→(∀ e∈es,∃ s,e.2.1=.map (some s))→en.map (fun x=>(x.key,x.val))=es.map (fun e=>(e.1,ZdM ι e.2.1))
 | [],[],_,_=>rfl
 | [],_ :: _,h,_=>h.elim
 | _ :: _,[],h,_=>h.elim
 | e :: es,n :: ns,h,hs=>by
  simp only [List.map_cons]
  rw [Zj2 hle es ns h.2 (fun e he=>hs e (by simp [he])),h.1.2.1,hle e _ h.1.2.2.1 (hs e (by simp))]
theorem Zq3 {e : Value × Value × Nat} {n : Value} (h : RV ι e.2.1 n) (hs : ∃ s,e.2.1=.map (some s)) : n=ZdM ι e.2.1:=by
 obtain ⟨s,hs⟩:=hs
 rw [hs] at h ⊢
 obtain ⟨l,hl,rfl⟩:=h.map_inv
 simp [ZdM,hl]
theorem ZnR {g : FuncId} (hC : Zm4 P g) : Zb5 P G w0 g ZiM:=by
 intro args H v H1 h
 refine .inl ⟨hC.c,fun ι w args' hS hr=>?_⟩
 obtain ⟨gi,o,e1,es,ks,l,rfl,hg,hes,hk,hl,rfl,rfl⟩:=Zoe h
 obtain ⟨x,r,rfl,hx,hr2⟩:=hr.cons_inv
 rw [hr2.nil_inv]
 obtain ⟨lc,hlc,rfl⟩:=hx.ptr_inv
 obtain ⟨cc,el,fr,_,hgrow,hbc,hb5,hb6,hrc,hro,_⟩:=hS.cellsR hg hlc
 have hbase : lc.base=0:=(hro rfl).2.2 hgrow
 have hbl : lc.blk < w.heap.size:=by
  rcases Nat.lt_or_ge lc.blk w.heap.size with h1 | h1
  ·exact h1
  ·rw [Array.getElem?_eq_none h1] at hbc;cases hbc
 obtain ⟨u,hu1,hu2⟩:=hrc.at (o:=0) (by simp)
 obtain ⟨lm,hlm,hu3⟩:=RV.map_inv (id:=o) hu2
 subst hu3
 have hcell : w.cell? ⟨lc.blk,0,none⟩=some (.map (some lm.blk)):=by
  rw [ZcI hbc]
  simpa [hbase] using hu1
 have hsets:=ZiN hl
 have hismap : ∀ e∈es,∃ s,e.2.1=.map (some s):=fun e he=>by obtain ⟨s,_,h1,_⟩:=hsets e he;exact ⟨s,h1⟩
 obtain ⟨en,clock,es2,hmb,hE,hperm,hst⟩ : ∃ (en : Array MapEntry) (clock : Nat) (es2 : List (Value × Value × Nat)),w.heap[lm.blk]?=some (.map en clock)∧WO ι es2 en∧(es2.map kv).Perm (es.map kv)∧WG es2 clock:=by
  unfold ZlL at hes
  split at hes
  ·rename_i es0 clk hid
   split at hes
   ·rename_i hst
    cases hes
    obtain ⟨en,hb,_,hE⟩:=hS.mapR hid hlm
    exact ⟨en,_,_,hb,hE,.refl _,hst⟩
   ·cases hes
  ·rename_i es0 hid
   cases hes
   obtain ⟨en,clk,es2,hb,_,hE,hp⟩:=hS.mapUR hid hlm
   exact ⟨en,clk,es2,hb,hE,hp.perm,hp.st⟩
  ·cases hes
 have hmem2 : ∀ e∈es2,∃ f∈es,f.1=e.1∧f.2.1=e.2.1:=fun e he=>by
  have : kv e∈es.map kv:=hperm.mem_iff.1 (List.mem_map.2 ⟨e,he,rfl⟩)
  obtain ⟨f,hf,h1⟩:=List.mem_map.1 this
  unfold kv at h1
  simp only [Prod.mk.injEq] at h1
  exact ⟨f,hf,h1.1,h1.2⟩
 have hismap2 : ∀ e∈es2,∃ s,e.2.1=.map (some s):=fun e he=>by
  obtain ⟨f,hf,_,h2⟩:=hmem2 e he
  rw [← h2];exact hismap f hf
 obtain ⟨k1,k2⟩:=QR.keys hE
 have hkv:=Zj2 (fun e n h hs=>Zq3 h hs) es2 en.toList hE hismap2
 have hkeyp : (es2.map (·.1)).Perm (ks.map strv):=by
  have h3:=hperm.map (·.1)
  rw [Zcb,Zcb] at h3
  rw [← hk.keys];exact h3
 have hstr : ∀ x∈en.toList,∃ k : List UInt8,x.key=strv k:=fun x hx=>by
  have h3 : x.key∈es2.map (·.1):=by rw [← k1];exact List.mem_map.2 ⟨x,hx,rfl⟩
  obtain ⟨k,_,h4⟩:=List.mem_map.1 (hkeyp.mem_iff.1 h3)
  exact ⟨k,h4.symm⟩
 have hsets2 : ∀ x∈en.toList,∃ sb ses sclk,x.val=.map (some sb)∧w.heap[sb]?=some (.map ses sclk):=fun x hx=>by
  have h3 : (x.key,x.val)∈es2.map (fun e=>(e.1,ZdM ι e.2.1)):=by rw [← hkv];exact List.mem_map.2 ⟨x,hx,rfl⟩
  obtain ⟨e,he,h4⟩:=List.mem_map.1 h3
  obtain ⟨f,hf,_,hf2⟩:=hmem2 e he
  obtain ⟨s,y,hy1,hy2,hy3⟩:=hsets f hf
  simp only [Prod.mk.injEq] at h4
  rw [← hf2,hy1] at h4
  have hd : y≠.dead:=by rintro rfl;simp [Zd9] at hy3
  obtain ⟨ls,hls,_⟩:=(hS.obj s y hy2).loc hd
  have h5 : x.val=.map (some ls.blk):=by rw [← h4.2];simp [ZdM,hls]
  cases y with
  | map es' clk=>
   obtain ⟨en',hb,_,_⟩:=hS.mapR hy2 hls
   exact ⟨_,_,_,h5,hb⟩
  | mapU es'=>
   obtain ⟨en',clk,_,hb,_,_⟩:=hS.mapUR hy2 hls
   exact ⟨_,_,_,h5,hb⟩
  | _=>simp [Zd9] at hy3
 have hstamp : Go.MapKept.Stamped en clock:=by
  refine ⟨fun x hx=>?_,by rw [k2];exact hst.nod,by rw [k1];exact hkeyp.nodup_iff.2 (ZeD hk.nod)⟩
  have h3 : x.born∈en.toList.map (·.born):=List.mem_map.2 ⟨x,hx,rfl⟩
  rw [k2] at h3
  obtain ⟨e',h1,h2⟩:=List.mem_map.1 h3
  rw [← h2];exact hst.lt e' h1
 simp only [Nat.add_zero,hbase]
 refine (hC.run w lc.blk lm.blk en clock hbl hcell hmb hstamp hstr hsets2).mono fun ee w' ⟨gb',ob,el',en',ck,L,he,hgb,hob,hst',hen',hL,hcp,hnd,hge,hb⟩=>?_
 have hS':=hS.below hb
 have hLkv : (L.map fun p=>(p.1.key,p.1.val)).Perm (es.map fun e=>(e.1,ZdM ι e.2.1)):=by
  have h3:=hL.map (fun x : MapEntry=>(x.key,x.val))
  rw [List.map_map,hkv] at h3
  have h4:=hperm.map (fun q : Value × Value=>(q.1,ZdM ι q.2))
  rw [List.map_map,List.map_map] at h4
  exact h3.trans h4
 obtain ⟨L',hL',hLm⟩:=Zj9 hLkv rfl
 simp only [List.nodup_cons,List.mem_cons,not_or] at hnd
 obtain ⟨⟨n1,n2⟩,n3,n4⟩:=hnd
 have hnod' : (L'.map (·.2)).Nodup:=(hL'.map _).nodup_iff.2 n4
 have hgeL : ∀ p∈L',w.heap.size≤p.2:=fun p hp=>hge _ (by simp only [List.mem_cons,List.mem_map];exact .inr (.inr ⟨p,hL'.mem_iff.1 hp,rfl⟩))
 obtain ⟨ι1,a1,a2,a3,a4,a5⟩:=ZoL hS es L' l ι H hS' (.refl _) hl hLm (fun p hp=>hcp p (hL'.mem_iff.1 hp)) hnod' (fun p hp=>⟨Zbs.sim hS (hgeL p hp),Nat.le_trans hS.size (hgeL p hp),Zi8 hS (hgeL p hp)⟩)
 have hobge:=hge ob (by simp)
 have hgbge:=hge gb' (by simp)
 have hobF : Zbs ι1 (H++l) ob:=a5 ob (Zbs.sim hS hobge) fun hm=>n3 ((hL'.map (·.2)).mem_iff.1 hm)
 have hgbF : Zbs ι1 (H++l) gb':=a5 gb' (Zbs.sim hS hgbge) fun hm=>n2 ((hL'.map (·.2)).mem_iff.1 hm)
 obtain ⟨B,hB,hBm⟩:=Zj9 (f:=Prod.fst) (l:=L'.zipIdx H.length) (m':=L) (by rw [List.zipIdx_map_fst];exact hL') rfl
 have hBi : ∀ b∈B,Qj b.1.1.key=true∧ι1 b.2=some (Zdf b.1.2):=fun b hb=>by
  have hb':=hB.mem_iff.1 hb
  obtain ⟨i,hi⟩:=List.getElem?_of_mem hb'
  rw [List.getElem?_zipIdx] at hi
  cases hq : L'[i]? with
  | none=>rw [hq] at hi;cases hi
  | some q=>
   rw [hq] at hi
   have hi : (q,H.length+i)=b:=by simpa using hi
   subst hi
   refine ⟨?_,a4 i q hq⟩
   have hqL : q.1∈L.map (·.1):=List.mem_map.2 ⟨q,hL'.mem_iff.1 (List.mem_of_getElem? hq),rfl⟩
   obtain ⟨k,hk⟩:=hstr q.1 (hL.mem_iff.1 hqL)
   show Qj q.1.key=true
   rw [hk];rfl
 have hen2 : en'.toList.map (fun x=>(x.key,x.val))=B.map (fun b=>(b.1.1.key,Value.map (some b.1.2))):=by
  rw [hen',← hBm,List.map_map];rfl
 obtain ⟨z1,z2,z3⟩:=Zla B en'.toList hen2 hBi
 have hkeysL : L'.map (fun p=>p.1.key)=es.map (·.1):=by
  have:=congrArg (List.map Prod.fst) hLm
  simpa [List.map_map,Function.comp_def] using this
 obtain ⟨y1,y2⟩:=ZmU es L' H.length hkeysL
 have hle1 : Le ι ι1:=a1
 have hlen : (H++l).length=H.length+l.length:=List.length_append
 have hPU : Kh (ZkM B en'.toList) ck (ZbX H.length es):=by
  refine ⟨?_,⟨fun e he=>?_,?_⟩,⟨fun e he=>?_,?_⟩⟩
  ·rw [z2,y1]
   exact hB.map _
  ·have : e.1∈(ZbX H.length es).map (·.1):=List.mem_map.2 ⟨e,he,rfl⟩
   rw [y2,hk.keys] at this
   obtain ⟨k,_,h4⟩:=List.mem_map.1 this
   exact ⟨_,h4.symm⟩
  ·rw [y2,hk.keys];exact ZeD hk.nod
  ·have : e.2.2∈(ZkM B en'.toList).map (·.2.2):=List.mem_map.2 ⟨e,he,rfl⟩
   rw [z3] at this
   obtain ⟨x,hx,h4⟩:=List.mem_map.1 this
   rw [← h4];exact hst'.1 x hx
  ·rw [z3];exact hst'.2.1
 have hO:=a2.add (o:=.mapU (ZbX H.length es)) (l:=Zdf ob) ⟨Zdf ob,en',ck,_,Z3 _ _ _,hob,Nat.le_trans hS.size hobge,z1.mono (Jm a2 _),hPU⟩ hobF.1 (Zi8 hS hobge) (fun _=>hobF.2)
 have hgbF2 : Zbs (Yf ι1 (H++l).length (Zdf ob)) (H++l++[.mapU (ZbX H.length es)]) gb':=hgbF.add a2 (Ne.symm n1)
 have hN:=hO.add (o:=.cells [.map (some (H.length+l.length))] 1 false false) (l:=⟨gb',0,1,1,false⟩) (by
  refine ⟨⟨gb',0,1,1,false⟩,_,_,_,Z3 _ _ _,rfl,rfl,hgb,by simp,by simp,?_,fun _=>⟨Nat.le_trans hS.size hgbge,.inl rfl,fun _=>rfl⟩,by simp,by simp [oneCell]⟩
  refine ⟨rfl,fun i hi=>?_⟩
  have : i=0:=by simpa using hi
  subst this
  refine .mp (l:=Zdf ob) (Jm hO _ _ _ ?_)
  rw [← hlen]
  exact Z3 _ _ _) hgbF2.1 (Zi8 hS hgbge) (fun _=>hgbF2.2)
 refine ⟨_,_,(hle1.trans (Jm a2 _)).trans (Jm hO _),he,?_,hN⟩
 have hp:=RV.ptr (ι:=Yf (Yf ι1 (H++l).length (Zdf ob)) (H++l++[Zi.mapU (ZbX H.length es)]).length ⟨gb',0,1,1,false⟩) (o:=0) (Z3 _ _ _)
 have hlen2 : (H++l++[Zi.mapU (ZbX H.length es)]).length=H.length+l.length+1:=by rw [List.length_append,List.length_append,List.length_singleton]
 rw [hlen2] at hp ⊢
 exact hp
end
end Go.Proofs.YtnnehafmjfmbnaaGreatDoor.A

namespace Go.Proofs.YtnnehafmjfmbnaaGreatDoor.A
set_option linter.unusedVariables false
set_option linter.unusedSimpArgs false
open Go.RowKit Go.Maps Go.ChangeMaps Go.MapKept
section
variable {P : Program} (w : World) {ops : Array Oper} {rest : List Oper} {o : Oper} {a : Act} {Q : Exit→Act→World→Prop}
theorem Zhn (hg : o.guard=none) (m : Operand) (t : TypeId) (hop : o.op=Op.range t m) (k e : TypeId) (ht : P.underlying t=some (.map k e)) (b : Nat) (es : Array MapEntry) (clock : Nat)
  (hm : a.eval m=.map (some b)) (hb : w.heap[b]?=some (.map es clock))
  (hK : wpList P ops Q rest (a.put o.dst (.pointer (some ⟨w.heap.size,0,none⟩))) (w.alloc (.mapIter (some b) clock #[] clock))) :
  wpList P ops Q (o :: rest) a w:=by
 refine wpList_plain hg fun K' hK'=>?_
 have hrun:=run_range_map (P:=P) w t k e b es clock ht hb
 unfold Oper.wp
 simp [execOp,hop,hm,hrun,Result.andThen]
 exact hK' _ _ hK
theorem ZiA (hg : o.guard=none) (it : Operand) (hop : o.op=Op.next it false) (b r since c0 clock : Nat) (seen : Array Nat) (es : Array MapEntry)
  (hit : a.eval it=.pointer (some ⟨r,0,none⟩)) (hr : w.heap[r]?=some (.mapIter (some b) since seen c0)) (hb : w.heap[b]?=some (.map es clock)) (hst : Go.MapKept.Stamped es clock) (hsince : since=clock) (hsc : since≤c0)
  (hDone : (∀ x∈es.toList,x.born∈seen)→wpList P ops Q rest (a.put o.dst (.tuple #[.bool false])) w)
  (hMore : ∀ (e : MapEntry) (w' : World),e∈es.toList→e.born∉seen→w'.heap[r]?=some (.mapIter (some b) since (seen.push e.born) clock)→(leftOf es (seen.push e.born)).size < (leftOf es seen).size→
   w.grownBy w' (some r)→w'.heap.size=w.heap.size→(Instr.entry (.pointer (some ⟨r,0,none⟩))).run P w'=.ok (.tuple #[e.key,e.val]) w'→wpList P ops Q rest (a.put o.dst (.tuple #[.bool true,e.key,e.val])) w') :
  wpList P ops Q (o :: rest) a w:=by
 refine wpList_plain hg fun K' hK'=>?_
 unfold Oper.wp
 have hold : ∀ x∈es.toList,x.born < since:=by rw [hsince];exact hst.1
 rcases run_next_at (P:=P) w o.type r b since c0 seen es clock hr hb hold hsc with ⟨h0,hrun⟩ | ⟨e,he,w1,hal,hrun⟩
 ·simp [execOp,hop,hit,hrun,Result.andThen]
  refine hK' _ _ (hDone fun x hx=>?_)
  have:=all_seen es seen h0 x hx
  simpa using this
 ·obtain ⟨hem,hes⟩:=mem_left he
  have hr1 : w1.heap[r]?=some (.mapIter (some b) since seen c0):=by rcases hal with rfl | rfl <;> exact hr
  have hb1 : w1.heap[b]?=some (.map es clock):=by rcases hal with rfl | rfl <;> exact hb
  have hset:=heap_set (o':=.mapIter (some b) since (seen.push e.born) clock) hr1
  have hne : r≠b:=by
   intro e1
   rw [e1,hb] at hr
   cases hr
  have hb' : (setBlock w1 r (.mapIter (some b) since (seen.push e.born) clock)).heap[b]?=some (.map es clock):=(hset.2 b (fun e1=>hne e1.symm)).trans hb1
  simp [execOp,hop,hit,hrun,Result.andThen]
  refine hK' _ _ (hMore e _ hem (by simpa using hes) hset.1 (left_shrinks es seen e he) ?_ ?_ (run_entry_at _ r b since seen es clock e hset.1 hb' hem ((stamped_iff es clock).1 hst).2.1))
  ·rcases hal with rfl | rfl <;> exact ⟨rfl,rfl,rfl,by simp [setBlock],fun i _ hi=>hset.2 i (fun e1=>hi (by rw [e1]))⟩
  ·rcases hal with rfl | rfl <;> simp [setBlock]
end
theorem Ym {w : World} {o : Obj} {b : Nat} (h : b < w.heap.size) : (w.alloc o).heap[b]?=w.heap[b]?:=(MapKept.heap_alloc w o).2 b h
theorem Zme {P : Program} {t kt e : TypeId} {k : List UInt8} {en : Array MapEntry} {ck ob : Nat} {W : World} (ht : P.underlying t=some (.map kt e)) (htk : tkT P kt=.str) (hb : W.heap[ob]?=some (.map en ck)) (hkeys : ∀ x∈en.toList,∃ k',x.key=strv k'∧k'≠k) (v : Value) :
  ∃ W2,(Instr.mapUpdate t (.map (some ob)) (strv k) v).run P W=.ok () W2∧W2=setB W ob (.map (en.push { key:=strv k,val:=v,born:=ck }) (ck+1)):=by
 have hok : okK (tkT P kt) (strv k)=true:=by rw [htk];rfl
 obtain ⟨d,hd,hsk,hchk⟩:=K5 hok
 have hE : ∀ l : List MapEntry,(∀ x∈l,∃ k',x.key=strv k'∧k'≠k)→QR (fun _=>none) (l.map fun x=>(x.key,Value.tuple #[],x.born)) l∧∀ i,Ji .str (strv k) (l.map fun x=>(x.key,Value.tuple #[],x.born)) i=some none:=by
  intro l
  induction l with
  | nil=>intro _;exact ⟨trivial,fun _=>rfl⟩
  | cons x l ih=>
   intro h
   obtain ⟨k',hk1,hk2⟩:=h x (by simp)
   obtain ⟨h1,h2⟩:=ih fun y hy=>h y (by simp [hy])
   refine ⟨⟨⟨by show Qj x.key=true;rw [hk1];rfl,rfl,.un,rfl⟩,h1⟩,fun i=>?_⟩
   have hs : WU .str (strv k) x.key=some (k==k'):=by rw [hk1];simp only [WU,strv,Zoj]
   simp only [List.map_cons,Ji,hs]
   rw [show (k==k')=false by rw [beq_eq_false_iff_ne];exact Ne.symm hk2]
   exact h2 _
 obtain ⟨h1,h2⟩:=hE en.toList hkeys
 obtain ⟨r',h3,h4⟩:=J7 (k:=strv k) hd 0 h1 (by rw [htk];exact h2 0)
 cases r' with
 | some p=>exact h4.elim
 | none=>
  refine ⟨_,?_,rfl⟩
  simp only [Instr.mapUpdate,Sem.run_bind,run_underlying ht,Result.andThen_ok,QW hb,hchk,QZ hd h3,JQ hb]
structure CpR (w : World) (b r gb' ob : Nat) (es : Array MapEntry) (clock : Nat) (seen : Array Nat) (c0 : Nat) (en : Array MapEntry) (ck : Nat) (L : List (MapEntry × Nat)) (el : TypeId) (wr : World) : Prop where
 it : wr.heap[r]?=some (.mapIter (some b) clock seen c0)
 c0 : clock≤c0
 g : wr.heap[gb']?=some (.cells #[.map (some ob)] el (0,0))
 o : wr.heap[ob]?=some (.map en ck)
 st : Go.MapKept.Stamped en ck
 ent : en.toList.map (fun x=>(x.key,x.val))=L.map (fun p=>(p.1.key,Value.map (some p.2)))
 sn : L.map (·.1.born)=seen.toList
 mem : ∀ p∈L,p.1∈es.toList∧∃ sb ses sclk,p.1.val=.map (some sb)∧w.heap[sb]?=some (.map ses sclk)∧wr.heap[p.2]?=some (.map ses sclk)
 nod : (r :: gb' :: ob :: L.map (·.2)).Nodup
 ge : ∀ q∈r :: gb' :: ob :: L.map (·.2),w.heap.size≤q
 snod : seen.toList.Nodup
 bel : Below w.heap.size w wr
section
variable {w wr w1 : World} {b r g o : Nat} {es : Array MapEntry} {clock : Nat} {seen : Array Nat} {c0 : Nat} {en : Array MapEntry} {ck : Nat} {L : List (MapEntry × Nat)} {el : TypeId}
theorem CpR.lts (h : CpR w b r g o es clock seen c0 en ck L el wr) : r < wr.heap.size∧g < wr.heap.size∧o < wr.heap.size:=⟨(Array.getElem?_eq_some_iff.1 h.it).1,(Array.getElem?_eq_some_iff.1 h.g).1,(Array.getElem?_eq_some_iff.1 h.o).1⟩
theorem CpR.keys (h : CpR w b r g o es clock seen c0 en ck L el wr) (hst : Go.MapKept.Stamped es clock) {e : MapEntry} (he1 : e∈es.toList) (he2 : e.born∉seen) : ∀ x∈en.toList,x.key≠e.key:=fun x hx e4=>by
 have h3 : (x.key,x.val)∈L.map (fun p=>(p.1.key,Value.map (some p.2))):=by rw [← h.ent];exact List.mem_map.2 ⟨x,hx,rfl⟩
 obtain ⟨p,hp,h4⟩:=List.mem_map.1 h3
 simp only [Prod.mk.injEq] at h4
 obtain ⟨hm,_⟩:=h.mem p hp
 have h5 : p.1=e:=entry_eq_of_key ((stamped_iff es clock).1 hst).2.2 hm he1 (h4.1.trans e4)
 have : p.1.born∈seen.toList:=by rw [← h.sn];exact List.mem_map.2 ⟨p,hp,rfl⟩
 rw [h5] at this
 exact he2 (by simpa using this)
theorem CpR.next (h : CpR w b r g o es clock seen c0 en ck L el wr) (hst : Go.MapKept.Stamped es clock) {e : MapEntry} {sb sclk : Nat} {ses : Array MapEntry} (he1 : e∈es.toList) (he2 : e.born∉seen) (hev : e.val=.map (some sb)) (hsb : w.heap[sb]?=some (.map ses sclk))
  (hit : w1.heap[r]?=some (.mapIter (some b) clock (seen.push e.born) clock)) (hgr : wr.grownBy w1 (some r)) (hsz : w1.heap.size=wr.heap.size) :
  CpR w b r g o es clock (seen.push e.born) clock (en.push { key:=e.key,val:=.map (some wr.heap.size),born:=ck }) (ck+1) (L++[(e,wr.heap.size)]) el
   (setB (w1.alloc (.map ses sclk)).drew o (.map (en.push { key:=e.key,val:=.map (some wr.heap.size),born:=ck }) (ck+1))):=by
 obtain ⟨l1,l2,l3⟩:=h.lts
 have hnod:=h.nod
 simp only [List.nodup_cons,List.mem_cons,not_or] at hnod
 obtain ⟨⟨n1,n2,n3⟩,⟨n4,n5⟩,n6,n7⟩:=hnod
 generalize hX : Obj.map (en.push { key:=e.key,val:=.map (some wr.heap.size),born:=ck }) (ck+1)=X
 have hge:=h.ge
 have hLlt : ∀ p∈L,p.2 < wr.heap.size:=fun p hp=>by
  obtain ⟨_,sb',ses',sclk',h1,h2,h3⟩:=h.mem p hp
  exact (Array.getElem?_eq_some_iff.1 h3).1
 have keep : ∀ c,c < wr.heap.size→c≠o→c≠r→(setB (w1.alloc (.map ses sclk)).drew o X).heap[c]?=wr.heap[c]?:=fun c hc h1 h2=>by
  rw [QV h1]
  show (w1.alloc (.map ses sclk)).heap[c]?=_
  rw [Ym (by omega),hgr.block c hc (by simpa using h2)]
 have hk:=h.keys hst he1 he2
 have hst2:=(stamped_iff en ck).1 h.st
 refine ⟨?_,Nat.le_refl _,by rw [keep g l2 n4 (Ne.symm n1)];exact h.g,?_,?_,?_,?_,?_,?_,?_,?_,?_⟩
 ·rw [QV n2]
  show (w1.alloc (.map ses sclk)).heap[r]?=_
  rw [Ym (by omega)];exact hit
 ·rw [ZaZ (by show o < (w1.alloc (.map ses sclk)).heap.size;simp;omega),hX]
 ·refine (stamped_iff _ _).2 ⟨fun x hx=>?_,?_,?_⟩
  ·rw [Array.toList_push,List.mem_append] at hx
   rcases hx with hx | hx
   ·exact Nat.lt_succ_of_lt (hst2.1 x hx)
   ·have : x={ key:=e.key,val:=.map (some wr.heap.size),born:=ck }:=by simpa using hx
    rw [this];exact Nat.lt_succ_self _
  ·rw [Array.toList_push,List.map_append,List.nodup_append]
   refine ⟨hst2.2.1,by simp,fun a ha c hc=>?_⟩
   have hc : c=ck:=by simpa using hc
   obtain ⟨x,hx,rfl⟩:=List.mem_map.1 ha
   have:=hst2.1 x hx
   omega
  ·rw [Array.toList_push,List.pairwise_append]
   refine ⟨hst2.2.2,by simp,fun x hx y hy=>?_⟩
   have : y={ key:=e.key,val:=.map (some wr.heap.size),born:=ck }:=by simpa using hy
   rw [this];exact hk x hx
 ·rw [Array.toList_push,List.map_append,List.map_append,h.ent];rfl
 ·rw [List.map_append,h.sn,Array.toList_push];rfl
 ·intro p hp
  rcases List.mem_append.1 hp with hp | hp
  ·obtain ⟨h1,sb',ses',sclk',h2,h4,h3⟩:=h.mem p hp
   have hp2 : p.2∈L.map (·.2):=List.mem_map.2 ⟨p,hp,rfl⟩
   exact ⟨h1,sb',ses',sclk',h2,h4,by rw [keep p.2 (hLlt p hp) (fun e1=>n6 (e1 ▸ hp2)) (fun e1=>n3 (e1 ▸ hp2))];exact h3⟩
  ·have : p=(e,wr.heap.size):=by simpa using hp
   subst this
   refine ⟨he1,sb,ses,sclk,hev,hsb,?_⟩
   rw [QV (by show wr.heap.size≠o;omega)]
   show (w1.alloc (.map ses sclk)).heap[wr.heap.size]?=_
   rw [← hsz]
   exact (MapKept.heap_alloc w1 _).1
 ·have hnew : ∀ q∈r :: g :: o :: L.map (·.2),q≠wr.heap.size:=fun q hq=>by
   simp only [List.mem_cons] at hq
   rcases hq with rfl | rfl | rfl | hq
   ·omega
   ·omega
   ·omega
   ·obtain ⟨p,hp,rfl⟩:=List.mem_map.1 hq
    exact Nat.ne_of_lt (hLlt p hp)
  have : r :: g :: o :: (L++[(e,wr.heap.size)]).map (·.2)=(r :: g :: o :: L.map (·.2))++[wr.heap.size]:=by simp
  rw [this,List.nodup_append]
  refine ⟨h.nod,by simp,fun a ha c hc=>?_⟩
  have hc : c=wr.heap.size:=by simpa using hc
  rw [hc];exact hnew a ha
 ·intro q hq
  have : r :: g :: o :: (L++[(e,wr.heap.size)]).map (·.2)=(r :: g :: o :: L.map (·.2))++[wr.heap.size]:=by simp
  rw [this] at hq
  rcases List.mem_append.1 hq with hq | hq
  ·exact hge q hq
  ·have : q=wr.heap.size:=by simpa using hq
   rw [this];exact h.bel.size
 ·rw [Array.toList_push,List.nodup_append]
  refine ⟨h.snod,by simp,fun a ha c hc=>?_⟩
  have hc : c=e.born:=by simpa using hc
  rw [hc];rintro rfl;exact he2 (by simpa using ha)
 ·refine ⟨(show w1.os=_ from hgr.os.trans h.bel.os),(show w1.tape=_ from hgr.tape.trans h.bel.tape),(show w1.output=_ from hgr.output.trans h.bel.output),?_,fun i hi=>?_⟩
  ·rw [Zoo]
   show _≤(w1.alloc (.map ses sclk)).heap.size
   have:=h.bel.size
   simp;omega
  ·have ho:=hge o (by simp)
   have hr:=hge r (by simp)
   rw [keep i (Nat.lt_of_lt_of_le hi h.bel.size) (by omega) (by omega)]
   exact h.bel.block i hi
theorem CpR.left (h : CpR w b r g o es clock seen c0 en ck L el wr) (hb : w.heap[b]?=some (.map es clock)) : wr.heap[b]?=some (.map es clock)∧wr.rangeLeft b r=(leftOf es seen).size:=by
 have hbl : b < w.heap.size:=(Array.getElem?_eq_some_iff.1 hb).1
 have h1 : wr.heap[b]?=some (.map es clock):=(h.bel.block b hbl).trans hb
 refine ⟨h1,?_⟩
 simp only [World.rangeLeft,h1,h.it]
theorem CpR.perm (h : CpR w b r g o es clock seen c0 en ck L el wr) (hst : Go.MapKept.Stamped es clock) (hall : ∀ x∈es.toList,x.born∈seen) : (L.map (·.1)).Perm es.toList:=by
 have hst2:=(stamped_iff es clock).1 hst
 have n1 : (L.map (·.1)).Nodup:=by
  have : ((L.map (·.1)).map (·.born)).Nodup:=by rw [List.map_map];exact h.sn ▸ h.snod
  exact List.Pairwise.of_map _ (fun a b h e=>h (congrArg _ e)) this
 have n2 : es.toList.Nodup:=List.Pairwise.of_map _ (fun a b h e=>h (congrArg _ e)) hst2.2.1
 refine (List.perm_ext_iff_of_nodup n1 n2).2 fun x=>⟨fun hx=>?_,fun hx=>?_⟩
 ·obtain ⟨p,hp,rfl⟩:=List.mem_map.1 hx
  exact (h.mem p hp).1
 ·have h1 : x.born∈L.map (·.1.born):=by rw [h.sn];simpa using hall x hx
  obtain ⟨p,hp,h2⟩:=List.mem_map.1 h1
  have : p.1=x:=born_inj hst2.2.1 (h.mem p hp).1 hx h2
  exact List.mem_map.2 ⟨p,hp,this⟩
end
set_option maxRecDepth 100000 in
theorem Zrx (hCl : Zc4 Tryz.prog 126) : Zm4 Tryz.prog 94 where
 c:=⟨Tryz.f94,Tryz.func94,by kernel_rfl,by kernel_rfl⟩
 run:=fun w gb b es clock hgb hcell hb hst hks hvs=>by
  have hmm:=@run_makeMap Tryz.prog
  have hbl : b < w.heap.size:=(Array.getElem?_eq_some_iff.1 hb).1
  go_enter Tryz.func94,Tryz.ntmps94
  go_wp2_with (first
   | (at_range;refine Zhn _ rfl _ 96 rfl _ _ Tryz.underlying96 b es clock rfl ?_ ?_)
   | go_in)
  ·rw [Ym (by simp;omega),Ym hbl];exact hb
  ·go_frame
   have e1 : ((w.alloc (.map #[] 0)).alloc (.cells #[.map (some w.heap.size)] 98)).heap.size=w.heap.size+2:=by simp
   have e2 : (w.alloc (.map #[] 0)).heap.size=w.heap.size+1:=by simp
   rw [e1]
   try rw [e2]
   go_loopw [4,5] (fun _ _ wr=>∃ seen c0 en ck L,CpR w b (w.heap.size+2) (w.heap.size+1) w.heap.size es clock seen c0 en ck L 98 wr) (fun _ _ wr=>wr.rangeLeft b (w.heap.size+2))
   case atStart=>
    refine ⟨#[],clock,#[],0,[],?_⟩
    have hA:=fun (w : World) (o : Obj)=>(MapKept.heap_alloc w o).1
    refine ⟨?_,Nat.le_refl _,?_,?_,⟨by simp,by simp,by simp⟩,rfl,rfl,by simp,by simp,?_,by simp,?_⟩
    ·rw [← e1];exact hA _ _
    ·rw [Ym (by rw [e1];omega),← e2];exact hA _ _
    ·rw [Ym (by rw [e1];omega),Ym (by rw [e2];omega)];exact hA _ _
    ·intro q hq
     simp only [List.map_nil,List.mem_cons,List.not_mem_nil,or_false] at hq
     omega
    ·exact (((Below.refl _ _).alloc (Nat.le_refl _) _).alloc (by rw [e2];omega) _).alloc (by rw [e1];omega) _
   case round=>
    obtain ⟨seen,c0,en,ck,L,hR⟩:=hrel
    go_wp2_with (first
     | (at_next;refine ZiA _ rfl _ rfl b (w.heap.size+2) clock c0 clock seen es rfl hR.it ?_ hst rfl hR.c0 ?_ ?_)
     | go_in)
    ·exact (hR.left hb).1
    ·intro hdone
     go_wp2
     go_ret
     have hp:=hR.perm hst (by simpa using hdone)
     have hnod:=hR.nod
     have hge:=hR.ge
     exact ⟨_,_,_,_,_,_,rfl,hR.g,hR.o,hR.st,hR.ent,hp,fun p hp=>(by obtain ⟨_,sb,ses,sclk,h1,h2,h3⟩:=hR.mem p hp;exact ⟨sb,h1,h3.trans h2.symm⟩),(List.nodup_cons.1 hnod).2,fun q hq=>hge q (List.mem_cons_of_mem _ hq),hR.bel⟩
    ·intro e w1 he1 he2 hit1 hlt hgr hsz hen
     go_upto_region 5 with fail
     have he1 : e∈es.toList:=by simpa using he1
     obtain ⟨sb,ses,sclk,hev,hsb⟩:=hvs e he1
     obtain ⟨k,hek⟩:=hks e he1
     obtain ⟨W2,hcg,hcg2,hsz1,hsb1,hmu,hW2⟩ : ∃ W2,w1.cell? ⟨w.heap.size+1,0,none⟩=some (.map (some w.heap.size))∧(w1.alloc (.map ses sclk)).cell? ⟨w.heap.size+1,0,none⟩=some (.map (some w.heap.size))∧w.heap.size+1 < wr.heap.size∧w1.heap[sb]?=some (.map ses sclk)∧
       (Instr.mapUpdate 96 (.map (some w.heap.size)) (strv k) (.map (some wr.heap.size))).run Tryz.prog (w1.alloc (.map ses sclk)).drew=.ok () W2∧W2=setB (w1.alloc (.map ses sclk)).drew w.heap.size (.map (en.push { key:=strv k,val:=.map (some wr.heap.size),born:=ck }) (ck+1)):=by
      have hw : w.heap.size < wr.heap.size:=(Array.getElem?_eq_some_iff.1 hR.o).1
      have hg1 : w1.heap[w.heap.size+1]?=some (.cells #[.map (some w.heap.size)] 98 (0,0)):=by
       rw [hgr.block _ (Array.getElem?_eq_some_iff.1 hR.g).1 (by simp)];exact hR.g
      have ho1 : w1.heap[w.heap.size]?=some (.map en ck):=by
       rw [hgr.block _ hw (by simp)];exact hR.o
      have hcg : w1.cell? ⟨w.heap.size+1,0,none⟩=some (.map (some w.heap.size)):=by
       rw [ZcI hg1];rfl
      have hsbl : sb < w.heap.size:=(Array.getElem?_eq_some_iff.1 hsb).1
      have hsb1 : w1.heap[sb]?=some (.map ses sclk):=by
       rw [hgr.block _ (by omega) (by simp;omega),hR.bel.block sb hsbl];exact hsb
      have hoD : (w1.alloc (.map ses sclk)).drew.heap[w.heap.size]?=some (.map en ck):=by
       show (w1.alloc (.map ses sclk)).heap[w.heap.size]?=_
       rw [Ym (by omega)];exact ho1
      have hkn : ∀ x∈en.toList,∃ k',x.key=strv k'∧k'≠k:=fun x hx=>by
       have h3 : (x.key,x.val)∈L.map (fun p=>(p.1.key,Value.map (some p.2))):=by rw [← hR.ent];exact List.mem_map.2 ⟨x,hx,rfl⟩
       obtain ⟨p,hp,h4⟩:=List.mem_map.1 h3
       simp only [Prod.mk.injEq] at h4
       obtain ⟨hm,_⟩:=hR.mem p hp
       obtain ⟨k',hk'⟩:=hks p.1 hm
       refine ⟨k',by rw [← h4.1];exact hk',fun e4=>he2 ?_⟩
       have h5 : p.1=e:=entry_eq_of_key ((stamped_iff es clock).1 hst).2.2 hm he1 (by rw [hk',hek,e4])
       have : p.1.born∈seen.toList:=by rw [← hR.sn];exact List.mem_map.2 ⟨p,hp,rfl⟩
       rw [h5] at this
       simpa using this
      obtain ⟨W2,hmu,hW2⟩:=Zme (P:=Tryz.prog) (t:=96) (k:=k) (v:=.map (some wr.heap.size)) Tryz.underlying96 (by kernel_rfl) hoD hkn
      have hs1 : w.heap.size+1 < wr.heap.size:=(Array.getElem?_eq_some_iff.1 hR.g).1
      have hg2 : (w1.alloc (.map ses sclk)).heap[w.heap.size+1]?=some (.cells #[.map (some w.heap.size)] 98 (0,0)):=by
       rw [Ym (by omega)];exact hg1
      exact ⟨W2,hcg,by rw [ZcI hg2];rfl,hs1,hsb1,hmu,hW2⟩
     rw [hev,hek]
     go_region_with (first
      | (go_at_call 126;refine (hCl.some sb ses sclk _ ?_).mono ?_;exact hsb1;rintro e w' ⟨rfl,rfl⟩)
      | fail)
     ·have hN:=hR.next hst he1 he2 hev hsb hit1 hgr hsz
      rw [hek] at hN
      go_roundw
      case rel=>(repeat apply Exists.intro);exact ⟨⟨_,_,_,_,_,hN⟩,rfl⟩
      case measure=>rw [(hN.left hb).2,(hR.left hb).2];exact hlt
     ·have hN:=hR.next hst he1 he2 hev hsb hit1 hgr hsz
      rw [hek] at hN
      go_roundw
      case rel=>(repeat apply Exists.intro);exact ⟨⟨_,_,_,_,_,hN⟩,rfl⟩
      case measure=>rw [(hN.left hb).2,(hR.left hb).2];exact hlt
end Go.Proofs.YtnnehafmjfmbnaaGreatDoor.A

namespace Go.Proofs
open Go.RowKit Go.Maps Go.Sort Go.Shelf
def Tryz.cloneA_ren : Go.Shelf.Ren := ⟨fun | 5 => 92 | 7 => 124 | n => n, fun | 23 => 64 | 25 => 9 | 3 => 78 | 4 => 4 | 20 => 20 | n => n, fun | n => n⟩
theorem Tryz.cloneA : Go.Proofs.SlLaysW.n5 Tryz.prog Tryz.cloneA_ren := {
  mixed := by kernel_rfl
  f5 := ⟨Tryz.f92.name, by decide, Tryz.func92.trans (congrArg some (by kernel_rfl))⟩
  f7 := Tryz.func124.trans (congrArg some (by kernel_rfl))
  t4 := Tryz.underlying4
  a4 := Tryz.isAgg4
  z4 := Tryz.sizeOf4
  v4 := Tryz.zeroValue4
  t20 := Tryz.underlying20
  a20 := Tryz.isAgg20
  z20 := Tryz.sizeOf20
  v20 := Tryz.zeroValue20
  t23 := Tryz.underlying64
  a23 := Tryz.isAgg64
  z23 := Tryz.sizeOf64
  v23 := Tryz.zeroValue64 }
def Tryz.cloneB_ren : Go.Shelf.Ren := ⟨fun | 5 => 125 | 7 => 124 | n => n, fun | 23 => 93 | 25 => 9 | 3 => 9 | 4 => 4 | 20 => 20 | n => n, fun | n => n⟩
theorem Tryz.cloneB : Go.Proofs.SlLaysW.n5 Tryz.prog Tryz.cloneB_ren := {
  mixed := by kernel_rfl
  f5 := ⟨Tryz.f125.name, by decide, Tryz.func125.trans (congrArg some (by kernel_rfl))⟩
  f7 := Tryz.func124.trans (congrArg some (by kernel_rfl))
  t4 := Tryz.underlying4
  a4 := Tryz.isAgg4
  z4 := Tryz.sizeOf4
  v4 := Tryz.zeroValue4
  t20 := Tryz.underlying20
  a20 := Tryz.isAgg20
  z20 := Tryz.sizeOf20
  v20 := Tryz.zeroValue20
  t23 := Tryz.underlying93
  a23 := Tryz.isAgg93
  z23 := Tryz.sizeOf93
  v23 := Tryz.zeroValue93 }
def Tryz.cloneC_ren : Go.Shelf.Ren := ⟨fun | 5 => 126 | 7 => 124 | n => n, fun | 23 => 123 | 25 => 9 | 3 => 120 | 4 => 4 | 20 => 20 | n => n, fun | n => n⟩
theorem Tryz.cloneC : Go.Proofs.SlLaysW.n5 Tryz.prog Tryz.cloneC_ren := {
  mixed := by kernel_rfl
  f5 := ⟨Tryz.f126.name, by decide, Tryz.func126.trans (congrArg some (by kernel_rfl))⟩
  f7 := Tryz.func124.trans (congrArg some (by kernel_rfl))
  t4 := Tryz.underlying4
  a4 := Tryz.isAgg4
  z4 := Tryz.sizeOf4
  v4 := Tryz.zeroValue4
  t20 := Tryz.underlying20
  a20 := Tryz.isAgg20
  z20 := Tryz.sizeOf20
  v20 := Tryz.zeroValue20
  t23 := Tryz.underlying123
  a23 := Tryz.isAgg123
  z23 := Tryz.sizeOf123
  v23 := Tryz.zeroValue123 }
def Tryz.keysA_ren : Go.Shelf.Ren := ⟨fun | 7 => 96 | 10 => 129 | n => n, fun | 23 => 64 | 26 => 9 | 3 => 78 | 28 => 116 | 0 => 0 | 27 => 115 | 33 => 85 | 4 => 4 | n => n, fun | n => n⟩
theorem Tryz.keysA : Go.Proofs.SlLaysZ.n7 Tryz.prog Tryz.keysA_ren := {
  mixed := by kernel_rfl
  f7 := ⟨Tryz.f96.name, by decide, Tryz.func96.trans (congrArg some (by kernel_rfl))⟩
  f10 := ⟨Tryz.f129.name, by decide, Tryz.func129.trans (congrArg some (by kernel_rfl))⟩
  t0 := Tryz.underlying0
  a0 := Tryz.isAgg0
  z0 := Tryz.sizeOf0
  v0 := Tryz.zeroValue0
  t4 := Tryz.underlying4
  a4 := Tryz.isAgg4
  z4 := Tryz.sizeOf4
  v4 := Tryz.zeroValue4
  t23 := Tryz.underlying64
  a23 := Tryz.isAgg64
  z23 := Tryz.sizeOf64
  v23 := Tryz.zeroValue64
  t26 := Tryz.underlying9
  a26 := Tryz.isAgg9
  z26 := Tryz.sizeOf9
  v26 := Tryz.zeroValue9
  t27 := Tryz.underlying115
  a27 := Tryz.isAgg115
  z27 := Tryz.sizeOf115
  v27 := Tryz.zeroValue115
  t28 := Tryz.underlying116
  a28 := Tryz.isAgg116
  z28 := Tryz.sizeOf116
  v28 := Tryz.zeroValue116
  t33 := Tryz.underlying85
  a33 := Tryz.isAgg85
  z33 := Tryz.sizeOf85
  v33 := Tryz.zeroValue85 }
def Tryz.keysB_ren : Go.Shelf.Ren := ⟨fun | 7 => 135 | 10 => 143 | n => n, fun | 23 => 122 | 26 => 9 | 3 => 120 | 28 => 116 | 0 => 0 | 27 => 115 | 33 => 85 | 4 => 4 | n => n, fun | n => n⟩
theorem Tryz.keysB : Go.Proofs.SlLaysZ.n7 Tryz.prog Tryz.keysB_ren := {
  mixed := by kernel_rfl
  f7 := ⟨Tryz.f135.name, by decide, Tryz.func135.trans (congrArg some (by kernel_rfl))⟩
  f10 := ⟨Tryz.f143.name, by decide, Tryz.func143.trans (congrArg some (by kernel_rfl))⟩
  t0 := Tryz.underlying0
  a0 := Tryz.isAgg0
  z0 := Tryz.sizeOf0
  v0 := Tryz.zeroValue0
  t4 := Tryz.underlying4
  a4 := Tryz.isAgg4
  z4 := Tryz.sizeOf4
  v4 := Tryz.zeroValue4
  t23 := Tryz.underlying122
  a23 := Tryz.isAgg122
  z23 := Tryz.sizeOf122
  v23 := Tryz.zeroValue122
  t26 := Tryz.underlying9
  a26 := Tryz.isAgg9
  z26 := Tryz.sizeOf9
  v26 := Tryz.zeroValue9
  t27 := Tryz.underlying115
  a27 := Tryz.isAgg115
  z27 := Tryz.sizeOf115
  v27 := Tryz.zeroValue115
  t28 := Tryz.underlying116
  a28 := Tryz.isAgg116
  z28 := Tryz.sizeOf116
  v28 := Tryz.zeroValue116
  t33 := Tryz.underlying85
  a33 := Tryz.isAgg85
  z33 := Tryz.sizeOf85
  v33 := Tryz.zeroValue85 }
def Tryz.keysC_ren : Go.Shelf.Ren := ⟨fun | 7 => 142 | 10 => 158 | n => n, fun | 23 => 96 | 26 => 9 | 3 => 123 | 28 => 116 | 0 => 0 | 27 => 115 | 33 => 85 | 4 => 4 | n => n, fun | n => n⟩
theorem Tryz.keysC : Go.Proofs.SlLaysZ.n7 Tryz.prog Tryz.keysC_ren := {
  mixed := by kernel_rfl
  f7 := ⟨Tryz.f142.name, by decide, Tryz.func142.trans (congrArg some (by kernel_rfl))⟩
  f10 := ⟨Tryz.f158.name, by decide, Tryz.func158.trans (congrArg some (by kernel_rfl))⟩
  t0 := Tryz.underlying0
  a0 := Tryz.isAgg0
  z0 := Tryz.sizeOf0
  v0 := Tryz.zeroValue0
  t4 := Tryz.underlying4
  a4 := Tryz.isAgg4
  z4 := Tryz.sizeOf4
  v4 := Tryz.zeroValue4
  t23 := Tryz.underlying96
  a23 := Tryz.isAgg96
  z23 := Tryz.sizeOf96
  v23 := Tryz.zeroValue96
  t26 := Tryz.underlying9
  a26 := Tryz.isAgg9
  z26 := Tryz.sizeOf9
  v26 := Tryz.zeroValue9
  t27 := Tryz.underlying115
  a27 := Tryz.isAgg115
  z27 := Tryz.sizeOf115
  v27 := Tryz.zeroValue115
  t28 := Tryz.underlying116
  a28 := Tryz.isAgg116
  z28 := Tryz.sizeOf116
  v28 := Tryz.zeroValue116
  t33 := Tryz.underlying85
  a33 := Tryz.isAgg85
  z33 := Tryz.sizeOf85
  v33 := Tryz.zeroValue85 }
def Tryz.collA_ren : Go.Shelf.Ren := ⟨fun | 8 => 127 | 11 => 138 | n => n, fun | 26 => 9 | 28 => 116 | 24 => 30 | 0 => 0 | 33 => 85 | 4 => 4 | n => n, fun | n => n⟩
theorem Tryz.collA : Go.Proofs.SlLaysZ.n8 Tryz.prog Tryz.collA_ren := {
  mixed := by kernel_rfl
  f8 := ⟨Tryz.f127.name, by decide, Tryz.func127.trans (congrArg some (by kernel_rfl))⟩
  f11 := ⟨Tryz.f138.name, by decide, Tryz.func138.trans (congrArg some (by kernel_rfl))⟩
  t0 := Tryz.underlying0
  a0 := Tryz.isAgg0
  z0 := Tryz.sizeOf0
  v0 := Tryz.zeroValue0
  t24 := Tryz.underlying30
  a24 := Tryz.isAgg30
  z24 := Tryz.sizeOf30
  v24 := Tryz.zeroValue30
  t26 := Tryz.underlying9
  a26 := Tryz.isAgg9
  z26 := Tryz.sizeOf9
  v26 := Tryz.zeroValue9
  t28 := Tryz.underlying116
  a28 := Tryz.isAgg116
  z28 := Tryz.sizeOf116
  v28 := Tryz.zeroValue116
  i26 := by kernel_rfl }
def Tryz.sortA_ren : Go.Shelf.Ren := ⟨fun | 6 => 128 | 15 => 140 | 14 => 139 | 28 => 156 | 29 => 157 | 20 => 148 | 21 => 149 | 22 => 150 | 23 => 151 | 24 => 152 | 25 => 153 | 26 => 154 | 27 => 155 | 46 => 166 | 47 => 167 | 48 => 168 | 49 => 169 | 50 => 170 | 57 => 174 | n => n, fun | 22 => 30 | 24 => 9 | 25 => 118 | 3 => 3 | 39 => 157 | 0 => 0 | 53 => 170 | 55 => 172 | 4 => 4 | 46 => 163 | 45 => 162 | 50 => 167 | 5 => 5 | 9 => 9 | 66 => 177 | 70 => 181 | 76 => 185 | 77 => 186 | n => n, fun | n => n⟩
theorem Tryz.sortA : Go.Proofs.SlLaysF.n6 Tryz.prog Tryz.sortA_ren := {
  mixed := by kernel_rfl
  f6 := ⟨Tryz.f128.name, by decide, Tryz.func128.trans (congrArg some (by kernel_rfl))⟩
  f14 := ⟨Tryz.f139.name, by decide, Tryz.func139.trans (congrArg some (by kernel_rfl))⟩
  f15 := Tryz.func140.trans (congrArg some (by kernel_rfl))
  f20 := ⟨Tryz.f148.name, by decide, Tryz.func148.trans (congrArg some (by kernel_rfl))⟩
  f21 := ⟨Tryz.f149.name, by decide, Tryz.func149.trans (congrArg some (by kernel_rfl))⟩
  f22 := ⟨Tryz.f150.name, by decide, Tryz.func150.trans (congrArg some (by kernel_rfl))⟩
  f23 := ⟨Tryz.f151.name, by decide, Tryz.func151.trans (congrArg some (by kernel_rfl))⟩
  f24 := ⟨Tryz.f152.name, by decide, Tryz.func152.trans (congrArg some (by kernel_rfl))⟩
  f25 := ⟨Tryz.f153.name, by decide, Tryz.func153.trans (congrArg some (by kernel_rfl))⟩
  f26 := ⟨Tryz.f154.name, by decide, Tryz.func154.trans (congrArg some (by kernel_rfl))⟩
  f27 := ⟨Tryz.f155.name, by decide, Tryz.func155.trans (congrArg some (by kernel_rfl))⟩
  f28 := Tryz.func156.trans (congrArg some (by kernel_rfl))
  f29 := Tryz.func157.trans (congrArg some (by kernel_rfl))
  f46 := ⟨Tryz.f166.name, by decide, Tryz.func166.trans (congrArg some (by kernel_rfl))⟩
  f47 := Tryz.func167.trans (congrArg some (by kernel_rfl))
  f48 := Tryz.func168.trans (congrArg some (by kernel_rfl))
  f49 := ⟨Tryz.f169.name, by decide, Tryz.func169.trans (congrArg some (by kernel_rfl))⟩
  f50 := ⟨Tryz.f170.name, by decide, Tryz.func170.trans (congrArg some (by kernel_rfl))⟩
  f57 := ⟨Tryz.f174.name, by decide, Tryz.func174.trans (congrArg some (by kernel_rfl))⟩
  t0 := Tryz.underlying0
  a0 := Tryz.isAgg0
  z0 := Tryz.sizeOf0
  v0 := Tryz.zeroValue0
  t3 := Tryz.underlying3
  a3 := Tryz.isAgg3
  z3 := Tryz.sizeOf3
  v3 := Tryz.zeroValue3
  t4 := Tryz.underlying4
  a4 := Tryz.isAgg4
  z4 := Tryz.sizeOf4
  v4 := Tryz.zeroValue4
  t5 := Tryz.underlying5
  a5 := Tryz.isAgg5
  z5 := Tryz.sizeOf5
  v5 := Tryz.zeroValue5
  t9 := Tryz.underlying9
  a9 := Tryz.isAgg9
  z9 := Tryz.sizeOf9
  v9 := Tryz.zeroValue9
  t22 := Tryz.underlying30
  a22 := Tryz.isAgg30
  z22 := Tryz.sizeOf30
  v22 := Tryz.zeroValue30
  a24 := Tryz.isAgg9
  z24 := Tryz.sizeOf9
  t25 := Tryz.underlying118
  a25 := Tryz.isAgg118
  z25 := Tryz.sizeOf118
  v25 := Tryz.zeroValue118
  t39 := Tryz.underlying157
  a39 := Tryz.isAgg157
  z39 := Tryz.sizeOf157
  v39 := Tryz.zeroValue157
  t45 := Tryz.underlying162
  a45 := Tryz.isAgg162
  z45 := Tryz.sizeOf162
  v45 := Tryz.zeroValue162
  t46 := Tryz.underlying163
  a46 := Tryz.isAgg163
  z46 := Tryz.sizeOf163
  v46 := Tryz.zeroValue163
  t50 := Tryz.underlying167
  a50 := Tryz.isAgg167
  z50 := Tryz.sizeOf167
  v50 := Tryz.zeroValue167
  t53 := Tryz.underlying170
  a53 := Tryz.isAgg170
  z53 := Tryz.sizeOf170
  v53 := Tryz.zeroValue170
  t55 := Tryz.underlying172
  a55 := Tryz.isAgg172
  z55 := Tryz.sizeOf172
  v55 := Tryz.zeroValue172
  t66 := Tryz.underlying177
  a66 := Tryz.isAgg177
  z66 := Tryz.sizeOf177
  v66 := Tryz.zeroValue177
  t70 := Tryz.underlying181
  a70 := Tryz.isAgg181
  z70 := Tryz.sizeOf181
  v70 := Tryz.zeroValue181
  t76 := Tryz.underlying185
  a76 := Tryz.isAgg185
  z76 := Tryz.sizeOf185
  v76 := Tryz.zeroValue185
  t77 := Tryz.underlying186
  a77 := Tryz.isAgg186
  z77 := Tryz.sizeOf186
  v77 := Tryz.zeroValue186 }
end Go.Proofs
namespace Go.Proofs.YtnnehafmjfmbnaaGreatDoor.A
set_option linter.unusedVariables false
set_option linter.unusedSimpArgs false
open Go.RowKit Go.Maps Go.Sort Go.Shelf Go.Proofs
theorem clA : Zc4 Tryz.prog 92 where
 c:=⟨Tryz.f92,Tryz.func92,by kernel_rfl,by kernel_rfl⟩
 nil:=fun w=>AnyW.maps_Clone_nil Tryz.cloneA w
 some:=fun b es clock w hb=>AnyW.maps_Clone Tryz.cloneA b es clock w hb
theorem clB : Zc4 Tryz.prog 125 where
 c:=⟨Tryz.f125,Tryz.func125,by kernel_rfl,by kernel_rfl⟩
 nil:=fun w=>AnyW.maps_Clone_nil Tryz.cloneB w
 some:=fun b es clock w hb=>AnyW.maps_Clone Tryz.cloneB b es clock w hb
theorem clC : Zc4 Tryz.prog 126 where
 c:=⟨Tryz.f126,Tryz.func126,by kernel_rfl,by kernel_rfl⟩
 nil:=fun w=>AnyW.maps_Clone_nil Tryz.cloneC w
 some:=fun b es clock w hb=>AnyW.maps_Clone Tryz.cloneC b es clock w hb
def Zas (x y : List UInt8) : Int:=if x < y then -1 else if y < x then 1 else 0
theorem ZqG (x : List UInt8) (w : World) : Calls Tryz.prog 141 #[encStr x] w fun e w'=>e=.returned (.bool false)∧w'=w:=by
 go_enter Tryz.func141,Tryz.ntmps141
 go_wp2
 go_ret
 exact ⟨by simp,rfl⟩
theorem Zfj (x y : List UInt8) : x < y∨x=y∨y < x:=by
 by_cases h : x < y
 ·exact .inl h
 ·by_cases h2 : y < x
  ·exact .inr (.inr h2)
  ·exact .inr (.inl (List.le_antisymm h2 h))
theorem Zoz (x y : List UInt8) (w : World) : Calls Tryz.prog 130 #[encStr x,encStr y] w fun e w'=>e=.returned (.int .i64 (Zas x y))∧w'=w:=by
 have e141 : ∀ args w,(callFunc 141 args).run Tryz.prog w=.ok (.enter 141 args) w:=enters_of Tryz.func141 (by kernel_rfl) rfl
 have hb : Op.bytesLess x y=decide (x < y):=bytesLess_eq x y
 have ht:=Zfj x y
 have hn : ∀ a : List UInt8,¬ a < a:=fun a=>List.lt_irrefl a
 have has : x < y→¬ y < x:=fun h=>List.lt_asymm h
 go_enter Tryz.func130,Tryz.ntmps130
 go_wp2_with (go_at_call 141;refine (ZqG _ _).mono ?_;rintro e w' ⟨rfl,hw⟩;rw [hw])
 all_goals (go_ret;refine ⟨?_,rfl⟩;unfold Zas;rw [hb] at *;by_cases h1 : x < y <;> by_cases h2 : y < x <;> simp_all <;> exact absurd h2 (List.lt_irrefl _))
theorem Zke (x y : List UInt8) (w : World) : Calls Tryz.prog 97 #[encStr x,encStr y] w fun e w'=>e=.returned (.int .i64 (Zas x y))∧w'=w:=by
 have e130 : ∀ args w,(callFunc 130 args).run Tryz.prog w=.ok (.enter 130 args) w:=enters_of Tryz.func130 (by kernel_rfl) rfl
 go_enter Tryz.func97,Tryz.ntmps97
 go_wp2_with (go_at_call 130;refine (Zoz _ _ _).mono ?_;rintro e w' ⟨rfl,hw⟩;rw [hw])
 go_ret
 exact ⟨rfl,rfl⟩
theorem Zrk (blk off size : Nat) (w : World) : CmpLays1 Tryz.prog 97 #[] encStr Zas blk off size w:=fun m os dk hd x y=>
 (Zke x y _).mono fun e w' ⟨he,hw⟩=>⟨he,0,#[],by rw [hw];simp [grow,World.drewN]⟩
theorem Zdo (x y : List UInt8) : ltOf Zas x y=decide (x < y):=by
 unfold ltOf Zas
 by_cases h1 : x < y
 ·simp [h1]
 ·by_cases h2 : y < x <;> simp [h1,h2]
theorem Zsx : SWO (ltOf Zas) where
 irrefl x:=by rw [Zdo];exact decide_eq_false (List.lt_irrefl x)
 trans x y z h1 h2:=by rw [Zdo] at *;simp only [decide_eq_true_eq] at *;exact List.lt_trans h1 h2
 ntrans x y z h1 h2:=by
  rw [Zdo] at *
  simp only [decide_eq_false_iff_not] at *
  exact List.le_trans h2 h1
theorem ZoG {ss : List (List UInt8)} {d' : Array (List UInt8)} (hp : PermIn 0 ss.toArray.size ss.toArray d') (hs : SortedIn (ltOf Zas) 0 ss.toArray.size d') : d'=(ss.mergeSort fun x y=>decide (x≤y)).toArray:=by
 have hsz : d'.size=ss.length:=by simpa using hp.1
 have hperm : d'.toList.Perm ss:=by
  have h3 : d'.toList.Perm (ss.take d'.size):=by simpa [← hsz] using hp.2.2
  rwa [List.take_of_length_le (by omega)] at h3
 have hpw : d'.toList.Pairwise fun x y=>(decide (x≤y))=true:=by
  rw [List.pairwise_iff_getElem]
  intro i j hi hj hij
  have hi' : i < d'.size:=by simpa using hi
  have hj' : j < d'.size:=by simpa using hj
  have:=hs i j (Nat.zero_le _) hij (by simpa [hsz] using hj')
  rw [Zdo,getElem!_pos d' j hj',getElem!_pos d' i hi'] at this
  simp only [decide_eq_false_iff_not] at this
  simp only [Array.getElem_toList,decide_eq_true_eq]
  exact this
 have h1 : d'.toList.mergeSort (fun x y=>decide (x≤y))=d'.toList:=List.mergeSort_of_pairwise hpw
 have h2:=mergeSort_of_perm hperm
 apply Array.ext'
 rw [← h1]
 exact h2
theorem Zpt {g : FuncId} {args : List Value} {v : Value} {n : Nat} (hg : g < Wl) (hc : WW Tryz.prog g) (hx : ∀ w : World,RVs (ι0 Tryz.prog.globals.size) args args) (hrun : ∃ H',run Tryz.prog (fun _=>none) lvs n g args (List.replicate Tryz.prog.globals.size Zi.dead)=some (v,H')) (w : World) :
  Calls Tryz.prog g args.toArray w fun e w'=>∃ v',e=.returned v'∧Go.RowKit.Below w.heap.size w w':=by
 obtain ⟨H',hrun⟩:=hrun
 have hs:=ZdC (P:=Tryz.prog) (prim:=fun _=>none) (lvs:=lvs) (by kernel_rfl) (fun b g m h=>by cases h) n (b0 w) g args _ v H' hrun
 rcases hs with ⟨_,hC | ⟨e,⟨fn',h1,_,h2,_⟩,_⟩⟩ | ⟨hno,_⟩
 ·obtain ⟨_,hC⟩:=hC
  refine (hC (ι0 Tryz.prog.globals.size) w args ZrR (hx w)).mono fun e w' ⟨ι1,v',_,he,_,hS⟩=>⟨v',he,?_⟩
  exact ⟨hS.rest.1,hS.rest.2.1,hS.rest.2.2,hS.size,hS.old⟩
 ·obtain ⟨fn,h3,_,h4⟩:=hc
  rw [h3] at h1;cases h1
  rw [h4] at h2;cases h2
 ·exact absurd hg (Nat.not_lt_of_le hno)
noncomputable abbrev R0 (n : Nat) : Zd:=run Tryz.prog (fun _=>none) lvs n
section
variable {H : Zc} {n : Nat} {f : Value}
theorem ZrI : R0 (n+1) QD [.slice none 0 0,iv 0,iv 0,f] H=some (.tuple #[],H):=by
 rw [R0,W1 rfl]
 unfold ZP
 have w1 : IntKind.i64.wrap (0+1)=1:=w64 (by omega) (by omega)
 rw [Za Zs,w1]
 refine (ZM (j:=0) (vs:=[]) (H':=H) (ZD ?_)).trans ?_
 ·simp [ZP.l1,↓ZV,ZW,↓Qo,Qd,Qc,Qe,↓Zb,JA,Zw,JM,Qa,Jd,Qi,Jf,Q1,Qw,Jb,Qx,QK,QO,QN,Je,Zh,ZE,Yt,J5,QX,QS,JE,Zs,Qk,Jy,Jx,JD,ZH,Zn,Zg,QI,ZR,Ql,Jt,Jn,Jp,Jz,↓Yq,JF,↓g_r,Yr,Bool.not_true,Bool.not_false,Bool.false_eq_true,Bool.true_eq_false,reduceIte,List.tail_cons,List.headD_cons,decide_true,decide_false,cond_true,cond_false,Nat.beq_refl,YR,JY,Z4,ZN,ZA,Z7,QL,Jv,J2,JS,JC,JV,JW,Zu,List.replicate,Zq,Zp,QF,QG,QE,Zk,Q5,Zz,QH]
 ·rw [Zu];rfl
theorem ZrA {l : Value} : R0 (n+2) Qp [.slice none 0 0,iv 0,iv 0,l,f] H=some (.tuple #[],H):=by
 have e1 : run Tryz.prog (fun _=>none) lvs (n+1) QD [.slice none 0 0,iv 0,iv 0,f] H=_:=ZrI
 rw [R0,Zbh rfl]
 unfold QQ
 refine (Qr (v:=.tuple #[]) (H':=H) (ZU ?_)).trans rfl
 have w1 : IntKind.i64.wrap (0 - 0)=0:=w64 (by omega) (by omega)
 rw [Jv]
 unfold QQ.l1
 refine Qr ?_
 rw [Za Qk,w1,Za QI,Zb,if_pos (by simp),Za e1]
 rfl
theorem Zq6 {s : ByteArray} {i : Nat} (hi : i < s.size) (q : IntKind) (H : Zc) : ∃ b : UInt8,ixs (.string s) (.int q i) H=some (.int .u8 b.toNat,H):=by
 refine ⟨s[i],?_⟩
 unfold ixs
 simp only [Int.toNat_natCast]
 rw [if_pos (by omega),getElem?_pos s i hi]
set_option maxRecDepth 100000 in
theorem ZrP : ∃ v,R0 (n+2) ZaG [.int .u64 0] H=some (v,H):=by
 have e : ∃ v,R0 (n+1) WQ [.int .u64 0] H=some (v,H):=by
  rw [R0,ZgW rfl]
  unfold Zbj
  have w1 : IntKind.u8.wrap 0=((0 : Nat) : Int):=by rw [wu8];rfl
  generalize ht : (⟨#[0,1,2,2,3,3,3,3,4,4,4,4,4,4,4,4,5,5,5,5,5,5,5,5,5,5,5,5,5,5,5,5,6,6,6,6,6,6,6,6,6,6,6,6,6,6,6,6,6,6,6,6,6,6,6,6,6,6,6,6,6,6,6,6,7,7,7,7,7,7,7,7,7,7,7,7,7,7,7,7,7,7,7,7,7,7,7,7,7,7,7,7,7,7,7,7,7,7,7,7,7,7,7,7,7,7,7,7,7,7,7,7,7,7,7,7,7,7,7,7,7,7,7,7,7,7,7,7,8,8,8,8,8,8,8,8,8,8,8,8,8,8,8,8,8,8,8,8,8,8,8,8,8,8,8,8,8,8,8,8,8,8,8,8,8,8,8,8,8,8,8,8,8,8,8,8,8,8,8,8,8,8,8,8,8,8,8,8,8,8,8,8,8,8,8,8,8,8,8,8,8,8,8,8,8,8,8,8,8,8,8,8,8,8,8,8,8,8,8,8,8,8,8,8,8,8,8,8,8,8,8,8,8,8,8,8,8,8,8,8,8,8,8,8,8,8,8,8,8,8,8,8,8,8,8,8]⟩ : ByteArray)=tab
  have hs : tab.size=256:=by rw [← ht];rfl
  obtain ⟨b,hb⟩:=Zq6 (s:=tab) (i:=0) (by omega) .u8 H
  refine ⟨iv (IntKind.i64.wrap (0+IntKind.i64.wrap b.toNat)),?_⟩
  rw [Za Ql]
  refine (Ka (vs:=[.int .u64 0,iv 0]) (H':=H) (by rw [Zb,if_neg (by simp)];rfl)).trans ?_
  rw [Z4,Za Ql]
  refine (Ka (vs:=[.int .u64 0,iv 0]) (H':=H) (by rw [Zb,if_neg (by simp)];rfl)).trans ?_
  rw [Z4,Za Ql]
  refine (Ka (vs:=[.int .u64 0,iv 0]) (H':=H) (by rw [Zb,if_neg (by simp)];rfl)).trans ?_
  rw [Z4,Za Je,w1,Za hb,Za Je,Za Zs]
  rfl
 obtain ⟨v,e⟩:=e
 refine ⟨v,?_⟩
 rw [R0,ZiS rfl]
 unfold Zcq
 rw [Zb,if_neg (by simp),Za e]
 rfl
theorem ZqU : R0 (n+3) Y5 [.slice none 0 0,f] H=some (.tuple #[],H):=by
 obtain ⟨v,e1⟩:=ZrP (n:=n) (H:=H)
 have e2 : R0 (n+2) Qp [.slice none 0 0,iv 0,iv 0,v,f] H=some (.tuple #[],H):=ZrA
 rw [R0,Zbw rfl]
 unfold YY
 have w1 : IntKind.u64.wrap ((0 : Nat) : Int)=0:=by rw [Zsv];rfl
 rw [Za QO,Za Je,w1,Za e1]
 refine (Za e2).trans rfl
end
theorem Zp7 (w : World) : Calls Tryz.prog 128 #[.slice none 0 0,.func (.func 97) #[] #[]] w fun e w'=>∃ v',e=.returned v'∧Go.RowKit.Below w.heap.size w w':=
 Zpt (args:=[.slice none 0 0,.func (.func 97) #[] #[]]) (n:=3) (by decide) ⟨Tryz.f128,Tryz.func128,by kernel_rfl,by kernel_rfl⟩ (fun w=>.cons (.sc rfl) (.cons (.fn (fun l h=>by cases h) rfl (fun i hi=>by cases hi) rfl (fun i hi=>by cases hi)) .nil)) ⟨_,ZqU (n:=0)⟩ w
theorem ZeR {gk : FuncId} (hg : ∀ args w,(callFunc gk args).run Tryz.prog w=.ok (.enter gk args) w)
  (hseq : ∀ (w : World) (Bm b : Nat) (es : Array MapEntry) (clock : Nat) (ks : List (List UInt8)),Bm < w.heap.size→w.cell? ⟨Bm,0,none⟩=some (.map (some b))→w.heap[b]?=some (.map es clock)→es.toList.map (·.key)=ks.map strv→Go.MapKept.Stamped es clock→
   (∀ k∈ks,k.length≤1000000)→ks.length≤1000000→SeqGives Fence.wide 3 Tryz.prog gk #[.pointer (some ⟨Bm,0,none⟩)] encStr (fun ss=>ss.Perm ks) ks.length w) : Zd4 Tryz.prog 95 gk 97 where
 c:=⟨Tryz.f95,Tryz.func95,by kernel_rfl,by kernel_rfl⟩
 run:=fun w Bm b es clock ks hB hc hb hk hst hl hf=>by
  have e128 : ∀ args w,(callFunc 128 args).run Tryz.prog w=.ok (.enter 128 args) w:=enters_of Tryz.func128 (by kernel_rfl) rfl
  have e97 : ∀ args w,(callFunc 97 args).run Tryz.prog w=.ok (.enter 97 args) w:=enters_of Tryz.func97 (by kernel_rfl) rfl
  have hmax : ks.length≤maxLen:=Nat.le_trans hf (by decide)
  have cC:=AnyZ.collect_in Tryz.collA Fence.wide 5 trivial trivial rfl (by omega) gk #[.pointer (some ⟨Bm,0,none⟩)] trivial hg _ _ hmax (by omega) w (hseq w Bm b es clock ks hB hc hb hk hst hl hf)
  have cC:=(callsIn_wide (n:=5)).1 cC
  change Calls Tryz.prog 127 _ _ _ at cC
  go_enter Tryz.func95,Tryz.ntmps95
  go_wp2_with (go_at_call 127;refine cC.mono ?_;rintro e W ⟨v,ss,rfl,hS,hrow,hnil,hbl⟩)
  have hlen : ss.length=ks.length:=hS.length_eq
  rcases hrow.2 with ⟨rfl,hz⟩ | ⟨gb,cap,cur,rfl,hbase,hgb,r1,r2,r3,r4⟩
  ·have hss : ss=[]:=List.eq_nil_of_length_eq_zero hz
   go_wp2_with (go_at_call 128;refine (Zp7 W).mono ?_;rintro e w' ⟨v',rfl,hb2⟩)
   go_ret
   have hks : ks=[]:=List.eq_nil_of_length_eq_zero (by rw [← hlen,hss];rfl)
   subst hks
   exact ⟨_,0,rfl,⟨by simp [JI],.inl ⟨rfl,rfl⟩⟩,by simp,hbl.trans (hb2.mono (by have:=hbl.size;omega))⟩
  ·have hH : Holds encStr W gb 0 ss.toArray:=holds_of_block hgb (by simpa using r4)
   have hgl : gb < W.heap.size:=(Array.getElem?_eq_some_iff.1 hgb).1
   have cS:=Any.slices_SortFunc Tryz.sortA encStr (fun _=>rfl) Zas Zsx 97 #[] gb 0 cap ss.toArray W e97 (Zrk gb 0 _ W) hH hgl (by simp;omega)
   change Calls Tryz.prog 128 #[.slice (some ⟨gb,0,none⟩) ss.length cap,.func (.func 97) #[] #[]] W _ at cS
   go_wp2_with (go_at_call 128;refine cS.mono ?_;rintro e w' ⟨rfl,d',nn,os,hp,hs,rfl⟩)
   go_ret
   have hd:=ZoG hp hs
   subst hd
   have hks : JI ks=ss.mergeSort (fun x y=>decide (x≤y)):=(mergeSort_of_perm hS).symm
   rw [← hlen,hks]
   exact ⟨_,_,rfl,ownsRow_sorted (by simp) hbase hgb r1 r2 r3,hnil.trans ⟨fun h=>List.eq_nil_of_length_eq_zero (by rw [← hlen,h];rfl),fun h=>List.eq_nil_of_length_eq_zero (by rw [hlen,h];rfl)⟩,hbl.grown (grownBy_sorted _) hbl.size (fun j hj=>by cases hj;exact hbase)⟩
section
variable {H : Type}
def ZlP (v : Value) : Option (DataW H × List MemPlace):=some (.nil,[])
theorem own_of {P : Program} {k : TypeId} (hk : P.underlying k=some .string) {w : World} {b clock : Nat} {es : Array MapEntry} {ks : List (List UInt8)} (hb : w.heap[b]?=some (.map es clock)) (hks : es.toList.map (·.key)=ks.map strv) (hst : Go.MapKept.Stamped es clock)
  (hl : ∀ k∈ks,k.length≤1000000) (hf : ks.length≤1000000) : ∃ D0 : DataW H,w.ownsMap P k ZlP b ks.length D0∧ks.Perm (strKeys D0)∧Maps.size D0=ks.length:=by
 have hsz : es.size=ks.length:=by
  have:=congrArg List.length hks
  simpa using this
 have hrd : ∀ (x : MapEntry) (s : List UInt8),x.key=strv s→s.length≤1000000→Go.WideElems.rd (H:=H) P k ZlP x=some (.string s,.nil):=fun x s hs hlen=>by
  have h1 : (⟨s.toArray⟩ : ByteArray).size≤maxLen:=Nat.le_trans (by simpa [ByteArray.size] using hlen) (by decide)
  simp [Go.WideElems.rd,hs,keyOf,hk,mapKey,ZlP,h1,strv]
 have hmap : ∀ (l : List MapEntry) (q : List (List UInt8)),l.map (·.key)=q.map strv→(∀ s∈q,s.length≤1000000)→l.map (Go.WideElems.rg (H:=H) P k ZlP)=q.map fun s=>(Lit.string s,DataW.nil):=by
  intro l
  induction l with
  | nil=>intro q h _;cases q with | nil=>rfl | cons a q=>simp at h
  | cons x l ih=>
   intro q h hq
   cases q with
   | nil=>simp at h
   | cons a q=>
    simp only [List.map_cons,List.cons.injEq] at h
    rw [List.map_cons,List.map_cons,ih q h.2 (fun s hs=>hq s (List.mem_cons_of_mem _ hs))]
    congr 1
    unfold Go.WideElems.rg
    rw [hrd x a h.1 (hq a (by simp))]
    rfl
 refine ⟨.map ((es.toList.map (Go.WideElems.rg P k ZlP)).foldr DataW.insert []),⟨es,clock,hb,⟨by rw [hsz];exact Nat.le_trans hf (by decide),hst,fun x hx=>?_⟩,by omega,rfl⟩,?_,?_⟩
 ·have : x.key∈ks.map strv:=by rw [← hks];exact List.mem_map.2 ⟨x,hx,rfl⟩
  obtain ⟨s,h1,h2⟩:=List.mem_map.1 this
  exact ⟨_,hrd x s h2.symm (hl s h1)⟩
 ·rw [hmap _ _ hks hl]
  have h1:=(Go.WideShapes.sorted_perm (H:=H) (ks.map fun s=>(Lit.string s,DataW.nil))).map fun p=>Go.strOf p.1
  have h2 : (ks.map fun s=>(Lit.string s,(DataW.nil : DataW H))).map (fun p=>Go.strOf p.1)=ks:=by
   rw [List.map_map];exact (List.map_congr_left fun a _=>rfl).trans (List.map_id ks)
  rw [h2] at h1
  exact h1.symm
 ·rw [hmap _ _ hks hl]
  have:=(Go.WideShapes.sorted_perm (H:=H) (ks.map fun s=>(Lit.string s,DataW.nil))).length_eq
  rw [List.length_map] at this
  exact this
end
theorem Zhv {g Bm n : Nat} {ks ks' : List (List UInt8)} {w : World} (h : SeqGives Fence.wide 3 Tryz.prog g #[.pointer (some ⟨Bm,0,none⟩)] encStr (fun ss=>ss.Perm ks') n w) (hn : n=ks.length) (hp : ks.Perm ks') : SeqGives Fence.wide 3 Tryz.prog g #[.pointer (some ⟨Bm,0,none⟩)] encStr (fun ss=>ss.Perm ks) ks.length w:=by
 subst hn
 intro l J W hW hJ hY h0
 refine (h l J W hW hJ hY h0).mono fun e w' ⟨h1,xs,h2,h3⟩=>⟨h1,xs,h2.trans hp.symm,h3⟩
theorem keysA : Zd4 Tryz.prog 95 129 97:=ZeR (enters_of Tryz.func129 (by kernel_rfl) rfl) fun w Bm b es clock ks hB hc hb hk hst hl hf=>by
 obtain ⟨D0,hown,hp,hs⟩:=own_of (H:=Unit) (P:=Tryz.prog) (k:=Tryz.keysA_ren.t 26) (by kernel_rfl) hb hk hst hl hf
 exact Zhv (AnyZ.keys_gives (ρ:=Tryz.keysA_ren) { Tryz.keysA with } Fence.wide 3 trivial rfl (by omega) Bm b ks.length D0 w hB hc hown) hs hp
theorem keysB : Zd4 Tryz.prog 95 143 97:=ZeR (enters_of Tryz.func143 (by kernel_rfl) rfl) fun w Bm b es clock ks hB hc hb hk hst hl hf=>by
 obtain ⟨D0,hown,hp,hs⟩:=own_of (H:=Unit) (P:=Tryz.prog) (k:=Tryz.keysB_ren.t 26) (by kernel_rfl) hb hk hst hl hf
 exact Zhv (AnyZ.keys_gives (ρ:=Tryz.keysB_ren) { Tryz.keysB with } Fence.wide 3 trivial rfl (by omega) Bm b ks.length D0 w hB hc hown) hs hp
theorem keysC : Zd4 Tryz.prog 95 158 97:=ZeR (enters_of Tryz.func158 (by kernel_rfl) rfl) fun w Bm b es clock ks hB hc hb hk hst hl hf=>by
 obtain ⟨D0,hown,hp,hs⟩:=own_of (H:=Unit) (P:=Tryz.prog) (k:=Tryz.keysC_ren.t 26) (by kernel_rfl) hb hk hst hl hf
 exact Zhv (AnyZ.keys_gives (ρ:=Tryz.keysC_ren) { Tryz.keysC with } Fence.wide 3 trivial rfl (by omega) Bm b ks.length D0 w hB hc hown) hs hp
abbrev ZfD : List Nat:=[129,143,158]
noncomputable def np : Nat→Option (List Value→M Value)
 | 92=>some ZfT
 | 125=>some ZfT
 | 126=>some ZfT
 | 94=>some ZiM
 | 95=>some (Za9 ZfD Jj)
 | 171=>some ZeL
 | 165=>some Zes
 | _=>none
theorem np_sound (w0 : ZY) : ∀ g m,np g=some m→Zb5 Tryz.prog Tryz.prog.globals.size w0 g m:=by
 intro g m h
 unfold np at h
 split at h
 ·cases h;exact ZdH clA
 ·cases h;exact ZdH clB
 ·cases h;exact ZdH clC
 ·cases h;exact ZnR (Zrx clC)
 ·cases h
  exact ZmD (by simp) fun gk hg=>by
   simp only [List.mem_cons,List.not_mem_nil,or_false] at hg
   rcases hg with rfl | rfl | rfl
   ·exact keysA
   ·exact keysB
   ·exact keysC
 ·cases h;exact (Zni ⟨Tryz.f171,Tryz.func171,by kernel_rfl,by kernel_rfl,by kernel_rfl,by kernel_rfl⟩)
 ·cases h;exact (ZnA ⟨Tryz.f165,Tryz.func165,by kernel_rfl,by kernel_rfl,by kernel_rfl,by kernel_rfl⟩)
 ·cases h
noncomputable abbrev R (n : Nat) : Zd:=run Tryz.prog np lvs n
end Go.Proofs.YtnnehafmjfmbnaaGreatDoor.A

namespace Go.Proofs.YtnnehafmjfmbnaaGreatDoor.A
set_option linter.unusedVariables false
set_option linter.unusedSimpArgs false
open Go.Proofs Go.Proofs.YtnnehafmjfmbnaaGreatDoor
abbrev u8v (b : UInt8) : Value:=.int .u8 b.toNat
def YL (b : UInt8) : Bool:=decide (97≤b.toNat) && decide (b.toNat≤122)
def W7 (b : UInt8) : Bool:=decide (48≤b.toNat) && decide (b.toNat≤57)
def ZcM (b : UInt8) : Bool:=YL b || (W7 b || (decide (b.toNat=45) || decide (b.toNat=46)))
def Zfu (b : UInt8) : Bool:=W7 b || (decide (97≤b.toNat) && decide (b.toNat≤102))
def Y9 (b : UInt8) : Bool:=YL b || W7 b
def Zo (s : List UInt8) : Bool:=decide (1≤s.length) && decide (s.length≤12) && s.all ZcM && YL (s.getD 0 0) && Y9 (s.getD (s.length - 1) 0)
def Zaq (s : List UInt8) : Bool:=decide (1≤s.length) && decide (s.length≤12) && s.all Zfu
section
variable {H : Zc} {n : Nat} {b : UInt8} {s : List UInt8}
theorem WR {i : Nat} {x : UInt8} (hi : s[i]?=some x) (q : IntKind) (H : Zc) : ixs (strv s) (.int q i) H=some (u8v x,H):=by
 have hlt : i < s.length:=(List.getElem?_eq_some_iff.1 hi).1
 have hx : s[i]=x:=(List.getElem?_eq_some_iff.1 hi).2
 have hs : i < (⟨s.toArray⟩ : ByteArray).size:=by simpa [ByteArray.size] using hlt
 unfold ixs strv
 simp only [Int.toNat_natCast]
 rw [if_pos (by omega),getElem?_pos (⟨s.toArray⟩ : ByteArray) i hs]
 have : (⟨s.toArray⟩ : ByteArray)[i]=x:=by rw [← hx];rfl
 rw [this]
theorem Zeh : R (n+1) JX [u8v b] H=some (.bool (YL b),H):=by
 rw [R,Zjp rfl]
 unfold YL
 by_cases h1 : (97 : Int)≤b.toNat
 ·have h1' : 97≤b.toNat:=by omega
  by_cases h2 : (b.toNat : Int)≤122
  ·have h2' : b.toNat≤122:=by omega
   simp [W0,↓ZV,ZW,↓Qo,Qd,Qc,Qe,↓Zb,JA,Zw,JM,Qa,Jd,Qi,Jf,Q1,Qw,Jb,Qx,QK,QO,QN,Je,Zh,ZE,Yt,J5,QX,QS,JE,Zs,Qk,Jy,Jx,JD,ZH,Zn,Zg,QI,ZR,Ql,Jt,Jn,Jp,Jz,↓Yq,JF,↓g_r,Yr,Bool.not_true,Bool.not_false,Bool.false_eq_true,Bool.true_eq_false,reduceIte,List.tail_cons,List.headD_cons,decide_true,decide_false,cond_true,cond_false,Nat.beq_refl,YR,JY,Z4,ZN,ZA,Z7,QL,Jv,J2,JS,JC,JV,JW,Zu,List.replicate,Zq,Zp,QF,QG,QE,Zk,Q5,Zz,QH,h1,h2,h1',h2']
  ·have h2' : ¬ b.toNat≤122:=by omega
   simp [W0,↓ZV,ZW,↓Qo,Qd,Qc,Qe,↓Zb,JA,Zw,JM,Qa,Jd,Qi,Jf,Q1,Qw,Jb,Qx,QK,QO,QN,Je,Zh,ZE,Yt,J5,QX,QS,JE,Zs,Qk,Jy,Jx,JD,ZH,Zn,Zg,QI,ZR,Ql,Jt,Jn,Jp,Jz,↓Yq,JF,↓g_r,Yr,Bool.not_true,Bool.not_false,Bool.false_eq_true,Bool.true_eq_false,reduceIte,List.tail_cons,List.headD_cons,decide_true,decide_false,cond_true,cond_false,Nat.beq_refl,YR,JY,Z4,ZN,ZA,Z7,QL,Jv,J2,JS,JC,JV,JW,Zu,List.replicate,Zq,Zp,QF,QG,QE,Zk,Q5,Zz,QH,h1,h2,h1',h2']
 ·have h1' : ¬ 97≤b.toNat:=by omega
  simp [W0,↓ZV,ZW,↓Qo,Qd,Qc,Qe,↓Zb,JA,Zw,JM,Qa,Jd,Qi,Jf,Q1,Qw,Jb,Qx,QK,QO,QN,Je,Zh,ZE,Yt,J5,QX,QS,JE,Zs,Qk,Jy,Jx,JD,ZH,Zn,Zg,QI,ZR,Ql,Jt,Jn,Jp,Jz,↓Yq,JF,↓g_r,Yr,Bool.not_true,Bool.not_false,Bool.false_eq_true,Bool.true_eq_false,reduceIte,List.tail_cons,List.headD_cons,decide_true,decide_false,cond_true,cond_false,Nat.beq_refl,YR,JY,Z4,ZN,ZA,Z7,QL,Jv,J2,JS,JC,JV,JW,Zu,List.replicate,Zq,Zp,QF,QG,QE,Zk,Q5,Zz,QH,h1,h1']
theorem Zgs : R (n+1) Yj [u8v b] H=some (.bool (W7 b),H):=by
 rw [R,Zki rfl]
 unfold W7
 by_cases h1 : (48 : Int)≤b.toNat
 ·have h1' : 48≤b.toNat:=by omega
  by_cases h2 : (b.toNat : Int)≤57
  ·have h2' : b.toNat≤57:=by omega
   simp [Zau,↓ZV,ZW,↓Qo,Qd,Qc,Qe,↓Zb,JA,Zw,JM,Qa,Jd,Qi,Jf,Q1,Qw,Jb,Qx,QK,QO,QN,Je,Zh,ZE,Yt,J5,QX,QS,JE,Zs,Qk,Jy,Jx,JD,ZH,Zn,Zg,QI,ZR,Ql,Jt,Jn,Jp,Jz,↓Yq,JF,↓g_r,Yr,Bool.not_true,Bool.not_false,Bool.false_eq_true,Bool.true_eq_false,reduceIte,List.tail_cons,List.headD_cons,decide_true,decide_false,cond_true,cond_false,Nat.beq_refl,YR,JY,Z4,ZN,ZA,Z7,QL,Jv,J2,JS,JC,JV,JW,Zu,List.replicate,Zq,Zp,QF,QG,QE,Zk,Q5,Zz,QH,h1,h2,h1',h2']
  ·have h2' : ¬ b.toNat≤57:=by omega
   simp [Zau,↓ZV,ZW,↓Qo,Qd,Qc,Qe,↓Zb,JA,Zw,JM,Qa,Jd,Qi,Jf,Q1,Qw,Jb,Qx,QK,QO,QN,Je,Zh,ZE,Yt,J5,QX,QS,JE,Zs,Qk,Jy,Jx,JD,ZH,Zn,Zg,QI,ZR,Ql,Jt,Jn,Jp,Jz,↓Yq,JF,↓g_r,Yr,Bool.not_true,Bool.not_false,Bool.false_eq_true,Bool.true_eq_false,reduceIte,List.tail_cons,List.headD_cons,decide_true,decide_false,cond_true,cond_false,Nat.beq_refl,YR,JY,Z4,ZN,ZA,Z7,QL,Jv,J2,JS,JC,JV,JW,Zu,List.replicate,Zq,Zp,QF,QG,QE,Zk,Q5,Zz,QH,h1,h2,h1',h2']
 ·have h1' : ¬ 48≤b.toNat:=by omega
  simp [Zau,↓ZV,ZW,↓Qo,Qd,Qc,Qe,↓Zb,JA,Zw,JM,Qa,Jd,Qi,Jf,Q1,Qw,Jb,Qx,QK,QO,QN,Je,Zh,ZE,Yt,J5,QX,QS,JE,Zs,Qk,Jy,Jx,JD,ZH,Zn,Zg,QI,ZR,Ql,Jt,Jn,Jp,Jz,↓Yq,JF,↓g_r,Yr,Bool.not_true,Bool.not_false,Bool.false_eq_true,Bool.true_eq_false,reduceIte,List.tail_cons,List.headD_cons,decide_true,decide_false,cond_true,cond_false,Nat.beq_refl,YR,JY,Z4,ZN,ZA,Z7,QL,Jv,J2,JS,JC,JV,JW,Zu,List.replicate,Zq,Zp,QF,QG,QE,Zk,Q5,Zz,QH,h1,h1']
theorem Zhf {a b : Nat} : ((a : Int)==(b : Int))=decide (a=b):=by
 rw [Bool.eq_iff_iff,beq_iff_eq,decide_eq_true_eq];omega
theorem Zrq : R (n+2) Zbn [u8v b] H=some (.bool (ZcM b),H):=by
 have e1 : run Tryz.prog np lvs (n+1) JX [u8v b] H=some (.bool (YL b),H):=Zeh
 have e2 : run Tryz.prog np lvs (n+1) Yj [u8v b] H=some (.bool (W7 b),H):=Zgs
 have q1 : ((b.toNat : Int)==45)=decide (b.toNat=45):=Zhf (b:=45)
 have q2 : ((b.toNat : Int)==46)=decide (b.toNat=46):=Zhf (b:=46)
 rw [R,Zls rfl]
 unfold ZcM
 generalize YL b=p at e1 ⊢
 generalize W7 b=q at e2 ⊢
 cases p <;> cases q <;> cases h3 : decide (b.toNat=45) <;> simp [ZeE,↓ZV,ZW,↓Qo,Qd,Qc,Qe,↓Zb,JA,Zw,JM,Qa,Jd,Qi,Jf,Q1,Qw,Jb,Qx,QK,QO,QN,Je,Zh,ZE,Yt,J5,QX,QS,JE,Zs,Qk,Jy,Jx,JD,ZH,Zn,Zg,QI,ZR,Ql,Jt,Jn,Jp,Jz,↓Yq,JF,↓g_r,Yr,Bool.not_true,Bool.not_false,Bool.false_eq_true,Bool.true_eq_false,reduceIte,List.tail_cons,List.headD_cons,decide_true,decide_false,cond_true,cond_false,Nat.beq_refl,YR,JY,Z4,ZN,ZA,Z7,QL,Jv,J2,JS,JC,JV,JW,Zu,List.replicate,Zq,Zp,QF,QG,QE,Zk,Q5,Zz,QH,e1,e2,q1,q2,h3] <;> (cases h4 : decide (b.toNat=46) <;> simp_all)
theorem Zsa : R (n+2) Zaz [u8v b] H=some (.bool (Zfu b),H):=by
 have e2 : run Tryz.prog np lvs (n+1) Yj [u8v b] H=some (.bool (W7 b),H):=Zgs
 rw [R,Zkq rfl]
 unfold Zfu
 generalize W7 b=q at e2 ⊢
 cases q
 ·by_cases h1 : (97 : Int)≤b.toNat
  ·have h1' : 97≤b.toNat:=by omega
   by_cases h2 : (b.toNat : Int)≤102
   ·have h2' : b.toNat≤102:=by omega
    simp [WJ,↓ZV,ZW,↓Qo,Qd,Qc,Qe,↓Zb,JA,Zw,JM,Qa,Jd,Qi,Jf,Q1,Qw,Jb,Qx,QK,QO,QN,Je,Zh,ZE,Yt,J5,QX,QS,JE,Zs,Qk,Jy,Jx,JD,ZH,Zn,Zg,QI,ZR,Ql,Jt,Jn,Jp,Jz,↓Yq,JF,↓g_r,Yr,Bool.not_true,Bool.not_false,Bool.false_eq_true,Bool.true_eq_false,reduceIte,List.tail_cons,List.headD_cons,decide_true,decide_false,cond_true,cond_false,Nat.beq_refl,YR,JY,Z4,ZN,ZA,Z7,QL,Jv,J2,JS,JC,JV,JW,Zu,List.replicate,Zq,Zp,QF,QG,QE,Zk,Q5,Zz,QH,e2,h1,h2,h1',h2']
   ·have h2' : ¬ b.toNat≤102:=by omega
    simp [WJ,↓ZV,ZW,↓Qo,Qd,Qc,Qe,↓Zb,JA,Zw,JM,Qa,Jd,Qi,Jf,Q1,Qw,Jb,Qx,QK,QO,QN,Je,Zh,ZE,Yt,J5,QX,QS,JE,Zs,Qk,Jy,Jx,JD,ZH,Zn,Zg,QI,ZR,Ql,Jt,Jn,Jp,Jz,↓Yq,JF,↓g_r,Yr,Bool.not_true,Bool.not_false,Bool.false_eq_true,Bool.true_eq_false,reduceIte,List.tail_cons,List.headD_cons,decide_true,decide_false,cond_true,cond_false,Nat.beq_refl,YR,JY,Z4,ZN,ZA,Z7,QL,Jv,J2,JS,JC,JV,JW,Zu,List.replicate,Zq,Zp,QF,QG,QE,Zk,Q5,Zz,QH,e2,h1,h2,h1',h2']
  ·have h1' : ¬ 97≤b.toNat:=by omega
   simp [WJ,↓ZV,ZW,↓Qo,Qd,Qc,Qe,↓Zb,JA,Zw,JM,Qa,Jd,Qi,Jf,Q1,Qw,Jb,Qx,QK,QO,QN,Je,Zh,ZE,Yt,J5,QX,QS,JE,Zs,Qk,Jy,Jx,JD,ZH,Zn,Zg,QI,ZR,Ql,Jt,Jn,Jp,Jz,↓Yq,JF,↓g_r,Yr,Bool.not_true,Bool.not_false,Bool.false_eq_true,Bool.true_eq_false,reduceIte,List.tail_cons,List.headD_cons,decide_true,decide_false,cond_true,cond_false,Nat.beq_refl,YR,JY,Z4,ZN,ZA,Z7,QL,Jv,J2,JS,JC,JV,JW,Zu,List.replicate,Zq,Zp,QF,QG,QE,Zk,Q5,Zz,QH,e2,h1,h1']
 ·simp [WJ,↓ZV,ZW,↓Qo,Qd,Qc,Qe,↓Zb,JA,Zw,JM,Qa,Jd,Qi,Jf,Q1,Qw,Jb,Qx,QK,QO,QN,Je,Zh,ZE,Yt,J5,QX,QS,JE,Zs,Qk,Jy,Jx,JD,ZH,Zn,Zg,QI,ZR,Ql,Jt,Jn,Jp,Jz,↓Yq,JF,↓g_r,Yr,Bool.not_true,Bool.not_false,Bool.false_eq_true,Bool.true_eq_false,reduceIte,List.tail_cons,List.headD_cons,decide_true,decide_false,cond_true,cond_false,Nat.beq_refl,YR,JY,Z4,ZN,ZA,Z7,QL,Jv,J2,JS,JC,JV,JW,Zu,List.replicate,Zq,Zp,QF,QG,QE,Zk,Q5,Zz,QH,e2]
theorem Zoc {f : Value} {p : UInt8→Bool} (hf : ∀ (b : UInt8) (H : Zc),Yz (R n) f [u8v b] H=some (.bool (p b),H)) (hs : s.length≤1000000000) : ∀ (t k : Nat),s.length - k=t→k≤s.length→
  Zj (c4 (Kp.l1 (R n))) [strv s,f,iv s.length,iv k] H=some (if (s.drop k).all p then .ext 0 [] else .ret (.bool false),H)
 | 0,k,ht,hk=>by
  have : k=s.length:=by omega
  subst this
  rw [List.drop_length]
  refine ZD ?_
  simp [Kp.l1,↓ZV,ZW,↓Qo,Qd,Qc,Qe,↓Zb,JA,Zw,JM,Qa,Jd,Qi,Jf,Q1,Qw,Jb,Qx,QK,QO,QN,Je,Zh,ZE,Yt,J5,QX,QS,JE,Zs,Qk,Jy,Jx,JD,ZH,Zn,Zg,QI,ZR,Ql,Jt,Jn,Jp,Jz,↓Yq,JF,↓g_r,Yr,Bool.not_true,Bool.not_false,Bool.false_eq_true,Bool.true_eq_false,reduceIte,List.tail_cons,List.headD_cons,decide_true,decide_false,cond_true,cond_false,Nat.beq_refl,YR,JY,Z4,ZN,ZA,Z7,QL,Jv,J2,JS,JC,JV,JW,Zu,List.replicate,Zq,Zp,QF,QG,QE,Zk,Q5,Zz,QH]
 | t+1,k,ht,hk=>by
  have hkl : k < s.length:=by omega
  have hlt : (k : Int) < s.length:=by omega
  have hg:=List.getElem?_eq_getElem hkl
  have hd:=List.drop_eq_getElem_cons hkl
  generalize s[k]=b at hg hd
  have x1:=WR hg .i64 H
  have ih:=Zoc hf hs t (k+1) (by omega) (by omega)
  rw [hd,List.all_cons]
  cases hp : p b
  ·refine ZU ?_
   have e:=hf b H
   rw [hp] at e
   rw [ZA]
   unfold Kp.l1
   rw [Za Zg,Zb,if_pos (by simpa using hlt),Za x1,Za e,Za ZE,Zb,if_pos (by rfl)]
   rfl
  ·rw [Bool.true_and]
   refine (Zv ?_).trans ih
   have e:=hf b H
   rw [hp] at e
   rw [ZA]
   unfold Kp.l1
   rw [Za Zg,Zb,if_pos (by simpa using hlt),Za x1,Za e,Za ZE,Zb,if_neg (by simp),Za Zs,Qb (by omega)]
   rfl
theorem ZnY {f : Value} {p : UInt8→Bool} (hf : ∀ (b : UInt8) (H : Zc),Yz (R n) f [u8v b] H=some (.bool (p b),H)) (hs : s.length≤1000000000) : R (n+1) YQ [strv s,f] H=some (.bool (s.all p),H):=by
 have e:=Zoc (H:=H) hf hs s.length 0 (by omega) (by omega)
 rw [List.drop_zero] at e
 have e : Zj (c4 (Kp.l1 (R n))) [strv s,f,iv s.length,.int .i64 0] H=_:=e
 rw [R,Zmx rfl]
 unfold Kp
 rw [Za Zz]
 cases h : s.all p
 ·rw [h] at e
  rw [Qr e];rfl
 ·rw [h] at e
  rw [ZM e,Zu];rfl
theorem Zlr {g : Nat} {args : List Value} (hy : Nat.blt g Wl=true:=by rfl) : Yz (R n) (.func (.func g) #[] #[]) args=R n g args:=by
 have : Yz (R n) (.func (.func g) #[] #[]) args=R n g ([]++(args++[])):=by
  simp only [Yz,hy,cond_true]
 rw [this];simp
theorem Zom (hs : s.length≤1000000000) : R (n+3) YQ [strv s,.func (.func Zbn) #[] #[]] H=some (.bool (s.all ZcM),H):=
 ZnY (fun b H=>by rw [Zlr];exact Zrq) hs
theorem ZpU (hs : s.length≤1000000000) : R (n+3) YQ [strv s,.func (.func Zaz) #[] #[]] H=some (.bool (s.all Zfu),H):=
 ZnY (fun b H=>by rw [Zlr];exact Zsa) hs
theorem ZgC : bop .str .eql (strv s) (.string ⟨#[]⟩) H=some (.bool (decide (s.length=0)),H):=by
 have:=Zb2 (H:=H) (a:=s) (b:=[])
 have h : (s==[])=decide (s.length=0):=by cases s <;> simp
 rw [h] at this
 exact this
theorem ZjY : R (n+4) KG [strv s] H=some (.bool (Zo s),H):=by
 rw [R,ZjE rfl]
 unfold Zo
 by_cases h0 : s.length=0
 ·have h1 : ¬ 1≤s.length:=by omega
  unfold W4
  rw [Za ZgC,decide_eq_true h0]
  simp [↓ZV,ZW,↓Qo,Qd,Qc,Qe,↓Zb,JA,Zw,JM,Qa,Jd,Qi,Jf,Q1,Qw,Jb,Qx,QK,QO,QN,Je,Zh,ZE,Yt,J5,QX,QS,JE,Zs,Qk,Jy,Jx,JD,ZH,Zn,Zg,QI,ZR,Ql,Jt,Jn,Jp,Jz,↓Yq,JF,↓g_r,Yr,Bool.not_true,Bool.not_false,Bool.false_eq_true,Bool.true_eq_false,reduceIte,List.tail_cons,List.headD_cons,decide_true,decide_false,cond_true,cond_false,Nat.beq_refl,YR,JY,Z4,ZN,ZA,Z7,QL,Jv,J2,JS,JC,JV,JW,Zu,List.replicate,Zq,Zp,QF,QG,QE,Zk,Q5,Zz,QH,h1]
 ·have h1 : 1≤s.length:=by omega
  by_cases h12 : s.length≤12
  ·have e1 : run Tryz.prog np lvs (n+3) YQ [strv s,.func (.func Zbn) #[] #[]] H=some (.bool (s.all ZcM),H):=Zom (by omega)
   have g0 : s[0]?=some (s.getD 0 0):=by rw [List.getElem?_eq_getElem (by omega)];simp [List.getD_eq_getElem?_getD,List.getElem?_eq_getElem (show 0 < s.length by omega)]
   have gl : s[s.length - 1]?=some (s.getD (s.length - 1) 0):=by rw [List.getElem?_eq_getElem (by omega)];simp [List.getD_eq_getElem?_getD,List.getElem?_eq_getElem (show s.length - 1 < s.length by omega)]
   have x0 : ixs (strv s) (.int .i64 0) H=some (u8v (s.getD 0 0),H):=WR g0 .i64 H
   have xl:=WR gl .i64 H
   have wl:=ZkJ (k:=s.length) (by omega) (by omega)
   generalize s.getD 0 0=b0 at x0
   generalize s.getD (s.length - 1) 0=bl at xl
   have e2 : run Tryz.prog np lvs (n+3) JX [u8v b0] H=some (.bool (YL b0),H):=Zeh
   have e3 : run Tryz.prog np lvs (n+3) JX [u8v bl] H=some (.bool (YL bl),H):=Zeh
   have e4 : run Tryz.prog np lvs (n+3) Yj [u8v bl] H=some (.bool (W7 bl),H):=Zgs
   have q1 : bop .int .gtr (iv s.length) (.int .i64 12) H=some (.bool false,H):=by rw [ZR,decide_eq_false (by omega)]
   unfold W4
   rw [Za ZgC,decide_eq_false h0,decide_eq_true h1,decide_eq_true h12]
   rw [ZQ,Zf,Za Zz,Zf,Za q1,Z5,ZN,Za Zh]
   simp only [cond_false]
   rw [ZQ,Zf,Za x0,Zf,Za e2,Zf,Za ZE,Z5,ZA,Za Zh]
   simp only [cond_false]
   cases hb0 : YL b0
   ·simp [↓ZV,ZW,↓Qo,Qd,Qc,Qe,↓Zb,JA,Zw,JM,Qa,Jd,Qi,Jf,Q1,Qw,Jb,Qx,QK,QO,QN,Je,Zh,ZE,Yt,J5,QX,QS,JE,Zs,Qk,Jy,Jx,JD,ZH,Zn,Zg,QI,ZR,Ql,Jt,Jn,Jp,Jz,↓Yq,JF,↓g_r,Yr,Bool.not_true,Bool.not_false,Bool.false_eq_true,Bool.true_eq_false,reduceIte,List.tail_cons,List.headD_cons,decide_true,decide_false,cond_true,cond_false,Nat.beq_refl,YR,JY,Z4,ZN,ZA,Z7,QL,Jv,J2,JS,JC,JV,JW,Zu,List.replicate,Zq,Zp,QF,QG,QE,Zk,Q5,Zz,QH]
   ·simp only [Bool.not_true]
    rw [ZQ,Zf,Za e1,Zf,Za ZE,Z5,ZN,Za Zh]
    simp only [cond_false]
    cases hall : s.all ZcM
    ·simp [↓ZV,ZW,↓Qo,Qd,Qc,Qe,↓Zb,JA,Zw,JM,Qa,Jd,Qi,Jf,Q1,Qw,Jb,Qx,QK,QO,QN,Je,Zh,ZE,Yt,J5,QX,QS,JE,Zs,Qk,Jy,Jx,JD,ZH,Zn,Zg,QI,ZR,Ql,Jt,Jn,Jp,Jz,↓Yq,JF,↓g_r,Yr,Bool.not_true,Bool.not_false,Bool.false_eq_true,Bool.true_eq_false,reduceIte,List.tail_cons,List.headD_cons,decide_true,decide_false,cond_true,cond_false,Nat.beq_refl,YR,JY,Z4,ZN,ZA,Z7,QL,Jv,J2,JS,JC,JV,JW,Zu,List.replicate,Zq,Zp,QF,QG,QE,Zk,Q5,Zz,QH]
    ·simp only [Bool.not_true]
     rw [Zb,if_neg (by simp),Za Zz,Za Qk,wl,Za xl,Za e3]
     unfold Y9
     cases hl : YL bl
     ·rw [ZQ,Zf,Za e4,Z5,Z4,Za Zh]
      simp [ret]
     ·simp [↓ZV,ZW,↓Qo,Qd,Qc,Qe,↓Zb,JA,Zw,JM,Qa,Jd,Qi,Jf,Q1,Qw,Jb,Qx,QK,QO,QN,Je,Zh,ZE,Yt,J5,QX,QS,JE,Zs,Qk,Jy,Jx,JD,ZH,Zn,Zg,QI,ZR,Ql,Jt,Jn,Jp,Jz,↓Yq,JF,↓g_r,Yr,Bool.not_true,Bool.not_false,Bool.false_eq_true,Bool.true_eq_false,reduceIte,List.tail_cons,List.headD_cons,decide_true,decide_false,cond_true,cond_false,Nat.beq_refl,YR,JY,Z4,ZN,ZA,Z7,QL,Jv,J2,JS,JC,JV,JW,Zu,List.replicate,Zq,Zp,QF,QG,QE,Zk,Q5,Zz,QH]
  ·have q1 : bop .int .gtr (iv s.length) (.int .i64 12) H=some (.bool true,H):=by rw [ZR,decide_eq_true (by omega)]
   unfold W4
   rw [Za ZgC,decide_eq_false h0]
   rw [ZQ,Zf,Za Zz,Zf,Za q1,Z5,ZN,Za Zh]
   simp [↓ZV,ZW,↓Qo,Qd,Qc,Qe,↓Zb,JA,Zw,JM,Qa,Jd,Qi,Jf,Q1,Qw,Jb,Qx,QK,QO,QN,Je,Zh,ZE,Yt,J5,QX,QS,JE,Zs,Qk,Jy,Jx,JD,ZH,Zn,Zg,QI,ZR,Ql,Jt,Jn,Jp,Jz,↓Yq,JF,↓g_r,Yr,Bool.not_true,Bool.not_false,Bool.false_eq_true,Bool.true_eq_false,reduceIte,List.tail_cons,List.headD_cons,decide_true,decide_false,cond_true,cond_false,Nat.beq_refl,YR,JY,Z4,ZN,ZA,Z7,QL,Jv,J2,JS,JC,JV,JW,Zu,List.replicate,Zq,Zp,QF,QG,QE,Zk,Q5,Zz,QH,h12]
def ZS (s : List UInt8) : Int:=if Zo s then 0 else 10
def Yh (s : List UInt8) : Int:=if Zaq s then 0 else 4
theorem ZbO : R (n+5) Q7 [strv s] H=some (iv (ZS s),H):=by
 have e1 : run Tryz.prog np lvs (n+4) KG [strv s] H=some (.bool (Zo s),H):=ZjY
 rw [R,ZkL rfl]
 unfold ZS
 generalize Zo s=q at e1 ⊢
 cases q <;> simp [Zer,↓ZV,ZW,↓Qo,Qd,Qc,Qe,↓Zb,JA,Zw,JM,Qa,Jd,Qi,Jf,Q1,Qw,Jb,Qx,QK,QO,QN,Je,Zh,ZE,Yt,J5,QX,QS,JE,Zs,Qk,Jy,Jx,JD,ZH,Zn,Zg,QI,ZR,Ql,Jt,Jn,Jp,Jz,↓Yq,JF,↓g_r,Yr,Bool.not_true,Bool.not_false,Bool.false_eq_true,Bool.true_eq_false,reduceIte,List.tail_cons,List.headD_cons,decide_true,decide_false,cond_true,cond_false,Nat.beq_refl,YR,JY,Z4,ZN,ZA,Z7,QL,Jv,J2,JS,JC,JV,JW,Zu,List.replicate,Zq,Zp,QF,QG,QE,Zk,Q5,Zz,QH,e1]
theorem Zm0 : R (n+4) WA [strv s] H=some (iv (Yh s),H):=by
 have e1 : s.length≤12→run Tryz.prog np lvs (n+3) YQ [strv s,.func (.func Zaz) #[] #[]] H=some (.bool (s.all Zfu),H):=fun h12=>ZpU (by omega)
 rw [R,ZkU rfl]
 unfold Yh Zaq Zej
 rw [Za ZgC]
 by_cases h0 : s.length=0
 ·have h1 : ¬ 1≤s.length:=by omega
  rw [decide_eq_true h0]
  simp [↓ZV,ZW,↓Qo,Qd,Qc,Qe,↓Zb,JA,Zw,JM,Qa,Jd,Qi,Jf,Q1,Qw,Jb,Qx,QK,QO,QN,Je,Zh,ZE,Yt,J5,QX,QS,JE,Zs,Qk,Jy,Jx,JD,ZH,Zn,Zg,QI,ZR,Ql,Jt,Jn,Jp,Jz,↓Yq,JF,↓g_r,Yr,Bool.not_true,Bool.not_false,Bool.false_eq_true,Bool.true_eq_false,reduceIte,List.tail_cons,List.headD_cons,decide_true,decide_false,cond_true,cond_false,Nat.beq_refl,YR,JY,Z4,ZN,ZA,Z7,QL,Jv,J2,JS,JC,JV,JW,Zu,List.replicate,Zq,Zp,QF,QG,QE,Zk,Q5,Zz,QH,h1]
 ·have h1 : 1≤s.length:=by omega
  rw [decide_eq_false h0,ZQ,Zf,Za Zz]
  by_cases h12 : s.length≤12
  ·have q1 : bop .int .gtr (iv s.length) (.int .i64 12) H=some (.bool false,H):=by rw [ZR,decide_eq_false (by omega)]
   rw [Zf,Za q1,Z5,ZN,Za Zh]
   simp only [cond_false]
   rw [ZQ,Zf,Za (e1 h12),Zf,Za ZE,Z5,ZA,Za Zh]
   cases s.all Zfu <;> simp [↓ZV,ZW,↓Qo,Qd,Qc,Qe,↓Zb,JA,Zw,JM,Qa,Jd,Qi,Jf,Q1,Qw,Jb,Qx,QK,QO,QN,Je,Zh,ZE,Yt,J5,QX,QS,JE,Zs,Qk,Jy,Jx,JD,ZH,Zn,Zg,QI,ZR,Ql,Jt,Jn,Jp,Jz,↓Yq,JF,↓g_r,Yr,Bool.not_true,Bool.not_false,Bool.false_eq_true,Bool.true_eq_false,reduceIte,List.tail_cons,List.headD_cons,decide_true,decide_false,cond_true,cond_false,Nat.beq_refl,YR,JY,Z4,ZN,ZA,Z7,QL,Jv,J2,JS,JC,JV,JW,Zu,List.replicate,Zq,Zp,QF,QG,QE,Zk,Q5,Zz,QH,h12,h1]
  ·have q1 : bop .int .gtr (iv s.length) (.int .i64 12) H=some (.bool true,H):=by rw [ZR,decide_eq_true (by omega)]
   rw [Zf,Za q1,Z5,ZN,Za Zh]
   simp [↓ZV,ZW,↓Qo,Qd,Qc,Qe,↓Zb,JA,Zw,JM,Qa,Jd,Qi,Jf,Q1,Qw,Jb,Qx,QK,QO,QN,Je,Zh,ZE,Yt,J5,QX,QS,JE,Zs,Qk,Jy,Jx,JD,ZH,Zn,Zg,QI,ZR,Ql,Jt,Jn,Jp,Jz,↓Yq,JF,↓g_r,Yr,Bool.not_true,Bool.not_false,Bool.false_eq_true,Bool.true_eq_false,reduceIte,List.tail_cons,List.headD_cons,decide_true,decide_false,cond_true,cond_false,Nat.beq_refl,YR,JY,Z4,ZN,ZA,Z7,QL,Jv,J2,JS,JC,JV,JW,Zu,List.replicate,Zq,Zp,QF,QG,QE,Zk,Q5,Zz,QH,h12]
theorem Zd7 {a b : UInt8} : ((a.toNat : Int)==(b.toNat : Int))=(a==b):=by
 rw [Bool.eq_iff_iff,beq_iff_eq,beq_iff_eq,Int.ofNat_inj,UInt8.toNat_inj]
theorem Zqm {t : List UInt8} (ht : t.length≤1000000) : ∀ (d k : Nat),t.length - k=d→k≤t.length→
  Zj (c3 (Ks.l1 (R n))) [u8v b,strv t,iv k] H=some (if (t.drop k).any (·==b) then .ret (.bool true) else .ext 0 [],H)
 | 0,k,hd,hk=>by
  have : k=t.length:=by omega
  subst this
  rw [List.drop_length]
  refine ZD ?_
  rw [ZN]
  unfold Ks.l1
  rw [Za Zz,Za Zg,Zb,if_neg (by simp)]
  rfl
 | d+1,k,hd,hk=>by
  have hkl : k < t.length:=by omega
  have hlt : (k : Int) < t.length:=by omega
  have hg:=List.getElem?_eq_getElem hkl
  have hdr:=List.drop_eq_getElem_cons hkl
  generalize t[k]=c at hg hdr
  have x1:=WR hg .i64 H
  have ih:=Zqm ht d (k+1) (by omega) (by omega)
  rw [hdr,List.any_cons]
  cases hc : c==b
  ·rw [Bool.false_or]
   refine (Zv ?_).trans ih
   rw [ZN]
   unfold Ks.l1
   rw [Za Zz,Za Zg,Zb,if_pos (by simpa using hlt),Za x1,Za ZH,Zd7,hc,Zb,if_neg (by simp),Za Zs,Qb (by omega)]
   rfl
  ·refine ZU ?_
   rw [ZN]
   unfold Ks.l1
   rw [Za Zz,Za Zg,Zb,if_pos (by simpa using hlt),Za x1,Za ZH,Zd7,hc,Zb,if_pos rfl]
   rfl
theorem Znt {t : List UInt8} (ht : t.length≤1000000) : R (n+1) Kt [u8v b,strv t] H=some (.bool (t.any (·==b)),H):=by
 have e:=Zqm (n:=n) (H:=H) (b:=b) ht t.length 0 (by omega) (by omega)
 rw [List.drop_zero] at e
 have e : Zj (c3 (Ks.l1 (R n))) [u8v b,strv t,.int .i64 0] H=_:=e
 rw [R,Zma rfl]
 unfold Ks
 cases h : t.any (·==b)
 ·rw [h] at e
  rw [ZM e,Zu];rfl
 ·rw [h] at e
  rw [Qr e];rfl
theorem Zqn {t : List UInt8} (ht : t.length≤1000000) (hs : s.length≤1000000000) : ∀ (d k : Nat),s.length - k=d→k≤s.length→
  Zj (c3 (Kq.l1 (R (n+1)))) [strv s,strv t,iv k] H=some (if (s.drop k).all (fun b=>t.any (·==b)) then .ext 0 [] else .ret (.bool false),H)
 | 0,k,hd,hk=>by
  have : k=s.length:=by omega
  subst this
  rw [List.drop_length]
  refine ZD ?_
  rw [ZN]
  unfold Kq.l1
  rw [Za Zz,Za Zg,Zb,if_neg (by simp)]
  rfl
 | d+1,k,hd,hk=>by
  have hkl : k < s.length:=by omega
  have hlt : (k : Int) < s.length:=by omega
  have hg:=List.getElem?_eq_getElem hkl
  have hdr:=List.drop_eq_getElem_cons hkl
  generalize s[k]=c at hg hdr
  have x1:=WR hg .i64 H
  have e1:=Znt (n:=n) (b:=c) (H:=H) ht
  have ih:=Zqn ht hs d (k+1) (by omega) (by omega)
  rw [hdr,List.all_cons]
  cases hc : t.any (·==c)
  ·rw [hc] at e1
   refine ZU ?_
   rw [ZN]
   unfold Kq.l1
   rw [Za Zz,Za Zg,Zb,if_pos (by simpa using hlt),Za x1,Za e1,Za ZE,Zb,if_pos (by rfl)]
   rfl
  ·rw [hc] at e1
   rw [Bool.true_and]
   refine (Zv ?_).trans ih
   rw [ZN]
   unfold Kq.l1
   rw [Za Zz,Za Zg,Zb,if_pos (by simpa using hlt),Za x1,Za e1,Za ZE,Zb,if_neg (by simp),Za Zs,Qb (by omega)]
   rfl
theorem ZrM {t : List UInt8} {p : UInt8→Bool} (ht : t.length≤1000000) (hs : s.length≤1000000000) (hp : ∀ b,t.any (·==b)=p b) : R (n+2) Zae [strv s,strv t] H=some (.bool (s.all p),H):=by
 have e:=Zqn (n:=n) (H:=H) ht hs s.length 0 (by omega) (by omega)
 rw [List.drop_zero] at e
 rw [show (fun b=>t.any (·==b))=p from funext hp] at e
 have e : Zj (c3 (Kq.l1 (R (n+1)))) [strv s,strv t,.int .i64 0] H=_:=e
 rw [R,Zl9 rfl]
 unfold Kq
 cases h : s.all p
 ·rw [h] at e
  rw [Qr e];rfl
 ·rw [h] at e
  rw [ZM e,Zu];rfl
def Zc8 : List UInt8:=[97,98,99,100,101,102,103,104,105,106,107,108,109,110,111,112,113,114,115,116,117,118,119,120,121,122]
def ZlN : List UInt8:=[97,98,99,100,101,102,103,104,105,106,107,108,109,110,111,112,113,114,115,116,117,118,119,120,121,122,48,49,50,51,52,53,54,55,56,57]
def Zot : List UInt8:=[97,98,99,100,101,102,103,104,105,106,107,108,109,110,111,112,113,114,115,116,117,118,119,120,121,122,48,49,50,51,52,53,54,55,56,57,45,46]
def Zro : List UInt8:=[48,49,50,51,52,53,54,55,56,57,97,98,99,100,101,102]
theorem Zdj {p : UInt8→Prop} (h : ∀ n : Nat,n < 256→p (UInt8.ofNat n)) (b : UInt8) : p b:=by
 have:=h b.toNat b.toNat_lt
 rwa [UInt8.ofNat_toNat] at this
theorem Zno : ∀ b,Zc8.any (·==b)=YL b:=Zdj (by decide+kernel)
theorem Zlu : ∀ b,ZlN.any (·==b)=Y9 b:=Zdj (by decide+kernel)
theorem ZpC : ∀ b,Zot.any (·==b)=ZcM b:=Zdj (by decide+kernel)
theorem Zrn : ∀ b,Zro.any (·==b)=Zfu b:=Zdj (by decide+kernel)
theorem Znx : R (n+3) ZaE [strv s] H=some (.bool (Zaq s),H):=by
 have e1 : s.length≤12→run Tryz.prog np lvs (n+2) Zae [strv s,strv Zro] H=some (.bool (s.all Zfu),H):=fun h12=>ZrM (by decide) (by omega) Zrn
 rw [R,Zko rfl]
 unfold Zaq ZdO
 rw [Za Zz]
 by_cases h1 : 1≤s.length
 ·have q1 : bop .int .geq (iv s.length) (.int .i64 1) H=some (.bool true,H):=by rw [Ql,decide_eq_true (by omega)]
  rw [Za q1,ZQ,Zf,Za Zz]
  by_cases h12 : s.length≤12
  ·have q2 : bop .int .leq (iv s.length) (.int .i64 12) H=some (.bool true,H):=by rw [QI,decide_eq_true (by omega)]
   rw [Zf,Za q2,Z5,ZN,Za Zh]
   simp only [cond_true]
   rw [ZQ,Zf]
   refine (Za (e1 h12)).trans ?_
   rw [Z5,Z4,Za Zh,decide_eq_true h12,decide_eq_true h1]
   rfl
  ·have q2 : bop .int .leq (iv s.length) (.int .i64 12) H=some (.bool false,H):=by rw [QI,decide_eq_false (by omega)]
   rw [Zf,Za q2,Z5,ZN,Za Zh]
   simp [↓ZV,ZW,↓Qo,Qd,Qc,Qe,↓Zb,JA,Zw,JM,Qa,Jd,Qi,Jf,Q1,Qw,Jb,Qx,QK,QO,QN,Je,Zh,ZE,Yt,J5,QX,QS,JE,Zs,Qk,Jy,Jx,JD,ZH,Zn,Zg,QI,ZR,Ql,Jt,Jn,Jp,Jz,↓Yq,JF,↓g_r,Yr,Bool.not_true,Bool.not_false,Bool.false_eq_true,Bool.true_eq_false,reduceIte,List.tail_cons,List.headD_cons,decide_true,decide_false,cond_true,cond_false,Nat.beq_refl,YR,JY,Z4,ZN,ZA,Z7,QL,Jv,J2,JS,JC,JV,JW,Zu,List.replicate,Zq,Zp,QF,QG,QE,Zk,Q5,Zz,QH,h12]
 ·have q1 : bop .int .geq (iv s.length) (.int .i64 1) H=some (.bool false,H):=by rw [Ql,decide_eq_false (by omega)]
  rw [Za q1]
  simp [↓ZV,ZW,↓Qo,Qd,Qc,Qe,↓Zb,JA,Zw,JM,Qa,Jd,Qi,Jf,Q1,Qw,Jb,Qx,QK,QO,QN,Je,Zh,ZE,Yt,J5,QX,QS,JE,Zs,Qk,Jy,Jx,JD,ZH,Zn,Zg,QI,ZR,Ql,Jt,Jn,Jp,Jz,↓Yq,JF,↓g_r,Yr,Bool.not_true,Bool.not_false,Bool.false_eq_true,Bool.true_eq_false,reduceIte,List.tail_cons,List.headD_cons,decide_true,decide_false,cond_true,cond_false,Nat.beq_refl,YR,JY,Z4,ZN,ZA,Z7,QL,Jv,J2,JS,JC,JV,JW,Zu,List.replicate,Zq,Zp,QF,QG,QE,Zk,Q5,Zz,QH,h1]
theorem ZcJ : R (n+3) Yg [strv s] H=some (.bool (Zo s),H):=by
 have e1 : s.length≤12→run Tryz.prog np lvs (n+2) Zae [strv s,strv Zot] H=some (.bool (s.all ZcM),H):=fun h12=>ZrM (by decide) (by omega) ZpC
 rw [R,Zkb rfl]
 unfold Zo ZdP
 rw [Za Zz]
 by_cases h1 : 1≤s.length
 ·have q1 : bop .int .geq (iv s.length) (.int .i64 1) H=some (.bool true,H):=by rw [Ql,decide_eq_true (by omega)]
  rw [Za q1,ZQ,Zf]
  by_cases h12 : s.length≤12
  ·have q2 : bop .int .leq (iv s.length) (.int .i64 12) H=some (.bool true,H):=by rw [QI,decide_eq_true (by omega)]
   have g0 : s[0]?=some (s.getD 0 0):=by rw [List.getElem?_eq_getElem (by omega)];simp [List.getD_eq_getElem?_getD,List.getElem?_eq_getElem (show 0 < s.length by omega)]
   have gl : s[s.length - 1]?=some (s.getD (s.length - 1) 0):=by rw [List.getElem?_eq_getElem (by omega)];simp [List.getD_eq_getElem?_getD,List.getElem?_eq_getElem (show s.length - 1 < s.length by omega)]
   have x0 : ixs (strv s) (.int .i64 0) H=some (u8v (s.getD 0 0),H):=WR g0 .i64 H
   have xl:=WR gl .i64 H
   have wl:=ZkJ (k:=s.length) (by omega) (by omega)
   generalize s.getD 0 0=b0 at x0
   generalize s.getD (s.length - 1) 0=bl at xl
   have e2 : run Tryz.prog np lvs (n+2) Kt [u8v b0,strv Zc8] H=some (.bool (YL b0),H):=by rw [← Zno];exact Znt (by decide)
   have e3 : run Tryz.prog np lvs (n+2) Kt [u8v bl,strv ZlN] H=some (.bool (Y9 bl),H):=by rw [← Zlu];exact Znt (by decide)
   rw [Za q2,Z5,Z4,Za Zh]
   simp only [cond_true]
   rw [ZQ,Zf]
   refine (Za (e1 h12)).trans ?_
   rw [Z5,Z4,Za Zh,decide_eq_true h12,decide_eq_true h1]
   simp only [cond_true]
   cases hall : s.all ZcM
   ·simp [↓ZV,ZW,↓Qo,Qd,Qc,Qe,↓Zb,JA,Zw,JM,Qa,Jd,Qi,Jf,Q1,Qw,Jb,Qx,QK,QO,QN,Je,Zh,ZE,Yt,J5,QX,QS,JE,Zs,Qk,Jy,Jx,JD,ZH,Zn,Zg,QI,ZR,Ql,Jt,Jn,Jp,Jz,↓Yq,JF,↓g_r,Yr,Bool.not_true,Bool.not_false,Bool.false_eq_true,Bool.true_eq_false,reduceIte,List.tail_cons,List.headD_cons,decide_true,decide_false,cond_true,cond_false,Nat.beq_refl,YR,JY,Z4,ZN,ZA,Z7,QL,Jv,J2,JS,JC,JV,JW,Zu,List.replicate,Zq,Zp,QF,QG,QE,Zk,Q5,Zz,QH]
   ·rw [ZQ,Zf,Za x0,Zf]
    refine (Za e2).trans ?_
    rw [Z5,ZN,Za Zh]
    simp only [cond_true]
    cases hb : YL b0
    ·simp [↓ZV,ZW,↓Qo,Qd,Qc,Qe,↓Zb,JA,Zw,JM,Qa,Jd,Qi,Jf,Q1,Qw,Jb,Qx,QK,QO,QN,Je,Zh,ZE,Yt,J5,QX,QS,JE,Zs,Qk,Jy,Jx,JD,ZH,Zn,Zg,QI,ZR,Ql,Jt,Jn,Jp,Jz,↓Yq,JF,↓g_r,Yr,Bool.not_true,Bool.not_false,Bool.false_eq_true,Bool.true_eq_false,reduceIte,List.tail_cons,List.headD_cons,decide_true,decide_false,cond_true,cond_false,Nat.beq_refl,YR,JY,Z4,ZN,ZA,Z7,QL,Jv,J2,JS,JC,JV,JW,Zu,List.replicate,Zq,Zp,QF,QG,QE,Zk,Q5,Zz,QH]
    ·rw [ZQ,Zf,Za Qk,wl,Zf,Za xl,Zf]
     refine (Za e3).trans ?_
     rw [Z5,Z7,Za Zh]
     rfl
  ·have q2 : bop .int .leq (iv s.length) (.int .i64 12) H=some (.bool false,H):=by rw [QI,decide_eq_false (by omega)]
   rw [Za q2,Z5,Z4,Za Zh]
   simp [↓ZV,ZW,↓Qo,Qd,Qc,Qe,↓Zb,JA,Zw,JM,Qa,Jd,Qi,Jf,Q1,Qw,Jb,Qx,QK,QO,QN,Je,Zh,ZE,Yt,J5,QX,QS,JE,Zs,Qk,Jy,Jx,JD,ZH,Zn,Zg,QI,ZR,Ql,Jt,Jn,Jp,Jz,↓Yq,JF,↓g_r,Yr,Bool.not_true,Bool.not_false,Bool.false_eq_true,Bool.true_eq_false,reduceIte,List.tail_cons,List.headD_cons,decide_true,decide_false,cond_true,cond_false,Nat.beq_refl,YR,JY,Z4,ZN,ZA,Z7,QL,Jv,J2,JS,JC,JV,JW,Zu,List.replicate,Zq,Zp,QF,QG,QE,Zk,Q5,Zz,QH,h12]
 ·have q1 : bop .int .geq (iv s.length) (.int .i64 1) H=some (.bool false,H):=by rw [Ql,decide_eq_false (by omega)]
  rw [Za q1]
  simp [↓ZV,ZW,↓Qo,Qd,Qc,Qe,↓Zb,JA,Zw,JM,Qa,Jd,Qi,Jf,Q1,Qw,Jb,Qx,QK,QO,QN,Je,Zh,ZE,Yt,J5,QX,QS,JE,Zs,Qk,Jy,Jx,JD,ZH,Zn,Zg,QI,ZR,Ql,Jt,Jn,Jp,Jz,↓Yq,JF,↓g_r,Yr,Bool.not_true,Bool.not_false,Bool.false_eq_true,Bool.true_eq_false,reduceIte,List.tail_cons,List.headD_cons,decide_true,decide_false,cond_true,cond_false,Nat.beq_refl,YR,JY,Z4,ZN,ZA,Z7,QL,Jv,J2,JS,JC,JV,JW,Zu,List.replicate,Zq,Zp,QF,QG,QE,Zk,Q5,Zz,QH,h1]
end
end Go.Proofs.YtnnehafmjfmbnaaGreatDoor.A

namespace Go.Proofs.YtnnehafmjfmbnaaGreatDoor.A
set_option linter.unusedVariables false
set_option linter.unusedSimpArgs false
open Go.Proofs Go.Proofs.YtnnehafmjfmbnaaGreatDoor
abbrev J0:=List (List UInt8 × List UInt8)
structure Dir (H : Zc) (d b : Nat) (m : J0) : Prop where
 c : H[d]?=some (.cells [.map (some b)] 1 false false)
 g : Js strv H b m
 len : ∀ p∈m,p.1.length≤12
 few : m.length≤12
section
variable {H H' : Zc} {n d b p q : Nat} {m : J0} {k s : List UInt8}
theorem ZkC {v : Value} (h : oneCell v=true) (hc : v.cells=#[v]) (H : Zc) : alc 1 v H=some (pt H.length,H++[.cells [v] 1 false false]):=by
 rw [QK]
 simp [hc,h]
theorem Zjg {v : Value} {e : Nat} {g ro : Bool} (h : H[p]?=some (.cells [v] e g ro)) : ld1 (pt p) H=some (v,H):=Q0 h rfl
theorem Zr7 {g : Nat} {bs args : List Value} (hy : Nat.blt g Wl=true:=by rfl) : Yz (R n) (.func (.func g) #[] bs.toArray) args=R n g (args++bs):=by
 have : Yz (R n) (.func (.func g) #[] bs.toArray) args=R n g ([]++(args++bs.toArray.toList)):=by
  simp only [Yz,hy,cond_true]
 rw [this];simp
theorem Dir.lt (h : Dir H d b m) : d < H.length∧b < H.length:=⟨Yv h.c,h.g.lt⟩
theorem Dir.keep (h : Dir H d b m) (h1 : H'[d]?=H[d]?) (h2 : H'[b]?=H[b]?) : Dir H' d b m:=⟨by rw [h1];exact h.c,h.g.keep h2,h.len,h.few⟩
theorem Dir.hle (h : Dir H d b m) (hl : HLe H H') : Dir H' d b m:=⟨hl _ _ h.c,h.g.hle hl,h.len,h.few⟩
theorem Dir.step {o1 o2 : List Nat} (h : Dir H d b m) (hs : ZK o1 H o2 H') (h1 : d∉o1) (h2 : b∉o1) : Dir H' d b m:=h.keep (hs.keep d h.lt.1 h1) (hs.keep b h.lt.2 h2)
theorem Dir.ne (h : Dir H d b m) : d≠b:=fun e=>by
 subst e
 obtain ⟨es,_,h1⟩:=h.g.ex
 rw [h.c] at h1
 rcases h1 with ⟨_,h1,_⟩ | h1 <;> cases h1
end
end Go.Proofs.YtnnehafmjfmbnaaGreatDoor.A

namespace Go.Proofs.YtnnehafmjfmbnaaGreatDoor.A
set_option linter.unusedVariables false
set_option linter.unusedSimpArgs false
section
variable {α : Type} {k k' : List UInt8} {v : α} {m : List (List UInt8 × α)}
theorem Zb1 : ∀ {m m' : List (List UInt8 × α)},Ze k (m++m')=(Ze k m).or (Ze k m')
 | [],m'=>rfl
 | p :: m,m'=>by
  simp only [List.cons_append,Ze]
  split
  ·rfl
  ·exact Zb1
theorem YF (h : k'≠k) : Ze k' (Qz k v m)=Ze k' m:=by
 unfold Qz
 split
 ·have : ∀ m : List (List UInt8 × α),Ze k' (m.map fun p=>if p.1=k then (k,v) else p)=Ze k' m:=by
   intro m
   induction m with
   | nil=>rfl
   | cons p m ih=>
    simp only [List.map_cons,Ze]
    by_cases hp : p.1=k
    ·rw [if_pos hp,if_neg (Ne.symm h),if_neg (fun e=>h (e.symm.trans hp)),ih]
    ·rw [if_neg hp,ih]
  exact this m
 ·rw [Zb1]
  have : Ze k' [(k,v)]=none:=by simp [Ze,Ne.symm h]
  rw [this];cases Ze k' m <;> rfl
theorem Kr : Ze k (Qz k v m)=some v:=by
 unfold Qz
 split
 ·rename_i hs
  have : ∀ m : List (List UInt8 × α),(Ze k m).isSome=true→Ze k (m.map fun p=>if p.1=k then (k,v) else p)=some v:=by
   intro m
   induction m with
   | nil=>intro h;cases h
   | cons p m ih=>
    intro h
    simp only [List.map_cons,Ze] at h ⊢
    by_cases hp : p.1=k
    ·simp [hp]
    ·rw [if_neg hp] at h
     rw [if_neg hp,if_neg hp];exact ih h
  exact this m hs
 ·rename_i hs
  rw [Zb1]
  have : Ze k m=none:=by cases e : Ze k m <;> simp_all
  rw [this];simp [Ze]
theorem Za0 : Ze k (YA k m)=none:=by
 rw [Zdx]
 intro p hp
 simpa [YA] using (List.mem_filter.1 hp).2
theorem Yi (h : k'≠k) : Ze k' (YA k m)=Ze k' m:=by
 unfold YA
 induction m with
 | nil=>rfl
 | cons p m ih=>
  rw [List.filter_cons]
  by_cases hp : p.1=k
  ·rw [if_neg (by simp [hp]),ih]
   simp only [Ze]
   rw [if_neg (fun e=>h (e.symm.trans hp))]
  ·rw [if_pos (by simpa using hp)]
   simp only [Ze]
   rw [ih]
theorem ZhS (hn : (m.map (·.1)).Nodup) (h : (Ze k m).isSome=true) : (YA k m).length=m.length - 1:=by
 obtain ⟨v,hv⟩:=Option.isSome_iff_exists.1 h
 obtain ⟨j,hj⟩:=ZpS hv
 rw [← Zba hn hj,List.length_eraseIdx,if_pos (List.getElem?_eq_some_iff.1 hj).1]
end
end Go.Proofs.YtnnehafmjfmbnaaGreatDoor.A

namespace Go.Proofs.YtnnehafmjfmbnaaGreatDoor.A
set_option linter.unusedVariables false
set_option linter.unusedSimpArgs false
open Go.Proofs Go.Proofs.YtnnehafmjfmbnaaGreatDoor
section
variable {H H' : Zc} {n d b p q : Nat} {m : J0} {k s : List UInt8}
theorem Zrr {H : Zc} {a c : Zi} : (H++[a]++[c])[H.length]?=some a:=by simp [List.getElem?_append]
theorem ZbW {α : Type} {m : List (List UInt8 × α)} {v : α} : (Qz k v m).length=if (Ze k m).isSome then m.length else m.length+1:=by
 unfold Qz
 split <;> simp
theorem Zhs (h : Zo k=true) : k.length≤12:=by
 unfold Zo at h
 simp only [Bool.and_eq_true,decide_eq_true_eq] at h
 exact h.1.1.1.2
theorem Zce : ZS k=0↔Zo k=true:=by unfold ZS;split <;> simp_all
theorem Zpx : Yh s=0↔Zaq s=true:=by unfold Yh;split <;> simp_all
theorem ZeW {g : Nat} {mm : List Value→M Value} {args : List Value} (hp : np g=some mm) (hy : Nat.blt g Wl=true:=by rfl) : run Tryz.prog np lvs (n+1) g args=mm args:=by
 unfold run
 simp only [hy,hp,cond_true]
end
end Go.Proofs.YtnnehafmjfmbnaaGreatDoor.A

namespace Go.Proofs.YtnnehafmjfmbnaaGreatDoor.A
set_option linter.unusedVariables false
set_option linter.unusedSimpArgs false
open Go.Proofs Go.Proofs.YtnnehafmjfmbnaaGreatDoor
section
variable {H H' : Zc} {n : Nat} {s pre : List UInt8}
theorem ZnB {k : Nat} (hk : k≤s.length) : sls (strv s) none (some (iv k)) H=some (strv (s.take k),H):=by
 have h1 : (⟨s.toArray⟩ : ByteArray).size=s.length:=by simp [ByteArray.size]
 have h2 : (⟨s.toArray⟩ : ByteArray).extract 0 k=⟨(s.take k).toArray⟩:=by
  apply ByteArray.ext
  rw [ByteArray.data_extract]
  simp
 have hb : bnd (some (iv k)) s.length=some k:=by simp [bnd]
 have hb0 : bnd none 0=some 0:=rfl
 unfold strv sls
 simp only [h1,hb,hb0]
 rw [if_pos ⟨Nat.zero_le _,hk⟩,h2]
section
variable {f v : Value} {p : List UInt8→Bool} {l : List (List UInt8)} {q : List Nat} {Q : Zc→Prop}
theorem Q3 {ss : List (List UInt8)} {i : Nat} {x : List UInt8} (h : ss[i]?=some x) : (ss.map strv)[i]?=some (strv x):=by rw [List.getElem?_map,h];rfl
theorem ZrY (hr : ZC H v (l.map strv) q) (hl : l.length≤1000000) (hf : ∀ s∈l,Yz (R n) f [strv s] H=some (.bool (p s),H)) : ∀ (t k : Nat),l.length - k=t→k≤l.length→
  Zj (c4 (Zy.l1 (R n))) [v,f,iv l.length,iv k] H=some (match (l.drop k).findIdx? p with | some i=>.ret (iv (k+i : Nat)) | none=>.ext 0 [],H)
 | 0,k,ht,hk=>by
  have : k=l.length:=by omega
  subst this
  rw [List.drop_length]
  refine ZD ?_
  rw [ZA]
  unfold Zy.l1
  rw [Za Zg,Zb,if_neg (by simp)]
  rfl
 | t+1,k,ht,hk=>by
  have hkl : k < l.length:=by omega
  have hlt : (k : Int) < l.length:=by omega
  have hg:=List.getElem?_eq_getElem hkl
  have hm : l[k]∈l:=List.getElem_mem hkl
  have hd:=List.drop_eq_getElem_cons hkl
  generalize l[k]=x at hg hd hm
  have x1:=hr.ix (i:=k) (by simpa using hkl) .i64 H
  have x2:=hr.ldx (Q3 hg)
  have x3:=hf x hm
  have ih:=ZrY hr hl hf t (k+1) (by omega) (by omega)
  rw [hd,List.findIdx?_cons]
  cases hp : p x
  ·rw [hp] at x3
   refine (Zv ?_).trans (ih.trans ?_)
   ·rw [ZA]
    unfold Zy.l1
    rw [Za Zg,Zb,if_pos (by simpa using hlt),Za x1,Za x2,Za x3,Zb,if_neg (by simp),Za Zs,Qb (by omega)]
    rfl
   ·cases (l.drop (k+1)).findIdx? p with
    | none=>rfl
    | some i=>simp only [Bool.false_eq_true,if_false,Option.map_some];rw [show k+1+i=k+(i+1) by omega]
  ·rw [hp] at x3
   refine ZU ?_
   rw [ZA]
   unfold Zy.l1
   rw [Za Zg,Zb,if_pos (by simpa using hlt),Za x1,Za x2,Za x3,Zb,if_pos rfl]
   rfl
theorem Ze0 : ∀ {l : List (List UInt8)},(match l.findIdx? p with | some i=>l.filter (fun s=>!p s)=l.take i++(l.drop (i+1)).filter (fun s=>!p s)∧i < l.length | none=>l.filter (fun s=>!p s)=l)
 | []=>by simp
 | x :: l=>by
  have ih:=Ze0 (l:=l)
  rw [List.findIdx?_cons]
  cases hp : p x
  ·simp only [Bool.false_eq_true,if_false]
   cases h : l.findIdx? p with
   | none=>rw [h] at ih;simp [hp];simpa using ih
   | some i=>rw [h] at ih;simp [hp,ih.1,ih.2]
  ·simp [hp]
theorem Zry (k : Nat) : reps k (Value.string ⟨#[]⟩).cells.toList=List.replicate k (strv []):=by
 induction k with
 | zero=>rfl
 | succ k ih=>
  unfold reps at ih ⊢
  rw [List.replicate_succ,List.flatten_cons,ih];rfl
theorem Zoy {cs : List (List UInt8)} {i : Nat} (hr : ZC H v (cs.map strv) q) (hi : i < cs.length) : ∃ a H' v',slv 1 v (some (iv i)) none none H=some (a,H)∧clr (.string ⟨#[]⟩) 1 a H=some (.tuple #[],H')∧slv 1 v none (some (iv i)) none H'=some (v',H')∧ZC H' v' ((cs.take i).map strv) q∧ZK q H q H':=by
 rcases hr with ⟨h1,_,_⟩ | ⟨sid,rest,g,rfl,rfl,hid⟩
 ·simp at h1;simp [h1] at hi
 ·rw [List.length_map] at *
  have b1 : bnd (some (iv i)) 0=some i:=by simp [bnd]
  have b1' : bnd (some (iv i)) cs.length=some i:=by simp [bnd]
  have b2 : ∀ k,bnd none k=some k:=fun _=>rfl
  have hsp : splice (cs.map strv++rest) (List.replicate (cs.length - i) (strv [])) i=(cs.take i).map strv++(List.replicate (cs.length - i) (strv [])++rest):=by
   unfold splice
   rw [List.length_replicate,Nat.add_sub_cancel' (Nat.le_of_lt hi),List.take_append_of_le_length (by simp;omega),List.drop_append_of_le_length (by simp),List.drop_eq_nil_of_le (by simp),List.map_take]
   simp
  refine ⟨.slice (some ⟨sid,0+i * 1,none⟩) (cs.length - i) (cs.length+rest.length - i),H.set sid (.cells ((cs.take i).map strv++(List.replicate (cs.length - i) (strv [])++rest)) 1 g false),.slice (some ⟨sid,0,none⟩) i (cs.length+rest.length),?_,?_,?_,?_,⟨by simp,fun j hj hn=>List.getElem?_set_ne (fun e=>hn (by simp [e])),fun j hj=>.inl hj⟩⟩
  ·simp only [slv,hid,b1,b2]
   rw [if_pos ⟨trivial,by omega,by omega,Nat.le_refl _⟩,if_neg (by omega)]
  ·simp only [clr]
   rw [if_neg (by omega)]
   simp only [hid]
   rw [if_pos ⟨trivial,by simp;omega⟩,Zry]
   rw [Nat.zero_add,Nat.mul_one,hsp]
  ·simp only [slv,Jc hid,b1',b2]
   rw [if_pos ⟨trivial,by omega,by omega,Nat.le_refl _⟩,if_neg (by omega)]
   simp
  ·have hl : ((cs.take i).map strv).length=i:=by simp;omega
   refine .inr ⟨sid,List.replicate (cs.length - i) (strv [])++rest,g,?_,rfl,Jc hid⟩
   rw [hl]
   simp;omega
end
end
end Go.Proofs.YtnnehafmjfmbnaaGreatDoor.A

namespace Go.Proofs.YtnnehafmjfmbnaaGreatDoor.A
set_option linter.unusedVariables false
set_option linter.unusedSimpArgs false
open Go.Proofs Go.Proofs.YtnnehafmjfmbnaaGreatDoor
def usr (u : List UInt8 × List UInt8) : List Value:=[strv u.1,strv u.2,strv [],.bool false,.slice none 0 0]
section
variable {H H' : Zc} {n d b : Nat} {m : J0} {pre : List UInt8}
end
end Go.Proofs.YtnnehafmjfmbnaaGreatDoor.A

namespace Go.Proofs.YtnnehafmjfmbnaaGreatDoor.A
set_option linter.unusedVariables false
set_option linter.unusedSimpArgs false
open Go.Proofs Go.Proofs.YtnnehafmjfmbnaaGreatDoor
theorem ZgB (s : ByteArray) : Value.string s=strv s.data.toList:=by simp [strv]
section
variable {H : Zc} {n : Nat}
end
end Go.Proofs.YtnnehafmjfmbnaaGreatDoor.A

namespace Go.Proofs.YtnnehafmjfmbnaaGreatDoor.A
set_option linter.unusedVariables false
set_option linter.unusedSimpArgs false
open Go.Proofs Go.Proofs.YtnnehafmjfmbnaaGreatDoor
abbrev Ent:=List UInt8 × List UInt8
section
variable {m : J0} {k s : List UInt8} {x : Ent}
end
end Go.Proofs.YtnnehafmjfmbnaaGreatDoor.A

namespace Go.Proofs.YtnnehafmjfmbnaaGreatDoor.A
set_option linter.unusedVariables false
set_option linter.unusedSimpArgs false
open Go.Proofs Go.Proofs.YtnnehafmjfmbnaaGreatDoor
abbrev userT : Ty:=.struct (.pair .str (.pair .str (.pair .str (.pair .bool (.pair (.slc .str) .unit)))))
def GV (H : Zc) (gv : Value) (gs : List (List UInt8)) : Prop:=
 (gs=[]∧(gv=.slice none 0 0∨gv=.slice (some ⟨0,0,some 1⟩) 0 0))∨
 ∃ id rest,gv=.slice (some ⟨id,0,none⟩) gs.length (gs.length+rest.length)∧H[id]?=some (.cells (gs.map strv++rest) 1 false true)
theorem ZlA {x : (Ty.slc .str).den} {H : Zc} {v : Value} (h : Rd (.slc .str) x H [v]) : ∃ gs,GV H v gs:=by
 cases x with
 | none=>
  have h : [v]=[.slice none 0 0]:=h
  exact ⟨[],.inl ⟨rfl,.inl (by simpa using h)⟩⟩
 | some p=>
  obtain ⟨a,b⟩:=p
  rcases h with ⟨_,_,h⟩ | ⟨id,cells,h1,h2,h3,h4⟩
  ·exact ⟨[],.inl ⟨rfl,.inr (by simpa using h)⟩⟩
  ·have a' : List ByteArray:=a
   have hcells : cells=((a : List ByteArray).map fun s=>strv s.data.toList)++((b : List ByteArray).map fun s=>strv s.data.toList):=by
    rw [← List.map_append]
    have hl : cells.length=((a++b : List ByteArray)).length:=by
     have : cells.length=(a.length+b.length) * 1:=h3
     rw [List.length_append,this,Nat.mul_one]
    apply List.ext_getElem (by rw [List.length_map];exact hl)
    intro i h5 h6
    have hi : i < (a++b : List ByteArray).length:=by omega
    have:=h4 i _ (List.getElem?_eq_getElem hi)
    have : (cells.drop (i * 1)).take 1=[.string ((a++b : List ByteArray)[i])]:=this
    rw [Nat.mul_one] at this
    have h7 : ((cells.drop i).take 1)[0]?=some (.string ((a++b : List ByteArray)[i])):=by rw [this];rfl
    rw [List.getElem?_take,if_pos (by omega),List.getElem?_drop,Nat.add_zero,List.getElem?_eq_getElem h5] at h7
    have h8:=Option.some.inj h7
    rw [h8,List.getElem_map]
    exact ZgB _
   refine ⟨(a : List ByteArray).map fun s=>s.data.toList,.inr ⟨id,(b : List ByteArray).map fun s=>strv s.data.toList,?_,?_⟩⟩
   ·have h1 : [v]=[.slice (some ⟨id,0,none⟩) a.length (a.length+b.length)]:=h1
    have h1 : v=.slice (some ⟨id,0,none⟩) a.length (a.length+b.length):=by simpa using h1
    rw [h1,List.length_map,List.length_map]
   ·rw [h2,hcells,List.map_map]
    rfl
section
variable {H H' X : Zc} {n p : Nat} {gv : Value} {gs : List (List UInt8)}
theorem GV.mono (h : GV H gv gs) (hl : HLe H H') : GV H' gv gs:=by
 rcases h with h | ⟨id,rest,h1,h2⟩
 ·exact .inl h
 ·exact .inr ⟨id,rest,h1,hl _ _ h2⟩
theorem GV.sl (h : GV H gv gs) : Sl H gv (gs.map strv):=by
 rcases h with ⟨rfl,rfl | rfl⟩ | ⟨id,rest,rfl,h2⟩
 ·exact Sl.nil
 ·exact ⟨_,_,rfl,(fun e=>by cases e),rfl⟩
 ·refine ⟨some ⟨id,0,none⟩,gs.length+rest.length,by rw [List.length_map],(fun e=>by cases e),?_⟩
  simp only [Qq,h2]
  rw [if_pos (by simp)]
  simp
theorem GV.len (h : GV H gv gs) : Zx gv H'=some (iv gs.length,H'):=by
 have:=h.sl.len (H':=H')
 rwa [List.length_map] at this
theorem GV.one (h : GV H gv gs) : oneCell gv=true:=by
 rcases h with ⟨_,rfl | rfl⟩ | ⟨id,rest,rfl,_⟩ <;> rfl
theorem GV.cut (h : GV H gv gs) {k : Nat} (hk : k≤gs.length) : ∃ sv,slv 1 gv none (some (iv k)) none H=some (sv,H)∧Sl H sv ((gs.take k).map strv):=by
 have b1 : ∀ d,bnd (some (iv k)) d=some k:=fun d=>by simp [bnd]
 have b2 : ∀ d,bnd none d=some d:=fun _=>rfl
 rcases h with ⟨rfl,h⟩ | ⟨id,rest,rfl,h2⟩
 ·have hk0 : k=0:=by simpa using hk
  subst hk0
  rcases h with rfl | rfl
  ·exact ⟨_,rfl,Sl.nil⟩
  ·exact ⟨_,rfl,⟨_,_,rfl,(fun e=>by cases e),rfl⟩⟩
 ·by_cases h0 : gs.length+rest.length=0
  ·have hk0 : k=0:=by omega
   subst hk0
   refine ⟨.slice (some ⟨id,0,some (bif false then 1 else 0)⟩) 0 0,?_,⟨_,_,rfl,(fun e=>by cases e),rfl⟩⟩
   simp only [slv,h2,b1,b2]
   rw [if_pos ⟨trivial,by omega,by omega,Nat.le_refl _⟩,if_pos (by omega)]
  ·refine ⟨.slice (some ⟨id,0,none⟩) k (gs.length+rest.length),?_,?_⟩
   ·simp only [slv,h2,b1,b2]
    rw [if_pos ⟨trivial,by omega,by omega,Nat.le_refl _⟩,if_neg (by omega)]
    simp
   ·have hl : ((gs.take k).map strv).length=k:=by simp;omega
    refine ⟨some ⟨id,0,none⟩,gs.length+rest.length,by rw [hl],(fun e=>by cases e),?_⟩
    simp only [Qq,h2]
    rw [if_pos (by simp;omega),List.drop_zero,Nat.mul_one,List.take_append_of_le_length (by simpa using hk),List.map_take]
structure Zm where
 nm : List UInt8
 hs : List UInt8
 ml : List UInt8
 ds : Bool
 gv : Value
 gs : List (List UInt8)
abbrev Zm.cells (u : Zm) : List Value:=[strv u.nm,strv u.hs,strv u.ml,.bool u.ds,u.gv]
def Zm.ok (H : Zc) (u : Zm) : Prop:=GV H u.gv u.gs
theorem Zm.all {u : Zm} (h : u.ok H) : u.cells.all oneCell=true:=by
 have:=GV.one h
 simp only [Zm.cells,List.all_cons,this];rfl
theorem Znd (g : (Ty.slc .str).den) : ¬ Rd (.slc .str) g H []:=by
 intro h
 cases g with
 | none=>
  have h : ([] : List Value)=[.slice none 0 0]:=h
  cases h
 | some p=>
  obtain ⟨a,b⟩:=p
  rcases h with ⟨_,_,h⟩ | ⟨id,cells,h1,_⟩
  ·cases h
  ·cases h1
theorem Zqs {x : userT.den} {H : Zc} {cs : List Value} (h : Rd userT x H cs) : ∃ u : Zm,cs=u.cells∧u.ok H:=by
 obtain ⟨s,t,m,d,g,u⟩:=x
 obtain ⟨h1,h2,h3,h4,h5,h6⟩:=h
 have h1 : cs.take 1=[.string s]:=h1
 have h2 : (cs.drop 1).take 1=[.string t]:=h2
 have h3 : ((cs.drop 1).drop 1).take 1=[.string m]:=h3
 have h4 : (((cs.drop 1).drop 1).drop 1).take 1=[.bool d]:=h4
 have h5 : Rd (.slc .str) g H (((((cs.drop 1).drop 1).drop 1).drop 1).take 1):=h5
 have h6 : ((((cs.drop 1).drop 1).drop 1).drop 1).drop 1=[]:=h6
 match cs,h1,h2,h3,h4,h5,h6 with
 | [c1,c2,c3,c4,c5],h1,h2,h3,h4,h5,_=>
  have h5 : Rd (.slc .str) g H [c5]:=h5
  obtain ⟨gs,hg⟩:=ZlA h5
  have e1 : c1=.string s:=by simpa using h1
  have e2 : c2=.string t:=by simpa using h2
  have e3 : c3=.string m:=by simpa using h3
  have e4 : c4=.bool d:=by simpa using h4
  refine ⟨⟨(ByteArray.data s).toList,(ByteArray.data t).toList,(ByteArray.data m).toList,d,c5,gs⟩,?_,hg⟩
  have e1 : c1=strv (ByteArray.data s).toList:=e1.trans (ZgB s)
  have e2 : c2=strv (ByteArray.data t).toList:=e2.trans (ZgB t)
  have e3 : c3=strv (ByteArray.data m).toList:=e3.trans (ZgB m)
  rw [e1,e2,e3,e4]
 | [c1,c2,c3,c4],_,_,_,_,h5,_=>
  have h5 : Rd (.slc .str) g H []:=h5
  exact absurd h5 (Znd g)
def Yx (H : Zc) (sl : Value) (us : List Zm) : Prop:=SlN 5 H sl (us.map Zm.cells)∧∀ u∈us,u.ok H
theorem ZpV {x : (Ty.slc userT).den} {H : Zc} {v : Value} (hwf : (Ty.slc userT).wf x) (h : Rd (.slc userT) x H [v]) : ∃ us,Yx H v us∧us.length≤9223372036854775807:=by
 obtain ⟨rows,h1,h2,h3,h4⟩:=Zqv hwf h
 obtain ⟨us,h5,h6⟩:=ZiT (f:=Zm.cells) (Q:=fun _ u=>u.ok H) (rows:=rows) fun r hr=>by
  obtain ⟨y,_,hr⟩:=h2 r hr
  exact Zqs hr
 subst h5
 exact ⟨us,⟨h1,h6⟩,by simpa using h3⟩
variable {sl : Value} {us : List Zm}
theorem Yx.mono (h : Yx H sl us) (hl : HLe H H') : Yx H' sl us:=⟨h.1.mono hl,fun u hu=>(h.2 u hu).mono hl⟩
theorem Yx.len (h : Yx H sl us) : Zx sl H'=some (iv us.length,H'):=by
 have:=h.1.len (H':=H')
 rwa [List.length_map] at this
theorem Yx.fetch {β : Type} {k : Value→M β} (h : Yx H sl us) {j : Nat} {u : Zm} (hj : us[j]?=some u) :
  bind (ixa 5 sl (iv j)) (fun p=>bind (ldA 5 p) fun v=>bind (alc 1 (.agg #[.string ⟨#[]⟩,.string ⟨#[]⟩,.string ⟨#[]⟩,.bool false,.slice none 0 0])) fun q=>bind (stA 5 q v) fun _=>k q) H=k (pt H.length) (H++[.cells u.cells 1 false false]):=by
 have hr : (us.map Zm.cells)[j]?=some u.cells:=by rw [List.getElem?_map,hj];rfl
 rw [h.1.fetch hr (by omega) .i64]
 exact ZcQ (n:=5) (zs:=[.string ⟨#[]⟩,.string ⟨#[]⟩,.string ⟨#[]⟩,.bool false,.slice none 0 0]) (r:=u.cells) rfl rfl rfl (Zm.all (h.2 u (List.mem_of_getElem? hj)))
theorem Zsn {u : Zm} (h : u.ok X) : alc 1 (.agg u.cells.toArray) X=some (pt X.length,X++[.cells u.cells 1 false false]):=by
 rw [QK]
 exact if_pos (show u.cells.toArray.toList.all oneCell=true by simpa using Zm.all h)
theorem ZmS {b : Value} {sv : Value} (hl : gs.length≤30) (hs : Sl X sv (gs.map strv)) : ∀ (t k : Nat) (z : Int),gs.length - k=t→k≤gs.length→
  ∃ z',Zj (c5 (Kj.l1 (R n))) [b,iv z,sv,iv gs.length,iv k] X=some (.ext 0 [b,iv z'],X)
 | 0,k,z,ht,hk=>by
  have : k=gs.length:=by omega
  subst this
  refine ⟨z,ZD ?_⟩
  rw [Z7]
  unfold Kj.l1
  rw [Za Zg,Zb,if_neg (by simp)]
  rfl
 | t+1,k,z,ht,hk=>by
  have hkl : k < gs.length:=by omega
  have hlt : (k : Int) < gs.length:=by omega
  have hg:=List.getElem?_eq_getElem hkl
  generalize gs[k]=x at hg
  have x1:=hs.ix (i:=k) (by simpa using hkl) .i64 X
  have x2:=hs.ldx (Q3 hg)
  obtain ⟨z',e⟩:=ZmS (b:=b) hl hs t (k+1) (IntKind.i64.wrap (z+if (1000 : Int) < x.length then 1000 else (x.length : Int))) (by omega) (by omega)
  refine ⟨z',(Zv ?_).trans e⟩
  rw [Z7]
  unfold Kj.l1
  rw [Za Zg,Zb,if_pos (by simpa using hlt),Za x1,Za x2,Za Zz,Za J5,Za Zs,Za Zs,Qb (by omega)]
  rfl
theorem ZqW {u : Zm} (h : u.ok X) : ∃ b X',R (n+1) ZbA [.agg u.cells.toArray] X=some (.bool b,X')∧HLe X X'∧(b=true→u.gs.length≤20):=by
 have e1:=Zsn h
 have k1 : HLe X (X++[.cells u.cells 1 false false]):=.app _ _
 have c1 : (X++[Zi.cells u.cells 1 false false])[X.length]?=some (.cells u.cells 1 false false):=ZZ
 generalize X++[Zi.cells u.cells 1 false false]=X1 at e1 k1 c1
 generalize X.length=p at e1 c1
 have hg : GV X1 u.gv u.gs:=GV.mono h k1
 have a0 : ∀ f x,u.cells[f]?=some x→ld1 (pa p f) X1=some (x,X1):=fun f x h=>Q0 c1 h
 have hk : ∃ k : Nat,(if (30 : Int) < u.gs.length then 30 else (u.gs.length : Int))=k∧k≤u.gs.length∧k≤30:=by
  split
  ·exact ⟨30,rfl,by omega,by omega⟩
  ·exact ⟨u.gs.length,rfl,by omega,by omega⟩
 obtain ⟨k,hk1,hk2,hk3⟩:=hk
 obtain ⟨sv,e2,s2⟩:=hg.cut hk2
 have hm : mxi false (iv u.gs.length) (.int .i64 30) X1=some (iv k,X1):=by rw [J5,hk1]
 have hl : (u.gs.take k).length=k:=by simp;omega
 have e3 : Zx sv X1=some (iv (u.gs.take k).length,X1):=by have:=s2.len (H':=X1);rwa [List.length_map] at this
 obtain ⟨z,e4⟩:=ZmS (n:=n) (b:=pt p) (by omega) s2 (u.gs.take k).length 0 (IntKind.i64.wrap (IntKind.i64.wrap ((u.nm.length : Int)+u.hs.length)+u.ml.length)) (by omega) (by omega)
 have e4 : Zj (c5 (Kj.l1 (R n))) [pt p,iv (IntKind.i64.wrap (IntKind.i64.wrap ((u.nm.length : Int)+u.hs.length)+u.ml.length)),sv,iv (u.gs.take k).length,.int .i64 0] X1=_:=e4
 refine ⟨decide (z≤400) && decide ((u.gs.length : Int)≤20),X1,?_,k1,fun h=>by simp only [Bool.and_eq_true,decide_eq_true_eq] at h;omega⟩
 rw [R,ZkX rfl]
 unfold Kj
 rw [Za e1,Za Zk,Za (a0 0 _ rfl),Za Zz,Za Zk,Za (a0 1 _ rfl),Za Zz,Za Zs,Za Zk,Za (a0 2 _ rfl),Za Zz,Za Zs,Za Zk,Za (a0 4 _ rfl),Za Zk,Za (a0 4 _ rfl),Za hg.len,Za hm,Za e2,Za e3,ZM e4,Zu,Z4,Za QI]
 by_cases hz : z≤400
 ·rw [decide_eq_true hz,ZQ,Zf,Za Zk,Zf,Za (a0 4 _ rfl),Zf,Za hg.len,Zf,Za QI,Z5,ZA,Za Zh]
  rfl
 ·rw [decide_eq_false hz,Za (g_r.trans (if_neg (by simp)))]
  simp only [List.replicate]
  rw [ZA,Za Zh]
  rfl
end
end Go.Proofs.YtnnehafmjfmbnaaGreatDoor.A

namespace Go.Proofs.YtnnehafmjfmbnaaGreatDoor.A
set_option linter.unusedVariables false
set_option linter.unusedSimpArgs false
open Go.Proofs Go.Proofs.YtnnehafmjfmbnaaGreatDoor
def Zea : Option (List UInt8)→List Zm→Bool
 | _,[]=>true
 | p,u :: l=>(match p with | none=>true | some p=>decide (p < u.nm)) && Zea (some u.nm) l
def Zdu (us : List Zm) (k : Nat) : Option (List UInt8):=if k=0 then none else (us[k - 1]?).map (·.nm)
section
variable {H0 H X : Zc} {n p : Nat} {u : Zm} {us : List Zm} {sl : Value}
theorem ZmY {a c : Int} {v : Value} (hs : Sl X v [iv a,iv c]) : R (n+1) K0 [v] X=some (iv (if a=0 then c else a),X):=by
 have e1 : Zx v X=some (iv 2,X):=hs.len
 have x1 : ixa 1 v (.int .i64 0) X=some (ixp v 0,X):=hs.ix (i:=0) (by simp) .i64 X
 have x2:=hs.ldx (i:=0) (v:=iv a) rfl
 have x3 : ixa 1 v (.int .i64 1) X=some (ixp v 1,X):=hs.ix (i:=1) (by simp) .i64 X
 have x4:=hs.ldx (i:=1) (v:=iv c) rfl
 have w1 : IntKind.i64.wrap (0+1)=1:=w64 (by omega) (by omega)
 have w2 : IntKind.i64.wrap (1+1)=2:=w64 (by omega) (by omega)
 rw [R,Zkp rfl]
 unfold Q8
 rw [Za e1]
 by_cases ha : a=0
 ·rw [if_pos ha]
  have s1 : c3 (Q8.l1 (run Tryz.prog np lvs n)) [v,iv 2,.int .i64 0] X=some (.nrm [v,iv 2,.int .i64 1],X):=by
   rw [ZN]
   unfold Q8.l1
   rw [Za Zg,Zb,if_pos (by decide),Za x1,Za x2,Za Zn,Zb,if_neg (by simp [ha]),Za Zs,w1]
   rfl
  by_cases hc : c=0
  ·have s2 : c3 (Q8.l1 (run Tryz.prog np lvs n)) [v,iv 2,.int .i64 1] X=some (.nrm [v,iv 2,.int .i64 2],X):=by
    rw [ZN]
    unfold Q8.l1
    rw [Za Zg,Zb,if_pos (by decide),Za x3,Za x4,Za Zn,Zb,if_neg (by simp [hc]),Za Zs,w2]
    rfl
   have s3 : c3 (Q8.l1 (run Tryz.prog np lvs n)) [v,iv 2,.int .i64 2] X=some (.ext 0 [],X):=by
    rw [ZN]
    unfold Q8.l1
    rw [Za Zg,Zb,if_neg (by decide)]
    rfl
   rw [ZM ((Zv s1).trans ((Zv s2).trans (ZD s3))),Zu,hc]
   rfl
  ·have s2 : c3 (Q8.l1 (run Tryz.prog np lvs n)) [v,iv 2,.int .i64 1] X=some (.ret (iv c),X):=by
    rw [ZN]
    unfold Q8.l1
    rw [Za Zg,Zb,if_pos (by decide),Za x3,Za x4,Za Zn,Zb,if_pos (by simp [hc])]
    rfl
   rw [Qr ((Zv s1).trans (ZU s2))]
   rfl
 ·rw [if_neg ha]
  have s1 : c3 (Q8.l1 (run Tryz.prog np lvs n)) [v,iv 2,.int .i64 0] X=some (.ret (iv a),X):=by
   rw [ZN]
   unfold Q8.l1
   rw [Za Zg,Zb,if_pos (by decide),Za x1,Za x2,Za Zn,Zb,if_pos (by simp [ha])]
   rfl
  rw [Qr (ZU s1)]
  rfl
theorem Zqo {a c : Int} (H : Zc) : bsl 1 2 (.int .i64 0) [(0,1,iv a),(1,1,iv c)] H=some (.slice (some ⟨H.length,0,none⟩) 2 2,H++[.cells [iv a,iv c] 1 false false]):=rfl
theorem Zsb {a c : List UInt8} {H : Zc} : bop .str .lss (strv a) (strv c) H=some (.bool (decide (a < c)),H):=by
 rw [← bytesLess_eq]
 show (sop .lss (⟨a.toArray⟩ : ByteArray) (⟨c.toArray⟩ : ByteArray)).map (·,H)=_
 unfold sop
 rw [YP,YP]
 rfl
theorem ZnF {a c : List UInt8} {H : Zc} : bop .str .geq (strv a) (strv c) H=some (.bool (!decide (a < c)),H):=by
 rw [← bytesLess_eq]
 show (sop .geq (⟨a.toArray⟩ : ByteArray) (⟨c.toArray⟩ : ByteArray)).map (·,H)=_
 unfold sop
 rw [YP,YP]
 rfl
theorem Zsc {a c : List UInt8} {H : Zc} : bop .str .gtr (strv a) (strv c) H=some (.bool (decide (c < a)),H):=by
 have h : (!(Op.bytesLess a c || a==c))=decide (c < a):=by
  rw [bytesLess_eq,Bool.eq_iff_iff]
  simp only [Bool.not_eq_true',Bool.or_eq_false_iff,decide_eq_false_iff_not,beq_eq_false_iff_ne,decide_eq_true_eq]
  constructor
  ·rintro ⟨h1,h2⟩
   rcases Zfj a c with h4 | h4 | h4
   ·exact absurd h4 h1
   ·exact absurd h4 h2
   ·exact h4
  ·intro h
   exact ⟨List.lt_asymm h,by rintro rfl;exact List.lt_irrefl _ h⟩
 rw [← h]
 show (sop .gtr (⟨a.toArray⟩ : ByteArray) (⟨c.toArray⟩ : ByteArray)).map (·,H)=_
 unfold sop
 rw [YP,YP]
 rfl
theorem ZmK {a : List UInt8} : R (n+1) Yo [strv a] X=some (.bool false,X):=by
 rw [R,Zge rfl]
 unfold ZaI
 rw [Za ZaF]
 simp [ret]
theorem Zpc {a c : List UInt8} : R (n+3) Jj [strv a,strv c] X=some (iv (Zas a c),X):=by
 have e0 : run Tryz.prog np lvs (n+1) Yo [strv a] X=_:=ZmK
 have e1 : run Tryz.prog np lvs (n+1) Yo [strv c] X=_:=ZmK
 have e2 : run Tryz.prog np lvs (n+2) KT [strv a,strv c] X=some (iv (Zas a c),X):=by
  rw [ZeH rfl]
  unfold W9 Zas
  rw [Za e0,Za e1,Zb,if_neg (by simp),Zb,if_neg (by simp),Za Zsb,Zb]
  by_cases h1 : a < c
  ·rw [if_pos (by simpa using h1),if_pos h1];rfl
  ·rw [if_neg (by simpa using h1),Za Zsc,Zb,if_neg h1]
   by_cases h2 : c < a
   ·rw [if_pos (by simpa using h2),if_pos h2];rfl
   ·rw [if_neg (by simpa using h2),if_neg h2];rfl
 rw [R,ZiI rfl]
 unfold Zcu
 rw [Za e2]
 rfl
theorem Zrl {a c : List UInt8} : decide (Zas a c≥0)=!decide (a < c):=by
 unfold Zas
 by_cases h1 : a < c
 ·simp [h1]
 ·by_cases h2 : c < a <;> simp [h1,h2]
end
end Go.Proofs.YtnnehafmjfmbnaaGreatDoor.A

namespace Go.Proofs.YtnnehafmjfmbnaaGreatDoor.A
set_option linter.unusedVariables false
set_option linter.unusedSimpArgs false
open Go.Proofs Go.Proofs.YtnnehafmjfmbnaaGreatDoor
section
variable {H0 H X : Zc} {n p d b : Nat} {u : Zm} {us : List Zm} {sl dv : Value}
def upB (prev : Option (List UInt8)) (u : Zm) : Bool:=match prev with | none=>true | some p=>decide (p < u.nm)
theorem ZdJ {p : Option (List UInt8)} {l : List Zm} : Zea p (u :: l)=(upB p u && Zea (some u.nm) l):=rfl
theorem Znm {k : Nat} (hk : us[k]?=some u) : Zdu us (k+1)=some u.nm:=by
 unfold Zdu
 rw [if_neg (by omega),Nat.add_sub_cancel,hk];rfl
theorem ZnV : Zdu us 0=none:=rfl
end
end Go.Proofs.YtnnehafmjfmbnaaGreatDoor.A

namespace Go.Proofs.YtnnehafmjfmbnaaGreatDoor.A
set_option linter.unusedVariables false
set_option linter.unusedSimpArgs false
open Go.Proofs Go.Proofs.YtnnehafmjfmbnaaGreatDoor
abbrev ZfX:=List UInt8 × List UInt8 × List UInt8 × Bool × List (List UInt8)
def QA (u : Zm) : ZfX:=(u.nm,u.hs,u.ml,u.ds,u.gs)
section
variable {H0 H X : Zc} {n p p1 p2 d b : Nat} {u w : Zm} {us ws : List Zm} {a c : Value}
theorem Zk0 (h1 : Sl X u.gv (u.gs.map strv)) (h2 : Sl X w.gv (w.gs.map strv)) (hl : u.gs.length=w.gs.length) (hb : u.gs.length≤1000000) (c1 : X[p1]?=some (.cells u.cells 1 false false)) (c2 : X[p2]?=some (.cells w.cells 1 false false)) : ∀ (t j : Nat),u.gs.length - j=t→j≤u.gs.length→
  Zj (c4 (YB.l1 (R n))) [pt p1,pt p2,iv u.gs.length,iv j] X=some (if u.gs.drop j=w.gs.drop j then .ext 0 [] else .ret (.bool false),X)
 | 0,j,ht,hj=>by
  rw [List.drop_eq_nil_of_le (by omega),List.drop_eq_nil_of_le (by omega),if_pos rfl]
  refine ZD ?_
  rw [ZA]
  unfold YB.l1
  rw [Za Zg,Zb,if_neg (by simp;omega)]
  rfl
 | t+1,j,ht,hj=>by
  have hj1 : j < u.gs.length:=by omega
  have hj2 : j < w.gs.length:=by omega
  have hlt : (j : Int) < u.gs.length:=by omega
  have g1:=List.getElem?_eq_getElem hj1
  have g2:=List.getElem?_eq_getElem hj2
  have d1:=List.drop_eq_getElem_cons hj1
  have d2:=List.drop_eq_getElem_cons hj2
  generalize u.gs[j]=x at g1 d1
  generalize w.gs[j]=y at g2 d2
  have x1:=h1.ix (i:=j) (by simpa using hj1) .i64 X
  have x2:=h1.ldx (Q3 g1)
  have y1:=h2.ix (i:=j) (by simpa using hj2) .i64 X
  have y2:=h2.ldx (Q3 g2)
  have a4 : ld1 (pa p1 4) X=some (u.gv,X):=Q0 c1 rfl
  have b4 : ld1 (pa p2 4) X=some (w.gv,X):=Q0 c2 rfl
  have q1 : bop .str .neq (strv x) (strv y) X=some (.bool (!(x==y)),X):=ZaF
  rw [d1,d2]
  by_cases hxy : x=y
  ·subst hxy
   have ih:=Zk0 h1 h2 hl hb c1 c2 t (j+1) (by omega) (by omega)
   have hi : (x :: u.gs.drop (j+1)=x :: w.gs.drop (j+1))↔(u.gs.drop (j+1)=w.gs.drop (j+1)):=by simp
   simp only [hi]
   refine (Zv ?_).trans ih
   rw [ZA]
   unfold YB.l1
   rw [Za Zg,Zb,if_pos (by simpa using hlt),Za Zk,Za a4,Za x1,Za x2,Za Zk,Za b4,Za y1,Za y2,Za q1,Zb,if_neg (by simp),Za Zs,Qb (by omega)]
   rfl
  ·rw [if_neg (by simp [hxy])]
   refine ZU ?_
   rw [ZA]
   unfold YB.l1
   rw [Za Zg,Zb,if_pos (by simpa using hlt),Za Zk,Za a4,Za x1,Za x2,Za Zk,Za b4,Za y1,Za y2,Za q1,Zb,if_pos (by simp [hxy])]
   rfl
theorem Zli {u : Zm} (h : oneCell u.gv=true) : alc 1 (.agg u.cells.toArray) X=some (pt X.length,X++[.cells u.cells 1 false false]):=by
 rw [QK]
 exact if_pos (show u.cells.toArray.toList.all oneCell=true by simp only [Zm.cells,List.all_cons,h];rfl)
theorem Zq8 (h1 : Sl X u.gv (u.gs.map strv)) (h2 : Sl X w.gv (w.gs.map strv)) (o1 : oneCell u.gv=true) (o2 : oneCell w.gv=true) (hb1 : u.gs.length≤1000000) (hb2 : w.gs.length≤1000000) :
  ∃ X',R (n+1) Zb3 [.agg u.cells.toArray,.agg w.cells.toArray] X=some (.bool (decide (QA u=QA w)),X')∧HLe X X':=by
 have e1:=Zli (X:=X) o1
 have e2:=Zli (X:=X++[.cells u.cells 1 false false]) o2
 have k1 : HLe X (X++[Zi.cells u.cells 1 false false]++[Zi.cells w.cells 1 false false]):=(HLe.app _ _).trans (.app _ _)
 have c1 : (X++[Zi.cells u.cells 1 false false]++[Zi.cells w.cells 1 false false])[X.length]?=some (.cells u.cells 1 false false):=Zrr
 have c2 : (X++[Zi.cells u.cells 1 false false]++[Zi.cells w.cells 1 false false])[(X++[Zi.cells u.cells 1 false false]).length]?=some (.cells w.cells 1 false false):=ZZ
 generalize X++[Zi.cells u.cells 1 false false]++[Zi.cells w.cells 1 false false]=X2 at e2 k1 c1 c2
 generalize (X++[Zi.cells u.cells 1 false false]).length=p2 at e2 c2
 generalize X.length=p1 at e1 c1
 have a0 : ∀ f x,u.cells[f]?=some x→ld1 (pa p1 f) X2=some (x,X2):=fun f x h=>Q0 c1 h
 have b0 : ∀ f x,w.cells[f]?=some x→ld1 (pa p2 f) X2=some (x,X2):=fun f x h=>Q0 c2 h
 have q0 : ∀ x y : List UInt8,bop .str .neq (strv x) (strv y) X2=some (.bool (decide (x≠y)),X2):=fun x y=>by
  rw [ZaF];by_cases h : x=y <;> simp [h]
 have q1 : bop .bool .neq (.bool u.ds) (.bool w.ds) X2=some (.bool (decide (u.ds≠w.ds)),X2):=by
  rw [Jn];cases u.ds <;> cases w.ds <;> rfl
 have q2 : bop .int .neq (iv u.gs.length) (iv w.gs.length) X2=some (.bool (decide (u.gs.length≠w.gs.length)),X2):=by
  rw [Zn];by_cases h : u.gs.length=w.gs.length
  ·simp [h]
  ·have : ((u.gs.length : Int) !=w.gs.length)=true:=by rw [bne_iff_ne];omega
   rw [this];simp [h]
 have g1:=h1.mono k1
 have g2:=h2.mono k1
 have l1 : Zx u.gv X2=some (iv u.gs.length,X2):=by have:=g1.len (H':=X2);rwa [List.length_map] at this
 have l2 : Zx w.gv X2=some (iv w.gs.length,X2):=by have:=g2.len (H':=X2);rwa [List.length_map] at this
 refine ⟨X2,?_,k1⟩
 rw [R,Zkj rfl]
 unfold YB
 rw [Za e1,Za e2,Za Zk,Za (a0 0 _ rfl),Za Zk,Za (b0 0 _ rfl),Za (q0 _ _)]
 by_cases n1 : u.nm=w.nm
 rotate_left
 ·rw [decide_eq_true n1,Za (g_r.trans (if_neg (by simp)))]
  simp only [List.replicate]
  rw [Z7,Za Zh]
  simp only [cond_true]
  rw [Za (g_r.trans (if_neg (by simp)))]
  simp only [List.replicate]
  rw [Z7,Za Zh]
  simp only [cond_true]
  rw [Za (g_r.trans (if_neg (by simp)))]
  simp only [List.replicate]
  rw [Z7,Za Zh]
  simp only [cond_true]
  rw [Za (g_r.trans (if_neg (by simp)))]
  simp only [List.replicate]
  rw [Jv,Za Zh]
  simp only [cond_true]
  rw [Zb,if_pos rfl,decide_eq_false (fun e=>n1 (congrArg (·.1) e))]
  rfl
 rw [decide_eq_false (fun h=>h n1),ZQ,Zf,Za Zk,Zf,Za (a0 1 _ rfl),Zf,Za Zk,Zf,Za (b0 1 _ rfl),Zf,Za (q0 _ _),Z5,Z7,Za Zh]
 simp only [cond_false]
 by_cases n2 : u.hs=w.hs
 rotate_left
 ·rw [decide_eq_true n2,Za (g_r.trans (if_neg (by simp)))]
  simp only [List.replicate]
  rw [Z7,Za Zh]
  simp only [cond_true]
  rw [Za (g_r.trans (if_neg (by simp)))]
  simp only [List.replicate]
  rw [Z7,Za Zh]
  simp only [cond_true]
  rw [Za (g_r.trans (if_neg (by simp)))]
  simp only [List.replicate]
  rw [Jv,Za Zh]
  simp only [cond_true]
  rw [Zb,if_pos rfl,decide_eq_false (fun e=>n2 (congrArg (·.2.1) e))]
  rfl
 rw [decide_eq_false (fun h=>h n2),ZQ,Zf,Za Zk,Zf,Za (a0 2 _ rfl),Zf,Za Zk,Zf,Za (b0 2 _ rfl),Zf,Za (q0 _ _),Z5,Z7,Za Zh]
 simp only [cond_false]
 by_cases n3 : u.ml=w.ml
 rotate_left
 ·rw [decide_eq_true n3,Za (g_r.trans (if_neg (by simp)))]
  simp only [List.replicate]
  rw [Z7,Za Zh]
  simp only [cond_true]
  rw [Za (g_r.trans (if_neg (by simp)))]
  simp only [List.replicate]
  rw [Jv,Za Zh]
  simp only [cond_true]
  rw [Zb,if_pos rfl,decide_eq_false (fun e=>n3 (congrArg (·.2.2.1) e))]
  rfl
 rw [decide_eq_false (fun h=>h n3),ZQ,Zf,Za Zk,Zf,Za (a0 3 _ rfl),Zf,Za Zk,Zf,Za (b0 3 _ rfl),Zf,Za q1,Z5,Z7,Za Zh]
 simp only [cond_false]
 by_cases n4 : u.ds=w.ds
 rotate_left
 ·rw [decide_eq_true n4,Za (g_r.trans (if_neg (by simp)))]
  simp only [List.replicate]
  rw [Jv,Za Zh]
  simp only [cond_true]
  rw [Zb,if_pos rfl,decide_eq_false (fun e=>n4 (congrArg (·.2.2.2.1) e))]
  rfl
 rw [decide_eq_false (fun h=>h n4),ZQ,Zf,Za Zk,Zf,Za (a0 4 _ rfl),Zf,Za l1,Zf,Za Zk,Zf,Za (b0 4 _ rfl),Zf,Za l2,Zf,Za q2,Z5,Jv,Za Zh]
 simp only [cond_false]
 by_cases n5 : u.gs.length=w.gs.length
 rotate_left
 ·rw [decide_eq_true n5,Zb,if_pos rfl,decide_eq_false (fun e=>n5 (congrArg (·.2.2.2.2.length) e))]
  rfl
 rw [decide_eq_false (fun h=>h n5),Zb,if_neg (by simp),Za Zk,Za (a0 4 _ rfl),Za l1]
 have e3:=Zk0 (n:=n) g1 g2 n5 hb1 c1 c2 u.gs.length 0 (by omega) (by omega)
 rw [List.drop_zero,List.drop_zero] at e3
 have e3 : Zj (c4 (YB.l1 (R n))) [pt p1,pt p2,iv u.gs.length,.int .i64 0] X2=_:=e3
 by_cases n6 : u.gs=w.gs
 ·rw [if_pos n6] at e3
  rw [ZM e3,Zu,decide_eq_true (show QA u=QA w by unfold QA;rw [n1,n2,n3,n4,n6])]
  rfl
 ·rw [if_neg n6] at e3
  rw [Qr e3,decide_eq_false (fun e=>n6 (congrArg (·.2.2.2.2) e))]
  rfl
def QM (H : Zc) (sl : Value) (us : List Zm) : Prop:=SlN 5 H sl (us.map Zm.cells)∧∀ u∈us,Sl H u.gv (u.gs.map strv)∧oneCell u.gv=true∧u.gs.length≤1000000
theorem QM.mono (h : QM H a us) (hl : HLe H X) : QM X a us:=⟨h.1.mono hl,fun u hu=>⟨(h.2 u hu).1.mono hl,(h.2 u hu).2⟩⟩
theorem Yx.s (h : Yx H a us) (hb : ∀ u∈us,u.gs.length≤1000000) : QM H a us:=⟨h.1,fun u hu=>⟨GV.sl (h.2 u hu),GV.one (h.2 u hu),hb u hu⟩⟩
theorem Zle (hn : us.length≤1000000) (hl : us.length=ws.length) (ha : QM H0 a us) (hc : QM H0 c ws) : ∀ (t j : Nat) (X : Zc),us.length - j=t→j≤us.length→HLe H0 X→
  ∃ X',Zj (c4 (QB.l1 (R (n+1)))) [a,c,iv us.length,iv j] X=some (if (us.drop j).map QA=(ws.drop j).map QA then .ext 0 [] else .ret (.bool false),X')∧HLe H0 X'
 | 0,j,X,ht,hj,hle=>by
  rw [List.drop_eq_nil_of_le (by omega),List.drop_eq_nil_of_le (by omega),if_pos rfl]
  refine ⟨X,ZD ?_,hle⟩
  rw [ZA]
  unfold QB.l1
  rw [Za Zg,Zb,if_neg (by simp;omega)]
  rfl
 | t+1,j,X,ht,hj,hle=>by
  have hj1 : j < us.length:=by omega
  have hj2 : j < ws.length:=by omega
  have hlt : (j : Int) < us.length:=by omega
  have g1:=List.getElem?_eq_getElem hj1
  have g2:=List.getElem?_eq_getElem hj2
  have d1:=List.drop_eq_getElem_cons hj1
  have d2:=List.drop_eq_getElem_cons hj2
  generalize us[j]=u at g1 d1
  generalize ws[j]=w at g2 d2
  have hr1 : (us.map Zm.cells)[j]?=some u.cells:=by rw [List.getElem?_map,g1];rfl
  have hr2 : (ws.map Zm.cells)[j]?=some w.cells:=by rw [List.getElem?_map,g2];rfl
  have hf1:=fun {K : Value→M Out}=>(ha.1.mono hle).fetch (k:=K) hr1 (by omega) .i64
  have hf2:=fun {K : Value→M Out}=>(hc.1.mono hle).fetch (k:=K) hr2 (by omega) .i64
  obtain ⟨p1,p2,p3⟩:=(ha.mono hle).2 u (List.mem_of_getElem? g1)
  obtain ⟨r1,r2,r3⟩:=(hc.mono hle).2 w (List.mem_of_getElem? g2)
  obtain ⟨X1,e1,l1⟩:=Zq8 (n:=n) p1 r1 p2 r2 p3 r3
  rw [d1,d2]
  by_cases hk : QA u=QA w
  ·rw [decide_eq_true hk] at e1
   obtain ⟨X2,e2,l2⟩:=Zle hn hl ha hc t (j+1) X1 (by omega) (by omega) (hle.trans l1)
   have hi : ((u :: us.drop (j+1)).map QA=(w :: ws.drop (j+1)).map QA)↔((us.drop (j+1)).map QA=(ws.drop (j+1)).map QA):=by simp [hk]
   simp only [hi]
   refine ⟨X2,(Zv ?_).trans e2,l2⟩
   rw [ZA]
   unfold QB.l1
   rw [Za Zg,Zb,if_pos (by simpa using hlt),hf1,hf2,Za e1,Za ZE,Zb,if_neg (by simp),Za Zs,Qb (by omega)]
   rfl
  ·rw [decide_eq_false hk] at e1
   rw [if_neg (by simp [hk])]
   refine ⟨X1,ZU ?_,hle.trans l1⟩
   rw [ZA]
   unfold QB.l1
   rw [Za Zg,Zb,if_pos (by simpa using hlt),hf1,hf2,Za e1,Za ZE,Zb,if_pos (by simp)]
   rfl
theorem Zox (hn : us.length≤1000000) (hn2 : ws.length≤1000000) (ha : QM X a us) (hc : QM X c ws) : ∃ X',R (n+2) YX [a,c] X=some (.bool (decide (us.map QA=ws.map QA)),X')∧HLe X X':=by
 have h1 : Zx a X=some (iv us.length,X):=by have:=ha.1.len (H':=X);rwa [List.length_map] at this
 have h2 : Zx c X=some (iv ws.length,X):=by have:=hc.1.len (H':=X);rwa [List.length_map] at this
 have f1 : ∀ v H',QB (R (n+1)) a c X=some (v,H')→R (n+2) YX [a,c] X=some (v,H'):=fun v H' hr=>by rw [R,Zfr rfl];exact hr
 by_cases hl : us.length=ws.length
 ·obtain ⟨X',e,l⟩:=Zle (n:=n) hn hl ha hc us.length 0 X (by omega) (by omega) (.refl _)
  have e : Zj (c4 (QB.l1 (R (n+1)))) [a,c,iv us.length,.int .i64 0] X=_:=e
  rw [List.drop_zero,List.drop_zero] at e
  refine ⟨X',f1 _ _ ?_,l⟩
  unfold QB
  rw [Za h1,Za h2,Za Zn,Zb,if_neg (by simp [hl]),Za h1]
  by_cases hk : us.map QA=ws.map QA
  ·rw [if_pos hk] at e
   rw [ZM e,Zu,decide_eq_true hk];rfl
  ·rw [if_neg hk] at e
   rw [Qr e,decide_eq_false hk];rfl
 ·refine ⟨X,f1 _ _ ?_,.refl _⟩
  unfold QB
  have hk : ¬ us.map QA=ws.map QA:=fun e=>hl (by have:=congrArg List.length e;simpa using this)
  have hne : ((us.length : Int) !=ws.length)=true:=by rw [bne_iff_ne];omega
  rw [Za h1,Za h2,Za Zn,Zb,if_pos hne,decide_eq_false hk]
  rfl
end
end Go.Proofs.YtnnehafmjfmbnaaGreatDoor.A

namespace Go.Proofs.YtnnehafmjfmbnaaGreatDoor.A
set_option linter.unusedVariables false
set_option linter.unusedSimpArgs false
open Go.Proofs Go.Proofs.YtnnehafmjfmbnaaGreatDoor
section
variable {H H' : Zc} {n d b p q : Nat} {m : J0} {k s : List UInt8}
end
end Go.Proofs.YtnnehafmjfmbnaaGreatDoor.A

namespace Go.Proofs.YtnnehafmjfmbnaaGreatDoor.A
set_option linter.unusedVariables false
set_option linter.unusedSimpArgs false
open Go.Proofs Go.Proofs.YtnnehafmjfmbnaaGreatDoor
structure ZhR where
 kd : Nat
 nm : List UInt8
 hs : List UInt8
abbrev ZhR.cells (a : ZhR) : List Value:=[.int .u8 a.kd,strv a.nm,strv a.hs]
def ZeB (H : Zc) (sl : Value) (ac : List ZhR) : Prop:=SlN 3 H sl (ac.map ZhR.cells)∧∀ a∈ac,a.kd≤255
section
variable {H H' : Zc} {sl : Value} {ac : List ZhR} {n : Nat}
theorem ZeB.len (h : ZeB H sl ac) : Zx sl H'=some (iv ac.length,H'):=by
 have:=h.1.len (H':=H')
 rwa [List.length_map] at this
theorem ZeB.mono (h : ZeB H sl ac) (hl : HLe H H') : ZeB H' sl ac:=⟨h.1.mono hl,h.2⟩
theorem ZeB.fetch {β : Type} {k : Value→M β} (h : ZeB H sl ac) {j : Nat} {a : ZhR} (hj : ac[j]?=some a) :
  bind (ixa 3 sl (iv j)) (fun p=>bind (ldA 3 p) fun v=>bind (alc 1 (.agg #[.int .u8 0,.string ⟨#[]⟩,.string ⟨#[]⟩])) fun q=>bind (stA 3 q v) fun _=>k q) H=k (pt H.length) (H++[.cells a.cells 1 false false]):=by
 have hr : (ac.map ZhR.cells)[j]?=some a.cells:=by rw [List.getElem?_map,hj];rfl
 rw [h.1.fetch hr (by omega) .i64]
 exact ZcQ (n:=3) (zs:=[.int .u8 0,.string ⟨#[]⟩,.string ⟨#[]⟩]) (r:=a.cells) rfl rfl rfl rfl
end
end Go.Proofs.YtnnehafmjfmbnaaGreatDoor.A

