/- Functions, as the abstract machine reads them: printed by wip/tools/gen.py. -/
import Derived.Test.YtdmijlkknpolbaaNmQuo
import Derived.Test.YtdmijlkknpolbaaProg
import Derived.KernelRfl
namespace Go.Proofs.Ytdmijlkknpolbaa.A
set_option linter.unusedVariables false
set_option linter.unusedSimpArgs false
open Go.Proofs Go.Proofs.Ytdmijlkknpolbaa

/-- interrex/interrexlaw27.QuorumTurns: a round. -/
noncomputable def F_law27QuorumTurns.l1 (Γ : Funs) (s0 s1 s5 s27 s28 : Value) : M Out :=
  bind (bop .int .lss s28 s27) fun v29x15 =>
  cnd v29x15
  (bind (bop .int .add s0 s28) fun v33x16 =>
  bind (Γ n_quorumPrimary [v33x16, s1]) fun v35x17 =>
  bind (cvi .i64 v35x17) fun v37x18 =>
  bind (bop .int .geq v37x18 s1) fun v39x19 =>
  bind (gate v39x19 false 3 (bind (ixaA 7 1 s5 v35x17) fun v42x20 =>
  bind (ld1 v42x20) fun v43x21 =>
  ret [v35x17, v42x20, v43x21])) (c3 fun _ _ q22_2 =>
  bind (pick v39x19 (Value.bool true) q22_2) fun v44x23 =>
  cnd v44x23
  (ret (.ret (Value.bool false)))
  (bind (ixaA 7 1 s5 v35x17) fun v46x24 =>
  bind (st1 v46x24 (Value.bool true)) fun _ =>
  bind (bop .int .add s28 (Value.int .u64 1)) fun v47x25 =>
  ret (.nrm [s0, s1, s5, s27, v47x25]))))
  (ret (.ext 0 []))

/-- interrex/interrexlaw27.QuorumTurns -/
noncomputable def F_law27QuorumTurns (Γ : Funs) (x0 x1 : Value) : M Value :=
  bind (Γ n_law27Lives []) fun v8x1 =>
  bind (uop .not v8x1) fun v9x2 =>
  bind (gate v9x2 false 7 (bind (Γ n_quorumPrimary [x0, x1]) fun v13x3 =>
  bind (Γ n_ref27Primary [x0, x1]) fun v16x4 =>
  bind (bop .int .neq v13x3 v16x4) fun v17x5 =>
  ret [x0, x1, v13x3, x0, x1, v16x4, v17x5])) (c7 fun _ _ _ _ _ _ q6_6 =>
  bind (pick v9x2 (Value.bool true) q6_6) fun v18x7 =>
  cnd v18x7
  (ret (Value.bool false))
  (bind (Γ n_ref27Enough [x1]) fun v20x8 =>
  bind (bop .int .eql v20x8 (Value.int .i64 0)) fun v21x9 =>
  bind (gate v21x9 false 2 (bind (bop .int .gtr x0 (Value.int .u64 9223372036854775808)) fun v24x10 =>
  ret [x0, v24x10])) (c2 fun _ q11_1 =>
  bind (pick v21x9 (Value.bool true) q11_1) fun v25x12 =>
  cnd v25x12
  (ret (Value.bool true))
  (bind (alc 1 (.agg #[.bool false, .bool false, .bool false, .bool false, .bool false, .bool false, .bool false])) fun v5x13 =>
  bind (cvi .u64 x1) fun v27x14 =>
  jn (loopM (c5 (F_law27QuorumTurns.l1 Γ)) [x0, x1, v5x13, v27x14, (Value.int .u64 0)]) noN (xk 0 (c0 (ret (Value.bool true))) noX) ret))))

set_option maxRecDepth 100000 in
theorem rf_law27QuorumTurns (Γ : Funs) (x0 x1 : Value) : runF Try.prog Γ Try.f3 lv_law27QuorumTurns [x0, x1] = F_law27QuorumTurns Γ x0 x1 := by kernel_rfl

theorem run_law27QuorumTurns {prim : FuncId → Option (List Value → M Value)} (hp : prim n_law27QuorumTurns = none) (n : Nat) (x0 x1 : Value) : run Try.prog prim lvs (n + 1) n_law27QuorumTurns [x0, x1] = F_law27QuorumTurns (run Try.prog prim lvs n) x0 x1 :=
  (run_fn hp (by kernel_rfl) Try.func3 (by kernel_rfl)).trans (rf_law27QuorumTurns _ x0 x1)

/-- interrex/interrexlaw27.QuorumMarks: a round. -/
noncomputable def F_law27QuorumMarks.l2 (Γ : Funs) (s5 s6 s7 s32 s33 s34 s80 : Value) : M Out :=
  bind (bop .int .lss s80 (Value.int .u8 9)) fun v81x57 =>
  cnd v81x57
  (bind (cvi .i64 s80) fun v84x58 =>
  bind (bop .int .lss v84x58 s5) fun v86x59 =>
  jn (cnd v86x59
  (bind (ixa 1 s7 s80) fun v89x60 =>
  bind (ld1 v89x60) fun v90x61 =>
  ret (.nrm [s5, s6, s7, s80, v90x61, s32, s33, s34, s80]))
  (ret (.nrm [s5, s6, s7, s80, (Value.int .u64 0), s32, s33, s34, s80]))) (c9 fun q62_0 q62_1 q62_2 q62_3 q62_4 q62_5 q62_6 q62_7 q62_8 =>
  bind (Γ n_quorumMarksOf [q62_1, q62_3]) fun v93x63 =>
  bind (bop .int .neq v93x63 q62_4) fun v95x64 =>
  cnd v95x64
  (ret (.ret (Value.bool false)))
  (bind (bop .int .add q62_8 (Value.int .u8 1)) fun v96x65 =>
  ret (.nrm [q62_0, q62_1, q62_2, q62_5, q62_6, q62_7, v96x65]))) noX retR)
  (ret (.ext 2 [s5, s6, s7, s32, s33, s34]))

/-- interrex/interrexlaw27.QuorumMarks: a round. -/
noncomputable def F_law27QuorumMarks.l1 (Γ : Funs) (s5 s6 s7 s32 s33 s34 : Value) : M Out :=
  bind (bop .int .lss s34 s33) fun v35x16 =>
  cnd v35x16
  (bind (ixa 3 s32 s34) fun v36x17 =>
  bind (ldA 3 v36x17) fun v37x18 =>
  bind (alc 1 (.agg #[.int .u8 0, .int .u8 0, .int .u64 0])) fun v9x19 =>
  bind (stA 3 v9x19 v37x18) fun _ =>
  bind (fa 0 v9x19) fun v38x20 =>
  bind (ld1 v38x20) fun v39x21 =>
  bind (bop .int .rem v39x21 (Value.int .u8 3)) fun v40x22 =>
  bind (bop .int .eql v40x22 (Value.int .u8 2)) fun v41x23 =>
  jn (cnd v41x23
  (bind (Γ n_quorumMarksClear [s6]) fun v43x24 =>
  bind (mks 1 8 (.int .u64 0) s5 s5) fun v45x25 =>
  ret (.nrm [s5, s6, v45x25, s32, s33, s34]))
  (bind (fa 1 v9x19) fun v46x26 =>
  bind (ld1 v46x26) fun v47x27 =>
  bind (cvi .i64 v47x27) fun v48x28 =>
  bind (bop .int .lss v48x28 s5) fun v50x29 =>
  bind (gateV v50x29 true (fa 2 v9x19)) fun v52x30 =>
  bind (gateV v50x29 true (ld1 v52x30)) fun v53x31 =>
  bind (gateV v50x29 true (ret s7)) fun v54x32 =>
  bind (gateV v50x29 true (fa 1 v9x19)) fun v55x33 =>
  bind (gateV v50x29 true (ld1 v55x33)) fun v56x34 =>
  bind (gateV v50x29 true (cvi .i64 v56x34)) fun v57x35 =>
  bind (gateV v50x29 true (ret s5)) fun v58x36 =>
  bind (gateV v50x29 true (bop .int .sub v58x36 (Value.int .i64 1))) fun v59x37 =>
  bind (gateV v50x29 true (mxi false v57x35 v59x37)) fun v60x38 =>
  bind (gateV v50x29 true (ixa 1 v54x32 v60x38)) fun v61x39 =>
  bind (gateV v50x29 true (ld1 v61x39)) fun v62x40 =>
  bind (gateV v50x29 true (bop .int .gtr v53x31 v62x40)) fun v63x41 =>
  bind (pick v50x29 v63x41 (Value.bool false)) fun v64x42 =>
  bind (fa 1 v9x19) fun v66x43 =>
  bind (ld1 v66x43) fun v67x44 =>
  bind (fa 2 v9x19) fun v68x45 =>
  bind (ld1 v68x45) fun v69x46 =>
  bind (Γ n_quorumMarksNote [s6, v67x44, v69x46]) fun v70x47 =>
  bind (bop .bool .neq v70x47 v64x42) fun v72x48 =>
  cnd v72x48
  (ret (.ret (Value.bool false)))
  (jn (cnd v64x42
  (bind (fa 1 v9x19) fun v75x49 =>
  bind (ld1 v75x49) fun v76x50 =>
  bind (fa 2 v9x19) fun v77x51 =>
  bind (ld1 v77x51) fun v78x52 =>
  bind (ixa 1 s7 v76x50) fun v79x53 =>
  bind (st1 v79x53 v78x52) fun _ =>
  ret (.nrm [s5, s6, s7, s32, s33, s34]))
  (ret (.nrm [s5, s6, s7, s32, s33, s34]))) (c6 fun q54_0 q54_1 q54_2 q54_3 q54_4 q54_5 =>
  ret (.nrm [q54_0, q54_1, q54_2, q54_3, q54_4, q54_5])) noX retR))) (c6 fun q56_0 q56_1 q56_2 q56_3 q56_4 q56_5 =>
  jn (loopM (c7 (F_law27QuorumMarks.l2 Γ)) [q56_0, q56_1, q56_2, q56_3, q56_4, q56_5, (Value.int .u8 0)]) noN (xk 2 (c6 fun q68_0 q68_1 q68_2 q68_3 q68_4 q68_5 =>
  bind (Γ n_quorumMarksReached [q68_1]) fun v98x69 =>
  bind (Γ n_ref27Reached [q68_2]) fun v100x70 =>
  bind (bop .int .neq v98x69 v100x70) fun v101x71 =>
  cnd v101x71
  (ret (.ret (Value.bool false)))
  (bind (bop .int .add q68_5 (Value.int .i64 1)) fun v102x72 =>
  ret (.nrm [q68_0, q68_1, q68_2, q68_3, q68_4, v102x72]))) noX) retR) noX retR)
  (ret (.ext 0 []))

/-- interrex/interrexlaw27.QuorumMarks -/
noncomputable def F_law27QuorumMarks (Γ : Funs) (x0 x1 : Value) : M Value :=
  bind (Γ n_law27Lives []) fun v13x1 =>
  bind (uop .not v13x1) fun v14x2 =>
  bind (gate v14x2 false 3 (bind (lenS x1) fun v17x3 =>
  bind (bop .int .gtr v17x3 (Value.int .i64 40)) fun v18x4 =>
  ret [x1, v17x3, v18x4])) (c3 fun _ _ q5_2 =>
  bind (pick v14x2 (Value.bool true) q5_2) fun v19x6 =>
  cnd v19x6
  (bind (Γ n_law27Lives []) fun v20x7 =>
  ret v20x7)
  (bind (bop .int .rem x0 (Value.int .u8 3)) fun v22x8 =>
  bind (cvi .i64 v22x8) fun v23x9 =>
  bind (bop .int .mul (Value.int .i64 2) v23x9) fun v24x10 =>
  bind (bop .int .add (Value.int .i64 3) v24x10) fun v25x11 =>
  bind (Γ n_quorumNewMarks [v25x11]) fun v27x12 =>
  bind (bop .ptr .eql v27x12 (Value.pointer none)) fun v29x13 =>
  cnd v29x13
  (ret (Value.bool false))
  (bind (mks 1 8 (.int .u64 0) v25x11 v25x11) fun v31x14 =>
  bind (lenS x1) fun v33x15 =>
  jn (loopM (c6 (F_law27QuorumMarks.l1 Γ)) [v25x11, v27x12, v31x14, x1, v33x15, (Value.int .i64 0)]) noN (xk 0 (c0 (ret (Value.bool true))) noX) ret)))

set_option maxRecDepth 100000 in
theorem rf_law27QuorumMarks (Γ : Funs) (x0 x1 : Value) : runF Try.prog Γ Try.f4 lv_law27QuorumMarks [x0, x1] = F_law27QuorumMarks Γ x0 x1 := by kernel_rfl

theorem run_law27QuorumMarks {prim : FuncId → Option (List Value → M Value)} (hp : prim n_law27QuorumMarks = none) (n : Nat) (x0 x1 : Value) : run Try.prog prim lvs (n + 1) n_law27QuorumMarks [x0, x1] = F_law27QuorumMarks (run Try.prog prim lvs n) x0 x1 :=
  (run_fn hp (by kernel_rfl) Try.func4 (by kernel_rfl)).trans (rf_law27QuorumMarks _ x0 x1)

/-- interrex/interrexlaw27.QuorumSets: a round. -/
noncomputable def F_law27QuorumSets.l2 (Γ : Funs) (s0 s5 s6 s7 s42 s43 s44 s84 : Value) : M Out :=
  bind (bop .int .lss s84 (Value.int .u8 9)) fun v85x56 =>
  cnd v85x56
  (bind (Γ n_quorumSetHas [s5, s84]) fun v89x57 =>
  bind (cvi .i64 s84) fun v91x58 =>
  bind (bop .int .lss v91x58 s0) fun v93x59 =>
  bind (gate v93x59 true 8 (bind (cvi .i64 s84) fun v97x60 =>
  bind (bop .int .sub s0 (Value.int .i64 1)) fun v99x61 =>
  bind (mxi false v97x60 v99x61) fun v100x62 =>
  bind (ixa 1 s7 v100x62) fun v101x63 =>
  bind (ld1 v101x63) fun v102x64 =>
  ret [s7, s84, v97x60, s0, v99x61, v100x62, v101x63, v102x64])) (c8 fun _ _ _ _ _ _ _ q65_7 =>
  bind (pick v93x59 q65_7 (Value.bool false)) fun v103x66 =>
  bind (bop .bool .neq v89x57 v103x66) fun v104x67 =>
  cnd v104x67
  (ret (.ret (Value.bool false)))
  (bind (bop .int .add s84 (Value.int .u8 1)) fun v105x68 =>
  ret (.nrm [s0, s5, s6, s7, s42, s43, s44, v105x68]))))
  (ret (.ext 2 [s0, s5, s6, s7, s42, s43, s44]))

/-- interrex/interrexlaw27.QuorumSets: a round. -/
noncomputable def F_law27QuorumSets.l1 (Γ : Funs) (s0 s5 s6 s7 s42 s43 s44 : Value) : M Out :=
  bind (bop .int .lss s44 s43) fun v45x22 =>
  cnd v45x22
  (bind (ixa 3 s42 s44) fun v46x23 =>
  bind (ldA 3 v46x23) fun v47x24 =>
  bind (alc 1 (.agg #[.int .u8 0, .int .u8 0, .int .u64 0])) fun v9x25 =>
  bind (stA 3 v9x25 v47x24) fun _ =>
  bind (fa 0 v9x25) fun v48x26 =>
  bind (ld1 v48x26) fun v49x27 =>
  bind (bop .int .rem v49x27 (Value.int .u8 3)) fun v50x28 =>
  bind (bop .int .eql v50x28 (Value.int .u8 2)) fun v51x29 =>
  jn (cnd v51x29
  (bind (Γ n_quorumSetClear [s5]) fun v53x30 =>
  bind (mks 1 1 (.bool false) s0 s0) fun v55x31 =>
  ret (.nrm [s0, s5, s6, v55x31, s42, s43, s44]))
  (bind (fa 1 v9x25) fun v56x32 =>
  bind (ld1 v56x32) fun v57x33 =>
  bind (cvi .i64 v57x33) fun v58x34 =>
  bind (bop .int .lss v58x34 s0) fun v60x35 =>
  bind (gate v60x35 true 10 (bind (fa 1 v9x25) fun v63x36 =>
  bind (ld1 v63x36) fun v64x37 =>
  bind (cvi .i64 v64x37) fun v65x38 =>
  bind (bop .int .sub s0 (Value.int .i64 1)) fun v67x39 =>
  bind (mxi false v65x38 v67x39) fun v68x40 =>
  bind (ixa 1 s7 v68x40) fun v69x41 =>
  bind (ld1 v69x41) fun v70x42 =>
  bind (uop .not v70x42) fun v71x43 =>
  ret [s7, v63x36, v64x37, v65x38, s0, v67x39, v68x40, v69x41, v70x42, v71x43])) (c10 fun _ _ _ _ _ _ _ _ _ q44_9 =>
  bind (pick v60x35 q44_9 (Value.bool false)) fun v72x45 =>
  bind (fa 1 v9x25) fun v74x46 =>
  bind (ld1 v74x46) fun v75x47 =>
  bind (Γ n_quorumSetAdd [s5, v75x47]) fun v76x48 =>
  bind (bop .bool .neq v76x48 v72x45) fun v78x49 =>
  cnd v78x49
  (ret (.ret (Value.bool false)))
  (jn (cnd v72x45
  (bind (fa 1 v9x25) fun v81x50 =>
  bind (ld1 v81x50) fun v82x51 =>
  bind (ixa 1 s7 v82x51) fun v83x52 =>
  bind (st1 v83x52 (Value.bool true)) fun _ =>
  ret (.nrm [s0, s5, s6, s7, s42, s43, s44]))
  (ret (.nrm [s0, s5, s6, s7, s42, s43, s44]))) (c7 fun q53_0 q53_1 q53_2 q53_3 q53_4 q53_5 q53_6 =>
  ret (.nrm [q53_0, q53_1, q53_2, q53_3, q53_4, q53_5, q53_6])) noX retR)))) (c7 fun q55_0 q55_1 q55_2 q55_3 q55_4 q55_5 q55_6 =>
  jn (loopM (c8 (F_law27QuorumSets.l2 Γ)) [q55_0, q55_1, q55_2, q55_3, q55_4, q55_5, q55_6, (Value.int .u8 0)]) noN (xk 2 (c7 fun q70_0 q70_1 q70_2 q70_3 q70_4 q70_5 q70_6 =>
  bind (Γ n_quorumSetCount [q70_1]) fun v107x71 =>
  bind (Γ n_ref27Count [q70_3]) fun v109x72 =>
  bind (bop .int .neq v107x71 v109x72) fun v110x73 =>
  bind (gate v110x73 false 7 (bind (Γ n_quorumSetWon [q70_1]) fun v113x74 =>
  bind (Γ n_ref27Count [q70_3]) fun v115x75 =>
  bind (bop .int .geq v115x75 q70_2) fun v117x76 =>
  bind (bop .bool .neq v113x74 v117x76) fun v118x77 =>
  ret [q70_1, v113x74, q70_3, v115x75, q70_2, v117x76, v118x77])) (c7 fun _ _ _ _ _ _ q78_6 =>
  bind (pick v110x73 (Value.bool true) q78_6) fun v119x79 =>
  cnd v119x79
  (ret (.ret (Value.bool false)))
  (bind (bop .int .add q70_6 (Value.int .i64 1)) fun v120x80 =>
  ret (.nrm [q70_0, q70_1, q70_2, q70_3, q70_4, q70_5, v120x80])))) noX) retR) noX retR)
  (ret (.ext 0 []))

/-- interrex/interrexlaw27.QuorumSets -/
noncomputable def F_law27QuorumSets (Γ : Funs) (x0 x1 : Value) : M Value :=
  bind (Γ n_law27Lives []) fun v12x1 =>
  bind (uop .not v12x1) fun v13x2 =>
  bind (gate v13x2 false 3 (bind (lenS x1) fun v16x3 =>
  bind (bop .int .gtr v16x3 (Value.int .i64 40)) fun v17x4 =>
  ret [x1, v16x3, v17x4])) (c3 fun _ _ q5_2 =>
  bind (pick v13x2 (Value.bool true) q5_2) fun v18x6 =>
  cnd v18x6
  (bind (Γ n_law27Lives []) fun v19x7 =>
  ret v19x7)
  (bind (Γ n_quorumNew [x0]) fun v21x8 =>
  bind (Γ n_ref27Enough [x0]) fun v23x9 =>
  bind (Γ n_quorumEnough [x0]) fun v25x10 =>
  bind (bop .int .neq v25x10 v23x9) fun v27x11 =>
  bind (gate v27x11 false 5 (bind (bop .ptr .neq v21x8 (Value.pointer none)) fun v30x12 =>
  bind (bop .int .gtr v23x9 (Value.int .i64 0)) fun v32x13 =>
  bind (bop .bool .neq v30x12 v32x13) fun v33x14 =>
  ret [v21x8, v30x12, v23x9, v32x13, v33x14])) (c5 fun _ _ _ _ q15_4 =>
  bind (pick v27x11 (Value.bool true) q15_4) fun v34x16 =>
  cnd v34x16
  (ret (Value.bool false))
  (bind (bop .ptr .eql v21x8 (Value.pointer none)) fun v36x17 =>
  cnd v36x17
  (bind (Γ n_quorumNewMarks [x0]) fun v38x18 =>
  bind (bop .ptr .eql v38x18 (Value.pointer none)) fun v39x19 =>
  ret v39x19)
  (bind (mks 1 1 (.bool false) x0 x0) fun v41x20 =>
  bind (lenS x1) fun v43x21 =>
  jn (loopM (c7 (F_law27QuorumSets.l1 Γ)) [x0, v21x8, v23x9, v41x20, x1, v43x21, (Value.int .i64 0)]) noN (xk 0 (c0 (ret (Value.bool true))) noX) ret)))))

set_option maxRecDepth 100000 in
theorem rf_law27QuorumSets (Γ : Funs) (x0 x1 : Value) : runF Try.prog Γ Try.f5 lv_law27QuorumSets [x0, x1] = F_law27QuorumSets Γ x0 x1 := by kernel_rfl

theorem run_law27QuorumSets {prim : FuncId → Option (List Value → M Value)} (hp : prim n_law27QuorumSets = none) (n : Nat) (x0 x1 : Value) : run Try.prog prim lvs (n + 1) n_law27QuorumSets [x0, x1] = F_law27QuorumSets (run Try.prog prim lvs n) x0 x1 :=
  (run_fn hp (by kernel_rfl) Try.func5 (by kernel_rfl)).trans (rf_law27QuorumSets _ x0 x1)

/-- interrex/interrexlaw27.QuorumMeets: a round. -/
noncomputable def F_law27QuorumMeets.l1 (Γ : Funs) (s2 s3 s9 s10 s11 s12 s63 s64 s65 : Value) : M Out :=
  bind (bop .int .lss s65 s64) fun v66x31 =>
  cnd v66x31
  (bind (ixa 1 s63 s65) fun v67x32 =>
  bind (ld1 v67x32) fun v68x33 =>
  bind (Γ n_quorumSetAdd [s10, v68x33]) fun v71x34 =>
  bind (bop .int .add s65 (Value.int .i64 1)) fun v72x35 =>
  ret (.nrm [s2, s3, s9, s10, s11, s12, s63, s64, v72x35]))
  (ret (.ext 0 [s2, s3, s9, s10, s11, s12]))

/-- interrex/interrexlaw27.QuorumMeets: a round. -/
noncomputable def F_law27QuorumMeets.l2 (Γ : Funs) (s3 s9 s10 s11 s12 s73 s74 s75 : Value) : M Out :=
  bind (bop .int .lss s75 s74) fun v76x39 =>
  cnd v76x39
  (bind (ixa 1 s73 s75) fun v77x40 =>
  bind (ld1 v77x40) fun v78x41 =>
  bind (Γ n_quorumSetAdd [s11, v78x41]) fun v81x42 =>
  bind (bop .int .add s75 (Value.int .i64 1)) fun v82x43 =>
  ret (.nrm [s3, s9, s10, s11, s12, s73, s74, v82x43]))
  (ret (.ext 2 [s3, s9, s10, s11, s12]))

/-- interrex/interrexlaw27.QuorumMeets: a round. -/
noncomputable def F_law27QuorumMeets.l3 (Γ : Funs) (s3 s9 s10 s11 s12 s17 s83 : Value) : M Out :=
  bind (bop .int .lss s83 (Value.int .u8 7)) fun v84x46 =>
  cnd v84x46
  (bind (gate s17 false 4 (bind (Γ n_quorumSetHas [s10, s83]) fun v90x47 =>
  ret [s10, s83, v90x47, v90x47])) (c4 fun _ _ _ q48_3 =>
  bind (gate q48_3 true 3 (bind (Γ n_quorumSetHas [s11, s83]) fun v94x49 =>
  ret [s11, s83, v94x49])) (c3 fun _ _ q50_2 =>
  bind (gate s17 false 1 (bind (pick q48_3 q50_2 (Value.bool false)) fun v95x51 =>
  ret [v95x51])) (c1 fun q52_0 =>
  bind (pick s17 (Value.bool true) q52_0) fun v96x53 =>
  bind (bop .int .add s83 (Value.int .u8 1)) fun v97x54 =>
  ret (.nrm [s3, s9, s10, s11, s12, v96x53, v97x54])))))
  (ret (.ext 4 [s3, s9, s10, s11, s12, s17]))

/-- interrex/interrexlaw27.QuorumMeets: a round. -/
noncomputable def F_law27QuorumMeets.l5 (Γ : Funs) (s9 s12 s19 s22 s108 s109 s110 s126 : Value) : M Out :=
  bind (bop .int .lss s126 (Value.int .u8 7)) fun v127x77 =>
  cnd v127x77
  (bind (cvi .i64 s126) fun v130x78 =>
  bind (bop .int .lss v130x78 s9) fun v132x79 =>
  bind (gate v132x79 true 5 (bind (Γ n_quorumMarksOf [s12, s126]) fun v136x80 =>
  bind (bop .int .geq v136x80 s19) fun v138x81 =>
  ret [s12, s126, v136x80, s19, v138x81])) (c5 fun _ _ _ _ q82_4 =>
  bind (pick v132x79 q82_4 (Value.bool false)) fun v139x83 =>
  jn (cnd v139x83
  (bind (bop .int .add s22 (Value.int .i64 1)) fun v141x84 =>
  ret (.nrm [s9, s12, s19, v141x84, s108, s109, s110, s126]))
  (ret (.nrm [s9, s12, s19, s22, s108, s109, s110, s126]))) (c8 fun q85_0 q85_1 q85_2 q85_3 q85_4 q85_5 q85_6 q85_7 =>
  bind (bop .int .add q85_7 (Value.int .u8 1)) fun v142x86 =>
  ret (.nrm [q85_0, q85_1, q85_2, q85_3, q85_4, q85_5, q85_6, v142x86])) noX retR))
  (ret (.ext 8 [s9, s12, s19, s22, s108, s109, s110]))

/-- interrex/interrexlaw27.QuorumMeets: a round. -/
noncomputable def F_law27QuorumMeets.l4 (Γ : Funs) (s9 s12 s19 s108 s109 s110 : Value) : M Out :=
  bind (bop .int .lss s110 s109) fun v111x65 =>
  cnd v111x65
  (bind (ixa 3 s108 s110) fun v112x66 =>
  bind (ldA 3 v112x66) fun v113x67 =>
  bind (alc 1 (.agg #[.int .u8 0, .int .u8 0, .int .u64 0])) fun v21x68 =>
  bind (stA 3 v21x68 v113x67) fun _ =>
  bind (fa 1 v21x68) fun v115x69 =>
  bind (ld1 v115x69) fun v116x70 =>
  bind (fa 2 v21x68) fun v117x71 =>
  bind (ld1 v117x71) fun v118x72 =>
  bind (Γ n_quorumMarksNote [s12, v116x70, v118x72]) fun v119x73 =>
  bind (Γ n_quorumMarksReached [s12]) fun v121x74 =>
  bind (bop .int .lss v121x74 s19) fun v123x75 =>
  cnd v123x75
  (ret (.ret (Value.bool false)))
  (bind (Γ n_quorumMarksReached [s12]) fun v125x76 =>
  jn (loopM (c8 (F_law27QuorumMeets.l5 Γ)) [s9, s12, v125x76, (Value.int .i64 0), s108, s109, s110, (Value.int .u8 0)]) noN (xk 8 (c7 fun q89_0 q89_1 q89_2 q89_3 q89_4 q89_5 q89_6 =>
  bind (Γ n_quorumEnough [q89_0]) fun v145x90 =>
  bind (bop .int .lss q89_3 v145x90) fun v146x91 =>
  cnd v146x91
  (ret (.ret (Value.bool false)))
  (bind (bop .int .add q89_6 (Value.int .i64 1)) fun v147x92 =>
  ret (.nrm [q89_0, q89_1, q89_2, q89_4, q89_5, v147x92]))) noX) retR))
  (ret (.ext 6 []))

/-- interrex/interrexlaw27.QuorumMeets -/
noncomputable def F_law27QuorumMeets (Γ : Funs) (x0 x1 x2 x3 : Value) : M Value :=
  bind (Γ n_law27Lives []) fun v24x1 =>
  bind (uop .not v24x1) fun v25x2 =>
  bind (gate v25x2 false 3 (bind (lenS x1) fun v28x3 =>
  bind (bop .int .gtr v28x3 (Value.int .i64 40)) fun v29x4 =>
  ret [x1, v28x3, v29x4])) (c3 fun _ _ q5_2 =>
  bind (pick v25x2 (Value.bool true) q5_2) fun v30x6 =>
  bind (gate v30x6 false 3 (bind (lenS x2) fun v33x7 =>
  bind (bop .int .gtr v33x7 (Value.int .i64 40)) fun v34x8 =>
  ret [x2, v33x7, v34x8])) (c3 fun _ _ q9_2 =>
  bind (pick v30x6 (Value.bool true) q9_2) fun v35x10 =>
  bind (gate v35x10 false 3 (bind (lenS x3) fun v38x11 =>
  bind (bop .int .gtr v38x11 (Value.int .i64 40)) fun v39x12 =>
  ret [x3, v38x11, v39x12])) (c3 fun _ _ q13_2 =>
  bind (pick v35x10 (Value.bool true) q13_2) fun v40x14 =>
  cnd v40x14
  (bind (Γ n_law27Lives []) fun v41x15 =>
  ret v41x15)
  (bind (bop .int .rem x0 (Value.int .u8 3)) fun v43x16 =>
  bind (cvi .i64 v43x16) fun v44x17 =>
  bind (bop .int .mul (Value.int .i64 2) v44x17) fun v45x18 =>
  bind (bop .int .add (Value.int .i64 3) v45x18) fun v46x19 =>
  bind (Γ n_quorumNew [v46x19]) fun v48x20 =>
  bind (Γ n_quorumNew [v46x19]) fun v50x21 =>
  bind (Γ n_quorumNewMarks [v46x19]) fun v52x22 =>
  bind (bop .ptr .eql v48x20 (Value.pointer none)) fun v54x23 =>
  bind (gate v54x23 false 2 (bind (bop .ptr .eql v50x21 (Value.pointer none)) fun v57x24 =>
  ret [v50x21, v57x24])) (c2 fun _ q25_1 =>
  bind (pick v54x23 (Value.bool true) q25_1) fun v58x26 =>
  bind (gate v58x26 false 2 (bind (bop .ptr .eql v52x22 (Value.pointer none)) fun v61x27 =>
  ret [v52x22, v61x27])) (c2 fun _ q28_1 =>
  bind (pick v58x26 (Value.bool true) q28_1) fun v62x29 =>
  cnd v62x29
  (ret (Value.bool false))
  (bind (lenS x1) fun v64x30 =>
  jn (loopM (c9 (F_law27QuorumMeets.l1 Γ)) [x2, x3, v46x19, v48x20, v50x21, v52x22, x1, v64x30, (Value.int .i64 0)]) noN (xk 0 (c6 fun q37_0 q37_1 q37_2 q37_3 q37_4 q37_5 =>
  bind (lenS q37_0) fun v74x38 =>
  jn (loopM (c8 (F_law27QuorumMeets.l2 Γ)) [q37_1, q37_2, q37_3, q37_4, q37_5, q37_0, v74x38, (Value.int .i64 0)]) noN (xk 2 (c5 fun q45_0 q45_1 q45_2 q45_3 q45_4 =>
  jn (loopM (c7 (F_law27QuorumMeets.l3 Γ)) [q45_0, q45_1, q45_2, q45_3, q45_4, (Value.bool false), (Value.int .u8 0)]) noN (xk 4 (c6 fun q56_0 q56_1 q56_2 q56_3 q56_4 q56_5 =>
  bind (Γ n_quorumSetWon [q56_2]) fun v99x57 =>
  bind (gate v99x57 true 2 (bind (Γ n_quorumSetWon [q56_3]) fun v102x58 =>
  ret [q56_3, v102x58])) (c2 fun _ q59_1 =>
  bind (pick v99x57 q59_1 (Value.bool false)) fun v103x60 =>
  bind (gate v103x60 true 2 (bind (uop .not q56_5) fun v106x61 =>
  ret [q56_5, v106x61])) (c2 fun _ q62_1 =>
  bind (pick v103x60 q62_1 (Value.bool false)) fun v107x63 =>
  cnd v107x63
  (ret (Value.bool false))
  (bind (lenS q56_0) fun v109x64 =>
  jn (loopM (c6 (F_law27QuorumMeets.l4 Γ)) [q56_1, q56_4, (Value.int .u64 0), q56_0, v109x64, (Value.int .i64 0)]) noN (xk 6 (c0 (ret (Value.bool true))) noX) ret)))) noX) ret) noX) ret) noX) ret)))))))

set_option maxRecDepth 100000 in
theorem rf_law27QuorumMeets (Γ : Funs) (x0 x1 x2 x3 : Value) : runF Try.prog Γ Try.f6 lv_law27QuorumMeets [x0, x1, x2, x3] = F_law27QuorumMeets Γ x0 x1 x2 x3 := by kernel_rfl

theorem run_law27QuorumMeets {prim : FuncId → Option (List Value → M Value)} (hp : prim n_law27QuorumMeets = none) (n : Nat) (x0 x1 x2 x3 : Value) : run Try.prog prim lvs (n + 1) n_law27QuorumMeets [x0, x1, x2, x3] = F_law27QuorumMeets (run Try.prog prim lvs n) x0 x1 x2 x3 :=
  (run_fn hp (by kernel_rfl) Try.func6 (by kernel_rfl)).trans (rf_law27QuorumMeets _ x0 x1 x2 x3)

/-- interrex/interrexlaw27.lives -/
noncomputable def F_law27Lives (Γ : Funs) : M Value :=
  bind (Γ n_quorumNewMarks [(Value.int .i64 3)]) fun v2x1 =>
  bind (bop .ptr .neq v2x1 (Value.pointer none)) fun v4x2 =>
  bind (gate v4x2 true 2 (bind (Γ n_quorumMarksNote [v2x1, (Value.int .u8 0), (Value.int .u64 5)]) fun v7x3 =>
  ret [v2x1, v7x3])) (c2 fun _ q4_1 =>
  bind (pick v4x2 q4_1 (Value.bool false)) fun v8x5 =>
  bind (gate v8x5 true 2 (bind (Γ n_quorumMarksNote [v2x1, (Value.int .u8 1), (Value.int .u64 2)]) fun v11x6 =>
  ret [v2x1, v11x6])) (c2 fun _ q7_1 =>
  bind (pick v8x5 q7_1 (Value.bool false)) fun v12x8 =>
  bind (gate v12x8 true 3 (bind (Γ n_quorumMarksReached [v2x1]) fun v15x9 =>
  bind (bop .int .eql v15x9 (Value.int .u64 2)) fun v16x10 =>
  ret [v2x1, v15x9, v16x10])) (c3 fun _ _ q11_2 =>
  bind (pick v12x8 q11_2 (Value.bool false)) fun v17x12 =>
  ret v17x12)))

set_option maxRecDepth 100000 in
theorem rf_law27Lives (Γ : Funs) : runF Try.prog Γ Try.f7 lv_law27Lives [] = F_law27Lives Γ  := by kernel_rfl

theorem run_law27Lives {prim : FuncId → Option (List Value → M Value)} (hp : prim n_law27Lives = none) (n : Nat) : run Try.prog prim lvs (n + 1) n_law27Lives [] = F_law27Lives (run Try.prog prim lvs n)  :=
  (run_fn hp (by kernel_rfl) Try.func7 (by kernel_rfl)).trans (rf_law27Lives _ )

/-- interrex/quorum.Primary -/
noncomputable def F_quorumPrimary (Γ : Funs) (x0 x1 : Value) : M Value :=
  bind (Γ n_quorumEnough [x1]) fun v6x1 =>
  bind (bop .int .eql v6x1 (Value.int .i64 0)) fun v7x2 =>
  cnd v7x2
  (ret (Value.int .u8 0))
  (bind (cvi .u64 x1) fun v10x3 =>
  bind (bop .int .rem x0 v10x3) fun v11x4 =>
  bind (cvi .u8 v11x4) fun v12x5 =>
  ret v12x5)

set_option maxRecDepth 100000 in
theorem rf_quorumPrimary (Γ : Funs) (x0 x1 : Value) : runF Try.prog Γ Try.f8 lv_quorumPrimary [x0, x1] = F_quorumPrimary Γ x0 x1 := by kernel_rfl

theorem run_quorumPrimary {prim : FuncId → Option (List Value → M Value)} (hp : prim n_quorumPrimary = none) (n : Nat) (x0 x1 : Value) : run Try.prog prim lvs (n + 1) n_quorumPrimary [x0, x1] = F_quorumPrimary (run Try.prog prim lvs n) x0 x1 :=
  (run_fn hp (by kernel_rfl) Try.func8 (by kernel_rfl)).trans (rf_quorumPrimary _ x0 x1)

/-- interrex/interrexref27.Primary -/
noncomputable def F_ref27Primary (Γ : Funs) (x0 x1 : Value) : M Value :=
  bind (Γ n_ref27Enough [x1]) fun v6x1 =>
  bind (bop .int .eql v6x1 (Value.int .i64 0)) fun v7x2 =>
  cnd v7x2
  (ret (Value.int .u8 0))
  (bind (cvi .u64 x1) fun v10x3 =>
  bind (bop .int .rem x0 v10x3) fun v11x4 =>
  bind (cvi .u8 v11x4) fun v12x5 =>
  ret v12x5)

set_option maxRecDepth 100000 in
theorem rf_ref27Primary (Γ : Funs) (x0 x1 : Value) : runF Try.prog Γ Try.f9 lv_ref27Primary [x0, x1] = F_ref27Primary Γ x0 x1 := by kernel_rfl

theorem run_ref27Primary {prim : FuncId → Option (List Value → M Value)} (hp : prim n_ref27Primary = none) (n : Nat) (x0 x1 : Value) : run Try.prog prim lvs (n + 1) n_ref27Primary [x0, x1] = F_ref27Primary (run Try.prog prim lvs n) x0 x1 :=
  (run_fn hp (by kernel_rfl) Try.func9 (by kernel_rfl)).trans (rf_ref27Primary _ x0 x1)

/-- interrex/interrexref27.Enough -/
noncomputable def F_ref27Enough (Γ : Funs) (x0 : Value) : M Value :=
  bind (bop .int .eql x0 (Value.int .i64 3)) fun v4x1 =>
  cnd v4x1
  (ret (Value.int .i64 2))
  (bind (bop .int .eql x0 (Value.int .i64 5)) fun v6x2 =>
  cnd v6x2
  (ret (Value.int .i64 3))
  (bind (bop .int .eql x0 (Value.int .i64 7)) fun v8x3 =>
  cnd v8x3
  (ret (Value.int .i64 4))
  (ret (Value.int .i64 0))))

set_option maxRecDepth 100000 in
theorem rf_ref27Enough (Γ : Funs) (x0 : Value) : runF Try.prog Γ Try.f10 lv_ref27Enough [x0] = F_ref27Enough Γ x0 := by kernel_rfl

theorem run_ref27Enough {prim : FuncId → Option (List Value → M Value)} (hp : prim n_ref27Enough = none) (n : Nat) (x0 : Value) : run Try.prog prim lvs (n + 1) n_ref27Enough [x0] = F_ref27Enough (run Try.prog prim lvs n) x0 :=
  (run_fn hp (by kernel_rfl) Try.func10 (by kernel_rfl)).trans (rf_ref27Enough _ x0)

/-- interrex/quorum.NewMarks -/
noncomputable def F_quorumNewMarks (Γ : Funs) (x0 : Value) : M Value :=
  bind (Γ n_quorumEnough [x0]) fun v4x1 =>
  bind (bop .int .eql v4x1 (Value.int .i64 0)) fun v5x2 =>
  cnd v5x2
  (ret (Value.pointer none))
  (bind (mks 1 8 (.int .u64 0) x0 x0) fun v7x3 =>
  bind (bld (.agg #[.slice none 0 0]) [(0, 1, v7x3)]) fun v8x4 =>
  bind (alc 1 v8x4) fun v9x5 =>
  ret v9x5)

set_option maxRecDepth 100000 in
theorem rf_quorumNewMarks (Γ : Funs) (x0 : Value) : runF Try.prog Γ Try.f11 lv_quorumNewMarks [x0] = F_quorumNewMarks Γ x0 := by kernel_rfl

theorem run_quorumNewMarks {prim : FuncId → Option (List Value → M Value)} (hp : prim n_quorumNewMarks = none) (n : Nat) (x0 : Value) : run Try.prog prim lvs (n + 1) n_quorumNewMarks [x0] = F_quorumNewMarks (run Try.prog prim lvs n) x0 :=
  (run_fn hp (by kernel_rfl) Try.func11 (by kernel_rfl)).trans (rf_quorumNewMarks _ x0)

/-- (*interrex/quorum.Marks).Clear -/
noncomputable def F_quorumMarksClear (Γ : Funs) (x0 : Value) : M Value :=
  bind (nilc x0) fun v3x1 =>
  bind (fa 0 v3x1) fun v4x2 =>
  bind (ld1 v4x2) fun v5x3 =>
  bind (clr (.int .u64 0) 1 v5x3) fun _ =>
  ret (Value.tuple #[])

set_option maxRecDepth 100000 in
theorem rf_quorumMarksClear (Γ : Funs) (x0 : Value) : runF Try.prog Γ Try.f12 lv_quorumMarksClear [x0] = F_quorumMarksClear Γ x0 := by kernel_rfl

theorem run_quorumMarksClear {prim : FuncId → Option (List Value → M Value)} (hp : prim n_quorumMarksClear = none) (n : Nat) (x0 : Value) : run Try.prog prim lvs (n + 1) n_quorumMarksClear [x0] = F_quorumMarksClear (run Try.prog prim lvs n) x0 :=
  (run_fn hp (by kernel_rfl) Try.func12 (by kernel_rfl)).trans (rf_quorumMarksClear _ x0)

/-- (*interrex/quorum.Marks).Note -/
noncomputable def F_quorumMarksNote (Γ : Funs) (x0 x1 x2 : Value) : M Value :=
  bind (cvi .i64 x1) fun v8x1 =>
  bind (nilc x0) fun v10x2 =>
  bind (fa 0 v10x2) fun v11x3 =>
  bind (ld1 v11x3) fun v12x4 =>
  bind (lenS v12x4) fun v13x5 =>
  bind (bop .int .geq v8x1 v13x5) fun v14x6 =>
  bind (gate v14x6 false 9 (bind (nilc x0) fun v18x7 =>
  bind (fa 0 v18x7) fun v19x8 =>
  bind (ld1 v19x8) fun v20x9 =>
  bind (ixa 1 v20x9 x1) fun v22x10 =>
  bind (ld1 v22x10) fun v23x11 =>
  bind (bop .int .leq x2 v23x11) fun v24x12 =>
  ret [x2, x0, v18x7, v19x8, v20x9, x1, v22x10, v23x11, v24x12])) (c9 fun _ _ _ _ _ _ _ _ q13_8 =>
  bind (pick v14x6 (Value.bool true) q13_8) fun v25x14 =>
  cnd v25x14
  (ret (Value.bool false))
  (bind (nilc x0) fun v27x15 =>
  bind (fa 0 v27x15) fun v28x16 =>
  bind (ld1 v28x16) fun v29x17 =>
  bind (ixa 1 v29x17 x1) fun v32x18 =>
  bind (st1 v32x18 x2) fun _ =>
  ret (Value.bool true)))

set_option maxRecDepth 100000 in
theorem rf_quorumMarksNote (Γ : Funs) (x0 x1 x2 : Value) : runF Try.prog Γ Try.f13 lv_quorumMarksNote [x0, x1, x2] = F_quorumMarksNote Γ x0 x1 x2 := by kernel_rfl

theorem run_quorumMarksNote {prim : FuncId → Option (List Value → M Value)} (hp : prim n_quorumMarksNote = none) (n : Nat) (x0 x1 x2 : Value) : run Try.prog prim lvs (n + 1) n_quorumMarksNote [x0, x1, x2] = F_quorumMarksNote (run Try.prog prim lvs n) x0 x1 x2 :=
  (run_fn hp (by kernel_rfl) Try.func13 (by kernel_rfl)).trans (rf_quorumMarksNote _ x0 x1 x2)

/-- (*interrex/quorum.Marks).Of -/
noncomputable def F_quorumMarksOf (Γ : Funs) (x0 x1 : Value) : M Value :=
  bind (cvi .i64 x1) fun v6x1 =>
  bind (nilc x0) fun v8x2 =>
  bind (fa 0 v8x2) fun v9x3 =>
  bind (ld1 v9x3) fun v10x4 =>
  bind (lenS v10x4) fun v11x5 =>
  bind (bop .int .geq v6x1 v11x5) fun v12x6 =>
  cnd v12x6
  (ret (Value.int .u64 0))
  (bind (nilc x0) fun v14x7 =>
  bind (fa 0 v14x7) fun v15x8 =>
  bind (ld1 v15x8) fun v16x9 =>
  bind (ixa 1 v16x9 x1) fun v18x10 =>
  bind (ld1 v18x10) fun v19x11 =>
  ret v19x11)

set_option maxRecDepth 100000 in
theorem rf_quorumMarksOf (Γ : Funs) (x0 x1 : Value) : runF Try.prog Γ Try.f14 lv_quorumMarksOf [x0, x1] = F_quorumMarksOf Γ x0 x1 := by kernel_rfl

theorem run_quorumMarksOf {prim : FuncId → Option (List Value → M Value)} (hp : prim n_quorumMarksOf = none) (n : Nat) (x0 x1 : Value) : run Try.prog prim lvs (n + 1) n_quorumMarksOf [x0, x1] = F_quorumMarksOf (run Try.prog prim lvs n) x0 x1 :=
  (run_fn hp (by kernel_rfl) Try.func14 (by kernel_rfl)).trans (rf_quorumMarksOf _ x0 x1)

/-- (*interrex/quorum.Marks).Reached -/
noncomputable def F_quorumMarksReached (Γ : Funs) (x0 : Value) : M Value :=
  bind (nilc x0) fun v5x1 =>
  bind (fa 0 v5x1) fun v6x2 =>
  bind (ld1 v6x2) fun v7x3 =>
  bind (Γ n_slicesValuesuint64Uint64 [v7x3]) fun v8x4 =>
  bind (Γ n_slicesSortedUint64 [v8x4]) fun v9x5 =>
  bind (lenS v9x5) fun v12x6 =>
  bind (lenS v9x5) fun v14x7 =>
  bind (Γ n_quorumEnough [v14x7]) fun v15x8 =>
  bind (bop .int .sub v12x6 v15x8) fun v16x9 =>
  bind (ixa 1 v9x5 v16x9) fun v17x10 =>
  bind (ld1 v17x10) fun v18x11 =>
  ret v18x11

set_option maxRecDepth 100000 in
theorem rf_quorumMarksReached (Γ : Funs) (x0 : Value) : runF Try.prog Γ Try.f15 lv_quorumMarksReached [x0] = F_quorumMarksReached Γ x0 := by kernel_rfl

theorem run_quorumMarksReached {prim : FuncId → Option (List Value → M Value)} (hp : prim n_quorumMarksReached = none) (n : Nat) (x0 : Value) : run Try.prog prim lvs (n + 1) n_quorumMarksReached [x0] = F_quorumMarksReached (run Try.prog prim lvs n) x0 :=
  (run_fn hp (by kernel_rfl) Try.func15 (by kernel_rfl)).trans (rf_quorumMarksReached _ x0)

/-- interrex/interrexref27.Reached: a round. -/
noncomputable def F_ref27Reached.l2 (Γ : Funs) (s0 s3 s5 s6 s9 s10 s11 s15 s16 s17 : Value) : M Out :=
  bind (bop .int .lss s17 s16) fun v18x6 =>
  cnd v18x6
  (bind (ixa 1 s15 s17) fun v19x7 =>
  bind (ld1 v19x7) fun v20x8 =>
  bind (bop .int .geq v20x8 s5) fun v23x9 =>
  jn (cnd v23x9
  (bind (bop .int .add s6 (Value.int .i64 1)) fun v25x10 =>
  ret (.nrm [s0, s3, s5, v25x10, s9, s10, s11, s15, s16, s17]))
  (ret (.nrm [s0, s3, s5, s6, s9, s10, s11, s15, s16, s17]))) (c10 fun q11_0 q11_1 q11_2 q11_3 q11_4 q11_5 q11_6 q11_7 q11_8 q11_9 =>
  bind (bop .int .add q11_9 (Value.int .i64 1)) fun v26x12 =>
  ret (.nrm [q11_0, q11_1, q11_2, q11_3, q11_4, q11_5, q11_6, q11_7, q11_8, v26x12])) noX retR)
  (ret (.ext 2 [s0, s3, s5, s6, s9, s10, s11]))

/-- interrex/interrexref27.Reached: a round. -/
noncomputable def F_ref27Reached.l1 (Γ : Funs) (s0 s3 s9 s10 s11 : Value) : M Out :=
  bind (bop .int .lss s11 s10) fun v12x2 =>
  cnd v12x2
  (bind (ixa 1 s9 s11) fun v13x3 =>
  bind (ld1 v13x3) fun v14x4 =>
  bind (lenS s0) fun v16x5 =>
  jn (loopM (c10 (F_ref27Reached.l2 Γ)) [s0, s3, v14x4, (Value.int .i64 0), s9, s10, s11, s0, v16x5, (Value.int .i64 0)]) noN (xk 2 (c7 fun q15_0 q15_1 q15_2 q15_3 q15_4 q15_5 q15_6 =>
  bind (lenS q15_0) fun v29x16 =>
  bind (Γ n_ref27Enough [v29x16]) fun v30x17 =>
  bind (bop .int .geq q15_3 v30x17) fun v31x18 =>
  bind (gate v31x18 true 3 (bind (bop .int .gtr q15_2 q15_1) fun v35x19 =>
  ret [q15_2, q15_1, v35x19])) (c3 fun _ _ q20_2 =>
  bind (pick v31x18 q20_2 (Value.bool false)) fun v36x21 =>
  jn (cnd v36x21
  (ret (.nrm [q15_0, q15_2, q15_4, q15_5, q15_6]))
  (ret (.nrm [q15_0, q15_1, q15_4, q15_5, q15_6]))) (c5 fun q22_0 q22_1 q22_2 q22_3 q22_4 =>
  bind (bop .int .add q22_4 (Value.int .i64 1)) fun v38x23 =>
  ret (.nrm [q22_0, q22_1, q22_2, q22_3, v38x23])) noX retR)) noX) retR)
  (ret (.ext 0 [s3]))

/-- interrex/interrexref27.Reached -/
noncomputable def F_ref27Reached (Γ : Funs) (x0 : Value) : M Value :=
  bind (lenS x0) fun v10x1 =>
  jn (loopM (c5 (F_ref27Reached.l1 Γ)) [x0, (Value.int .u64 0), x0, v10x1, (Value.int .i64 0)]) noN (xk 0 (c1 fun q27_0 =>
  ret q27_0) noX) ret

set_option maxRecDepth 100000 in
theorem rf_ref27Reached (Γ : Funs) (x0 : Value) : runF Try.prog Γ Try.f16 lv_ref27Reached [x0] = F_ref27Reached Γ x0 := by kernel_rfl

theorem run_ref27Reached {prim : FuncId → Option (List Value → M Value)} (hp : prim n_ref27Reached = none) (n : Nat) (x0 : Value) : run Try.prog prim lvs (n + 1) n_ref27Reached [x0] = F_ref27Reached (run Try.prog prim lvs n) x0 :=
  (run_fn hp (by kernel_rfl) Try.func16 (by kernel_rfl)).trans (rf_ref27Reached _ x0)

/-- interrex/quorum.New -/
noncomputable def F_quorumNew (Γ : Funs) (x0 : Value) : M Value :=
  bind (Γ n_quorumEnough [x0]) fun v4x1 =>
  bind (bop .int .eql v4x1 (Value.int .i64 0)) fun v5x2 =>
  cnd v5x2
  (ret (Value.pointer none))
  (bind (bld (.agg #[.int .i64 0, .int .u8 0]) [(0, 1, x0)]) fun v7x3 =>
  bind (alc 1 v7x3) fun v8x4 =>
  ret v8x4)

set_option maxRecDepth 100000 in
theorem rf_quorumNew (Γ : Funs) (x0 : Value) : runF Try.prog Γ Try.f17 lv_quorumNew [x0] = F_quorumNew Γ x0 := by kernel_rfl

theorem run_quorumNew {prim : FuncId → Option (List Value → M Value)} (hp : prim n_quorumNew = none) (n : Nat) (x0 : Value) : run Try.prog prim lvs (n + 1) n_quorumNew [x0] = F_quorumNew (run Try.prog prim lvs n) x0 :=
  (run_fn hp (by kernel_rfl) Try.func17 (by kernel_rfl)).trans (rf_quorumNew _ x0)

/-- interrex/quorum.Enough -/
noncomputable def F_quorumEnough (Γ : Funs) (x0 : Value) : M Value :=
  bind (bop .int .eql x0 (Value.int .i64 3)) fun v5x1 =>
  jn (cnd v5x1
  (ret (.nrm [x0, v5x1]))
  (bind (bop .int .eql x0 (Value.int .i64 5)) fun v6x2 =>
  jn (cnd v6x2
  (ret (.nrm [x0, v6x2]))
  (bind (bop .int .eql x0 (Value.int .i64 7)) fun v7x3 =>
  ret (.nrm [x0, v7x3]))) (c2 fun q4_0 q4_1 =>
  ret (.nrm [q4_0, q4_1])) noX retR)) (c2 fun q6_0 q6_1 =>
  cnd q6_1
  (bind (bop .int .quo q6_0 (Value.int .i64 2)) fun v9x7 =>
  bind (bop .int .add v9x7 (Value.int .i64 1)) fun v10x8 =>
  ret v10x8)
  (ret (Value.int .i64 0))) noX ret

set_option maxRecDepth 100000 in
theorem rf_quorumEnough (Γ : Funs) (x0 : Value) : runF Try.prog Γ Try.f18 lv_quorumEnough [x0] = F_quorumEnough Γ x0 := by kernel_rfl

theorem run_quorumEnough {prim : FuncId → Option (List Value → M Value)} (hp : prim n_quorumEnough = none) (n : Nat) (x0 : Value) : run Try.prog prim lvs (n + 1) n_quorumEnough [x0] = F_quorumEnough (run Try.prog prim lvs n) x0 :=
  (run_fn hp (by kernel_rfl) Try.func18 (by kernel_rfl)).trans (rf_quorumEnough _ x0)

/-- (*interrex/quorum.Set).Clear -/
noncomputable def F_quorumSetClear (Γ : Funs) (x0 : Value) : M Value :=
  bind (nilc x0) fun v3x1 =>
  bind (fa 1 v3x1) fun v4x2 =>
  bind (st1 v4x2 (Value.int .u8 0)) fun _ =>
  ret (Value.tuple #[])

set_option maxRecDepth 100000 in
theorem rf_quorumSetClear (Γ : Funs) (x0 : Value) : runF Try.prog Γ Try.f19 lv_quorumSetClear [x0] = F_quorumSetClear Γ x0 := by kernel_rfl

theorem run_quorumSetClear {prim : FuncId → Option (List Value → M Value)} (hp : prim n_quorumSetClear = none) (n : Nat) (x0 : Value) : run Try.prog prim lvs (n + 1) n_quorumSetClear [x0] = F_quorumSetClear (run Try.prog prim lvs n) x0 :=
  (run_fn hp (by kernel_rfl) Try.func19 (by kernel_rfl)).trans (rf_quorumSetClear _ x0)

/-- (*interrex/quorum.Set).Add -/
noncomputable def F_quorumSetAdd (Γ : Funs) (x0 x1 : Value) : M Value :=
  bind (cvi .i64 x1) fun v6x1 =>
  bind (nilc x0) fun v8x2 =>
  bind (fa 0 v8x2) fun v9x3 =>
  bind (ld1 v9x3) fun v10x4 =>
  bind (bop .int .geq v6x1 v10x4) fun v11x5 =>
  bind (gate v11x5 false 3 (bind (Γ n_quorumSetHas [x0, x1]) fun v15x6 =>
  ret [x0, x1, v15x6])) (c3 fun _ _ q7_2 =>
  bind (pick v11x5 (Value.bool true) q7_2) fun v16x8 =>
  cnd v16x8
  (ret (Value.bool false))
  (bind (nilc x0) fun v18x9 =>
  bind (fa 1 v18x9) fun v19x10 =>
  bind (ld1 v19x10) fun v20x11 =>
  bind (bop .int .shl (Value.int .u8 1) x1) fun v22x12 =>
  bind (bop .int .or v20x11 v22x12) fun v23x13 =>
  bind (nilc x0) fun v24x14 =>
  bind (fa 1 v24x14) fun v25x15 =>
  bind (st1 v25x15 v23x13) fun _ =>
  ret (Value.bool true)))

set_option maxRecDepth 100000 in
theorem rf_quorumSetAdd (Γ : Funs) (x0 x1 : Value) : runF Try.prog Γ Try.f20 lv_quorumSetAdd [x0, x1] = F_quorumSetAdd Γ x0 x1 := by kernel_rfl

theorem run_quorumSetAdd {prim : FuncId → Option (List Value → M Value)} (hp : prim n_quorumSetAdd = none) (n : Nat) (x0 x1 : Value) : run Try.prog prim lvs (n + 1) n_quorumSetAdd [x0, x1] = F_quorumSetAdd (run Try.prog prim lvs n) x0 x1 :=
  (run_fn hp (by kernel_rfl) Try.func20 (by kernel_rfl)).trans (rf_quorumSetAdd _ x0 x1)

/-- (*interrex/quorum.Set).Has -/
noncomputable def F_quorumSetHas (Γ : Funs) (x0 x1 : Value) : M Value :=
  bind (nilc x0) fun v6x1 =>
  bind (fa 1 v6x1) fun v7x2 =>
  bind (ld1 v7x2) fun v8x3 =>
  bind (bop .int .shr v8x3 x1) fun v10x4 =>
  bind (bop .int .and v10x4 (Value.int .u8 1)) fun v11x5 =>
  bind (bop .int .eql v11x5 (Value.int .u8 1)) fun v12x6 =>
  ret v12x6

set_option maxRecDepth 100000 in
theorem rf_quorumSetHas (Γ : Funs) (x0 x1 : Value) : runF Try.prog Γ Try.f21 lv_quorumSetHas [x0, x1] = F_quorumSetHas Γ x0 x1 := by kernel_rfl

theorem run_quorumSetHas {prim : FuncId → Option (List Value → M Value)} (hp : prim n_quorumSetHas = none) (n : Nat) (x0 x1 : Value) : run Try.prog prim lvs (n + 1) n_quorumSetHas [x0, x1] = F_quorumSetHas (run Try.prog prim lvs n) x0 x1 :=
  (run_fn hp (by kernel_rfl) Try.func21 (by kernel_rfl)).trans (rf_quorumSetHas _ x0 x1)

/-- (*interrex/quorum.Set).Count -/
noncomputable def F_quorumSetCount (Γ : Funs) (x0 : Value) : M Value :=
  bind (nilc x0) fun v4x1 =>
  bind (fa 1 v4x1) fun v5x2 =>
  bind (ld1 v5x2) fun v6x3 =>
  bind (Γ n_mathBitsOnesCount8 [v6x3]) fun v7x4 =>
  ret v7x4

set_option maxRecDepth 100000 in
theorem rf_quorumSetCount (Γ : Funs) (x0 : Value) : runF Try.prog Γ Try.f22 lv_quorumSetCount [x0] = F_quorumSetCount Γ x0 := by kernel_rfl

theorem run_quorumSetCount {prim : FuncId → Option (List Value → M Value)} (hp : prim n_quorumSetCount = none) (n : Nat) (x0 : Value) : run Try.prog prim lvs (n + 1) n_quorumSetCount [x0] = F_quorumSetCount (run Try.prog prim lvs n) x0 :=
  (run_fn hp (by kernel_rfl) Try.func22 (by kernel_rfl)).trans (rf_quorumSetCount _ x0)

/-- interrex/interrexref27.Count: a round. -/
noncomputable def F_ref27Count.l1 (Γ : Funs) (s3 s6 s7 s8 : Value) : M Out :=
  bind (bop .int .lss s8 s7) fun v9x2 =>
  cnd v9x2
  (bind (ixa 1 s6 s8) fun v10x3 =>
  bind (ld1 v10x3) fun v11x4 =>
  jn (cnd v11x4
  (bind (bop .int .add s3 (Value.int .i64 1)) fun v14x5 =>
  ret (.nrm [v14x5, s6, s7, s8]))
  (ret (.nrm [s3, s6, s7, s8]))) (c4 fun q6_0 q6_1 q6_2 q6_3 =>
  bind (bop .int .add q6_3 (Value.int .i64 1)) fun v15x7 =>
  ret (.nrm [q6_0, q6_1, q6_2, v15x7])) noX retR)
  (ret (.ext 0 [s3]))

/-- interrex/interrexref27.Count -/
noncomputable def F_ref27Count (Γ : Funs) (x0 : Value) : M Value :=
  bind (lenS x0) fun v7x1 =>
  jn (loopM (c4 (F_ref27Count.l1 Γ)) [(Value.int .i64 0), x0, v7x1, (Value.int .i64 0)]) noN (xk 0 (c1 fun q10_0 =>
  ret q10_0) noX) ret

set_option maxRecDepth 100000 in
theorem rf_ref27Count (Γ : Funs) (x0 : Value) : runF Try.prog Γ Try.f23 lv_ref27Count [x0] = F_ref27Count Γ x0 := by kernel_rfl

theorem run_ref27Count {prim : FuncId → Option (List Value → M Value)} (hp : prim n_ref27Count = none) (n : Nat) (x0 : Value) : run Try.prog prim lvs (n + 1) n_ref27Count [x0] = F_ref27Count (run Try.prog prim lvs n) x0 :=
  (run_fn hp (by kernel_rfl) Try.func23 (by kernel_rfl)).trans (rf_ref27Count _ x0)

/-- (*interrex/quorum.Set).Won -/
noncomputable def F_quorumSetWon (Γ : Funs) (x0 : Value) : M Value :=
  bind (nilc x0) fun v6x1 =>
  bind (fa 0 v6x1) fun v7x2 =>
  bind (ld1 v7x2) fun v8x3 =>
  bind (Γ n_quorumSetCount [x0]) fun v4x4 =>
  bind (ld1 v7x2) fun u_5 => same u_5 v8x3 <|
  bind (Γ n_quorumEnough [v8x3]) fun v9x6 =>
  bind (bop .int .geq v4x4 v9x6) fun v10x7 =>
  ret v10x7

set_option maxRecDepth 100000 in
theorem rf_quorumSetWon (Γ : Funs) (x0 : Value) : runF Try.prog Γ Try.f24 lv_quorumSetWon [x0] = F_quorumSetWon Γ x0 := by kernel_rfl

theorem run_quorumSetWon {prim : FuncId → Option (List Value → M Value)} (hp : prim n_quorumSetWon = none) (n : Nat) (x0 : Value) : run Try.prog prim lvs (n + 1) n_quorumSetWon [x0] = F_quorumSetWon (run Try.prog prim lvs n) x0 :=
  (run_fn hp (by kernel_rfl) Try.func24 (by kernel_rfl)).trans (rf_quorumSetWon _ x0)

/-- slices.Sorted[uint64] -/
noncomputable def F_slicesSortedUint64 (Γ : Funs) (x0 : Value) : M Value :=
  bind (Γ n_slicesCollectUint64 [x0]) fun v5x1 =>
  bind (Γ n_slicesSortuint64Uint64 [v5x1]) fun v7x2 =>
  ret v5x1

set_option maxRecDepth 100000 in
theorem rf_slicesSortedUint64 (Γ : Funs) (x0 : Value) : runF Try.prog Γ Try.f25 lv_slicesSortedUint64 [x0] = F_slicesSortedUint64 Γ x0 := by kernel_rfl

theorem run_slicesSortedUint64 {prim : FuncId → Option (List Value → M Value)} (hp : prim n_slicesSortedUint64 = none) (n : Nat) (x0 : Value) : run Try.prog prim lvs (n + 1) n_slicesSortedUint64 [x0] = F_slicesSortedUint64 (run Try.prog prim lvs n) x0 :=
  (run_fn hp (by kernel_rfl) Try.func25 (by kernel_rfl)).trans (rf_slicesSortedUint64 _ x0)

/-- slices.Values[[]uint64,uint64] -/
noncomputable def F_slicesValuesuint64Uint64 (Γ : Funs) (x0 : Value) : M Value :=
  bind (alc 1 x0) fun v1x1 =>
  ret (Value.func (.func 30) #[] #[v1x1])

set_option maxRecDepth 100000 in
theorem rf_slicesValuesuint64Uint64 (Γ : Funs) (x0 : Value) : runF Try.prog Γ Try.f26 lv_slicesValuesuint64Uint64 [x0] = F_slicesValuesuint64Uint64 Γ x0 := by kernel_rfl

theorem run_slicesValuesuint64Uint64 {prim : FuncId → Option (List Value → M Value)} (hp : prim n_slicesValuesuint64Uint64 = none) (n : Nat) (x0 : Value) : run Try.prog prim lvs (n + 1) n_slicesValuesuint64Uint64 [x0] = F_slicesValuesuint64Uint64 (run Try.prog prim lvs n) x0 :=
  (run_fn hp (by kernel_rfl) Try.func26 (by kernel_rfl)).trans (rf_slicesValuesuint64Uint64 _ x0)

/-- math/bits.OnesCount8 -/
noncomputable def F_mathBitsOnesCount8 (Γ : Funs) (x0 : Value) : M Value :=
  bind (ixs (Value.string ⟨#[0, 1, 1, 2, 1, 2, 2, 3, 1, 2, 2, 3, 2, 3, 3, 4, 1, 2, 2, 3, 2, 3, 3, 4, 2, 3, 3, 4, 3, 4, 4, 5, 1, 2, 2, 3, 2, 3, 3, 4, 2, 3, 3, 4, 3, 4, 4, 5, 2, 3, 3, 4, 3, 4, 4, 5, 3, 4, 4, 5, 4, 5, 5, 6, 1, 2, 2, 3, 2, 3, 3, 4, 2, 3, 3, 4, 3, 4, 4, 5, 2, 3, 3, 4, 3, 4, 4, 5, 3, 4, 4, 5, 4, 5, 5, 6, 2, 3, 3, 4, 3, 4, 4, 5, 3, 4, 4, 5, 4, 5, 5, 6, 3, 4, 4, 5, 4, 5, 5, 6, 4, 5, 5, 6, 5, 6, 6, 7, 1, 2, 2, 3, 2, 3, 3, 4, 2, 3, 3, 4, 3, 4, 4, 5, 2, 3, 3, 4, 3, 4, 4, 5, 3, 4, 4, 5, 4, 5, 5, 6, 2, 3, 3, 4, 3, 4, 4, 5, 3, 4, 4, 5, 4, 5, 5, 6, 3, 4, 4, 5, 4, 5, 5, 6, 4, 5, 5, 6, 5, 6, 6, 7, 2, 3, 3, 4, 3, 4, 4, 5, 3, 4, 4, 5, 4, 5, 5, 6, 3, 4, 4, 5, 4, 5, 5, 6, 4, 5, 5, 6, 5, 6, 6, 7, 3, 4, 4, 5, 4, 5, 5, 6, 4, 5, 5, 6, 5, 6, 6, 7, 4, 5, 5, 6, 5, 6, 6, 7, 5, 6, 6, 7, 6, 7, 7, 8]⟩) x0) fun v4x1 =>
  bind (cvi .i64 v4x1) fun v5x2 =>
  ret v5x2

set_option maxRecDepth 100000 in
theorem rf_mathBitsOnesCount8 (Γ : Funs) (x0 : Value) : runF Try.prog Γ Try.f27 lv_mathBitsOnesCount8 [x0] = F_mathBitsOnesCount8 Γ x0 := by kernel_rfl

theorem run_mathBitsOnesCount8 {prim : FuncId → Option (List Value → M Value)} (hp : prim n_mathBitsOnesCount8 = none) (n : Nat) (x0 : Value) : run Try.prog prim lvs (n + 1) n_mathBitsOnesCount8 [x0] = F_mathBitsOnesCount8 (run Try.prog prim lvs n) x0 :=
  (run_fn hp (by kernel_rfl) Try.func27 (by kernel_rfl)).trans (rf_mathBitsOnesCount8 _ x0)

/-- slices.Collect[uint64] -/
noncomputable def F_slicesCollectUint64 (Γ : Funs) (x0 : Value) : M Value :=
  bind (Γ n_slicesAppendSequint64Uint64 [(Value.slice none 0 0), x0]) fun v4x1 =>
  ret v4x1

set_option maxRecDepth 100000 in
theorem rf_slicesCollectUint64 (Γ : Funs) (x0 : Value) : runF Try.prog Γ Try.f28 lv_slicesCollectUint64 [x0] = F_slicesCollectUint64 Γ x0 := by kernel_rfl

theorem run_slicesCollectUint64 {prim : FuncId → Option (List Value → M Value)} (hp : prim n_slicesCollectUint64 = none) (n : Nat) (x0 : Value) : run Try.prog prim lvs (n + 1) n_slicesCollectUint64 [x0] = F_slicesCollectUint64 (run Try.prog prim lvs n) x0 :=
  (run_fn hp (by kernel_rfl) Try.func28 (by kernel_rfl)).trans (rf_slicesCollectUint64 _ x0)

/-- slices.Sort[[]uint64,uint64] -/
noncomputable def F_slicesSortuint64Uint64 (Γ : Funs) (x0 : Value) : M Value :=
  bind (lenS x0) fun v4x1 =>
  bind (cvi .u64 v4x1) fun v8x2 =>
  bind (Γ n_mathBitsLen [v8x2]) fun v9x3 =>
  bind (Γ n_slicesPdqsortOrderedUint64 [x0, (Value.int .i64 0), v4x1, v9x3]) fun v10x4 =>
  ret (Value.tuple #[])

set_option maxRecDepth 100000 in
theorem rf_slicesSortuint64Uint64 (Γ : Funs) (x0 : Value) : runF Try.prog Γ Try.f29 lv_slicesSortuint64Uint64 [x0] = F_slicesSortuint64Uint64 Γ x0 := by kernel_rfl

theorem run_slicesSortuint64Uint64 {prim : FuncId → Option (List Value → M Value)} (hp : prim n_slicesSortuint64Uint64 = none) (n : Nat) (x0 : Value) : run Try.prog prim lvs (n + 1) n_slicesSortuint64Uint64 [x0] = F_slicesSortuint64Uint64 (run Try.prog prim lvs n) x0 :=
  (run_fn hp (by kernel_rfl) Try.func29 (by kernel_rfl)).trans (rf_slicesSortuint64Uint64 _ x0)

/-- slices.Values[[]uint64,uint64]$1: a round. -/
noncomputable def F_slicesValuesuint64Uint641.l1 (Γ : Funs) (s0 s5 s6 s7 : Value) : M Out :=
  bind (bop .int .lss s7 s6) fun v8x3 =>
  cnd v8x3
  (bind (ixa 1 s5 s7) fun v9x4 =>
  bind (ld1 v9x4) fun v10x5 =>
  bind (callv Γ s0 [v10x5]) fun v13x6 =>
  bind (uop .not v13x6) fun v14x7 =>
  cnd v14x7
  (ret (.ret (Value.tuple #[])))
  (bind (bop .int .add s7 (Value.int .i64 1)) fun v15x8 =>
  ret (.nrm [s0, s5, s6, v15x8])))
  (ret (.ext 0 []))

/-- slices.Values[[]uint64,uint64]$1 -/
noncomputable def F_slicesValuesuint64Uint641 (Γ : Funs) (x0 x1 : Value) : M Value :=
  bind (ld1 x1) fun v5x1 =>
  bind (lenS v5x1) fun v6x2 =>
  jn (loopM (c4 (F_slicesValuesuint64Uint641.l1 Γ)) [x0, v5x1, v6x2, (Value.int .i64 0)]) noN (xk 0 (c0 (ret (Value.tuple #[]))) noX) ret

set_option maxRecDepth 100000 in
theorem rf_slicesValuesuint64Uint641 (Γ : Funs) (x0 x1 : Value) : runF Try.prog Γ Try.f30 lv_slicesValuesuint64Uint641 [x0, x1] = F_slicesValuesuint64Uint641 Γ x0 x1 := by kernel_rfl

theorem run_slicesValuesuint64Uint641 {prim : FuncId → Option (List Value → M Value)} (hp : prim n_slicesValuesuint64Uint641 = none) (n : Nat) (x0 x1 : Value) : run Try.prog prim lvs (n + 1) n_slicesValuesuint64Uint641 [x0, x1] = F_slicesValuesuint64Uint641 (run Try.prog prim lvs n) x0 x1 :=
  (run_fn hp (by kernel_rfl) Try.func30 (by kernel_rfl)).trans (rf_slicesValuesuint64Uint641 _ x0 x1)

/-- slices.AppendSeq[[]uint64,uint64]: a range over a function. -/
noncomputable abbrev F_slicesAppendSequint64Uint64.o1 (s2 : Value) (st : LoopState) (pd : Option Code) : AObj := .loop Try.f31 lv_slicesAppendSequint64Uint64 26 [0] (rfAt Try.f31 26) [(2, s2)] st pd

/-- slices.AppendSeq[[]uint64,uint64]: a round of a range over a function. -/
noncomputable def F_slicesAppendSequint64Uint64.r1 (Γ : Funs) (L : Nat) (s2 : Value) (a0 : Value) : M Value :=
  begM L (
  bind (ld1 s2) fun v8x2 =>
  bind (bsl 1 1 (.int .u64 0) [(0, 1, a0)]) fun v10x3 =>
  bind (app 1 8 v8x2 v10x3) fun v11x4 =>
  bind (st1 s2 v11x4) fun _ =>
  endR L none)

set_option maxRecDepth 100000 in
theorem rd_slicesAppendSequint64Uint64_r1 {Γ : Funs} {L : Nat} {s2 a0 : Value} {H : Heap} {pd : Option Code} (h : H[L]? = some (F_slicesAppendSequint64Uint64.o1 s2 .ready pd)) : roundF Try.prog Γ L [a0] H = F_slicesAppendSequint64Uint64.r1 Γ L s2 a0 H := by
  unfold roundF
  rw [h]
  kernel_rfl

/-- slices.AppendSeq[[]uint64,uint64] -/
noncomputable def F_slicesAppendSequint64Uint64 (Γ : Funs) (x0 x1 : Value) : M Value :=
  bind (alc 1 x0) fun v2x1 =>
  rangeM (callG Try.prog) Γ x1 Try.f31 lv_slicesAppendSequint64Uint64 26 [0] (rfAt Try.f31 26) [(2, v2x1)] fun pd_5 =>
  (match pd_5 with
  | none => bind (ld1 v2x1) fun v12x6 =>
  ret v12x6
  | some (.exit j_5) => fail
  | some .ret => ret (Value.slice none 0 0)
  | _ => fail)

set_option maxRecDepth 100000 in
theorem rf_slicesAppendSequint64Uint64 (Γ : Funs) (x0 x1 : Value) : runF Try.prog Γ Try.f31 lv_slicesAppendSequint64Uint64 [x0, x1] = F_slicesAppendSequint64Uint64 Γ x0 x1 := by kernel_rfl

theorem run_slicesAppendSequint64Uint64 {prim : FuncId → Option (List Value → M Value)} (hp : prim n_slicesAppendSequint64Uint64 = none) (n : Nat) (x0 x1 : Value) : run Try.prog prim lvs (n + 1) n_slicesAppendSequint64Uint64 [x0, x1] = F_slicesAppendSequint64Uint64 (run Try.prog prim lvs n) x0 x1 :=
  (run_fn hp (by kernel_rfl) Try.func31 (by kernel_rfl)).trans (rf_slicesAppendSequint64Uint64 _ x0 x1)

/-- slices.pdqsortOrdered[uint64]: a round. -/
noncomputable def F_slicesPdqsortOrderedUint64.l1 (Γ : Funs) (s0 s1 s2 s3 s8 s9 : Value) : M Out :=
  jn (bind (bop .int .sub s2 s1) fun v21x1 =>
  bind (bop .int .leq v21x1 (Value.int .i64 12)) fun v23x2 =>
  cnd v23x2
  (bind (Γ n_slicesInsertionSortOrderedUint64 [s0, s1, s2]) fun v27x3 =>
  ret (.ret (Value.tuple #[])))
  (bind (bop .int .eql s3 (Value.int .i64 0)) fun v29x4 =>
  cnd v29x4
  (bind (Γ n_slicesHeapSortOrderedUint64 [s0, s1, s2]) fun v33x5 =>
  ret (.ret (Value.tuple #[])))
  (bind (uop .not s8) fun v35x6 =>
  jn (cnd v35x6
  (bind (Γ n_slicesBreakPatternsOrderedUint64 [s0, s1, s2]) fun v39x7 =>
  bind (bop .int .sub s3 (Value.int .i64 1)) fun v41x8 =>
  ret (.nrm [s0, s1, s2, v41x8, s8, s9, v21x1]))
  (ret (.nrm [s0, s1, s2, s3, s8, s9, v21x1]))) (c7 fun q9_0 q9_1 q9_2 q9_3 q9_4 q9_5 q9_6 =>
  bind (Γ n_slicesChoosePivotOrderedUint64 [q9_0, q9_1, q9_2]) fun v46x10 =>
  bind (extr v46x10 0) fun v47x11 =>
  bind (extr v46x10 1) fun v48x12 =>
  bind (bop .int .eql v48x12 (Value.int .i64 2)) fun v50x13 =>
  jn (cnd v50x13
  (bind (Γ n_slicesReverseRangeOrderedUint64 [q9_0, q9_1, q9_2]) fun v54x14 =>
  bind (bop .int .sub q9_2 (Value.int .i64 1)) fun v56x15 =>
  bind (bop .int .sub v47x11 q9_1) fun v59x16 =>
  bind (bop .int .sub v56x15 v59x16) fun v60x17 =>
  ret (.nrm [q9_0, q9_1, q9_2, q9_3, q9_4, q9_5, q9_6, v60x17, (Value.int .i64 1)]))
  (ret (.nrm [q9_0, q9_1, q9_2, q9_3, q9_4, q9_5, q9_6, v47x11, v48x12]))) (c9 fun q18_0 q18_1 q18_2 q18_3 q18_4 q18_5 q18_6 q18_7 q18_8 =>
  bind (gate q18_4 true 1 (ret [q18_5])) (c1 fun q19_0 =>
  bind (pick q18_4 q19_0 (Value.bool false)) fun v64x20 =>
  bind (gate v64x20 true 2 (bind (bop .int .eql q18_8 (Value.int .i64 1)) fun v67x21 =>
  ret [q18_8, v67x21])) (c2 fun _ q22_1 =>
  bind (pick v64x20 q22_1 (Value.bool false)) fun v68x23 =>
  jn (cnd v68x23
  (bind (Γ n_slicesPartialInsertionSortOrderedUint64 [q18_0, q18_1, q18_2]) fun v72x24 =>
  cnd v72x24
  (ret (.ret (Value.tuple #[])))
  (ret (.nrm [q18_0, q18_1, q18_2, q18_3, q18_4, q18_5, q18_6, q18_7])))
  (ret (.nrm [q18_0, q18_1, q18_2, q18_3, q18_4, q18_5, q18_6, q18_7]))) (c8 fun q25_0 q25_1 q25_2 q25_3 q25_4 q25_5 q25_6 q25_7 =>
  bind (bop .int .gtr q25_1 (Value.int .i64 0)) fun v74x26 =>
  bind (gateV v74x26 true (ret q25_0)) fun v76x27 =>
  bind (gateV v74x26 true (ret q25_1)) fun v77x28 =>
  bind (gateV v74x26 true (bop .int .sub v77x28 (Value.int .i64 1))) fun v78x29 =>
  bind (gateV v74x26 true (ixa 1 v76x27 v78x29)) fun v79x30 =>
  bind (gateV v74x26 true (ld1 v79x30)) fun v80x31 =>
  bind (gateV v74x26 true (ret q25_0)) fun v81x32 =>
  bind (gateV v74x26 true (ret q25_7)) fun v82x33 =>
  bind (gateV v74x26 true (ixa 1 v81x32 v82x33)) fun v83x34 =>
  bind (gateV v74x26 true (ld1 v83x34)) fun v84x35 =>
  bind (gateV v74x26 true (Γ n_cmpLessUint64 [v80x31, v84x35])) fun v85x36 =>
  bind (gateV v74x26 true (uop .not v85x36)) fun v86x37 =>
  bind (pick v74x26 v86x37 (Value.bool false)) fun v87x38 =>
  cnd v87x38
  (bind (Γ n_slicesPartitionEqualOrderedUint64 [q25_0, q25_1, q25_2, q25_7]) fun v92x39 =>
  ret (.nrm [q25_0, v92x39, q25_2, q25_3, q25_4, q25_5]))
  (bind (Γ n_slicesPartitionOrderedUint64 [q25_0, q25_1, q25_2, q25_7]) fun v99x40 =>
  bind (extr v99x40 0) fun v100x41 =>
  bind (extr v99x40 1) fun v101x42 =>
  bind (bop .int .sub v100x41 q25_1) fun v105x43 =>
  bind (bop .int .sub q25_2 v100x41) fun v108x44 =>
  bind (bop .int .quo q25_6 (Value.int .i64 8)) fun v110x45 =>
  bind (bop .int .lss v105x43 v108x44) fun v113x46 =>
  jn (cnd v113x46
  (bind (bop .int .geq v105x43 v110x45) fun v116x47 =>
  bind (Γ n_slicesPdqsortOrderedUint64 [q25_0, q25_1, v100x41, q25_3]) fun v121x48 =>
  bind (bop .int .add v100x41 (Value.int .i64 1)) fun v123x49 =>
  ret (.nrm [q25_0, v123x49, q25_2, q25_3, v116x47, v101x42]))
  (bind (bop .int .geq v108x44 v110x45) fun v126x50 =>
  bind (bop .int .add v100x41 (Value.int .i64 1)) fun v129x51 =>
  bind (Γ n_slicesPdqsortOrderedUint64 [q25_0, v129x51, q25_2, q25_3]) fun v132x52 =>
  ret (.nrm [q25_0, q25_1, v100x41, q25_3, v126x50, v101x42]))) (c6 fun q53_0 q53_1 q53_2 q53_3 q53_4 q53_5 =>
  ret (.nrm [q53_0, q53_1, q53_2, q53_3, q53_4, q53_5])) noX retR)) noX retR))) noX retR) noX retR))) (c6 fun q58_0 q58_1 q58_2 q58_3 q58_4 q58_5 =>
  ret (.nrm [q58_0, q58_1, q58_2, q58_3, q58_4, q58_5])) noX retR

/-- slices.pdqsortOrdered[uint64] -/
noncomputable def F_slicesPdqsortOrderedUint64 (Γ : Funs) (x0 x1 x2 x3 : Value) : M Value :=
  jn (loopM (c6 (F_slicesPdqsortOrderedUint64.l1 Γ)) [x0, x1, x2, x3, (Value.bool true), (Value.bool true)]) noN noX ret

set_option maxRecDepth 100000 in
theorem rf_slicesPdqsortOrderedUint64 (Γ : Funs) (x0 x1 x2 x3 : Value) : runF Try.prog Γ Try.f32 lv_slicesPdqsortOrderedUint64 [x0, x1, x2, x3] = F_slicesPdqsortOrderedUint64 Γ x0 x1 x2 x3 := by kernel_rfl

theorem run_slicesPdqsortOrderedUint64 {prim : FuncId → Option (List Value → M Value)} (hp : prim n_slicesPdqsortOrderedUint64 = none) (n : Nat) (x0 x1 x2 x3 : Value) : run Try.prog prim lvs (n + 1) n_slicesPdqsortOrderedUint64 [x0, x1, x2, x3] = F_slicesPdqsortOrderedUint64 (run Try.prog prim lvs n) x0 x1 x2 x3 :=
  (run_fn hp (by kernel_rfl) Try.func32 (by kernel_rfl)).trans (rf_slicesPdqsortOrderedUint64 _ x0 x1 x2 x3)

/-- math/bits.Len -/
noncomputable def F_mathBitsLen (Γ : Funs) (x0 : Value) : M Value :=
  cnd (Value.bool false)
  (bind (cvi .u32 x0) fun v4x1 =>
  bind (Γ n_mathBitsLen32 [v4x1]) fun v5x2 =>
  ret v5x2)
  (bind (Γ n_mathBitsLen64 [x0]) fun v7x3 =>
  ret v7x3)

set_option maxRecDepth 100000 in
theorem rf_mathBitsLen (Γ : Funs) (x0 : Value) : runF Try.prog Γ Try.f33 lv_mathBitsLen [x0] = F_mathBitsLen Γ x0 := by kernel_rfl

theorem run_mathBitsLen {prim : FuncId → Option (List Value → M Value)} (hp : prim n_mathBitsLen = none) (n : Nat) (x0 : Value) : run Try.prog prim lvs (n + 1) n_mathBitsLen [x0] = F_mathBitsLen (run Try.prog prim lvs n) x0 :=
  (run_fn hp (by kernel_rfl) Try.func33 (by kernel_rfl)).trans (rf_mathBitsLen _ x0)

/-- slices.insertionSortOrdered[uint64]: a round. -/
noncomputable def F_slicesInsertionSortOrderedUint64.l2 (Γ : Funs) (s0 s1 s2 s6 s7 : Value) : M Out :=
  bind (bop .int .gtr s7 s1) fun v18x3 =>
  bind (gateV v18x3 true (ret s0)) fun v20x4 =>
  bind (gateV v18x3 true (ret s7)) fun v21x5 =>
  bind (gateV v18x3 true (ixa 1 v20x4 v21x5)) fun v22x6 =>
  bind (gateV v18x3 true (ld1 v22x6)) fun v23x7 =>
  bind (gateV v18x3 true (ret s0)) fun v24x8 =>
  bind (gateV v18x3 true (ret s7)) fun v25x9 =>
  bind (gateV v18x3 true (bop .int .sub v25x9 (Value.int .i64 1))) fun v26x10 =>
  bind (gateV v18x3 true (ixa 1 v24x8 v26x10)) fun v27x11 =>
  bind (gateV v18x3 true (ld1 v27x11)) fun v28x12 =>
  bind (gateV v18x3 true (Γ n_cmpLessUint64 [v23x7, v28x12])) fun v29x13 =>
  bind (pick v18x3 v29x13 (Value.bool false)) fun v30x14 =>
  cnd v30x14
  (bind (bop .int .sub s7 (Value.int .i64 1)) fun v37x15 =>
  bind (bop .int .sub s7 (Value.int .i64 1)) fun v40x16 =>
  bind (ixa 1 s0 v40x16) fun v41x17 =>
  bind (ld1 v41x17) fun v42x18 =>
  bind (ixa 1 s0 s7) fun v45x19 =>
  bind (ld1 v45x19) fun v46x20 =>
  bind (ixa 1 s0 s7) fun v47x21 =>
  bind (st1 v47x21 v42x18) fun _ =>
  bind (ixa 1 s0 v37x15) fun v48x22 =>
  bind (st1 v48x22 v46x20) fun _ =>
  bind (bop .int .sub s7 (Value.int .i64 1)) fun v32x23 =>
  ret (.nrm [s0, s1, s2, s6, v32x23]))
  (ret (.ext 2 [s0, s1, s2, s6]))

/-- slices.insertionSortOrdered[uint64]: a round. -/
noncomputable def F_slicesInsertionSortOrderedUint64.l1 (Γ : Funs) (s0 s1 s2 s6 : Value) : M Out :=
  bind (bop .int .lss s6 s2) fun v12x2 =>
  cnd v12x2
  (jn (loopM (c5 (F_slicesInsertionSortOrderedUint64.l2 Γ)) [s0, s1, s2, s6, s6]) noN (xk 2 (c4 fun q25_0 q25_1 q25_2 q25_3 =>
  bind (bop .int .add q25_3 (Value.int .i64 1)) fun v14x26 =>
  ret (.nrm [q25_0, q25_1, q25_2, v14x26])) noX) retR)
  (ret (.ext 0 []))

/-- slices.insertionSortOrdered[uint64] -/
noncomputable def F_slicesInsertionSortOrderedUint64 (Γ : Funs) (x0 x1 x2 : Value) : M Value :=
  bind (bop .int .add x1 (Value.int .i64 1)) fun v9x1 =>
  jn (loopM (c4 (F_slicesInsertionSortOrderedUint64.l1 Γ)) [x0, x1, x2, v9x1]) noN (xk 0 (c0 (ret (Value.tuple #[]))) noX) ret

set_option maxRecDepth 100000 in
theorem rf_slicesInsertionSortOrderedUint64 (Γ : Funs) (x0 x1 x2 : Value) : runF Try.prog Γ Try.f34 lv_slicesInsertionSortOrderedUint64 [x0, x1, x2] = F_slicesInsertionSortOrderedUint64 Γ x0 x1 x2 := by kernel_rfl

theorem run_slicesInsertionSortOrderedUint64 {prim : FuncId → Option (List Value → M Value)} (hp : prim n_slicesInsertionSortOrderedUint64 = none) (n : Nat) (x0 x1 x2 : Value) : run Try.prog prim lvs (n + 1) n_slicesInsertionSortOrderedUint64 [x0, x1, x2] = F_slicesInsertionSortOrderedUint64 (run Try.prog prim lvs n) x0 x1 x2 :=
  (run_fn hp (by kernel_rfl) Try.func34 (by kernel_rfl)).trans (rf_slicesInsertionSortOrderedUint64 _ x0 x1 x2)

/-- cmp.Less[uint64] -/
noncomputable def F_cmpLessUint64 (Γ : Funs) (x0 x1 : Value) : M Value :=
  bind (Γ n_cmpIsNaNUint64 [x0]) fun v6x1 =>
  bind (gate v6x1 true 3 (bind (Γ n_cmpIsNaNUint64 [x1]) fun v9x2 =>
  bind (uop .not v9x2) fun v10x3 =>
  ret [x1, v9x2, v10x3])) (c3 fun _ _ q4_2 =>
  bind (pick v6x1 q4_2 (Value.bool false)) fun v11x5 =>
  bind (gate v11x5 false 3 (bind (bop .int .lss x0 x1) fun v15x6 =>
  ret [x0, x1, v15x6])) (c3 fun _ _ q7_2 =>
  bind (pick v11x5 (Value.bool true) q7_2) fun v16x8 =>
  ret v16x8))

set_option maxRecDepth 100000 in
theorem rf_cmpLessUint64 (Γ : Funs) (x0 x1 : Value) : runF Try.prog Γ Try.f40 lv_cmpLessUint64 [x0, x1] = F_cmpLessUint64 Γ x0 x1 := by kernel_rfl

theorem run_cmpLessUint64 {prim : FuncId → Option (List Value → M Value)} (hp : prim n_cmpLessUint64 = none) (n : Nat) (x0 x1 : Value) : run Try.prog prim lvs (n + 1) n_cmpLessUint64 [x0, x1] = F_cmpLessUint64 (run Try.prog prim lvs n) x0 x1 :=
  (run_fn hp (by kernel_rfl) Try.func40 (by kernel_rfl)).trans (rf_cmpLessUint64 _ x0 x1)

/-- math/bits.Len32 -/
noncomputable def F_mathBitsLen32 (Γ : Funs) (x0 : Value) : M Value :=
  bind (bop .int .geq x0 (Value.int .u32 65536)) fun v4x1 =>
  jn (cnd v4x1
  (bind (bop .int .shr x0 (Value.int .u64 16)) fun v6x2 =>
  ret (.nrm [v6x2, (Value.int .i64 16)]))
  (ret (.nrm [x0, (Value.int .i64 0)]))) (c2 fun q3_0 q3_1 =>
  bind (bop .int .geq q3_0 (Value.int .u32 256)) fun v8x4 =>
  jn (cnd v8x4
  (bind (bop .int .shr q3_0 (Value.int .u64 8)) fun v10x5 =>
  bind (bop .int .add q3_1 (Value.int .i64 8)) fun v12x6 =>
  ret (.nrm [v10x5, v12x6]))
  (ret (.nrm [q3_0, q3_1]))) (c2 fun q7_0 q7_1 =>
  bind (cvi .u8 q7_0) fun v15x8 =>
  bind (ixs (Value.string ⟨#[0, 1, 2, 2, 3, 3, 3, 3, 4, 4, 4, 4, 4, 4, 4, 4, 5, 5, 5, 5, 5, 5, 5, 5, 5, 5, 5, 5, 5, 5, 5, 5, 6, 6, 6, 6, 6, 6, 6, 6, 6, 6, 6, 6, 6, 6, 6, 6, 6, 6, 6, 6, 6, 6, 6, 6, 6, 6, 6, 6, 6, 6, 6, 6, 7, 7, 7, 7, 7, 7, 7, 7, 7, 7, 7, 7, 7, 7, 7, 7, 7, 7, 7, 7, 7, 7, 7, 7, 7, 7, 7, 7, 7, 7, 7, 7, 7, 7, 7, 7, 7, 7, 7, 7, 7, 7, 7, 7, 7, 7, 7, 7, 7, 7, 7, 7, 7, 7, 7, 7, 7, 7, 7, 7, 7, 7, 7, 7, 8, 8, 8, 8, 8, 8, 8, 8, 8, 8, 8, 8, 8, 8, 8, 8, 8, 8, 8, 8, 8, 8, 8, 8, 8, 8, 8, 8, 8, 8, 8, 8, 8, 8, 8, 8, 8, 8, 8, 8, 8, 8, 8, 8, 8, 8, 8, 8, 8, 8, 8, 8, 8, 8, 8, 8, 8, 8, 8, 8, 8, 8, 8, 8, 8, 8, 8, 8, 8, 8, 8, 8, 8, 8, 8, 8, 8, 8, 8, 8, 8, 8, 8, 8, 8, 8, 8, 8, 8, 8, 8, 8, 8, 8, 8, 8, 8, 8, 8, 8, 8, 8, 8, 8, 8, 8, 8, 8, 8, 8, 8, 8, 8, 8, 8, 8, 8, 8, 8, 8, 8, 8, 8, 8, 8, 8, 8, 8]⟩) v15x8) fun v16x9 =>
  bind (cvi .i64 v16x9) fun v17x10 =>
  bind (bop .int .add q7_1 v17x10) fun v18x11 =>
  ret v18x11) noX ret) noX ret

set_option maxRecDepth 100000 in
theorem rf_mathBitsLen32 (Γ : Funs) (x0 : Value) : runF Try.prog Γ Try.f43 lv_mathBitsLen32 [x0] = F_mathBitsLen32 Γ x0 := by kernel_rfl

theorem run_mathBitsLen32 {prim : FuncId → Option (List Value → M Value)} (hp : prim n_mathBitsLen32 = none) (n : Nat) (x0 : Value) : run Try.prog prim lvs (n + 1) n_mathBitsLen32 [x0] = F_mathBitsLen32 (run Try.prog prim lvs n) x0 :=
  (run_fn hp (by kernel_rfl) Try.func43 (by kernel_rfl)).trans (rf_mathBitsLen32 _ x0)

/-- math/bits.Len64 -/
noncomputable def F_mathBitsLen64 (Γ : Funs) (x0 : Value) : M Value :=
  bind (bop .int .geq x0 (Value.int .u64 4294967296)) fun v4x1 =>
  jn (cnd v4x1
  (bind (bop .int .shr x0 (Value.int .u64 32)) fun v6x2 =>
  ret (.nrm [v6x2, (Value.int .i64 32)]))
  (ret (.nrm [x0, (Value.int .i64 0)]))) (c2 fun q3_0 q3_1 =>
  bind (bop .int .geq q3_0 (Value.int .u64 65536)) fun v8x4 =>
  jn (cnd v8x4
  (bind (bop .int .shr q3_0 (Value.int .u64 16)) fun v10x5 =>
  bind (bop .int .add q3_1 (Value.int .i64 16)) fun v12x6 =>
  ret (.nrm [v10x5, v12x6]))
  (ret (.nrm [q3_0, q3_1]))) (c2 fun q7_0 q7_1 =>
  bind (bop .int .geq q7_0 (Value.int .u64 256)) fun v14x8 =>
  jn (cnd v14x8
  (bind (bop .int .shr q7_0 (Value.int .u64 8)) fun v16x9 =>
  bind (bop .int .add q7_1 (Value.int .i64 8)) fun v18x10 =>
  ret (.nrm [v16x9, v18x10]))
  (ret (.nrm [q7_0, q7_1]))) (c2 fun q11_0 q11_1 =>
  bind (cvi .u8 q11_0) fun v21x12 =>
  bind (ixs (Value.string ⟨#[0, 1, 2, 2, 3, 3, 3, 3, 4, 4, 4, 4, 4, 4, 4, 4, 5, 5, 5, 5, 5, 5, 5, 5, 5, 5, 5, 5, 5, 5, 5, 5, 6, 6, 6, 6, 6, 6, 6, 6, 6, 6, 6, 6, 6, 6, 6, 6, 6, 6, 6, 6, 6, 6, 6, 6, 6, 6, 6, 6, 6, 6, 6, 6, 7, 7, 7, 7, 7, 7, 7, 7, 7, 7, 7, 7, 7, 7, 7, 7, 7, 7, 7, 7, 7, 7, 7, 7, 7, 7, 7, 7, 7, 7, 7, 7, 7, 7, 7, 7, 7, 7, 7, 7, 7, 7, 7, 7, 7, 7, 7, 7, 7, 7, 7, 7, 7, 7, 7, 7, 7, 7, 7, 7, 7, 7, 7, 7, 8, 8, 8, 8, 8, 8, 8, 8, 8, 8, 8, 8, 8, 8, 8, 8, 8, 8, 8, 8, 8, 8, 8, 8, 8, 8, 8, 8, 8, 8, 8, 8, 8, 8, 8, 8, 8, 8, 8, 8, 8, 8, 8, 8, 8, 8, 8, 8, 8, 8, 8, 8, 8, 8, 8, 8, 8, 8, 8, 8, 8, 8, 8, 8, 8, 8, 8, 8, 8, 8, 8, 8, 8, 8, 8, 8, 8, 8, 8, 8, 8, 8, 8, 8, 8, 8, 8, 8, 8, 8, 8, 8, 8, 8, 8, 8, 8, 8, 8, 8, 8, 8, 8, 8, 8, 8, 8, 8, 8, 8, 8, 8, 8, 8, 8, 8, 8, 8, 8, 8, 8, 8, 8, 8, 8, 8, 8, 8]⟩) v21x12) fun v22x13 =>
  bind (cvi .i64 v22x13) fun v23x14 =>
  bind (bop .int .add q11_1 v23x14) fun v24x15 =>
  ret v24x15) noX ret) noX ret) noX ret

set_option maxRecDepth 100000 in
theorem rf_mathBitsLen64 (Γ : Funs) (x0 : Value) : runF Try.prog Γ Try.f44 lv_mathBitsLen64 [x0] = F_mathBitsLen64 Γ x0 := by kernel_rfl

theorem run_mathBitsLen64 {prim : FuncId → Option (List Value → M Value)} (hp : prim n_mathBitsLen64 = none) (n : Nat) (x0 : Value) : run Try.prog prim lvs (n + 1) n_mathBitsLen64 [x0] = F_mathBitsLen64 (run Try.prog prim lvs n) x0 :=
  (run_fn hp (by kernel_rfl) Try.func44 (by kernel_rfl)).trans (rf_mathBitsLen64 _ x0)

/-- cmp.isNaN[uint64] -/
noncomputable def F_cmpIsNaNUint64 (Γ : Funs) (x0 : Value) : M Value :=
  bind (bop .int .neq x0 x0) fun v5x1 =>
  ret v5x1

set_option maxRecDepth 100000 in
theorem rf_cmpIsNaNUint64 (Γ : Funs) (x0 : Value) : runF Try.prog Γ Try.f50 lv_cmpIsNaNUint64 [x0] = F_cmpIsNaNUint64 Γ x0 := by kernel_rfl

theorem run_cmpIsNaNUint64 {prim : FuncId → Option (List Value → M Value)} (hp : prim n_cmpIsNaNUint64 = none) (n : Nat) (x0 : Value) : run Try.prog prim lvs (n + 1) n_cmpIsNaNUint64 [x0] = F_cmpIsNaNUint64 (run Try.prog prim lvs n) x0 :=
  (run_fn hp (by kernel_rfl) Try.func50 (by kernel_rfl)).trans (rf_cmpIsNaNUint64 _ x0)

end Go.Proofs.Ytdmijlkknpolbaa.A
