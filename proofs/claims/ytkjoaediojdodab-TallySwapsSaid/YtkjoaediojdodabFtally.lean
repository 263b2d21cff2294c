/- Functions, as the abstract machine reads them: printed by wip/tools/gen.py. -/
import Derived.Test.YtkjoaediojdodabNmTally
import Derived.Test.YtkjoaediojdodabProg
import Derived.KernelRfl
namespace Go.Proofs.Ytkjoaediojdodab.A
set_option linter.unusedVariables false
set_option linter.unusedSimpArgs false
open Go.Proofs Go.Proofs.Ytkjoaediojdodab

/-- interrex/interrexlaw04.TallyRaises: a round. -/
noncomputable def F_law04TallyRaises.l1 (Γ : Funs) (s5 s6 s7 s22 s23 s24 : Value) : M Out :=
  bind (bop .int .lss s24 s23) fun v25x12 =>
  cnd v25x12
  (bind (ixa 1 s22 s24) fun v26x13 =>
  bind (ld1 v26x13) fun v27x14 =>
  bind (Γ n_tallyTallyRaise [s5, s6, v27x14]) fun v31x15 =>
  bind (bop .int .gtr v27x14 s7) fun v34x16 =>
  bind (bop .bool .neq v31x15 v34x16) fun v35x17 =>
  cnd v35x17
  (ret (.ret (Value.bool false)))
  (bind (mxi true s7 v27x14) fun v38x18 =>
  bind (Γ n_tallyTallyGet [s5, s6]) fun v41x19 =>
  bind (bop .int .neq v41x19 v38x18) fun v43x20 =>
  cnd v43x20
  (ret (.ret (Value.bool false)))
  (bind (bop .int .add s24 (Value.int .i64 1)) fun v44x21 =>
  ret (.nrm [s5, s6, v38x18, s22, s23, v44x21]))))
  (ret (.ext 0 []))

/-- interrex/interrexlaw04.TallyRaises -/
noncomputable def F_law04TallyRaises (Γ : Funs) (x0 x1 : Value) : M Value :=
  bind (Γ n_law04Lives []) fun v10x1 =>
  bind (uop .not v10x1) fun v11x2 =>
  bind (gate v11x2 false 3 (bind (lenS x0) fun v14x3 =>
  bind (bop .int .gtr v14x3 (Value.int .i64 60)) fun v15x4 =>
  ret [x0, v14x3, v15x4])) fun vs_5 =>
  bind (pick v11x2 (Value.bool true) (vs_5.tail.tail.headD undef)) fun v16x6 =>
  cnd v16x6
  (bind (Γ n_law04Lives []) fun v17x7 =>
  ret v17x7)
  (bind (Γ n_tallyNew []) fun v18x8 =>
  bind (bop .int .rem x1 (Value.int .u8 16)) fun v20x9 =>
  bind (cvi .i64 v20x9) fun v21x10 =>
  bind (lenS x0) fun v23x11 =>
  jn (loopM (fun vs_22 => F_law04TallyRaises.l1 Γ ((vs_22.headD undef)) ((vs_22.tail.headD undef)) ((vs_22.tail.tail.headD undef)) ((vs_22.tail.tail.tail.headD undef)) ((vs_22.tail.tail.tail.tail.headD undef)) ((vs_22.tail.tail.tail.tail.tail.headD undef))) [v18x8, v21x10, (Value.int .i64 0), x0, v23x11, (Value.int .i64 0)]) (fun _ => fail) (fun j_23 vs_23 => bif Nat.beq j_23 0 then (ret (Value.bool true)) else fail) (fun w_24 => ret w_24))

set_option maxRecDepth 100000 in
theorem rf_law04TallyRaises (Γ : Funs) (x0 x1 : Value) : runF Try.prog Γ Try.f3 lv_law04TallyRaises [x0, x1] = F_law04TallyRaises Γ x0 x1 := by kernel_rfl

theorem run_law04TallyRaises {prim : FuncId → Option (List Value → M Value)} (hp : prim n_law04TallyRaises = none) (n : Nat) (x0 x1 : Value) : run Try.prog prim lvs (n + 1) n_law04TallyRaises [x0, x1] = F_law04TallyRaises (run Try.prog prim lvs n) x0 x1 :=
  (run_fn hp (by kernel_rfl) Try.func3 (by kernel_rfl)).trans (rf_law04TallyRaises _ x0 x1)

/-- interrex/interrexlaw04.TallySwaps: a round. -/
noncomputable def F_law04TallySwaps.l1 (Γ : Funs) (s5 s6 s7 s23 s24 s25 : Value) : M Out :=
  bind (bop .int .lss s25 s24) fun v26x12 =>
  cnd v26x12
  (bind (ixa 1 s23 s25) fun v27x13 =>
  bind (ld1 v27x13) fun v28x14 =>
  bind (Γ n_tallyTallyGet [s5, s6]) fun v31x15 =>
  bind (bop .int .neq v31x15 s7) fun v34x16 =>
  bind (gate v34x16 false 8 (bind (bop .int .add v31x15 v28x14) fun v41x17 =>
  bind (Γ n_tallyTallySwap [s5, s6, v31x15, v41x17]) fun v42x18 =>
  bind (uop .not v42x18) fun v43x19 =>
  ret [s5, s6, v31x15, v31x15, v28x14, v41x17, v42x18, v43x19])) fun vs_20 =>
  bind (pick v34x16 (Value.bool true) (vs_20.tail.tail.tail.tail.tail.tail.tail.headD undef)) fun v44x21 =>
  bind (gate v44x21 false 10 (bind (bop .int .add v31x15 v28x14) fun v51x22 =>
  bind (Γ n_tallyTallySwap [s5, s6, v31x15, v51x22]) fun v52x23 =>
  bind (bop .int .eql v28x14 (Value.int .i64 0)) fun v54x24 =>
  bind (bop .bool .neq v52x23 v54x24) fun v55x25 =>
  ret [s5, s6, v31x15, v31x15, v28x14, v51x22, v52x23, v28x14, v54x24, v55x25])) fun vs_26 =>
  bind (pick v44x21 (Value.bool true) (vs_26.tail.tail.tail.tail.tail.tail.tail.tail.tail.headD undef)) fun v56x27 =>
  cnd v56x27
  (ret (.ret (Value.bool false)))
  (bind (bop .int .add s7 v28x14) fun v59x28 =>
  bind (bop .int .add s25 (Value.int .i64 1)) fun v60x29 =>
  ret (.nrm [s5, s6, v59x28, s23, s24, v60x29])))
  (ret (.ext 0 [s5, s6, s7]))

/-- interrex/interrexlaw04.TallySwaps -/
noncomputable def F_law04TallySwaps (Γ : Funs) (x0 x1 : Value) : M Value :=
  bind (Γ n_law04Lives []) fun v11x1 =>
  bind (uop .not v11x1) fun v12x2 =>
  bind (gate v12x2 false 3 (bind (lenS x0) fun v15x3 =>
  bind (bop .int .gtr v15x3 (Value.int .i64 60)) fun v16x4 =>
  ret [x0, v15x3, v16x4])) fun vs_5 =>
  bind (pick v12x2 (Value.bool true) (vs_5.tail.tail.headD undef)) fun v17x6 =>
  cnd v17x6
  (bind (Γ n_law04Lives []) fun v18x7 =>
  ret v18x7)
  (bind (Γ n_tallyNew []) fun v19x8 =>
  bind (bop .int .rem x1 (Value.int .u8 16)) fun v21x9 =>
  bind (cvi .i64 v21x9) fun v22x10 =>
  bind (lenS x0) fun v24x11 =>
  jn (loopM (fun vs_30 => F_law04TallySwaps.l1 Γ ((vs_30.headD undef)) ((vs_30.tail.headD undef)) ((vs_30.tail.tail.headD undef)) ((vs_30.tail.tail.tail.headD undef)) ((vs_30.tail.tail.tail.tail.headD undef)) ((vs_30.tail.tail.tail.tail.tail.headD undef))) [v19x8, v22x10, (Value.int .i64 0), x0, v24x11, (Value.int .i64 0)]) (fun _ => fail) (fun j_31 vs_31 => bif Nat.beq j_31 0 then (bind (Γ n_tallyTallyGet [(vs_31.headD undef), (vs_31.tail.headD undef)]) fun v63x32 =>
  bind (bop .int .eql v63x32 (vs_31.tail.tail.headD undef)) fun v65x33 =>
  bind (gate v65x33 true 4 (bind (Γ n_tallyTallySum [(vs_31.headD undef)]) fun v68x34 =>
  bind (bop .int .eql v68x34 (vs_31.tail.tail.headD undef)) fun v70x35 =>
  ret [(vs_31.headD undef), v68x34, (vs_31.tail.tail.headD undef), v70x35])) fun vs_36 =>
  bind (pick v65x33 (vs_36.tail.tail.tail.headD undef) (Value.bool false)) fun v71x37 =>
  ret v71x37) else fail) (fun w_38 => ret w_38))

set_option maxRecDepth 100000 in
theorem rf_law04TallySwaps (Γ : Funs) (x0 x1 : Value) : runF Try.prog Γ Try.f4 lv_law04TallySwaps [x0, x1] = F_law04TallySwaps Γ x0 x1 := by kernel_rfl

theorem run_law04TallySwaps {prim : FuncId → Option (List Value → M Value)} (hp : prim n_law04TallySwaps = none) (n : Nat) (x0 x1 : Value) : run Try.prog prim lvs (n + 1) n_law04TallySwaps [x0, x1] = F_law04TallySwaps (run Try.prog prim lvs n) x0 x1 :=
  (run_fn hp (by kernel_rfl) Try.func4 (by kernel_rfl)).trans (rf_law04TallySwaps _ x0 x1)

/-- interrex/interrexlaw04.lives -/
noncomputable def F_law04Lives (Γ : Funs) : M Value :=
  bind (Γ n_tallyNew []) fun v2x1 =>
  bind (bop .ptr .neq v2x1 (Value.pointer none)) fun v4x2 =>
  bind (gate v4x2 true 3 (bind (Γ n_tallyTallyAdd [v2x1, (Value.int .i64 2), (Value.int .i64 5)]) fun v7x3 =>
  bind (bop .int .eql v7x3 (Value.int .i64 5)) fun v8x4 =>
  ret [v2x1, v7x3, v8x4])) fun vs_5 =>
  bind (pick v4x2 (vs_5.tail.tail.headD undef) (Value.bool false)) fun v9x6 =>
  bind (gate v9x6 true 3 (bind (Γ n_tallyTallyRaise [v2x1, (Value.int .i64 2), (Value.int .i64 4)]) fun v12x7 =>
  bind (uop .not v12x7) fun v13x8 =>
  ret [v2x1, v12x7, v13x8])) fun vs_9 =>
  bind (pick v9x6 (vs_9.tail.tail.headD undef) (Value.bool false)) fun v14x10 =>
  bind (gate v14x10 true 2 (bind (Γ n_tallyTallyRaise [v2x1, (Value.int .i64 2), (Value.int .i64 9)]) fun v17x11 =>
  ret [v2x1, v17x11])) fun vs_12 =>
  bind (pick v14x10 (vs_12.tail.headD undef) (Value.bool false)) fun v18x13 =>
  bind (gate v18x13 true 3 (bind (Γ n_tallyTallyGet [v2x1, (Value.int .i64 2)]) fun v21x14 =>
  bind (bop .int .eql v21x14 (Value.int .i64 9)) fun v22x15 =>
  ret [v2x1, v21x14, v22x15])) fun vs_16 =>
  bind (pick v18x13 (vs_16.tail.tail.headD undef) (Value.bool false)) fun v23x17 =>
  ret v23x17

set_option maxRecDepth 100000 in
theorem rf_law04Lives (Γ : Funs) : runF Try.prog Γ Try.f6 lv_law04Lives [] = F_law04Lives Γ  := by kernel_rfl

theorem run_law04Lives {prim : FuncId → Option (List Value → M Value)} (hp : prim n_law04Lives = none) (n : Nat) : run Try.prog prim lvs (n + 1) n_law04Lives [] = F_law04Lives (run Try.prog prim lvs n)  :=
  (run_fn hp (by kernel_rfl) Try.func6 (by kernel_rfl)).trans (rf_law04Lives _ )

/-- interrex/tally.New -/
noncomputable def F_tallyNew (Γ : Funs) : M Value :=
  bind (bld (.agg #[.int .i64 0, .int .i64 0, .int .i64 0, .int .i64 0, .int .i64 0, .int .i64 0, .int .i64 0, .int .i64 0, .int .i64 0, .int .i64 0, .int .i64 0, .int .i64 0, .int .i64 0, .int .i64 0, .int .i64 0, .int .i64 0]) []) fun v1x1 =>
  bind (alc 1 v1x1) fun v2x2 =>
  ret v2x2

set_option maxRecDepth 100000 in
theorem rf_tallyNew (Γ : Funs) : runF Try.prog Γ Try.f7 lv_tallyNew [] = F_tallyNew Γ  := by kernel_rfl

theorem run_tallyNew {prim : FuncId → Option (List Value → M Value)} (hp : prim n_tallyNew = none) (n : Nat) : run Try.prog prim lvs (n + 1) n_tallyNew [] = F_tallyNew (run Try.prog prim lvs n)  :=
  (run_fn hp (by kernel_rfl) Try.func7 (by kernel_rfl)).trans (rf_tallyNew _ )

/-- (*interrex/tally.Tally).Raise: a round. -/
noncomputable def F_tallyTallyRaise.l1 (Γ : Funs) (s2 s7 : Value) : M Out :=
  bind (bop .ptr .neq s7 (Value.pointer none)) fun v13x2 =>
  cnd v13x2
  (bind (Γ n_syncAtomicInt64Load [s7]) fun v15x3 =>
  bind (bop .int .geq v15x3 s2) fun v18x4 =>
  cnd v18x4
  (ret (.ret (Value.bool false)))
  (bind (Γ n_syncAtomicInt64CompareAndSwap [s7, v15x3, s2]) fun v22x5 =>
  cnd v22x5
  (ret (.ret (Value.bool true)))
  (ret (.nrm [s2, s7]))))
  (ret (.ext 0 []))

/-- (*interrex/tally.Tally).Raise -/
noncomputable def F_tallyTallyRaise (Γ : Funs) (x0 x1 x2 : Value) : M Value :=
  bind (Γ n_tallyTallyAt [x0, x1]) fun v11x1 =>
  jn (loopM (fun vs_6 => F_tallyTallyRaise.l1 Γ ((vs_6.headD undef)) ((vs_6.tail.headD undef))) [x2, v11x1]) (fun _ => fail) (fun j_7 vs_7 => bif Nat.beq j_7 0 then (ret (Value.bool false)) else fail) (fun w_8 => ret w_8)

set_option maxRecDepth 100000 in
theorem rf_tallyTallyRaise (Γ : Funs) (x0 x1 x2 : Value) : runF Try.prog Γ Try.f8 lv_tallyTallyRaise [x0, x1, x2] = F_tallyTallyRaise Γ x0 x1 x2 := by kernel_rfl

theorem run_tallyTallyRaise {prim : FuncId → Option (List Value → M Value)} (hp : prim n_tallyTallyRaise = none) (n : Nat) (x0 x1 x2 : Value) : run Try.prog prim lvs (n + 1) n_tallyTallyRaise [x0, x1, x2] = F_tallyTallyRaise (run Try.prog prim lvs n) x0 x1 x2 :=
  (run_fn hp (by kernel_rfl) Try.func8 (by kernel_rfl)).trans (rf_tallyTallyRaise _ x0 x1 x2)

/-- (*interrex/tally.Tally).Get -/
noncomputable def F_tallyTallyGet (Γ : Funs) (x0 x1 : Value) : M Value :=
  bind (Γ n_tallyTallyAt [x0, x1]) fun v8x1 =>
  bind (bop .ptr .neq v8x1 (Value.pointer none)) fun v10x2 =>
  cnd v10x2
  (bind (Γ n_syncAtomicInt64Load [v8x1]) fun v12x3 =>
  ret v12x3)
  (ret (Value.int .i64 0))

set_option maxRecDepth 100000 in
theorem rf_tallyTallyGet (Γ : Funs) (x0 x1 : Value) : runF Try.prog Γ Try.f9 lv_tallyTallyGet [x0, x1] = F_tallyTallyGet Γ x0 x1 := by kernel_rfl

theorem run_tallyTallyGet {prim : FuncId → Option (List Value → M Value)} (hp : prim n_tallyTallyGet = none) (n : Nat) (x0 x1 : Value) : run Try.prog prim lvs (n + 1) n_tallyTallyGet [x0, x1] = F_tallyTallyGet (run Try.prog prim lvs n) x0 x1 :=
  (run_fn hp (by kernel_rfl) Try.func9 (by kernel_rfl)).trans (rf_tallyTallyGet _ x0 x1)

/-- (*interrex/tally.Tally).Swap -/
noncomputable def F_tallyTallySwap (Γ : Funs) (x0 x1 x2 x3 : Value) : M Value :=
  bind (Γ n_tallyTallyAt [x0, x1]) fun v12x1 =>
  bind (bop .ptr .neq v12x1 (Value.pointer none)) fun v14x2 =>
  bind (gate v14x2 true 4 (bind (Γ n_syncAtomicInt64CompareAndSwap [v12x1, x2, x3]) fun v19x3 =>
  ret [v12x1, x2, x3, v19x3])) fun vs_4 =>
  bind (pick v14x2 (vs_4.tail.tail.tail.headD undef) (Value.bool false)) fun v20x5 =>
  ret v20x5

set_option maxRecDepth 100000 in
theorem rf_tallyTallySwap (Γ : Funs) (x0 x1 x2 x3 : Value) : runF Try.prog Γ Try.f10 lv_tallyTallySwap [x0, x1, x2, x3] = F_tallyTallySwap Γ x0 x1 x2 x3 := by kernel_rfl

theorem run_tallyTallySwap {prim : FuncId → Option (List Value → M Value)} (hp : prim n_tallyTallySwap = none) (n : Nat) (x0 x1 x2 x3 : Value) : run Try.prog prim lvs (n + 1) n_tallyTallySwap [x0, x1, x2, x3] = F_tallyTallySwap (run Try.prog prim lvs n) x0 x1 x2 x3 :=
  (run_fn hp (by kernel_rfl) Try.func10 (by kernel_rfl)).trans (rf_tallyTallySwap _ x0 x1 x2 x3)

/-- (*interrex/tally.Tally).Sum: a round. -/
noncomputable def F_tallyTallySum.l1 (Γ : Funs) (s3 s7 s8 : Value) : M Out :=
  bind (bop .int .lss s8 (Value.int .i64 16)) fun v9x2 =>
  cnd v9x2
  (bind (ixv false 16 1 s7 s8) fun v10x3 =>
  bind (bop .int .add s3 v10x3) fun v13x4 =>
  bind (bop .int .add s8 (Value.int .i64 1)) fun v14x5 =>
  ret (.nrm [v13x4, s7, v14x5]))
  (ret (.ext 0 [s3]))

/-- (*interrex/tally.Tally).Sum -/
noncomputable def F_tallyTallySum (Γ : Funs) (x0 : Value) : M Value :=
  bind (Γ n_tallyTallyAll [x0]) fun v7x1 =>
  jn (loopM (fun vs_6 => F_tallyTallySum.l1 Γ ((vs_6.headD undef)) ((vs_6.tail.headD undef)) ((vs_6.tail.tail.headD undef))) [(Value.int .i64 0), v7x1, (Value.int .i64 0)]) (fun _ => fail) (fun j_7 vs_7 => bif Nat.beq j_7 0 then (ret (vs_7.headD undef)) else fail) (fun w_8 => ret w_8)

set_option maxRecDepth 100000 in
theorem rf_tallyTallySum (Γ : Funs) (x0 : Value) : runF Try.prog Γ Try.f11 lv_tallyTallySum [x0] = F_tallyTallySum Γ x0 := by kernel_rfl

theorem run_tallyTallySum {prim : FuncId → Option (List Value → M Value)} (hp : prim n_tallyTallySum = none) (n : Nat) (x0 : Value) : run Try.prog prim lvs (n + 1) n_tallyTallySum [x0] = F_tallyTallySum (run Try.prog prim lvs n) x0 :=
  (run_fn hp (by kernel_rfl) Try.func11 (by kernel_rfl)).trans (rf_tallyTallySum _ x0)

/-- interrex/interrexref04.Add -/
noncomputable def F_ref04Add (Γ : Funs) (x0 x1 x2 : Value) : M Value :=
  bind (alc 1 x0) fun v3x1 =>
  bind (alc 1 (.agg #[.int .i64 0, .int .i64 0, .int .i64 0, .int .i64 0, .int .i64 0, .int .i64 0, .int .i64 0, .int .i64 0, .int .i64 0, .int .i64 0, .int .i64 0, .int .i64 0, .int .i64 0, .int .i64 0, .int .i64 0, .int .i64 0])) fun v6x2 =>
  bind (bop .int .lss x1 (Value.int .i64 0)) fun v9x3 =>
  bind (gate v9x3 false 2 (bind (bop .int .gtr x1 (Value.int .i64 15)) fun v12x4 =>
  ret [x1, v12x4])) fun vs_5 =>
  bind (pick v9x3 (Value.bool true) (vs_5.tail.headD undef)) fun v13x6 =>
  cnd v13x6
  (bind (ldA 16 v3x1) fun v14x7 =>
  bind (stA 16 v6x2 v14x7) fun _ =>
  bind (ldA 16 v6x2) fun vrx8 =>
  ret (Value.tuple #[vrx8, (Value.int .i64 0)]))
  (bind (ixaA 16 1 v3x1 x1) fun v17x9 =>
  bind (ld1 v17x9) fun v18x10 =>
  bind (bop .int .add v18x10 x2) fun v20x11 =>
  bind (ixaA 16 1 v3x1 x1) fun v21x12 =>
  bind (st1 v21x12 v20x11) fun _ =>
  bind (ldA 16 v3x1) fun v22x13 =>
  bind (ixaA 16 1 v3x1 x1) fun v24x14 =>
  bind (ld1 v24x14) fun v25x15 =>
  bind (stA 16 v6x2 v22x13) fun _ =>
  bind (ld1 v24x14) fun u_16 => same u_16 v25x15 <|
  bind (ldA 16 v6x2) fun vrx17 =>
  ret (Value.tuple #[vrx17, v25x15]))

set_option maxRecDepth 100000 in
theorem rf_ref04Add (Γ : Funs) (x0 x1 x2 : Value) : runF Try.prog Γ Try.f12 lv_ref04Add [x0, x1, x2] = F_ref04Add Γ x0 x1 x2 := by kernel_rfl

theorem run_ref04Add {prim : FuncId → Option (List Value → M Value)} (hp : prim n_ref04Add = none) (n : Nat) (x0 x1 x2 : Value) : run Try.prog prim lvs (n + 1) n_ref04Add [x0, x1, x2] = F_ref04Add (run Try.prog prim lvs n) x0 x1 x2 :=
  (run_fn hp (by kernel_rfl) Try.func12 (by kernel_rfl)).trans (rf_ref04Add _ x0 x1 x2)

/-- (*interrex/tally.Tally).Add -/
noncomputable def F_tallyTallyAdd (Γ : Funs) (x0 x1 x2 : Value) : M Value :=
  bind (Γ n_tallyTallyAt [x0, x1]) fun v10x1 =>
  bind (bop .ptr .neq v10x1 (Value.pointer none)) fun v12x2 =>
  cnd v12x2
  (bind (Γ n_syncAtomicInt64Add [v10x1, x2]) fun v15x3 =>
  ret v15x3)
  (ret (Value.int .i64 0))

set_option maxRecDepth 100000 in
theorem rf_tallyTallyAdd (Γ : Funs) (x0 x1 x2 : Value) : runF Try.prog Γ Try.f13 lv_tallyTallyAdd [x0, x1, x2] = F_tallyTallyAdd Γ x0 x1 x2 := by kernel_rfl

theorem run_tallyTallyAdd {prim : FuncId → Option (List Value → M Value)} (hp : prim n_tallyTallyAdd = none) (n : Nat) (x0 x1 x2 : Value) : run Try.prog prim lvs (n + 1) n_tallyTallyAdd [x0, x1, x2] = F_tallyTallyAdd (run Try.prog prim lvs n) x0 x1 x2 :=
  (run_fn hp (by kernel_rfl) Try.func13 (by kernel_rfl)).trans (rf_tallyTallyAdd _ x0 x1 x2)

/-- interrex/interrexref04.Set -/
noncomputable def F_ref04Set (Γ : Funs) (x0 x1 x2 x3 : Value) : M Value :=
  bind (alc 1 x0) fun v4x1 =>
  bind (alc 1 (.agg #[.int .i64 0, .int .i64 0, .int .i64 0, .int .i64 0, .int .i64 0, .int .i64 0, .int .i64 0, .int .i64 0, .int .i64 0, .int .i64 0, .int .i64 0, .int .i64 0, .int .i64 0, .int .i64 0, .int .i64 0, .int .i64 0])) fun v8x2 =>
  bind (bop .int .lss x1 (Value.int .i64 0)) fun v11x3 =>
  bind (gate v11x3 false 2 (bind (bop .int .gtr x1 (Value.int .i64 15)) fun v14x4 =>
  ret [x1, v14x4])) fun vs_5 =>
  bind (pick v11x3 (Value.bool true) (vs_5.tail.headD undef)) fun v15x6 =>
  bind (gate v15x6 false 2 (bind (uop .not x3) fun v18x7 =>
  ret [x3, v18x7])) fun vs_8 =>
  bind (pick v15x6 (Value.bool true) (vs_8.tail.headD undef)) fun v19x9 =>
  cnd v19x9
  (bind (ldA 16 v4x1) fun v20x10 =>
  bind (stA 16 v8x2 v20x10) fun _ =>
  bind (ldA 16 v8x2) fun vrx11 =>
  ret (Value.tuple #[vrx11, (Value.bool false)]))
  (bind (ixaA 16 1 v4x1 x1) fun v23x12 =>
  bind (st1 v23x12 x2) fun _ =>
  bind (ldA 16 v4x1) fun v24x13 =>
  bind (stA 16 v8x2 v24x13) fun _ =>
  bind (ldA 16 v8x2) fun vrx14 =>
  ret (Value.tuple #[vrx14, (Value.bool true)]))

set_option maxRecDepth 100000 in
theorem rf_ref04Set (Γ : Funs) (x0 x1 x2 x3 : Value) : runF Try.prog Γ Try.f14 lv_ref04Set [x0, x1, x2, x3] = F_ref04Set Γ x0 x1 x2 x3 := by kernel_rfl

theorem run_ref04Set {prim : FuncId → Option (List Value → M Value)} (hp : prim n_ref04Set = none) (n : Nat) (x0 x1 x2 x3 : Value) : run Try.prog prim lvs (n + 1) n_ref04Set [x0, x1, x2, x3] = F_ref04Set (run Try.prog prim lvs n) x0 x1 x2 x3 :=
  (run_fn hp (by kernel_rfl) Try.func14 (by kernel_rfl)).trans (rf_ref04Set _ x0 x1 x2 x3)

/-- interrex/interrexref04.Get -/
noncomputable def F_ref04Get (Γ : Funs) (x0 x1 : Value) : M Value :=
  bind (alc 1 x0) fun v2x1 =>
  bind (bop .int .lss x1 (Value.int .i64 0)) fun v6x2 =>
  bind (gate v6x2 false 2 (bind (bop .int .gtr x1 (Value.int .i64 15)) fun v9x3 =>
  ret [x1, v9x3])) fun vs_4 =>
  bind (pick v6x2 (Value.bool true) (vs_4.tail.headD undef)) fun v10x5 =>
  cnd v10x5
  (ret (Value.int .i64 0))
  (bind (ixaA 16 1 v2x1 x1) fun v12x6 =>
  bind (ld1 v12x6) fun v13x7 =>
  ret v13x7)

set_option maxRecDepth 100000 in
theorem rf_ref04Get (Γ : Funs) (x0 x1 : Value) : runF Try.prog Γ Try.f15 lv_ref04Get [x0, x1] = F_ref04Get Γ x0 x1 := by kernel_rfl

theorem run_ref04Get {prim : FuncId → Option (List Value → M Value)} (hp : prim n_ref04Get = none) (n : Nat) (x0 x1 : Value) : run Try.prog prim lvs (n + 1) n_ref04Get [x0, x1] = F_ref04Get (run Try.prog prim lvs n) x0 x1 :=
  (run_fn hp (by kernel_rfl) Try.func15 (by kernel_rfl)).trans (rf_ref04Get _ x0 x1)

/-- (*interrex/tally.Tally).Copy: a round. -/
noncomputable def F_tallyTallyCopy.l1 (Γ : Funs) (s3 s8 s9 : Value) : M Out :=
  bind (bop .int .lss s9 (Value.int .i64 16)) fun v10x3 =>
  cnd v10x3
  (bind (ixv false 16 1 s8 s9) fun v12x4 =>
  bind (nilc s3) fun v15x5 =>
  bind (fa 0 v15x5) fun v16x6 =>
  bind (ixaA 16 1 v16x6 s9) fun v17x7 =>
  bind (Γ n_syncAtomicInt64Store [v17x7, v12x4]) fun v19x8 =>
  bind (bop .int .add s9 (Value.int .i64 1)) fun v20x9 =>
  ret (.nrm [s3, s8, v20x9]))
  (ret (.ext 0 [s3]))

/-- (*interrex/tally.Tally).Copy -/
noncomputable def F_tallyTallyCopy (Γ : Funs) (x0 : Value) : M Value :=
  bind (Γ n_tallyNew []) fun v6x1 =>
  bind (Γ n_tallyTallyAll [x0]) fun v8x2 =>
  jn (loopM (fun vs_10 => F_tallyTallyCopy.l1 Γ ((vs_10.headD undef)) ((vs_10.tail.headD undef)) ((vs_10.tail.tail.headD undef))) [v6x1, v8x2, (Value.int .i64 0)]) (fun _ => fail) (fun j_11 vs_11 => bif Nat.beq j_11 0 then (ret (vs_11.headD undef)) else fail) (fun w_12 => ret w_12)

set_option maxRecDepth 100000 in
theorem rf_tallyTallyCopy (Γ : Funs) (x0 : Value) : runF Try.prog Γ Try.f16 lv_tallyTallyCopy [x0] = F_tallyTallyCopy Γ x0 := by kernel_rfl

theorem run_tallyTallyCopy {prim : FuncId → Option (List Value → M Value)} (hp : prim n_tallyTallyCopy = none) (n : Nat) (x0 : Value) : run Try.prog prim lvs (n + 1) n_tallyTallyCopy [x0] = F_tallyTallyCopy (run Try.prog prim lvs n) x0 :=
  (run_fn hp (by kernel_rfl) Try.func16 (by kernel_rfl)).trans (rf_tallyTallyCopy _ x0)

/-- (*interrex/tally.Tally).All: a round. -/
noncomputable def F_tallyTallyAll.l1 (Γ : Funs) (s0 s2 s3 s5 : Value) : M Out :=
  bind (bop .int .lss s5 (Value.int .i64 16)) fun v6x3 =>
  cnd v6x3
  (bind (nilc s0) fun v11x4 =>
  bind (fa 0 v11x4) fun v12x5 =>
  bind (ixaA 16 1 v12x5 s5) fun v13x6 =>
  bind (Γ n_syncAtomicInt64Load [v13x6]) fun v14x7 =>
  bind (ixaA 16 1 s3 s5) fun v15x8 =>
  bind (st1 v15x8 v14x7) fun _ =>
  bind (bop .int .add s5 (Value.int .i64 1)) fun v16x9 =>
  ret (.nrm [s0, s2, s3, v16x9]))
  (ret (.ext 0 [s2, s3]))

/-- (*interrex/tally.Tally).All -/
noncomputable def F_tallyTallyAll (Γ : Funs) (x0 : Value) : M Value :=
  bind (alc 1 (.agg #[.int .i64 0, .int .i64 0, .int .i64 0, .int .i64 0, .int .i64 0, .int .i64 0, .int .i64 0, .int .i64 0, .int .i64 0, .int .i64 0, .int .i64 0, .int .i64 0, .int .i64 0, .int .i64 0, .int .i64 0, .int .i64 0])) fun v2x1 =>
  bind (alc 1 (.agg #[.int .i64 0, .int .i64 0, .int .i64 0, .int .i64 0, .int .i64 0, .int .i64 0, .int .i64 0, .int .i64 0, .int .i64 0, .int .i64 0, .int .i64 0, .int .i64 0, .int .i64 0, .int .i64 0, .int .i64 0, .int .i64 0])) fun v3x2 =>
  jn (loopM (fun vs_10 => F_tallyTallyAll.l1 Γ ((vs_10.headD undef)) ((vs_10.tail.headD undef)) ((vs_10.tail.tail.headD undef)) ((vs_10.tail.tail.tail.headD undef))) [x0, v2x1, v3x2, (Value.int .i64 0)]) (fun _ => fail) (fun j_11 vs_11 => bif Nat.beq j_11 0 then (bind (ldA 16 (vs_11.tail.headD undef)) fun v17x12 =>
  bind (stA 16 (vs_11.headD undef) v17x12) fun _ =>
  bind (ldA 16 (vs_11.headD undef)) fun vrx13 =>
  ret vrx13) else fail) (fun w_14 => ret w_14)

set_option maxRecDepth 100000 in
theorem rf_tallyTallyAll (Γ : Funs) (x0 : Value) : runF Try.prog Γ Try.f17 lv_tallyTallyAll [x0] = F_tallyTallyAll Γ x0 := by kernel_rfl

theorem run_tallyTallyAll {prim : FuncId → Option (List Value → M Value)} (hp : prim n_tallyTallyAll = none) (n : Nat) (x0 : Value) : run Try.prog prim lvs (n + 1) n_tallyTallyAll [x0] = F_tallyTallyAll (run Try.prog prim lvs n) x0 :=
  (run_fn hp (by kernel_rfl) Try.func17 (by kernel_rfl)).trans (rf_tallyTallyAll _ x0)

/-- (*interrex/tally.Tally).at -/
noncomputable def F_tallyTallyAt (Γ : Funs) (x0 x1 : Value) : M Value :=
  bind (bop .int .lss x1 (Value.int .i64 0)) fun v6x1 =>
  bind (gate v6x1 false 2 (bind (bop .int .geq x1 (Value.int .i64 16)) fun v9x2 =>
  ret [x1, v9x2])) fun vs_3 =>
  bind (pick v6x1 (Value.bool true) (vs_3.tail.headD undef)) fun v10x4 =>
  cnd v10x4
  (ret (Value.pointer none))
  (bind (nilc x0) fun v13x5 =>
  bind (fa 0 v13x5) fun v14x6 =>
  bind (ixaA 16 1 v14x6 x1) fun v15x7 =>
  ret v15x7)

set_option maxRecDepth 100000 in
theorem rf_tallyTallyAt (Γ : Funs) (x0 x1 : Value) : runF Try.prog Γ Try.f18 lv_tallyTallyAt [x0, x1] = F_tallyTallyAt Γ x0 x1 := by kernel_rfl

theorem run_tallyTallyAt {prim : FuncId → Option (List Value → M Value)} (hp : prim n_tallyTallyAt = none) (n : Nat) (x0 x1 : Value) : run Try.prog prim lvs (n + 1) n_tallyTallyAt [x0, x1] = F_tallyTallyAt (run Try.prog prim lvs n) x0 x1 :=
  (run_fn hp (by kernel_rfl) Try.func18 (by kernel_rfl)).trans (rf_tallyTallyAt _ x0 x1)

/-- (*sync/atomic.Int64).Load -/
noncomputable def F_syncAtomicInt64Load (Γ : Funs) (x0 : Value) : M Value :=
  bind (nilc x0) fun v4x1 =>
  bind (fa 0 v4x1) fun v5x2 =>
  bind (Γ n_syncAtomicLoadInt64 [v5x2]) fun v6x3 =>
  ret v6x3

set_option maxRecDepth 100000 in
theorem rf_syncAtomicInt64Load (Γ : Funs) (x0 : Value) : runF Try.prog Γ Try.f19 lv_syncAtomicInt64Load [x0] = F_syncAtomicInt64Load Γ x0 := by kernel_rfl

theorem run_syncAtomicInt64Load {prim : FuncId → Option (List Value → M Value)} (hp : prim n_syncAtomicInt64Load = none) (n : Nat) (x0 : Value) : run Try.prog prim lvs (n + 1) n_syncAtomicInt64Load [x0] = F_syncAtomicInt64Load (run Try.prog prim lvs n) x0 :=
  (run_fn hp (by kernel_rfl) Try.func19 (by kernel_rfl)).trans (rf_syncAtomicInt64Load _ x0)

/-- (*sync/atomic.Int64).CompareAndSwap -/
noncomputable def F_syncAtomicInt64CompareAndSwap (Γ : Funs) (x0 x1 x2 : Value) : M Value :=
  bind (nilc x0) fun v8x1 =>
  bind (fa 0 v8x1) fun v9x2 =>
  bind (Γ n_syncAtomicCompareAndSwapInt64 [v9x2, x1, x2]) fun v12x3 =>
  ret v12x3

set_option maxRecDepth 100000 in
theorem rf_syncAtomicInt64CompareAndSwap (Γ : Funs) (x0 x1 x2 : Value) : runF Try.prog Γ Try.f20 lv_syncAtomicInt64CompareAndSwap [x0, x1, x2] = F_syncAtomicInt64CompareAndSwap Γ x0 x1 x2 := by kernel_rfl

theorem run_syncAtomicInt64CompareAndSwap {prim : FuncId → Option (List Value → M Value)} (hp : prim n_syncAtomicInt64CompareAndSwap = none) (n : Nat) (x0 x1 x2 : Value) : run Try.prog prim lvs (n + 1) n_syncAtomicInt64CompareAndSwap [x0, x1, x2] = F_syncAtomicInt64CompareAndSwap (run Try.prog prim lvs n) x0 x1 x2 :=
  (run_fn hp (by kernel_rfl) Try.func20 (by kernel_rfl)).trans (rf_syncAtomicInt64CompareAndSwap _ x0 x1 x2)

/-- (*sync/atomic.Int64).Add -/
noncomputable def F_syncAtomicInt64Add (Γ : Funs) (x0 x1 : Value) : M Value :=
  bind (nilc x0) fun v6x1 =>
  bind (fa 0 v6x1) fun v7x2 =>
  bind (Γ n_syncAtomicAddInt64 [v7x2, x1]) fun v9x3 =>
  ret v9x3

set_option maxRecDepth 100000 in
theorem rf_syncAtomicInt64Add (Γ : Funs) (x0 x1 : Value) : runF Try.prog Γ Try.f21 lv_syncAtomicInt64Add [x0, x1] = F_syncAtomicInt64Add Γ x0 x1 := by kernel_rfl

theorem run_syncAtomicInt64Add {prim : FuncId → Option (List Value → M Value)} (hp : prim n_syncAtomicInt64Add = none) (n : Nat) (x0 x1 : Value) : run Try.prog prim lvs (n + 1) n_syncAtomicInt64Add [x0, x1] = F_syncAtomicInt64Add (run Try.prog prim lvs n) x0 x1 :=
  (run_fn hp (by kernel_rfl) Try.func21 (by kernel_rfl)).trans (rf_syncAtomicInt64Add _ x0 x1)

/-- (*sync/atomic.Int64).Store -/
noncomputable def F_syncAtomicInt64Store (Γ : Funs) (x0 x1 : Value) : M Value :=
  bind (nilc x0) fun v5x1 =>
  bind (fa 0 v5x1) fun v6x2 =>
  bind (Γ n_syncAtomicStoreInt64 [v6x2, x1]) fun v8x3 =>
  ret (Value.tuple #[])

set_option maxRecDepth 100000 in
theorem rf_syncAtomicInt64Store (Γ : Funs) (x0 x1 : Value) : runF Try.prog Γ Try.f22 lv_syncAtomicInt64Store [x0, x1] = F_syncAtomicInt64Store Γ x0 x1 := by kernel_rfl

theorem run_syncAtomicInt64Store {prim : FuncId → Option (List Value → M Value)} (hp : prim n_syncAtomicInt64Store = none) (n : Nat) (x0 x1 : Value) : run Try.prog prim lvs (n + 1) n_syncAtomicInt64Store [x0, x1] = F_syncAtomicInt64Store (run Try.prog prim lvs n) x0 x1 :=
  (run_fn hp (by kernel_rfl) Try.func22 (by kernel_rfl)).trans (rf_syncAtomicInt64Store _ x0 x1)

end Go.Proofs.Ytkjoaediojdodab.A
