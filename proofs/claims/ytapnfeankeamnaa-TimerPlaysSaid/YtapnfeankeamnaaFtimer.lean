/- Functions, as the abstract machine reads them: printed by wip/tools/gen.py. -/
import Derived.Test.YtapnfeankeamnaaNm
import Derived.Test.YtapnfeankeamnaaProg
import Derived.KernelRfl
namespace Go.Proofs.Ytapnfeankeamnaa.A
set_option linter.unusedVariables false
set_option linter.unusedSimpArgs false
open Go.Proofs Go.Proofs.Ytapnfeankeamnaa

/-- interrex/timer.New -/
noncomputable def F_timerNew (Γ : Funs) (x0 : Value) : M Value :=
  bind (mxi true (Value.int .i64 1) x0) fun v4x1 =>
  bind (bld (.agg #[.int .i64 0, .int .i64 0, .int .i64 0]) [(0, 1, v4x1)]) fun v5x2 =>
  bind (alc 1 v5x2) fun v6x3 =>
  ret v6x3

set_option maxRecDepth 100000 in
theorem rf_timerNew (Γ : Funs) (x0 : Value) : runF Try.prog Γ Try.f21 lv_timerNew [x0] = F_timerNew Γ x0 := by kernel_rfl

theorem run_timerNew {prim : FuncId → Option (List Value → M Value)} (hp : prim n_timerNew = none) (n : Nat) (x0 : Value) : run Try.prog prim lvs (n + 1) n_timerNew [x0] = F_timerNew (run Try.prog prim lvs n) x0 :=
  (run_fn hp (by kernel_rfl) Try.func21 (by kernel_rfl)).trans (rf_timerNew _ x0)

/-- (*interrex/timer.Timer).Tick -/
noncomputable def F_timerTimerTick (Γ : Funs) (x0 : Value) : M Value :=
  bind (nilc x0) fun v4x1 =>
  bind (fa 1 v4x1) fun v5x2 =>
  bind (ld1 v5x2) fun v6x3 =>
  bind (bop .int .add v6x3 (Value.int .i64 1)) fun v7x4 =>
  bind (nilc x0) fun v8x5 =>
  bind (fa 1 v8x5) fun v9x6 =>
  bind (st1 v9x6 v7x4) fun _ =>
  bind (nilc x0) fun v11x7 =>
  bind (fa 1 v11x7) fun v12x8 =>
  bind (ld1 v12x8) fun v13x9 =>
  bind (nilc x0) fun v15x10 =>
  bind (fa 0 v15x10) fun v16x11 =>
  bind (ld1 v16x11) fun v17x12 =>
  bind (bop .int .lss v13x9 v17x12) fun v18x13 =>
  cnd v18x13
  (ret (Value.bool false))
  (bind (nilc x0) fun v20x14 =>
  bind (fa 1 v20x14) fun v21x15 =>
  bind (st1 v21x15 (Value.int .i64 0)) fun _ =>
  bind (nilc x0) fun v23x16 =>
  bind (fa 2 v23x16) fun v24x17 =>
  bind (ld1 v24x17) fun v25x18 =>
  bind (bop .int .add v25x18 (Value.int .i64 1)) fun v26x19 =>
  bind (nilc x0) fun v27x20 =>
  bind (fa 2 v27x20) fun v28x21 =>
  bind (st1 v28x21 v26x19) fun _ =>
  ret (Value.bool true))

set_option maxRecDepth 100000 in
theorem rf_timerTimerTick (Γ : Funs) (x0 : Value) : runF Try.prog Γ Try.f22 lv_timerTimerTick [x0] = F_timerTimerTick Γ x0 := by kernel_rfl

theorem run_timerTimerTick {prim : FuncId → Option (List Value → M Value)} (hp : prim n_timerTimerTick = none) (n : Nat) (x0 : Value) : run Try.prog prim lvs (n + 1) n_timerTimerTick [x0] = F_timerTimerTick (run Try.prog prim lvs n) x0 :=
  (run_fn hp (by kernel_rfl) Try.func22 (by kernel_rfl)).trans (rf_timerTimerTick _ x0)

/-- (*interrex/timer.Timer).Fired -/
noncomputable def F_timerTimerFired (Γ : Funs) (x0 : Value) : M Value :=
  bind (nilc x0) fun v4x1 =>
  bind (fa 2 v4x1) fun v5x2 =>
  bind (ld1 v5x2) fun v6x3 =>
  ret v6x3

set_option maxRecDepth 100000 in
theorem rf_timerTimerFired (Γ : Funs) (x0 : Value) : runF Try.prog Γ Try.f23 lv_timerTimerFired [x0] = F_timerTimerFired Γ x0 := by kernel_rfl

theorem run_timerTimerFired {prim : FuncId → Option (List Value → M Value)} (hp : prim n_timerTimerFired = none) (n : Nat) (x0 : Value) : run Try.prog prim lvs (n + 1) n_timerTimerFired [x0] = F_timerTimerFired (run Try.prog prim lvs n) x0 :=
  (run_fn hp (by kernel_rfl) Try.func23 (by kernel_rfl)).trans (rf_timerTimerFired _ x0)

/-- (*interrex/timer.Timer).Left -/
noncomputable def F_timerTimerLeft (Γ : Funs) (x0 : Value) : M Value :=
  bind (nilc x0) fun v4x1 =>
  bind (fa 0 v4x1) fun v5x2 =>
  bind (ld1 v5x2) fun v6x3 =>
  bind (nilc x0) fun v8x4 =>
  bind (fa 1 v8x4) fun v9x5 =>
  bind (ld1 v9x5) fun v10x6 =>
  bind (bop .int .sub v6x3 v10x6) fun v11x7 =>
  ret v11x7

set_option maxRecDepth 100000 in
theorem rf_timerTimerLeft (Γ : Funs) (x0 : Value) : runF Try.prog Γ Try.f24 lv_timerTimerLeft [x0] = F_timerTimerLeft Γ x0 := by kernel_rfl

theorem run_timerTimerLeft {prim : FuncId → Option (List Value → M Value)} (hp : prim n_timerTimerLeft = none) (n : Nat) (x0 : Value) : run Try.prog prim lvs (n + 1) n_timerTimerLeft [x0] = F_timerTimerLeft (run Try.prog prim lvs n) x0 :=
  (run_fn hp (by kernel_rfl) Try.func24 (by kernel_rfl)).trans (rf_timerTimerLeft _ x0)

/-- (*interrex/timer.Timer).Reset -/
noncomputable def F_timerTimerReset (Γ : Funs) (x0 : Value) : M Value :=
  bind (nilc x0) fun v3x1 =>
  bind (fa 1 v3x1) fun v4x2 =>
  bind (st1 v4x2 (Value.int .i64 0)) fun _ =>
  ret (Value.tuple #[])

set_option maxRecDepth 100000 in
theorem rf_timerTimerReset (Γ : Funs) (x0 : Value) : runF Try.prog Γ Try.f25 lv_timerTimerReset [x0] = F_timerTimerReset Γ x0 := by kernel_rfl

theorem run_timerTimerReset {prim : FuncId → Option (List Value → M Value)} (hp : prim n_timerTimerReset = none) (n : Nat) (x0 : Value) : run Try.prog prim lvs (n + 1) n_timerTimerReset [x0] = F_timerTimerReset (run Try.prog prim lvs n) x0 :=
  (run_fn hp (by kernel_rfl) Try.func25 (by kernel_rfl)).trans (rf_timerTimerReset _ x0)

/-- (*interrex/timer.Timer).Limit -/
noncomputable def F_timerTimerLimit (Γ : Funs) (x0 x1 : Value) : M Value :=
  bind (mxi true (Value.int .i64 1) x1) fun v7x1 =>
  bind (nilc x0) fun v8x2 =>
  bind (fa 0 v8x2) fun v9x3 =>
  bind (st1 v9x3 v7x1) fun _ =>
  bind (nilc x0) fun v10x4 =>
  bind (fa 1 v10x4) fun v11x5 =>
  bind (st1 v11x5 (Value.int .i64 0)) fun _ =>
  ret (Value.tuple #[])

set_option maxRecDepth 100000 in
theorem rf_timerTimerLimit (Γ : Funs) (x0 x1 : Value) : runF Try.prog Γ Try.f26 lv_timerTimerLimit [x0, x1] = F_timerTimerLimit Γ x0 x1 := by kernel_rfl

theorem run_timerTimerLimit {prim : FuncId → Option (List Value → M Value)} (hp : prim n_timerTimerLimit = none) (n : Nat) (x0 x1 : Value) : run Try.prog prim lvs (n + 1) n_timerTimerLimit [x0, x1] = F_timerTimerLimit (run Try.prog prim lvs n) x0 x1 :=
  (run_fn hp (by kernel_rfl) Try.func26 (by kernel_rfl)).trans (rf_timerTimerLimit _ x0 x1)

/-- interrex/interrexref28.New -/
noncomputable def F_ref28New (Γ : Funs) (x0 : Value) : M Value :=
  bind (alc 1 (.agg #[.int .i64 0, .int .i64 0, .int .i64 0])) fun v2x1 =>
  bind (bop .int .lss x0 (Value.int .i64 1)) fun v4x2 =>
  jn (cnd v4x2
  (ret (.nrm [(Value.int .i64 1), v2x1]))
  (ret (.nrm [x0, v2x1]))) (fun vs_3 =>
  bind (bld (.agg #[.int .i64 0, .int .i64 0, .int .i64 0]) [(0, 1, (vs_3.headD undef)), (1, 1, (vs_3.headD undef))]) fun v7x4 =>
  bind (stA 3 (vs_3.tail.headD undef) v7x4) fun _ =>
  bind (ldA 3 (vs_3.tail.headD undef)) fun vrx5 =>
  ret vrx5) (fun _ _ => fail) (fun w_6 => ret w_6)

set_option maxRecDepth 100000 in
theorem rf_ref28New (Γ : Funs) (x0 : Value) : runF Try.prog Γ Try.f27 lv_ref28New [x0] = F_ref28New Γ x0 := by kernel_rfl

theorem run_ref28New {prim : FuncId → Option (List Value → M Value)} (hp : prim n_ref28New = none) (n : Nat) (x0 : Value) : run Try.prog prim lvs (n + 1) n_ref28New [x0] = F_ref28New (run Try.prog prim lvs n) x0 :=
  (run_fn hp (by kernel_rfl) Try.func27 (by kernel_rfl)).trans (rf_ref28New _ x0)

/-- interrex/interrexref28.Tick -/
noncomputable def F_ref28Tick (Γ : Funs) (x0 : Value) : M Value :=
  bind (alc 1 x0) fun v1x1 =>
  bind (alc 1 (.agg #[.int .i64 0, .int .i64 0, .int .i64 0])) fun v2x2 =>
  bind (fa 0 v1x1) fun v4x3 =>
  bind (ld1 v4x3) fun v5x4 =>
  bind (bop .int .sub v5x4 (Value.int .i64 1)) fun v6x5 =>
  bind (fa 0 v1x1) fun v7x6 =>
  bind (st1 v7x6 v6x5) fun _ =>
  bind (fa 0 v1x1) fun v8x7 =>
  bind (ld1 v8x7) fun v9x8 =>
  bind (bop .int .gtr v9x8 (Value.int .i64 0)) fun v10x9 =>
  cnd v10x9
  (bind (ldA 3 v1x1) fun v11x10 =>
  bind (stA 3 v2x2 v11x10) fun _ =>
  bind (ldA 3 v2x2) fun vrx11 =>
  ret (Value.tuple #[vrx11, (Value.bool false)]))
  (bind (fa 1 v1x1) fun v12x12 =>
  bind (ld1 v12x12) fun v13x13 =>
  bind (fa 0 v1x1) fun v14x14 =>
  bind (st1 v14x14 v13x13) fun _ =>
  bind (fa 2 v1x1) fun v15x15 =>
  bind (ld1 v15x15) fun v16x16 =>
  bind (bop .int .add v16x16 (Value.int .i64 1)) fun v17x17 =>
  bind (fa 2 v1x1) fun v18x18 =>
  bind (st1 v18x18 v17x17) fun _ =>
  bind (ldA 3 v1x1) fun v19x19 =>
  bind (stA 3 v2x2 v19x19) fun _ =>
  bind (ldA 3 v2x2) fun vrx20 =>
  ret (Value.tuple #[vrx20, (Value.bool true)]))

set_option maxRecDepth 100000 in
theorem rf_ref28Tick (Γ : Funs) (x0 : Value) : runF Try.prog Γ Try.f28 lv_ref28Tick [x0] = F_ref28Tick Γ x0 := by kernel_rfl

theorem run_ref28Tick {prim : FuncId → Option (List Value → M Value)} (hp : prim n_ref28Tick = none) (n : Nat) (x0 : Value) : run Try.prog prim lvs (n + 1) n_ref28Tick [x0] = F_ref28Tick (run Try.prog prim lvs n) x0 :=
  (run_fn hp (by kernel_rfl) Try.func28 (by kernel_rfl)).trans (rf_ref28Tick _ x0)

/-- interrex/interrexlaw28.lives -/
noncomputable def F_law28Lives (Γ : Funs) : M Value :=
  bind (Γ n_timerNew [(Value.int .i64 2)]) fun v2x1 =>
  bind (bop .ptr .neq v2x1 (Value.pointer none)) fun v4x2 =>
  bind (gate v4x2 true 3 (bind (Γ n_timerTimerTick [v2x1]) fun v7x3 =>
  bind (uop .not v7x3) fun v8x4 =>
  ret [v2x1, v7x3, v8x4])) fun vs_5 =>
  bind (pick v4x2 (vs_5.tail.tail.headD undef) (Value.bool false)) fun v9x6 =>
  bind (gate v9x6 true 2 (bind (Γ n_timerTimerTick [v2x1]) fun v12x7 =>
  ret [v2x1, v12x7])) fun vs_8 =>
  bind (pick v9x6 (vs_8.tail.headD undef) (Value.bool false)) fun v13x9 =>
  bind (gate v13x9 true 3 (bind (Γ n_timerTimerTick [v2x1]) fun v16x10 =>
  bind (uop .not v16x10) fun v17x11 =>
  ret [v2x1, v16x10, v17x11])) fun vs_12 =>
  bind (pick v13x9 (vs_12.tail.tail.headD undef) (Value.bool false)) fun v18x13 =>
  ret v18x13

set_option maxRecDepth 100000 in
theorem rf_law28Lives (Γ : Funs) : runF Try.prog Γ Try.f20 lv_law28Lives [] = F_law28Lives Γ  := by kernel_rfl

theorem run_law28Lives {prim : FuncId → Option (List Value → M Value)} (hp : prim n_law28Lives = none) (n : Nat) : run Try.prog prim lvs (n + 1) n_law28Lives [] = F_law28Lives (run Try.prog prim lvs n)  :=
  (run_fn hp (by kernel_rfl) Try.func20 (by kernel_rfl)).trans (rf_law28Lives _ )

/-- interrex/interrexlaw28.TimerEach: a round. -/
noncomputable def F_law28TimerEach.l1 (Γ : Funs) (s5 s6 s7 s24 s25 : Value) : M Out :=
  bind (bop .int .lss s25 s24) fun v26x13 =>
  cnd v26x13
  (bind (bop .int .add s25 (Value.int .i64 1)) fun v31x14 =>
  bind (bop .int .rem v31x14 s5) fun v33x15 =>
  bind (bop .int .eql v33x15 (Value.int .i64 0)) fun v34x16 =>
  bind (Γ n_timerTimerTick [s6]) fun v29x17 =>
  bind (bop .bool .neq v29x17 v34x16) fun v35x18 =>
  bind (gateV v35x18 false (ret s6)) fun v37x19 =>
  bind (gateV v35x18 false (ret s25)) fun v39x20 =>
  bind (gateV v35x18 false (bop .int .add v39x20 (Value.int .i64 1))) fun v40x21 =>
  bind (gateV v35x18 false (ret s5)) fun v41x22 =>
  bind (gateV v35x18 false (bop .int .quo v40x21 v41x22)) fun v42x23 =>
  bind (gateV v35x18 false (Γ n_timerTimerFired [v37x19])) fun v38x24 =>
  bind (gateV v35x18 false (bop .int .neq v38x24 v42x23)) fun v43x25 =>
  bind (pick v35x18 (Value.bool true) v43x25) fun v44x26 =>
  cnd v44x26
  (ret (.ret (Value.bool false)))
  (bind (bop .int .gtr s5 (Value.int .i64 1)) fun v46x27 =>
  jn (cnd v46x27
  (bind (Γ n_timerTimerLeft [s7]) fun v48x28 =>
  bind (bop .int .eql v48x28 (Value.int .i64 1)) fun v49x29 =>
  jn (cnd v49x29
  (bind (Γ n_timerTimerReset [s7]) fun v51x30 =>
  ret (.nrm [s5, s6, s7, s24, s25]))
  (ret (.nrm [s5, s6, s7, s24, s25]))) (fun vs_31 =>
  bind (Γ n_timerTimerTick [(vs_31.tail.tail.headD undef)]) fun v53x32 =>
  cnd v53x32
  (ret (.ret (Value.bool false)))
  (ret (.nrm [(vs_31.headD undef), (vs_31.tail.headD undef), (vs_31.tail.tail.headD undef), (vs_31.tail.tail.tail.headD undef), (vs_31.tail.tail.tail.tail.headD undef)]))) (fun _ _ => fail) (fun w_33 => ret (.ret w_33)))
  (ret (.nrm [s5, s6, s7, s24, s25]))) (fun vs_34 =>
  bind (bop .int .add (vs_34.tail.tail.tail.tail.headD undef) (Value.int .i64 1)) fun v54x35 =>
  ret (.nrm [(vs_34.headD undef), (vs_34.tail.headD undef), (vs_34.tail.tail.headD undef), (vs_34.tail.tail.tail.headD undef), v54x35])) (fun _ _ => fail) (fun w_36 => ret (.ret w_36))))
  (ret (.ext 0 []))

/-- interrex/interrexlaw28.TimerEach -/
noncomputable def F_law28TimerEach (Γ : Funs) (x0 x1 : Value) : M Value :=
  bind (Γ n_law28Lives []) fun v9x1 =>
  bind (uop .not v9x1) fun v10x2 =>
  cnd v10x2
  (ret (Value.bool false))
  (bind (bop .int .rem x0 (Value.int .u8 201)) fun v12x3 =>
  bind (cvi .i64 v12x3) fun v13x4 =>
  bind (mxi true (Value.int .i64 1) v13x4) fun v14x5 =>
  bind (bop .int .rem x0 (Value.int .u8 201)) fun v16x6 =>
  bind (cvi .i64 v16x6) fun v17x7 =>
  bind (Γ n_timerNew [v17x7]) fun v18x8 =>
  bind (bop .int .rem x0 (Value.int .u8 201)) fun v20x9 =>
  bind (cvi .i64 v20x9) fun v21x10 =>
  bind (Γ n_timerNew [v21x10]) fun v22x11 =>
  bind (cvi .i64 x1) fun v24x12 =>
  jn (loopM (fun vs_37 => F_law28TimerEach.l1 Γ ((vs_37.headD undef)) ((vs_37.tail.headD undef)) ((vs_37.tail.tail.headD undef)) ((vs_37.tail.tail.tail.headD undef)) ((vs_37.tail.tail.tail.tail.headD undef))) [v14x5, v18x8, v22x11, v24x12, (Value.int .i64 0)]) (fun _ => fail) (fun j_38 vs_38 => bif Nat.beq j_38 0 then (ret (Value.bool true)) else fail) (fun w_39 => ret w_39))

set_option maxRecDepth 100000 in
theorem rf_law28TimerEach (Γ : Funs) (x0 x1 : Value) : runF Try.prog Γ Try.f3 lv_law28TimerEach [x0, x1] = F_law28TimerEach Γ x0 x1 := by kernel_rfl

theorem run_law28TimerEach {prim : FuncId → Option (List Value → M Value)} (hp : prim n_law28TimerEach = none) (n : Nat) (x0 x1 : Value) : run Try.prog prim lvs (n + 1) n_law28TimerEach [x0, x1] = F_law28TimerEach (run Try.prog prim lvs n) x0 x1 :=
  (run_fn hp (by kernel_rfl) Try.func3 (by kernel_rfl)).trans (rf_law28TimerEach _ x0 x1)

/-- interrex/interrexlaw28.TimerLeft: a round. -/
noncomputable def F_law28TimerLeft.l1 (Γ : Funs) (s5 s21 s22 s23 : Value) : M Out :=
  bind (bop .int .lss s23 s22) fun v24x11 =>
  cnd v24x11
  (bind (ixa 2 s21 s23) fun v25x12 =>
  bind (ldA 2 v25x12) fun v26x13 =>
  bind (alc 1 (.agg #[.int .u8 0, .int .i64 0])) fun v7x14 =>
  bind (stA 2 v7x14 v26x13) fun _ =>
  bind (fa 0 v7x14) fun v27x15 =>
  bind (ld1 v27x15) fun v28x16 =>
  bind (bop .int .rem v28x16 (Value.int .u8 6)) fun v29x17 =>
  bind (bop .int .eql v29x17 (Value.int .u8 4)) fun v33x18 =>
  jn (cnd v33x18
  (bind (Γ n_timerTimerReset [s5]) fun v35x19 =>
  ret (.nrm [s5, s21, s22, s23]))
  (bind (bop .int .eql v29x17 (Value.int .u8 5)) fun v37x20 =>
  jn (cnd v37x20
  (bind (fa 1 v7x14) fun v39x21 =>
  bind (ld1 v39x21) fun v40x22 =>
  bind (bop .int .rem v40x22 (Value.int .i64 200)) fun v41x23 =>
  bind (Γ n_timerTimerLimit [s5, v41x23]) fun v42x24 =>
  ret (.nrm [s5, s21, s22, s23]))
  (bind (Γ n_timerTimerTick [s5]) fun v31x25 =>
  ret (.nrm [s5, s21, s22, s23]))) (fun vs_26 =>
  ret (.nrm [(vs_26.headD undef), (vs_26.tail.headD undef), (vs_26.tail.tail.headD undef), (vs_26.tail.tail.tail.headD undef)])) (fun _ _ => fail) (fun w_27 => ret (.ret w_27)))) (fun vs_28 =>
  bind (bop .int .add (vs_28.tail.tail.tail.headD undef) (Value.int .i64 1)) fun v43x29 =>
  ret (.nrm [(vs_28.headD undef), (vs_28.tail.headD undef), (vs_28.tail.tail.headD undef), v43x29])) (fun _ _ => fail) (fun w_30 => ret (.ret w_30)))
  (ret (.ext 0 [s5]))

/-- interrex/interrexlaw28.TimerLeft: a round. -/
noncomputable def F_law28TimerLeft.l2 (Γ : Funs) (s5 s8 s52 s53 : Value) : M Out :=
  bind (bop .int .lss s53 s52) fun v54x38 =>
  cnd v54x38
  (bind (Γ n_timerTimerTick [s5]) fun v57x39 =>
  bind (bop .int .sub s8 (Value.int .i64 1)) fun v60x40 =>
  bind (bop .int .eql s53 v60x40) fun v61x41 =>
  bind (bop .bool .neq v57x39 v61x41) fun v62x42 =>
  cnd v62x42
  (ret (.ret (Value.bool false)))
  (bind (bop .int .add s53 (Value.int .i64 1)) fun v63x43 =>
  ret (.nrm [s5, s8, s52, v63x43])))
  (ret (.ext 3 []))

/-- interrex/interrexlaw28.TimerLeft -/
noncomputable def F_law28TimerLeft (Γ : Funs) (x0 x1 : Value) : M Value :=
  bind (Γ n_law28Lives []) fun v10x1 =>
  bind (uop .not v10x1) fun v11x2 =>
  bind (gate v11x2 false 3 (bind (lenS x1) fun v14x3 =>
  bind (bop .int .gtr v14x3 (Value.int .i64 100)) fun v15x4 =>
  ret [x1, v14x3, v15x4])) fun vs_5 =>
  bind (pick v11x2 (Value.bool true) (vs_5.tail.tail.headD undef)) fun v16x6 =>
  cnd v16x6
  (bind (Γ n_law28Lives []) fun v17x7 =>
  ret v17x7)
  (bind (cvi .i64 x0) fun v19x8 =>
  bind (Γ n_timerNew [v19x8]) fun v20x9 =>
  bind (lenS x1) fun v22x10 =>
  jn (loopM (fun vs_31 => F_law28TimerLeft.l1 Γ ((vs_31.headD undef)) ((vs_31.tail.headD undef)) ((vs_31.tail.tail.headD undef)) ((vs_31.tail.tail.tail.headD undef))) [v20x9, x1, v22x10, (Value.int .i64 0)]) (fun _ => fail) (fun j_32 vs_32 => bif Nat.beq j_32 0 then (bind (Γ n_timerTimerLeft [(vs_32.headD undef)]) fun v45x33 =>
  bind (bop .int .lss v45x33 (Value.int .i64 1)) fun v47x34 =>
  bind (gate v47x34 false 2 (bind (bop .int .gtr v45x33 (Value.int .i64 255)) fun v50x35 =>
  ret [v45x33, v50x35])) fun vs_36 =>
  bind (pick v47x34 (Value.bool true) (vs_36.tail.headD undef)) fun v51x37 =>
  cnd v51x37
  (ret (Value.bool false))
  (jn (loopM (fun vs_44 => F_law28TimerLeft.l2 Γ ((vs_44.headD undef)) ((vs_44.tail.headD undef)) ((vs_44.tail.tail.headD undef)) ((vs_44.tail.tail.tail.headD undef))) [(vs_32.headD undef), v45x33, v45x33, (Value.int .i64 0)]) (fun _ => fail) (fun j_45 vs_45 => bif Nat.beq j_45 3 then (ret (Value.bool true)) else fail) (fun w_46 => ret w_46))) else fail) (fun w_47 => ret w_47))

set_option maxRecDepth 100000 in
theorem rf_law28TimerLeft (Γ : Funs) (x0 x1 : Value) : runF Try.prog Γ Try.f4 lv_law28TimerLeft [x0, x1] = F_law28TimerLeft Γ x0 x1 := by kernel_rfl

theorem run_law28TimerLeft {prim : FuncId → Option (List Value → M Value)} (hp : prim n_law28TimerLeft = none) (n : Nat) (x0 x1 : Value) : run Try.prog prim lvs (n + 1) n_law28TimerLeft [x0, x1] = F_law28TimerLeft (run Try.prog prim lvs n) x0 x1 :=
  (run_fn hp (by kernel_rfl) Try.func4 (by kernel_rfl)).trans (rf_law28TimerLeft _ x0 x1)

/-- interrex/interrexlaw28.TimerPlays: a round. -/
noncomputable def F_law28TimerPlays.l1 (Γ : Funs) (s5 s6 s23 s24 s25 : Value) : M Out :=
  bind (bop .int .lss s25 s24) fun v26x12 =>
  cnd v26x12
  (bind (ixa 2 s23 s25) fun v27x13 =>
  bind (ldA 2 v27x13) fun v28x14 =>
  bind (alc 1 (.agg #[.int .u8 0, .int .i64 0])) fun v8x15 =>
  bind (stA 2 v8x15 v28x14) fun _ =>
  bind (fa 0 v8x15) fun v29x16 =>
  bind (ld1 v29x16) fun v30x17 =>
  bind (bop .int .rem v30x17 (Value.int .u8 6)) fun v31x18 =>
  bind (bop .int .eql v31x18 (Value.int .u8 4)) fun v43x19 =>
  jn (cnd v43x19
  (bind (Γ n_timerTimerReset [s5]) fun v45x20 =>
  bind (fa 1 s6) fun v46x21 =>
  bind (ld1 v46x21) fun v47x22 =>
  bind (fa 0 s6) fun v48x23 =>
  bind (st1 v48x23 v47x22) fun _ =>
  ret (.nrm [s5, s6, s23, s24, s25]))
  (bind (bop .int .eql v31x18 (Value.int .u8 5)) fun v50x24 =>
  jn (cnd v50x24
  (bind (fa 1 v8x15) fun v52x25 =>
  bind (ld1 v52x25) fun v53x26 =>
  bind (Γ n_timerTimerLimit [s5, v53x26]) fun v54x27 =>
  bind (fa 1 v8x15) fun v55x28 =>
  bind (ld1 v55x28) fun v56x29 =>
  bind (Γ n_ref28New [v56x29]) fun v57x30 =>
  bind (prt false 1 v57x30 1) fun v58x31 =>
  bind (fa 1 s6) fun v59x32 =>
  bind (st1 v59x32 v58x31) fun _ =>
  bind (fa 1 s6) fun v60x33 =>
  bind (ld1 v60x33) fun v61x34 =>
  bind (fa 0 s6) fun v62x35 =>
  bind (st1 v62x35 v61x34) fun _ =>
  ret (.nrm [s5, s6, s23, s24, s25]))
  (bind (ldA 3 s6) fun v33x36 =>
  bind (Γ n_ref28Tick [v33x36]) fun v34x37 =>
  bind (extr v34x37 0) fun v35x38 =>
  bind (extr v34x37 1) fun v36x39 =>
  bind (alc 1 (.agg #[.int .i64 0, .int .i64 0, .int .i64 0])) fun v9x40 =>
  bind (stA 3 v9x40 v35x38) fun _ =>
  bind (ldA 3 v9x40) fun v37x41 =>
  bind (stA 3 s6 v37x41) fun _ =>
  bind (Γ n_timerTimerTick [s5]) fun v39x42 =>
  bind (bop .bool .neq v39x42 v36x39) fun v41x43 =>
  cnd v41x43
  (ret (.ret (Value.bool false)))
  (ret (.nrm [s5, s6, s23, s24, s25])))) (fun vs_44 =>
  ret (.nrm [(vs_44.headD undef), (vs_44.tail.headD undef), (vs_44.tail.tail.headD undef), (vs_44.tail.tail.tail.headD undef), (vs_44.tail.tail.tail.tail.headD undef)])) (fun _ _ => fail) (fun w_45 => ret (.ret w_45)))) (fun vs_46 =>
  bind (fa 0 (vs_46.tail.headD undef)) fun v65x47 =>
  bind (ld1 v65x47) fun v66x48 =>
  bind (Γ n_timerTimerLeft [(vs_46.headD undef)]) fun v64x49 =>
  bind (ld1 v65x47) fun u_50 => same u_50 v66x48 <|
  bind (bop .int .neq v64x49 v66x48) fun v67x51 =>
  bind (gateV v67x51 false (ret (vs_46.headD undef))) fun v69x52 =>
  bind (gateV v67x51 false (fa 2 (vs_46.tail.headD undef))) fun v71x53 =>
  bind (gateV v67x51 false (ld1 v71x53)) fun v72x54 =>
  bind (gateV v67x51 false (Γ n_timerTimerFired [v69x52])) fun v70x55 =>
  bind (gateV v67x51 false (ld1 v71x53)) fun u_56 => same u_56 v72x54 <|
  bind (gateV v67x51 false (bop .int .neq v70x55 v72x54)) fun v73x57 =>
  bind (pick v67x51 (Value.bool true) v73x57) fun v74x58 =>
  cnd v74x58
  (ret (.ret (Value.bool false)))
  (bind (bop .int .add (vs_46.tail.tail.tail.tail.headD undef) (Value.int .i64 1)) fun v75x59 =>
  ret (.nrm [(vs_46.headD undef), (vs_46.tail.headD undef), (vs_46.tail.tail.headD undef), (vs_46.tail.tail.tail.headD undef), v75x59]))) (fun _ _ => fail) (fun w_60 => ret (.ret w_60)))
  (ret (.ext 0 []))

/-- interrex/interrexlaw28.TimerPlays -/
noncomputable def F_law28TimerPlays (Γ : Funs) (x0 x1 : Value) : M Value :=
  bind (Γ n_law28Lives []) fun v11x1 =>
  bind (uop .not v11x1) fun v12x2 =>
  bind (gate v12x2 false 3 (bind (lenS x1) fun v15x3 =>
  bind (bop .int .gtr v15x3 (Value.int .i64 100)) fun v16x4 =>
  ret [x1, v15x3, v16x4])) fun vs_5 =>
  bind (pick v12x2 (Value.bool true) (vs_5.tail.tail.headD undef)) fun v17x6 =>
  cnd v17x6
  (bind (Γ n_law28Lives []) fun v18x7 =>
  ret v18x7)
  (bind (Γ n_timerNew [x0]) fun v20x8 =>
  bind (Γ n_ref28New [x0]) fun v22x9 =>
  bind (alc 1 (.agg #[.int .i64 0, .int .i64 0, .int .i64 0])) fun v6x10 =>
  bind (stA 3 v6x10 v22x9) fun _ =>
  bind (lenS x1) fun v24x11 =>
  jn (loopM (fun vs_61 => F_law28TimerPlays.l1 Γ ((vs_61.headD undef)) ((vs_61.tail.headD undef)) ((vs_61.tail.tail.headD undef)) ((vs_61.tail.tail.tail.headD undef)) ((vs_61.tail.tail.tail.tail.headD undef))) [v20x8, v6x10, x1, v24x11, (Value.int .i64 0)]) (fun _ => fail) (fun j_62 vs_62 => bif Nat.beq j_62 0 then (ret (Value.bool true)) else fail) (fun w_63 => ret w_63))

set_option maxRecDepth 100000 in
theorem rf_law28TimerPlays (Γ : Funs) (x0 x1 : Value) : runF Try.prog Γ Try.f5 lv_law28TimerPlays [x0, x1] = F_law28TimerPlays Γ x0 x1 := by kernel_rfl

theorem run_law28TimerPlays {prim : FuncId → Option (List Value → M Value)} (hp : prim n_law28TimerPlays = none) (n : Nat) (x0 x1 : Value) : run Try.prog prim lvs (n + 1) n_law28TimerPlays [x0, x1] = F_law28TimerPlays (run Try.prog prim lvs n) x0 x1 :=
  (run_fn hp (by kernel_rfl) Try.func5 (by kernel_rfl)).trans (rf_law28TimerPlays _ x0 x1)

end Go.Proofs.Ytapnfeankeamnaa.A
