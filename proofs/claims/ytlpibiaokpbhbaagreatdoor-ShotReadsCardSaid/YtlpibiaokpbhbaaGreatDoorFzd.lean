/- Functions, as the abstract machine reads them: printed by wip/tools/gen.py. -/
import Derived.Test.YtlpibiaokpbhbaaGreatDoorNmZd
import Derived.Test.YtlpibiaokpbhbaaGreatDoorProg
import Derived.KernelRfl
namespace Go.Proofs.YtlpibiaokpbhbaaGreatDoor.A
set_option linter.unusedVariables false
set_option linter.unusedSimpArgs false
open Go.Proofs Go.Proofs.YtlpibiaokpbhbaaGreatDoor

/-- gosem.cut.init -/
noncomputable def F_gosemCutInit (Γ : Funs) : M Value :=
  bind (Γ n_gosemCut []) fun v0x1 =>
  ret (Value.tuple #[])

set_option maxRecDepth 100000 in
theorem rf_gosemCutInit (Γ : Funs) : runF Tryz.prog Γ Tryz.f2 lv_gosemCutInit [] = F_gosemCutInit Γ  := by kernel_rfl

theorem run_gosemCutInit {prim : FuncId → Option (List Value → M Value)} (hp : prim n_gosemCutInit = none) (n : Nat) : run Tryz.prog prim lvs (n + 1) n_gosemCutInit [] = F_gosemCutInit (run Tryz.prog prim lvs n)  :=
  (run_fn hp (by kernel_rfl) Tryz.func2 (by kernel_rfl)).trans (rf_gosemCutInit _ )

/-- interrex/interrexlaw08.ShotReads -/
noncomputable def F_law08ShotReads (Γ : Funs) (x0 : Value) : M Value :=
  bind (Γ n_law08Lives []) fun v8x1 =>
  bind (uop .not v8x1) fun v9x2 =>
  bind (gate v9x2 false 3 (bind (lenS x0) fun v12x3 =>
  bind (bop .int .gtr v12x3 (Value.int .i64 600)) fun v13x4 =>
  ret [x0, v12x3, v13x4])) (c3 fun _ _ q5_2 =>
  bind (pick v9x2 (Value.bool true) q5_2) fun v14x6 =>
  cnd v14x6
  (bind (Γ n_law08Lives []) fun v15x7 =>
  ret v15x7)
  (bind (bsl 1 0 (.int .u8 0) []) fun v16x8 =>
  bind (app 1 1 v16x8 x0) fun v18x9 =>
  bind (Γ n_shotRead [v18x9]) fun v21x10 =>
  bind (extr v21x10 0) fun v22x11 =>
  bind (extr v21x10 1) fun v23x12 =>
  bind (b2s x0) fun v26x13 =>
  bind (Γ n_ref08Read [v26x13]) fun v27x14 =>
  bind (extr v27x14 0) fun v28x15 =>
  bind (extr v27x14 1) fun v29x16 =>
  bind (bop .int .neq v23x12 v29x16) fun v32x17 =>
  bind (gate v32x17 false 5 (bind (b2s v18x9) fun v35x18 =>
  bind (b2s x0) fun v37x19 =>
  bind (bop .str .neq v35x18 v37x19) fun v38x20 =>
  ret [v18x9, v35x18, x0, v37x19, v38x20])) (c5 fun _ _ _ _ q21_4 =>
  bind (pick v32x17 (Value.bool true) q21_4) fun v39x22 =>
  cnd v39x22
  (ret (Value.bool false))
  (bind (bop .int .neq v23x12 (Value.int .i64 0)) fun v41x23 =>
  cnd v41x23
  (bind (bop .ptr .eql v22x11 (Value.pointer none)) fun v43x24 =>
  ret v43x24)
  (bind (bop .ptr .neq v22x11 (Value.pointer none)) fun v45x25 =>
  bind (gateV v45x25 true (ret v22x11)) fun v47x26 =>
  bind (gateV v45x25 true (ret v28x15)) fun v49x27 =>
  bind (gateV v45x25 true (Γ n_elderDirAll [v47x26])) fun v48x28 =>
  bind (gateV v45x25 true (Γ n_law07SameUsers [v48x28, v49x27])) fun v50x29 =>
  bind (pick v45x25 v50x29 (Value.bool false)) fun v51x30 =>
  bind (gateV v51x30 true (ret v22x11)) fun v53x31 =>
  bind (gateV v51x30 true (ret x0)) fun v56x32 =>
  bind (gateV v51x30 true (b2s v56x32)) fun v57x33 =>
  bind (gateV v51x30 true (Γ n_shotBytes [v53x31])) fun v54x34 =>
  bind (gateV v51x30 true (b2s v56x32)) fun u_35 => same u_35 v57x33 <|
  bind (gateV v51x30 true (b2s v54x34)) fun v55x36 =>
  bind (gateV v51x30 true (bop .str .eql v55x36 v57x33)) fun v58x37 =>
  bind (pick v51x30 v58x37 (Value.bool false)) fun v59x38 =>
  ret v59x38)))))

set_option maxRecDepth 100000 in
theorem rf_law08ShotReads (Γ : Funs) (x0 : Value) : runF Tryz.prog Γ Tryz.f3 lv_law08ShotReads [x0] = F_law08ShotReads Γ x0 := by kernel_rfl

theorem run_law08ShotReads {prim : FuncId → Option (List Value → M Value)} (hp : prim n_law08ShotReads = none) (n : Nat) (x0 : Value) : run Tryz.prog prim lvs (n + 1) n_law08ShotReads [x0] = F_law08ShotReads (run Tryz.prog prim lvs n) x0 :=
  (run_fn hp (by kernel_rfl) Tryz.func3 (by kernel_rfl)).trans (rf_law08ShotReads _ x0)

/-- interrex/interrexlaw08.ShotBytes -/
noncomputable def F_law08ShotBytes (Γ : Funs) (x0 : Value) : M Value :=
  bind (Γ n_law08Lives []) fun v8x1 =>
  bind (uop .not v8x1) fun v9x2 =>
  cnd v9x2
  (ret (Value.bool false))
  (bind (Γ n_law08Made [x0]) fun v12x3 =>
  bind (extr v12x3 0) fun v13x4 =>
  bind (extr v12x3 1) fun v14x5 =>
  bind (uop .not v14x5) fun v16x6 =>
  cnd v16x6
  (ret (Value.bool true))
  (bind (Γ n_shotBytes [v13x4]) fun v18x7 =>
  bind (Γ n_shotRead [v18x7]) fun v21x8 =>
  bind (extr v21x8 0) fun v22x9 =>
  bind (extr v21x8 1) fun v23x10 =>
  bind (b2s v18x7) fun v25x11 =>
  bind (Γ n_ref08Text [x0]) fun v27x12 =>
  bind (b2s v18x7) fun u_13 => same u_13 v25x11 <|
  bind (bop .str .eql v25x11 v27x12) fun v28x14 =>
  bind (gateV v28x14 true (ret v18x7)) fun v30x15 =>
  bind (gateV v28x14 true (Γ n_shotSchema [v30x15])) fun v31x16 =>
  bind (gateV v28x14 true (bop .int .eql v31x16 (Value.int .i64 1))) fun v32x17 =>
  bind (pick v28x14 v32x17 (Value.bool false)) fun v33x18 =>
  bind (gateV v33x18 true (ret v23x10)) fun v35x19 =>
  bind (gateV v33x18 true (bop .int .eql v35x19 (Value.int .i64 0))) fun v36x20 =>
  bind (pick v33x18 v36x20 (Value.bool false)) fun v37x21 =>
  bind (gateV v37x21 true (ret v22x9)) fun v39x22 =>
  bind (gateV v37x21 true (bop .ptr .neq v39x22 (Value.pointer none))) fun v40x23 =>
  bind (pick v37x21 v40x23 (Value.bool false)) fun v41x24 =>
  bind (gateV v41x24 true (ret v22x9)) fun v43x25 =>
  bind (gateV v41x24 true (ret x0)) fun v45x26 =>
  bind (gateV v41x24 true (Γ n_elderDirAll [v43x25])) fun v44x27 =>
  bind (gateV v41x24 true (Γ n_law07SameUsers [v44x27, v45x26])) fun v46x28 =>
  bind (pick v41x24 v46x28 (Value.bool false)) fun v47x29 =>
  bind (gateV v47x29 true (Γ n_shotBytes [(Value.pointer none)])) fun v49x30 =>
  bind (gateV v47x29 true (lenS v49x30)) fun v50x31 =>
  bind (gateV v47x29 true (bop .int .eql v50x31 (Value.int .i64 0))) fun v51x32 =>
  bind (pick v47x29 v51x32 (Value.bool false)) fun v52x33 =>
  ret v52x33))

set_option maxRecDepth 100000 in
theorem rf_law08ShotBytes (Γ : Funs) (x0 : Value) : runF Tryz.prog Γ Tryz.f4 lv_law08ShotBytes [x0] = F_law08ShotBytes Γ x0 := by kernel_rfl

theorem run_law08ShotBytes {prim : FuncId → Option (List Value → M Value)} (hp : prim n_law08ShotBytes = none) (n : Nat) (x0 : Value) : run Tryz.prog prim lvs (n + 1) n_law08ShotBytes [x0] = F_law08ShotBytes (run Tryz.prog prim lvs n) x0 :=
  (run_fn hp (by kernel_rfl) Tryz.func4 (by kernel_rfl)).trans (rf_law08ShotBytes _ x0)

/-- interrex/interrexlaw12.FolioMost: a round. -/
noncomputable def F_law12FolioMost.l1 (Γ : Funs) (s3 s4 s5 s21 s22 s23 : Value) : M Out :=
  bind (bop .int .lss s23 s22) fun v24x10 =>
  cnd v24x10
  (bind (ixa 1 s21 s23) fun v25x11 =>
  bind (ld1 v25x11) fun v26x12 =>
  bind (callv Γ s4 [v26x12, (Value.int .i64 12)]) fun v30x13 =>
  bind (bsl 1 1 (.string ⟨#[]⟩) [(0, 1, v30x13)]) fun v31x14 =>
  bind (app 1 16 s5 v31x14) fun v32x15 =>
  bind (bop .int .add s23 (Value.int .i64 1)) fun v33x16 =>
  ret (.nrm [s3, s4, v32x15, s21, s22, v33x16]))
  (ret (.ext 0 [s3, s4, s5]))

/-- interrex/interrexlaw12.FolioMost: a round. -/
noncomputable def F_law12FolioMost.l2 (Γ : Funs) (s3 s4 s5 s8 s34 s35 s36 : Value) : M Out :=
  bind (bop .int .lss s36 s35) fun v37x21 =>
  cnd v37x21
  (bind (ixa 1 s34 s36) fun v38x22 =>
  bind (ld1 v38x22) fun v39x23 =>
  bind (ld1 s3) fun v48x24 =>
  bind (callv Γ s4 [v39x23, (Value.int .i64 12)]) fun v43x25 =>
  bind (ld1 s3) fun u_26 => same u_26 v48x24 <|
  bind (callv Γ s4 [v39x23, (Value.int .i64 12)]) fun v46x27 =>
  bind (ld1 s3) fun u_28 => same u_28 v48x24 <|
  bind (bop .str .add v46x27 (Value.string ⟨#[64, 98, 99, 100, 46, 101, 102]⟩)) fun v47x29 =>
  bind (bop .str .add v47x29 v48x24) fun v49x30 =>
  bind (bld (.agg #[.string ⟨#[]⟩, .string ⟨#[]⟩, .string ⟨#[]⟩, .bool false, .slice none 0 0]) [(0, 1, v43x25), (1, 1, (Value.string ⟨#[48, 49, 50, 51, 52, 53, 54, 55, 56, 57, 97, 98]⟩)), (2, 1, v49x30), (3, 1, (Value.bool true)), (4, 1, s5)]) fun v51x31 =>
  bind (bsl 5 1 (.agg #[.string ⟨#[]⟩, .string ⟨#[]⟩, .string ⟨#[]⟩, .bool false, .slice none 0 0]) [(0, 5, v51x31)]) fun v52x32 =>
  bind (app 5 80 s8 v52x32) fun v53x33 =>
  bind (bop .int .add s36 (Value.int .i64 1)) fun v54x34 =>
  ret (.nrm [s3, s4, s5, v53x33, s34, s35, v54x34]))
  (ret (.ext 2 [s5, s8]))

/-- interrex/interrexlaw12.FolioMost -/
noncomputable def F_law12FolioMost (Γ : Funs) (x0 : Value) : M Value :=
  bind (Γ n_law12Lives []) fun v13x1 =>
  bind (uop .not v13x1) fun v14x2 =>
  cnd v14x2
  (ret (Value.bool false))
  (bind (bop .int .rem x0 (Value.int .u8 26)) fun v16x3 =>
  bind (bop .int .add (Value.int .u8 97) v16x3) fun v17x4 =>
  bind (bsl 1 1 (.int .u8 0) [(0, 1, v17x4)]) fun v18x5 =>
  bind (b2s v18x5) fun v19x6 =>
  bind (alc 1 (.string ⟨#[]⟩)) fun v3x7 =>
  bind (st1 v3x7 v19x6) fun _ =>
  bind (bsl 1 6 (.string ⟨#[]⟩) [(0, 1, (Value.string ⟨#[97, 49]⟩)), (1, 1, (Value.string ⟨#[98, 49]⟩)), (2, 1, (Value.string ⟨#[99, 49]⟩)), (3, 1, (Value.string ⟨#[100, 49]⟩)), (4, 1, (Value.string ⟨#[101, 49]⟩)), (5, 1, (Value.string ⟨#[102, 49]⟩))]) fun v21x8 =>
  bind (lenS v21x8) fun v22x9 =>
  jn (loopM (c6 (F_law12FolioMost.l1 Γ)) [v3x7, (Value.func (.func 16) #[] #[v3x7]), (Value.slice none 0 0), v21x8, v22x9, (Value.int .i64 0)]) noN (xk 0 (c3 fun q18_0 q18_1 q18_2 =>
  bind (bsl 1 12 (.string ⟨#[]⟩) [(0, 1, (Value.string ⟨#[97]⟩)), (1, 1, (Value.string ⟨#[98]⟩)), (2, 1, (Value.string ⟨#[99]⟩)), (3, 1, (Value.string ⟨#[100]⟩)), (4, 1, (Value.string ⟨#[101]⟩)), (5, 1, (Value.string ⟨#[102]⟩)), (6, 1, (Value.string ⟨#[103]⟩)), (7, 1, (Value.string ⟨#[104]⟩)), (8, 1, (Value.string ⟨#[105]⟩)), (9, 1, (Value.string ⟨#[106]⟩)), (10, 1, (Value.string ⟨#[107]⟩)), (11, 1, (Value.string ⟨#[108]⟩))]) fun v34x19 =>
  bind (lenS v34x19) fun v35x20 =>
  jn (loopM (c7 (F_law12FolioMost.l2 Γ)) [q18_0, q18_1, q18_2, (Value.slice none 0 0), v34x19, v35x20, (Value.int .i64 0)]) noN (xk 2 (c2 fun q36_0 q36_1 =>
  bind (Γ n_newerOf [q36_1, q36_0]) fun v58x37 =>
  bind (extr v58x37 0) fun v59x38 =>
  bind (extr v58x37 1) fun v60x39 =>
  bind (bop .int .eql v60x39 (Value.int .i64 0)) fun v62x40 =>
  bind (gate v62x40 true 2 (bind (bop .ptr .neq v59x38 (Value.pointer none)) fun v65x41 =>
  ret [v59x38, v65x41])) (c2 fun _ q42_1 =>
  bind (pick v62x40 q42_1 (Value.bool false)) fun v66x43 =>
  bind (gate v66x43 true 5 (bind (Γ n_folioBytes [v59x38]) fun v69x44 =>
  bind (lenS v69x44) fun v70x45 =>
  bind (Γ n_folioMost []) fun v71x46 =>
  bind (bop .int .eql v70x45 v71x46) fun v72x47 =>
  ret [v59x38, v69x44, v70x45, v71x46, v72x47])) (c5 fun _ _ _ _ q48_4 =>
  bind (pick v66x43 q48_4 (Value.bool false)) fun v73x49 =>
  ret v73x49))) noX) ret) noX) ret)

set_option maxRecDepth 100000 in
theorem rf_law12FolioMost (Γ : Funs) (x0 : Value) : runF Tryz.prog Γ Tryz.f5 lv_law12FolioMost [x0] = F_law12FolioMost Γ x0 := by kernel_rfl

theorem run_law12FolioMost {prim : FuncId → Option (List Value → M Value)} (hp : prim n_law12FolioMost = none) (n : Nat) (x0 : Value) : run Tryz.prog prim lvs (n + 1) n_law12FolioMost [x0] = F_law12FolioMost (run Tryz.prog prim lvs n) x0 :=
  (run_fn hp (by kernel_rfl) Tryz.func5 (by kernel_rfl)).trans (rf_law12FolioMost _ x0)

/-- interrex/interrexlaw08.lives -/
noncomputable def F_law08Lives (Γ : Funs) : M Value :=
  bind (Γ n_elderNew []) fun v1x1 =>
  bind (Γ n_shotBytes [v1x1]) fun v2x2 =>
  bind (b2s v2x2) fun v3x3 =>
  bind (bop .str .eql v3x3 (Value.string ⟨#[1, 0, 0]⟩)) fun v4x4 =>
  ret v4x4

set_option maxRecDepth 100000 in
theorem rf_law08Lives (Γ : Funs) : runF Tryz.prog Γ Tryz.f6 lv_law08Lives [] = F_law08Lives Γ  := by kernel_rfl

theorem run_law08Lives {prim : FuncId → Option (List Value → M Value)} (hp : prim n_law08Lives = none) (n : Nat) : run Tryz.prog prim lvs (n + 1) n_law08Lives [] = F_law08Lives (run Tryz.prog prim lvs n)  :=
  (run_fn hp (by kernel_rfl) Tryz.func6 (by kernel_rfl)).trans (rf_law08Lives _ )

/-- interrex/shot.Read: a round. -/
noncomputable def F_shotRead.l1 (Γ : Funs) (s4 s7 s29 s30 : Value) : M Out :=
  bind (bop .int .lss s30 s29) fun v31x13 =>
  cnd v31x13
  (bind (Γ n_userGet [s4, (Value.int .i64 1)]) fun v34x14 =>
  bind (bsl 5 1 (.agg #[.string ⟨#[]⟩, .string ⟨#[]⟩, .string ⟨#[]⟩, .bool false, .slice none 0 0]) [(0, 5, v34x14)]) fun v35x15 =>
  bind (app 5 80 s7 v35x15) fun v36x16 =>
  bind (bop .int .add s30 (Value.int .i64 1)) fun v37x17 =>
  ret (.nrm [s4, v36x16, s29, v37x17]))
  (ret (.ext 0 [s4, s7]))

/-- interrex/shot.Read -/
noncomputable def F_shotRead (Γ : Funs) (x0 : Value) : M Value :=
  bind (Γ n_octetOf [x0]) fun v12x1 =>
  bind (Γ n_octetReaderByte [v12x1]) fun v14x2 =>
  bind (Γ n_octetReaderErr [v12x1]) fun v16x3 =>
  bind (bop .int .eql v16x3 (Value.int .i64 0)) fun v17x4 =>
  bind (gate v17x4 true 2 (bind (bop .int .neq v14x2 (Value.int .u8 1)) fun v20x5 =>
  ret [v14x2, v20x5])) (c2 fun _ q6_1 =>
  bind (pick v17x4 q6_1 (Value.bool false)) fun v21x7 =>
  cnd v21x7
  (ret (Value.tuple #[(Value.pointer none), (Value.int .i64 6)]))
  (bind (Γ n_octetReaderTwo [v12x1]) fun v23x8 =>
  bind (cvi .i64 v23x8) fun v24x9 =>
  bind (bop .int .gtr v24x9 (Value.int .i64 12)) fun v26x10 =>
  jn (cnd v26x10
  (bind (Γ n_octetReaderFail [v12x1, (Value.int .i64 7)]) fun v28x11 =>
  ret (.nrm [v12x1, (Value.int .i64 0)]))
  (ret (.nrm [v12x1, v24x9]))) (c2 fun q12_0 q12_1 =>
  jn (loopM (c4 (F_shotRead.l1 Γ)) [q12_0, (Value.slice none 0 0), q12_1, (Value.int .i64 0)]) noN (xk 0 (c2 fun q19_0 q19_1 =>
  bind (Γ n_octetReaderErr [q19_0]) fun v39x20 =>
  bind (bop .int .neq v39x20 (Value.int .i64 0)) fun v41x21 =>
  cnd v41x21
  (ret (Value.tuple #[(Value.pointer none), v39x20]))
  (bind (Γ n_elderOf [q19_1]) fun v45x22 =>
  bind (extr v45x22 0) fun v46x23 =>
  bind (extr v45x22 1) fun v47x24 =>
  bind (bop .int .eql v47x24 (Value.int .i64 0)) fun v49x25 =>
  jn (cnd v49x25
  (bind (Γ n_octetReaderEnd [q19_0]) fun v51x26 =>
  ret (.nrm [v46x23, v51x26]))
  (ret (.nrm [v46x23, v47x24]))) (c2 fun q27_0 q27_1 =>
  bind (bop .int .neq q27_1 (Value.int .i64 0)) fun v53x28 =>
  cnd v53x28
  (ret (Value.tuple #[(Value.pointer none), q27_1]))
  (ret (Value.tuple #[q27_0, (Value.int .i64 0)]))) noX ret)) noX) ret) noX ret))

set_option maxRecDepth 100000 in
theorem rf_shotRead (Γ : Funs) (x0 : Value) : runF Tryz.prog Γ Tryz.f7 lv_shotRead [x0] = F_shotRead Γ x0 := by kernel_rfl

theorem run_shotRead {prim : FuncId → Option (List Value → M Value)} (hp : prim n_shotRead = none) (n : Nat) (x0 : Value) : run Tryz.prog prim lvs (n + 1) n_shotRead [x0] = F_shotRead (run Tryz.prog prim lvs n) x0 :=
  (run_fn hp (by kernel_rfl) Tryz.func7 (by kernel_rfl)).trans (rf_shotRead _ x0)

/-- interrex/interrexref08.Read -/
noncomputable def F_ref08Read (Γ : Funs) (x0 : Value) : M Value :=
  bind (bop .str .eql x0 (Value.string ⟨#[]⟩)) fun v7x1 =>
  cnd v7x1
  (ret (Value.tuple #[(Value.slice none 0 0), (Value.int .i64 2)]))
  (bind (ixs x0 (Value.int .i64 0)) fun v9x2 =>
  bind (bop .int .neq v9x2 (Value.int .u8 1)) fun v10x3 =>
  cnd v10x3
  (ret (Value.tuple #[(Value.slice none 0 0), (Value.int .i64 6)]))
  (bind (sls x0 (some (Value.int .i64 1)) none) fun v13x4 =>
  bind (bld (.agg #[.string ⟨#[]⟩, .int .i64 0]) [(0, 1, v13x4)]) fun v14x5 =>
  bind (Γ n_ref08GetUsers [v14x5, (Value.int .i64 1)]) fun v15x6 =>
  bind (extr v15x6 0) fun v16x7 =>
  bind (extr v15x6 1) fun v17x8 =>
  bind (alc 1 (.agg #[.string ⟨#[]⟩, .int .i64 0])) fun v4x9 =>
  bind (stA 2 v4x9 v16x7) fun _ =>
  bind (fa 1 v4x9) fun v18x10 =>
  bind (ld1 v18x10) fun v19x11 =>
  bind (bop .int .eql v19x11 (Value.int .i64 0)) fun v20x12 =>
  bind (gate v20x12 true 3 (bind (fa 0 v4x9) fun v22x13 =>
  bind (ld1 v22x13) fun v23x14 =>
  bind (bop .str .neq v23x14 (Value.string ⟨#[]⟩)) fun v24x15 =>
  ret [v22x13, v23x14, v24x15])) (c3 fun _ _ q16_2 =>
  bind (pick v20x12 q16_2 (Value.bool false)) fun v25x17 =>
  jn (cnd v25x17
  (bind (fa 1 v4x9) fun v26x18 =>
  bind (st1 v26x18 (Value.int .i64 3)) fun _ =>
  ret (.nrm [v4x9, v17x8]))
  (ret (.nrm [v4x9, v17x8]))) (c2 fun q19_0 q19_1 =>
  bind (fa 1 q19_0) fun v27x20 =>
  bind (ld1 v27x20) fun v28x21 =>
  bind (bop .int .neq v28x21 (Value.int .i64 0)) fun v29x22 =>
  cnd v29x22
  (bind (fa 1 q19_0) fun v30x23 =>
  bind (ld1 v30x23) fun v31x24 =>
  ret (Value.tuple #[(Value.slice none 0 0), v31x24]))
  (ret (Value.tuple #[q19_1, (Value.int .i64 0)]))) noX ret)))

set_option maxRecDepth 100000 in
theorem rf_ref08Read (Γ : Funs) (x0 : Value) : runF Tryz.prog Γ Tryz.f8 lv_ref08Read [x0] = F_ref08Read Γ x0 := by kernel_rfl

theorem run_ref08Read {prim : FuncId → Option (List Value → M Value)} (hp : prim n_ref08Read = none) (n : Nat) (x0 : Value) : run Tryz.prog prim lvs (n + 1) n_ref08Read [x0] = F_ref08Read (run Tryz.prog prim lvs n) x0 :=
  (run_fn hp (by kernel_rfl) Tryz.func8 (by kernel_rfl)).trans (rf_ref08Read _ x0)

/-- interrex/interrexlaw07.SameUsers: a round. -/
noncomputable def F_law07SameUsers.l1 (Γ : Funs) (s0 s1 s12 s13 : Value) : M Out :=
  bind (bop .int .lss s13 s12) fun v14x5 =>
  cnd v14x5
  (bind (ixa 5 s0 s13) fun v18x6 =>
  bind (ldA 5 v18x6) fun v19x7 =>
  bind (ixa 5 s1 s13) fun v22x8 =>
  bind (ldA 5 v22x8) fun v23x9 =>
  bind (Γ n_ref06Same [v19x7, v23x9]) fun v24x10 =>
  bind (uop .not v24x10) fun v25x11 =>
  cnd v25x11
  (ret (.ret (Value.bool false)))
  (bind (bop .int .add s13 (Value.int .i64 1)) fun v26x12 =>
  ret (.nrm [s0, s1, s12, v26x12])))
  (ret (.ext 0 []))

/-- interrex/interrexlaw07.SameUsers -/
noncomputable def F_law07SameUsers (Γ : Funs) (x0 x1 : Value) : M Value :=
  bind (lenS x0) fun v7x1 =>
  bind (lenS x1) fun v9x2 =>
  bind (bop .int .neq v7x1 v9x2) fun v10x3 =>
  cnd v10x3
  (ret (Value.bool false))
  (bind (lenS x0) fun v12x4 =>
  jn (loopM (c4 (F_law07SameUsers.l1 Γ)) [x0, x1, v12x4, (Value.int .i64 0)]) noN (xk 0 (c0 (ret (Value.bool true))) noX) ret)

set_option maxRecDepth 100000 in
theorem rf_law07SameUsers (Γ : Funs) (x0 x1 : Value) : runF Tryz.prog Γ Tryz.f9 lv_law07SameUsers [x0, x1] = F_law07SameUsers Γ x0 x1 := by kernel_rfl

theorem run_law07SameUsers {prim : FuncId → Option (List Value → M Value)} (hp : prim n_law07SameUsers = none) (n : Nat) (x0 x1 : Value) : run Tryz.prog prim lvs (n + 1) n_law07SameUsers [x0, x1] = F_law07SameUsers (run Tryz.prog prim lvs n) x0 x1 :=
  (run_fn hp (by kernel_rfl) Tryz.func9 (by kernel_rfl)).trans (rf_law07SameUsers _ x0 x1)

/-- (*interrex/elder.Dir).All: a round. -/
noncomputable def F_elderDirAll.l1 (Γ : Funs) (s0 s3 s7 s8 s9 : Value) : M Out :=
  bind (bop .int .lss s9 s8) fun v10x3 =>
  cnd v10x3
  (bind (ixa 1 s7 s9) fun v11x4 =>
  bind (ld1 v11x4) fun v12x5 =>
  bind (nilc s0) fun v16x6 =>
  bind (fa 0 v16x6) fun v17x7 =>
  bind (ld1 v17x7) fun v18x8 =>
  bind (lkp .str (.string ⟨#[]⟩) false v18x8 v12x5) fun v20x9 =>
  bind (bld (.agg #[.string ⟨#[]⟩, .string ⟨#[]⟩, .string ⟨#[]⟩, .bool false, .slice none 0 0]) [(0, 1, v12x5), (1, 1, v20x9)]) fun v21x10 =>
  bind (bsl 5 1 (.agg #[.string ⟨#[]⟩, .string ⟨#[]⟩, .string ⟨#[]⟩, .bool false, .slice none 0 0]) [(0, 5, v21x10)]) fun v22x11 =>
  bind (app 5 80 s3 v22x11) fun v23x12 =>
  bind (bop .int .add s9 (Value.int .i64 1)) fun v24x13 =>
  ret (.nrm [s0, v23x12, s7, s8, v24x13]))
  (ret (.ext 0 [s3]))

/-- (*interrex/elder.Dir).All -/
noncomputable def F_elderDirAll (Γ : Funs) (x0 : Value) : M Value :=
  bind (Γ n_elderDirNames [x0]) fun v7x1 =>
  bind (lenS v7x1) fun v8x2 =>
  jn (loopM (c5 (F_elderDirAll.l1 Γ)) [x0, (Value.slice none 0 0), v7x1, v8x2, (Value.int .i64 0)]) noN (xk 0 (c1 fun q15_0 =>
  ret q15_0) noX) ret

set_option maxRecDepth 100000 in
theorem rf_elderDirAll (Γ : Funs) (x0 : Value) : runF Tryz.prog Γ Tryz.f10 lv_elderDirAll [x0] = F_elderDirAll Γ x0 := by kernel_rfl

theorem run_elderDirAll {prim : FuncId → Option (List Value → M Value)} (hp : prim n_elderDirAll = none) (n : Nat) (x0 : Value) : run Tryz.prog prim lvs (n + 1) n_elderDirAll [x0] = F_elderDirAll (run Tryz.prog prim lvs n) x0 :=
  (run_fn hp (by kernel_rfl) Tryz.func10 (by kernel_rfl)).trans (rf_elderDirAll _ x0)

/-- interrex/shot.Bytes: a round. -/
noncomputable def F_shotBytes.l1 (Γ : Funs) (s3 s16 s17 s18 : Value) : M Out :=
  bind (bop .int .lss s18 s17) fun v19x10 =>
  cnd v19x10
  (bind (ixa 5 s16 s18) fun v20x11 =>
  bind (ldA 5 v20x11) fun v21x12 =>
  bind (alc 1 (.agg #[.string ⟨#[]⟩, .string ⟨#[]⟩, .string ⟨#[]⟩, .bool false, .slice none 0 0])) fun v5x13 =>
  bind (stA 5 v5x13 v21x12) fun _ =>
  bind (ldA 5 v5x13) fun v23x14 =>
  bind (Γ n_userPut [s3, (Value.int .i64 1), v23x14]) fun v24x15 =>
  bind (bop .int .add s18 (Value.int .i64 1)) fun v25x16 =>
  ret (.nrm [s3, s16, s17, v25x16]))
  (ret (.ext 0 [s3]))

/-- interrex/shot.Bytes -/
noncomputable def F_shotBytes (Γ : Funs) (x0 : Value) : M Value :=
  bind (bop .ptr .eql x0 (Value.pointer none)) fun v7x1 =>
  cnd v7x1
  (ret (Value.slice none 0 0))
  (bind (bld (.agg #[.slice none 0 0]) []) fun v8x2 =>
  bind (alc 1 v8x2) fun v9x3 =>
  bind (Γ n_octetWriterByte [v9x3, (Value.int .u8 1)]) fun v10x4 =>
  bind (Γ n_elderDirLen [x0]) fun v12x5 =>
  bind (cvi .u16 v12x5) fun v13x6 =>
  bind (Γ n_octetWriterTwo [v10x4, v13x6]) fun v14x7 =>
  bind (Γ n_elderDirAll [x0]) fun v16x8 =>
  bind (lenS v16x8) fun v17x9 =>
  jn (loopM (c4 (F_shotBytes.l1 Γ)) [v14x7, v16x8, v17x9, (Value.int .i64 0)]) noN (xk 0 (c1 fun q18_0 =>
  bind (Γ n_octetWriterBytes [q18_0]) fun v27x19 =>
  ret v27x19) noX) ret)

set_option maxRecDepth 100000 in
theorem rf_shotBytes (Γ : Funs) (x0 : Value) : runF Tryz.prog Γ Tryz.f11 lv_shotBytes [x0] = F_shotBytes Γ x0 := by kernel_rfl

theorem run_shotBytes {prim : FuncId → Option (List Value → M Value)} (hp : prim n_shotBytes = none) (n : Nat) (x0 : Value) : run Tryz.prog prim lvs (n + 1) n_shotBytes [x0] = F_shotBytes (run Tryz.prog prim lvs n) x0 :=
  (run_fn hp (by kernel_rfl) Tryz.func11 (by kernel_rfl)).trans (rf_shotBytes _ x0)

/-- interrex/interrexlaw08.made: a round. -/
noncomputable def F_law08Made.l1 (Γ : Funs) (s0 s11 s12 s13 : Value) : M Out :=
  bind (bop .int .lss s13 s12) fun v14x4 =>
  cnd v14x4
  (bind (ixa 5 s11 s13) fun v15x5 =>
  bind (ldA 5 v15x5) fun v16x6 =>
  bind (alc 1 (.agg #[.string ⟨#[]⟩, .string ⟨#[]⟩, .string ⟨#[]⟩, .bool false, .slice none 0 0])) fun v5x7 =>
  bind (stA 5 v5x7 v16x6) fun _ =>
  bind (ldA 5 v5x7) fun v17x8 =>
  bind (Γ n_law06Few [v17x8]) fun v18x9 =>
  bind (uop .not v18x9) fun v19x10 =>
  cnd v19x10
  (ret (.ret (Value.tuple #[(Value.pointer none), (Value.bool false)])))
  (bind (bop .int .add s13 (Value.int .i64 1)) fun v20x11 =>
  ret (.nrm [s0, s11, s12, v20x11])))
  (ret (.ext 0 [s0]))

/-- interrex/interrexlaw08.made -/
noncomputable def F_law08Made (Γ : Funs) (x0 : Value) : M Value :=
  bind (lenS x0) fun v9x1 =>
  bind (bop .int .gtr v9x1 (Value.int .i64 30)) fun v10x2 =>
  cnd v10x2
  (ret (Value.tuple #[(Value.pointer none), (Value.bool false)]))
  (bind (lenS x0) fun v12x3 =>
  jn (loopM (c4 (F_law08Made.l1 Γ)) [x0, x0, v12x3, (Value.int .i64 0)]) noN (xk 0 (c1 fun q13_0 =>
  bind (Γ n_elderOf [q13_0]) fun v23x14 =>
  bind (extr v23x14 0) fun v24x15 =>
  bind (extr v23x14 1) fun v25x16 =>
  bind (bop .int .eql v25x16 (Value.int .i64 0)) fun v28x17 =>
  bind (gate v28x17 true 2 (bind (bop .ptr .neq v24x15 (Value.pointer none)) fun v31x18 =>
  ret [v24x15, v31x18])) (c2 fun _ q19_1 =>
  bind (pick v28x17 q19_1 (Value.bool false)) fun v32x20 =>
  bind (gate v32x20 true 3 (bind (Γ n_ref07Of [q13_0, (Value.int .i64 1)]) fun v35x21 =>
  bind (bop .int .eql v35x21 (Value.int .i64 0)) fun v36x22 =>
  ret [q13_0, v35x21, v36x22])) (c3 fun _ _ q23_2 =>
  bind (pick v32x20 q23_2 (Value.bool false)) fun v37x24 =>
  ret (Value.tuple #[v24x15, v37x24])))) noX) ret)

set_option maxRecDepth 100000 in
theorem rf_law08Made (Γ : Funs) (x0 : Value) : runF Tryz.prog Γ Tryz.f12 lv_law08Made [x0] = F_law08Made Γ x0 := by kernel_rfl

theorem run_law08Made {prim : FuncId → Option (List Value → M Value)} (hp : prim n_law08Made = none) (n : Nat) (x0 : Value) : run Tryz.prog prim lvs (n + 1) n_law08Made [x0] = F_law08Made (run Tryz.prog prim lvs n) x0 :=
  (run_fn hp (by kernel_rfl) Tryz.func12 (by kernel_rfl)).trans (rf_law08Made _ x0)

/-- interrex/interrexref08.Text -/
noncomputable def F_ref08Text (Γ : Funs) (x0 : Value) : M Value :=
  bind (Γ n_ref08Users [(Value.int .i64 1), x0]) fun v4x1 =>
  bind (bop .str .add (Value.string ⟨#[1]⟩) v4x1) fun v5x2 =>
  ret v5x2

set_option maxRecDepth 100000 in
theorem rf_ref08Text (Γ : Funs) (x0 : Value) : runF Tryz.prog Γ Tryz.f13 lv_ref08Text [x0] = F_ref08Text Γ x0 := by kernel_rfl

theorem run_ref08Text {prim : FuncId → Option (List Value → M Value)} (hp : prim n_ref08Text = none) (n : Nat) (x0 : Value) : run Tryz.prog prim lvs (n + 1) n_ref08Text [x0] = F_ref08Text (run Tryz.prog prim lvs n) x0 :=
  (run_fn hp (by kernel_rfl) Tryz.func13 (by kernel_rfl)).trans (rf_ref08Text _ x0)

/-- interrex/shot.Schema -/
noncomputable def F_shotSchema (Γ : Funs) (x0 : Value) : M Value :=
  bind (lenS x0) fun v4x1 =>
  bind (bop .int .gtr v4x1 (Value.int .i64 0)) fun v5x2 =>
  bind (gate v5x2 true 5 (bind (ixa 1 x0 (Value.int .i64 0)) fun v8x3 =>
  bind (ld1 v8x3) fun v9x4 =>
  bind (bop .int .eql v9x4 (Value.int .u8 1)) fun v10x5 =>
  ret [x0, v8x3, v9x4, v10x5, v10x5])) (c5 fun _ _ _ _ q6_4 =>
  bind (gate q6_4 false 4 (bind (ixa 1 x0 (Value.int .i64 0)) fun v13x7 =>
  bind (ld1 v13x7) fun v14x8 =>
  bind (bop .int .eql v14x8 (Value.int .u8 2)) fun v15x9 =>
  ret [x0, v13x7, v14x8, v15x9])) (c4 fun _ _ _ q10_3 =>
  bind (gate v5x2 true 1 (bind (pick q6_4 (Value.bool true) q10_3) fun v16x11 =>
  ret [v16x11])) (c1 fun q12_0 =>
  bind (pick v5x2 q12_0 (Value.bool false)) fun v17x13 =>
  cnd v17x13
  (bind (ixa 1 x0 (Value.int .i64 0)) fun v19x14 =>
  bind (ld1 v19x14) fun v20x15 =>
  bind (cvi .i64 v20x15) fun v21x16 =>
  ret v21x16)
  (ret (Value.int .i64 0)))))

set_option maxRecDepth 100000 in
theorem rf_shotSchema (Γ : Funs) (x0 : Value) : runF Tryz.prog Γ Tryz.f14 lv_shotSchema [x0] = F_shotSchema Γ x0 := by kernel_rfl

theorem run_shotSchema {prim : FuncId → Option (List Value → M Value)} (hp : prim n_shotSchema = none) (n : Nat) (x0 : Value) : run Tryz.prog prim lvs (n + 1) n_shotSchema [x0] = F_shotSchema (run Tryz.prog prim lvs n) x0 :=
  (run_fn hp (by kernel_rfl) Tryz.func14 (by kernel_rfl)).trans (rf_shotSchema _ x0)

/-- interrex/interrexlaw12.lives -/
noncomputable def F_law12Lives (Γ : Funs) : M Value :=
  bind (Γ n_newerNew []) fun v1x1 =>
  bind (Γ n_folioBytes [v1x1]) fun v2x2 =>
  bind (b2s v2x2) fun v3x3 =>
  bind (bop .str .eql v3x3 (Value.string ⟨#[2, 0, 0, 0, 0]⟩)) fun v4x4 =>
  ret v4x4

set_option maxRecDepth 100000 in
theorem rf_law12Lives (Γ : Funs) : runF Tryz.prog Γ Tryz.f15 lv_law12Lives [] = F_law12Lives Γ  := by kernel_rfl

theorem run_law12Lives {prim : FuncId → Option (List Value → M Value)} (hp : prim n_law12Lives = none) (n : Nat) : run Tryz.prog prim lvs (n + 1) n_law12Lives [] = F_law12Lives (run Tryz.prog prim lvs n)  :=
  (run_fn hp (by kernel_rfl) Tryz.func15 (by kernel_rfl)).trans (rf_law12Lives _ )

/-- interrex/interrexlaw12.FolioMost$1: a round. -/
noncomputable def F_law12FolioMost1.l1 (Γ : Funs) (s0 s1 s2 : Value) : M Out :=
  bind (lenT s0) fun v7x1 =>
  bind (bop .int .lss v7x1 s1) fun v9x2 =>
  cnd v9x2
  (bind (ld1 s2) fun v11x3 =>
  bind (bop .str .add s0 v11x3) fun v12x4 =>
  ret (.nrm [v12x4, s1, s2]))
  (ret (.ext 0 [s0]))

/-- interrex/interrexlaw12.FolioMost$1 -/
noncomputable def F_law12FolioMost1 (Γ : Funs) (x0 x1 x2 : Value) : M Value :=
  jn (loopM (c3 (F_law12FolioMost1.l1 Γ)) [x0, x1, x2]) noN (xk 0 (c1 fun q6_0 =>
  ret q6_0) noX) ret

set_option maxRecDepth 100000 in
theorem rf_law12FolioMost1 (Γ : Funs) (x0 x1 x2 : Value) : runF Tryz.prog Γ Tryz.f16 lv_law12FolioMost1 [x0, x1, x2] = F_law12FolioMost1 Γ x0 x1 x2 := by kernel_rfl

theorem run_law12FolioMost1 {prim : FuncId → Option (List Value → M Value)} (hp : prim n_law12FolioMost1 = none) (n : Nat) (x0 x1 x2 : Value) : run Tryz.prog prim lvs (n + 1) n_law12FolioMost1 [x0, x1, x2] = F_law12FolioMost1 (run Tryz.prog prim lvs n) x0 x1 x2 :=
  (run_fn hp (by kernel_rfl) Tryz.func16 (by kernel_rfl)).trans (rf_law12FolioMost1 _ x0 x1 x2)

/-- interrex/newer.Of: a round. -/
noncomputable def F_newerOf.l1 (Γ : Funs) (s0 s7 s23 s24 s25 : Value) : M Out :=
  bind (bop .int .lss s25 s24) fun v26x5 =>
  cnd v26x5
  (bind (ixa 1 s23 s25) fun v27x6 =>
  bind (ld1 v27x6) fun v28x7 =>
  bind (nilc s7) fun v30x8 =>
  bind (fa 2 v30x8) fun v31x9 =>
  bind (ld1 v31x9) fun v32x10 =>
  bind (Γ n_groupGroupsMake [v32x10, v28x7]) fun v34x11 =>
  bind (bop .int .add s25 (Value.int .i64 1)) fun v35x12 =>
  ret (.nrm [s0, s7, s23, s24, v35x12]))
  (ret (.ext 0 [s0, s7]))

/-- interrex/newer.Of: a round. -/
noncomputable def F_newerOf.l3 (Γ : Funs) (s7 s11 s36 s37 s38 s54 s55 s56 : Value) : M Out :=
  bind (bop .int .lss s56 s55) fun v57x33 =>
  cnd v57x33
  (bind (ixa 1 s54 s56) fun v58x34 =>
  bind (ld1 v58x34) fun v59x35 =>
  bind (nilc s7) fun v61x36 =>
  bind (fa 2 v61x36) fun v62x37 =>
  bind (ld1 v62x37) fun v63x38 =>
  bind (fa 0 s11) fun v65x39 =>
  bind (ld1 v65x39) fun v66x40 =>
  bind (Γ n_groupGroupsJoin [v63x38, v59x35, v66x40]) fun v67x41 =>
  bind (bop .int .neq v67x41 (Value.int .i64 0)) fun v69x42 =>
  cnd v69x42
  (ret (.ret (Value.tuple #[(Value.pointer none), v67x41])))
  (bind (bop .int .add s56 (Value.int .i64 1)) fun v71x43 =>
  ret (.nrm [s7, s11, s36, s37, s38, s54, s55, v71x43])))
  (ret (.ext 4 [s7, s11, s36, s37, s38]))

/-- interrex/newer.Of: a round. -/
noncomputable def F_newerOf.l2 (Γ : Funs) (s7 s36 s37 s38 : Value) : M Out :=
  bind (bop .int .lss s38 s37) fun v39x16 =>
  cnd v39x16
  (bind (ixa 5 s36 s38) fun v40x17 =>
  bind (ldA 5 v40x17) fun v41x18 =>
  bind (alc 1 (.agg #[.string ⟨#[]⟩, .string ⟨#[]⟩, .string ⟨#[]⟩, .bool false, .slice none 0 0])) fun v11x19 =>
  bind (stA 5 v11x19 v41x18) fun _ =>
  bind (nilc s7) fun v43x20 =>
  bind (fa 0 v43x20) fun v44x21 =>
  bind (ld1 v44x21) fun v45x22 =>
  bind (fa 0 v11x19) fun v46x23 =>
  bind (ld1 v46x23) fun v47x24 =>
  bind (fa 1 v11x19) fun v48x25 =>
  bind (ld1 v48x25) fun v49x26 =>
  bind (fa 3 v11x19) fun v50x27 =>
  bind (ld1 v50x27) fun v51x28 =>
  bind (bld (.agg #[.string ⟨#[]⟩, .bool false]) [(0, 1, v49x26), (1, 1, v51x28)]) fun v52x29 =>
  bind (mup .str v45x22 v47x24 v52x29) fun _ =>
  bind (fa 4 v11x19) fun v53x30 =>
  bind (ld1 v53x30) fun v54x31 =>
  bind (lenS v54x31) fun v55x32 =>
  jn (loopM (c8 (F_newerOf.l3 Γ)) [s7, v11x19, s36, s37, s38, v54x31, v55x32, (Value.int .i64 0)]) noN (xk 4 (c5 fun q45_0 q45_1 q45_2 q45_3 q45_4 =>
  bind (nilc q45_0) fun v73x46 =>
  bind (fa 1 v73x46) fun v74x47 =>
  bind (ld1 v74x47) fun v75x48 =>
  bind (fa 0 q45_1) fun v76x49 =>
  bind (ld1 v76x49) fun v77x50 =>
  bind (fa 2 q45_1) fun v78x51 =>
  bind (ld1 v78x51) fun v79x52 =>
  bind (Γ n_mailIndexSet [v75x48, v77x50, v79x52]) fun v80x53 =>
  bind (bop .int .neq v80x53 (Value.int .i64 0)) fun v82x54 =>
  cnd v82x54
  (ret (.ret (Value.tuple #[(Value.pointer none), v80x53])))
  (bind (bop .int .add q45_4 (Value.int .i64 1)) fun v84x55 =>
  ret (.nrm [q45_0, q45_2, q45_3, v84x55]))) noX) retR)
  (ret (.ext 2 [s7]))

/-- interrex/newer.Of -/
noncomputable def F_newerOf (Γ : Funs) (x0 x1 : Value) : M Value :=
  bind (Γ n_newerCheck [x0, x1]) fun v18x1 =>
  bind (bop .int .neq v18x1 (Value.int .i64 0)) fun v20x2 =>
  cnd v20x2
  (ret (Value.tuple #[(Value.pointer none), v18x1]))
  (bind (Γ n_newerNew []) fun v22x3 =>
  bind (lenS x1) fun v24x4 =>
  jn (loopM (c5 (F_newerOf.l1 Γ)) [x0, v22x3, x1, v24x4, (Value.int .i64 0)]) noN (xk 0 (c2 fun q14_0 q14_1 =>
  bind (lenS q14_0) fun v37x15 =>
  jn (loopM (c4 (F_newerOf.l2 Γ)) [q14_1, q14_0, v37x15, (Value.int .i64 0)]) noN (xk 2 (c1 fun q58_0 =>
  ret (Value.tuple #[q58_0, (Value.int .i64 0)])) noX) ret) noX) ret)

set_option maxRecDepth 100000 in
theorem rf_newerOf (Γ : Funs) (x0 x1 : Value) : runF Tryz.prog Γ Tryz.f17 lv_newerOf [x0, x1] = F_newerOf Γ x0 x1 := by kernel_rfl

theorem run_newerOf {prim : FuncId → Option (List Value → M Value)} (hp : prim n_newerOf = none) (n : Nat) (x0 x1 : Value) : run Tryz.prog prim lvs (n + 1) n_newerOf [x0, x1] = F_newerOf (run Tryz.prog prim lvs n) x0 x1 :=
  (run_fn hp (by kernel_rfl) Tryz.func17 (by kernel_rfl)).trans (rf_newerOf _ x0 x1)

/-- interrex/folio.Bytes: a round. -/
noncomputable def F_folioBytes.l1 (Γ : Funs) (s3 s19 s20 s21 : Value) : M Out :=
  bind (bop .int .lss s21 s20) fun v22x12 =>
  cnd v22x12
  (bind (ixa 5 s19 s21) fun v23x13 =>
  bind (ldA 5 v23x13) fun v24x14 =>
  bind (alc 1 (.agg #[.string ⟨#[]⟩, .string ⟨#[]⟩, .string ⟨#[]⟩, .bool false, .slice none 0 0])) fun v5x15 =>
  bind (stA 5 v5x15 v24x14) fun _ =>
  bind (ldA 5 v5x15) fun v26x16 =>
  bind (Γ n_userPut [s3, (Value.int .i64 2), v26x16]) fun v27x17 =>
  bind (bop .int .add s21 (Value.int .i64 1)) fun v28x18 =>
  ret (.nrm [s3, s19, s20, v28x18]))
  (ret (.ext 0 [s3]))

/-- interrex/folio.Bytes -/
noncomputable def F_folioBytes (Γ : Funs) (x0 : Value) : M Value :=
  bind (bop .ptr .eql x0 (Value.pointer none)) fun v7x1 =>
  cnd v7x1
  (ret (Value.slice none 0 0))
  (bind (bld (.agg #[.slice none 0 0]) []) fun v8x2 =>
  bind (alc 1 v8x2) fun v9x3 =>
  bind (Γ n_octetWriterByte [v9x3, (Value.int .u8 2)]) fun v10x4 =>
  bind (Γ n_newerDirGroups [x0]) fun v12x5 =>
  bind (Γ n_octetWriterRow [v10x4, v12x5]) fun v13x6 =>
  bind (Γ n_newerDirLen [x0]) fun v15x7 =>
  bind (cvi .u16 v15x7) fun v16x8 =>
  bind (Γ n_octetWriterTwo [v13x6, v16x8]) fun v17x9 =>
  bind (Γ n_newerDirAll [x0]) fun v19x10 =>
  bind (lenS v19x10) fun v20x11 =>
  jn (loopM (c4 (F_folioBytes.l1 Γ)) [v17x9, v19x10, v20x11, (Value.int .i64 0)]) noN (xk 0 (c1 fun q20_0 =>
  bind (Γ n_octetWriterBytes [q20_0]) fun v30x21 =>
  ret v30x21) noX) ret)

set_option maxRecDepth 100000 in
theorem rf_folioBytes (Γ : Funs) (x0 : Value) : runF Tryz.prog Γ Tryz.f18 lv_folioBytes [x0] = F_folioBytes Γ x0 := by kernel_rfl

theorem run_folioBytes {prim : FuncId → Option (List Value → M Value)} (hp : prim n_folioBytes = none) (n : Nat) (x0 : Value) : run Tryz.prog prim lvs (n + 1) n_folioBytes [x0] = F_folioBytes (run Tryz.prog prim lvs n) x0 :=
  (run_fn hp (by kernel_rfl) Tryz.func18 (by kernel_rfl)).trans (rf_folioBytes _ x0)

/-- interrex/folio.Most -/
noncomputable def F_folioMost (Γ : Funs) : M Value :=
  ret (Value.int .i64 1733)

set_option maxRecDepth 100000 in
theorem rf_folioMost (Γ : Funs) : runF Tryz.prog Γ Tryz.f19 lv_folioMost [] = F_folioMost Γ  := by kernel_rfl

theorem run_folioMost {prim : FuncId → Option (List Value → M Value)} (hp : prim n_folioMost = none) (n : Nat) : run Tryz.prog prim lvs (n + 1) n_folioMost [] = F_folioMost (run Tryz.prog prim lvs n)  :=
  (run_fn hp (by kernel_rfl) Tryz.func19 (by kernel_rfl)).trans (rf_folioMost _ )

/-- interrex/elder.New -/
noncomputable def F_elderNew (Γ : Funs) : M Value :=
  bind (mkm) fun v1x1 =>
  bind (bld (.agg #[.map none]) [(0, 1, v1x1)]) fun v2x2 =>
  bind (alc 1 v2x2) fun v3x3 =>
  ret v3x3

set_option maxRecDepth 100000 in
theorem rf_elderNew (Γ : Funs) : runF Tryz.prog Γ Tryz.f20 lv_elderNew [] = F_elderNew Γ  := by kernel_rfl

theorem run_elderNew {prim : FuncId → Option (List Value → M Value)} (hp : prim n_elderNew = none) (n : Nat) : run Tryz.prog prim lvs (n + 1) n_elderNew [] = F_elderNew (run Tryz.prog prim lvs n)  :=
  (run_fn hp (by kernel_rfl) Tryz.func20 (by kernel_rfl)).trans (rf_elderNew _ )

/-- interrex/octet.Of -/
noncomputable def F_octetOf (Γ : Funs) (x0 : Value) : M Value :=
  bind (Γ n_bytesClone [x0]) fun v4x1 =>
  bind (bld (.agg #[.slice none 0 0, .int .i64 0]) [(0, 1, v4x1)]) fun v5x2 =>
  bind (alc 1 v5x2) fun v6x3 =>
  ret v6x3

set_option maxRecDepth 100000 in
theorem rf_octetOf (Γ : Funs) (x0 : Value) : runF Tryz.prog Γ Tryz.f21 lv_octetOf [x0] = F_octetOf Γ x0 := by kernel_rfl

theorem run_octetOf {prim : FuncId → Option (List Value → M Value)} (hp : prim n_octetOf = none) (n : Nat) (x0 : Value) : run Tryz.prog prim lvs (n + 1) n_octetOf [x0] = F_octetOf (run Tryz.prog prim lvs n) x0 :=
  (run_fn hp (by kernel_rfl) Tryz.func21 (by kernel_rfl)).trans (rf_octetOf _ x0)

/-- (*interrex/octet.Reader).Byte -/
noncomputable def F_octetReaderByte (Γ : Funs) (x0 : Value) : M Value :=
  bind (Γ n_octetReaderNum [x0, (Value.int .i64 1)]) fun v4x1 =>
  bind (cvi .u8 v4x1) fun v5x2 =>
  ret v5x2

set_option maxRecDepth 100000 in
theorem rf_octetReaderByte (Γ : Funs) (x0 : Value) : runF Tryz.prog Γ Tryz.f22 lv_octetReaderByte [x0] = F_octetReaderByte Γ x0 := by kernel_rfl

theorem run_octetReaderByte {prim : FuncId → Option (List Value → M Value)} (hp : prim n_octetReaderByte = none) (n : Nat) (x0 : Value) : run Tryz.prog prim lvs (n + 1) n_octetReaderByte [x0] = F_octetReaderByte (run Tryz.prog prim lvs n) x0 :=
  (run_fn hp (by kernel_rfl) Tryz.func22 (by kernel_rfl)).trans (rf_octetReaderByte _ x0)

/-- (*interrex/octet.Reader).Err -/
noncomputable def F_octetReaderErr (Γ : Funs) (x0 : Value) : M Value :=
  bind (nilc x0) fun v4x1 =>
  bind (fa 1 v4x1) fun v5x2 =>
  bind (ld1 v5x2) fun v6x3 =>
  ret v6x3

set_option maxRecDepth 100000 in
theorem rf_octetReaderErr (Γ : Funs) (x0 : Value) : runF Tryz.prog Γ Tryz.f23 lv_octetReaderErr [x0] = F_octetReaderErr Γ x0 := by kernel_rfl

theorem run_octetReaderErr {prim : FuncId → Option (List Value → M Value)} (hp : prim n_octetReaderErr = none) (n : Nat) (x0 : Value) : run Tryz.prog prim lvs (n + 1) n_octetReaderErr [x0] = F_octetReaderErr (run Tryz.prog prim lvs n) x0 :=
  (run_fn hp (by kernel_rfl) Tryz.func23 (by kernel_rfl)).trans (rf_octetReaderErr _ x0)

/-- (*interrex/octet.Reader).Two -/
noncomputable def F_octetReaderTwo (Γ : Funs) (x0 : Value) : M Value :=
  bind (Γ n_octetReaderNum [x0, (Value.int .i64 2)]) fun v4x1 =>
  bind (cvi .u16 v4x1) fun v5x2 =>
  ret v5x2

set_option maxRecDepth 100000 in
theorem rf_octetReaderTwo (Γ : Funs) (x0 : Value) : runF Tryz.prog Γ Tryz.f24 lv_octetReaderTwo [x0] = F_octetReaderTwo Γ x0 := by kernel_rfl

theorem run_octetReaderTwo {prim : FuncId → Option (List Value → M Value)} (hp : prim n_octetReaderTwo = none) (n : Nat) (x0 : Value) : run Tryz.prog prim lvs (n + 1) n_octetReaderTwo [x0] = F_octetReaderTwo (run Tryz.prog prim lvs n) x0 :=
  (run_fn hp (by kernel_rfl) Tryz.func24 (by kernel_rfl)).trans (rf_octetReaderTwo _ x0)

/-- (*interrex/octet.Reader).Fail -/
noncomputable def F_octetReaderFail (Γ : Funs) (x0 x1 : Value) : M Value :=
  bind (nilc x0) fun v5x1 =>
  bind (fa 1 v5x1) fun v6x2 =>
  bind (ld1 v6x2) fun v7x3 =>
  bind (bop .int .eql v7x3 (Value.int .i64 0)) fun v8x4 =>
  bind (gate v8x4 true 2 (bind (bop .int .neq x1 (Value.int .i64 0)) fun v11x5 =>
  ret [x1, v11x5])) (c2 fun _ q6_1 =>
  bind (pick v8x4 q6_1 (Value.bool false)) fun v12x7 =>
  jn (cnd v12x7
  (bind (nilc x0) fun v16x8 =>
  bind (fa 0 v16x8) fun v17x9 =>
  bind (st1 v17x9 (Value.slice none 0 0)) fun _ =>
  bind (nilc x0) fun v18x10 =>
  bind (fa 1 v18x10) fun v19x11 =>
  bind (st1 v19x11 x1) fun _ =>
  ret (.nrm []))
  (ret (.nrm []))) (c0 (ret (Value.tuple #[]))) noX ret)

set_option maxRecDepth 100000 in
theorem rf_octetReaderFail (Γ : Funs) (x0 x1 : Value) : runF Tryz.prog Γ Tryz.f25 lv_octetReaderFail [x0, x1] = F_octetReaderFail Γ x0 x1 := by kernel_rfl

theorem run_octetReaderFail {prim : FuncId → Option (List Value → M Value)} (hp : prim n_octetReaderFail = none) (n : Nat) (x0 x1 : Value) : run Tryz.prog prim lvs (n + 1) n_octetReaderFail [x0, x1] = F_octetReaderFail (run Tryz.prog prim lvs n) x0 x1 :=
  (run_fn hp (by kernel_rfl) Tryz.func25 (by kernel_rfl)).trans (rf_octetReaderFail _ x0 x1)

/-- interrex/user.Get -/
noncomputable def F_userGet (Γ : Funs) (x0 x1 : Value) : M Value :=
  bind (alc 1 (.agg #[.string ⟨#[]⟩, .string ⟨#[]⟩, .string ⟨#[]⟩, .bool false, .slice none 0 0])) fun v4x1 =>
  bind (bop .int .neq x1 (Value.int .i64 1)) fun v7x2 =>
  bind (gate v7x2 true 2 (bind (bop .int .neq x1 (Value.int .i64 2)) fun v10x3 =>
  ret [x1, v10x3])) (c2 fun _ q4_1 =>
  bind (pick v7x2 q4_1 (Value.bool false)) fun v11x5 =>
  cnd v11x5
  (bind (Γ n_octetReaderFail [x0, (Value.int .i64 6)]) fun v13x6 =>
  bind (bld (.agg #[.string ⟨#[]⟩, .string ⟨#[]⟩, .string ⟨#[]⟩, .bool false, .slice none 0 0]) []) fun v14x7 =>
  bind (stA 5 v4x1 v14x7) fun _ =>
  bind (ldA 5 v4x1) fun vrx8 =>
  ret vrx8)
  (bind (Γ n_octetReaderText [x0, (Value.int .i64 65535)]) fun v16x9 =>
  bind (Γ n_octetReaderText [x0, (Value.int .i64 65535)]) fun v18x10 =>
  bind (bld (.agg #[.string ⟨#[]⟩, .string ⟨#[]⟩, .string ⟨#[]⟩, .bool false, .slice none 0 0]) [(0, 1, v16x9), (1, 1, v18x10)]) fun v19x11 =>
  bind (alc 1 (.agg #[.string ⟨#[]⟩, .string ⟨#[]⟩, .string ⟨#[]⟩, .bool false, .slice none 0 0])) fun v5x12 =>
  bind (stA 5 v5x12 v19x11) fun _ =>
  bind (bop .int .eql x1 (Value.int .i64 2)) fun v21x13 =>
  jn (cnd v21x13
  (bind (Γ n_octetReaderText [x0, (Value.int .i64 65535)]) fun v23x14 =>
  bind (Γ n_octetReaderTruth [x0]) fun v25x15 =>
  bind (Γ n_octetReaderRow [x0, (Value.int .i64 65535), (Value.int .i64 65535)]) fun v27x16 =>
  bind (fa 2 v5x12) fun v28x17 =>
  bind (st1 v28x17 v23x14) fun _ =>
  bind (fa 3 v5x12) fun v29x18 =>
  bind (st1 v29x18 v25x15) fun _ =>
  bind (fa 4 v5x12) fun v30x19 =>
  bind (st1 v30x19 v27x16) fun _ =>
  ret (.nrm [x0, x1, v4x1, v5x12]))
  (ret (.nrm [x0, x1, v4x1, v5x12]))) (c4 fun q20_0 q20_1 q20_2 q20_3 =>
  bind (Γ n_octetReaderErr [q20_0]) fun v32x21 =>
  bind (bop .int .eql v32x21 (Value.int .i64 0)) fun v33x22 =>
  jn (cnd v33x22
  (bind (ldA 5 q20_3) fun v36x23 =>
  bind (Γ n_userCheck [q20_1, v36x23]) fun v37x24 =>
  bind (Γ n_octetReaderFail [q20_0, v37x24]) fun v38x25 =>
  ret (.nrm [q20_0, q20_2, q20_3]))
  (ret (.nrm [q20_0, q20_2, q20_3]))) (c3 fun q26_0 q26_1 q26_2 =>
  bind (Γ n_octetReaderErr [q26_0]) fun v40x27 =>
  bind (bop .int .neq v40x27 (Value.int .i64 0)) fun v41x28 =>
  cnd v41x28
  (bind (bld (.agg #[.string ⟨#[]⟩, .string ⟨#[]⟩, .string ⟨#[]⟩, .bool false, .slice none 0 0]) []) fun v42x29 =>
  bind (stA 5 q26_1 v42x29) fun _ =>
  bind (ldA 5 q26_1) fun vrx30 =>
  ret vrx30)
  (bind (ldA 5 q26_2) fun v43x31 =>
  bind (stA 5 q26_1 v43x31) fun _ =>
  bind (ldA 5 q26_1) fun vrx32 =>
  ret vrx32)) noX ret) noX ret))

set_option maxRecDepth 100000 in
theorem rf_userGet (Γ : Funs) (x0 x1 : Value) : runF Tryz.prog Γ Tryz.f26 lv_userGet [x0, x1] = F_userGet Γ x0 x1 := by kernel_rfl

theorem run_userGet {prim : FuncId → Option (List Value → M Value)} (hp : prim n_userGet = none) (n : Nat) (x0 x1 : Value) : run Tryz.prog prim lvs (n + 1) n_userGet [x0, x1] = F_userGet (run Tryz.prog prim lvs n) x0 x1 :=
  (run_fn hp (by kernel_rfl) Tryz.func26 (by kernel_rfl)).trans (rf_userGet _ x0 x1)

/-- interrex/elder.Of: a round. -/
noncomputable def F_elderOf.l1 (Γ : Funs) (s0 s4 s11 s12 s13 : Value) : M Out :=
  bind (bop .int .lss s13 s12) fun v14x3 =>
  cnd v14x3
  (bind (ixa 5 s11 s13) fun v15x4 =>
  bind (ldA 5 v15x4) fun v16x5 =>
  bind (alc 1 (.agg #[.string ⟨#[]⟩, .string ⟨#[]⟩, .string ⟨#[]⟩, .bool false, .slice none 0 0])) fun v6x6 =>
  bind (stA 5 v6x6 v16x5) fun _ =>
  bind (ldA 5 v6x6) fun v17x7 =>
  bind (Γ n_userCheck [(Value.int .i64 1), v17x7]) fun v18x8 =>
  bind (bop .int .neq v18x8 (Value.int .i64 0)) fun v20x9 =>
  cnd v20x9
  (ret (.ret (Value.tuple #[(Value.pointer none), v18x8])))
  (bind (bop .int .add s13 (Value.int .i64 1)) fun v22x10 =>
  ret (.nrm [s0, s4, s11, s12, v22x10])))
  (ret (.ext 0 [s0, s4]))

/-- interrex/elder.Of: a round. -/
noncomputable def F_elderOf.l2 (Γ : Funs) (s0 s4 s23 s24 s25 : Value) : M Out :=
  bind (bop .int .lss s25 s24) fun v26x14 =>
  cnd v26x14
  (bind (ixa 5 s23 s25) fun v28x15 =>
  bind (ldA 5 v28x15) fun v29x16 =>
  bind (alc 1 (.agg #[.string ⟨#[]⟩, .string ⟨#[]⟩, .string ⟨#[]⟩, .bool false, .slice none 0 0])) fun v9x17 =>
  bind (stA 5 v9x17 v29x16) fun _ =>
  bind (bop .int .gtr s25 (Value.int .i64 0)) fun v31x18 =>
  bind (gateV v31x18 true (ret s0)) fun v33x19 =>
  bind (gateV v31x18 true (ret s25)) fun v34x20 =>
  bind (gateV v31x18 true (bop .int .sub v34x20 (Value.int .i64 1))) fun v35x21 =>
  bind (gateV v31x18 true (ixa 5 v33x19 v35x21)) fun v36x22 =>
  bind (gateV v31x18 true (fa 0 v36x22)) fun v37x23 =>
  bind (gateV v31x18 true (ld1 v37x23)) fun v38x24 =>
  bind (gateV v31x18 true (fa 0 v9x17)) fun v39x25 =>
  bind (gateV v31x18 true (ld1 v39x25)) fun v40x26 =>
  bind (gateV v31x18 true (Γ n_nameCompare [v38x24, v40x26])) fun v41x27 =>
  bind (gateV v31x18 true (bop .int .geq v41x27 (Value.int .i64 0))) fun v42x28 =>
  bind (pick v31x18 v42x28 (Value.bool false)) fun v43x29 =>
  cnd v43x29
  (ret (.ret (Value.tuple #[(Value.pointer none), (Value.int .i64 9)])))
  (bind (nilc s4) fun v45x30 =>
  bind (fa 0 v45x30) fun v46x31 =>
  bind (ld1 v46x31) fun v47x32 =>
  bind (fa 0 v9x17) fun v48x33 =>
  bind (ld1 v48x33) fun v49x34 =>
  bind (fa 1 v9x17) fun v50x35 =>
  bind (ld1 v50x35) fun v51x36 =>
  bind (mup .str v47x32 v49x34 v51x36) fun _ =>
  bind (bop .int .add s25 (Value.int .i64 1)) fun v52x37 =>
  ret (.nrm [s0, s4, s23, s24, v52x37])))
  (ret (.ext 2 [s0, s4]))

/-- interrex/elder.Of -/
noncomputable def F_elderOf (Γ : Funs) (x0 : Value) : M Value :=
  bind (Γ n_elderNew []) fun v10x1 =>
  bind (lenS x0) fun v12x2 =>
  jn (loopM (c5 (F_elderOf.l1 Γ)) [x0, v10x1, x0, v12x2, (Value.int .i64 0)]) noN (xk 0 (c2 fun q12_0 q12_1 =>
  bind (lenS q12_0) fun v24x13 =>
  jn (loopM (c5 (F_elderOf.l2 Γ)) [q12_0, q12_1, q12_0, v24x13, (Value.int .i64 0)]) noN (xk 2 (c2 fun q39_0 q39_1 =>
  bind (lenS q39_0) fun v54x40 =>
  bind (bop .int .gtr v54x40 (Value.int .i64 12)) fun v55x41 =>
  cnd v55x41
  (ret (Value.tuple #[(Value.pointer none), (Value.int .i64 7)]))
  (ret (Value.tuple #[q39_1, (Value.int .i64 0)]))) noX) ret) noX) ret

set_option maxRecDepth 100000 in
theorem rf_elderOf (Γ : Funs) (x0 : Value) : runF Tryz.prog Γ Tryz.f27 lv_elderOf [x0] = F_elderOf Γ x0 := by kernel_rfl

theorem run_elderOf {prim : FuncId → Option (List Value → M Value)} (hp : prim n_elderOf = none) (n : Nat) (x0 : Value) : run Tryz.prog prim lvs (n + 1) n_elderOf [x0] = F_elderOf (run Tryz.prog prim lvs n) x0 :=
  (run_fn hp (by kernel_rfl) Tryz.func27 (by kernel_rfl)).trans (rf_elderOf _ x0)

/-- (*interrex/octet.Reader).End -/
noncomputable def F_octetReaderEnd (Γ : Funs) (x0 : Value) : M Value :=
  bind (nilc x0) fun v4x1 =>
  bind (fa 1 v4x1) fun v5x2 =>
  bind (ld1 v5x2) fun v6x3 =>
  bind (bop .int .eql v6x3 (Value.int .i64 0)) fun v7x4 =>
  bind (gate v7x4 true 6 (bind (nilc x0) fun v10x5 =>
  bind (fa 0 v10x5) fun v11x6 =>
  bind (ld1 v11x6) fun v12x7 =>
  bind (lenS v12x7) fun v13x8 =>
  bind (bop .int .gtr v13x8 (Value.int .i64 0)) fun v14x9 =>
  ret [x0, v10x5, v11x6, v12x7, v13x8, v14x9])) (c6 fun _ _ _ _ _ q10_5 =>
  bind (pick v7x4 q10_5 (Value.bool false)) fun v15x11 =>
  cnd v15x11
  (ret (Value.int .i64 3))
  (bind (nilc x0) fun v17x12 =>
  bind (fa 1 v17x12) fun v18x13 =>
  bind (ld1 v18x13) fun v19x14 =>
  ret v19x14))

set_option maxRecDepth 100000 in
theorem rf_octetReaderEnd (Γ : Funs) (x0 : Value) : runF Tryz.prog Γ Tryz.f28 lv_octetReaderEnd [x0] = F_octetReaderEnd Γ x0 := by kernel_rfl

theorem run_octetReaderEnd {prim : FuncId → Option (List Value → M Value)} (hp : prim n_octetReaderEnd = none) (n : Nat) (x0 : Value) : run Tryz.prog prim lvs (n + 1) n_octetReaderEnd [x0] = F_octetReaderEnd (run Tryz.prog prim lvs n) x0 :=
  (run_fn hp (by kernel_rfl) Tryz.func28 (by kernel_rfl)).trans (rf_octetReaderEnd _ x0)

/-- interrex/interrexref08.GetUsers: a round. -/
noncomputable def F_ref08GetUsers.l1 (Γ : Funs) (s1 s2 s4 s7 s24 s25 : Value) : M Out :=
  bind (bop .int .lss s25 s24) fun v26x16 =>
  cnd v26x16
  (bind (ldA 2 s2) fun v28x17 =>
  bind (Γ n_ref06Get [v28x17, s1]) fun v30x18 =>
  bind (extr v30x18 0) fun v31x19 =>
  bind (extr v30x18 1) fun v32x20 =>
  bind (alc 1 (.agg #[.string ⟨#[]⟩, .int .i64 0])) fun v8x21 =>
  bind (alc 1 (.agg #[.string ⟨#[]⟩, .string ⟨#[]⟩, .string ⟨#[]⟩, .bool false, .slice none 0 0])) fun v9x22 =>
  bind (stA 2 v8x21 v31x19) fun _ =>
  bind (stA 5 v9x22 v32x20) fun _ =>
  bind (ldA 2 v8x21) fun v33x23 =>
  bind (stA 2 s2 v33x23) fun _ =>
  bind (ldA 5 v9x22) fun v35x24 =>
  bind (bsl 5 1 (.agg #[.string ⟨#[]⟩, .string ⟨#[]⟩, .string ⟨#[]⟩, .bool false, .slice none 0 0]) [(0, 5, v35x24)]) fun v36x25 =>
  bind (app 5 80 s7 v36x25) fun v37x26 =>
  bind (bop .int .add s25 (Value.int .u64 1)) fun v38x27 =>
  ret (.nrm [s1, s2, s4, v37x26, s24, v38x27]))
  (ret (.ext 0 [s1, s2, s4, s7]))

/-- interrex/interrexref08.GetUsers -/
noncomputable def F_ref08GetUsers (Γ : Funs) (x0 x1 : Value) : M Value :=
  bind (alc 1 x0) fun v2x1 =>
  bind (alc 1 (.agg #[.string ⟨#[]⟩, .int .i64 0])) fun v4x2 =>
  bind (ldA 2 v2x1) fun v11x3 =>
  bind (Γ n_ref01Get [v11x3, (Value.int .i64 2)]) fun v12x4 =>
  bind (extr v12x4 0) fun v13x5 =>
  bind (extr v12x4 1) fun v14x6 =>
  bind (stA 2 v2x1 v13x5) fun _ =>
  bind (fa 1 v2x1) fun v15x7 =>
  bind (ld1 v15x7) fun v16x8 =>
  bind (bop .int .eql v16x8 (Value.int .i64 0)) fun v17x9 =>
  bind (gate v17x9 true 2 (bind (bop .int .gtr v14x6 (Value.int .u64 12)) fun v20x10 =>
  ret [v14x6, v20x10])) (c2 fun _ q11_1 =>
  bind (pick v17x9 q11_1 (Value.bool false)) fun v21x12 =>
  cnd v21x12
  (bind (ldA 2 v2x1) fun v22x13 =>
  bind (Γ n_ref01Fail [v22x13, (Value.int .i64 7)]) fun v23x14 =>
  bind (stA 2 v4x2 v23x14) fun _ =>
  bind (ldA 2 v4x2) fun vrx15 =>
  ret (Value.tuple #[vrx15, (Value.slice none 0 0)]))
  (jn (loopM (c6 (F_ref08GetUsers.l1 Γ)) [x1, v2x1, v4x2, (Value.slice none 0 0), v14x6, (Value.int .u64 0)]) noN (xk 0 (c4 fun q29_0 q29_1 q29_2 q29_3 =>
  bind (fa 1 q29_1) fun v39x30 =>
  bind (ld1 v39x30) fun v40x31 =>
  bind (bop .int .eql v40x31 (Value.int .i64 0)) fun v41x32 =>
  jn (cnd v41x32
  (bind (ldA 2 q29_1) fun v42x33 =>
  bind (Γ n_ref07Of [q29_3, q29_0]) fun v45x34 =>
  bind (ldA 2 q29_1) fun u_35 => same u_35 v42x33 <|
  bind (Γ n_ref01Fail [v42x33, v45x34]) fun v46x36 =>
  bind (stA 2 q29_1 v46x36) fun _ =>
  ret (.nrm [q29_1, q29_2, q29_3]))
  (ret (.nrm [q29_1, q29_2, q29_3]))) (c3 fun q37_0 q37_1 q37_2 =>
  bind (fa 1 q37_0) fun v47x38 =>
  bind (ld1 v47x38) fun v48x39 =>
  bind (bop .int .neq v48x39 (Value.int .i64 0)) fun v49x40 =>
  cnd v49x40
  (bind (ldA 2 q37_0) fun v50x41 =>
  bind (stA 2 q37_1 v50x41) fun _ =>
  bind (ldA 2 q37_1) fun vrx42 =>
  ret (Value.tuple #[vrx42, (Value.slice none 0 0)]))
  (bind (ldA 2 q37_0) fun v51x43 =>
  bind (stA 2 q37_1 v51x43) fun _ =>
  bind (ldA 2 q37_1) fun vrx44 =>
  ret (Value.tuple #[vrx44, q37_2]))) noX ret) noX) ret))

set_option maxRecDepth 100000 in
theorem rf_ref08GetUsers (Γ : Funs) (x0 x1 : Value) : runF Tryz.prog Γ Tryz.f29 lv_ref08GetUsers [x0, x1] = F_ref08GetUsers Γ x0 x1 := by kernel_rfl

theorem run_ref08GetUsers {prim : FuncId → Option (List Value → M Value)} (hp : prim n_ref08GetUsers = none) (n : Nat) (x0 x1 : Value) : run Tryz.prog prim lvs (n + 1) n_ref08GetUsers [x0, x1] = F_ref08GetUsers (run Tryz.prog prim lvs n) x0 x1 :=
  (run_fn hp (by kernel_rfl) Tryz.func29 (by kernel_rfl)).trans (rf_ref08GetUsers _ x0 x1)

/-- interrex/interrexref06.Same: a round. -/
noncomputable def F_ref06Same.l1 (Γ : Funs) (s2 s3 s43 s44 : Value) : M Out :=
  bind (bop .int .lss s44 s43) fun v45x41 =>
  cnd v45x41
  (bind (fa 4 s2) fun v47x42 =>
  bind (ld1 v47x42) fun v48x43 =>
  bind (ixa 1 v48x43 s44) fun v50x44 =>
  bind (ld1 v50x44) fun v51x45 =>
  bind (fa 4 s3) fun v52x46 =>
  bind (ld1 v52x46) fun v53x47 =>
  bind (ixa 1 v53x47 s44) fun v55x48 =>
  bind (ld1 v55x48) fun v56x49 =>
  bind (bop .str .neq v51x45 v56x49) fun v57x50 =>
  cnd v57x50
  (ret (.ret (Value.bool false)))
  (bind (bop .int .add s44 (Value.int .i64 1)) fun v58x51 =>
  ret (.nrm [s2, s3, s43, v58x51])))
  (ret (.ext 0 []))

/-- interrex/interrexref06.Same -/
noncomputable def F_ref06Same (Γ : Funs) (x0 x1 : Value) : M Value :=
  bind (alc 1 x0) fun v2x1 =>
  bind (alc 1 x1) fun v3x2 =>
  bind (fa 0 v2x1) fun v6x3 =>
  bind (ld1 v6x3) fun v7x4 =>
  bind (fa 0 v3x2) fun v8x5 =>
  bind (ld1 v8x5) fun v9x6 =>
  bind (bop .str .neq v7x4 v9x6) fun v10x7 =>
  bind (gate v10x7 false 5 (bind (fa 1 v2x1) fun v12x8 =>
  bind (ld1 v12x8) fun v13x9 =>
  bind (fa 1 v3x2) fun v14x10 =>
  bind (ld1 v14x10) fun v15x11 =>
  bind (bop .str .neq v13x9 v15x11) fun v16x12 =>
  ret [v12x8, v13x9, v14x10, v15x11, v16x12])) (c5 fun _ _ _ _ q13_4 =>
  bind (pick v10x7 (Value.bool true) q13_4) fun v17x14 =>
  bind (gate v17x14 false 5 (bind (fa 2 v2x1) fun v19x15 =>
  bind (ld1 v19x15) fun v20x16 =>
  bind (fa 2 v3x2) fun v21x17 =>
  bind (ld1 v21x17) fun v22x18 =>
  bind (bop .str .neq v20x16 v22x18) fun v23x19 =>
  ret [v19x15, v20x16, v21x17, v22x18, v23x19])) (c5 fun _ _ _ _ q20_4 =>
  bind (pick v17x14 (Value.bool true) q20_4) fun v24x21 =>
  bind (gate v24x21 false 5 (bind (fa 3 v2x1) fun v26x22 =>
  bind (ld1 v26x22) fun v27x23 =>
  bind (fa 3 v3x2) fun v28x24 =>
  bind (ld1 v28x24) fun v29x25 =>
  bind (bop .bool .neq v27x23 v29x25) fun v30x26 =>
  ret [v26x22, v27x23, v28x24, v29x25, v30x26])) (c5 fun _ _ _ _ q27_4 =>
  bind (pick v24x21 (Value.bool true) q27_4) fun v31x28 =>
  bind (gate v31x28 false 7 (bind (fa 4 v2x1) fun v33x29 =>
  bind (ld1 v33x29) fun v34x30 =>
  bind (lenS v34x30) fun v35x31 =>
  bind (fa 4 v3x2) fun v36x32 =>
  bind (ld1 v36x32) fun v37x33 =>
  bind (lenS v37x33) fun v38x34 =>
  bind (bop .int .neq v35x31 v38x34) fun v39x35 =>
  ret [v33x29, v34x30, v35x31, v36x32, v37x33, v38x34, v39x35])) (c7 fun _ _ _ _ _ _ q36_6 =>
  bind (pick v31x28 (Value.bool true) q36_6) fun v40x37 =>
  cnd v40x37
  (ret (Value.bool false))
  (bind (fa 4 v2x1) fun v41x38 =>
  bind (ld1 v41x38) fun v42x39 =>
  bind (lenS v42x39) fun v43x40 =>
  jn (loopM (c4 (F_ref06Same.l1 Γ)) [v2x1, v3x2, v43x40, (Value.int .i64 0)]) noN (xk 0 (c0 (ret (Value.bool true))) noX) ret)))))

set_option maxRecDepth 100000 in
theorem rf_ref06Same (Γ : Funs) (x0 x1 : Value) : runF Tryz.prog Γ Tryz.f30 lv_ref06Same [x0, x1] = F_ref06Same Γ x0 x1 := by kernel_rfl

theorem run_ref06Same {prim : FuncId → Option (List Value → M Value)} (hp : prim n_ref06Same = none) (n : Nat) (x0 x1 : Value) : run Tryz.prog prim lvs (n + 1) n_ref06Same [x0, x1] = F_ref06Same (run Tryz.prog prim lvs n) x0 x1 :=
  (run_fn hp (by kernel_rfl) Tryz.func30 (by kernel_rfl)).trans (rf_ref06Same _ x0 x1)

/-- (*interrex/elder.Dir).names -/
noncomputable def F_elderDirNames (Γ : Funs) (x0 : Value) : M Value :=
  bind (nilc x0) fun v4x1 =>
  bind (fa 0 v4x1) fun v5x2 =>
  bind (ld1 v5x2) fun v6x3 =>
  bind (Γ n_mapsKeysMapStringstringStringString [v6x3]) fun v7x4 =>
  bind (Γ n_slicesSortedFuncString [v7x4, (Value.func (.func 55) #[] #[])]) fun v8x5 =>
  ret v8x5

set_option maxRecDepth 100000 in
theorem rf_elderDirNames (Γ : Funs) (x0 : Value) : runF Tryz.prog Γ Tryz.f31 lv_elderDirNames [x0] = F_elderDirNames Γ x0 := by kernel_rfl

theorem run_elderDirNames {prim : FuncId → Option (List Value → M Value)} (hp : prim n_elderDirNames = none) (n : Nat) (x0 : Value) : run Tryz.prog prim lvs (n + 1) n_elderDirNames [x0] = F_elderDirNames (run Tryz.prog prim lvs n) x0 :=
  (run_fn hp (by kernel_rfl) Tryz.func31 (by kernel_rfl)).trans (rf_elderDirNames _ x0)

/-- (*interrex/octet.Writer).Byte -/
noncomputable def F_octetWriterByte (Γ : Funs) (x0 x1 : Value) : M Value :=
  bind (cvi .u64 x1) fun v7x1 =>
  bind (Γ n_octetWriterNum [x0, v7x1, (Value.int .i64 1)]) fun v8x2 =>
  ret v8x2

set_option maxRecDepth 100000 in
theorem rf_octetWriterByte (Γ : Funs) (x0 x1 : Value) : runF Tryz.prog Γ Tryz.f32 lv_octetWriterByte [x0, x1] = F_octetWriterByte Γ x0 x1 := by kernel_rfl

theorem run_octetWriterByte {prim : FuncId → Option (List Value → M Value)} (hp : prim n_octetWriterByte = none) (n : Nat) (x0 x1 : Value) : run Tryz.prog prim lvs (n + 1) n_octetWriterByte [x0, x1] = F_octetWriterByte (run Tryz.prog prim lvs n) x0 x1 :=
  (run_fn hp (by kernel_rfl) Tryz.func32 (by kernel_rfl)).trans (rf_octetWriterByte _ x0 x1)

/-- (*interrex/octet.Writer).Two -/
noncomputable def F_octetWriterTwo (Γ : Funs) (x0 x1 : Value) : M Value :=
  bind (cvi .u64 x1) fun v7x1 =>
  bind (Γ n_octetWriterNum [x0, v7x1, (Value.int .i64 2)]) fun v8x2 =>
  ret v8x2

set_option maxRecDepth 100000 in
theorem rf_octetWriterTwo (Γ : Funs) (x0 x1 : Value) : runF Tryz.prog Γ Tryz.f33 lv_octetWriterTwo [x0, x1] = F_octetWriterTwo Γ x0 x1 := by kernel_rfl

theorem run_octetWriterTwo {prim : FuncId → Option (List Value → M Value)} (hp : prim n_octetWriterTwo = none) (n : Nat) (x0 x1 : Value) : run Tryz.prog prim lvs (n + 1) n_octetWriterTwo [x0, x1] = F_octetWriterTwo (run Tryz.prog prim lvs n) x0 x1 :=
  (run_fn hp (by kernel_rfl) Tryz.func33 (by kernel_rfl)).trans (rf_octetWriterTwo _ x0 x1)

/-- (*interrex/elder.Dir).Len -/
noncomputable def F_elderDirLen (Γ : Funs) (x0 : Value) : M Value :=
  bind (nilc x0) fun v4x1 =>
  bind (fa 0 v4x1) fun v5x2 =>
  bind (ld1 v5x2) fun v6x3 =>
  bind (lenM v6x3) fun v7x4 =>
  ret v7x4

set_option maxRecDepth 100000 in
theorem rf_elderDirLen (Γ : Funs) (x0 : Value) : runF Tryz.prog Γ Tryz.f34 lv_elderDirLen [x0] = F_elderDirLen Γ x0 := by kernel_rfl

theorem run_elderDirLen {prim : FuncId → Option (List Value → M Value)} (hp : prim n_elderDirLen = none) (n : Nat) (x0 : Value) : run Tryz.prog prim lvs (n + 1) n_elderDirLen [x0] = F_elderDirLen (run Tryz.prog prim lvs n) x0 :=
  (run_fn hp (by kernel_rfl) Tryz.func34 (by kernel_rfl)).trans (rf_elderDirLen _ x0)

/-- interrex/user.Put -/
noncomputable def F_userPut (Γ : Funs) (x0 x1 x2 : Value) : M Value :=
  bind (alc 1 x2) fun v5x1 =>
  bind (ldA 5 v5x1) fun v8x2 =>
  bind (Γ n_userCheck [x1, v8x2]) fun v9x3 =>
  bind (bop .int .neq v9x3 (Value.int .i64 0)) fun v10x4 =>
  cnd v10x4
  (ret (Value.bool false))
  (bind (fa 0 v5x1) fun v12x5 =>
  bind (ld1 v12x5) fun v13x6 =>
  bind (fa 1 v5x1) fun v15x7 =>
  bind (ld1 v15x7) fun v16x8 =>
  bind (Γ n_octetWriterText [x0, v13x6]) fun v14x9 =>
  bind (ld1 v15x7) fun u_10 => same u_10 v16x8 <|
  bind (Γ n_octetWriterText [v14x9, v16x8]) fun v17x11 =>
  bind (bop .int .eql x1 (Value.int .i64 2)) fun v19x12 =>
  jn (cnd v19x12
  (bind (fa 2 v5x1) fun v21x13 =>
  bind (ld1 v21x13) fun v22x14 =>
  bind (fa 3 v5x1) fun v24x15 =>
  bind (ld1 v24x15) fun v25x16 =>
  bind (fa 4 v5x1) fun v27x17 =>
  bind (ld1 v27x17) fun v28x18 =>
  bind (Γ n_octetWriterText [x0, v22x14]) fun v23x19 =>
  bind (ld1 v27x17) fun u_20 => same u_20 v28x18 <|
  bind (ld1 v24x15) fun u_21 => same u_21 v25x16 <|
  bind (Γ n_octetWriterTruth [v23x19, v25x16]) fun v26x22 =>
  bind (ld1 v27x17) fun u_23 => same u_23 v28x18 <|
  bind (Γ n_octetWriterRow [v26x22, v28x18]) fun v29x24 =>
  ret (.nrm []))
  (ret (.nrm []))) (c0 (ret (Value.bool true))) noX ret)

set_option maxRecDepth 100000 in
theorem rf_userPut (Γ : Funs) (x0 x1 x2 : Value) : runF Tryz.prog Γ Tryz.f35 lv_userPut [x0, x1, x2] = F_userPut Γ x0 x1 x2 := by kernel_rfl

theorem run_userPut {prim : FuncId → Option (List Value → M Value)} (hp : prim n_userPut = none) (n : Nat) (x0 x1 x2 : Value) : run Tryz.prog prim lvs (n + 1) n_userPut [x0, x1, x2] = F_userPut (run Tryz.prog prim lvs n) x0 x1 x2 :=
  (run_fn hp (by kernel_rfl) Tryz.func35 (by kernel_rfl)).trans (rf_userPut _ x0 x1 x2)

/-- (*interrex/octet.Writer).Bytes -/
noncomputable def F_octetWriterBytes (Γ : Funs) (x0 : Value) : M Value :=
  bind (nilc x0) fun v4x1 =>
  bind (fa 0 v4x1) fun v5x2 =>
  bind (ld1 v5x2) fun v6x3 =>
  bind (Γ n_bytesClone [v6x3]) fun v7x4 =>
  ret v7x4

set_option maxRecDepth 100000 in
theorem rf_octetWriterBytes (Γ : Funs) (x0 : Value) : runF Tryz.prog Γ Tryz.f36 lv_octetWriterBytes [x0] = F_octetWriterBytes Γ x0 := by kernel_rfl

theorem run_octetWriterBytes {prim : FuncId → Option (List Value → M Value)} (hp : prim n_octetWriterBytes = none) (n : Nat) (x0 : Value) : run Tryz.prog prim lvs (n + 1) n_octetWriterBytes [x0] = F_octetWriterBytes (run Tryz.prog prim lvs n) x0 :=
  (run_fn hp (by kernel_rfl) Tryz.func36 (by kernel_rfl)).trans (rf_octetWriterBytes _ x0)

/-- interrex/interrexlaw06.Few: a round. -/
noncomputable def F_law06Few.l1 (Γ : Funs) (s1 s3 s23 s24 s25 : Value) : M Out :=
  bind (bop .int .lss s25 s24) fun v26x21 =>
  cnd v26x21
  (bind (ixa 1 s23 s25) fun v27x22 =>
  bind (ld1 v27x22) fun v28x23 =>
  bind (lenT v28x23) fun v31x24 =>
  bind (mxi false v31x24 (Value.int .i64 1000)) fun v32x25 =>
  bind (bop .int .add s3 v32x25) fun v33x26 =>
  bind (bop .int .add s25 (Value.int .i64 1)) fun v34x27 =>
  ret (.nrm [s1, v33x26, s23, s24, v34x27]))
  (ret (.ext 0 [s1, s3]))

/-- interrex/interrexlaw06.Few -/
noncomputable def F_law06Few (Γ : Funs) (x0 : Value) : M Value :=
  bind (alc 1 x0) fun v1x1 =>
  bind (fa 0 v1x1) fun v6x2 =>
  bind (ld1 v6x2) fun v7x3 =>
  bind (lenT v7x3) fun v8x4 =>
  bind (fa 1 v1x1) fun v9x5 =>
  bind (ld1 v9x5) fun v10x6 =>
  bind (lenT v10x6) fun v11x7 =>
  bind (bop .int .add v8x4 v11x7) fun v12x8 =>
  bind (fa 2 v1x1) fun v13x9 =>
  bind (ld1 v13x9) fun v14x10 =>
  bind (lenT v14x10) fun v15x11 =>
  bind (bop .int .add v12x8 v15x11) fun v16x12 =>
  bind (fa 4 v1x1) fun v17x13 =>
  bind (ld1 v17x13) fun v18x14 =>
  bind (fa 4 v1x1) fun v19x15 =>
  bind (ld1 v19x15) fun v20x16 =>
  bind (lenS v20x16) fun v21x17 =>
  bind (mxi false v21x17 (Value.int .i64 30)) fun v22x18 =>
  bind (slv 1 v18x14 none (some v22x18) none) fun v23x19 =>
  bind (lenS v23x19) fun v24x20 =>
  jn (loopM (c5 (F_law06Few.l1 Γ)) [v1x1, v16x12, v23x19, v24x20, (Value.int .i64 0)]) noN (xk 0 (c2 fun q29_0 q29_1 =>
  bind (bop .int .leq q29_1 (Value.int .i64 400)) fun v36x30 =>
  bind (gate v36x30 true 4 (bind (fa 4 q29_0) fun v38x31 =>
  bind (ld1 v38x31) fun v39x32 =>
  bind (lenS v39x32) fun v40x33 =>
  bind (bop .int .leq v40x33 (Value.int .i64 20)) fun v41x34 =>
  ret [v38x31, v39x32, v40x33, v41x34])) (c4 fun _ _ _ q35_3 =>
  bind (pick v36x30 q35_3 (Value.bool false)) fun v42x36 =>
  ret v42x36)) noX) ret

set_option maxRecDepth 100000 in
theorem rf_law06Few (Γ : Funs) (x0 : Value) : runF Tryz.prog Γ Tryz.f37 lv_law06Few [x0] = F_law06Few Γ x0 := by kernel_rfl

theorem run_law06Few {prim : FuncId → Option (List Value → M Value)} (hp : prim n_law06Few = none) (n : Nat) (x0 : Value) : run Tryz.prog prim lvs (n + 1) n_law06Few [x0] = F_law06Few (run Tryz.prog prim lvs n) x0 :=
  (run_fn hp (by kernel_rfl) Tryz.func37 (by kernel_rfl)).trans (rf_law06Few _ x0)

/-- interrex/interrexref07.Of: a round. -/
noncomputable def F_ref07Of.l1 (Γ : Funs) (s0 s1 s10 s11 s12 : Value) : M Out :=
  bind (bop .int .lss s12 s11) fun v13x2 =>
  cnd v13x2
  (bind (ixa 5 s10 s12) fun v14x3 =>
  bind (ldA 5 v14x3) fun v15x4 =>
  bind (alc 1 (.agg #[.string ⟨#[]⟩, .string ⟨#[]⟩, .string ⟨#[]⟩, .bool false, .slice none 0 0])) fun v6x5 =>
  bind (stA 5 v6x5 v15x4) fun _ =>
  bind (ldA 5 v6x5) fun v17x6 =>
  bind (Γ n_ref06Check [s1, v17x6]) fun v18x7 =>
  bind (bop .int .neq v18x7 (Value.int .i64 0)) fun v20x8 =>
  cnd v20x8
  (ret (.ret v18x7))
  (bind (bop .int .add s12 (Value.int .i64 1)) fun v22x9 =>
  ret (.nrm [s0, s1, s10, s11, v22x9])))
  (ret (.ext 0 [s0]))

/-- interrex/interrexref07.Of: a round. -/
noncomputable def F_ref07Of.l2 (Γ : Funs) (s0 s23 s24 s25 : Value) : M Out :=
  bind (bop .int .lss s25 s24) fun v26x13 =>
  cnd v26x13
  (bind (ixa 5 s23 s25) fun v28x14 =>
  bind (ldA 5 v28x14) fun v29x15 =>
  bind (alc 1 (.agg #[.string ⟨#[]⟩, .string ⟨#[]⟩, .string ⟨#[]⟩, .bool false, .slice none 0 0])) fun v9x16 =>
  bind (stA 5 v9x16 v29x15) fun _ =>
  bind (bop .int .gtr s25 (Value.int .i64 0)) fun v31x17 =>
  bind (gateV v31x17 true (ret s0)) fun v33x18 =>
  bind (gateV v31x17 true (ret s25)) fun v34x19 =>
  bind (gateV v31x17 true (bop .int .sub v34x19 (Value.int .i64 1))) fun v35x20 =>
  bind (gateV v31x17 true (ixa 5 v33x18 v35x20)) fun v36x21 =>
  bind (gateV v31x17 true (fa 0 v36x21)) fun v37x22 =>
  bind (gateV v31x17 true (ld1 v37x22)) fun v38x23 =>
  bind (gateV v31x17 true (fa 0 v9x16)) fun v39x24 =>
  bind (gateV v31x17 true (ld1 v39x24)) fun v40x25 =>
  bind (gateV v31x17 true (bop .str .geq v38x23 v40x25)) fun v41x26 =>
  bind (pick v31x17 v41x26 (Value.bool false)) fun v42x27 =>
  cnd v42x27
  (ret (.ret (Value.int .i64 9)))
  (bind (bop .int .add s25 (Value.int .i64 1)) fun v43x28 =>
  ret (.nrm [s0, s23, s24, v43x28])))
  (ret (.ext 2 [s0]))

/-- interrex/interrexref07.Of -/
noncomputable def F_ref07Of (Γ : Funs) (x0 x1 : Value) : M Value :=
  bind (lenS x0) fun v11x1 =>
  jn (loopM (c5 (F_ref07Of.l1 Γ)) [x0, x1, x0, v11x1, (Value.int .i64 0)]) noN (xk 0 (c1 fun q11_0 =>
  bind (lenS q11_0) fun v24x12 =>
  jn (loopM (c4 (F_ref07Of.l2 Γ)) [q11_0, q11_0, v24x12, (Value.int .i64 0)]) noN (xk 2 (c1 fun q30_0 =>
  bind (lenS q30_0) fun v45x31 =>
  bind (bop .int .gtr v45x31 (Value.int .i64 12)) fun v46x32 =>
  cnd v46x32
  (ret (Value.int .i64 7))
  (ret (Value.int .i64 0))) noX) ret) noX) ret

set_option maxRecDepth 100000 in
theorem rf_ref07Of (Γ : Funs) (x0 x1 : Value) : runF Tryz.prog Γ Tryz.f38 lv_ref07Of [x0, x1] = F_ref07Of Γ x0 x1 := by kernel_rfl

theorem run_ref07Of {prim : FuncId → Option (List Value → M Value)} (hp : prim n_ref07Of = none) (n : Nat) (x0 x1 : Value) : run Tryz.prog prim lvs (n + 1) n_ref07Of [x0, x1] = F_ref07Of (run Tryz.prog prim lvs n) x0 x1 :=
  (run_fn hp (by kernel_rfl) Tryz.func38 (by kernel_rfl)).trans (rf_ref07Of _ x0 x1)

/-- interrex/interrexref08.Users: a round. -/
noncomputable def F_ref08Users.l1 (Γ : Funs) (s0 s5 s12 s13 s14 : Value) : M Out :=
  bind (bop .int .lss s14 s13) fun v15x5 =>
  cnd v15x5
  (bind (ixa 5 s12 s14) fun v16x6 =>
  bind (ldA 5 v16x6) fun v17x7 =>
  bind (alc 1 (.agg #[.string ⟨#[]⟩, .string ⟨#[]⟩, .string ⟨#[]⟩, .bool false, .slice none 0 0])) fun v7x8 =>
  bind (stA 5 v7x8 v17x7) fun _ =>
  bind (ldA 5 v7x8) fun v20x9 =>
  bind (Γ n_ref06Text [s0, v20x9]) fun v21x10 =>
  bind (bop .str .add s5 v21x10) fun v22x11 =>
  bind (bop .int .add s14 (Value.int .i64 1)) fun v23x12 =>
  ret (.nrm [s0, v22x11, s12, s13, v23x12]))
  (ret (.ext 0 [s5]))

/-- interrex/interrexref08.Users -/
noncomputable def F_ref08Users (Γ : Funs) (x0 x1 : Value) : M Value :=
  bind (lenS x1) fun v9x1 =>
  bind (cvi .u64 v9x1) fun v10x2 =>
  bind (Γ n_ref01Num [v10x2, (Value.int .i64 2)]) fun v11x3 =>
  bind (lenS x1) fun v13x4 =>
  jn (loopM (c5 (F_ref08Users.l1 Γ)) [x0, v11x3, x1, v13x4, (Value.int .i64 0)]) noN (xk 0 (c1 fun q14_0 =>
  ret q14_0) noX) ret

set_option maxRecDepth 100000 in
theorem rf_ref08Users (Γ : Funs) (x0 x1 : Value) : runF Tryz.prog Γ Tryz.f39 lv_ref08Users [x0, x1] = F_ref08Users Γ x0 x1 := by kernel_rfl

theorem run_ref08Users {prim : FuncId → Option (List Value → M Value)} (hp : prim n_ref08Users = none) (n : Nat) (x0 x1 : Value) : run Tryz.prog prim lvs (n + 1) n_ref08Users [x0, x1] = F_ref08Users (run Tryz.prog prim lvs n) x0 x1 :=
  (run_fn hp (by kernel_rfl) Tryz.func39 (by kernel_rfl)).trans (rf_ref08Users _ x0 x1)

/-- interrex/newer.New -/
noncomputable def F_newerNew (Γ : Funs) : M Value :=
  bind (mkm) fun v1x1 =>
  bind (Γ n_mailNew []) fun v2x2 =>
  bind (Γ n_groupNew []) fun v3x3 =>
  bind (bld (.agg #[.map none, .pointer none, .pointer none]) [(0, 1, v1x1), (1, 1, v2x2), (2, 1, v3x3)]) fun v4x4 =>
  bind (alc 1 v4x4) fun v5x5 =>
  ret v5x5

set_option maxRecDepth 100000 in
theorem rf_newerNew (Γ : Funs) : runF Tryz.prog Γ Tryz.f40 lv_newerNew [] = F_newerNew Γ  := by kernel_rfl

theorem run_newerNew {prim : FuncId → Option (List Value → M Value)} (hp : prim n_newerNew = none) (n : Nat) : run Tryz.prog prim lvs (n + 1) n_newerNew [] = F_newerNew (run Tryz.prog prim lvs n)  :=
  (run_fn hp (by kernel_rfl) Tryz.func40 (by kernel_rfl)).trans (rf_newerNew _ )

/-- interrex/newer.check: a round. -/
noncomputable def F_newerCheck.l1 (Γ : Funs) (s1 s5 s13 s14 s15 : Value) : M Out :=
  bind (bop .int .lss s15 s14) fun v16x2 =>
  cnd v16x2
  (bind (ixa 5 s13 s15) fun v17x3 =>
  bind (ldA 5 v17x3) fun v18x4 =>
  bind (alc 1 (.agg #[.string ⟨#[]⟩, .string ⟨#[]⟩, .string ⟨#[]⟩, .bool false, .slice none 0 0])) fun v7x5 =>
  bind (stA 5 v7x5 v18x4) fun _ =>
  bind (ldA 5 v7x5) fun v19x6 =>
  bind (Γ n_userCheck [(Value.int .i64 2), v19x6]) fun v20x7 =>
  bind (bop .int .neq v20x7 (Value.int .i64 0)) fun v22x8 =>
  cnd v22x8
  (ret (.ret v20x7))
  (bind (fa 0 v7x5) fun v25x9 =>
  bind (ld1 v25x9) fun v26x10 =>
  bind (bsl 1 1 (.string ⟨#[]⟩) [(0, 1, v26x10)]) fun v27x11 =>
  bind (app 1 16 s5 v27x11) fun v28x12 =>
  bind (bop .int .add s15 (Value.int .i64 1)) fun v29x13 =>
  ret (.nrm [s1, v28x12, s13, s14, v29x13])))
  (ret (.ext 0 [s1, s5]))

/-- interrex/newer.check: a round. -/
noncomputable def F_newerCheck.l2 (Γ : Funs) (s1 s35 s36 s37 : Value) : M Out :=
  bind (bop .int .lss s37 s36) fun v38x19 =>
  cnd v38x19
  (bind (ixa 1 s35 s37) fun v39x20 =>
  bind (ld1 v39x20) fun v40x21 =>
  bind (Γ n_nameName [v40x21]) fun v42x22 =>
  bind (bop .int .neq v42x22 (Value.int .i64 0)) fun v44x23 =>
  cnd v44x23
  (ret (.ret v42x22))
  (bind (bop .int .add s37 (Value.int .i64 1)) fun v46x24 =>
  ret (.nrm [s1, s35, s36, v46x24])))
  (ret (.ext 2 [s1]))

/-- interrex/newer.check -/
noncomputable def F_newerCheck (Γ : Funs) (x0 x1 : Value) : M Value :=
  bind (lenS x0) fun v14x1 =>
  jn (loopM (c5 (F_newerCheck.l1 Γ)) [x1, (Value.slice none 0 0), x0, v14x1, (Value.int .i64 0)]) noN (xk 0 (c2 fun q15_0 q15_1 =>
  bind (Γ n_newerRise [q15_1, (Value.int .i64 12)]) fun v31x16 =>
  bind (bop .int .neq v31x16 (Value.int .i64 0)) fun v33x17 =>
  cnd v33x17
  (ret v31x16)
  (bind (lenS q15_0) fun v36x18 =>
  jn (loopM (c4 (F_newerCheck.l2 Γ)) [q15_0, q15_0, v36x18, (Value.int .i64 0)]) noN (xk 2 (c1 fun q26_0 =>
  bind (Γ n_newerRise [q26_0, (Value.int .i64 6)]) fun v48x27 =>
  ret v48x27) noX) ret)) noX) ret

set_option maxRecDepth 100000 in
theorem rf_newerCheck (Γ : Funs) (x0 x1 : Value) : runF Tryz.prog Γ Tryz.f41 lv_newerCheck [x0, x1] = F_newerCheck Γ x0 x1 := by kernel_rfl

theorem run_newerCheck {prim : FuncId → Option (List Value → M Value)} (hp : prim n_newerCheck = none) (n : Nat) (x0 x1 : Value) : run Tryz.prog prim lvs (n + 1) n_newerCheck [x0, x1] = F_newerCheck (run Tryz.prog prim lvs n) x0 x1 :=
  (run_fn hp (by kernel_rfl) Tryz.func41 (by kernel_rfl)).trans (rf_newerCheck _ x0 x1)

/-- (*interrex/group.Groups).Make -/
noncomputable def F_groupGroupsMake (Γ : Funs) (x0 x1 : Value) : M Value :=
  bind (Γ n_groupGroupsFind [x0, x1, (Value.slice none 0 0)]) fun v10x1 =>
  bind (extr v10x1 0) fun v11x2 =>
  bind (extr v10x1 1) fun v12x3 =>
  bind (bop .int .eql v12x3 (Value.int .i64 0)) fun v15x4 =>
  cnd v15x4
  (ret (Value.int .i64 9))
  (bind (bop .int .neq v12x3 (Value.int .i64 8)) fun v18x5 =>
  cnd v18x5
  (ret v12x3)
  (bind (nilc x0) fun v22x6 =>
  bind (fa 0 v22x6) fun v23x7 =>
  bind (ld1 v23x7) fun v24x8 =>
  bind (lenM v24x8) fun v25x9 =>
  bind (bop .int .geq v25x9 (Value.int .i64 6)) fun v26x10 =>
  cnd v26x10
  (ret (Value.int .i64 7))
  (bind (nilc x0) fun v28x11 =>
  bind (fa 0 v28x11) fun v29x12 =>
  bind (ld1 v29x12) fun v30x13 =>
  bind (mkm) fun v32x14 =>
  bind (mup .str v30x13 x1 v32x14) fun _ =>
  ret (Value.int .i64 0))))

set_option maxRecDepth 100000 in
theorem rf_groupGroupsMake (Γ : Funs) (x0 x1 : Value) : runF Tryz.prog Γ Tryz.f42 lv_groupGroupsMake [x0, x1] = F_groupGroupsMake Γ x0 x1 := by kernel_rfl

theorem run_groupGroupsMake {prim : FuncId → Option (List Value → M Value)} (hp : prim n_groupGroupsMake = none) (n : Nat) (x0 x1 : Value) : run Tryz.prog prim lvs (n + 1) n_groupGroupsMake [x0, x1] = F_groupGroupsMake (run Tryz.prog prim lvs n) x0 x1 :=
  (run_fn hp (by kernel_rfl) Tryz.func42 (by kernel_rfl)).trans (rf_groupGroupsMake _ x0 x1)

/-- (*interrex/group.Groups).Join -/
noncomputable def F_groupGroupsJoin (Γ : Funs) (x0 x1 x2 : Value) : M Value :=
  bind (bsl 1 1 (.string ⟨#[]⟩) [(0, 1, x2)]) fun v15x1 =>
  bind (Γ n_groupGroupsFind [x0, x1, v15x1]) fun v16x2 =>
  bind (extr v16x2 0) fun v17x3 =>
  bind (extr v16x2 1) fun v18x4 =>
  bind (bop .int .neq v18x4 (Value.int .i64 0)) fun v20x5 =>
  cnd v20x5
  (ret v18x4)
  (bind (lkp .str (.agg #[]) true v17x3 x2) fun v25x6 =>
  bind (extr v25x6 0) fun v26x7 =>
  bind (extr v25x6 1) fun v27x8 =>
  bind (alc 1 (.agg #[])) fun v9x9 =>
  bind (stA 0 v9x9 v26x7) fun _ =>
  cnd v27x8
  (ret (Value.int .i64 9))
  (bind (bld (.agg #[]) []) fun v31x10 =>
  bind (mup .str v17x3 x2 v31x10) fun _ =>
  ret (Value.int .i64 0)))

set_option maxRecDepth 100000 in
theorem rf_groupGroupsJoin (Γ : Funs) (x0 x1 x2 : Value) : runF Tryz.prog Γ Tryz.f43 lv_groupGroupsJoin [x0, x1, x2] = F_groupGroupsJoin Γ x0 x1 x2 := by kernel_rfl

theorem run_groupGroupsJoin {prim : FuncId → Option (List Value → M Value)} (hp : prim n_groupGroupsJoin = none) (n : Nat) (x0 x1 x2 : Value) : run Tryz.prog prim lvs (n + 1) n_groupGroupsJoin [x0, x1, x2] = F_groupGroupsJoin (run Tryz.prog prim lvs n) x0 x1 x2 :=
  (run_fn hp (by kernel_rfl) Tryz.func43 (by kernel_rfl)).trans (rf_groupGroupsJoin _ x0 x1 x2)

/-- (*interrex/mail.Index).Set -/
noncomputable def F_mailIndexSet (Γ : Funs) (x0 x1 x2 : Value) : M Value :=
  bind (Γ n_nameName [x1]) fun v13x1 =>
  bind (bop .int .neq v13x1 (Value.int .i64 0)) fun v15x2 =>
  cnd v15x2
  (ret v13x1)
  (bind (bop .str .eql x2 (Value.string ⟨#[]⟩)) fun v18x3 =>
  cnd v18x3
  (bind (Γ n_mailIndexDrop [x0, x1]) fun v21x4 =>
  ret (Value.int .i64 0))
  (bind (Γ n_nameMail [x2]) fun v24x5 =>
  bind (extr v24x5 0) fun v25x6 =>
  bind (extr v24x5 1) fun v26x7 =>
  bind (bop .int .neq v26x7 (Value.int .i64 0)) fun v28x8 =>
  cnd v28x8
  (ret v26x7)
  (bind (nilc x0) fun v32x9 =>
  bind (fa 0 v32x9) fun v33x10 =>
  bind (ld1 v33x10) fun v34x11 =>
  bind (lkp .str (.string ⟨#[]⟩) true v34x11 v25x6) fun v36x12 =>
  bind (extr v36x12 0) fun v37x13 =>
  bind (extr v36x12 1) fun v38x14 =>
  bind (gate v38x14 true 3 (bind (bop .str .neq v37x13 x1) fun v43x15 =>
  ret [v37x13, x1, v43x15])) (c3 fun _ _ q16_2 =>
  bind (pick v38x14 q16_2 (Value.bool false)) fun v44x17 =>
  cnd v44x17
  (ret (Value.int .i64 9))
  (bind (Γ n_mailIndexDrop [x0, x1]) fun v47x18 =>
  bind (nilc x0) fun v49x19 =>
  bind (fa 0 v49x19) fun v50x20 =>
  bind (ld1 v50x20) fun v51x21 =>
  bind (nilc x0) fun v54x22 =>
  bind (fa 1 v54x22) fun v55x23 =>
  bind (ld1 v55x23) fun v56x24 =>
  bind (men .str (.string ⟨#[]⟩) v51x21 v25x6) fun v60x25 =>
  bind (extr v60x25 1) fun v61x26 =>
  bind (ens v51x21 v61x26 x1) fun _ =>
  bind (men .str (.string ⟨#[]⟩) v56x24 x1) fun v62x27 =>
  bind (extr v62x27 1) fun v63x28 =>
  bind (ens v56x24 v63x28 v25x6) fun _ =>
  ret (Value.int .i64 0))))))

set_option maxRecDepth 100000 in
theorem rf_mailIndexSet (Γ : Funs) (x0 x1 x2 : Value) : runF Tryz.prog Γ Tryz.f44 lv_mailIndexSet [x0, x1, x2] = F_mailIndexSet Γ x0 x1 x2 := by kernel_rfl

theorem run_mailIndexSet {prim : FuncId → Option (List Value → M Value)} (hp : prim n_mailIndexSet = none) (n : Nat) (x0 x1 x2 : Value) : run Tryz.prog prim lvs (n + 1) n_mailIndexSet [x0, x1, x2] = F_mailIndexSet (run Tryz.prog prim lvs n) x0 x1 x2 :=
  (run_fn hp (by kernel_rfl) Tryz.func44 (by kernel_rfl)).trans (rf_mailIndexSet _ x0 x1 x2)

/-- (*interrex/octet.Writer).Row: a round. -/
noncomputable def F_octetWriterRow.l1 (Γ : Funs) (s0 s17 s18 s19 : Value) : M Out :=
  bind (bop .int .lss s19 s18) fun v20x8 =>
  cnd v20x8
  (bind (ixa 1 s17 s19) fun v21x9 =>
  bind (ld1 v21x9) fun v22x10 =>
  bind (Γ n_octetWriterText [s0, v22x10]) fun v25x11 =>
  bind (bop .int .add s19 (Value.int .i64 1)) fun v26x12 =>
  ret (.nrm [s0, s17, s18, v26x12]))
  (ret (.ext 0 [s0]))

/-- (*interrex/octet.Writer).Row -/
noncomputable def F_octetWriterRow (Γ : Funs) (x0 x1 : Value) : M Value :=
  bind (lenS x1) fun v9x1 =>
  bind (mxi false v9x1 (Value.int .i64 65535)) fun v10x2 =>
  bind (slv 1 x1 none (some v10x2) none) fun v11x3 =>
  bind (lenS v11x3) fun v14x4 =>
  bind (cvi .u16 v14x4) fun v15x5 =>
  bind (Γ n_octetWriterTwo [x0, v15x5]) fun v16x6 =>
  bind (lenS v11x3) fun v18x7 =>
  jn (loopM (c4 (F_octetWriterRow.l1 Γ)) [x0, v11x3, v18x7, (Value.int .i64 0)]) noN (xk 0 (c1 fun q14_0 =>
  ret q14_0) noX) ret

set_option maxRecDepth 100000 in
theorem rf_octetWriterRow (Γ : Funs) (x0 x1 : Value) : runF Tryz.prog Γ Tryz.f45 lv_octetWriterRow [x0, x1] = F_octetWriterRow Γ x0 x1 := by kernel_rfl

theorem run_octetWriterRow {prim : FuncId → Option (List Value → M Value)} (hp : prim n_octetWriterRow = none) (n : Nat) (x0 x1 : Value) : run Tryz.prog prim lvs (n + 1) n_octetWriterRow [x0, x1] = F_octetWriterRow (run Tryz.prog prim lvs n) x0 x1 :=
  (run_fn hp (by kernel_rfl) Tryz.func45 (by kernel_rfl)).trans (rf_octetWriterRow _ x0 x1)

/-- (*interrex/newer.Dir).Groups -/
noncomputable def F_newerDirGroups (Γ : Funs) (x0 : Value) : M Value :=
  bind (nilc x0) fun v4x1 =>
  bind (fa 2 v4x1) fun v5x2 =>
  bind (ld1 v5x2) fun v6x3 =>
  bind (Γ n_groupGroupsAll [v6x3]) fun v7x4 =>
  ret v7x4

set_option maxRecDepth 100000 in
theorem rf_newerDirGroups (Γ : Funs) (x0 : Value) : runF Tryz.prog Γ Tryz.f46 lv_newerDirGroups [x0] = F_newerDirGroups Γ x0 := by kernel_rfl

theorem run_newerDirGroups {prim : FuncId → Option (List Value → M Value)} (hp : prim n_newerDirGroups = none) (n : Nat) (x0 : Value) : run Tryz.prog prim lvs (n + 1) n_newerDirGroups [x0] = F_newerDirGroups (run Tryz.prog prim lvs n) x0 :=
  (run_fn hp (by kernel_rfl) Tryz.func46 (by kernel_rfl)).trans (rf_newerDirGroups _ x0)

/-- (*interrex/newer.Dir).Len -/
noncomputable def F_newerDirLen (Γ : Funs) (x0 : Value) : M Value :=
  bind (nilc x0) fun v4x1 =>
  bind (fa 0 v4x1) fun v5x2 =>
  bind (ld1 v5x2) fun v6x3 =>
  bind (lenM v6x3) fun v7x4 =>
  ret v7x4

set_option maxRecDepth 100000 in
theorem rf_newerDirLen (Γ : Funs) (x0 : Value) : runF Tryz.prog Γ Tryz.f47 lv_newerDirLen [x0] = F_newerDirLen Γ x0 := by kernel_rfl

theorem run_newerDirLen {prim : FuncId → Option (List Value → M Value)} (hp : prim n_newerDirLen = none) (n : Nat) (x0 : Value) : run Tryz.prog prim lvs (n + 1) n_newerDirLen [x0] = F_newerDirLen (run Tryz.prog prim lvs n) x0 :=
  (run_fn hp (by kernel_rfl) Tryz.func47 (by kernel_rfl)).trans (rf_newerDirLen _ x0)

/-- (*interrex/newer.Dir).All: a round. -/
noncomputable def F_newerDirAll.l1 (Γ : Funs) (s0 s3 s9 s10 s11 : Value) : M Out :=
  bind (bop .int .lss s11 s10) fun v12x3 =>
  cnd v12x3
  (bind (ixa 1 s9 s11) fun v13x4 =>
  bind (ld1 v13x4) fun v14x5 =>
  bind (Γ n_newerDirLookup [s0, v14x5]) fun v18x6 =>
  bind (extr v18x6 0) fun v19x7 =>
  bind (extr v18x6 1) fun v20x8 =>
  bind (alc 1 (.agg #[.string ⟨#[]⟩, .string ⟨#[]⟩, .string ⟨#[]⟩, .bool false, .slice none 0 0])) fun v6x9 =>
  bind (stA 5 v6x9 v19x7) fun _ =>
  bind (ldA 5 v6x9) fun v22x10 =>
  bind (bsl 5 1 (.agg #[.string ⟨#[]⟩, .string ⟨#[]⟩, .string ⟨#[]⟩, .bool false, .slice none 0 0]) [(0, 5, v22x10)]) fun v23x11 =>
  bind (app 5 80 s3 v23x11) fun v24x12 =>
  bind (bop .int .add s11 (Value.int .i64 1)) fun v25x13 =>
  ret (.nrm [s0, v24x12, s9, s10, v25x13]))
  (ret (.ext 0 [s3]))

/-- (*interrex/newer.Dir).All -/
noncomputable def F_newerDirAll (Γ : Funs) (x0 : Value) : M Value :=
  bind (Γ n_newerDirNames [x0]) fun v9x1 =>
  bind (lenS v9x1) fun v10x2 =>
  jn (loopM (c5 (F_newerDirAll.l1 Γ)) [x0, (Value.slice none 0 0), v9x1, v10x2, (Value.int .i64 0)]) noN (xk 0 (c1 fun q15_0 =>
  ret q15_0) noX) ret

set_option maxRecDepth 100000 in
theorem rf_newerDirAll (Γ : Funs) (x0 : Value) : runF Tryz.prog Γ Tryz.f48 lv_newerDirAll [x0] = F_newerDirAll Γ x0 := by kernel_rfl

theorem run_newerDirAll {prim : FuncId → Option (List Value → M Value)} (hp : prim n_newerDirAll = none) (n : Nat) (x0 : Value) : run Tryz.prog prim lvs (n + 1) n_newerDirAll [x0] = F_newerDirAll (run Tryz.prog prim lvs n) x0 :=
  (run_fn hp (by kernel_rfl) Tryz.func48 (by kernel_rfl)).trans (rf_newerDirAll _ x0)

/-- bytes.Clone -/
noncomputable def F_bytesClone (Γ : Funs) (x0 : Value) : M Value :=
  bind (bop .slc .eql x0 (Value.slice none 0 0)) fun v4x1 =>
  cnd v4x1
  (ret (Value.slice none 0 0))
  (bind (bsl 1 0 (.int .u8 0) []) fun v5x2 =>
  bind (app 1 1 v5x2 x0) fun v7x3 =>
  ret v7x3)

set_option maxRecDepth 100000 in
theorem rf_bytesClone (Γ : Funs) (x0 : Value) : runF Tryz.prog Γ Tryz.f49 lv_bytesClone [x0] = F_bytesClone Γ x0 := by kernel_rfl

theorem run_bytesClone {prim : FuncId → Option (List Value → M Value)} (hp : prim n_bytesClone = none) (n : Nat) (x0 : Value) : run Tryz.prog prim lvs (n + 1) n_bytesClone [x0] = F_bytesClone (run Tryz.prog prim lvs n) x0 :=
  (run_fn hp (by kernel_rfl) Tryz.func49 (by kernel_rfl)).trans (rf_bytesClone _ x0)

/-- (*interrex/octet.Reader).num: a round. -/
noncomputable def F_octetReaderNum.l1 (Γ : Funs) (s5 s10 s11 s12 : Value) : M Out :=
  bind (bop .int .lss s12 s11) fun v13x3 =>
  cnd v13x3
  (bind (ixa 1 s10 s12) fun v15x4 =>
  bind (ld1 v15x4) fun v16x5 =>
  bind (cvi .u64 v16x5) fun v19x6 =>
  bind (bop .int .mul (Value.int .i64 8) s12) fun v21x7 =>
  bind (bop .int .shl v19x6 v21x7) fun v22x8 =>
  bind (bop .int .or s5 v22x8) fun v23x9 =>
  bind (bop .int .add s12 (Value.int .i64 1)) fun v24x10 =>
  ret (.nrm [v23x9, s10, s11, v24x10]))
  (ret (.ext 0 [s5]))

/-- (*interrex/octet.Reader).num -/
noncomputable def F_octetReaderNum (Γ : Funs) (x0 x1 : Value) : M Value :=
  bind (Γ n_octetReaderTake [x0, x1]) fun v10x1 =>
  bind (lenS v10x1) fun v11x2 =>
  jn (loopM (c4 (F_octetReaderNum.l1 Γ)) [(Value.int .u64 0), v10x1, v11x2, (Value.int .i64 0)]) noN (xk 0 (c1 fun q12_0 =>
  ret q12_0) noX) ret

set_option maxRecDepth 100000 in
theorem rf_octetReaderNum (Γ : Funs) (x0 x1 : Value) : runF Tryz.prog Γ Tryz.f50 lv_octetReaderNum [x0, x1] = F_octetReaderNum Γ x0 x1 := by kernel_rfl

theorem run_octetReaderNum {prim : FuncId → Option (List Value → M Value)} (hp : prim n_octetReaderNum = none) (n : Nat) (x0 x1 : Value) : run Tryz.prog prim lvs (n + 1) n_octetReaderNum [x0, x1] = F_octetReaderNum (run Tryz.prog prim lvs n) x0 x1 :=
  (run_fn hp (by kernel_rfl) Tryz.func50 (by kernel_rfl)).trans (rf_octetReaderNum _ x0 x1)

/-- (*interrex/octet.Reader).Text -/
noncomputable def F_octetReaderText (Γ : Funs) (x0 x1 : Value) : M Value :=
  bind (Γ n_octetReaderCount [x0, x1]) fun v8x1 =>
  bind (Γ n_octetReaderTake [x0, v8x1]) fun v9x2 =>
  bind (b2s v9x2) fun v10x3 =>
  ret v10x3

set_option maxRecDepth 100000 in
theorem rf_octetReaderText (Γ : Funs) (x0 x1 : Value) : runF Tryz.prog Γ Tryz.f51 lv_octetReaderText [x0, x1] = F_octetReaderText Γ x0 x1 := by kernel_rfl

theorem run_octetReaderText {prim : FuncId → Option (List Value → M Value)} (hp : prim n_octetReaderText = none) (n : Nat) (x0 x1 : Value) : run Tryz.prog prim lvs (n + 1) n_octetReaderText [x0, x1] = F_octetReaderText (run Tryz.prog prim lvs n) x0 x1 :=
  (run_fn hp (by kernel_rfl) Tryz.func51 (by kernel_rfl)).trans (rf_octetReaderText _ x0 x1)

/-- (*interrex/octet.Reader).Truth -/
noncomputable def F_octetReaderTruth (Γ : Funs) (x0 : Value) : M Value :=
  bind (Γ n_octetReaderByte [x0]) fun v5x1 =>
  bind (bop .int .gtr v5x1 (Value.int .u8 1)) fun v7x2 =>
  jn (cnd v7x2
  (bind (Γ n_octetReaderFail [x0, (Value.int .i64 4)]) fun v9x3 =>
  ret (.nrm [v5x1]))
  (ret (.nrm [v5x1]))) (c1 fun q4_0 =>
  bind (bop .int .eql q4_0 (Value.int .u8 1)) fun v11x5 =>
  ret v11x5) noX ret

set_option maxRecDepth 100000 in
theorem rf_octetReaderTruth (Γ : Funs) (x0 : Value) : runF Tryz.prog Γ Tryz.f52 lv_octetReaderTruth [x0] = F_octetReaderTruth Γ x0 := by kernel_rfl

theorem run_octetReaderTruth {prim : FuncId → Option (List Value → M Value)} (hp : prim n_octetReaderTruth = none) (n : Nat) (x0 : Value) : run Tryz.prog prim lvs (n + 1) n_octetReaderTruth [x0] = F_octetReaderTruth (run Tryz.prog prim lvs n) x0 :=
  (run_fn hp (by kernel_rfl) Tryz.func52 (by kernel_rfl)).trans (rf_octetReaderTruth _ x0)

/-- (*interrex/octet.Reader).Row: a round. -/
noncomputable def F_octetReaderRow.l1 (Γ : Funs) (s0 s2 s7 s10 s11 : Value) : M Out :=
  bind (bop .int .lss s11 s10) fun v12x2 =>
  cnd v12x2
  (bind (Γ n_octetReaderText [s0, s2]) fun v16x3 =>
  bind (bsl 1 1 (.string ⟨#[]⟩) [(0, 1, v16x3)]) fun v17x4 =>
  bind (app 1 16 s7 v17x4) fun v18x5 =>
  bind (bop .int .add s11 (Value.int .i64 1)) fun v19x6 =>
  ret (.nrm [s0, s2, v18x5, s10, v19x6]))
  (ret (.ext 0 [s0, s7]))

/-- (*interrex/octet.Reader).Row -/
noncomputable def F_octetReaderRow (Γ : Funs) (x0 x1 x2 : Value) : M Value :=
  bind (Γ n_octetReaderCount [x0, x1]) fun v10x1 =>
  jn (loopM (c5 (F_octetReaderRow.l1 Γ)) [x0, x2, (Value.slice none 0 0), v10x1, (Value.int .i64 0)]) noN (xk 0 (c2 fun q8_0 q8_1 =>
  bind (nilc q8_0) fun v21x9 =>
  bind (fa 1 v21x9) fun v22x10 =>
  bind (ld1 v22x10) fun v23x11 =>
  bind (bop .int .neq v23x11 (Value.int .i64 0)) fun v24x12 =>
  cnd v24x12
  (ret (Value.slice none 0 0))
  (ret q8_1)) noX) ret

set_option maxRecDepth 100000 in
theorem rf_octetReaderRow (Γ : Funs) (x0 x1 x2 : Value) : runF Tryz.prog Γ Tryz.f53 lv_octetReaderRow [x0, x1, x2] = F_octetReaderRow Γ x0 x1 x2 := by kernel_rfl

theorem run_octetReaderRow {prim : FuncId → Option (List Value → M Value)} (hp : prim n_octetReaderRow = none) (n : Nat) (x0 x1 x2 : Value) : run Tryz.prog prim lvs (n + 1) n_octetReaderRow [x0, x1, x2] = F_octetReaderRow (run Tryz.prog prim lvs n) x0 x1 x2 :=
  (run_fn hp (by kernel_rfl) Tryz.func53 (by kernel_rfl)).trans (rf_octetReaderRow _ x0 x1 x2)

/-- interrex/user.Check -/
noncomputable def F_userCheck (Γ : Funs) (x0 x1 : Value) : M Value :=
  bind (alc 1 x1) fun v3x1 =>
  bind (bop .int .neq x0 (Value.int .i64 1)) fun v7x2 =>
  bind (gate v7x2 true 2 (bind (bop .int .neq x0 (Value.int .i64 2)) fun v10x3 =>
  ret [x0, v10x3])) (c2 fun _ q4_1 =>
  bind (pick v7x2 q4_1 (Value.bool false)) fun v11x5 =>
  cnd v11x5
  (ret (Value.int .i64 6))
  (bind (fa 0 v3x1) fun v12x6 =>
  bind (ld1 v12x6) fun v13x7 =>
  bind (fa 1 v3x1) fun v15x8 =>
  bind (ld1 v15x8) fun v16x9 =>
  bind (Γ n_nameName [v13x7]) fun v14x10 =>
  bind (ld1 v15x8) fun u_11 => same u_11 v16x9 <|
  bind (Γ n_nameHash [v16x9]) fun v17x12 =>
  bind (bsl 1 2 (.int .i64 0) [(0, 1, v14x10), (1, 1, v17x12)]) fun v18x13 =>
  bind (Γ n_userFirst [v18x13]) fun v19x14 =>
  bind (bop .int .neq v19x14 (Value.int .i64 0)) fun v21x15 =>
  cnd v21x15
  (ret v19x14)
  (bind (bop .int .eql x0 (Value.int .i64 2)) fun v24x16 =>
  cnd v24x16
  (bind (fa 2 v3x1) fun v25x17 =>
  bind (ld1 v25x17) fun v26x18 =>
  bind (fa 4 v3x1) fun v28x19 =>
  bind (ld1 v28x19) fun v29x20 =>
  bind (Γ n_userMail [v26x18]) fun v27x21 =>
  bind (ld1 v28x19) fun u_22 => same u_22 v29x20 <|
  bind (Γ n_userGroups [v29x20]) fun v30x23 =>
  bind (bsl 1 2 (.int .i64 0) [(0, 1, v27x21), (1, 1, v30x23)]) fun v31x24 =>
  bind (Γ n_userFirst [v31x24]) fun v32x25 =>
  ret v32x25)
  (bind (fa 2 v3x1) fun v33x26 =>
  bind (ld1 v33x26) fun v34x27 =>
  bind (bop .str .neq v34x27 (Value.string ⟨#[]⟩)) fun v35x28 =>
  bind (gate v35x28 false 2 (bind (fa 3 v3x1) fun v37x29 =>
  bind (ld1 v37x29) fun v38x30 =>
  ret [v37x29, v38x30])) (c2 fun _ q31_1 =>
  bind (pick v35x28 (Value.bool true) q31_1) fun v39x32 =>
  bind (gate v39x32 false 4 (bind (fa 4 v3x1) fun v41x33 =>
  bind (ld1 v41x33) fun v42x34 =>
  bind (lenS v42x34) fun v43x35 =>
  bind (bop .int .gtr v43x35 (Value.int .i64 0)) fun v44x36 =>
  ret [v41x33, v42x34, v43x35, v44x36])) (c4 fun _ _ _ q37_3 =>
  bind (pick v39x32 (Value.bool true) q37_3) fun v45x38 =>
  cnd v45x38
  (ret (Value.int .i64 12))
  (ret (Value.int .i64 0))))))))

set_option maxRecDepth 100000 in
theorem rf_userCheck (Γ : Funs) (x0 x1 : Value) : runF Tryz.prog Γ Tryz.f54 lv_userCheck [x0, x1] = F_userCheck Γ x0 x1 := by kernel_rfl

theorem run_userCheck {prim : FuncId → Option (List Value → M Value)} (hp : prim n_userCheck = none) (n : Nat) (x0 x1 : Value) : run Tryz.prog prim lvs (n + 1) n_userCheck [x0, x1] = F_userCheck (run Tryz.prog prim lvs n) x0 x1 :=
  (run_fn hp (by kernel_rfl) Tryz.func54 (by kernel_rfl)).trans (rf_userCheck _ x0 x1)

/-- interrex/name.Compare -/
noncomputable def F_nameCompare (Γ : Funs) (x0 x1 : Value) : M Value :=
  bind (Γ n_cmpCompareString [x0, x1]) fun v7x1 =>
  ret v7x1

set_option maxRecDepth 100000 in
theorem rf_nameCompare (Γ : Funs) (x0 x1 : Value) : runF Tryz.prog Γ Tryz.f55 lv_nameCompare [x0, x1] = F_nameCompare Γ x0 x1 := by kernel_rfl

theorem run_nameCompare {prim : FuncId → Option (List Value → M Value)} (hp : prim n_nameCompare = none) (n : Nat) (x0 x1 : Value) : run Tryz.prog prim lvs (n + 1) n_nameCompare [x0, x1] = F_nameCompare (run Tryz.prog prim lvs n) x0 x1 :=
  (run_fn hp (by kernel_rfl) Tryz.func55 (by kernel_rfl)).trans (rf_nameCompare _ x0 x1)

/-- interrex/interrexref01.Get -/
noncomputable def F_ref01Get (Γ : Funs) (x0 x1 : Value) : M Value :=
  bind (alc 1 x0) fun v2x1 =>
  bind (alc 1 (.agg #[.string ⟨#[]⟩, .int .i64 0])) fun v4x2 =>
  bind (ldA 2 v2x1) fun v10x3 =>
  bind (Γ n_ref01Take [v10x3, x1]) fun v12x4 =>
  bind (extr v12x4 0) fun v13x5 =>
  bind (extr v12x4 1) fun v14x6 =>
  bind (extr v12x4 2) fun v15x7 =>
  bind (alc 1 (.agg #[.string ⟨#[]⟩, .int .i64 0])) fun v6x8 =>
  bind (stA 2 v6x8 v13x5) fun _ =>
  bind (ldA 2 v6x8) fun v16x9 =>
  bind (Γ n_ref01Value [v14x6]) fun v18x10 =>
  bind (ldA 2 v6x8) fun u_11 => same u_11 v16x9 <|
  bind (stA 2 v4x2 v16x9) fun _ =>
  bind (ldA 2 v4x2) fun vrx12 =>
  ret (Value.tuple #[vrx12, v18x10])

set_option maxRecDepth 100000 in
theorem rf_ref01Get (Γ : Funs) (x0 x1 : Value) : runF Tryz.prog Γ Tryz.f56 lv_ref01Get [x0, x1] = F_ref01Get Γ x0 x1 := by kernel_rfl

theorem run_ref01Get {prim : FuncId → Option (List Value → M Value)} (hp : prim n_ref01Get = none) (n : Nat) (x0 x1 : Value) : run Tryz.prog prim lvs (n + 1) n_ref01Get [x0, x1] = F_ref01Get (run Tryz.prog prim lvs n) x0 x1 :=
  (run_fn hp (by kernel_rfl) Tryz.func56 (by kernel_rfl)).trans (rf_ref01Get _ x0 x1)

/-- interrex/interrexref01.Fail -/
noncomputable def F_ref01Fail (Γ : Funs) (x0 x1 : Value) : M Value :=
  bind (alc 1 x0) fun v2x1 =>
  bind (alc 1 (.agg #[.string ⟨#[]⟩, .int .i64 0])) fun v4x2 =>
  bind (fa 1 v2x1) fun v5x3 =>
  bind (ld1 v5x3) fun v6x4 =>
  bind (bop .int .neq v6x4 (Value.int .i64 0)) fun v7x5 =>
  bind (gate v7x5 false 2 (bind (bop .int .eql x1 (Value.int .i64 0)) fun v10x6 =>
  ret [x1, v10x6])) (c2 fun _ q7_1 =>
  bind (pick v7x5 (Value.bool true) q7_1) fun v11x8 =>
  cnd v11x8
  (bind (ldA 2 v2x1) fun v12x9 =>
  bind (stA 2 v4x2 v12x9) fun _ =>
  bind (ldA 2 v4x2) fun vrx10 =>
  ret vrx10)
  (bind (bld (.agg #[.string ⟨#[]⟩, .int .i64 0]) [(1, 1, x1)]) fun v14x11 =>
  bind (stA 2 v4x2 v14x11) fun _ =>
  bind (ldA 2 v4x2) fun vrx12 =>
  ret vrx12))

set_option maxRecDepth 100000 in
theorem rf_ref01Fail (Γ : Funs) (x0 x1 : Value) : runF Tryz.prog Γ Tryz.f57 lv_ref01Fail [x0, x1] = F_ref01Fail Γ x0 x1 := by kernel_rfl

theorem run_ref01Fail {prim : FuncId → Option (List Value → M Value)} (hp : prim n_ref01Fail = none) (n : Nat) (x0 x1 : Value) : run Tryz.prog prim lvs (n + 1) n_ref01Fail [x0, x1] = F_ref01Fail (run Tryz.prog prim lvs n) x0 x1 :=
  (run_fn hp (by kernel_rfl) Tryz.func57 (by kernel_rfl)).trans (rf_ref01Fail _ x0 x1)

/-- interrex/interrexref06.Get -/
noncomputable def F_ref06Get (Γ : Funs) (x0 x1 : Value) : M Value :=
  bind (alc 1 x0) fun v2x1 =>
  bind (alc 1 (.agg #[.string ⟨#[]⟩, .int .i64 0])) fun v4x2 =>
  bind (alc 1 (.agg #[.string ⟨#[]⟩, .string ⟨#[]⟩, .string ⟨#[]⟩, .bool false, .slice none 0 0])) fun v5x3 =>
  bind (bld (.agg #[.string ⟨#[]⟩, .string ⟨#[]⟩, .string ⟨#[]⟩, .bool false, .slice none 0 0]) []) fun v8x4 =>
  bind (alc 1 (.agg #[.string ⟨#[]⟩, .string ⟨#[]⟩, .string ⟨#[]⟩, .bool false, .slice none 0 0])) fun v6x5 =>
  bind (stA 5 v6x5 v8x4) fun _ =>
  bind (bop .int .lss x1 (Value.int .i64 1)) fun v10x6 =>
  bind (gate v10x6 false 2 (bind (bop .int .gtr x1 (Value.int .i64 2)) fun v13x7 =>
  ret [x1, v13x7])) (c2 fun _ q8_1 =>
  bind (pick v10x6 (Value.bool true) q8_1) fun v14x9 =>
  cnd v14x9
  (bind (ldA 2 v2x1) fun v15x10 =>
  bind (ldA 5 v6x5) fun v17x11 =>
  bind (Γ n_ref01Fail [v15x10, (Value.int .i64 6)]) fun v16x12 =>
  bind (ldA 5 v6x5) fun u_13 => same u_13 v17x11 <|
  bind (stA 2 v4x2 v16x12) fun _ =>
  bind (ldA 5 v6x5) fun u_14 => same u_14 v17x11 <|
  bind (stA 5 v5x3 v17x11) fun _ =>
  bind (ldA 2 v4x2) fun vrx15 =>
  bind (ldA 5 v5x3) fun vrx16 =>
  ret (Value.tuple #[vrx15, vrx16]))
  (bind (ldA 5 v6x5) fun v18x17 =>
  bind (alc 1 (.agg #[.string ⟨#[]⟩, .string ⟨#[]⟩, .string ⟨#[]⟩, .bool false, .slice none 0 0])) fun v7x18 =>
  bind (stA 5 v7x18 v18x17) fun _ =>
  bind (ldA 2 v2x1) fun v20x19 =>
  bind (Γ n_ref01GetText [v20x19, (Value.int .i64 65535)]) fun v21x20 =>
  bind (extr v21x20 0) fun v22x21 =>
  bind (extr v21x20 1) fun v23x22 =>
  bind (stA 2 v2x1 v22x21) fun _ =>
  bind (fa 0 v7x18) fun v24x23 =>
  bind (st1 v24x23 v23x22) fun _ =>
  bind (ldA 2 v2x1) fun v26x24 =>
  bind (Γ n_ref01GetText [v26x24, (Value.int .i64 65535)]) fun v27x25 =>
  bind (extr v27x25 0) fun v28x26 =>
  bind (extr v27x25 1) fun v29x27 =>
  bind (stA 2 v2x1 v28x26) fun _ =>
  bind (fa 1 v7x18) fun v30x28 =>
  bind (st1 v30x28 v29x27) fun _ =>
  bind (bop .int .eql x1 (Value.int .i64 2)) fun v32x29 =>
  jn (cnd v32x29
  (bind (ldA 2 v2x1) fun v34x30 =>
  bind (Γ n_ref01GetText [v34x30, (Value.int .i64 65535)]) fun v35x31 =>
  bind (extr v35x31 0) fun v36x32 =>
  bind (extr v35x31 1) fun v37x33 =>
  bind (stA 2 v2x1 v36x32) fun _ =>
  bind (fa 2 v7x18) fun v38x34 =>
  bind (st1 v38x34 v37x33) fun _ =>
  bind (ldA 2 v2x1) fun v40x35 =>
  bind (Γ n_ref01GetTruth [v40x35]) fun v41x36 =>
  bind (extr v41x36 0) fun v42x37 =>
  bind (extr v41x36 1) fun v43x38 =>
  bind (stA 2 v2x1 v42x37) fun _ =>
  bind (fa 3 v7x18) fun v44x39 =>
  bind (st1 v44x39 v43x38) fun _ =>
  bind (ldA 2 v2x1) fun v46x40 =>
  bind (Γ n_ref01GetRow [v46x40, (Value.int .i64 65535), (Value.int .i64 65535)]) fun v47x41 =>
  bind (extr v47x41 0) fun v48x42 =>
  bind (extr v47x41 1) fun v49x43 =>
  bind (stA 2 v2x1 v48x42) fun _ =>
  bind (fa 4 v7x18) fun v50x44 =>
  bind (st1 v50x44 v49x43) fun _ =>
  ret (.nrm [x1, v2x1, v4x2, v5x3, v6x5, v7x18]))
  (ret (.nrm [x1, v2x1, v4x2, v5x3, v6x5, v7x18]))) (c6 fun q45_0 q45_1 q45_2 q45_3 q45_4 q45_5 =>
  bind (ldA 2 q45_1) fun v51x46 =>
  bind (ldA 5 q45_5) fun v53x47 =>
  bind (Γ n_ref06Check [q45_0, v53x47]) fun v54x48 =>
  bind (ldA 2 q45_1) fun u_49 => same u_49 v51x46 <|
  bind (Γ n_ref01Fail [v51x46, v54x48]) fun v55x50 =>
  bind (stA 2 q45_1 v55x50) fun _ =>
  bind (fa 1 q45_1) fun v56x51 =>
  bind (ld1 v56x51) fun v57x52 =>
  bind (bop .int .neq v57x52 (Value.int .i64 0)) fun v58x53 =>
  cnd v58x53
  (bind (ldA 2 q45_1) fun v59x54 =>
  bind (ldA 5 q45_4) fun v60x55 =>
  bind (stA 2 q45_2 v59x54) fun _ =>
  bind (ldA 5 q45_4) fun u_56 => same u_56 v60x55 <|
  bind (stA 5 q45_3 v60x55) fun _ =>
  bind (ldA 2 q45_2) fun vrx57 =>
  bind (ldA 5 q45_3) fun vrx58 =>
  ret (Value.tuple #[vrx57, vrx58]))
  (bind (ldA 2 q45_1) fun v61x59 =>
  bind (ldA 5 q45_5) fun v62x60 =>
  bind (stA 2 q45_2 v61x59) fun _ =>
  bind (ldA 5 q45_5) fun u_61 => same u_61 v62x60 <|
  bind (stA 5 q45_3 v62x60) fun _ =>
  bind (ldA 2 q45_2) fun vrx62 =>
  bind (ldA 5 q45_3) fun vrx63 =>
  ret (Value.tuple #[vrx62, vrx63]))) noX ret))

set_option maxRecDepth 100000 in
theorem rf_ref06Get (Γ : Funs) (x0 x1 : Value) : runF Tryz.prog Γ Tryz.f58 lv_ref06Get [x0, x1] = F_ref06Get Γ x0 x1 := by kernel_rfl

theorem run_ref06Get {prim : FuncId → Option (List Value → M Value)} (hp : prim n_ref06Get = none) (n : Nat) (x0 x1 : Value) : run Tryz.prog prim lvs (n + 1) n_ref06Get [x0, x1] = F_ref06Get (run Tryz.prog prim lvs n) x0 x1 :=
  (run_fn hp (by kernel_rfl) Tryz.func58 (by kernel_rfl)).trans (rf_ref06Get _ x0 x1)

/-- slices.SortedFunc[string] -/
noncomputable def F_slicesSortedFuncString (Γ : Funs) (x0 x1 : Value) : M Value :=
  bind (Γ n_slicesCollectString [x0]) fun v7x1 =>
  bind (Γ n_slicesSortFuncstringString [v7x1, x1]) fun v10x2 =>
  ret v7x1

set_option maxRecDepth 100000 in
theorem rf_slicesSortedFuncString (Γ : Funs) (x0 x1 : Value) : runF Tryz.prog Γ Tryz.f59 lv_slicesSortedFuncString [x0, x1] = F_slicesSortedFuncString Γ x0 x1 := by kernel_rfl

theorem run_slicesSortedFuncString {prim : FuncId → Option (List Value → M Value)} (hp : prim n_slicesSortedFuncString = none) (n : Nat) (x0 x1 : Value) : run Tryz.prog prim lvs (n + 1) n_slicesSortedFuncString [x0, x1] = F_slicesSortedFuncString (run Tryz.prog prim lvs n) x0 x1 :=
  (run_fn hp (by kernel_rfl) Tryz.func59 (by kernel_rfl)).trans (rf_slicesSortedFuncString _ x0 x1)

/-- maps.Keys[map[string]string,string,string] -/
noncomputable def F_mapsKeysMapStringstringStringString (Γ : Funs) (x0 : Value) : M Value :=
  bind (alc 1 x0) fun v1x1 =>
  ret (Value.func (.func 91) #[] #[v1x1])

set_option maxRecDepth 100000 in
theorem rf_mapsKeysMapStringstringStringString (Γ : Funs) (x0 : Value) : runF Tryz.prog Γ Tryz.f60 lv_mapsKeysMapStringstringStringString [x0] = F_mapsKeysMapStringstringStringString Γ x0 := by kernel_rfl

theorem run_mapsKeysMapStringstringStringString {prim : FuncId → Option (List Value → M Value)} (hp : prim n_mapsKeysMapStringstringStringString = none) (n : Nat) (x0 : Value) : run Tryz.prog prim lvs (n + 1) n_mapsKeysMapStringstringStringString [x0] = F_mapsKeysMapStringstringStringString (run Tryz.prog prim lvs n) x0 :=
  (run_fn hp (by kernel_rfl) Tryz.func60 (by kernel_rfl)).trans (rf_mapsKeysMapStringstringStringString _ x0)

/-- (*interrex/octet.Writer).num: a round. -/
noncomputable def F_octetWriterNum.l1 (Γ : Funs) (s0 s1 s7 s8 : Value) : M Out :=
  bind (bop .int .lss s8 s7) fun v9x1 =>
  cnd v9x1
  (bind (nilc s0) fun v12x2 =>
  bind (fa 0 v12x2) fun v13x3 =>
  bind (ld1 v13x3) fun v14x4 =>
  bind (cvi .u8 s1) fun v16x5 =>
  bind (bsl 1 1 (.int .u8 0) [(0, 1, v16x5)]) fun v17x6 =>
  bind (app 1 1 v14x4 v17x6) fun v18x7 =>
  bind (nilc s0) fun v19x8 =>
  bind (fa 0 v19x8) fun v20x9 =>
  bind (st1 v20x9 v18x7) fun _ =>
  bind (bop .int .shr s1 (Value.int .u64 8)) fun v22x10 =>
  bind (bop .int .add s8 (Value.int .i64 1)) fun v23x11 =>
  ret (.nrm [s0, v22x10, s7, v23x11]))
  (ret (.ext 0 [s0]))

/-- (*interrex/octet.Writer).num -/
noncomputable def F_octetWriterNum (Γ : Funs) (x0 x1 x2 : Value) : M Value :=
  jn (loopM (c4 (F_octetWriterNum.l1 Γ)) [x0, x1, x2, (Value.int .i64 0)]) noN (xk 0 (c1 fun q13_0 =>
  ret q13_0) noX) ret

set_option maxRecDepth 100000 in
theorem rf_octetWriterNum (Γ : Funs) (x0 x1 x2 : Value) : runF Tryz.prog Γ Tryz.f61 lv_octetWriterNum [x0, x1, x2] = F_octetWriterNum Γ x0 x1 x2 := by kernel_rfl

theorem run_octetWriterNum {prim : FuncId → Option (List Value → M Value)} (hp : prim n_octetWriterNum = none) (n : Nat) (x0 x1 x2 : Value) : run Tryz.prog prim lvs (n + 1) n_octetWriterNum [x0, x1, x2] = F_octetWriterNum (run Tryz.prog prim lvs n) x0 x1 x2 :=
  (run_fn hp (by kernel_rfl) Tryz.func61 (by kernel_rfl)).trans (rf_octetWriterNum _ x0 x1 x2)

/-- (*interrex/octet.Writer).Text -/
noncomputable def F_octetWriterText (Γ : Funs) (x0 x1 : Value) : M Value :=
  bind (lenT x1) fun v7x1 =>
  bind (mxi false v7x1 (Value.int .i64 65535)) fun v8x2 =>
  bind (sls x1 none (some v8x2)) fun v9x3 =>
  bind (lenT v9x3) fun v12x4 =>
  bind (cvi .u16 v12x4) fun v13x5 =>
  bind (Γ n_octetWriterTwo [x0, v13x5]) fun v14x6 =>
  bind (nilc x0) fun v17x7 =>
  bind (fa 0 v17x7) fun v18x8 =>
  bind (ld1 v18x8) fun v19x9 =>
  bind (app 1 1 v19x9 v9x3) fun v21x10 =>
  bind (nilc x0) fun v22x11 =>
  bind (fa 0 v22x11) fun v23x12 =>
  bind (st1 v23x12 v21x10) fun _ =>
  ret x0

set_option maxRecDepth 100000 in
theorem rf_octetWriterText (Γ : Funs) (x0 x1 : Value) : runF Tryz.prog Γ Tryz.f62 lv_octetWriterText [x0, x1] = F_octetWriterText Γ x0 x1 := by kernel_rfl

theorem run_octetWriterText {prim : FuncId → Option (List Value → M Value)} (hp : prim n_octetWriterText = none) (n : Nat) (x0 x1 : Value) : run Tryz.prog prim lvs (n + 1) n_octetWriterText [x0, x1] = F_octetWriterText (run Tryz.prog prim lvs n) x0 x1 :=
  (run_fn hp (by kernel_rfl) Tryz.func62 (by kernel_rfl)).trans (rf_octetWriterText _ x0 x1)

/-- (*interrex/octet.Writer).Truth -/
noncomputable def F_octetWriterTruth (Γ : Funs) (x0 x1 : Value) : M Value :=
  cnd x1
  (bind (Γ n_octetWriterByte [x0, (Value.int .u8 1)]) fun v7x1 =>
  ret v7x1)
  (bind (Γ n_octetWriterByte [x0, (Value.int .u8 0)]) fun v9x2 =>
  ret v9x2)

set_option maxRecDepth 100000 in
theorem rf_octetWriterTruth (Γ : Funs) (x0 x1 : Value) : runF Tryz.prog Γ Tryz.f63 lv_octetWriterTruth [x0, x1] = F_octetWriterTruth Γ x0 x1 := by kernel_rfl

theorem run_octetWriterTruth {prim : FuncId → Option (List Value → M Value)} (hp : prim n_octetWriterTruth = none) (n : Nat) (x0 x1 : Value) : run Tryz.prog prim lvs (n + 1) n_octetWriterTruth [x0, x1] = F_octetWriterTruth (run Tryz.prog prim lvs n) x0 x1 :=
  (run_fn hp (by kernel_rfl) Tryz.func63 (by kernel_rfl)).trans (rf_octetWriterTruth _ x0 x1)

/-- interrex/interrexref06.Check: a round. -/
noncomputable def F_ref06Check.l1 (Γ : Funs) (s3 s62 s63 s64 : Value) : M Out :=
  bind (bop .int .lss s64 s63) fun v65x50 =>
  cnd v65x50
  (bind (ixa 1 s62 s64) fun v66x51 =>
  bind (ld1 v66x51) fun v67x52 =>
  bind (Γ n_ref05Name [v67x52]) fun v69x53 =>
  bind (uop .not v69x53) fun v70x54 =>
  cnd v70x54
  (ret (.ret (Value.int .i64 10)))
  (bind (bop .int .add s64 (Value.int .i64 1)) fun v71x55 =>
  ret (.nrm [s3, s62, s63, v71x55])))
  (ret (.ext 0 [s3]))

/-- interrex/interrexref06.Check: a round. -/
noncomputable def F_ref06Check.l2 (Γ : Funs) (s3 s73 s74 s75 : Value) : M Out :=
  bind (bop .int .lss s75 s74) fun v76x61 =>
  cnd v76x61
  (bind (ixa 1 s73 s75) fun v78x62 =>
  bind (ld1 v78x62) fun v79x63 =>
  bind (bop .int .gtr s75 (Value.int .i64 0)) fun v81x64 =>
  bind (gate v81x64 true 8 (bind (fa 4 s3) fun v84x65 =>
  bind (ld1 v84x65) fun v85x66 =>
  bind (bop .int .sub s75 (Value.int .i64 1)) fun v87x67 =>
  bind (ixa 1 v85x66 v87x67) fun v88x68 =>
  bind (ld1 v88x68) fun v89x69 =>
  bind (bop .str .leq v79x63 v89x69) fun v90x70 =>
  ret [v79x63, v84x65, v85x66, s75, v87x67, v88x68, v89x69, v90x70])) (c8 fun _ _ _ _ _ _ _ q71_7 =>
  bind (pick v81x64 q71_7 (Value.bool false)) fun v91x72 =>
  cnd v91x72
  (ret (.ret (Value.int .i64 9)))
  (bind (bop .int .add s75 (Value.int .i64 1)) fun v92x73 =>
  ret (.nrm [s3, s73, s74, v92x73]))))
  (ret (.ext 2 []))

/-- interrex/interrexref06.Check -/
noncomputable def F_ref06Check (Γ : Funs) (x0 x1 : Value) : M Value :=
  bind (alc 1 x1) fun v3x1 =>
  bind (bop .int .lss x0 (Value.int .i64 1)) fun v12x2 =>
  bind (gate v12x2 false 2 (bind (bop .int .gtr x0 (Value.int .i64 2)) fun v15x3 =>
  ret [x0, v15x3])) (c2 fun _ q4_1 =>
  bind (pick v12x2 (Value.bool true) q4_1) fun v16x5 =>
  cnd v16x5
  (ret (Value.int .i64 6))
  (bind (fa 0 v3x1) fun v17x6 =>
  bind (ld1 v17x6) fun v18x7 =>
  bind (Γ n_ref05Name [v18x7]) fun v19x8 =>
  bind (uop .not v19x8) fun v20x9 =>
  cnd v20x9
  (ret (Value.int .i64 10))
  (bind (fa 1 v3x1) fun v21x10 =>
  bind (ld1 v21x10) fun v22x11 =>
  bind (Γ n_ref05Hash [v22x11]) fun v23x12 =>
  bind (uop .not v23x12) fun v24x13 =>
  cnd v24x13
  (ret (Value.int .i64 4))
  (bind (bop .int .eql x0 (Value.int .i64 1)) fun v26x14 =>
  cnd v26x14
  (bind (fa 2 v3x1) fun v27x15 =>
  bind (ld1 v27x15) fun v28x16 =>
  bind (bop .str .neq v28x16 (Value.string ⟨#[]⟩)) fun v29x17 =>
  bind (gate v29x17 false 2 (bind (fa 3 v3x1) fun v31x18 =>
  bind (ld1 v31x18) fun v32x19 =>
  ret [v31x18, v32x19])) (c2 fun _ q20_1 =>
  bind (pick v29x17 (Value.bool true) q20_1) fun v33x21 =>
  bind (gate v33x21 false 4 (bind (fa 4 v3x1) fun v35x22 =>
  bind (ld1 v35x22) fun v36x23 =>
  bind (lenS v36x23) fun v37x24 =>
  bind (bop .int .gtr v37x24 (Value.int .i64 0)) fun v38x25 =>
  ret [v35x22, v36x23, v37x24, v38x25])) (c4 fun _ _ _ q26_3 =>
  bind (pick v33x21 (Value.bool true) q26_3) fun v39x27 =>
  cnd v39x27
  (ret (Value.int .i64 12))
  (ret (Value.int .i64 0)))))
  (bind (fa 2 v3x1) fun v40x28 =>
  bind (ld1 v40x28) fun v41x29 =>
  bind (bop .str .neq v41x29 (Value.string ⟨#[]⟩)) fun v42x30 =>
  jn (cnd v42x30
  (bind (fa 2 v3x1) fun v44x31 =>
  bind (ld1 v44x31) fun v45x32 =>
  bind (Γ n_ref05Mail [v45x32]) fun v46x33 =>
  bind (extr v46x33 0) fun v47x34 =>
  bind (extr v46x33 1) fun v48x35 =>
  bind (uop .not v48x35) fun v50x36 =>
  bind (gate v50x36 false 4 (bind (fa 2 v3x1) fun v53x37 =>
  bind (ld1 v53x37) fun v54x38 =>
  bind (bop .str .neq v47x34 v54x38) fun v55x39 =>
  ret [v47x34, v53x37, v54x38, v55x39])) (c4 fun _ _ _ q40_3 =>
  bind (pick v50x36 (Value.bool true) q40_3) fun v56x41 =>
  cnd v56x41
  (ret (.ret (Value.int .i64 11)))
  (ret (.nrm [v3x1]))))
  (ret (.nrm [v3x1]))) (c1 fun q42_0 =>
  bind (fa 4 q42_0) fun v57x43 =>
  bind (ld1 v57x43) fun v58x44 =>
  bind (lenS v58x44) fun v59x45 =>
  bind (bop .int .gtr v59x45 (Value.int .i64 6)) fun v60x46 =>
  cnd v60x46
  (ret (Value.int .i64 7))
  (bind (fa 4 q42_0) fun v61x47 =>
  bind (ld1 v61x47) fun v62x48 =>
  bind (lenS v62x48) fun v63x49 =>
  jn (loopM (c4 (F_ref06Check.l1 Γ)) [q42_0, v62x48, v63x49, (Value.int .i64 0)]) noN (xk 0 (c1 fun q57_0 =>
  bind (fa 4 q57_0) fun v72x58 =>
  bind (ld1 v72x58) fun v73x59 =>
  bind (lenS v73x59) fun v74x60 =>
  jn (loopM (c4 (F_ref06Check.l2 Γ)) [q57_0, v73x59, v74x60, (Value.int .i64 0)]) noN (xk 2 (c0 (ret (Value.int .i64 0))) noX) ret) noX) ret)) noX ret)))))

set_option maxRecDepth 100000 in
theorem rf_ref06Check (Γ : Funs) (x0 x1 : Value) : runF Tryz.prog Γ Tryz.f64 lv_ref06Check [x0, x1] = F_ref06Check Γ x0 x1 := by kernel_rfl

theorem run_ref06Check {prim : FuncId → Option (List Value → M Value)} (hp : prim n_ref06Check = none) (n : Nat) (x0 x1 : Value) : run Tryz.prog prim lvs (n + 1) n_ref06Check [x0, x1] = F_ref06Check (run Tryz.prog prim lvs n) x0 x1 :=
  (run_fn hp (by kernel_rfl) Tryz.func64 (by kernel_rfl)).trans (rf_ref06Check _ x0 x1)

/-- interrex/interrexref01.Num: a round. -/
noncomputable def F_ref01Num.l1 (Γ : Funs) (s0 s5 s6 s7 : Value) : M Out :=
  bind (bop .int .lss s7 s6) fun v8x1 =>
  cnd v8x1
  (bind (bop .int .rem s0 (Value.int .u64 256)) fun v11x2 =>
  bind (cvi .u8 v11x2) fun v12x3 =>
  bind (bsl 1 1 (.int .u8 0) [(0, 1, v12x3)]) fun v13x4 =>
  bind (b2s v13x4) fun v14x5 =>
  bind (bop .str .add s5 v14x5) fun v15x6 =>
  bind (bop .int .quo s0 (Value.int .u64 256)) fun v17x7 =>
  bind (bop .int .add s7 (Value.int .i64 1)) fun v18x8 =>
  ret (.nrm [v17x7, v15x6, s6, v18x8]))
  (ret (.ext 0 [s5]))

/-- interrex/interrexref01.Num -/
noncomputable def F_ref01Num (Γ : Funs) (x0 x1 : Value) : M Value :=
  jn (loopM (c4 (F_ref01Num.l1 Γ)) [x0, (Value.string ⟨#[]⟩), x1, (Value.int .i64 0)]) noN (xk 0 (c1 fun q10_0 =>
  ret q10_0) noX) ret

set_option maxRecDepth 100000 in
theorem rf_ref01Num (Γ : Funs) (x0 x1 : Value) : runF Tryz.prog Γ Tryz.f65 lv_ref01Num [x0, x1] = F_ref01Num Γ x0 x1 := by kernel_rfl

theorem run_ref01Num {prim : FuncId → Option (List Value → M Value)} (hp : prim n_ref01Num = none) (n : Nat) (x0 x1 : Value) : run Tryz.prog prim lvs (n + 1) n_ref01Num [x0, x1] = F_ref01Num (run Tryz.prog prim lvs n) x0 x1 :=
  (run_fn hp (by kernel_rfl) Tryz.func65 (by kernel_rfl)).trans (rf_ref01Num _ x0 x1)

/-- interrex/interrexref06.Text -/
noncomputable def F_ref06Text (Γ : Funs) (x0 x1 : Value) : M Value :=
  bind (alc 1 x1) fun v3x1 =>
  bind (fa 0 v3x1) fun v6x2 =>
  bind (ld1 v6x2) fun v7x3 =>
  bind (fa 1 v3x1) fun v9x4 =>
  bind (ld1 v9x4) fun v10x5 =>
  bind (Γ n_ref01Text [v7x3]) fun v8x6 =>
  bind (ld1 v9x4) fun u_7 => same u_7 v10x5 <|
  bind (Γ n_ref01Text [v10x5]) fun v11x8 =>
  bind (bop .str .add v8x6 v11x8) fun v12x9 =>
  bind (bop .int .eql x0 (Value.int .i64 2)) fun v14x10 =>
  jn (cnd v14x10
  (bind (fa 2 v3x1) fun v16x11 =>
  bind (ld1 v16x11) fun v17x12 =>
  bind (fa 3 v3x1) fun v20x13 =>
  bind (ld1 v20x13) fun v21x14 =>
  bind (fa 4 v3x1) fun v24x15 =>
  bind (ld1 v24x15) fun v25x16 =>
  bind (Γ n_ref01Text [v17x12]) fun v18x17 =>
  bind (ld1 v24x15) fun u_18 => same u_18 v25x16 <|
  bind (ld1 v20x13) fun u_19 => same u_19 v21x14 <|
  bind (bop .str .add v12x9 v18x17) fun v19x20 =>
  bind (Γ n_ref01Truth [v21x14]) fun v22x21 =>
  bind (ld1 v24x15) fun u_22 => same u_22 v25x16 <|
  bind (bop .str .add v19x20 v22x21) fun v23x23 =>
  bind (Γ n_ref01Row [v25x16]) fun v26x24 =>
  bind (bop .str .add v23x23 v26x24) fun v27x25 =>
  ret (.nrm [v27x25]))
  (ret (.nrm [v12x9]))) (c1 fun q26_0 =>
  ret q26_0) noX ret

set_option maxRecDepth 100000 in
theorem rf_ref06Text (Γ : Funs) (x0 x1 : Value) : runF Tryz.prog Γ Tryz.f66 lv_ref06Text [x0, x1] = F_ref06Text Γ x0 x1 := by kernel_rfl

theorem run_ref06Text {prim : FuncId → Option (List Value → M Value)} (hp : prim n_ref06Text = none) (n : Nat) (x0 x1 : Value) : run Tryz.prog prim lvs (n + 1) n_ref06Text [x0, x1] = F_ref06Text (run Tryz.prog prim lvs n) x0 x1 :=
  (run_fn hp (by kernel_rfl) Tryz.func66 (by kernel_rfl)).trans (rf_ref06Text _ x0 x1)

/-- interrex/mail.New -/
noncomputable def F_mailNew (Γ : Funs) : M Value :=
  bind (mkm) fun v1x1 =>
  bind (mkm) fun v2x2 =>
  bind (bld (.agg #[.map none, .map none]) [(0, 1, v1x1), (1, 1, v2x2)]) fun v3x3 =>
  bind (alc 1 v3x3) fun v4x4 =>
  ret v4x4

set_option maxRecDepth 100000 in
theorem rf_mailNew (Γ : Funs) : runF Tryz.prog Γ Tryz.f67 lv_mailNew [] = F_mailNew Γ  := by kernel_rfl

theorem run_mailNew {prim : FuncId → Option (List Value → M Value)} (hp : prim n_mailNew = none) (n : Nat) : run Tryz.prog prim lvs (n + 1) n_mailNew [] = F_mailNew (run Tryz.prog prim lvs n)  :=
  (run_fn hp (by kernel_rfl) Tryz.func67 (by kernel_rfl)).trans (rf_mailNew _ )

/-- interrex/group.New -/
noncomputable def F_groupNew (Γ : Funs) : M Value :=
  bind (mkm) fun v1x1 =>
  bind (bld (.agg #[.map none]) [(0, 1, v1x1)]) fun v2x2 =>
  bind (alc 1 v2x2) fun v3x3 =>
  ret v3x3

set_option maxRecDepth 100000 in
theorem rf_groupNew (Γ : Funs) : runF Tryz.prog Γ Tryz.f68 lv_groupNew [] = F_groupNew Γ  := by kernel_rfl

theorem run_groupNew {prim : FuncId → Option (List Value → M Value)} (hp : prim n_groupNew = none) (n : Nat) : run Tryz.prog prim lvs (n + 1) n_groupNew [] = F_groupNew (run Tryz.prog prim lvs n)  :=
  (run_fn hp (by kernel_rfl) Tryz.func68 (by kernel_rfl)).trans (rf_groupNew _ )

/-- interrex/newer.rise: a round. -/
noncomputable def F_newerRise.l1 (Γ : Funs) (s0 s1 s5 : Value) : M Out :=
  bind (lenS s0) fun v8x1 =>
  bind (bop .int .lss s5 v8x1) fun v9x2 =>
  cnd v9x2
  (bind (bop .int .sub s5 (Value.int .i64 1)) fun v14x3 =>
  bind (ixa 1 s0 v14x3) fun v15x4 =>
  bind (ld1 v15x4) fun v16x5 =>
  bind (ixa 1 s0 s5) fun v19x6 =>
  bind (ld1 v19x6) fun v20x7 =>
  bind (Γ n_nameCompare [v16x5, v20x7]) fun v21x8 =>
  bind (bop .int .geq v21x8 (Value.int .i64 0)) fun v22x9 =>
  cnd v22x9
  (ret (.ret (Value.int .i64 9)))
  (bind (bop .int .add s5 (Value.int .i64 1)) fun v11x10 =>
  ret (.nrm [s0, s1, v11x10])))
  (ret (.ext 0 [s0, s1]))

/-- interrex/newer.rise -/
noncomputable def F_newerRise (Γ : Funs) (x0 x1 : Value) : M Value :=
  jn (loopM (c3 (F_newerRise.l1 Γ)) [x0, x1, (Value.int .i64 1)]) noN (xk 0 (c2 fun q12_0 q12_1 =>
  bind (lenS q12_0) fun v24x13 =>
  bind (bop .int .gtr v24x13 q12_1) fun v26x14 =>
  cnd v26x14
  (ret (Value.int .i64 7))
  (ret (Value.int .i64 0))) noX) ret

set_option maxRecDepth 100000 in
theorem rf_newerRise (Γ : Funs) (x0 x1 : Value) : runF Tryz.prog Γ Tryz.f69 lv_newerRise [x0, x1] = F_newerRise Γ x0 x1 := by kernel_rfl

theorem run_newerRise {prim : FuncId → Option (List Value → M Value)} (hp : prim n_newerRise = none) (n : Nat) (x0 x1 : Value) : run Tryz.prog prim lvs (n + 1) n_newerRise [x0, x1] = F_newerRise (run Tryz.prog prim lvs n) x0 x1 :=
  (run_fn hp (by kernel_rfl) Tryz.func69 (by kernel_rfl)).trans (rf_newerRise _ x0 x1)

/-- interrex/name.Name -/
noncomputable def F_nameName (Γ : Funs) (x0 : Value) : M Value :=
  bind (Γ n_nameIsName [x0]) fun v4x1 =>
  bind (uop .not v4x1) fun v5x2 =>
  cnd v5x2
  (ret (Value.int .i64 10))
  (ret (Value.int .i64 0))

set_option maxRecDepth 100000 in
theorem rf_nameName (Γ : Funs) (x0 : Value) : runF Tryz.prog Γ Tryz.f70 lv_nameName [x0] = F_nameName Γ x0 := by kernel_rfl

theorem run_nameName {prim : FuncId → Option (List Value → M Value)} (hp : prim n_nameName = none) (n : Nat) (x0 : Value) : run Tryz.prog prim lvs (n + 1) n_nameName [x0] = F_nameName (run Tryz.prog prim lvs n) x0 :=
  (run_fn hp (by kernel_rfl) Tryz.func70 (by kernel_rfl)).trans (rf_nameName _ x0)

/-- (*interrex/group.Groups).find -/
noncomputable def F_groupGroupsFind (Γ : Funs) (x0 x1 x2 : Value) : M Value :=
  bind (bsl 1 1 (.string ⟨#[]⟩) [(0, 1, x1)]) fun v12x1 =>
  bind (app 1 16 v12x1 x2) fun v14x2 =>
  bind (Γ n_groupNames [v14x2]) fun v15x3 =>
  bind (bop .int .neq v15x3 (Value.int .i64 0)) fun v17x4 =>
  cnd v17x4
  (ret (Value.tuple #[(Value.map none), v15x3]))
  (bind (nilc x0) fun v21x5 =>
  bind (fa 0 v21x5) fun v22x6 =>
  bind (ld1 v22x6) fun v23x7 =>
  bind (lkp .str (.map none) true v23x7 x1) fun v25x8 =>
  bind (extr v25x8 0) fun v26x9 =>
  bind (extr v25x8 1) fun v27x10 =>
  bind (uop .not v27x10) fun v29x11 =>
  cnd v29x11
  (ret (Value.tuple #[(Value.map none), (Value.int .i64 8)]))
  (ret (Value.tuple #[v26x9, (Value.int .i64 0)])))

set_option maxRecDepth 100000 in
theorem rf_groupGroupsFind (Γ : Funs) (x0 x1 x2 : Value) : runF Tryz.prog Γ Tryz.f71 lv_groupGroupsFind [x0, x1, x2] = F_groupGroupsFind Γ x0 x1 x2 := by kernel_rfl

theorem run_groupGroupsFind {prim : FuncId → Option (List Value → M Value)} (hp : prim n_groupGroupsFind = none) (n : Nat) (x0 x1 x2 : Value) : run Tryz.prog prim lvs (n + 1) n_groupGroupsFind [x0, x1, x2] = F_groupGroupsFind (run Tryz.prog prim lvs n) x0 x1 x2 :=
  (run_fn hp (by kernel_rfl) Tryz.func71 (by kernel_rfl)).trans (rf_groupGroupsFind _ x0 x1 x2)

/-- (*interrex/mail.Index).Drop -/
noncomputable def F_mailIndexDrop (Γ : Funs) (x0 x1 : Value) : M Value :=
  bind (nilc x0) fun v9x1 =>
  bind (fa 1 v9x1) fun v10x2 =>
  bind (ld1 v10x2) fun v11x3 =>
  bind (lkp .str (.string ⟨#[]⟩) true v11x3 x1) fun v13x4 =>
  bind (extr v13x4 0) fun v14x5 =>
  bind (extr v13x4 1) fun v15x6 =>
  jn (cnd v15x6
  (bind (nilc x0) fun v18x7 =>
  bind (fa 0 v18x7) fun v19x8 =>
  bind (ld1 v19x8) fun v20x9 =>
  bind (mde .str v20x9 v14x5) fun _ =>
  bind (nilc x0) fun v23x10 =>
  bind (fa 1 v23x10) fun v24x11 =>
  bind (ld1 v24x11) fun v25x12 =>
  bind (mde .str v25x12 x1) fun _ =>
  ret (.nrm [v15x6]))
  (ret (.nrm [v15x6]))) (c1 fun q13_0 =>
  ret q13_0) noX ret

set_option maxRecDepth 100000 in
theorem rf_mailIndexDrop (Γ : Funs) (x0 x1 : Value) : runF Tryz.prog Γ Tryz.f72 lv_mailIndexDrop [x0, x1] = F_mailIndexDrop Γ x0 x1 := by kernel_rfl

theorem run_mailIndexDrop {prim : FuncId → Option (List Value → M Value)} (hp : prim n_mailIndexDrop = none) (n : Nat) (x0 x1 : Value) : run Tryz.prog prim lvs (n + 1) n_mailIndexDrop [x0, x1] = F_mailIndexDrop (run Tryz.prog prim lvs n) x0 x1 :=
  (run_fn hp (by kernel_rfl) Tryz.func72 (by kernel_rfl)).trans (rf_mailIndexDrop _ x0 x1)

/-- interrex/name.Mail: a round. -/
noncomputable def F_nameMail.l1 (Γ : Funs) (s0 s35 s36 s37 : Value) : M Out :=
  bind (bop .int .lss s37 s36) fun v38x19 =>
  cnd v38x19
  (bind (ixa 1 s35 s37) fun v39x20 =>
  bind (ld1 v39x20) fun v40x21 =>
  bind (bop .str .eql v40x21 (Value.string ⟨#[]⟩)) fun v42x22 =>
  bind (gate v42x22 false 3 (bind (Γ n_nameAll [v40x21, (Value.func (.func 104) #[] #[])]) fun v45x23 =>
  bind (uop .not v45x23) fun v46x24 =>
  ret [v40x21, v45x23, v46x24])) (c3 fun _ _ q25_2 =>
  bind (pick v42x22 (Value.bool true) q25_2) fun v47x26 =>
  cnd v47x26
  (ret (.ret (Value.tuple #[(Value.string ⟨#[]⟩), (Value.int .i64 11)])))
  (bind (bop .int .add s37 (Value.int .i64 1)) fun v48x27 =>
  ret (.nrm [s0, s35, s36, v48x27]))))
  (ret (.ext 0 [s0]))

/-- interrex/name.Mail -/
noncomputable def F_nameMail (Γ : Funs) (x0 : Value) : M Value :=
  bind (lenT x0) fun v11x1 =>
  bind (bop .int .gtr v11x1 (Value.int .i64 20)) fun v12x2 =>
  cnd v12x2
  (ret (Value.tuple #[(Value.string ⟨#[]⟩), (Value.int .i64 11)]))
  (bind (Γ n_nameFold [x0]) fun v14x3 =>
  bind (Γ n_stringsCut [v14x3, (Value.string ⟨#[64]⟩)]) fun v17x4 =>
  bind (extr v17x4 0) fun v18x5 =>
  bind (extr v17x4 1) fun v19x6 =>
  bind (extr v17x4 2) fun v20x7 =>
  bind (Γ n_stringsSplit [v19x6, (Value.string ⟨#[46]⟩)]) fun v22x8 =>
  bind (uop .not v20x7) fun v24x9 =>
  bind (gate v24x9 false 3 (bind (Γ n_nameIsName [v18x5]) fun v27x10 =>
  bind (uop .not v27x10) fun v28x11 =>
  ret [v18x5, v27x10, v28x11])) (c3 fun _ _ q12_2 =>
  bind (pick v24x9 (Value.bool true) q12_2) fun v29x13 =>
  bind (gate v29x13 false 3 (bind (lenS v22x8) fun v32x14 =>
  bind (bop .int .lss v32x14 (Value.int .i64 2)) fun v33x15 =>
  ret [v22x8, v32x14, v33x15])) (c3 fun _ _ q16_2 =>
  bind (pick v29x13 (Value.bool true) q16_2) fun v34x17 =>
  cnd v34x17
  (ret (Value.tuple #[(Value.string ⟨#[]⟩), (Value.int .i64 11)]))
  (bind (lenS v22x8) fun v36x18 =>
  jn (loopM (c4 (F_nameMail.l1 Γ)) [v14x3, v22x8, v36x18, (Value.int .i64 0)]) noN (xk 0 (c1 fun q29_0 =>
  ret (Value.tuple #[q29_0, (Value.int .i64 0)])) noX) ret))))

set_option maxRecDepth 100000 in
theorem rf_nameMail (Γ : Funs) (x0 : Value) : runF Tryz.prog Γ Tryz.f73 lv_nameMail [x0] = F_nameMail Γ x0 := by kernel_rfl

theorem run_nameMail {prim : FuncId → Option (List Value → M Value)} (hp : prim n_nameMail = none) (n : Nat) (x0 : Value) : run Tryz.prog prim lvs (n + 1) n_nameMail [x0] = F_nameMail (run Tryz.prog prim lvs n) x0 :=
  (run_fn hp (by kernel_rfl) Tryz.func73 (by kernel_rfl)).trans (rf_nameMail _ x0)

/-- (*interrex/group.Groups).All -/
noncomputable def F_groupGroupsAll (Γ : Funs) (x0 : Value) : M Value :=
  bind (nilc x0) fun v4x1 =>
  bind (fa 0 v4x1) fun v5x2 =>
  bind (ld1 v5x2) fun v6x3 =>
  bind (Γ n_groupRisingGroupSet [v6x3]) fun v7x4 =>
  ret v7x4

set_option maxRecDepth 100000 in
theorem rf_groupGroupsAll (Γ : Funs) (x0 : Value) : runF Tryz.prog Γ Tryz.f74 lv_groupGroupsAll [x0] = F_groupGroupsAll Γ x0 := by kernel_rfl

theorem run_groupGroupsAll {prim : FuncId → Option (List Value → M Value)} (hp : prim n_groupGroupsAll = none) (n : Nat) (x0 : Value) : run Tryz.prog prim lvs (n + 1) n_groupGroupsAll [x0] = F_groupGroupsAll (run Tryz.prog prim lvs n) x0 :=
  (run_fn hp (by kernel_rfl) Tryz.func74 (by kernel_rfl)).trans (rf_groupGroupsAll _ x0)

/-- (*interrex/newer.Dir).names -/
noncomputable def F_newerDirNames (Γ : Funs) (x0 : Value) : M Value :=
  bind (nilc x0) fun v4x1 =>
  bind (fa 0 v4x1) fun v5x2 =>
  bind (ld1 v5x2) fun v6x3 =>
  bind (Γ n_mapsKeysMapStringnewerAccountStringNewerAccount [v6x3]) fun v7x4 =>
  bind (Γ n_slicesSortedFuncString [v7x4, (Value.func (.func 55) #[] #[])]) fun v8x5 =>
  ret v8x5

set_option maxRecDepth 100000 in
theorem rf_newerDirNames (Γ : Funs) (x0 : Value) : runF Tryz.prog Γ Tryz.f75 lv_newerDirNames [x0] = F_newerDirNames Γ x0 := by kernel_rfl

theorem run_newerDirNames {prim : FuncId → Option (List Value → M Value)} (hp : prim n_newerDirNames = none) (n : Nat) (x0 : Value) : run Tryz.prog prim lvs (n + 1) n_newerDirNames [x0] = F_newerDirNames (run Tryz.prog prim lvs n) x0 :=
  (run_fn hp (by kernel_rfl) Tryz.func75 (by kernel_rfl)).trans (rf_newerDirNames _ x0)

/-- (*interrex/newer.Dir).Lookup -/
noncomputable def F_newerDirLookup (Γ : Funs) (x0 x1 : Value) : M Value :=
  bind (alc 1 (.agg #[.string ⟨#[]⟩, .string ⟨#[]⟩, .string ⟨#[]⟩, .bool false, .slice none 0 0])) fun v4x1 =>
  bind (Γ n_newerDirFind [x0, x1]) fun v13x2 =>
  bind (extr v13x2 0) fun v14x3 =>
  bind (extr v13x2 1) fun v15x4 =>
  bind (alc 1 (.agg #[.string ⟨#[]⟩, .bool false])) fun v6x5 =>
  bind (stA 2 v6x5 v14x3) fun _ =>
  bind (bop .int .neq v15x4 (Value.int .i64 0)) fun v17x6 =>
  cnd v17x6
  (bind (bld (.agg #[.string ⟨#[]⟩, .string ⟨#[]⟩, .string ⟨#[]⟩, .bool false, .slice none 0 0]) []) fun v18x7 =>
  bind (stA 5 v4x1 v18x7) fun _ =>
  bind (ldA 5 v4x1) fun vrx8 =>
  ret (Value.tuple #[vrx8, v15x4]))
  (bind (nilc x0) fun v22x9 =>
  bind (fa 1 v22x9) fun v23x10 =>
  bind (ld1 v23x10) fun v24x11 =>
  bind (Γ n_mailIndexOf [v24x11, x1]) fun v26x12 =>
  bind (extr v26x12 0) fun v27x13 =>
  bind (extr v26x12 1) fun v28x14 =>
  bind (fa 0 v6x5) fun v30x15 =>
  bind (ld1 v30x15) fun v31x16 =>
  bind (fa 1 v6x5) fun v33x17 =>
  bind (ld1 v33x17) fun v34x18 =>
  bind (nilc x0) fun v36x19 =>
  bind (fa 2 v36x19) fun v37x20 =>
  bind (ld1 v37x20) fun v38x21 =>
  bind (Γ n_groupGroupsOf [v38x21, x1]) fun v40x22 =>
  bind (ld1 v33x17) fun u_23 => same u_23 v34x18 <|
  bind (ld1 v30x15) fun u_24 => same u_24 v31x16 <|
  bind (bld (.agg #[.string ⟨#[]⟩, .string ⟨#[]⟩, .string ⟨#[]⟩, .bool false, .slice none 0 0]) [(0, 1, x1), (1, 1, v31x16), (2, 1, v27x13), (3, 1, v34x18), (4, 1, v40x22)]) fun v41x25 =>
  bind (stA 5 v4x1 v41x25) fun _ =>
  bind (ldA 5 v4x1) fun vrx26 =>
  ret (Value.tuple #[vrx26, (Value.int .i64 0)]))

set_option maxRecDepth 100000 in
theorem rf_newerDirLookup (Γ : Funs) (x0 x1 : Value) : runF Tryz.prog Γ Tryz.f76 lv_newerDirLookup [x0, x1] = F_newerDirLookup Γ x0 x1 := by kernel_rfl

theorem run_newerDirLookup {prim : FuncId → Option (List Value → M Value)} (hp : prim n_newerDirLookup = none) (n : Nat) (x0 x1 : Value) : run Tryz.prog prim lvs (n + 1) n_newerDirLookup [x0, x1] = F_newerDirLookup (run Tryz.prog prim lvs n) x0 x1 :=
  (run_fn hp (by kernel_rfl) Tryz.func76 (by kernel_rfl)).trans (rf_newerDirLookup _ x0 x1)

/-- (*interrex/octet.Reader).take -/
noncomputable def F_octetReaderTake (Γ : Funs) (x0 x1 : Value) : M Value :=
  bind (nilc x0) fun v8x1 =>
  bind (fa 0 v8x1) fun v9x2 =>
  bind (ld1 v9x2) fun v10x3 =>
  bind (lenS v10x3) fun v11x4 =>
  bind (bop .int .gtr x1 v11x4) fun v12x5 =>
  cnd v12x5
  (bind (Γ n_octetReaderFail [x0, (Value.int .i64 2)]) fun v14x6 =>
  ret (Value.slice none 0 0))
  (bind (nilc x0) fun v16x7 =>
  bind (fa 0 v16x7) fun v17x8 =>
  bind (ld1 v17x8) fun v18x9 =>
  bind (slv 1 v18x9 none (some x1) none) fun v20x10 =>
  bind (nilc x0) fun v23x11 =>
  bind (fa 0 v23x11) fun v24x12 =>
  bind (ld1 v24x12) fun v25x13 =>
  bind (slv 1 v25x13 (some x1) none none) fun v27x14 =>
  bind (nilc x0) fun v28x15 =>
  bind (fa 0 v28x15) fun v29x16 =>
  bind (st1 v29x16 v27x14) fun _ =>
  ret v20x10)

set_option maxRecDepth 100000 in
theorem rf_octetReaderTake (Γ : Funs) (x0 x1 : Value) : runF Tryz.prog Γ Tryz.f77 lv_octetReaderTake [x0, x1] = F_octetReaderTake Γ x0 x1 := by kernel_rfl

theorem run_octetReaderTake {prim : FuncId → Option (List Value → M Value)} (hp : prim n_octetReaderTake = none) (n : Nat) (x0 x1 : Value) : run Tryz.prog prim lvs (n + 1) n_octetReaderTake [x0, x1] = F_octetReaderTake (run Tryz.prog prim lvs n) x0 x1 :=
  (run_fn hp (by kernel_rfl) Tryz.func77 (by kernel_rfl)).trans (rf_octetReaderTake _ x0 x1)

/-- (*interrex/octet.Reader).count -/
noncomputable def F_octetReaderCount (Γ : Funs) (x0 x1 : Value) : M Value :=
  bind (Γ n_octetReaderTwo [x0]) fun v7x1 =>
  bind (cvi .i64 v7x1) fun v8x2 =>
  bind (mxi true (Value.int .i64 0) x1) fun v11x3 =>
  bind (bop .int .gtr v8x2 v11x3) fun v12x4 =>
  cnd v12x4
  (bind (Γ n_octetReaderFail [x0, (Value.int .i64 3)]) fun v14x5 =>
  ret (Value.int .i64 0))
  (ret v8x2)

set_option maxRecDepth 100000 in
theorem rf_octetReaderCount (Γ : Funs) (x0 x1 : Value) : runF Tryz.prog Γ Tryz.f78 lv_octetReaderCount [x0, x1] = F_octetReaderCount Γ x0 x1 := by kernel_rfl

theorem run_octetReaderCount {prim : FuncId → Option (List Value → M Value)} (hp : prim n_octetReaderCount = none) (n : Nat) (x0 x1 : Value) : run Tryz.prog prim lvs (n + 1) n_octetReaderCount [x0, x1] = F_octetReaderCount (run Tryz.prog prim lvs n) x0 x1 :=
  (run_fn hp (by kernel_rfl) Tryz.func78 (by kernel_rfl)).trans (rf_octetReaderCount _ x0 x1)

/-- interrex/user.first: a round. -/
noncomputable def F_userFirst.l1 (Γ : Funs) (s5 s6 s7 : Value) : M Out :=
  bind (bop .int .lss s7 s6) fun v8x2 =>
  cnd v8x2
  (bind (ixa 1 s5 s7) fun v9x3 =>
  bind (ld1 v9x3) fun v10x4 =>
  bind (bop .int .neq v10x4 (Value.int .i64 0)) fun v12x5 =>
  cnd v12x5
  (ret (.ret v10x4))
  (bind (bop .int .add s7 (Value.int .i64 1)) fun v14x6 =>
  ret (.nrm [s5, s6, v14x6])))
  (ret (.ext 0 []))

/-- interrex/user.first -/
noncomputable def F_userFirst (Γ : Funs) (x0 : Value) : M Value :=
  bind (lenS x0) fun v6x1 =>
  jn (loopM (c3 (F_userFirst.l1 Γ)) [x0, v6x1, (Value.int .i64 0)]) noN (xk 0 (c0 (ret (Value.int .i64 0))) noX) ret

set_option maxRecDepth 100000 in
theorem rf_userFirst (Γ : Funs) (x0 : Value) : runF Tryz.prog Γ Tryz.f79 lv_userFirst [x0] = F_userFirst Γ x0 := by kernel_rfl

theorem run_userFirst {prim : FuncId → Option (List Value → M Value)} (hp : prim n_userFirst = none) (n : Nat) (x0 : Value) : run Tryz.prog prim lvs (n + 1) n_userFirst [x0] = F_userFirst (run Tryz.prog prim lvs n) x0 :=
  (run_fn hp (by kernel_rfl) Tryz.func79 (by kernel_rfl)).trans (rf_userFirst _ x0)

/-- interrex/name.Hash -/
noncomputable def F_nameHash (Γ : Funs) (x0 : Value) : M Value :=
  bind (bop .str .eql x0 (Value.string ⟨#[]⟩)) fun v5x1 =>
  bind (gate v5x1 false 3 (bind (lenT x0) fun v8x2 =>
  bind (bop .int .gtr v8x2 (Value.int .i64 12)) fun v9x3 =>
  ret [x0, v8x2, v9x3])) (c3 fun _ _ q4_2 =>
  bind (pick v5x1 (Value.bool true) q4_2) fun v10x5 =>
  bind (gate v10x5 false 4 (bind (Γ n_nameAll [x0, (Value.func (.func 112) #[] #[])]) fun v14x6 =>
  bind (uop .not v14x6) fun v15x7 =>
  ret [x0, (Value.func (.func 112) #[] #[]), v14x6, v15x7])) (c4 fun _ _ _ q8_3 =>
  bind (pick v10x5 (Value.bool true) q8_3) fun v16x9 =>
  cnd v16x9
  (ret (Value.int .i64 4))
  (ret (Value.int .i64 0))))

set_option maxRecDepth 100000 in
theorem rf_nameHash (Γ : Funs) (x0 : Value) : runF Tryz.prog Γ Tryz.f80 lv_nameHash [x0] = F_nameHash Γ x0 := by kernel_rfl

theorem run_nameHash {prim : FuncId → Option (List Value → M Value)} (hp : prim n_nameHash = none) (n : Nat) (x0 : Value) : run Tryz.prog prim lvs (n + 1) n_nameHash [x0] = F_nameHash (run Tryz.prog prim lvs n) x0 :=
  (run_fn hp (by kernel_rfl) Tryz.func80 (by kernel_rfl)).trans (rf_nameHash _ x0)

/-- interrex/user.mail -/
noncomputable def F_userMail (Γ : Funs) (x0 : Value) : M Value :=
  bind (bop .str .eql x0 (Value.string ⟨#[]⟩)) fun v6x1 =>
  cnd v6x1
  (ret (Value.int .i64 0))
  (bind (Γ n_nameMail [x0]) fun v9x2 =>
  bind (extr v9x2 0) fun v10x3 =>
  bind (extr v9x2 1) fun v11x4 =>
  bind (bop .int .neq v11x4 (Value.int .i64 0)) fun v13x5 =>
  bind (gate v13x5 false 3 (bind (bop .str .neq v10x3 x0) fun v17x6 =>
  ret [v10x3, x0, v17x6])) (c3 fun _ _ q7_2 =>
  bind (pick v13x5 (Value.bool true) q7_2) fun v18x8 =>
  cnd v18x8
  (ret (Value.int .i64 11))
  (ret (Value.int .i64 0))))

set_option maxRecDepth 100000 in
theorem rf_userMail (Γ : Funs) (x0 : Value) : runF Tryz.prog Γ Tryz.f81 lv_userMail [x0] = F_userMail Γ x0 := by kernel_rfl

theorem run_userMail {prim : FuncId → Option (List Value → M Value)} (hp : prim n_userMail = none) (n : Nat) (x0 : Value) : run Tryz.prog prim lvs (n + 1) n_userMail [x0] = F_userMail (run Tryz.prog prim lvs n) x0 :=
  (run_fn hp (by kernel_rfl) Tryz.func81 (by kernel_rfl)).trans (rf_userMail _ x0)

/-- interrex/user.groups: a round. -/
noncomputable def F_userGroups.l1 (Γ : Funs) (s0 s10 s11 s12 : Value) : M Out :=
  bind (bop .int .lss s12 s11) fun v13x4 =>
  cnd v13x4
  (bind (ixa 1 s10 s12) fun v14x5 =>
  bind (ld1 v14x5) fun v15x6 =>
  bind (Γ n_nameName [v15x6]) fun v17x7 =>
  bind (bop .int .neq v17x7 (Value.int .i64 0)) fun v19x8 =>
  cnd v19x8
  (ret (.ret v17x7))
  (bind (bop .int .add s12 (Value.int .i64 1)) fun v21x9 =>
  ret (.nrm [s0, s10, s11, v21x9])))
  (ret (.ext 0 [s0]))

/-- interrex/user.groups: a round. -/
noncomputable def F_userGroups.l2 (Γ : Funs) (s0 s6 : Value) : M Out :=
  bind (lenS s0) fun v24x12 =>
  bind (bop .int .lss s6 v24x12) fun v25x13 =>
  cnd v25x13
  (bind (bop .int .sub s6 (Value.int .i64 1)) fun v30x14 =>
  bind (ixa 1 s0 v30x14) fun v31x15 =>
  bind (ld1 v31x15) fun v32x16 =>
  bind (ixa 1 s0 s6) fun v35x17 =>
  bind (ld1 v35x17) fun v36x18 =>
  bind (bop .str .geq v32x16 v36x18) fun v37x19 =>
  cnd v37x19
  (ret (.ret (Value.int .i64 9)))
  (bind (bop .int .add s6 (Value.int .i64 1)) fun v27x20 =>
  ret (.nrm [s0, v27x20])))
  (ret (.ext 2 []))

/-- interrex/user.groups -/
noncomputable def F_userGroups (Γ : Funs) (x0 : Value) : M Value :=
  bind (lenS x0) fun v8x1 =>
  bind (bop .int .gtr v8x1 (Value.int .i64 6)) fun v9x2 =>
  cnd v9x2
  (ret (Value.int .i64 7))
  (bind (lenS x0) fun v11x3 =>
  jn (loopM (c4 (F_userGroups.l1 Γ)) [x0, x0, v11x3, (Value.int .i64 0)]) noN (xk 0 (c1 fun q11_0 =>
  jn (loopM (c2 (F_userGroups.l2 Γ)) [q11_0, (Value.int .i64 1)]) noN (xk 2 (c0 (ret (Value.int .i64 0))) noX) ret) noX) ret)

set_option maxRecDepth 100000 in
theorem rf_userGroups (Γ : Funs) (x0 : Value) : runF Tryz.prog Γ Tryz.f82 lv_userGroups [x0] = F_userGroups Γ x0 := by kernel_rfl

theorem run_userGroups {prim : FuncId → Option (List Value → M Value)} (hp : prim n_userGroups = none) (n : Nat) (x0 : Value) : run Tryz.prog prim lvs (n + 1) n_userGroups [x0] = F_userGroups (run Tryz.prog prim lvs n) x0 :=
  (run_fn hp (by kernel_rfl) Tryz.func82 (by kernel_rfl)).trans (rf_userGroups _ x0)

/-- cmp.Compare[string] -/
noncomputable def F_cmpCompareString (Γ : Funs) (x0 x1 : Value) : M Value :=
  bind (Γ n_cmpIsNaNString [x0]) fun v8x1 =>
  bind (Γ n_cmpIsNaNString [x1]) fun v10x2 =>
  cnd v8x1
  (cnd v10x2
  (ret (Value.int .i64 0))
  (ret (Value.int .i64 (-1))))
  (cnd v10x2
  (ret (Value.int .i64 1))
  (bind (bop .str .lss x0 x1) fun v16x3 =>
  cnd v16x3
  (ret (Value.int .i64 (-1)))
  (bind (bop .str .gtr x0 x1) fun v19x4 =>
  cnd v19x4
  (ret (Value.int .i64 1))
  (ret (Value.int .i64 0)))))

set_option maxRecDepth 100000 in
theorem rf_cmpCompareString (Γ : Funs) (x0 x1 : Value) : runF Tryz.prog Γ Tryz.f83 lv_cmpCompareString [x0, x1] = F_cmpCompareString Γ x0 x1 := by kernel_rfl

theorem run_cmpCompareString {prim : FuncId → Option (List Value → M Value)} (hp : prim n_cmpCompareString = none) (n : Nat) (x0 x1 : Value) : run Tryz.prog prim lvs (n + 1) n_cmpCompareString [x0, x1] = F_cmpCompareString (run Tryz.prog prim lvs n) x0 x1 :=
  (run_fn hp (by kernel_rfl) Tryz.func83 (by kernel_rfl)).trans (rf_cmpCompareString _ x0 x1)

/-- interrex/interrexref01.Take -/
noncomputable def F_ref01Take (Γ : Funs) (x0 x1 : Value) : M Value :=
  bind (alc 1 x0) fun v2x1 =>
  bind (alc 1 (.agg #[.string ⟨#[]⟩, .int .i64 0])) fun v4x2 =>
  bind (fa 1 v2x1) fun v7x3 =>
  bind (ld1 v7x3) fun v8x4 =>
  bind (bop .int .neq v8x4 (Value.int .i64 0)) fun v9x5 =>
  bind (gate v9x5 false 5 (bind (fa 0 v2x1) fun v12x6 =>
  bind (ld1 v12x6) fun v13x7 =>
  bind (lenT v13x7) fun v14x8 =>
  bind (bop .int .gtr x1 v14x8) fun v15x9 =>
  ret [x1, v12x6, v13x7, v14x8, v15x9])) (c5 fun _ _ _ _ q10_4 =>
  bind (pick v9x5 (Value.bool true) q10_4) fun v16x11 =>
  cnd v16x11
  (bind (ldA 2 v2x1) fun v17x12 =>
  bind (Γ n_ref01Fail [v17x12, (Value.int .i64 2)]) fun v18x13 =>
  bind (stA 2 v4x2 v18x13) fun _ =>
  bind (ldA 2 v4x2) fun vrx14 =>
  ret (Value.tuple #[vrx14, (Value.string ⟨#[]⟩), (Value.bool false)]))
  (bind (fa 0 v2x1) fun v19x15 =>
  bind (ld1 v19x15) fun v20x16 =>
  bind (sls v20x16 (some x1) none) fun v22x17 =>
  bind (bld (.agg #[.string ⟨#[]⟩, .int .i64 0]) [(0, 1, v22x17)]) fun v23x18 =>
  bind (fa 0 v2x1) fun v24x19 =>
  bind (ld1 v24x19) fun v25x20 =>
  bind (sls v25x20 none (some x1)) fun v27x21 =>
  bind (stA 2 v4x2 v23x18) fun _ =>
  bind (ld1 v24x19) fun u_22 => same u_22 v25x20 <|
  bind (ldA 2 v4x2) fun vrx23 =>
  ret (Value.tuple #[vrx23, v27x21, (Value.bool true)])))

set_option maxRecDepth 100000 in
theorem rf_ref01Take (Γ : Funs) (x0 x1 : Value) : runF Tryz.prog Γ Tryz.f84 lv_ref01Take [x0, x1] = F_ref01Take Γ x0 x1 := by kernel_rfl

theorem run_ref01Take {prim : FuncId → Option (List Value → M Value)} (hp : prim n_ref01Take = none) (n : Nat) (x0 x1 : Value) : run Tryz.prog prim lvs (n + 1) n_ref01Take [x0, x1] = F_ref01Take (run Tryz.prog prim lvs n) x0 x1 :=
  (run_fn hp (by kernel_rfl) Tryz.func84 (by kernel_rfl)).trans (rf_ref01Take _ x0 x1)

/-- interrex/interrexref01.Value: a round. -/
noncomputable def F_ref01Value.l1 (Γ : Funs) (s0 s3 s4 : Value) : M Out :=
  bind (bop .int .geq s4 (Value.int .i64 0)) fun v9x3 =>
  cnd v9x3
  (bind (bop .int .mul s3 (Value.int .u64 256)) fun v13x4 =>
  bind (ixs s0 s4) fun v16x5 =>
  bind (cvi .u64 v16x5) fun v17x6 =>
  bind (bop .int .add v13x4 v17x6) fun v18x7 =>
  bind (bop .int .sub s4 (Value.int .i64 1)) fun v11x8 =>
  ret (.nrm [s0, v18x7, v11x8]))
  (ret (.ext 0 [s3]))

/-- interrex/interrexref01.Value -/
noncomputable def F_ref01Value (Γ : Funs) (x0 : Value) : M Value :=
  bind (lenT x0) fun v6x1 =>
  bind (bop .int .sub v6x1 (Value.int .i64 1)) fun v7x2 =>
  jn (loopM (c3 (F_ref01Value.l1 Γ)) [x0, (Value.int .u64 0), v7x2]) noN (xk 0 (c1 fun q10_0 =>
  ret q10_0) noX) ret

set_option maxRecDepth 100000 in
theorem rf_ref01Value (Γ : Funs) (x0 : Value) : runF Tryz.prog Γ Tryz.f85 lv_ref01Value [x0] = F_ref01Value Γ x0 := by kernel_rfl

theorem run_ref01Value {prim : FuncId → Option (List Value → M Value)} (hp : prim n_ref01Value = none) (n : Nat) (x0 : Value) : run Tryz.prog prim lvs (n + 1) n_ref01Value [x0] = F_ref01Value (run Tryz.prog prim lvs n) x0 :=
  (run_fn hp (by kernel_rfl) Tryz.func85 (by kernel_rfl)).trans (rf_ref01Value _ x0)

/-- interrex/interrexref01.GetText -/
noncomputable def F_ref01GetText (Γ : Funs) (x0 x1 : Value) : M Value :=
  bind (alc 1 x0) fun v2x1 =>
  bind (alc 1 (.agg #[.string ⟨#[]⟩, .int .i64 0])) fun v4x2 =>
  bind (ldA 2 v2x1) fun v11x3 =>
  bind (Γ n_ref01Get [v11x3, (Value.int .i64 2)]) fun v12x4 =>
  bind (extr v12x4 0) fun v13x5 =>
  bind (extr v12x4 1) fun v14x6 =>
  bind (alc 1 (.agg #[.string ⟨#[]⟩, .int .i64 0])) fun v6x7 =>
  bind (stA 2 v6x7 v13x5) fun _ =>
  bind (fa 1 v6x7) fun v15x8 =>
  bind (ld1 v15x8) fun v16x9 =>
  bind (bop .int .eql v16x9 (Value.int .i64 0)) fun v17x10 =>
  bind (gate v17x10 true 5 (bind (cvi .i64 v14x6) fun v20x11 =>
  bind (mxi true (Value.int .i64 0) x1) fun v22x12 =>
  bind (bop .int .gtr v20x11 v22x12) fun v23x13 =>
  ret [v14x6, v20x11, x1, v22x12, v23x13])) (c5 fun _ _ _ _ q14_4 =>
  bind (pick v17x10 q14_4 (Value.bool false)) fun v24x15 =>
  cnd v24x15
  (bind (bld (.agg #[.string ⟨#[]⟩, .int .i64 0]) [(1, 1, (Value.int .i64 3))]) fun v25x16 =>
  bind (stA 2 v4x2 v25x16) fun _ =>
  bind (ldA 2 v4x2) fun vrx17 =>
  ret (Value.tuple #[vrx17, (Value.string ⟨#[]⟩)]))
  (bind (ldA 2 v6x7) fun v27x18 =>
  bind (cvi .i64 v14x6) fun v29x19 =>
  bind (Γ n_ref01Take [v27x18, v29x19]) fun v30x20 =>
  bind (extr v30x20 0) fun v31x21 =>
  bind (extr v30x20 1) fun v32x22 =>
  bind (extr v30x20 2) fun v33x23 =>
  bind (stA 2 v6x7 v31x21) fun _ =>
  bind (ldA 2 v6x7) fun v34x24 =>
  bind (stA 2 v4x2 v34x24) fun _ =>
  bind (ldA 2 v4x2) fun vrx25 =>
  ret (Value.tuple #[vrx25, v32x22])))

set_option maxRecDepth 100000 in
theorem rf_ref01GetText (Γ : Funs) (x0 x1 : Value) : runF Tryz.prog Γ Tryz.f86 lv_ref01GetText [x0, x1] = F_ref01GetText Γ x0 x1 := by kernel_rfl

theorem run_ref01GetText {prim : FuncId → Option (List Value → M Value)} (hp : prim n_ref01GetText = none) (n : Nat) (x0 x1 : Value) : run Tryz.prog prim lvs (n + 1) n_ref01GetText [x0, x1] = F_ref01GetText (run Tryz.prog prim lvs n) x0 x1 :=
  (run_fn hp (by kernel_rfl) Tryz.func86 (by kernel_rfl)).trans (rf_ref01GetText _ x0 x1)

/-- interrex/interrexref01.GetTruth -/
noncomputable def F_ref01GetTruth (Γ : Funs) (x0 : Value) : M Value :=
  bind (alc 1 x0) fun v1x1 =>
  bind (alc 1 (.agg #[.string ⟨#[]⟩, .int .i64 0])) fun v2x2 =>
  bind (ldA 2 v1x1) fun v7x3 =>
  bind (Γ n_ref01Get [v7x3, (Value.int .i64 1)]) fun v8x4 =>
  bind (extr v8x4 0) fun v9x5 =>
  bind (extr v8x4 1) fun v10x6 =>
  bind (alc 1 (.agg #[.string ⟨#[]⟩, .int .i64 0])) fun v4x7 =>
  bind (stA 2 v4x7 v9x5) fun _ =>
  bind (bop .int .gtr v10x6 (Value.int .u64 1)) fun v12x8 =>
  cnd v12x8
  (bind (bld (.agg #[.string ⟨#[]⟩, .int .i64 0]) [(1, 1, (Value.int .i64 4))]) fun v13x9 =>
  bind (stA 2 v2x2 v13x9) fun _ =>
  bind (ldA 2 v2x2) fun vrx10 =>
  ret (Value.tuple #[vrx10, (Value.bool false)]))
  (bind (ldA 2 v4x7) fun v14x11 =>
  bind (bop .int .eql v10x6 (Value.int .u64 1)) fun v16x12 =>
  bind (stA 2 v2x2 v14x11) fun _ =>
  bind (ldA 2 v2x2) fun vrx13 =>
  ret (Value.tuple #[vrx13, v16x12]))

set_option maxRecDepth 100000 in
theorem rf_ref01GetTruth (Γ : Funs) (x0 : Value) : runF Tryz.prog Γ Tryz.f87 lv_ref01GetTruth [x0] = F_ref01GetTruth Γ x0 := by kernel_rfl

theorem run_ref01GetTruth {prim : FuncId → Option (List Value → M Value)} (hp : prim n_ref01GetTruth = none) (n : Nat) (x0 : Value) : run Tryz.prog prim lvs (n + 1) n_ref01GetTruth [x0] = F_ref01GetTruth (run Tryz.prog prim lvs n) x0 :=
  (run_fn hp (by kernel_rfl) Tryz.func87 (by kernel_rfl)).trans (rf_ref01GetTruth _ x0)

/-- interrex/interrexref01.GetRow: a round. -/
noncomputable def F_ref01GetRow.l1 (Γ : Funs) (s2 s6 s8 s10 s29 s30 : Value) : M Out :=
  bind (bop .int .lss s30 s29) fun v31x18 =>
  cnd v31x18
  (bind (ldA 2 s8) fun v33x19 =>
  bind (Γ n_ref01GetText [v33x19, s2]) fun v35x20 =>
  bind (extr v35x20 0) fun v36x21 =>
  bind (extr v35x20 1) fun v37x22 =>
  bind (alc 1 (.agg #[.string ⟨#[]⟩, .int .i64 0])) fun v11x23 =>
  bind (stA 2 v11x23 v36x21) fun _ =>
  bind (ldA 2 v11x23) fun v38x24 =>
  bind (stA 2 s8 v38x24) fun _ =>
  bind (fa 1 s8) fun v39x25 =>
  bind (ld1 v39x25) fun v40x26 =>
  bind (bop .int .neq v40x26 (Value.int .i64 0)) fun v41x27 =>
  cnd v41x27
  (bind (ldA 2 s8) fun v42x28 =>
  bind (stA 2 s6 v42x28) fun _ =>
  bind (ldA 2 s6) fun vrx29 =>
  ret (.ret (Value.tuple #[vrx29, (Value.slice none 0 0)])))
  (bind (bsl 1 1 (.string ⟨#[]⟩) [(0, 1, v37x22)]) fun v45x30 =>
  bind (app 1 16 s10 v45x30) fun v46x31 =>
  bind (bop .int .add s30 (Value.int .u64 1)) fun v47x32 =>
  ret (.nrm [s2, s6, s8, v46x31, s29, v47x32])))
  (ret (.ext 0 [s6, s8, s10]))

/-- interrex/interrexref01.GetRow -/
noncomputable def F_ref01GetRow (Γ : Funs) (x0 x1 x2 : Value) : M Value :=
  bind (alc 1 x0) fun v3x1 =>
  bind (alc 1 (.agg #[.string ⟨#[]⟩, .int .i64 0])) fun v6x2 =>
  bind (ldA 2 v3x1) fun v14x3 =>
  bind (Γ n_ref01Get [v14x3, (Value.int .i64 2)]) fun v15x4 =>
  bind (extr v15x4 0) fun v16x5 =>
  bind (extr v15x4 1) fun v17x6 =>
  bind (alc 1 (.agg #[.string ⟨#[]⟩, .int .i64 0])) fun v8x7 =>
  bind (stA 2 v8x7 v16x5) fun _ =>
  bind (fa 1 v8x7) fun v18x8 =>
  bind (ld1 v18x8) fun v19x9 =>
  bind (bop .int .eql v19x9 (Value.int .i64 0)) fun v20x10 =>
  bind (gate v20x10 true 5 (bind (cvi .i64 v17x6) fun v23x11 =>
  bind (mxi true (Value.int .i64 0) x1) fun v25x12 =>
  bind (bop .int .gtr v23x11 v25x12) fun v26x13 =>
  ret [v17x6, v23x11, x1, v25x12, v26x13])) (c5 fun _ _ _ _ q14_4 =>
  bind (pick v20x10 q14_4 (Value.bool false)) fun v27x15 =>
  cnd v27x15
  (bind (bld (.agg #[.string ⟨#[]⟩, .int .i64 0]) [(1, 1, (Value.int .i64 3))]) fun v28x16 =>
  bind (stA 2 v6x2 v28x16) fun _ =>
  bind (ldA 2 v6x2) fun vrx17 =>
  ret (Value.tuple #[vrx17, (Value.slice none 0 0)]))
  (jn (loopM (c6 (F_ref01GetRow.l1 Γ)) [x2, v6x2, v8x7, (Value.slice none 0 0), v17x6, (Value.int .u64 0)]) noN (xk 0 (c3 fun q34_0 q34_1 q34_2 =>
  bind (ldA 2 q34_1) fun v48x35 =>
  bind (stA 2 q34_0 v48x35) fun _ =>
  bind (ldA 2 q34_0) fun vrx36 =>
  ret (Value.tuple #[vrx36, q34_2])) noX) ret))

set_option maxRecDepth 100000 in
theorem rf_ref01GetRow (Γ : Funs) (x0 x1 x2 : Value) : runF Tryz.prog Γ Tryz.f88 lv_ref01GetRow [x0, x1, x2] = F_ref01GetRow Γ x0 x1 x2 := by kernel_rfl

theorem run_ref01GetRow {prim : FuncId → Option (List Value → M Value)} (hp : prim n_ref01GetRow = none) (n : Nat) (x0 x1 x2 : Value) : run Tryz.prog prim lvs (n + 1) n_ref01GetRow [x0, x1, x2] = F_ref01GetRow (run Tryz.prog prim lvs n) x0 x1 x2 :=
  (run_fn hp (by kernel_rfl) Tryz.func88 (by kernel_rfl)).trans (rf_ref01GetRow _ x0 x1 x2)

/-- slices.Collect[string] -/
noncomputable def F_slicesCollectString (Γ : Funs) (x0 : Value) : M Value :=
  bind (Γ n_slicesAppendSeqstringString [(Value.slice none 0 0), x0]) fun v4x1 =>
  ret v4x1

set_option maxRecDepth 100000 in
theorem rf_slicesCollectString (Γ : Funs) (x0 : Value) : runF Tryz.prog Γ Tryz.f89 lv_slicesCollectString [x0] = F_slicesCollectString Γ x0 := by kernel_rfl

theorem run_slicesCollectString {prim : FuncId → Option (List Value → M Value)} (hp : prim n_slicesCollectString = none) (n : Nat) (x0 : Value) : run Tryz.prog prim lvs (n + 1) n_slicesCollectString [x0] = F_slicesCollectString (run Tryz.prog prim lvs n) x0 :=
  (run_fn hp (by kernel_rfl) Tryz.func89 (by kernel_rfl)).trans (rf_slicesCollectString _ x0)

/-- slices.SortFunc[[]string,string] -/
noncomputable def F_slicesSortFuncstringString (Γ : Funs) (x0 x1 : Value) : M Value :=
  bind (lenS x0) fun v6x1 =>
  bind (cvi .u64 v6x1) fun v10x2 =>
  bind (Γ n_mathBitsLen [v10x2]) fun v11x3 =>
  bind (Γ n_slicesPdqsortCmpFuncString [x0, (Value.int .i64 0), v6x1, v11x3, x1]) fun v13x4 =>
  ret (Value.tuple #[])

set_option maxRecDepth 100000 in
theorem rf_slicesSortFuncstringString (Γ : Funs) (x0 x1 : Value) : runF Tryz.prog Γ Tryz.f90 lv_slicesSortFuncstringString [x0, x1] = F_slicesSortFuncstringString Γ x0 x1 := by kernel_rfl

theorem run_slicesSortFuncstringString {prim : FuncId → Option (List Value → M Value)} (hp : prim n_slicesSortFuncstringString = none) (n : Nat) (x0 x1 : Value) : run Tryz.prog prim lvs (n + 1) n_slicesSortFuncstringString [x0, x1] = F_slicesSortFuncstringString (run Tryz.prog prim lvs n) x0 x1 :=
  (run_fn hp (by kernel_rfl) Tryz.func90 (by kernel_rfl)).trans (rf_slicesSortFuncstringString _ x0 x1)

-- 91 ("maps.Keys[map[string]string,string,string]$1"): not covered: range
/-- interrex/interrexref05.Name -/
noncomputable def F_ref05Name (Γ : Funs) (x0 : Value) : M Value :=
  bind (lenT x0) fun v5x1 =>
  bind (bop .int .geq v5x1 (Value.int .i64 1)) fun v7x2 =>
  bind (gate v7x2 true 2 (bind (bop .int .leq v5x1 (Value.int .i64 12)) fun v10x3 =>
  ret [v5x1, v10x3])) (c2 fun _ q4_1 =>
  bind (pick v7x2 q4_1 (Value.bool false)) fun v11x5 =>
  bind (gate v11x5 true 2 (bind (Γ n_ref05Of [x0, (Value.string ⟨#[97, 98, 99, 100, 101, 102, 103, 104, 105, 106, 107, 108, 109, 110, 111, 112, 113, 114, 115, 116, 117, 118, 119, 120, 121, 122, 48, 49, 50, 51, 52, 53, 54, 55, 56, 57, 45, 46]⟩)]) fun v14x6 =>
  ret [x0, v14x6])) (c2 fun _ q7_1 =>
  bind (pick v11x5 q7_1 (Value.bool false)) fun v15x8 =>
  bind (gate v15x8 true 3 (bind (ixs x0 (Value.int .i64 0)) fun v18x9 =>
  bind (Γ n_ref05In [v18x9, (Value.string ⟨#[97, 98, 99, 100, 101, 102, 103, 104, 105, 106, 107, 108, 109, 110, 111, 112, 113, 114, 115, 116, 117, 118, 119, 120, 121, 122]⟩)]) fun v19x10 =>
  ret [x0, v18x9, v19x10])) (c3 fun _ _ q11_2 =>
  bind (pick v15x8 q11_2 (Value.bool false)) fun v20x12 =>
  bind (gate v20x12 true 5 (bind (bop .int .sub v5x1 (Value.int .i64 1)) fun v24x13 =>
  bind (ixs x0 v24x13) fun v25x14 =>
  bind (Γ n_ref05In [v25x14, (Value.string ⟨#[97, 98, 99, 100, 101, 102, 103, 104, 105, 106, 107, 108, 109, 110, 111, 112, 113, 114, 115, 116, 117, 118, 119, 120, 121, 122, 48, 49, 50, 51, 52, 53, 54, 55, 56, 57]⟩)]) fun v26x15 =>
  ret [x0, v5x1, v24x13, v25x14, v26x15])) (c5 fun _ _ _ _ q16_4 =>
  bind (pick v20x12 q16_4 (Value.bool false)) fun v27x17 =>
  ret v27x17))))

set_option maxRecDepth 100000 in
theorem rf_ref05Name (Γ : Funs) (x0 : Value) : runF Tryz.prog Γ Tryz.f92 lv_ref05Name [x0] = F_ref05Name Γ x0 := by kernel_rfl

theorem run_ref05Name {prim : FuncId → Option (List Value → M Value)} (hp : prim n_ref05Name = none) (n : Nat) (x0 : Value) : run Tryz.prog prim lvs (n + 1) n_ref05Name [x0] = F_ref05Name (run Tryz.prog prim lvs n) x0 :=
  (run_fn hp (by kernel_rfl) Tryz.func92 (by kernel_rfl)).trans (rf_ref05Name _ x0)

/-- interrex/interrexref05.Hash -/
noncomputable def F_ref05Hash (Γ : Funs) (x0 : Value) : M Value :=
  bind (lenT x0) fun v4x1 =>
  bind (bop .int .geq v4x1 (Value.int .i64 1)) fun v5x2 =>
  bind (gate v5x2 true 3 (bind (lenT x0) fun v8x3 =>
  bind (bop .int .leq v8x3 (Value.int .i64 12)) fun v9x4 =>
  ret [x0, v8x3, v9x4])) (c3 fun _ _ q5_2 =>
  bind (pick v5x2 q5_2 (Value.bool false)) fun v10x6 =>
  bind (gate v10x6 true 2 (bind (Γ n_ref05Of [x0, (Value.string ⟨#[48, 49, 50, 51, 52, 53, 54, 55, 56, 57, 97, 98, 99, 100, 101, 102]⟩)]) fun v13x7 =>
  ret [x0, v13x7])) (c2 fun _ q8_1 =>
  bind (pick v10x6 q8_1 (Value.bool false)) fun v14x9 =>
  ret v14x9))

set_option maxRecDepth 100000 in
theorem rf_ref05Hash (Γ : Funs) (x0 : Value) : runF Tryz.prog Γ Tryz.f93 lv_ref05Hash [x0] = F_ref05Hash Γ x0 := by kernel_rfl

theorem run_ref05Hash {prim : FuncId → Option (List Value → M Value)} (hp : prim n_ref05Hash = none) (n : Nat) (x0 : Value) : run Tryz.prog prim lvs (n + 1) n_ref05Hash [x0] = F_ref05Hash (run Tryz.prog prim lvs n) x0 :=
  (run_fn hp (by kernel_rfl) Tryz.func93 (by kernel_rfl)).trans (rf_ref05Hash _ x0)

/-- interrex/interrexref05.Mail: a round. -/
noncomputable def F_ref05Mail.l1 (Γ : Funs) (s0 s4 : Value) : M Out :=
  bind (lenT s0) fun v15x4 =>
  bind (bop .int .lss s4 v15x4) fun v16x5 =>
  bind (gate v16x5 true 4 (bind (ixs s0 s4) fun v20x6 =>
  bind (bop .int .neq v20x6 (Value.int .u8 64)) fun v21x7 =>
  ret [s0, s4, v20x6, v21x7])) (c4 fun _ _ _ q8_3 =>
  bind (pick v16x5 q8_3 (Value.bool false)) fun v22x9 =>
  cnd v22x9
  (bind (bop .int .add s4 (Value.int .i64 1)) fun v24x10 =>
  ret (.nrm [s0, v24x10]))
  (ret (.ext 0 [s0, s4])))

/-- interrex/interrexref05.Mail: a round. -/
noncomputable def F_ref05Mail.l2 (Γ : Funs) (s0 s5 s6 s7 : Value) : M Out :=
  bind (lenT s0) fun v40x21 =>
  bind (bop .int .lss s7 v40x21) fun v41x22 =>
  cnd v41x22
  (bind (ixs s0 s7) fun v46x23 =>
  bind (bop .int .eql v46x23 (Value.int .u8 46)) fun v47x24 =>
  jn (cnd v47x24
  (bind (bop .int .eql s6 (Value.int .i64 0)) fun v49x25 =>
  cnd v49x25
  (ret (.ret (Value.tuple #[(Value.string ⟨#[]⟩), (Value.bool false)])))
  (bind (bop .int .add s5 (Value.int .i64 1)) fun v51x26 =>
  ret (.nrm [s0, v51x26, (Value.int .i64 0), s7])))
  (bind (ixs s0 s7) fun v54x27 =>
  bind (Γ n_ref05In [v54x27, (Value.string ⟨#[97, 98, 99, 100, 101, 102, 103, 104, 105, 106, 107, 108, 109, 110, 111, 112, 113, 114, 115, 116, 117, 118, 119, 120, 121, 122, 48, 49, 50, 51, 52, 53, 54, 55, 56, 57]⟩)]) fun v55x28 =>
  bind (uop .not v55x28) fun v56x29 =>
  cnd v56x29
  (ret (.ret (Value.tuple #[(Value.string ⟨#[]⟩), (Value.bool false)])))
  (bind (bop .int .add s6 (Value.int .i64 1)) fun v58x30 =>
  ret (.nrm [s0, s5, v58x30, s7])))) (c4 fun q31_0 q31_1 q31_2 q31_3 =>
  bind (bop .int .add q31_3 (Value.int .i64 1)) fun v43x32 =>
  ret (.nrm [q31_0, q31_1, q31_2, v43x32])) noX retR)
  (ret (.ext 2 [s0, s5, s6]))

/-- interrex/interrexref05.Mail -/
noncomputable def F_ref05Mail (Γ : Funs) (x0 : Value) : M Value :=
  bind (lenT x0) fun v9x1 =>
  bind (bop .int .gtr v9x1 (Value.int .i64 20)) fun v10x2 =>
  cnd v10x2
  (ret (Value.tuple #[(Value.string ⟨#[]⟩), (Value.bool false)]))
  (bind (Γ n_ref05Fold [x0]) fun v12x3 =>
  jn (loopM (c2 (F_ref05Mail.l1 Γ)) [v12x3, (Value.int .i64 0)]) noN (xk 0 (c2 fun q12_0 q12_1 =>
  bind (lenT q12_0) fun v27x13 =>
  bind (bop .int .eql q12_1 v27x13) fun v28x14 =>
  bind (gate v28x14 false 5 (bind (sls q12_0 none (some q12_1)) fun v32x15 =>
  bind (Γ n_ref05Name [v32x15]) fun v33x16 =>
  bind (uop .not v33x16) fun v34x17 =>
  ret [q12_0, q12_1, v32x15, v33x16, v34x17])) (c5 fun _ _ _ _ q18_4 =>
  bind (pick v28x14 (Value.bool true) q18_4) fun v35x19 =>
  cnd v35x19
  (ret (Value.tuple #[(Value.string ⟨#[]⟩), (Value.bool false)]))
  (bind (bop .int .add q12_1 (Value.int .i64 1)) fun v37x20 =>
  jn (loopM (c4 (F_ref05Mail.l2 Γ)) [q12_0, (Value.int .i64 0), (Value.int .i64 0), v37x20]) noN (xk 2 (c3 fun q35_0 q35_1 q35_2 =>
  bind (bop .int .eql q35_1 (Value.int .i64 0)) fun v60x36 =>
  bind (gate v60x36 false 2 (bind (bop .int .eql q35_2 (Value.int .i64 0)) fun v63x37 =>
  ret [q35_2, v63x37])) (c2 fun _ q38_1 =>
  bind (pick v60x36 (Value.bool true) q38_1) fun v64x39 =>
  cnd v64x39
  (ret (Value.tuple #[(Value.string ⟨#[]⟩), (Value.bool false)]))
  (ret (Value.tuple #[q35_0, (Value.bool true)])))) noX) ret))) noX) ret)

set_option maxRecDepth 100000 in
theorem rf_ref05Mail (Γ : Funs) (x0 : Value) : runF Tryz.prog Γ Tryz.f94 lv_ref05Mail [x0] = F_ref05Mail Γ x0 := by kernel_rfl

theorem run_ref05Mail {prim : FuncId → Option (List Value → M Value)} (hp : prim n_ref05Mail = none) (n : Nat) (x0 : Value) : run Tryz.prog prim lvs (n + 1) n_ref05Mail [x0] = F_ref05Mail (run Tryz.prog prim lvs n) x0 :=
  (run_fn hp (by kernel_rfl) Tryz.func94 (by kernel_rfl)).trans (rf_ref05Mail _ x0)

/-- interrex/interrexref01.Text -/
noncomputable def F_ref01Text (Γ : Funs) (x0 : Value) : M Value :=
  bind (lenT x0) fun v4x1 =>
  bind (cvi .u64 v4x1) fun v5x2 =>
  bind (Γ n_ref01Num [v5x2, (Value.int .i64 2)]) fun v6x3 =>
  bind (bop .str .add v6x3 x0) fun v8x4 =>
  ret v8x4

set_option maxRecDepth 100000 in
theorem rf_ref01Text (Γ : Funs) (x0 : Value) : runF Tryz.prog Γ Tryz.f95 lv_ref01Text [x0] = F_ref01Text Γ x0 := by kernel_rfl

theorem run_ref01Text {prim : FuncId → Option (List Value → M Value)} (hp : prim n_ref01Text = none) (n : Nat) (x0 : Value) : run Tryz.prog prim lvs (n + 1) n_ref01Text [x0] = F_ref01Text (run Tryz.prog prim lvs n) x0 :=
  (run_fn hp (by kernel_rfl) Tryz.func95 (by kernel_rfl)).trans (rf_ref01Text _ x0)

/-- interrex/interrexref01.Truth -/
noncomputable def F_ref01Truth (Γ : Funs) (x0 : Value) : M Value :=
  cnd x0
  (ret (Value.string ⟨#[1]⟩))
  (ret (Value.string ⟨#[0]⟩))

set_option maxRecDepth 100000 in
theorem rf_ref01Truth (Γ : Funs) (x0 : Value) : runF Tryz.prog Γ Tryz.f96 lv_ref01Truth [x0] = F_ref01Truth Γ x0 := by kernel_rfl

theorem run_ref01Truth {prim : FuncId → Option (List Value → M Value)} (hp : prim n_ref01Truth = none) (n : Nat) (x0 : Value) : run Tryz.prog prim lvs (n + 1) n_ref01Truth [x0] = F_ref01Truth (run Tryz.prog prim lvs n) x0 :=
  (run_fn hp (by kernel_rfl) Tryz.func96 (by kernel_rfl)).trans (rf_ref01Truth _ x0)

/-- interrex/interrexref01.Row: a round. -/
noncomputable def F_ref01Row.l1 (Γ : Funs) (s3 s10 s11 s12 : Value) : M Out :=
  bind (bop .int .lss s12 s11) fun v13x5 =>
  cnd v13x5
  (bind (ixa 1 s10 s12) fun v14x6 =>
  bind (ld1 v14x6) fun v15x7 =>
  bind (Γ n_ref01Text [v15x7]) fun v18x8 =>
  bind (bop .str .add s3 v18x8) fun v19x9 =>
  bind (bop .int .add s12 (Value.int .i64 1)) fun v20x10 =>
  ret (.nrm [v19x9, s10, s11, v20x10]))
  (ret (.ext 0 [s3]))

/-- interrex/interrexref01.Row -/
noncomputable def F_ref01Row (Γ : Funs) (x0 : Value) : M Value :=
  bind (lenS x0) fun v7x1 =>
  bind (cvi .u64 v7x1) fun v8x2 =>
  bind (Γ n_ref01Num [v8x2, (Value.int .i64 2)]) fun v9x3 =>
  bind (lenS x0) fun v11x4 =>
  jn (loopM (c4 (F_ref01Row.l1 Γ)) [v9x3, x0, v11x4, (Value.int .i64 0)]) noN (xk 0 (c1 fun q12_0 =>
  ret q12_0) noX) ret

set_option maxRecDepth 100000 in
theorem rf_ref01Row (Γ : Funs) (x0 : Value) : runF Tryz.prog Γ Tryz.f97 lv_ref01Row [x0] = F_ref01Row Γ x0 := by kernel_rfl

theorem run_ref01Row {prim : FuncId → Option (List Value → M Value)} (hp : prim n_ref01Row = none) (n : Nat) (x0 : Value) : run Tryz.prog prim lvs (n + 1) n_ref01Row [x0] = F_ref01Row (run Tryz.prog prim lvs n) x0 :=
  (run_fn hp (by kernel_rfl) Tryz.func97 (by kernel_rfl)).trans (rf_ref01Row _ x0)

/-- interrex/name.isName -/
noncomputable def F_nameIsName (Γ : Funs) (x0 : Value) : M Value :=
  bind (bop .str .eql x0 (Value.string ⟨#[]⟩)) fun v5x1 =>
  bind (gate v5x1 false 3 (bind (lenT x0) fun v8x2 =>
  bind (bop .int .gtr v8x2 (Value.int .i64 12)) fun v9x3 =>
  ret [x0, v8x2, v9x3])) (c3 fun _ _ q4_2 =>
  bind (pick v5x1 (Value.bool true) q4_2) fun v10x5 =>
  bind (gate v10x5 false 4 (bind (ixs x0 (Value.int .i64 0)) fun v13x6 =>
  bind (Γ n_nameLetter [v13x6]) fun v14x7 =>
  bind (uop .not v14x7) fun v15x8 =>
  ret [x0, v13x6, v14x7, v15x8])) (c4 fun _ _ _ q9_3 =>
  bind (pick v10x5 (Value.bool true) q9_3) fun v16x10 =>
  bind (gate v16x10 false 3 (bind (Γ n_nameAll [x0, (Value.func (.func 120) #[] #[])]) fun v19x11 =>
  bind (uop .not v19x11) fun v20x12 =>
  ret [x0, v19x11, v20x12])) (c3 fun _ _ q13_2 =>
  bind (pick v16x10 (Value.bool true) q13_2) fun v21x14 =>
  cnd v21x14
  (ret (Value.bool false))
  (bind (lenT x0) fun v24x15 =>
  bind (bop .int .sub v24x15 (Value.int .i64 1)) fun v25x16 =>
  bind (ixs x0 v25x16) fun v26x17 =>
  bind (Γ n_nameLetter [v26x17]) fun v28x18 =>
  bind (gate v28x18 false 2 (bind (Γ n_nameDigit [v26x17]) fun v31x19 =>
  ret [v26x17, v31x19])) (c2 fun _ q20_1 =>
  bind (pick v28x18 (Value.bool true) q20_1) fun v32x21 =>
  ret v32x21)))))

set_option maxRecDepth 100000 in
theorem rf_nameIsName (Γ : Funs) (x0 : Value) : runF Tryz.prog Γ Tryz.f98 lv_nameIsName [x0] = F_nameIsName Γ x0 := by kernel_rfl

theorem run_nameIsName {prim : FuncId → Option (List Value → M Value)} (hp : prim n_nameIsName = none) (n : Nat) (x0 : Value) : run Tryz.prog prim lvs (n + 1) n_nameIsName [x0] = F_nameIsName (run Tryz.prog prim lvs n) x0 :=
  (run_fn hp (by kernel_rfl) Tryz.func98 (by kernel_rfl)).trans (rf_nameIsName _ x0)

/-- interrex/group.names: a round. -/
noncomputable def F_groupNames.l1 (Γ : Funs) (s6 s7 s8 : Value) : M Out :=
  bind (bop .int .lss s8 s7) fun v9x2 =>
  cnd v9x2
  (bind (ixa 1 s6 s8) fun v10x3 =>
  bind (ld1 v10x3) fun v11x4 =>
  bind (Γ n_nameName [v11x4]) fun v13x5 =>
  bind (bop .int .neq v13x5 (Value.int .i64 0)) fun v15x6 =>
  cnd v15x6
  (ret (.ret v13x5))
  (bind (bop .int .add s8 (Value.int .i64 1)) fun v17x7 =>
  ret (.nrm [s6, s7, v17x7])))
  (ret (.ext 0 []))

/-- interrex/group.names -/
noncomputable def F_groupNames (Γ : Funs) (x0 : Value) : M Value :=
  bind (lenS x0) fun v7x1 =>
  jn (loopM (c3 (F_groupNames.l1 Γ)) [x0, v7x1, (Value.int .i64 0)]) noN (xk 0 (c0 (ret (Value.int .i64 0))) noX) ret

set_option maxRecDepth 100000 in
theorem rf_groupNames (Γ : Funs) (x0 : Value) : runF Tryz.prog Γ Tryz.f99 lv_groupNames [x0] = F_groupNames Γ x0 := by kernel_rfl

theorem run_groupNames {prim : FuncId → Option (List Value → M Value)} (hp : prim n_groupNames = none) (n : Nat) (x0 : Value) : run Tryz.prog prim lvs (n + 1) n_groupNames [x0] = F_groupNames (run Tryz.prog prim lvs n) x0 :=
  (run_fn hp (by kernel_rfl) Tryz.func99 (by kernel_rfl)).trans (rf_groupNames _ x0)

/-- interrex/name.Fold: a round. -/
noncomputable def F_nameFold.l1 (Γ : Funs) (s3 s8 s9 s10 : Value) : M Out :=
  bind (bop .int .lss s10 s9) fun v11x3 =>
  cnd v11x3
  (bind (ixa 1 s8 s10) fun v13x4 =>
  bind (ld1 v13x4) fun v14x5 =>
  bind (bop .int .geq v14x5 (Value.int .u8 65)) fun v16x6 =>
  bind (gate v16x6 true 2 (bind (bop .int .leq v14x5 (Value.int .u8 90)) fun v19x7 =>
  ret [v14x5, v19x7])) (c2 fun _ q8_1 =>
  bind (pick v16x6 q8_1 (Value.bool false)) fun v20x9 =>
  jn (cnd v20x9
  (bind (bop .int .add v14x5 (Value.int .u8 97)) fun v24x10 =>
  bind (bop .int .sub v24x10 (Value.int .u8 65)) fun v25x11 =>
  bind (ixa 1 s3 s10) fun v26x12 =>
  bind (st1 v26x12 v25x11) fun _ =>
  ret (.nrm [s3, s8, s9, s10]))
  (ret (.nrm [s3, s8, s9, s10]))) (c4 fun q13_0 q13_1 q13_2 q13_3 =>
  bind (bop .int .add q13_3 (Value.int .i64 1)) fun v27x14 =>
  ret (.nrm [q13_0, q13_1, q13_2, v27x14])) noX retR))
  (ret (.ext 0 [s3]))

/-- interrex/name.Fold -/
noncomputable def F_nameFold (Γ : Funs) (x0 : Value) : M Value :=
  bind (s2b x0) fun v7x1 =>
  bind (lenS v7x1) fun v9x2 =>
  jn (loopM (c4 (F_nameFold.l1 Γ)) [v7x1, v7x1, v9x2, (Value.int .i64 0)]) noN (xk 0 (c1 fun q17_0 =>
  bind (b2s q17_0) fun v29x18 =>
  ret v29x18) noX) ret

set_option maxRecDepth 100000 in
theorem rf_nameFold (Γ : Funs) (x0 : Value) : runF Tryz.prog Γ Tryz.f100 lv_nameFold [x0] = F_nameFold Γ x0 := by kernel_rfl

theorem run_nameFold {prim : FuncId → Option (List Value → M Value)} (hp : prim n_nameFold = none) (n : Nat) (x0 : Value) : run Tryz.prog prim lvs (n + 1) n_nameFold [x0] = F_nameFold (run Tryz.prog prim lvs n) x0 :=
  (run_fn hp (by kernel_rfl) Tryz.func100 (by kernel_rfl)).trans (rf_nameFold _ x0)

/-- strings.Cut -/
noncomputable def F_stringsCut (Γ : Funs) (x0 x1 : Value) : M Value :=
  bind (Γ n_internalStringsliteCut [x0, x1]) fun v9x1 =>
  bind (extr v9x1 0) fun v10x2 =>
  bind (extr v9x1 1) fun v11x3 =>
  bind (extr v9x1 2) fun v12x4 =>
  ret (Value.tuple #[v10x2, v11x3, v12x4])

set_option maxRecDepth 100000 in
theorem rf_stringsCut (Γ : Funs) (x0 x1 : Value) : runF Tryz.prog Γ Tryz.f101 lv_stringsCut [x0, x1] = F_stringsCut Γ x0 x1 := by kernel_rfl

theorem run_stringsCut {prim : FuncId → Option (List Value → M Value)} (hp : prim n_stringsCut = none) (n : Nat) (x0 x1 : Value) : run Tryz.prog prim lvs (n + 1) n_stringsCut [x0, x1] = F_stringsCut (run Tryz.prog prim lvs n) x0 x1 :=
  (run_fn hp (by kernel_rfl) Tryz.func101 (by kernel_rfl)).trans (rf_stringsCut _ x0 x1)

/-- strings.Split -/
noncomputable def F_stringsSplit (Γ : Funs) (x0 x1 : Value) : M Value :=
  bind (Γ n_stringsGenSplit [x0, x1, (Value.int .i64 0), (Value.int .i64 (-1))]) fun v7x1 =>
  ret v7x1

set_option maxRecDepth 100000 in
theorem rf_stringsSplit (Γ : Funs) (x0 x1 : Value) : runF Tryz.prog Γ Tryz.f102 lv_stringsSplit [x0, x1] = F_stringsSplit Γ x0 x1 := by kernel_rfl

theorem run_stringsSplit {prim : FuncId → Option (List Value → M Value)} (hp : prim n_stringsSplit = none) (n : Nat) (x0 x1 : Value) : run Tryz.prog prim lvs (n + 1) n_stringsSplit [x0, x1] = F_stringsSplit (run Tryz.prog prim lvs n) x0 x1 :=
  (run_fn hp (by kernel_rfl) Tryz.func102 (by kernel_rfl)).trans (rf_stringsSplit _ x0 x1)

/-- interrex/name.all: a round. -/
noncomputable def F_nameAll.l1 (Γ : Funs) (s0 s1 s7 s8 : Value) : M Out :=
  bind (bop .int .lss s8 s7) fun v9x2 =>
  cnd v9x2
  (bind (ixs s0 s8) fun v14x3 =>
  bind (callv Γ s1 [v14x3]) fun v15x4 =>
  bind (uop .not v15x4) fun v16x5 =>
  cnd v16x5
  (ret (.ret (Value.bool false)))
  (bind (bop .int .add s8 (Value.int .i64 1)) fun v17x6 =>
  ret (.nrm [s0, s1, s7, v17x6])))
  (ret (.ext 0 []))

/-- interrex/name.all -/
noncomputable def F_nameAll (Γ : Funs) (x0 x1 : Value) : M Value :=
  bind (lenT x0) fun v7x1 =>
  jn (loopM (c4 (F_nameAll.l1 Γ)) [x0, x1, v7x1, (Value.int .i64 0)]) noN (xk 0 (c0 (ret (Value.bool true))) noX) ret

set_option maxRecDepth 100000 in
theorem rf_nameAll (Γ : Funs) (x0 x1 : Value) : runF Tryz.prog Γ Tryz.f103 lv_nameAll [x0, x1] = F_nameAll Γ x0 x1 := by kernel_rfl

theorem run_nameAll {prim : FuncId → Option (List Value → M Value)} (hp : prim n_nameAll = none) (n : Nat) (x0 x1 : Value) : run Tryz.prog prim lvs (n + 1) n_nameAll [x0, x1] = F_nameAll (run Tryz.prog prim lvs n) x0 x1 :=
  (run_fn hp (by kernel_rfl) Tryz.func103 (by kernel_rfl)).trans (rf_nameAll _ x0 x1)

/-- interrex/name.Mail$1 -/
noncomputable def F_nameMail1 (Γ : Funs) (x0 : Value) : M Value :=
  bind (Γ n_nameLetter [x0]) fun v4x1 =>
  bind (gate v4x1 false 2 (bind (Γ n_nameDigit [x0]) fun v7x2 =>
  ret [x0, v7x2])) (c2 fun _ q3_1 =>
  bind (pick v4x1 (Value.bool true) q3_1) fun v8x4 =>
  ret v8x4)

set_option maxRecDepth 100000 in
theorem rf_nameMail1 (Γ : Funs) (x0 : Value) : runF Tryz.prog Γ Tryz.f104 lv_nameMail1 [x0] = F_nameMail1 Γ x0 := by kernel_rfl

theorem run_nameMail1 {prim : FuncId → Option (List Value → M Value)} (hp : prim n_nameMail1 = none) (n : Nat) (x0 : Value) : run Tryz.prog prim lvs (n + 1) n_nameMail1 [x0] = F_nameMail1 (run Tryz.prog prim lvs n) x0 :=
  (run_fn hp (by kernel_rfl) Tryz.func104 (by kernel_rfl)).trans (rf_nameMail1 _ x0)

/-- interrex/name.letter -/
noncomputable def F_nameLetter (Γ : Funs) (x0 : Value) : M Value :=
  bind (bop .int .geq x0 (Value.int .u8 97)) fun v4x1 =>
  bind (gate v4x1 true 2 (bind (bop .int .leq x0 (Value.int .u8 122)) fun v7x2 =>
  ret [x0, v7x2])) (c2 fun _ q3_1 =>
  bind (pick v4x1 q3_1 (Value.bool false)) fun v8x4 =>
  ret v8x4)

set_option maxRecDepth 100000 in
theorem rf_nameLetter (Γ : Funs) (x0 : Value) : runF Tryz.prog Γ Tryz.f105 lv_nameLetter [x0] = F_nameLetter Γ x0 := by kernel_rfl

theorem run_nameLetter {prim : FuncId → Option (List Value → M Value)} (hp : prim n_nameLetter = none) (n : Nat) (x0 : Value) : run Tryz.prog prim lvs (n + 1) n_nameLetter [x0] = F_nameLetter (run Tryz.prog prim lvs n) x0 :=
  (run_fn hp (by kernel_rfl) Tryz.func105 (by kernel_rfl)).trans (rf_nameLetter _ x0)

/-- interrex/name.digit -/
noncomputable def F_nameDigit (Γ : Funs) (x0 : Value) : M Value :=
  bind (bop .int .geq x0 (Value.int .u8 48)) fun v4x1 =>
  bind (gate v4x1 true 2 (bind (bop .int .leq x0 (Value.int .u8 57)) fun v7x2 =>
  ret [x0, v7x2])) (c2 fun _ q3_1 =>
  bind (pick v4x1 q3_1 (Value.bool false)) fun v8x4 =>
  ret v8x4)

set_option maxRecDepth 100000 in
theorem rf_nameDigit (Γ : Funs) (x0 : Value) : runF Tryz.prog Γ Tryz.f106 lv_nameDigit [x0] = F_nameDigit Γ x0 := by kernel_rfl

theorem run_nameDigit {prim : FuncId → Option (List Value → M Value)} (hp : prim n_nameDigit = none) (n : Nat) (x0 : Value) : run Tryz.prog prim lvs (n + 1) n_nameDigit [x0] = F_nameDigit (run Tryz.prog prim lvs n) x0 :=
  (run_fn hp (by kernel_rfl) Tryz.func106 (by kernel_rfl)).trans (rf_nameDigit _ x0)

/-- interrex/group.rising[interrex/group.set] -/
noncomputable def F_groupRisingGroupSet (Γ : Funs) (x0 : Value) : M Value :=
  bind (Γ n_mapsKeysMapStringgroupSetStringGroupSet [x0]) fun v4x1 =>
  bind (Γ n_slicesSortedFuncString [v4x1, (Value.func (.func 55) #[] #[])]) fun v5x2 =>
  ret v5x2

set_option maxRecDepth 100000 in
theorem rf_groupRisingGroupSet (Γ : Funs) (x0 : Value) : runF Tryz.prog Γ Tryz.f107 lv_groupRisingGroupSet [x0] = F_groupRisingGroupSet Γ x0 := by kernel_rfl

theorem run_groupRisingGroupSet {prim : FuncId → Option (List Value → M Value)} (hp : prim n_groupRisingGroupSet = none) (n : Nat) (x0 : Value) : run Tryz.prog prim lvs (n + 1) n_groupRisingGroupSet [x0] = F_groupRisingGroupSet (run Tryz.prog prim lvs n) x0 :=
  (run_fn hp (by kernel_rfl) Tryz.func107 (by kernel_rfl)).trans (rf_groupRisingGroupSet _ x0)

/-- maps.Keys[map[string]interrex/newer.account,string,interrex/newer.account] -/
noncomputable def F_mapsKeysMapStringnewerAccountStringNewerAccount (Γ : Funs) (x0 : Value) : M Value :=
  bind (alc 1 x0) fun v1x1 =>
  ret (Value.func (.func 124) #[] #[v1x1])

set_option maxRecDepth 100000 in
theorem rf_mapsKeysMapStringnewerAccountStringNewerAccount (Γ : Funs) (x0 : Value) : runF Tryz.prog Γ Tryz.f108 lv_mapsKeysMapStringnewerAccountStringNewerAccount [x0] = F_mapsKeysMapStringnewerAccountStringNewerAccount Γ x0 := by kernel_rfl

theorem run_mapsKeysMapStringnewerAccountStringNewerAccount {prim : FuncId → Option (List Value → M Value)} (hp : prim n_mapsKeysMapStringnewerAccountStringNewerAccount = none) (n : Nat) (x0 : Value) : run Tryz.prog prim lvs (n + 1) n_mapsKeysMapStringnewerAccountStringNewerAccount [x0] = F_mapsKeysMapStringnewerAccountStringNewerAccount (run Tryz.prog prim lvs n) x0 :=
  (run_fn hp (by kernel_rfl) Tryz.func108 (by kernel_rfl)).trans (rf_mapsKeysMapStringnewerAccountStringNewerAccount _ x0)

/-- (*interrex/newer.Dir).find -/
noncomputable def F_newerDirFind (Γ : Funs) (x0 x1 : Value) : M Value :=
  bind (alc 1 (.agg #[.string ⟨#[]⟩, .bool false])) fun v4x1 =>
  bind (Γ n_nameName [x1]) fun v10x2 =>
  bind (bop .int .neq v10x2 (Value.int .i64 0)) fun v12x3 =>
  cnd v12x3
  (bind (bld (.agg #[.string ⟨#[]⟩, .bool false]) []) fun v13x4 =>
  bind (stA 2 v4x1 v13x4) fun _ =>
  bind (ldA 2 v4x1) fun vrx5 =>
  ret (Value.tuple #[vrx5, v10x2]))
  (bind (nilc x0) fun v17x6 =>
  bind (fa 0 v17x6) fun v18x7 =>
  bind (ld1 v18x7) fun v19x8 =>
  bind (lkp .str (.agg #[.string ⟨#[]⟩, .bool false]) true v19x8 x1) fun v21x9 =>
  bind (extr v21x9 0) fun v22x10 =>
  bind (extr v21x9 1) fun v23x11 =>
  bind (alc 1 (.agg #[.string ⟨#[]⟩, .bool false])) fun v7x12 =>
  bind (stA 2 v7x12 v22x10) fun _ =>
  bind (uop .not v23x11) fun v25x13 =>
  cnd v25x13
  (bind (bld (.agg #[.string ⟨#[]⟩, .bool false]) []) fun v26x14 =>
  bind (stA 2 v4x1 v26x14) fun _ =>
  bind (ldA 2 v4x1) fun vrx15 =>
  ret (Value.tuple #[vrx15, (Value.int .i64 8)]))
  (bind (ldA 2 v7x12) fun v27x16 =>
  bind (stA 2 v4x1 v27x16) fun _ =>
  bind (ldA 2 v4x1) fun vrx17 =>
  ret (Value.tuple #[vrx17, (Value.int .i64 0)])))

set_option maxRecDepth 100000 in
theorem rf_newerDirFind (Γ : Funs) (x0 x1 : Value) : runF Tryz.prog Γ Tryz.f109 lv_newerDirFind [x0, x1] = F_newerDirFind Γ x0 x1 := by kernel_rfl

theorem run_newerDirFind {prim : FuncId → Option (List Value → M Value)} (hp : prim n_newerDirFind = none) (n : Nat) (x0 x1 : Value) : run Tryz.prog prim lvs (n + 1) n_newerDirFind [x0, x1] = F_newerDirFind (run Tryz.prog prim lvs n) x0 x1 :=
  (run_fn hp (by kernel_rfl) Tryz.func109 (by kernel_rfl)).trans (rf_newerDirFind _ x0 x1)

/-- (*interrex/mail.Index).Of -/
noncomputable def F_mailIndexOf (Γ : Funs) (x0 x1 : Value) : M Value :=
  bind (nilc x0) fun v10x1 =>
  bind (fa 1 v10x1) fun v11x2 =>
  bind (ld1 v11x2) fun v12x3 =>
  bind (lkp .str (.string ⟨#[]⟩) true v12x3 x1) fun v14x4 =>
  bind (extr v14x4 0) fun v15x5 =>
  bind (extr v14x4 1) fun v16x6 =>
  ret (Value.tuple #[v15x5, v16x6])

set_option maxRecDepth 100000 in
theorem rf_mailIndexOf (Γ : Funs) (x0 x1 : Value) : runF Tryz.prog Γ Tryz.f110 lv_mailIndexOf [x0, x1] = F_mailIndexOf Γ x0 x1 := by kernel_rfl

theorem run_mailIndexOf {prim : FuncId → Option (List Value → M Value)} (hp : prim n_mailIndexOf = none) (n : Nat) (x0 x1 : Value) : run Tryz.prog prim lvs (n + 1) n_mailIndexOf [x0, x1] = F_mailIndexOf (run Tryz.prog prim lvs n) x0 x1 :=
  (run_fn hp (by kernel_rfl) Tryz.func110 (by kernel_rfl)).trans (rf_mailIndexOf _ x0 x1)

/-- (*interrex/group.Groups).Of -/
noncomputable def F_groupGroupsOf (Γ : Funs) (x0 x1 : Value) : M Value :=
  bind (alc 1 x0) fun v2x1 =>
  bind (alc 1 x1) fun v3x2 =>
  bind (ld1 v2x1) fun v5x3 =>
  bind (Γ n_groupGroupsAll [v5x3]) fun v6x4 =>
  bind (Γ n_slicesDeleteFuncstringString [v6x4, (Value.func (.func 126) #[] #[v2x1, v3x2])]) fun v8x5 =>
  ret v8x5

set_option maxRecDepth 100000 in
theorem rf_groupGroupsOf (Γ : Funs) (x0 x1 : Value) : runF Tryz.prog Γ Tryz.f111 lv_groupGroupsOf [x0, x1] = F_groupGroupsOf Γ x0 x1 := by kernel_rfl

theorem run_groupGroupsOf {prim : FuncId → Option (List Value → M Value)} (hp : prim n_groupGroupsOf = none) (n : Nat) (x0 x1 : Value) : run Tryz.prog prim lvs (n + 1) n_groupGroupsOf [x0, x1] = F_groupGroupsOf (run Tryz.prog prim lvs n) x0 x1 :=
  (run_fn hp (by kernel_rfl) Tryz.func111 (by kernel_rfl)).trans (rf_groupGroupsOf _ x0 x1)

/-- interrex/name.Hash$1 -/
noncomputable def F_nameHash1 (Γ : Funs) (x0 : Value) : M Value :=
  bind (Γ n_nameDigit [x0]) fun v4x1 =>
  bind (gate v4x1 false 3 (bind (bop .int .geq x0 (Value.int .u8 97)) fun v7x2 =>
  ret [x0, v7x2, v7x2])) (c3 fun _ _ q3_2 =>
  bind (gate q3_2 true 2 (bind (bop .int .leq x0 (Value.int .u8 102)) fun v10x4 =>
  ret [x0, v10x4])) (c2 fun _ q5_1 =>
  bind (gate v4x1 false 1 (bind (pick q3_2 q5_1 (Value.bool false)) fun v11x6 =>
  ret [v11x6])) (c1 fun q7_0 =>
  bind (pick v4x1 (Value.bool true) q7_0) fun v12x8 =>
  ret v12x8)))

set_option maxRecDepth 100000 in
theorem rf_nameHash1 (Γ : Funs) (x0 : Value) : runF Tryz.prog Γ Tryz.f112 lv_nameHash1 [x0] = F_nameHash1 Γ x0 := by kernel_rfl

theorem run_nameHash1 {prim : FuncId → Option (List Value → M Value)} (hp : prim n_nameHash1 = none) (n : Nat) (x0 : Value) : run Tryz.prog prim lvs (n + 1) n_nameHash1 [x0] = F_nameHash1 (run Tryz.prog prim lvs n) x0 :=
  (run_fn hp (by kernel_rfl) Tryz.func112 (by kernel_rfl)).trans (rf_nameHash1 _ x0)

/-- cmp.isNaN[string] -/
noncomputable def F_cmpIsNaNString (Γ : Funs) (x0 : Value) : M Value :=
  bind (bop .str .neq x0 x0) fun v5x1 =>
  ret v5x1

set_option maxRecDepth 100000 in
theorem rf_cmpIsNaNString (Γ : Funs) (x0 : Value) : runF Tryz.prog Γ Tryz.f113 lv_cmpIsNaNString [x0] = F_cmpIsNaNString Γ x0 := by kernel_rfl

theorem run_cmpIsNaNString {prim : FuncId → Option (List Value → M Value)} (hp : prim n_cmpIsNaNString = none) (n : Nat) (x0 : Value) : run Tryz.prog prim lvs (n + 1) n_cmpIsNaNString [x0] = F_cmpIsNaNString (run Tryz.prog prim lvs n) x0 :=
  (run_fn hp (by kernel_rfl) Tryz.func113 (by kernel_rfl)).trans (rf_cmpIsNaNString _ x0)

/-- slices.AppendSeq[[]string,string]: a range over a function. -/
noncomputable abbrev F_slicesAppendSeqstringString.o1 (s2 : Value) (st : LoopState) (pd : Option Code) : AObj := .loop Tryz.f114 lv_slicesAppendSeqstringString 26 [0] (rfAt Tryz.f114 26) [(2, s2)] st pd

/-- slices.AppendSeq[[]string,string]: a round of a range over a function. -/
noncomputable def F_slicesAppendSeqstringString.r1 (Γ : Funs) (L : Nat) (s2 : Value) (a0 : Value) : M Value :=
  begM L (
  bind (ld1 s2) fun v8x2 =>
  bind (bsl 1 1 (.string ⟨#[]⟩) [(0, 1, a0)]) fun v10x3 =>
  bind (app 1 16 v8x2 v10x3) fun v11x4 =>
  bind (st1 s2 v11x4) fun _ =>
  endR L none)

set_option maxRecDepth 100000 in
theorem rd_slicesAppendSeqstringString_r1 {Γ : Funs} {L : Nat} {s2 a0 : Value} {H : Heap} {pd : Option Code} (h : H[L]? = some (F_slicesAppendSeqstringString.o1 s2 .ready pd)) : roundF Tryz.prog Γ L [a0] H = F_slicesAppendSeqstringString.r1 Γ L s2 a0 H := by
  unfold roundF
  rw [h]
  kernel_rfl

/-- slices.AppendSeq[[]string,string] -/
noncomputable def F_slicesAppendSeqstringString (Γ : Funs) (x0 x1 : Value) : M Value :=
  bind (alc 1 x0) fun v2x1 =>
  rangeM (callG Tryz.prog) Γ x1 Tryz.f114 lv_slicesAppendSeqstringString 26 [0] (rfAt Tryz.f114 26) [(2, v2x1)] fun pd_5 =>
  (match pd_5 with
  | none => bind (ld1 v2x1) fun v12x6 =>
  ret v12x6
  | some (.exit j_5) => fail
  | some .ret => ret (Value.slice none 0 0)
  | _ => fail)

set_option maxRecDepth 100000 in
theorem rf_slicesAppendSeqstringString (Γ : Funs) (x0 x1 : Value) : runF Tryz.prog Γ Tryz.f114 lv_slicesAppendSeqstringString [x0, x1] = F_slicesAppendSeqstringString Γ x0 x1 := by kernel_rfl

theorem run_slicesAppendSeqstringString {prim : FuncId → Option (List Value → M Value)} (hp : prim n_slicesAppendSeqstringString = none) (n : Nat) (x0 x1 : Value) : run Tryz.prog prim lvs (n + 1) n_slicesAppendSeqstringString [x0, x1] = F_slicesAppendSeqstringString (run Tryz.prog prim lvs n) x0 x1 :=
  (run_fn hp (by kernel_rfl) Tryz.func114 (by kernel_rfl)).trans (rf_slicesAppendSeqstringString _ x0 x1)

/-- slices.pdqsortCmpFunc[string]: a round. -/
noncomputable def F_slicesPdqsortCmpFuncString.l1 (Γ : Funs) (s0 s1 s2 s3 s4 s10 s11 : Value) : M Out :=
  jn (bind (bop .int .sub s2 s1) fun v23x1 =>
  bind (bop .int .leq v23x1 (Value.int .i64 12)) fun v25x2 =>
  cnd v25x2
  (bind (Γ n_slicesInsertionSortCmpFuncString [s0, s1, s2, s4]) fun v30x3 =>
  ret (.ret (Value.tuple #[])))
  (bind (bop .int .eql s3 (Value.int .i64 0)) fun v32x4 =>
  cnd v32x4
  (bind (Γ n_slicesHeapSortCmpFuncString [s0, s1, s2, s4]) fun v37x5 =>
  ret (.ret (Value.tuple #[])))
  (bind (uop .not s10) fun v39x6 =>
  jn (cnd v39x6
  (bind (Γ n_slicesBreakPatternsCmpFuncString [s0, s1, s2, s4]) fun v44x7 =>
  bind (bop .int .sub s3 (Value.int .i64 1)) fun v46x8 =>
  ret (.nrm [s0, s1, s2, v46x8, s4, s10, s11, v23x1]))
  (ret (.nrm [s0, s1, s2, s3, s4, s10, s11, v23x1]))) (c8 fun q9_0 q9_1 q9_2 q9_3 q9_4 q9_5 q9_6 q9_7 =>
  bind (Γ n_slicesChoosePivotCmpFuncString [q9_0, q9_1, q9_2, q9_4]) fun v52x10 =>
  bind (extr v52x10 0) fun v53x11 =>
  bind (extr v52x10 1) fun v54x12 =>
  bind (bop .int .eql v54x12 (Value.int .i64 2)) fun v56x13 =>
  jn (cnd v56x13
  (bind (Γ n_slicesReverseRangeCmpFuncString [q9_0, q9_1, q9_2, q9_4]) fun v61x14 =>
  bind (bop .int .sub q9_2 (Value.int .i64 1)) fun v63x15 =>
  bind (bop .int .sub v53x11 q9_1) fun v66x16 =>
  bind (bop .int .sub v63x15 v66x16) fun v67x17 =>
  ret (.nrm [q9_0, q9_1, q9_2, q9_3, q9_4, q9_5, q9_6, q9_7, v67x17, (Value.int .i64 1)]))
  (ret (.nrm [q9_0, q9_1, q9_2, q9_3, q9_4, q9_5, q9_6, q9_7, v53x11, v54x12]))) (c10 fun q18_0 q18_1 q18_2 q18_3 q18_4 q18_5 q18_6 q18_7 q18_8 q18_9 =>
  bind (gate q18_5 true 1 (ret [q18_6])) (c1 fun q19_0 =>
  bind (pick q18_5 q19_0 (Value.bool false)) fun v71x20 =>
  bind (gate v71x20 true 2 (bind (bop .int .eql q18_9 (Value.int .i64 1)) fun v74x21 =>
  ret [q18_9, v74x21])) (c2 fun _ q22_1 =>
  bind (pick v71x20 q22_1 (Value.bool false)) fun v75x23 =>
  jn (cnd v75x23
  (bind (Γ n_slicesPartialInsertionSortCmpFuncString [q18_0, q18_1, q18_2, q18_4]) fun v80x24 =>
  cnd v80x24
  (ret (.ret (Value.tuple #[])))
  (ret (.nrm [q18_0, q18_1, q18_2, q18_3, q18_4, q18_5, q18_6, q18_7, q18_8])))
  (ret (.nrm [q18_0, q18_1, q18_2, q18_3, q18_4, q18_5, q18_6, q18_7, q18_8]))) (c9 fun q25_0 q25_1 q25_2 q25_3 q25_4 q25_5 q25_6 q25_7 q25_8 =>
  bind (bop .int .gtr q25_1 (Value.int .i64 0)) fun v82x26 =>
  bind (gateV v82x26 true (ret q25_4)) fun v84x27 =>
  bind (gateV v82x26 true (ret q25_0)) fun v85x28 =>
  bind (gateV v82x26 true (ret q25_1)) fun v86x29 =>
  bind (gateV v82x26 true (bop .int .sub v86x29 (Value.int .i64 1))) fun v87x30 =>
  bind (gateV v82x26 true (ixa 1 v85x28 v87x30)) fun v88x31 =>
  bind (gateV v82x26 true (ld1 v88x31)) fun v89x32 =>
  bind (gateV v82x26 true (ret q25_0)) fun v90x33 =>
  bind (gateV v82x26 true (ret q25_8)) fun v91x34 =>
  bind (gateV v82x26 true (ixa 1 v90x33 v91x34)) fun v92x35 =>
  bind (gateV v82x26 true (ld1 v92x35)) fun v93x36 =>
  bind (gateV v82x26 true (callv Γ v84x27 [v89x32, v93x36])) fun v94x37 =>
  bind (gateV v82x26 true (bop .int .lss v94x37 (Value.int .i64 0))) fun v95x38 =>
  bind (gateV v82x26 true (uop .not v95x38)) fun v96x39 =>
  bind (pick v82x26 v96x39 (Value.bool false)) fun v97x40 =>
  cnd v97x40
  (bind (Γ n_slicesPartitionEqualCmpFuncString [q25_0, q25_1, q25_2, q25_8, q25_4]) fun v103x41 =>
  ret (.nrm [q25_0, v103x41, q25_2, q25_3, q25_4, q25_5, q25_6]))
  (bind (Γ n_slicesPartitionCmpFuncString [q25_0, q25_1, q25_2, q25_8, q25_4]) fun v111x42 =>
  bind (extr v111x42 0) fun v112x43 =>
  bind (extr v111x42 1) fun v113x44 =>
  bind (bop .int .sub v112x43 q25_1) fun v117x45 =>
  bind (bop .int .sub q25_2 v112x43) fun v120x46 =>
  bind (bop .int .quo q25_7 (Value.int .i64 8)) fun v122x47 =>
  bind (bop .int .lss v117x45 v120x46) fun v125x48 =>
  jn (cnd v125x48
  (bind (bop .int .geq v117x45 v122x47) fun v128x49 =>
  bind (Γ n_slicesPdqsortCmpFuncString [q25_0, q25_1, v112x43, q25_3, q25_4]) fun v134x50 =>
  bind (bop .int .add v112x43 (Value.int .i64 1)) fun v136x51 =>
  ret (.nrm [q25_0, v136x51, q25_2, q25_3, q25_4, v128x49, v113x44]))
  (bind (bop .int .geq v120x46 v122x47) fun v139x52 =>
  bind (bop .int .add v112x43 (Value.int .i64 1)) fun v142x53 =>
  bind (Γ n_slicesPdqsortCmpFuncString [q25_0, v142x53, q25_2, q25_3, q25_4]) fun v146x54 =>
  ret (.nrm [q25_0, q25_1, v112x43, q25_3, q25_4, v139x52, v113x44]))) (c7 fun q55_0 q55_1 q55_2 q55_3 q55_4 q55_5 q55_6 =>
  ret (.nrm [q55_0, q55_1, q55_2, q55_3, q55_4, q55_5, q55_6])) noX retR)) noX retR))) noX retR) noX retR))) (c7 fun q60_0 q60_1 q60_2 q60_3 q60_4 q60_5 q60_6 =>
  ret (.nrm [q60_0, q60_1, q60_2, q60_3, q60_4, q60_5, q60_6])) noX retR

/-- slices.pdqsortCmpFunc[string] -/
noncomputable def F_slicesPdqsortCmpFuncString (Γ : Funs) (x0 x1 x2 x3 x4 : Value) : M Value :=
  jn (loopM (c7 (F_slicesPdqsortCmpFuncString.l1 Γ)) [x0, x1, x2, x3, x4, (Value.bool true), (Value.bool true)]) noN noX ret

set_option maxRecDepth 100000 in
theorem rf_slicesPdqsortCmpFuncString (Γ : Funs) (x0 x1 x2 x3 x4 : Value) : runF Tryz.prog Γ Tryz.f115 lv_slicesPdqsortCmpFuncString [x0, x1, x2, x3, x4] = F_slicesPdqsortCmpFuncString Γ x0 x1 x2 x3 x4 := by kernel_rfl

theorem run_slicesPdqsortCmpFuncString {prim : FuncId → Option (List Value → M Value)} (hp : prim n_slicesPdqsortCmpFuncString = none) (n : Nat) (x0 x1 x2 x3 x4 : Value) : run Tryz.prog prim lvs (n + 1) n_slicesPdqsortCmpFuncString [x0, x1, x2, x3, x4] = F_slicesPdqsortCmpFuncString (run Tryz.prog prim lvs n) x0 x1 x2 x3 x4 :=
  (run_fn hp (by kernel_rfl) Tryz.func115 (by kernel_rfl)).trans (rf_slicesPdqsortCmpFuncString _ x0 x1 x2 x3 x4)

/-- math/bits.Len -/
noncomputable def F_mathBitsLen (Γ : Funs) (x0 : Value) : M Value :=
  cnd (Value.bool false)
  (bind (cvi .u32 x0) fun v4x1 =>
  bind (Γ n_mathBitsLen32 [v4x1]) fun v5x2 =>
  ret v5x2)
  (bind (Γ n_mathBitsLen64 [x0]) fun v7x3 =>
  ret v7x3)

set_option maxRecDepth 100000 in
theorem rf_mathBitsLen (Γ : Funs) (x0 : Value) : runF Tryz.prog Γ Tryz.f116 lv_mathBitsLen [x0] = F_mathBitsLen Γ x0 := by kernel_rfl

theorem run_mathBitsLen {prim : FuncId → Option (List Value → M Value)} (hp : prim n_mathBitsLen = none) (n : Nat) (x0 : Value) : run Tryz.prog prim lvs (n + 1) n_mathBitsLen [x0] = F_mathBitsLen (run Tryz.prog prim lvs n) x0 :=
  (run_fn hp (by kernel_rfl) Tryz.func116 (by kernel_rfl)).trans (rf_mathBitsLen _ x0)

/-- interrex/interrexref05.Of: a round. -/
noncomputable def F_ref05Of.l1 (Γ : Funs) (s0 s1 s5 : Value) : M Out :=
  bind (lenT s0) fun v8x1 =>
  bind (bop .int .lss s5 v8x1) fun v9x2 =>
  cnd v9x2
  (bind (ixs s0 s5) fun v14x3 =>
  bind (Γ n_ref05In [v14x3, s1]) fun v16x4 =>
  bind (uop .not v16x4) fun v17x5 =>
  cnd v17x5
  (ret (.ret (Value.bool false)))
  (bind (bop .int .add s5 (Value.int .i64 1)) fun v11x6 =>
  ret (.nrm [s0, s1, v11x6])))
  (ret (.ext 0 []))

/-- interrex/interrexref05.Of -/
noncomputable def F_ref05Of (Γ : Funs) (x0 x1 : Value) : M Value :=
  jn (loopM (c3 (F_ref05Of.l1 Γ)) [x0, x1, (Value.int .i64 0)]) noN (xk 0 (c0 (ret (Value.bool true))) noX) ret

set_option maxRecDepth 100000 in
theorem rf_ref05Of (Γ : Funs) (x0 x1 : Value) : runF Tryz.prog Γ Tryz.f117 lv_ref05Of [x0, x1] = F_ref05Of Γ x0 x1 := by kernel_rfl

theorem run_ref05Of {prim : FuncId → Option (List Value → M Value)} (hp : prim n_ref05Of = none) (n : Nat) (x0 x1 : Value) : run Tryz.prog prim lvs (n + 1) n_ref05Of [x0, x1] = F_ref05Of (run Tryz.prog prim lvs n) x0 x1 :=
  (run_fn hp (by kernel_rfl) Tryz.func117 (by kernel_rfl)).trans (rf_ref05Of _ x0 x1)

/-- interrex/interrexref05.In: a round. -/
noncomputable def F_ref05In.l1 (Γ : Funs) (s0 s1 s5 : Value) : M Out :=
  bind (lenT s1) fun v8x1 =>
  bind (bop .int .lss s5 v8x1) fun v9x2 =>
  cnd v9x2
  (bind (ixs s1 s5) fun v14x3 =>
  bind (bop .int .eql v14x3 s0) fun v16x4 =>
  cnd v16x4
  (ret (.ret (Value.bool true)))
  (bind (bop .int .add s5 (Value.int .i64 1)) fun v11x5 =>
  ret (.nrm [s0, s1, v11x5])))
  (ret (.ext 0 []))

/-- interrex/interrexref05.In -/
noncomputable def F_ref05In (Γ : Funs) (x0 x1 : Value) : M Value :=
  jn (loopM (c3 (F_ref05In.l1 Γ)) [x0, x1, (Value.int .i64 0)]) noN (xk 0 (c0 (ret (Value.bool false))) noX) ret

set_option maxRecDepth 100000 in
theorem rf_ref05In (Γ : Funs) (x0 x1 : Value) : runF Tryz.prog Γ Tryz.f118 lv_ref05In [x0, x1] = F_ref05In Γ x0 x1 := by kernel_rfl

theorem run_ref05In {prim : FuncId → Option (List Value → M Value)} (hp : prim n_ref05In = none) (n : Nat) (x0 x1 : Value) : run Tryz.prog prim lvs (n + 1) n_ref05In [x0, x1] = F_ref05In (run Tryz.prog prim lvs n) x0 x1 :=
  (run_fn hp (by kernel_rfl) Tryz.func118 (by kernel_rfl)).trans (rf_ref05In _ x0 x1)

/-- interrex/interrexref05.Fold: a round. -/
noncomputable def F_ref05Fold.l2 (Γ : Funs) (s0 s3 s4 s5 s6 s19 : Value) : M Out :=
  bind (bop .int .lss s19 (Value.int .i64 26)) fun v20x5 =>
  cnd v20x5
  (bind (ixs s0 s5) fun v24x6 =>
  bind (ixs s3 s19) fun v27x7 =>
  bind (bop .int .eql v24x6 v27x7) fun v28x8 =>
  jn (cnd v28x8
  (bind (bop .int .add s19 (Value.int .i64 1)) fun v31x9 =>
  bind (sls (Value.string ⟨#[97, 98, 99, 100, 101, 102, 103, 104, 105, 106, 107, 108, 109, 110, 111, 112, 113, 114, 115, 116, 117, 118, 119, 120, 121, 122]⟩) (some s19) (some v31x9)) fun v32x10 =>
  ret (.nrm [s0, s3, s4, s5, v32x10, s19]))
  (ret (.nrm [s0, s3, s4, s5, s6, s19]))) (c6 fun q11_0 q11_1 q11_2 q11_3 q11_4 q11_5 =>
  bind (bop .int .add q11_5 (Value.int .i64 1)) fun v33x12 =>
  ret (.nrm [q11_0, q11_1, q11_2, q11_3, q11_4, v33x12])) noX retR)
  (ret (.ext 2 [s0, s3, s4, s5, s6]))

/-- interrex/interrexref05.Fold: a round. -/
noncomputable def F_ref05Fold.l1 (Γ : Funs) (s0 s3 s4 s5 : Value) : M Out :=
  bind (lenT s0) fun v10x1 =>
  bind (bop .int .lss s5 v10x1) fun v11x2 =>
  cnd v11x2
  (bind (bop .int .add s5 (Value.int .i64 1)) fun v17x3 =>
  bind (sls s0 (some s5) (some v17x3)) fun v18x4 =>
  jn (loopM (c6 (F_ref05Fold.l2 Γ)) [s0, s3, s4, s5, v18x4, (Value.int .i64 0)]) noN (xk 2 (c5 fun q15_0 q15_1 q15_2 q15_3 q15_4 =>
  bind (bop .str .add q15_2 q15_4) fun v36x16 =>
  bind (bop .int .add q15_3 (Value.int .i64 1)) fun v13x17 =>
  ret (.nrm [q15_0, q15_1, v36x16, v13x17])) noX) retR)
  (ret (.ext 0 [s4]))

/-- interrex/interrexref05.Fold -/
noncomputable def F_ref05Fold (Γ : Funs) (x0 : Value) : M Value :=
  jn (loopM (c4 (F_ref05Fold.l1 Γ)) [x0, (Value.string ⟨#[65, 66, 67, 68, 69, 70, 71, 72, 73, 74, 75, 76, 77, 78, 79, 80, 81, 82, 83, 84, 85, 86, 87, 88, 89, 90]⟩), (Value.string ⟨#[]⟩), (Value.int .i64 0)]) noN (xk 0 (c1 fun q20_0 =>
  ret q20_0) noX) ret

set_option maxRecDepth 100000 in
theorem rf_ref05Fold (Γ : Funs) (x0 : Value) : runF Tryz.prog Γ Tryz.f119 lv_ref05Fold [x0] = F_ref05Fold Γ x0 := by kernel_rfl

theorem run_ref05Fold {prim : FuncId → Option (List Value → M Value)} (hp : prim n_ref05Fold = none) (n : Nat) (x0 : Value) : run Tryz.prog prim lvs (n + 1) n_ref05Fold [x0] = F_ref05Fold (run Tryz.prog prim lvs n) x0 :=
  (run_fn hp (by kernel_rfl) Tryz.func119 (by kernel_rfl)).trans (rf_ref05Fold _ x0)

/-- interrex/name.sign -/
noncomputable def F_nameSign (Γ : Funs) (x0 : Value) : M Value :=
  bind (Γ n_nameLetter [x0]) fun v4x1 =>
  bind (gate v4x1 false 2 (bind (Γ n_nameDigit [x0]) fun v7x2 =>
  ret [x0, v7x2])) (c2 fun _ q3_1 =>
  bind (pick v4x1 (Value.bool true) q3_1) fun v8x4 =>
  bind (gate v8x4 false 2 (bind (bop .int .eql x0 (Value.int .u8 45)) fun v11x5 =>
  ret [x0, v11x5])) (c2 fun _ q6_1 =>
  bind (pick v8x4 (Value.bool true) q6_1) fun v12x7 =>
  bind (gate v12x7 false 2 (bind (bop .int .eql x0 (Value.int .u8 46)) fun v15x8 =>
  ret [x0, v15x8])) (c2 fun _ q9_1 =>
  bind (pick v12x7 (Value.bool true) q9_1) fun v16x10 =>
  ret v16x10)))

set_option maxRecDepth 100000 in
theorem rf_nameSign (Γ : Funs) (x0 : Value) : runF Tryz.prog Γ Tryz.f120 lv_nameSign [x0] = F_nameSign Γ x0 := by kernel_rfl

theorem run_nameSign {prim : FuncId → Option (List Value → M Value)} (hp : prim n_nameSign = none) (n : Nat) (x0 : Value) : run Tryz.prog prim lvs (n + 1) n_nameSign [x0] = F_nameSign (run Tryz.prog prim lvs n) x0 :=
  (run_fn hp (by kernel_rfl) Tryz.func120 (by kernel_rfl)).trans (rf_nameSign _ x0)

/-- internal/stringslite.Cut -/
noncomputable def F_internalStringsliteCut (Γ : Funs) (x0 x1 : Value) : M Value :=
  bind (Γ n_internalStringsliteIndex [x0, x1]) fun v10x1 =>
  bind (bop .int .geq v10x1 (Value.int .i64 0)) fun v12x2 =>
  cnd v12x2
  (bind (sls x0 none (some v10x1)) fun v15x3 =>
  bind (lenT x1) fun v19x4 =>
  bind (bop .int .add v10x1 v19x4) fun v20x5 =>
  bind (sls x0 (some v20x5) none) fun v21x6 =>
  ret (Value.tuple #[v15x3, v21x6, (Value.bool true)]))
  (ret (Value.tuple #[x0, (Value.string ⟨#[]⟩), (Value.bool false)]))

set_option maxRecDepth 100000 in
theorem rf_internalStringsliteCut (Γ : Funs) (x0 x1 : Value) : runF Tryz.prog Γ Tryz.f121 lv_internalStringsliteCut [x0, x1] = F_internalStringsliteCut Γ x0 x1 := by kernel_rfl

theorem run_internalStringsliteCut {prim : FuncId → Option (List Value → M Value)} (hp : prim n_internalStringsliteCut = none) (n : Nat) (x0 x1 : Value) : run Tryz.prog prim lvs (n + 1) n_internalStringsliteCut [x0, x1] = F_internalStringsliteCut (run Tryz.prog prim lvs n) x0 x1 :=
  (run_fn hp (by kernel_rfl) Tryz.func121 (by kernel_rfl)).trans (rf_internalStringsliteCut _ x0 x1)

/-- strings.genSplit: a round. -/
noncomputable def F_stringsGenSplit.l1 (Γ : Funs) (s0 s1 s2 s3 s9 s10 : Value) : M Out :=
  bind (bop .int .lss s10 s3) fun v36x13 =>
  cnd v36x13
  (bind (Γ n_stringsIndex [s0, s1]) fun v39x14 =>
  bind (bop .int .lss v39x14 (Value.int .i64 0)) fun v41x15 =>
  cnd v41x15
  (ret (.ext 0 [s0, s9, s10]))
  (bind (bop .int .add v39x14 s2) fun v47x16 =>
  bind (sls s0 none (some v47x16)) fun v48x17 =>
  bind (ixa 1 s9 s10) fun v49x18 =>
  bind (st1 v49x18 v48x17) fun _ =>
  bind (lenT s1) fun v53x19 =>
  bind (bop .int .add v39x14 v53x19) fun v54x20 =>
  bind (sls s0 (some v54x20) none) fun v55x21 =>
  bind (bop .int .add s10 (Value.int .i64 1)) fun v57x22 =>
  ret (.nrm [v55x21, s1, s2, s3, s9, v57x22])))
  (ret (.ext 0 [s0, s9, s10]))

/-- strings.genSplit -/
noncomputable def F_stringsGenSplit (Γ : Funs) (x0 x1 x2 x3 : Value) : M Value :=
  bind (bop .int .eql x3 (Value.int .i64 0)) fun v13x1 =>
  cnd v13x1
  (ret (Value.slice none 0 0))
  (bind (bop .str .eql x1 (Value.string ⟨#[]⟩)) fun v15x2 =>
  cnd v15x2
  (bind (Γ n_stringsExplode [x0, x3]) fun v18x3 =>
  ret v18x3)
  (bind (bop .int .lss x3 (Value.int .i64 0)) fun v20x4 =>
  jn (cnd v20x4
  (bind (Γ n_stringsCount [x0, x1]) fun v23x5 =>
  bind (bop .int .add v23x5 (Value.int .i64 1)) fun v24x6 =>
  ret (.nrm [x0, x1, x2, v24x6]))
  (ret (.nrm [x0, x1, x2, x3]))) (c4 fun q7_0 q7_1 q7_2 q7_3 =>
  bind (lenT q7_0) fun v27x8 =>
  bind (bop .int .add v27x8 (Value.int .i64 1)) fun v28x9 =>
  bind (mxi false q7_3 v28x9) fun v29x10 =>
  bind (mks 1 16 (.string ⟨#[]⟩) v29x10 v29x10) fun v31x11 =>
  bind (bop .int .sub v29x10 (Value.int .i64 1)) fun v33x12 =>
  jn (jn (loopM (c6 (F_stringsGenSplit.l1 Γ)) [q7_0, q7_1, q7_2, v33x12, v31x11, (Value.int .i64 0)]) noN (xk 0 (c3 fun q24_0 q24_1 q24_2 =>
  ret (.nrm [q24_0, q24_1, q24_2])) noX) retR) (c3 fun q26_0 q26_1 q26_2 =>
  bind (ixa 1 q26_1 q26_2) fun v61x27 =>
  bind (st1 v61x27 q26_0) fun _ =>
  bind (bop .int .add q26_2 (Value.int .i64 1)) fun v64x28 =>
  bind (slv 1 q26_1 none (some v64x28) none) fun v65x29 =>
  ret v65x29) noX ret) noX ret))

set_option maxRecDepth 100000 in
theorem rf_stringsGenSplit (Γ : Funs) (x0 x1 x2 x3 : Value) : runF Tryz.prog Γ Tryz.f122 lv_stringsGenSplit [x0, x1, x2, x3] = F_stringsGenSplit Γ x0 x1 x2 x3 := by kernel_rfl

theorem run_stringsGenSplit {prim : FuncId → Option (List Value → M Value)} (hp : prim n_stringsGenSplit = none) (n : Nat) (x0 x1 x2 x3 : Value) : run Tryz.prog prim lvs (n + 1) n_stringsGenSplit [x0, x1, x2, x3] = F_stringsGenSplit (run Tryz.prog prim lvs n) x0 x1 x2 x3 :=
  (run_fn hp (by kernel_rfl) Tryz.func122 (by kernel_rfl)).trans (rf_stringsGenSplit _ x0 x1 x2 x3)

/-- maps.Keys[map[string]interrex/group.set,string,interrex/group.set] -/
noncomputable def F_mapsKeysMapStringgroupSetStringGroupSet (Γ : Funs) (x0 : Value) : M Value :=
  bind (alc 1 x0) fun v1x1 =>
  ret (Value.func (.func 141) #[] #[v1x1])

set_option maxRecDepth 100000 in
theorem rf_mapsKeysMapStringgroupSetStringGroupSet (Γ : Funs) (x0 : Value) : runF Tryz.prog Γ Tryz.f123 lv_mapsKeysMapStringgroupSetStringGroupSet [x0] = F_mapsKeysMapStringgroupSetStringGroupSet Γ x0 := by kernel_rfl

theorem run_mapsKeysMapStringgroupSetStringGroupSet {prim : FuncId → Option (List Value → M Value)} (hp : prim n_mapsKeysMapStringgroupSetStringGroupSet = none) (n : Nat) (x0 : Value) : run Tryz.prog prim lvs (n + 1) n_mapsKeysMapStringgroupSetStringGroupSet [x0] = F_mapsKeysMapStringgroupSetStringGroupSet (run Tryz.prog prim lvs n) x0 :=
  (run_fn hp (by kernel_rfl) Tryz.func123 (by kernel_rfl)).trans (rf_mapsKeysMapStringgroupSetStringGroupSet _ x0)

-- 124 ("maps.Keys[map[string]interrex/newer.account,string,interrex/newer.account]$1"): not covered: range
/-- slices.DeleteFunc[[]string,string]: a round. -/
noncomputable def F_slicesDeleteFuncstringString.l1 (Γ : Funs) (s0 s1 s5 s6 : Value) : M Out :=
  bind (lenS s0) fun v18x4 =>
  bind (bop .int .lss s6 v18x4) fun v19x5 =>
  cnd v19x5
  (bind (ixa 1 s0 s6) fun v24x6 =>
  bind (ld1 v24x6) fun v25x7 =>
  bind (callv Γ s1 [v25x7]) fun v28x8 =>
  bind (uop .not v28x8) fun v29x9 =>
  jn (cnd v29x9
  (bind (ixa 1 s0 s5) fun v33x10 =>
  bind (st1 v33x10 v25x7) fun _ =>
  bind (bop .int .add s5 (Value.int .i64 1)) fun v35x11 =>
  ret (.nrm [s0, s1, v35x11, s6]))
  (ret (.nrm [s0, s1, s5, s6]))) (c4 fun q12_0 q12_1 q12_2 q12_3 =>
  bind (bop .int .add q12_3 (Value.int .i64 1)) fun v21x13 =>
  ret (.nrm [q12_0, q12_1, q12_2, v21x13])) noX retR)
  (ret (.ext 0 [s0, s5]))

/-- slices.DeleteFunc[[]string,string] -/
noncomputable def F_slicesDeleteFuncstringString (Γ : Funs) (x0 x1 : Value) : M Value :=
  bind (Γ n_slicesIndexFuncstringString [x0, x1]) fun v10x1 =>
  bind (bop .int .eql v10x1 (Value.int .i64 (-1))) fun v12x2 =>
  cnd v12x2
  (ret x0)
  (bind (bop .int .add v10x1 (Value.int .i64 1)) fun v15x3 =>
  jn (loopM (c4 (F_slicesDeleteFuncstringString.l1 Γ)) [x0, x1, v10x1, v15x3]) noN (xk 0 (c2 fun q16_0 q16_1 =>
  bind (slv 1 q16_0 (some q16_1) none none) fun v38x17 =>
  bind (clr (.string ⟨#[]⟩) 1 v38x17) fun _ =>
  bind (slv 1 q16_0 none (some q16_1) none) fun v41x18 =>
  ret v41x18) noX) ret)

set_option maxRecDepth 100000 in
theorem rf_slicesDeleteFuncstringString (Γ : Funs) (x0 x1 : Value) : runF Tryz.prog Γ Tryz.f125 lv_slicesDeleteFuncstringString [x0, x1] = F_slicesDeleteFuncstringString Γ x0 x1 := by kernel_rfl

theorem run_slicesDeleteFuncstringString {prim : FuncId → Option (List Value → M Value)} (hp : prim n_slicesDeleteFuncstringString = none) (n : Nat) (x0 x1 : Value) : run Tryz.prog prim lvs (n + 1) n_slicesDeleteFuncstringString [x0, x1] = F_slicesDeleteFuncstringString (run Tryz.prog prim lvs n) x0 x1 :=
  (run_fn hp (by kernel_rfl) Tryz.func125 (by kernel_rfl)).trans (rf_slicesDeleteFuncstringString _ x0 x1)

/-- (*interrex/group.Groups).Of$1 -/
noncomputable def F_groupGroupsOf1 (Γ : Funs) (x0 x1 x2 : Value) : M Value :=
  bind (ld1 x1) fun v8x1 =>
  bind (nilc v8x1) fun v9x2 =>
  bind (fa 0 v9x2) fun v10x3 =>
  bind (ld1 v10x3) fun v11x4 =>
  bind (lkp .str (.map none) false v11x4 x0) fun v13x5 =>
  bind (ld1 x2) fun v14x6 =>
  bind (lkp .str (.agg #[]) true v13x5 v14x6) fun v15x7 =>
  bind (extr v15x7 0) fun v16x8 =>
  bind (extr v15x7 1) fun v17x9 =>
  bind (alc 1 (.agg #[])) fun v5x10 =>
  bind (lkp .str (.agg #[]) true v13x5 v14x6) fun u_11 => same u_11 v15x7 <|
  bind (ld1 x2) fun u_12 => same u_12 v14x6 <|
  bind (lkp .str (.map none) false v11x4 x0) fun u_13 => same u_13 v13x5 <|
  bind (ld1 v10x3) fun u_14 => same u_14 v11x4 <|
  bind (ld1 x1) fun u_15 => same u_15 v8x1 <|
  bind (stA 0 v5x10 v16x8) fun _ =>
  bind (uop .not v17x9) fun v19x16 =>
  ret v19x16

set_option maxRecDepth 100000 in
theorem rf_groupGroupsOf1 (Γ : Funs) (x0 x1 x2 : Value) : runF Tryz.prog Γ Tryz.f126 lv_groupGroupsOf1 [x0, x1, x2] = F_groupGroupsOf1 Γ x0 x1 x2 := by kernel_rfl

theorem run_groupGroupsOf1 {prim : FuncId → Option (List Value → M Value)} (hp : prim n_groupGroupsOf1 = none) (n : Nat) (x0 x1 x2 : Value) : run Tryz.prog prim lvs (n + 1) n_groupGroupsOf1 [x0, x1, x2] = F_groupGroupsOf1 (run Tryz.prog prim lvs n) x0 x1 x2 :=
  (run_fn hp (by kernel_rfl) Tryz.func126 (by kernel_rfl)).trans (rf_groupGroupsOf1 _ x0 x1 x2)

/-- slices.insertionSortCmpFunc[string]: a round. -/
noncomputable def F_slicesInsertionSortCmpFuncString.l2 (Γ : Funs) (s0 s1 s2 s3 s8 s9 : Value) : M Out :=
  bind (bop .int .gtr s9 s1) fun v20x3 =>
  bind (gateV v20x3 true (ret s3)) fun v22x4 =>
  bind (gateV v20x3 true (ret s0)) fun v23x5 =>
  bind (gateV v20x3 true (ret s9)) fun v24x6 =>
  bind (gateV v20x3 true (ixa 1 v23x5 v24x6)) fun v25x7 =>
  bind (gateV v20x3 true (ld1 v25x7)) fun v26x8 =>
  bind (gateV v20x3 true (ret s0)) fun v27x9 =>
  bind (gateV v20x3 true (ret s9)) fun v28x10 =>
  bind (gateV v20x3 true (bop .int .sub v28x10 (Value.int .i64 1))) fun v29x11 =>
  bind (gateV v20x3 true (ixa 1 v27x9 v29x11)) fun v30x12 =>
  bind (gateV v20x3 true (ld1 v30x12)) fun v31x13 =>
  bind (gateV v20x3 true (callv Γ v22x4 [v26x8, v31x13])) fun v32x14 =>
  bind (gateV v20x3 true (bop .int .lss v32x14 (Value.int .i64 0))) fun v33x15 =>
  bind (pick v20x3 v33x15 (Value.bool false)) fun v34x16 =>
  cnd v34x16
  (bind (bop .int .sub s9 (Value.int .i64 1)) fun v41x17 =>
  bind (bop .int .sub s9 (Value.int .i64 1)) fun v44x18 =>
  bind (ixa 1 s0 v44x18) fun v45x19 =>
  bind (ld1 v45x19) fun v46x20 =>
  bind (ixa 1 s0 s9) fun v49x21 =>
  bind (ld1 v49x21) fun v50x22 =>
  bind (ixa 1 s0 s9) fun v51x23 =>
  bind (st1 v51x23 v46x20) fun _ =>
  bind (ixa 1 s0 v41x17) fun v52x24 =>
  bind (st1 v52x24 v50x22) fun _ =>
  bind (bop .int .sub s9 (Value.int .i64 1)) fun v36x25 =>
  ret (.nrm [s0, s1, s2, s3, s8, v36x25]))
  (ret (.ext 2 [s0, s1, s2, s3, s8]))

/-- slices.insertionSortCmpFunc[string]: a round. -/
noncomputable def F_slicesInsertionSortCmpFuncString.l1 (Γ : Funs) (s0 s1 s2 s3 s8 : Value) : M Out :=
  bind (bop .int .lss s8 s2) fun v14x2 =>
  cnd v14x2
  (jn (loopM (c6 (F_slicesInsertionSortCmpFuncString.l2 Γ)) [s0, s1, s2, s3, s8, s8]) noN (xk 2 (c5 fun q27_0 q27_1 q27_2 q27_3 q27_4 =>
  bind (bop .int .add q27_4 (Value.int .i64 1)) fun v16x28 =>
  ret (.nrm [q27_0, q27_1, q27_2, q27_3, v16x28])) noX) retR)
  (ret (.ext 0 []))

/-- slices.insertionSortCmpFunc[string] -/
noncomputable def F_slicesInsertionSortCmpFuncString (Γ : Funs) (x0 x1 x2 x3 : Value) : M Value :=
  bind (bop .int .add x1 (Value.int .i64 1)) fun v11x1 =>
  jn (loopM (c5 (F_slicesInsertionSortCmpFuncString.l1 Γ)) [x0, x1, x2, x3, v11x1]) noN (xk 0 (c0 (ret (Value.tuple #[]))) noX) ret

set_option maxRecDepth 100000 in
theorem rf_slicesInsertionSortCmpFuncString (Γ : Funs) (x0 x1 x2 x3 : Value) : runF Tryz.prog Γ Tryz.f127 lv_slicesInsertionSortCmpFuncString [x0, x1, x2, x3] = F_slicesInsertionSortCmpFuncString Γ x0 x1 x2 x3 := by kernel_rfl

theorem run_slicesInsertionSortCmpFuncString {prim : FuncId → Option (List Value → M Value)} (hp : prim n_slicesInsertionSortCmpFuncString = none) (n : Nat) (x0 x1 x2 x3 : Value) : run Tryz.prog prim lvs (n + 1) n_slicesInsertionSortCmpFuncString [x0, x1, x2, x3] = F_slicesInsertionSortCmpFuncString (run Tryz.prog prim lvs n) x0 x1 x2 x3 :=
  (run_fn hp (by kernel_rfl) Tryz.func127 (by kernel_rfl)).trans (rf_slicesInsertionSortCmpFuncString _ x0 x1 x2 x3)

/-- slices.heapSortCmpFunc[string]: a round. -/
noncomputable def F_slicesHeapSortCmpFuncString.l1 (Γ : Funs) (s0 s3 s8 s9 s10 s11 : Value) : M Out :=
  bind (bop .int .geq s11 (Value.int .i64 0)) fun v21x4 =>
  cnd v21x4
  (bind (Γ n_slicesSiftDownCmpFuncString [s0, s11, s10, s8, s3]) fun v29x5 =>
  bind (bop .int .sub s11 (Value.int .i64 1)) fun v23x6 =>
  ret (.nrm [s0, s3, s8, s9, s10, v23x6]))
  (ret (.ext 0 [s0, s3, s8, s9, s10]))

/-- slices.heapSortCmpFunc[string]: a round. -/
noncomputable def F_slicesHeapSortCmpFuncString.l2 (Γ : Funs) (s0 s3 s8 s9 s12 : Value) : M Out :=
  bind (bop .int .geq s12 (Value.int .i64 0)) fun v33x10 =>
  cnd v33x10
  (bind (bop .int .add s8 s12) fun v41x11 =>
  bind (bop .int .add s8 s12) fun v45x12 =>
  bind (ixa 1 s0 v45x12) fun v46x13 =>
  bind (ld1 v46x13) fun v47x14 =>
  bind (ixa 1 s0 s8) fun v50x15 =>
  bind (ld1 v50x15) fun v51x16 =>
  bind (ixa 1 s0 s8) fun v52x17 =>
  bind (st1 v52x17 v47x14) fun _ =>
  bind (ixa 1 s0 v41x11) fun v53x18 =>
  bind (st1 v53x18 v51x16) fun _ =>
  bind (Γ n_slicesSiftDownCmpFuncString [s0, s9, s12, s8, s3]) fun v59x19 =>
  bind (bop .int .sub s12 (Value.int .i64 1)) fun v35x20 =>
  ret (.nrm [s0, s3, s8, s9, v35x20]))
  (ret (.ext 2 []))

/-- slices.heapSortCmpFunc[string] -/
noncomputable def F_slicesHeapSortCmpFuncString (Γ : Funs) (x0 x1 x2 x3 : Value) : M Value :=
  bind (bop .int .sub x2 x1) fun v16x1 =>
  bind (bop .int .sub v16x1 (Value.int .i64 1)) fun v18x2 =>
  bind (bop .int .quo v18x2 (Value.int .i64 2)) fun v19x3 =>
  jn (loopM (c6 (F_slicesHeapSortCmpFuncString.l1 Γ)) [x0, x3, x1, (Value.int .i64 0), v16x1, v19x3]) noN (xk 0 (c5 fun q8_0 q8_1 q8_2 q8_3 q8_4 =>
  bind (bop .int .sub q8_4 (Value.int .i64 1)) fun v31x9 =>
  jn (loopM (c5 (F_slicesHeapSortCmpFuncString.l2 Γ)) [q8_0, q8_1, q8_2, q8_3, v31x9]) noN (xk 2 (c0 (ret (Value.tuple #[]))) noX) ret) noX) ret

set_option maxRecDepth 100000 in
theorem rf_slicesHeapSortCmpFuncString (Γ : Funs) (x0 x1 x2 x3 : Value) : runF Tryz.prog Γ Tryz.f128 lv_slicesHeapSortCmpFuncString [x0, x1, x2, x3] = F_slicesHeapSortCmpFuncString Γ x0 x1 x2 x3 := by kernel_rfl

theorem run_slicesHeapSortCmpFuncString {prim : FuncId → Option (List Value → M Value)} (hp : prim n_slicesHeapSortCmpFuncString = none) (n : Nat) (x0 x1 x2 x3 : Value) : run Tryz.prog prim lvs (n + 1) n_slicesHeapSortCmpFuncString [x0, x1, x2, x3] = F_slicesHeapSortCmpFuncString (run Tryz.prog prim lvs n) x0 x1 x2 x3 :=
  (run_fn hp (by kernel_rfl) Tryz.func128 (by kernel_rfl)).trans (rf_slicesHeapSortCmpFuncString _ x0 x1 x2 x3)

/-- slices.breakPatternsCmpFunc[string]: a round. -/
noncomputable def F_slicesBreakPatternsCmpFuncString.l1 (Γ : Funs) (s0 s1 s8 s9 s10 s11 : Value) : M Out :=
  bind (bop .int .quo s8 (Value.int .i64 4)) fun v31x10 =>
  bind (bop .int .mul v31x10 (Value.int .i64 2)) fun v32x11 =>
  bind (bop .int .add s1 v32x11) fun v33x12 =>
  bind (bop .int .add v33x12 (Value.int .i64 1)) fun v34x13 =>
  bind (bop .int .leq s11 v34x13) fun v35x14 =>
  cnd v35x14
  (bind (Γ n_slicesXorshiftNext [s9]) fun v38x15 =>
  bind (bop .int .sub s10 (Value.int .u64 1)) fun v40x16 =>
  bind (bop .int .and v38x15 v40x16) fun v41x17 =>
  bind (cvi .i64 v41x17) fun v42x18 =>
  bind (bop .int .geq v42x18 s8) fun v45x19 =>
  jn (cnd v45x19
  (bind (bop .int .sub v42x18 s8) fun v48x20 =>
  ret (.nrm [s0, s1, s8, s9, s10, s11, v48x20]))
  (ret (.nrm [s0, s1, s8, s9, s10, s11, v42x18]))) (c7 fun q21_0 q21_1 q21_2 q21_3 q21_4 q21_5 q21_6 =>
  bind (bop .int .add q21_1 q21_6) fun v54x22 =>
  bind (bop .int .add q21_1 q21_6) fun v58x23 =>
  bind (ixa 1 q21_0 v58x23) fun v59x24 =>
  bind (ld1 v59x24) fun v60x25 =>
  bind (ixa 1 q21_0 q21_5) fun v63x26 =>
  bind (ld1 v63x26) fun v64x27 =>
  bind (ixa 1 q21_0 q21_5) fun v65x28 =>
  bind (st1 v65x28 v60x25) fun _ =>
  bind (ixa 1 q21_0 v54x22) fun v66x29 =>
  bind (st1 v66x29 v64x27) fun _ =>
  bind (bop .int .add q21_5 (Value.int .i64 1)) fun v37x30 =>
  ret (.nrm [q21_0, q21_1, q21_2, q21_3, q21_4, v37x30])) noX retR)
  (ret (.ext 0 []))

/-- slices.breakPatternsCmpFunc[string] -/
noncomputable def F_slicesBreakPatternsCmpFuncString (Γ : Funs) (x0 x1 x2 x3 : Value) : M Value :=
  bind (bop .int .sub x2 x1) fun v15x1 =>
  bind (bop .int .geq v15x1 (Value.int .i64 8)) fun v17x2 =>
  jn (cnd v17x2
  (bind (cvi .u64 v15x1) fun v19x3 =>
  bind (alc 1 (.int .u64 0)) fun v9x4 =>
  bind (st1 v9x4 v19x3) fun _ =>
  bind (Γ n_slicesNextPowerOfTwo [v15x1]) fun v21x5 =>
  bind (bop .int .quo v15x1 (Value.int .i64 4)) fun v24x6 =>
  bind (bop .int .mul v24x6 (Value.int .i64 2)) fun v25x7 =>
  bind (bop .int .add x1 v25x7) fun v26x8 =>
  bind (bop .int .sub v26x8 (Value.int .i64 1)) fun v27x9 =>
  jn (loopM (c6 (F_slicesBreakPatternsCmpFuncString.l1 Γ)) [x0, x1, v15x1, v9x4, v21x5, v27x9]) noN (xk 0 (c0 (ret (.nrm []))) noX) retR)
  (ret (.nrm []))) (c0 (ret (Value.tuple #[]))) noX ret

set_option maxRecDepth 100000 in
theorem rf_slicesBreakPatternsCmpFuncString (Γ : Funs) (x0 x1 x2 x3 : Value) : runF Tryz.prog Γ Tryz.f129 lv_slicesBreakPatternsCmpFuncString [x0, x1, x2, x3] = F_slicesBreakPatternsCmpFuncString Γ x0 x1 x2 x3 := by kernel_rfl

theorem run_slicesBreakPatternsCmpFuncString {prim : FuncId → Option (List Value → M Value)} (hp : prim n_slicesBreakPatternsCmpFuncString = none) (n : Nat) (x0 x1 x2 x3 : Value) : run Tryz.prog prim lvs (n + 1) n_slicesBreakPatternsCmpFuncString [x0, x1, x2, x3] = F_slicesBreakPatternsCmpFuncString (run Tryz.prog prim lvs n) x0 x1 x2 x3 :=
  (run_fn hp (by kernel_rfl) Tryz.func129 (by kernel_rfl)).trans (rf_slicesBreakPatternsCmpFuncString _ x0 x1 x2 x3)

/-- slices.choosePivotCmpFunc[string] -/
noncomputable def F_slicesChoosePivotCmpFuncString (Γ : Funs) (x0 x1 x2 x3 : Value) : M Value :=
  bind (bop .int .sub x2 x1) fun v17x1 =>
  bind (alc 1 (.int .i64 0)) fun v11x2 =>
  bind (bop .int .quo v17x1 (Value.int .i64 4)) fun v20x3 =>
  bind (bop .int .mul v20x3 (Value.int .i64 1)) fun v21x4 =>
  bind (bop .int .add x1 v21x4) fun v22x5 =>
  bind (bop .int .quo v17x1 (Value.int .i64 4)) fun v25x6 =>
  bind (bop .int .mul v25x6 (Value.int .i64 2)) fun v26x7 =>
  bind (bop .int .add x1 v26x7) fun v27x8 =>
  bind (bop .int .quo v17x1 (Value.int .i64 4)) fun v30x9 =>
  bind (bop .int .mul v30x9 (Value.int .i64 3)) fun v31x10 =>
  bind (bop .int .add x1 v31x10) fun v32x11 =>
  bind (bop .int .geq v17x1 (Value.int .i64 8)) fun v34x12 =>
  jn (cnd v34x12
  (bind (bop .int .geq v17x1 (Value.int .i64 50)) fun v36x13 =>
  jn (cnd v36x13
  (bind (Γ n_slicesMedianAdjacentCmpFuncString [x0, v22x5, v11x2, x3]) fun v40x14 =>
  bind (Γ n_slicesMedianAdjacentCmpFuncString [x0, v27x8, v11x2, x3]) fun v44x15 =>
  bind (Γ n_slicesMedianAdjacentCmpFuncString [x0, v32x11, v11x2, x3]) fun v48x16 =>
  ret (.nrm [x0, x3, v11x2, v40x14, v44x15, v48x16]))
  (ret (.nrm [x0, x3, v11x2, v22x5, v27x8, v32x11]))) (c6 fun q17_0 q17_1 q17_2 q17_3 q17_4 q17_5 =>
  bind (Γ n_slicesMedianCmpFuncString [q17_0, q17_3, q17_4, q17_5, q17_2, q17_1]) fun v54x18 =>
  ret (.nrm [q17_2, v54x18])) noX retR)
  (ret (.nrm [v11x2, v27x8]))) (c2 fun q20_0 q20_1 =>
  bind (ld1 q20_0) fun v55x21 =>
  bind (bop .int .eql v55x21 (Value.int .i64 0)) fun v58x22 =>
  cnd v58x22
  (ret (Value.tuple #[q20_1, (Value.int .i64 1)]))
  (bind (bop .int .eql v55x21 (Value.int .i64 12)) fun v61x23 =>
  cnd v61x23
  (ret (Value.tuple #[q20_1, (Value.int .i64 2)]))
  (ret (Value.tuple #[q20_1, (Value.int .i64 0)])))) noX ret

set_option maxRecDepth 100000 in
theorem rf_slicesChoosePivotCmpFuncString (Γ : Funs) (x0 x1 x2 x3 : Value) : runF Tryz.prog Γ Tryz.f130 lv_slicesChoosePivotCmpFuncString [x0, x1, x2, x3] = F_slicesChoosePivotCmpFuncString Γ x0 x1 x2 x3 := by kernel_rfl

theorem run_slicesChoosePivotCmpFuncString {prim : FuncId → Option (List Value → M Value)} (hp : prim n_slicesChoosePivotCmpFuncString = none) (n : Nat) (x0 x1 x2 x3 : Value) : run Tryz.prog prim lvs (n + 1) n_slicesChoosePivotCmpFuncString [x0, x1, x2, x3] = F_slicesChoosePivotCmpFuncString (run Tryz.prog prim lvs n) x0 x1 x2 x3 :=
  (run_fn hp (by kernel_rfl) Tryz.func130 (by kernel_rfl)).trans (rf_slicesChoosePivotCmpFuncString _ x0 x1 x2 x3)

/-- slices.reverseRangeCmpFunc[string]: a round. -/
noncomputable def F_slicesReverseRangeCmpFuncString.l1 (Γ : Funs) (s0 s8 s9 : Value) : M Out :=
  bind (bop .int .lss s8 s9) fun v15x2 =>
  cnd v15x2
  (bind (ixa 1 s0 s9) fun v22x3 =>
  bind (ld1 v22x3) fun v23x4 =>
  bind (ixa 1 s0 s8) fun v26x5 =>
  bind (ld1 v26x5) fun v27x6 =>
  bind (ixa 1 s0 s8) fun v28x7 =>
  bind (st1 v28x7 v23x4) fun _ =>
  bind (ixa 1 s0 s9) fun v29x8 =>
  bind (st1 v29x8 v27x6) fun _ =>
  bind (bop .int .add s8 (Value.int .i64 1)) fun v31x9 =>
  bind (bop .int .sub s9 (Value.int .i64 1)) fun v33x10 =>
  ret (.nrm [s0, v31x9, v33x10]))
  (ret (.ext 0 []))

/-- slices.reverseRangeCmpFunc[string] -/
noncomputable def F_slicesReverseRangeCmpFuncString (Γ : Funs) (x0 x1 x2 x3 : Value) : M Value :=
  bind (bop .int .sub x2 (Value.int .i64 1)) fun v12x1 =>
  jn (loopM (c3 (F_slicesReverseRangeCmpFuncString.l1 Γ)) [x0, x1, v12x1]) noN (xk 0 (c0 (ret (Value.tuple #[]))) noX) ret

set_option maxRecDepth 100000 in
theorem rf_slicesReverseRangeCmpFuncString (Γ : Funs) (x0 x1 x2 x3 : Value) : runF Tryz.prog Γ Tryz.f131 lv_slicesReverseRangeCmpFuncString [x0, x1, x2, x3] = F_slicesReverseRangeCmpFuncString Γ x0 x1 x2 x3 := by kernel_rfl

theorem run_slicesReverseRangeCmpFuncString {prim : FuncId → Option (List Value → M Value)} (hp : prim n_slicesReverseRangeCmpFuncString = none) (n : Nat) (x0 x1 x2 x3 : Value) : run Tryz.prog prim lvs (n + 1) n_slicesReverseRangeCmpFuncString [x0, x1, x2, x3] = F_slicesReverseRangeCmpFuncString (run Tryz.prog prim lvs n) x0 x1 x2 x3 :=
  (run_fn hp (by kernel_rfl) Tryz.func131 (by kernel_rfl)).trans (rf_slicesReverseRangeCmpFuncString _ x0 x1 x2 x3)

/-- slices.partialInsertionSortCmpFunc[string]: a round. -/
noncomputable def F_slicesPartialInsertionSortCmpFuncString.l2 (Γ : Funs) (s0 s1 s2 s3 s9 s10 : Value) : M Out :=
  bind (bop .int .lss s9 s2) fun v21x3 =>
  bind (gateV v21x3 true (ret s3)) fun v23x4 =>
  bind (gateV v21x3 true (ret s0)) fun v24x5 =>
  bind (gateV v21x3 true (ret s9)) fun v25x6 =>
  bind (gateV v21x3 true (ixa 1 v24x5 v25x6)) fun v26x7 =>
  bind (gateV v21x3 true (ld1 v26x7)) fun v27x8 =>
  bind (gateV v21x3 true (ret s0)) fun v28x9 =>
  bind (gateV v21x3 true (ret s9)) fun v29x10 =>
  bind (gateV v21x3 true (bop .int .sub v29x10 (Value.int .i64 1))) fun v30x11 =>
  bind (gateV v21x3 true (ixa 1 v28x9 v30x11)) fun v31x12 =>
  bind (gateV v21x3 true (ld1 v31x12)) fun v32x13 =>
  bind (gateV v21x3 true (callv Γ v23x4 [v27x8, v32x13])) fun v33x14 =>
  bind (gateV v21x3 true (bop .int .lss v33x14 (Value.int .i64 0))) fun v34x15 =>
  bind (gateV v21x3 true (uop .not v34x15)) fun v35x16 =>
  bind (pick v21x3 v35x16 (Value.bool false)) fun v36x17 =>
  cnd v36x17
  (bind (bop .int .add s9 (Value.int .i64 1)) fun v38x18 =>
  ret (.nrm [s0, s1, s2, s3, v38x18, s10]))
  (ret (.ext 2 [s0, s1, s2, s3, s9, s10]))

/-- slices.partialInsertionSortCmpFunc[string]: a round. -/
noncomputable def F_slicesPartialInsertionSortCmpFuncString.l3 (Γ : Funs) (s0 s1 s2 s3 s9 s10 s11 : Value) : M Out :=
  bind (bop .int .geq s11 (Value.int .i64 1)) fun v69x35 =>
  cnd v69x35
  (bind (ixa 1 s0 s11) fun v75x36 =>
  bind (ld1 v75x36) fun v76x37 =>
  bind (bop .int .sub s11 (Value.int .i64 1)) fun v79x38 =>
  bind (ixa 1 s0 v79x38) fun v80x39 =>
  bind (ld1 v80x39) fun v81x40 =>
  bind (callv Γ s3 [v76x37, v81x40]) fun v82x41 =>
  bind (bop .int .lss v82x41 (Value.int .i64 0)) fun v83x42 =>
  bind (uop .not v83x42) fun v84x43 =>
  cnd v84x43
  (ret (.ext 4 [s0, s1, s2, s3, s9, s10]))
  (bind (bop .int .sub s11 (Value.int .i64 1)) fun v89x44 =>
  bind (bop .int .sub s11 (Value.int .i64 1)) fun v92x45 =>
  bind (ixa 1 s0 v92x45) fun v93x46 =>
  bind (ld1 v93x46) fun v94x47 =>
  bind (ixa 1 s0 s11) fun v97x48 =>
  bind (ld1 v97x48) fun v98x49 =>
  bind (ixa 1 s0 s11) fun v99x50 =>
  bind (st1 v99x50 v94x47) fun _ =>
  bind (ixa 1 s0 v89x44) fun v100x51 =>
  bind (st1 v100x51 v98x49) fun _ =>
  bind (bop .int .sub s11 (Value.int .i64 1)) fun v71x52 =>
  ret (.nrm [s0, s1, s2, s3, s9, s10, v71x52])))
  (ret (.ext 4 [s0, s1, s2, s3, s9, s10]))

/-- slices.partialInsertionSortCmpFunc[string]: a round. -/
noncomputable def F_slicesPartialInsertionSortCmpFuncString.l4 (Γ : Funs) (s0 s1 s2 s3 s9 s10 s12 : Value) : M Out :=
  bind (bop .int .lss s12 s2) fun v109x62 =>
  cnd v109x62
  (bind (ixa 1 s0 s12) fun v115x63 =>
  bind (ld1 v115x63) fun v116x64 =>
  bind (bop .int .sub s12 (Value.int .i64 1)) fun v119x65 =>
  bind (ixa 1 s0 v119x65) fun v120x66 =>
  bind (ld1 v120x66) fun v121x67 =>
  bind (callv Γ s3 [v116x64, v121x67]) fun v122x68 =>
  bind (bop .int .lss v122x68 (Value.int .i64 0)) fun v123x69 =>
  bind (uop .not v123x69) fun v124x70 =>
  cnd v124x70
  (ret (.ext 6 [s0, s1, s2, s3, s9, s10]))
  (bind (bop .int .sub s12 (Value.int .i64 1)) fun v129x71 =>
  bind (bop .int .sub s12 (Value.int .i64 1)) fun v132x72 =>
  bind (ixa 1 s0 v132x72) fun v133x73 =>
  bind (ld1 v133x73) fun v134x74 =>
  bind (ixa 1 s0 s12) fun v137x75 =>
  bind (ld1 v137x75) fun v138x76 =>
  bind (ixa 1 s0 s12) fun v139x77 =>
  bind (st1 v139x77 v134x74) fun _ =>
  bind (ixa 1 s0 v129x71) fun v140x78 =>
  bind (st1 v140x78 v138x76) fun _ =>
  bind (bop .int .add s12 (Value.int .i64 1)) fun v111x79 =>
  ret (.nrm [s0, s1, s2, s3, s9, s10, v111x79])))
  (ret (.ext 6 [s0, s1, s2, s3, s9, s10]))

/-- slices.partialInsertionSortCmpFunc[string]: a round. -/
noncomputable def F_slicesPartialInsertionSortCmpFuncString.l1 (Γ : Funs) (s0 s1 s2 s3 s9 s10 : Value) : M Out :=
  bind (bop .int .lss s10 (Value.int .i64 5)) fun v16x2 =>
  cnd v16x2
  (jn (loopM (c6 (F_slicesPartialInsertionSortCmpFuncString.l2 Γ)) [s0, s1, s2, s3, s9, s10]) noN (xk 2 (c6 fun q20_0 q20_1 q20_2 q20_3 q20_4 q20_5 =>
  bind (bop .int .eql q20_4 q20_2) fun v41x21 =>
  cnd v41x21
  (ret (.ret (Value.bool true)))
  (bind (bop .int .sub q20_2 q20_1) fun v44x22 =>
  bind (bop .int .lss v44x22 (Value.int .i64 50)) fun v45x23 =>
  cnd v45x23
  (ret (.ret (Value.bool false)))
  (bind (bop .int .sub q20_4 (Value.int .i64 1)) fun v50x24 =>
  bind (bop .int .sub q20_4 (Value.int .i64 1)) fun v53x25 =>
  bind (ixa 1 q20_0 v53x25) fun v54x26 =>
  bind (ld1 v54x26) fun v55x27 =>
  bind (ixa 1 q20_0 q20_4) fun v58x28 =>
  bind (ld1 v58x28) fun v59x29 =>
  bind (ixa 1 q20_0 q20_4) fun v60x30 =>
  bind (st1 v60x30 v55x27) fun _ =>
  bind (ixa 1 q20_0 v50x24) fun v61x31 =>
  bind (st1 v61x31 v59x29) fun _ =>
  bind (bop .int .sub q20_4 q20_1) fun v64x32 =>
  bind (bop .int .geq v64x32 (Value.int .i64 2)) fun v65x33 =>
  jn (cnd v65x33
  (bind (bop .int .sub q20_4 (Value.int .i64 1)) fun v67x34 =>
  jn (jn (loopM (c7 (F_slicesPartialInsertionSortCmpFuncString.l3 Γ)) [q20_0, q20_1, q20_2, q20_3, q20_4, q20_5, v67x34]) noN (xk 4 (c6 fun q54_0 q54_1 q54_2 q54_3 q54_4 q54_5 =>
  ret (.nrm [q54_0, q54_1, q54_2, q54_3, q54_4, q54_5])) noX) retR) (c6 fun q56_0 q56_1 q56_2 q56_3 q56_4 q56_5 =>
  ret (.nrm [q56_0, q56_1, q56_2, q56_3, q56_4, q56_5])) noX retR)
  (ret (.nrm [q20_0, q20_1, q20_2, q20_3, q20_4, q20_5]))) (c6 fun q58_0 q58_1 q58_2 q58_3 q58_4 q58_5 =>
  bind (bop .int .sub q58_2 q58_4) fun v103x59 =>
  bind (bop .int .geq v103x59 (Value.int .i64 2)) fun v104x60 =>
  jn (cnd v104x60
  (bind (bop .int .add q58_4 (Value.int .i64 1)) fun v106x61 =>
  jn (jn (loopM (c7 (F_slicesPartialInsertionSortCmpFuncString.l4 Γ)) [q58_0, q58_1, q58_2, q58_3, q58_4, q58_5, v106x61]) noN (xk 6 (c6 fun q81_0 q81_1 q81_2 q81_3 q81_4 q81_5 =>
  ret (.nrm [q81_0, q81_1, q81_2, q81_3, q81_4, q81_5])) noX) retR) (c6 fun q83_0 q83_1 q83_2 q83_3 q83_4 q83_5 =>
  ret (.nrm [q83_0, q83_1, q83_2, q83_3, q83_4, q83_5])) noX retR)
  (ret (.nrm [q58_0, q58_1, q58_2, q58_3, q58_4, q58_5]))) (c6 fun q85_0 q85_1 q85_2 q85_3 q85_4 q85_5 =>
  bind (bop .int .add q85_5 (Value.int .i64 1)) fun v18x86 =>
  ret (.nrm [q85_0, q85_1, q85_2, q85_3, q85_4, v18x86])) noX retR) noX retR))) noX) retR)
  (ret (.ext 0 []))

/-- slices.partialInsertionSortCmpFunc[string] -/
noncomputable def F_slicesPartialInsertionSortCmpFuncString (Γ : Funs) (x0 x1 x2 x3 : Value) : M Value :=
  bind (bop .int .add x1 (Value.int .i64 1)) fun v14x1 =>
  jn (loopM (c6 (F_slicesPartialInsertionSortCmpFuncString.l1 Γ)) [x0, x1, x2, x3, v14x1, (Value.int .i64 0)]) noN (xk 0 (c0 (ret (Value.bool false))) noX) ret

set_option maxRecDepth 100000 in
theorem rf_slicesPartialInsertionSortCmpFuncString (Γ : Funs) (x0 x1 x2 x3 : Value) : runF Tryz.prog Γ Tryz.f132 lv_slicesPartialInsertionSortCmpFuncString [x0, x1, x2, x3] = F_slicesPartialInsertionSortCmpFuncString Γ x0 x1 x2 x3 := by kernel_rfl

theorem run_slicesPartialInsertionSortCmpFuncString {prim : FuncId → Option (List Value → M Value)} (hp : prim n_slicesPartialInsertionSortCmpFuncString = none) (n : Nat) (x0 x1 x2 x3 : Value) : run Tryz.prog prim lvs (n + 1) n_slicesPartialInsertionSortCmpFuncString [x0, x1, x2, x3] = F_slicesPartialInsertionSortCmpFuncString (run Tryz.prog prim lvs n) x0 x1 x2 x3 :=
  (run_fn hp (by kernel_rfl) Tryz.func132 (by kernel_rfl)).trans (rf_slicesPartialInsertionSortCmpFuncString _ x0 x1 x2 x3)

/-- slices.partitionEqualCmpFunc[string]: a round. -/
noncomputable def F_slicesPartitionEqualCmpFuncString.l2 (Γ : Funs) (s0 s1 s4 s11 s12 : Value) : M Out :=
  bind (bop .int .leq s11 s12) fun v33x9 =>
  bind (gateV v33x9 true (ret s4)) fun v35x10 =>
  bind (gateV v33x9 true (ret s0)) fun v36x11 =>
  bind (gateV v33x9 true (ret s1)) fun v37x12 =>
  bind (gateV v33x9 true (ixa 1 v36x11 v37x12)) fun v38x13 =>
  bind (gateV v33x9 true (ld1 v38x13)) fun v39x14 =>
  bind (gateV v33x9 true (ret s0)) fun v40x15 =>
  bind (gateV v33x9 true (ret s11)) fun v41x16 =>
  bind (gateV v33x9 true (ixa 1 v40x15 v41x16)) fun v42x17 =>
  bind (gateV v33x9 true (ld1 v42x17)) fun v43x18 =>
  bind (gateV v33x9 true (callv Γ v35x10 [v39x14, v43x18])) fun v44x19 =>
  bind (gateV v33x9 true (bop .int .lss v44x19 (Value.int .i64 0))) fun v45x20 =>
  bind (gateV v33x9 true (uop .not v45x20)) fun v46x21 =>
  bind (pick v33x9 v46x21 (Value.bool false)) fun v47x22 =>
  cnd v47x22
  (bind (bop .int .add s11 (Value.int .i64 1)) fun v49x23 =>
  ret (.nrm [s0, s1, s4, v49x23, s12]))
  (ret (.ext 2 [s0, s1, s4, s11, s12]))

/-- slices.partitionEqualCmpFunc[string]: a round. -/
noncomputable def F_slicesPartitionEqualCmpFuncString.l3 (Γ : Funs) (s0 s1 s4 s11 s12 : Value) : M Out :=
  bind (bop .int .leq s11 s12) fun v52x26 =>
  bind (gateV v52x26 true (ret s4)) fun v54x27 =>
  bind (gateV v52x26 true (ret s0)) fun v55x28 =>
  bind (gateV v52x26 true (ret s1)) fun v56x29 =>
  bind (gateV v52x26 true (ixa 1 v55x28 v56x29)) fun v57x30 =>
  bind (gateV v52x26 true (ld1 v57x30)) fun v58x31 =>
  bind (gateV v52x26 true (ret s0)) fun v59x32 =>
  bind (gateV v52x26 true (ret s12)) fun v60x33 =>
  bind (gateV v52x26 true (ixa 1 v59x32 v60x33)) fun v61x34 =>
  bind (gateV v52x26 true (ld1 v61x34)) fun v62x35 =>
  bind (gateV v52x26 true (callv Γ v54x27 [v58x31, v62x35])) fun v63x36 =>
  bind (gateV v52x26 true (bop .int .lss v63x36 (Value.int .i64 0))) fun v64x37 =>
  bind (pick v52x26 v64x37 (Value.bool false)) fun v65x38 =>
  cnd v65x38
  (bind (bop .int .sub s12 (Value.int .i64 1)) fun v67x39 =>
  ret (.nrm [s0, s1, s4, s11, v67x39]))
  (ret (.ext 4 [s0, s1, s4, s11, s12]))

/-- slices.partitionEqualCmpFunc[string]: a round. -/
noncomputable def F_slicesPartitionEqualCmpFuncString.l1 (Γ : Funs) (s0 s1 s4 s11 s12 : Value) : M Out :=
  jn (loopM (c5 (F_slicesPartitionEqualCmpFuncString.l2 Γ)) [s0, s1, s4, s11, s12]) noN (xk 2 (c5 fun q25_0 q25_1 q25_2 q25_3 q25_4 =>
  jn (loopM (c5 (F_slicesPartitionEqualCmpFuncString.l3 Γ)) [q25_0, q25_1, q25_2, q25_3, q25_4]) noN (xk 4 (c5 fun q41_0 q41_1 q41_2 q41_3 q41_4 =>
  bind (bop .int .gtr q41_3 q41_4) fun v70x42 =>
  cnd v70x42
  (ret (.ext 0 [q41_3]))
  (bind (ixa 1 q41_0 q41_4) fun v77x43 =>
  bind (ld1 v77x43) fun v78x44 =>
  bind (ixa 1 q41_0 q41_3) fun v81x45 =>
  bind (ld1 v81x45) fun v82x46 =>
  bind (ixa 1 q41_0 q41_3) fun v83x47 =>
  bind (st1 v83x47 v78x44) fun _ =>
  bind (ixa 1 q41_0 q41_4) fun v84x48 =>
  bind (st1 v84x48 v82x46) fun _ =>
  bind (bop .int .add q41_3 (Value.int .i64 1)) fun v86x49 =>
  bind (bop .int .sub q41_4 (Value.int .i64 1)) fun v88x50 =>
  ret (.nrm [q41_0, q41_1, q41_2, v86x49, v88x50]))) noX) retR) noX) retR

/-- slices.partitionEqualCmpFunc[string] -/
noncomputable def F_slicesPartitionEqualCmpFuncString (Γ : Funs) (x0 x1 x2 x3 x4 : Value) : M Value :=
  bind (ixa 1 x0 x3) fun v19x1 =>
  bind (ld1 v19x1) fun v20x2 =>
  bind (ixa 1 x0 x1) fun v23x3 =>
  bind (ld1 v23x3) fun v24x4 =>
  bind (ixa 1 x0 x1) fun v25x5 =>
  bind (st1 v25x5 v20x2) fun _ =>
  bind (ixa 1 x0 x3) fun v26x6 =>
  bind (st1 v26x6 v24x4) fun _ =>
  bind (bop .int .add x1 (Value.int .i64 1)) fun v28x7 =>
  bind (bop .int .sub x2 (Value.int .i64 1)) fun v30x8 =>
  jn (loopM (c5 (F_slicesPartitionEqualCmpFuncString.l1 Γ)) [x0, x1, x4, v28x7, v30x8]) noN (xk 0 (c1 fun q54_0 =>
  ret q54_0) noX) ret

set_option maxRecDepth 100000 in
theorem rf_slicesPartitionEqualCmpFuncString (Γ : Funs) (x0 x1 x2 x3 x4 : Value) : runF Tryz.prog Γ Tryz.f133 lv_slicesPartitionEqualCmpFuncString [x0, x1, x2, x3, x4] = F_slicesPartitionEqualCmpFuncString Γ x0 x1 x2 x3 x4 := by kernel_rfl

theorem run_slicesPartitionEqualCmpFuncString {prim : FuncId → Option (List Value → M Value)} (hp : prim n_slicesPartitionEqualCmpFuncString = none) (n : Nat) (x0 x1 x2 x3 x4 : Value) : run Tryz.prog prim lvs (n + 1) n_slicesPartitionEqualCmpFuncString [x0, x1, x2, x3, x4] = F_slicesPartitionEqualCmpFuncString (run Tryz.prog prim lvs n) x0 x1 x2 x3 x4 :=
  (run_fn hp (by kernel_rfl) Tryz.func133 (by kernel_rfl)).trans (rf_slicesPartitionEqualCmpFuncString _ x0 x1 x2 x3 x4)

/-- slices.partitionCmpFunc[string]: a round. -/
noncomputable def F_slicesPartitionCmpFuncString.l1 (Γ : Funs) (s0 s1 s4 s12 s13 : Value) : M Out :=
  bind (bop .int .leq s12 s13) fun v34x9 =>
  bind (gateV v34x9 true (ret s4)) fun v36x10 =>
  bind (gateV v34x9 true (ret s0)) fun v37x11 =>
  bind (gateV v34x9 true (ret s12)) fun v38x12 =>
  bind (gateV v34x9 true (ixa 1 v37x11 v38x12)) fun v39x13 =>
  bind (gateV v34x9 true (ld1 v39x13)) fun v40x14 =>
  bind (gateV v34x9 true (ret s0)) fun v41x15 =>
  bind (gateV v34x9 true (ret s1)) fun v42x16 =>
  bind (gateV v34x9 true (ixa 1 v41x15 v42x16)) fun v43x17 =>
  bind (gateV v34x9 true (ld1 v43x17)) fun v44x18 =>
  bind (gateV v34x9 true (callv Γ v36x10 [v40x14, v44x18])) fun v45x19 =>
  bind (gateV v34x9 true (bop .int .lss v45x19 (Value.int .i64 0))) fun v46x20 =>
  bind (pick v34x9 v46x20 (Value.bool false)) fun v47x21 =>
  cnd v47x21
  (bind (bop .int .add s12 (Value.int .i64 1)) fun v49x22 =>
  ret (.nrm [s0, s1, s4, v49x22, s13]))
  (ret (.ext 0 [s0, s1, s4, s12, s13]))

/-- slices.partitionCmpFunc[string]: a round. -/
noncomputable def F_slicesPartitionCmpFuncString.l2 (Γ : Funs) (s0 s1 s4 s12 s13 : Value) : M Out :=
  bind (bop .int .leq s12 s13) fun v52x25 =>
  bind (gateV v52x25 true (ret s4)) fun v54x26 =>
  bind (gateV v52x25 true (ret s0)) fun v55x27 =>
  bind (gateV v52x25 true (ret s13)) fun v56x28 =>
  bind (gateV v52x25 true (ixa 1 v55x27 v56x28)) fun v57x29 =>
  bind (gateV v52x25 true (ld1 v57x29)) fun v58x30 =>
  bind (gateV v52x25 true (ret s0)) fun v59x31 =>
  bind (gateV v52x25 true (ret s1)) fun v60x32 =>
  bind (gateV v52x25 true (ixa 1 v59x31 v60x32)) fun v61x33 =>
  bind (gateV v52x25 true (ld1 v61x33)) fun v62x34 =>
  bind (gateV v52x25 true (callv Γ v54x26 [v58x30, v62x34])) fun v63x35 =>
  bind (gateV v52x25 true (bop .int .lss v63x35 (Value.int .i64 0))) fun v64x36 =>
  bind (gateV v52x25 true (uop .not v64x36)) fun v65x37 =>
  bind (pick v52x25 v65x37 (Value.bool false)) fun v66x38 =>
  cnd v66x38
  (bind (bop .int .sub s13 (Value.int .i64 1)) fun v68x39 =>
  ret (.nrm [s0, s1, s4, s12, v68x39]))
  (ret (.ext 2 [s0, s1, s4, s12, s13]))

/-- slices.partitionCmpFunc[string]: a round. -/
noncomputable def F_slicesPartitionCmpFuncString.l4 (Γ : Funs) (s0 s1 s4 s12 s13 : Value) : M Out :=
  bind (bop .int .leq s12 s13) fun v107x57 =>
  bind (gateV v107x57 true (ret s4)) fun v109x58 =>
  bind (gateV v107x57 true (ret s0)) fun v110x59 =>
  bind (gateV v107x57 true (ret s12)) fun v111x60 =>
  bind (gateV v107x57 true (ixa 1 v110x59 v111x60)) fun v112x61 =>
  bind (gateV v107x57 true (ld1 v112x61)) fun v113x62 =>
  bind (gateV v107x57 true (ret s0)) fun v114x63 =>
  bind (gateV v107x57 true (ret s1)) fun v115x64 =>
  bind (gateV v107x57 true (ixa 1 v114x63 v115x64)) fun v116x65 =>
  bind (gateV v107x57 true (ld1 v116x65)) fun v117x66 =>
  bind (gateV v107x57 true (callv Γ v109x58 [v113x62, v117x66])) fun v118x67 =>
  bind (gateV v107x57 true (bop .int .lss v118x67 (Value.int .i64 0))) fun v119x68 =>
  bind (pick v107x57 v119x68 (Value.bool false)) fun v120x69 =>
  cnd v120x69
  (bind (bop .int .add s12 (Value.int .i64 1)) fun v122x70 =>
  ret (.nrm [s0, s1, s4, v122x70, s13]))
  (ret (.ext 6 [s0, s1, s4, s12, s13]))

/-- slices.partitionCmpFunc[string]: a round. -/
noncomputable def F_slicesPartitionCmpFuncString.l5 (Γ : Funs) (s0 s1 s4 s12 s13 : Value) : M Out :=
  bind (bop .int .leq s12 s13) fun v125x73 =>
  bind (gateV v125x73 true (ret s4)) fun v127x74 =>
  bind (gateV v125x73 true (ret s0)) fun v128x75 =>
  bind (gateV v125x73 true (ret s13)) fun v129x76 =>
  bind (gateV v125x73 true (ixa 1 v128x75 v129x76)) fun v130x77 =>
  bind (gateV v125x73 true (ld1 v130x77)) fun v131x78 =>
  bind (gateV v125x73 true (ret s0)) fun v132x79 =>
  bind (gateV v125x73 true (ret s1)) fun v133x80 =>
  bind (gateV v125x73 true (ixa 1 v132x79 v133x80)) fun v134x81 =>
  bind (gateV v125x73 true (ld1 v134x81)) fun v135x82 =>
  bind (gateV v125x73 true (callv Γ v127x74 [v131x78, v135x82])) fun v136x83 =>
  bind (gateV v125x73 true (bop .int .lss v136x83 (Value.int .i64 0))) fun v137x84 =>
  bind (gateV v125x73 true (uop .not v137x84)) fun v138x85 =>
  bind (pick v125x73 v138x85 (Value.bool false)) fun v139x86 =>
  cnd v139x86
  (bind (bop .int .sub s13 (Value.int .i64 1)) fun v141x87 =>
  ret (.nrm [s0, s1, s4, s12, v141x87]))
  (ret (.ext 8 [s0, s1, s4, s12, s13]))

/-- slices.partitionCmpFunc[string]: a round. -/
noncomputable def F_slicesPartitionCmpFuncString.l3 (Γ : Funs) (s0 s1 s4 s12 s13 : Value) : M Out :=
  jn (loopM (c5 (F_slicesPartitionCmpFuncString.l4 Γ)) [s0, s1, s4, s12, s13]) noN (xk 6 (c5 fun q72_0 q72_1 q72_2 q72_3 q72_4 =>
  jn (loopM (c5 (F_slicesPartitionCmpFuncString.l5 Γ)) [q72_0, q72_1, q72_2, q72_3, q72_4]) noN (xk 8 (c5 fun q89_0 q89_1 q89_2 q89_3 q89_4 =>
  bind (bop .int .gtr q89_3 q89_4) fun v144x90 =>
  cnd v144x90
  (ret (.ext 4 [q89_0, q89_1, q89_4]))
  (bind (ixa 1 q89_0 q89_4) fun v151x91 =>
  bind (ld1 v151x91) fun v152x92 =>
  bind (ixa 1 q89_0 q89_3) fun v155x93 =>
  bind (ld1 v155x93) fun v156x94 =>
  bind (ixa 1 q89_0 q89_3) fun v157x95 =>
  bind (st1 v157x95 v152x92) fun _ =>
  bind (ixa 1 q89_0 q89_4) fun v158x96 =>
  bind (st1 v158x96 v156x94) fun _ =>
  bind (bop .int .add q89_3 (Value.int .i64 1)) fun v160x97 =>
  bind (bop .int .sub q89_4 (Value.int .i64 1)) fun v162x98 =>
  ret (.nrm [q89_0, q89_1, q89_2, v160x97, v162x98]))) noX) retR) noX) retR

/-- slices.partitionCmpFunc[string] -/
noncomputable def F_slicesPartitionCmpFuncString (Γ : Funs) (x0 x1 x2 x3 x4 : Value) : M Value :=
  bind (ixa 1 x0 x3) fun v20x1 =>
  bind (ld1 v20x1) fun v21x2 =>
  bind (ixa 1 x0 x1) fun v24x3 =>
  bind (ld1 v24x3) fun v25x4 =>
  bind (ixa 1 x0 x1) fun v26x5 =>
  bind (st1 v26x5 v21x2) fun _ =>
  bind (ixa 1 x0 x3) fun v27x6 =>
  bind (st1 v27x6 v25x4) fun _ =>
  bind (bop .int .add x1 (Value.int .i64 1)) fun v29x7 =>
  bind (bop .int .sub x2 (Value.int .i64 1)) fun v31x8 =>
  jn (loopM (c5 (F_slicesPartitionCmpFuncString.l1 Γ)) [x0, x1, x4, v29x7, v31x8]) noN (xk 0 (c5 fun q24_0 q24_1 q24_2 q24_3 q24_4 =>
  jn (loopM (c5 (F_slicesPartitionCmpFuncString.l2 Γ)) [q24_0, q24_1, q24_2, q24_3, q24_4]) noN (xk 2 (c5 fun q41_0 q41_1 q41_2 q41_3 q41_4 =>
  bind (bop .int .gtr q41_3 q41_4) fun v71x42 =>
  cnd v71x42
  (bind (ixa 1 q41_0 q41_1) fun v78x43 =>
  bind (ld1 v78x43) fun v79x44 =>
  bind (ixa 1 q41_0 q41_4) fun v82x45 =>
  bind (ld1 v82x45) fun v83x46 =>
  bind (ixa 1 q41_0 q41_4) fun v84x47 =>
  bind (st1 v84x47 v79x44) fun _ =>
  bind (ixa 1 q41_0 q41_1) fun v85x48 =>
  bind (st1 v85x48 v83x46) fun _ =>
  ret (Value.tuple #[q41_4, (Value.bool true)]))
  (bind (ixa 1 q41_0 q41_4) fun v93x49 =>
  bind (ld1 v93x49) fun v94x50 =>
  bind (ixa 1 q41_0 q41_3) fun v97x51 =>
  bind (ld1 v97x51) fun v98x52 =>
  bind (ixa 1 q41_0 q41_3) fun v99x53 =>
  bind (st1 v99x53 v94x50) fun _ =>
  bind (ixa 1 q41_0 q41_4) fun v100x54 =>
  bind (st1 v100x54 v98x52) fun _ =>
  bind (bop .int .add q41_3 (Value.int .i64 1)) fun v102x55 =>
  bind (bop .int .sub q41_4 (Value.int .i64 1)) fun v104x56 =>
  jn (loopM (c5 (F_slicesPartitionCmpFuncString.l3 Γ)) [q41_0, q41_1, q41_2, v102x55, v104x56]) noN (xk 4 (c3 fun q102_0 q102_1 q102_2 =>
  bind (ixa 1 q102_0 q102_1) fun v169x103 =>
  bind (ld1 v169x103) fun v170x104 =>
  bind (ixa 1 q102_0 q102_2) fun v173x105 =>
  bind (ld1 v173x105) fun v174x106 =>
  bind (ixa 1 q102_0 q102_2) fun v175x107 =>
  bind (st1 v175x107 v170x104) fun _ =>
  bind (ixa 1 q102_0 q102_1) fun v176x108 =>
  bind (st1 v176x108 v174x106) fun _ =>
  ret (Value.tuple #[q102_2, (Value.bool false)])) noX) ret)) noX) ret) noX) ret

set_option maxRecDepth 100000 in
theorem rf_slicesPartitionCmpFuncString (Γ : Funs) (x0 x1 x2 x3 x4 : Value) : runF Tryz.prog Γ Tryz.f134 lv_slicesPartitionCmpFuncString [x0, x1, x2, x3, x4] = F_slicesPartitionCmpFuncString Γ x0 x1 x2 x3 x4 := by kernel_rfl

theorem run_slicesPartitionCmpFuncString {prim : FuncId → Option (List Value → M Value)} (hp : prim n_slicesPartitionCmpFuncString = none) (n : Nat) (x0 x1 x2 x3 x4 : Value) : run Tryz.prog prim lvs (n + 1) n_slicesPartitionCmpFuncString [x0, x1, x2, x3, x4] = F_slicesPartitionCmpFuncString (run Tryz.prog prim lvs n) x0 x1 x2 x3 x4 :=
  (run_fn hp (by kernel_rfl) Tryz.func134 (by kernel_rfl)).trans (rf_slicesPartitionCmpFuncString _ x0 x1 x2 x3 x4)

/-- math/bits.Len32 -/
noncomputable def F_mathBitsLen32 (Γ : Funs) (x0 : Value) : M Value :=
  bind (bop .int .geq x0 (Value.int .u32 65536)) fun v4x1 =>
  jn (cnd v4x1
  (bind (bop .int .shr x0 (Value.int .u64 16)) fun v6x2 =>
  ret (.nrm [v6x2, (Value.int .i64 16)]))
  (ret (.nrm [x0, (Value.int .i64 0)]))) (c2 fun q3_0 q3_1 =>
  bind (bop .int .geq q3_0 (Value.int .u32 256)) fun v8x4 =>
  jn (cnd v8x4
  (bind (bop .int .shr q3_0 (Value.int .u64 8)) fun v10x5 =>
  bind (bop .int .add q3_1 (Value.int .i64 8)) fun v12x6 =>
  ret (.nrm [v10x5, v12x6]))
  (ret (.nrm [q3_0, q3_1]))) (c2 fun q7_0 q7_1 =>
  bind (cvi .u8 q7_0) fun v15x8 =>
  bind (ixs (Value.string ⟨#[0, 1, 2, 2, 3, 3, 3, 3, 4, 4, 4, 4, 4, 4, 4, 4, 5, 5, 5, 5, 5, 5, 5, 5, 5, 5, 5, 5, 5, 5, 5, 5, 6, 6, 6, 6, 6, 6, 6, 6, 6, 6, 6, 6, 6, 6, 6, 6, 6, 6, 6, 6, 6, 6, 6, 6, 6, 6, 6, 6, 6, 6, 6, 6, 7, 7, 7, 7, 7, 7, 7, 7, 7, 7, 7, 7, 7, 7, 7, 7, 7, 7, 7, 7, 7, 7, 7, 7, 7, 7, 7, 7, 7, 7, 7, 7, 7, 7, 7, 7, 7, 7, 7, 7, 7, 7, 7, 7, 7, 7, 7, 7, 7, 7, 7, 7, 7, 7, 7, 7, 7, 7, 7, 7, 7, 7, 7, 7, 8, 8, 8, 8, 8, 8, 8, 8, 8, 8, 8, 8, 8, 8, 8, 8, 8, 8, 8, 8, 8, 8, 8, 8, 8, 8, 8, 8, 8, 8, 8, 8, 8, 8, 8, 8, 8, 8, 8, 8, 8, 8, 8, 8, 8, 8, 8, 8, 8, 8, 8, 8, 8, 8, 8, 8, 8, 8, 8, 8, 8, 8, 8, 8, 8, 8, 8, 8, 8, 8, 8, 8, 8, 8, 8, 8, 8, 8, 8, 8, 8, 8, 8, 8, 8, 8, 8, 8, 8, 8, 8, 8, 8, 8, 8, 8, 8, 8, 8, 8, 8, 8, 8, 8, 8, 8, 8, 8, 8, 8, 8, 8, 8, 8, 8, 8, 8, 8, 8, 8, 8, 8, 8, 8, 8, 8, 8, 8]⟩) v15x8) fun v16x9 =>
  bind (cvi .i64 v16x9) fun v17x10 =>
  bind (bop .int .add q7_1 v17x10) fun v18x11 =>
  ret v18x11) noX ret) noX ret

set_option maxRecDepth 100000 in
theorem rf_mathBitsLen32 (Γ : Funs) (x0 : Value) : runF Tryz.prog Γ Tryz.f135 lv_mathBitsLen32 [x0] = F_mathBitsLen32 Γ x0 := by kernel_rfl

theorem run_mathBitsLen32 {prim : FuncId → Option (List Value → M Value)} (hp : prim n_mathBitsLen32 = none) (n : Nat) (x0 : Value) : run Tryz.prog prim lvs (n + 1) n_mathBitsLen32 [x0] = F_mathBitsLen32 (run Tryz.prog prim lvs n) x0 :=
  (run_fn hp (by kernel_rfl) Tryz.func135 (by kernel_rfl)).trans (rf_mathBitsLen32 _ x0)

/-- math/bits.Len64 -/
noncomputable def F_mathBitsLen64 (Γ : Funs) (x0 : Value) : M Value :=
  bind (bop .int .geq x0 (Value.int .u64 4294967296)) fun v4x1 =>
  jn (cnd v4x1
  (bind (bop .int .shr x0 (Value.int .u64 32)) fun v6x2 =>
  ret (.nrm [v6x2, (Value.int .i64 32)]))
  (ret (.nrm [x0, (Value.int .i64 0)]))) (c2 fun q3_0 q3_1 =>
  bind (bop .int .geq q3_0 (Value.int .u64 65536)) fun v8x4 =>
  jn (cnd v8x4
  (bind (bop .int .shr q3_0 (Value.int .u64 16)) fun v10x5 =>
  bind (bop .int .add q3_1 (Value.int .i64 16)) fun v12x6 =>
  ret (.nrm [v10x5, v12x6]))
  (ret (.nrm [q3_0, q3_1]))) (c2 fun q7_0 q7_1 =>
  bind (bop .int .geq q7_0 (Value.int .u64 256)) fun v14x8 =>
  jn (cnd v14x8
  (bind (bop .int .shr q7_0 (Value.int .u64 8)) fun v16x9 =>
  bind (bop .int .add q7_1 (Value.int .i64 8)) fun v18x10 =>
  ret (.nrm [v16x9, v18x10]))
  (ret (.nrm [q7_0, q7_1]))) (c2 fun q11_0 q11_1 =>
  bind (cvi .u8 q11_0) fun v21x12 =>
  bind (ixs (Value.string ⟨#[0, 1, 2, 2, 3, 3, 3, 3, 4, 4, 4, 4, 4, 4, 4, 4, 5, 5, 5, 5, 5, 5, 5, 5, 5, 5, 5, 5, 5, 5, 5, 5, 6, 6, 6, 6, 6, 6, 6, 6, 6, 6, 6, 6, 6, 6, 6, 6, 6, 6, 6, 6, 6, 6, 6, 6, 6, 6, 6, 6, 6, 6, 6, 6, 7, 7, 7, 7, 7, 7, 7, 7, 7, 7, 7, 7, 7, 7, 7, 7, 7, 7, 7, 7, 7, 7, 7, 7, 7, 7, 7, 7, 7, 7, 7, 7, 7, 7, 7, 7, 7, 7, 7, 7, 7, 7, 7, 7, 7, 7, 7, 7, 7, 7, 7, 7, 7, 7, 7, 7, 7, 7, 7, 7, 7, 7, 7, 7, 8, 8, 8, 8, 8, 8, 8, 8, 8, 8, 8, 8, 8, 8, 8, 8, 8, 8, 8, 8, 8, 8, 8, 8, 8, 8, 8, 8, 8, 8, 8, 8, 8, 8, 8, 8, 8, 8, 8, 8, 8, 8, 8, 8, 8, 8, 8, 8, 8, 8, 8, 8, 8, 8, 8, 8, 8, 8, 8, 8, 8, 8, 8, 8, 8, 8, 8, 8, 8, 8, 8, 8, 8, 8, 8, 8, 8, 8, 8, 8, 8, 8, 8, 8, 8, 8, 8, 8, 8, 8, 8, 8, 8, 8, 8, 8, 8, 8, 8, 8, 8, 8, 8, 8, 8, 8, 8, 8, 8, 8, 8, 8, 8, 8, 8, 8, 8, 8, 8, 8, 8, 8, 8, 8, 8, 8, 8, 8]⟩) v21x12) fun v22x13 =>
  bind (cvi .i64 v22x13) fun v23x14 =>
  bind (bop .int .add q11_1 v23x14) fun v24x15 =>
  ret v24x15) noX ret) noX ret) noX ret

set_option maxRecDepth 100000 in
theorem rf_mathBitsLen64 (Γ : Funs) (x0 : Value) : runF Tryz.prog Γ Tryz.f136 lv_mathBitsLen64 [x0] = F_mathBitsLen64 Γ x0 := by kernel_rfl

theorem run_mathBitsLen64 {prim : FuncId → Option (List Value → M Value)} (hp : prim n_mathBitsLen64 = none) (n : Nat) (x0 : Value) : run Tryz.prog prim lvs (n + 1) n_mathBitsLen64 [x0] = F_mathBitsLen64 (run Tryz.prog prim lvs n) x0 :=
  (run_fn hp (by kernel_rfl) Tryz.func136 (by kernel_rfl)).trans (rf_mathBitsLen64 _ x0)

/-- internal/stringslite.Index: a round. -/
noncomputable def F_internalStringsliteIndex.l1 (Γ : Funs) (s0 s1 s5 s6 s7 s8 s9 s10 : Value) : M Out :=
  bind (bop .int .lss s8 s9) fun v59x23 =>
  cnd v59x23
  (bind (ixs s0 s8) fun v62x24 =>
  bind (bop .int .neq v62x24 s6) fun v64x25 =>
  jn (cnd v64x25
  (bind (bop .int .add s8 (Value.int .i64 1)) fun v67x26 =>
  bind (sls s0 (some v67x26) (some s9)) fun v69x27 =>
  bind (Γ n_internalStringsliteIndexByte [v69x27, s6]) fun v71x28 =>
  bind (bop .int .lss v71x28 (Value.int .i64 0)) fun v73x29 =>
  cnd v73x29
  (ret (.ret (Value.int .i64 (-1))))
  (bind (bop .int .add v71x28 (Value.int .i64 1)) fun v76x30 =>
  bind (bop .int .add s8 v76x30) fun v77x31 =>
  ret (.nrm [s0, s1, s5, s6, s7, v77x31, s9, s10])))
  (ret (.nrm [s0, s1, s5, s6, s7, s8, s9, s10]))) (c8 fun q32_0 q32_1 q32_2 q32_3 q32_4 q32_5 q32_6 q32_7 =>
  bind (bop .int .add q32_5 (Value.int .i64 1)) fun v80x33 =>
  bind (ixs q32_0 v80x33) fun v81x34 =>
  bind (bop .int .eql v81x34 q32_4) fun v83x35 =>
  bind (gate v83x35 true 8 (bind (bop .int .add q32_5 q32_2) fun v89x36 =>
  bind (sls q32_0 (some q32_5) (some v89x36)) fun v90x37 =>
  bind (bop .str .eql v90x37 q32_1) fun v92x38 =>
  ret [q32_0, q32_5, q32_5, q32_2, v89x36, v90x37, q32_1, v92x38])) (c8 fun _ _ _ _ _ _ _ q39_7 =>
  bind (pick v83x35 q39_7 (Value.bool false)) fun v93x40 =>
  cnd v93x40
  (ret (.ret q32_5))
  (bind (bop .int .add q32_5 (Value.int .i64 1)) fun v96x41 =>
  bind (bop .int .add q32_7 (Value.int .i64 1)) fun v98x42 =>
  bind (ld1 (Value.pointer (some ⟨0, 0, none⟩))) fun v100x43 =>
  bind (bop .int .leq q32_2 v100x43) fun v101x44 =>
  bind (gate v101x44 true 4 (bind (Γ n_internalBytealgCutover [v96x41]) fun v105x45 =>
  bind (bop .int .gtr v98x42 v105x45) fun v106x46 =>
  ret [v98x42, v96x41, v105x45, v106x46])) (c4 fun _ _ _ q47_3 =>
  bind (pick v101x44 q47_3 (Value.bool false)) fun v107x48 =>
  cnd v107x48
  (bind (sls q32_0 (some v96x41) none) fun v110x49 =>
  bind (Γ n_internalBytealgIndexString [v110x49, q32_1]) fun v112x50 =>
  bind (bop .int .geq v112x50 (Value.int .i64 0)) fun v114x51 =>
  cnd v114x51
  (bind (bop .int .add v112x50 v96x41) fun v117x52 =>
  ret (.ret v117x52))
  (ret (.ret (Value.int .i64 (-1)))))
  (bind (ld1 (Value.pointer (some ⟨0, 0, none⟩))) fun v119x53 =>
  bind (bop .int .gtr q32_2 v119x53) fun v120x54 =>
  bind (gate v120x54 true 5 (bind (bop .int .shr v96x41 (Value.int .u64 4)) fun v124x55 =>
  bind (bop .int .add (Value.int .i64 4) v124x55) fun v125x56 =>
  bind (bop .int .geq v98x42 v125x56) fun v126x57 =>
  ret [v98x42, v96x41, v124x55, v125x56, v126x57])) (c5 fun _ _ _ _ q58_4 =>
  bind (pick v120x54 q58_4 (Value.bool false)) fun v127x59 =>
  bind (gate v127x59 true 3 (bind (bop .int .lss v96x41 q32_6) fun v131x60 =>
  ret [v96x41, q32_6, v131x60])) (c3 fun _ _ q61_2 =>
  bind (pick v127x59 q61_2 (Value.bool false)) fun v132x62 =>
  cnd v132x62
  (bind (sls q32_0 (some v96x41) none) fun v135x63 =>
  bind (Γ n_internalBytealgIndexRabinKarpString [v135x63, q32_1]) fun v137x64 =>
  bind (bop .int .lss v137x64 (Value.int .i64 0)) fun v139x65 =>
  cnd v139x65
  (ret (.ret (Value.int .i64 (-1))))
  (bind (bop .int .add v96x41 v137x64) fun v142x66 =>
  ret (.ret v142x66)))
  (ret (.nrm [q32_0, q32_1, q32_2, q32_3, q32_4, v96x41, q32_6, v98x42]))))))))) noX retR)
  (ret (.ext 1 []))

/-- internal/stringslite.Index -/
noncomputable def F_internalStringsliteIndex (Γ : Funs) (x0 x1 : Value) : M Value :=
  bind (lenT x1) fun v15x1 =>
  bind (bop .int .eql v15x1 (Value.int .i64 0)) fun v18x2 =>
  bind (gate v18x2 false 3 (bind (bop .str .eql x1 x0) fun v22x3 =>
  ret [x1, x0, v22x3])) (c3 fun _ _ q4_2 =>
  bind (pick v18x2 (Value.bool true) q4_2) fun v23x5 =>
  cnd v23x5
  (ret (Value.int .i64 0))
  (bind (bop .int .eql v15x1 (Value.int .i64 1)) fun v26x6 =>
  cnd v26x6
  (bind (ixs x1 (Value.int .i64 0)) fun v29x7 =>
  bind (Γ n_internalStringsliteIndexByte [x0, v29x7]) fun v30x8 =>
  ret v30x8)
  (bind (lenT x0) fun v34x9 =>
  bind (bop .int .geq v15x1 v34x9) fun v35x10 =>
  cnd v35x10
  (ret (Value.int .i64 (-1)))
  (bind (ld1 (Value.pointer (some ⟨0, 0, none⟩))) fun v38x11 =>
  bind (bop .int .leq v15x1 v38x11) fun v39x12 =>
  bind (gate v39x12 true 3 (bind (lenT x0) fun v42x13 =>
  bind (bop .int .leq v42x13 (Value.int .i64 64)) fun v43x14 =>
  ret [x0, v42x13, v43x14])) (c3 fun _ _ q15_2 =>
  bind (pick v39x12 q15_2 (Value.bool false)) fun v44x16 =>
  cnd v44x16
  (bind (Γ n_internalBytealgIndexString [x0, x1]) fun v47x17 =>
  ret v47x17)
  (bind (ixs x1 (Value.int .i64 0)) fun v49x18 =>
  bind (ixs x1 (Value.int .i64 1)) fun v51x19 =>
  bind (lenT x0) fun v53x20 =>
  bind (bop .int .sub v53x20 v15x1) fun v55x21 =>
  bind (bop .int .add v55x21 (Value.int .i64 1)) fun v56x22 =>
  jn (loopM (c8 (F_internalStringsliteIndex.l1 Γ)) [x0, x1, v15x1, v49x18, v51x19, (Value.int .i64 0), v56x22, (Value.int .i64 0)]) noN (xk 1 (c0 (ret (Value.int .i64 (-1)))) noX) ret))))))

set_option maxRecDepth 100000 in
theorem rf_internalStringsliteIndex (Γ : Funs) (x0 x1 : Value) : runF Tryz.prog Γ Tryz.f137 lv_internalStringsliteIndex [x0, x1] = F_internalStringsliteIndex Γ x0 x1 := by kernel_rfl

theorem run_internalStringsliteIndex {prim : FuncId → Option (List Value → M Value)} (hp : prim n_internalStringsliteIndex = none) (n : Nat) (x0 x1 : Value) : run Tryz.prog prim lvs (n + 1) n_internalStringsliteIndex [x0, x1] = F_internalStringsliteIndex (run Tryz.prog prim lvs n) x0 x1 :=
  (run_fn hp (by kernel_rfl) Tryz.func137 (by kernel_rfl)).trans (rf_internalStringsliteIndex _ x0 x1)

/-- strings.explode: a round. -/
noncomputable def F_stringsExplode.l1 (Γ : Funs) (s0 s1 s6 s7 : Value) : M Out :=
  bind (bop .int .sub s1 (Value.int .i64 1)) fun v24x8 =>
  bind (bop .int .lss s7 v24x8) fun v25x9 =>
  cnd v25x9
  (bind (Γ n_unicodeUtf8DecodeRuneInString [s0]) fun v30x10 =>
  bind (extr v30x10 0) fun v31x11 =>
  bind (extr v30x10 1) fun v32x12 =>
  bind (sls s0 none (some v32x12)) fun v37x13 =>
  bind (ixa 1 s6 s7) fun v38x14 =>
  bind (st1 v38x14 v37x13) fun _ =>
  bind (sls s0 (some v32x12) none) fun v41x15 =>
  bind (bop .int .add s7 (Value.int .i64 1)) fun v27x16 =>
  ret (.nrm [v41x15, s1, s6, v27x16]))
  (ret (.ext 0 [s0, s1, s6]))

/-- strings.explode -/
noncomputable def F_stringsExplode (Γ : Funs) (x0 x1 : Value) : M Value :=
  bind (Γ n_unicodeUtf8RuneCountInString [x0]) fun v11x1 =>
  bind (bop .int .lss x1 (Value.int .i64 0)) fun v13x2 =>
  bind (gate v13x2 false 3 (bind (bop .int .gtr x1 v11x1) fun v17x3 =>
  ret [x1, v11x1, v17x3])) (c3 fun _ _ q4_2 =>
  bind (pick v13x2 (Value.bool true) q4_2) fun v18x5 =>
  jn (cnd v18x5
  (ret (.nrm [x0, v11x1]))
  (ret (.nrm [x0, x1]))) (c2 fun q6_0 q6_1 =>
  bind (mks 1 16 (.string ⟨#[]⟩) q6_1 q6_1) fun v21x7 =>
  jn (loopM (c4 (F_stringsExplode.l1 Γ)) [q6_0, q6_1, v21x7, (Value.int .i64 0)]) noN (xk 0 (c3 fun q18_0 q18_1 q18_2 =>
  bind (bop .int .gtr q18_1 (Value.int .i64 0)) fun v43x19 =>
  jn (cnd v43x19
  (bind (bop .int .sub q18_1 (Value.int .i64 1)) fun v46x20 =>
  bind (ixa 1 q18_2 v46x20) fun v48x21 =>
  bind (st1 v48x21 q18_0) fun _ =>
  ret (.nrm [q18_2]))
  (ret (.nrm [q18_2]))) (c1 fun q22_0 =>
  ret q22_0) noX ret) noX) ret) noX ret)

set_option maxRecDepth 100000 in
theorem rf_stringsExplode (Γ : Funs) (x0 x1 : Value) : runF Tryz.prog Γ Tryz.f138 lv_stringsExplode [x0, x1] = F_stringsExplode Γ x0 x1 := by kernel_rfl

theorem run_stringsExplode {prim : FuncId → Option (List Value → M Value)} (hp : prim n_stringsExplode = none) (n : Nat) (x0 x1 : Value) : run Tryz.prog prim lvs (n + 1) n_stringsExplode [x0, x1] = F_stringsExplode (run Tryz.prog prim lvs n) x0 x1 :=
  (run_fn hp (by kernel_rfl) Tryz.func138 (by kernel_rfl)).trans (rf_stringsExplode _ x0 x1)

/-- strings.Count: a round. -/
noncomputable def F_stringsCount.l1 (Γ : Funs) (s0 s1 s5 : Value) : M Out :=
  bind (Γ n_stringsIndex [s0, s1]) fun v22x9 =>
  bind (bop .int .eql v22x9 (Value.int .i64 (-1))) fun v24x10 =>
  cnd v24x10
  (ret (.ret s5))
  (bind (bop .int .add s5 (Value.int .i64 1)) fun v27x11 =>
  bind (lenT s1) fun v31x12 =>
  bind (bop .int .add v22x9 v31x12) fun v32x13 =>
  bind (sls s0 (some v32x13) none) fun v33x14 =>
  ret (.nrm [v33x14, s1, v27x11]))

/-- strings.Count -/
noncomputable def F_stringsCount (Γ : Funs) (x0 x1 : Value) : M Value :=
  bind (lenT x1) fun v8x1 =>
  bind (bop .int .eql v8x1 (Value.int .i64 0)) fun v9x2 =>
  cnd v9x2
  (bind (Γ n_unicodeUtf8RuneCountInString [x0]) fun v11x3 =>
  bind (bop .int .add v11x3 (Value.int .i64 1)) fun v12x4 =>
  ret v12x4)
  (bind (lenT x1) fun v14x5 =>
  bind (bop .int .eql v14x5 (Value.int .i64 1)) fun v15x6 =>
  cnd v15x6
  (bind (ixs x1 (Value.int .i64 0)) fun v18x7 =>
  bind (Γ n_internalBytealgCountString [x0, v18x7]) fun v19x8 =>
  ret v19x8)
  (jn (loopM (c3 (F_stringsCount.l1 Γ)) [x0, x1, (Value.int .i64 0)]) noN noX ret))

set_option maxRecDepth 100000 in
theorem rf_stringsCount (Γ : Funs) (x0 x1 : Value) : runF Tryz.prog Γ Tryz.f139 lv_stringsCount [x0, x1] = F_stringsCount Γ x0 x1 := by kernel_rfl

theorem run_stringsCount {prim : FuncId → Option (List Value → M Value)} (hp : prim n_stringsCount = none) (n : Nat) (x0 x1 : Value) : run Tryz.prog prim lvs (n + 1) n_stringsCount [x0, x1] = F_stringsCount (run Tryz.prog prim lvs n) x0 x1 :=
  (run_fn hp (by kernel_rfl) Tryz.func139 (by kernel_rfl)).trans (rf_stringsCount _ x0 x1)

/-- strings.Index -/
noncomputable def F_stringsIndex (Γ : Funs) (x0 x1 : Value) : M Value :=
  bind (Γ n_internalStringsliteIndex [x0, x1]) fun v7x1 =>
  ret v7x1

set_option maxRecDepth 100000 in
theorem rf_stringsIndex (Γ : Funs) (x0 x1 : Value) : runF Tryz.prog Γ Tryz.f140 lv_stringsIndex [x0, x1] = F_stringsIndex Γ x0 x1 := by kernel_rfl

theorem run_stringsIndex {prim : FuncId → Option (List Value → M Value)} (hp : prim n_stringsIndex = none) (n : Nat) (x0 x1 : Value) : run Tryz.prog prim lvs (n + 1) n_stringsIndex [x0, x1] = F_stringsIndex (run Tryz.prog prim lvs n) x0 x1 :=
  (run_fn hp (by kernel_rfl) Tryz.func140 (by kernel_rfl)).trans (rf_stringsIndex _ x0 x1)

-- 141 ("maps.Keys[map[string]interrex/group.set,string,interrex/group.set]$1"): not covered: range
/-- slices.IndexFunc[[]string,string]: a round. -/
noncomputable def F_slicesIndexFuncstringString.l1 (Γ : Funs) (s0 s1 s7 s8 : Value) : M Out :=
  bind (bop .int .lss s8 s7) fun v9x2 =>
  cnd v9x2
  (bind (ixa 1 s0 s8) fun v14x3 =>
  bind (ld1 v14x3) fun v15x4 =>
  bind (callv Γ s1 [v15x4]) fun v16x5 =>
  cnd v16x5
  (ret (.ret s8))
  (bind (bop .int .add s8 (Value.int .i64 1)) fun v18x6 =>
  ret (.nrm [s0, s1, s7, v18x6])))
  (ret (.ext 0 []))

/-- slices.IndexFunc[[]string,string] -/
noncomputable def F_slicesIndexFuncstringString (Γ : Funs) (x0 x1 : Value) : M Value :=
  bind (lenS x0) fun v7x1 =>
  jn (loopM (c4 (F_slicesIndexFuncstringString.l1 Γ)) [x0, x1, v7x1, (Value.int .i64 0)]) noN (xk 0 (c0 (ret (Value.int .i64 (-1)))) noX) ret

set_option maxRecDepth 100000 in
theorem rf_slicesIndexFuncstringString (Γ : Funs) (x0 x1 : Value) : runF Tryz.prog Γ Tryz.f142 lv_slicesIndexFuncstringString [x0, x1] = F_slicesIndexFuncstringString Γ x0 x1 := by kernel_rfl

theorem run_slicesIndexFuncstringString {prim : FuncId → Option (List Value → M Value)} (hp : prim n_slicesIndexFuncstringString = none) (n : Nat) (x0 x1 : Value) : run Tryz.prog prim lvs (n + 1) n_slicesIndexFuncstringString [x0, x1] = F_slicesIndexFuncstringString (run Tryz.prog prim lvs n) x0 x1 :=
  (run_fn hp (by kernel_rfl) Tryz.func142 (by kernel_rfl)).trans (rf_slicesIndexFuncstringString _ x0 x1)

/-- slices.siftDownCmpFunc[string]: a round. -/
noncomputable def F_slicesSiftDownCmpFuncString.l1 (Γ : Funs) (s0 s2 s3 s4 s10 : Value) : M Out :=
  bind (bop .int .mul (Value.int .i64 2) s10) fun v14x1 =>
  bind (bop .int .add v14x1 (Value.int .i64 1)) fun v15x2 =>
  bind (bop .int .geq v15x2 s2) fun v18x3 =>
  cnd v18x3
  (ret (.ext 0 []))
  (bind (bop .int .add v15x2 (Value.int .i64 1)) fun v20x4 =>
  bind (bop .int .lss v20x4 s2) fun v22x5 =>
  bind (gateV v22x5 true (ret s4)) fun v24x6 =>
  bind (gateV v22x5 true (ret s0)) fun v25x7 =>
  bind (gateV v22x5 true (ret s3)) fun v26x8 =>
  bind (gateV v22x5 true (ret v15x2)) fun v27x9 =>
  bind (gateV v22x5 true (bop .int .add v26x8 v27x9)) fun v28x10 =>
  bind (gateV v22x5 true (ixa 1 v25x7 v28x10)) fun v29x11 =>
  bind (gateV v22x5 true (ld1 v29x11)) fun v30x12 =>
  bind (gateV v22x5 true (ret s0)) fun v31x13 =>
  bind (gateV v22x5 true (ret s3)) fun v32x14 =>
  bind (gateV v22x5 true (ret v15x2)) fun v33x15 =>
  bind (gateV v22x5 true (bop .int .add v32x14 v33x15)) fun v34x16 =>
  bind (gateV v22x5 true (bop .int .add v34x16 (Value.int .i64 1))) fun v35x17 =>
  bind (gateV v22x5 true (ixa 1 v31x13 v35x17)) fun v36x18 =>
  bind (gateV v22x5 true (ld1 v36x18)) fun v37x19 =>
  bind (gateV v22x5 true (callv Γ v24x6 [v30x12, v37x19])) fun v38x20 =>
  bind (gateV v22x5 true (bop .int .lss v38x20 (Value.int .i64 0))) fun v39x21 =>
  bind (pick v22x5 v39x21 (Value.bool false)) fun v40x22 =>
  jn (cnd v40x22
  (bind (bop .int .add v15x2 (Value.int .i64 1)) fun v42x23 =>
  ret (.nrm [s0, s2, s3, s4, s10, v42x23]))
  (ret (.nrm [s0, s2, s3, s4, s10, v15x2]))) (c6 fun q24_0 q24_1 q24_2 q24_3 q24_4 q24_5 =>
  bind (bop .int .add q24_2 q24_4) fun v47x25 =>
  bind (ixa 1 q24_0 v47x25) fun v48x26 =>
  bind (ld1 v48x26) fun v49x27 =>
  bind (bop .int .add q24_2 q24_5) fun v53x28 =>
  bind (ixa 1 q24_0 v53x28) fun v54x29 =>
  bind (ld1 v54x29) fun v55x30 =>
  bind (callv Γ q24_3 [v49x27, v55x30]) fun v56x31 =>
  bind (bop .int .lss v56x31 (Value.int .i64 0)) fun v57x32 =>
  bind (uop .not v57x32) fun v58x33 =>
  cnd v58x33
  (ret (.ret (Value.tuple #[])))
  (bind (bop .int .add q24_2 q24_4) fun v62x34 =>
  bind (bop .int .add q24_2 q24_5) fun v66x35 =>
  bind (bop .int .add q24_2 q24_5) fun v70x36 =>
  bind (ixa 1 q24_0 v70x36) fun v71x37 =>
  bind (ld1 v71x37) fun v72x38 =>
  bind (bop .int .add q24_2 q24_4) fun v76x39 =>
  bind (ixa 1 q24_0 v76x39) fun v77x40 =>
  bind (ld1 v77x40) fun v78x41 =>
  bind (ixa 1 q24_0 v62x34) fun v79x42 =>
  bind (st1 v79x42 v72x38) fun _ =>
  bind (ixa 1 q24_0 v66x35) fun v80x43 =>
  bind (st1 v80x43 v78x41) fun _ =>
  ret (.nrm [q24_0, q24_1, q24_2, q24_3, q24_5]))) noX retR)

/-- slices.siftDownCmpFunc[string] -/
noncomputable def F_slicesSiftDownCmpFuncString (Γ : Funs) (x0 x1 x2 x3 x4 : Value) : M Value :=
  jn (loopM (c5 (F_slicesSiftDownCmpFuncString.l1 Γ)) [x0, x2, x3, x4, x1]) noN (xk 0 (c0 (ret (Value.tuple #[]))) noX) ret

set_option maxRecDepth 100000 in
theorem rf_slicesSiftDownCmpFuncString (Γ : Funs) (x0 x1 x2 x3 x4 : Value) : runF Tryz.prog Γ Tryz.f143 lv_slicesSiftDownCmpFuncString [x0, x1, x2, x3, x4] = F_slicesSiftDownCmpFuncString Γ x0 x1 x2 x3 x4 := by kernel_rfl

theorem run_slicesSiftDownCmpFuncString {prim : FuncId → Option (List Value → M Value)} (hp : prim n_slicesSiftDownCmpFuncString = none) (n : Nat) (x0 x1 x2 x3 x4 : Value) : run Tryz.prog prim lvs (n + 1) n_slicesSiftDownCmpFuncString [x0, x1, x2, x3, x4] = F_slicesSiftDownCmpFuncString (run Tryz.prog prim lvs n) x0 x1 x2 x3 x4 :=
  (run_fn hp (by kernel_rfl) Tryz.func143 (by kernel_rfl)).trans (rf_slicesSiftDownCmpFuncString _ x0 x1 x2 x3 x4)

/-- slices.nextPowerOfTwo -/
noncomputable def F_slicesNextPowerOfTwo (Γ : Funs) (x0 : Value) : M Value :=
  bind (cvi .u64 x0) fun v4x1 =>
  bind (Γ n_mathBitsLen [v4x1]) fun v5x2 =>
  bind (bop .int .shl (Value.int .u64 1) v5x2) fun v6x3 =>
  ret v6x3

set_option maxRecDepth 100000 in
theorem rf_slicesNextPowerOfTwo (Γ : Funs) (x0 : Value) : runF Tryz.prog Γ Tryz.f144 lv_slicesNextPowerOfTwo [x0] = F_slicesNextPowerOfTwo Γ x0 := by kernel_rfl

theorem run_slicesNextPowerOfTwo {prim : FuncId → Option (List Value → M Value)} (hp : prim n_slicesNextPowerOfTwo = none) (n : Nat) (x0 : Value) : run Tryz.prog prim lvs (n + 1) n_slicesNextPowerOfTwo [x0] = F_slicesNextPowerOfTwo (run Tryz.prog prim lvs n) x0 :=
  (run_fn hp (by kernel_rfl) Tryz.func144 (by kernel_rfl)).trans (rf_slicesNextPowerOfTwo _ x0)

/-- (*slices.xorshift).Next -/
noncomputable def F_slicesXorshiftNext (Γ : Funs) (x0 : Value) : M Value :=
  bind (nilc x0) fun v4x1 =>
  bind (ld1 v4x1) fun v5x2 =>
  bind (nilc x0) fun v7x3 =>
  bind (ld1 v7x3) fun v8x4 =>
  bind (bop .int .shl v8x4 (Value.int .u64 13)) fun v9x5 =>
  bind (bop .int .xor v5x2 v9x5) fun v10x6 =>
  bind (nilc x0) fun v11x7 =>
  bind (st1 v11x7 v10x6) fun _ =>
  bind (nilc x0) fun v13x8 =>
  bind (ld1 v13x8) fun v14x9 =>
  bind (nilc x0) fun v16x10 =>
  bind (ld1 v16x10) fun v17x11 =>
  bind (bop .int .shr v17x11 (Value.int .u64 7)) fun v18x12 =>
  bind (bop .int .xor v14x9 v18x12) fun v19x13 =>
  bind (nilc x0) fun v20x14 =>
  bind (st1 v20x14 v19x13) fun _ =>
  bind (nilc x0) fun v22x15 =>
  bind (ld1 v22x15) fun v23x16 =>
  bind (nilc x0) fun v25x17 =>
  bind (ld1 v25x17) fun v26x18 =>
  bind (bop .int .shl v26x18 (Value.int .u64 17)) fun v27x19 =>
  bind (bop .int .xor v23x16 v27x19) fun v28x20 =>
  bind (nilc x0) fun v29x21 =>
  bind (st1 v29x21 v28x20) fun _ =>
  bind (nilc x0) fun v31x22 =>
  bind (ld1 v31x22) fun v32x23 =>
  ret v32x23

set_option maxRecDepth 100000 in
theorem rf_slicesXorshiftNext (Γ : Funs) (x0 : Value) : runF Tryz.prog Γ Tryz.f145 lv_slicesXorshiftNext [x0] = F_slicesXorshiftNext Γ x0 := by kernel_rfl

theorem run_slicesXorshiftNext {prim : FuncId → Option (List Value → M Value)} (hp : prim n_slicesXorshiftNext = none) (n : Nat) (x0 : Value) : run Tryz.prog prim lvs (n + 1) n_slicesXorshiftNext [x0] = F_slicesXorshiftNext (run Tryz.prog prim lvs n) x0 :=
  (run_fn hp (by kernel_rfl) Tryz.func145 (by kernel_rfl)).trans (rf_slicesXorshiftNext _ x0)

/-- slices.medianAdjacentCmpFunc[string] -/
noncomputable def F_slicesMedianAdjacentCmpFuncString (Γ : Funs) (x0 x1 x2 x3 : Value) : M Value :=
  bind (bop .int .sub x1 (Value.int .i64 1)) fun v11x1 =>
  bind (bop .int .add x1 (Value.int .i64 1)) fun v14x2 =>
  bind (Γ n_slicesMedianCmpFuncString [x0, v11x1, x1, v14x2, x2, x3]) fun v17x3 =>
  ret v17x3

set_option maxRecDepth 100000 in
theorem rf_slicesMedianAdjacentCmpFuncString (Γ : Funs) (x0 x1 x2 x3 : Value) : runF Tryz.prog Γ Tryz.f146 lv_slicesMedianAdjacentCmpFuncString [x0, x1, x2, x3] = F_slicesMedianAdjacentCmpFuncString Γ x0 x1 x2 x3 := by kernel_rfl

theorem run_slicesMedianAdjacentCmpFuncString {prim : FuncId → Option (List Value → M Value)} (hp : prim n_slicesMedianAdjacentCmpFuncString = none) (n : Nat) (x0 x1 x2 x3 : Value) : run Tryz.prog prim lvs (n + 1) n_slicesMedianAdjacentCmpFuncString [x0, x1, x2, x3] = F_slicesMedianAdjacentCmpFuncString (run Tryz.prog prim lvs n) x0 x1 x2 x3 :=
  (run_fn hp (by kernel_rfl) Tryz.func146 (by kernel_rfl)).trans (rf_slicesMedianAdjacentCmpFuncString _ x0 x1 x2 x3)

/-- slices.medianCmpFunc[string] -/
noncomputable def F_slicesMedianCmpFuncString (Γ : Funs) (x0 x1 x2 x3 x4 x5 : Value) : M Value :=
  bind (Γ n_slicesOrder2CmpFuncString [x0, x1, x2, x4, x5]) fun v19x1 =>
  bind (extr v19x1 0) fun v20x2 =>
  bind (extr v19x1 1) fun v21x3 =>
  bind (Γ n_slicesOrder2CmpFuncString [x0, v21x3, x3, x4, x5]) fun v28x4 =>
  bind (extr v28x4 0) fun v29x5 =>
  bind (extr v28x4 1) fun v30x6 =>
  bind (Γ n_slicesOrder2CmpFuncString [x0, v20x2, v29x5, x4, x5]) fun v37x7 =>
  bind (extr v37x7 0) fun v38x8 =>
  bind (extr v37x7 1) fun v39x9 =>
  ret v39x9

set_option maxRecDepth 100000 in
theorem rf_slicesMedianCmpFuncString (Γ : Funs) (x0 x1 x2 x3 x4 x5 : Value) : runF Tryz.prog Γ Tryz.f147 lv_slicesMedianCmpFuncString [x0, x1, x2, x3, x4, x5] = F_slicesMedianCmpFuncString Γ x0 x1 x2 x3 x4 x5 := by kernel_rfl

theorem run_slicesMedianCmpFuncString {prim : FuncId → Option (List Value → M Value)} (hp : prim n_slicesMedianCmpFuncString = none) (n : Nat) (x0 x1 x2 x3 x4 x5 : Value) : run Tryz.prog prim lvs (n + 1) n_slicesMedianCmpFuncString [x0, x1, x2, x3, x4, x5] = F_slicesMedianCmpFuncString (run Tryz.prog prim lvs n) x0 x1 x2 x3 x4 x5 :=
  (run_fn hp (by kernel_rfl) Tryz.func147 (by kernel_rfl)).trans (rf_slicesMedianCmpFuncString _ x0 x1 x2 x3 x4 x5)

/-- internal/stringslite.IndexByte -/
noncomputable def F_internalStringsliteIndexByte (Γ : Funs) (x0 x1 : Value) : M Value :=
  bind (Γ n_internalBytealgIndexByteString [x0, x1]) fun v7x1 =>
  ret v7x1

set_option maxRecDepth 100000 in
theorem rf_internalStringsliteIndexByte (Γ : Funs) (x0 x1 : Value) : runF Tryz.prog Γ Tryz.f148 lv_internalStringsliteIndexByte [x0, x1] = F_internalStringsliteIndexByte Γ x0 x1 := by kernel_rfl

theorem run_internalStringsliteIndexByte {prim : FuncId → Option (List Value → M Value)} (hp : prim n_internalStringsliteIndexByte = none) (n : Nat) (x0 x1 : Value) : run Tryz.prog prim lvs (n + 1) n_internalStringsliteIndexByte [x0, x1] = F_internalStringsliteIndexByte (run Tryz.prog prim lvs n) x0 x1 :=
  (run_fn hp (by kernel_rfl) Tryz.func148 (by kernel_rfl)).trans (rf_internalStringsliteIndexByte _ x0 x1)

-- 149 ("internal/bytealg.IndexString"): not covered: code n
/-- internal/bytealg.Cutover -/
noncomputable def F_internalBytealgCutover (Γ : Funs) (x0 : Value) : M Value :=
  bind (bop .int .add x0 (Value.int .i64 16)) fun v4x1 =>
  bind (bop .int .quo v4x1 (Value.int .i64 8)) fun v5x2 =>
  ret v5x2

set_option maxRecDepth 100000 in
theorem rf_internalBytealgCutover (Γ : Funs) (x0 : Value) : runF Tryz.prog Γ Tryz.f150 lv_internalBytealgCutover [x0] = F_internalBytealgCutover Γ x0 := by kernel_rfl

theorem run_internalBytealgCutover {prim : FuncId → Option (List Value → M Value)} (hp : prim n_internalBytealgCutover = none) (n : Nat) (x0 : Value) : run Tryz.prog prim lvs (n + 1) n_internalBytealgCutover [x0] = F_internalBytealgCutover (run Tryz.prog prim lvs n) x0 :=
  (run_fn hp (by kernel_rfl) Tryz.func150 (by kernel_rfl)).trans (rf_internalBytealgCutover _ x0)

/-- internal/bytealg.IndexRabinKarp[string]: a round. -/
noncomputable def F_internalBytealgIndexRabinKarpString.l1 (Γ : Funs) (s0 s1 s5 s6 s7 s8 s9 : Value) : M Out :=
  bind (bop .int .lss s9 s7) fun v20x5 =>
  cnd v20x5
  (bind (bop .int .mul s8 (Value.int .u32 16777619)) fun v24x6 =>
  bind (ixs s0 s9) fun v27x7 =>
  bind (cvi .u32 v27x7) fun v28x8 =>
  bind (bop .int .add v24x6 v28x8) fun v29x9 =>
  bind (bop .int .add s9 (Value.int .i64 1)) fun v22x10 =>
  ret (.nrm [s0, s1, s5, s6, s7, v29x9, v22x10]))
  (ret (.ext 0 [s0, s1, s5, s6, s7, s8]))

/-- internal/bytealg.IndexRabinKarp[string]: a round. -/
noncomputable def F_internalBytealgIndexRabinKarpString.l2 (Γ : Funs) (s0 s1 s5 s6 s7 s8 s10 : Value) : M Out :=
  bind (lenT s0) fun v43x18 =>
  bind (bop .int .lss s10 v43x18) fun v44x19 =>
  cnd v44x19
  (bind (bop .int .mul s8 (Value.int .u32 16777619)) fun v46x20 =>
  bind (ixs s0 s10) fun v50x21 =>
  bind (cvi .u32 v50x21) fun v51x22 =>
  bind (bop .int .add v46x20 v51x22) fun v52x23 =>
  bind (bop .int .sub s10 s7) fun v58x24 =>
  bind (ixs s0 v58x24) fun v59x25 =>
  bind (cvi .u32 v59x25) fun v60x26 =>
  bind (bop .int .mul s6 v60x26) fun v61x27 =>
  bind (bop .int .sub v52x23 v61x27) fun v62x28 =>
  bind (bop .int .add s10 (Value.int .i64 1)) fun v64x29 =>
  bind (bop .int .eql v62x28 s5) fun v67x30 =>
  bind (gate v67x30 true 8 (bind (bop .int .sub v64x29 s7) fun v72x31 =>
  bind (sls s0 (some v72x31) (some v64x29)) fun v74x32 =>
  bind (bop .str .eql v74x32 s1) fun v76x33 =>
  ret [s0, v64x29, s7, v72x31, v64x29, v74x32, s1, v76x33])) (c8 fun _ _ _ _ _ _ _ q34_7 =>
  bind (pick v67x30 q34_7 (Value.bool false)) fun v77x35 =>
  cnd v77x35
  (bind (bop .int .sub v64x29 s7) fun v80x36 =>
  ret (.ret v80x36))
  (ret (.nrm [s0, s1, s5, s6, s7, v62x28, v64x29]))))
  (ret (.ext 2 []))

/-- internal/bytealg.IndexRabinKarp[string] -/
noncomputable def F_internalBytealgIndexRabinKarpString (Γ : Funs) (x0 x1 : Value) : M Value :=
  bind (Γ n_internalBytealgHashStrString [x1]) fun v13x1 =>
  bind (extr v13x1 0) fun v14x2 =>
  bind (extr v13x1 1) fun v15x3 =>
  bind (lenT x1) fun v17x4 =>
  jn (loopM (c7 (F_internalBytealgIndexRabinKarpString.l1 Γ)) [x0, x1, v14x2, v15x3, v17x4, (Value.int .u32 0), (Value.int .i64 0)]) noN (xk 0 (c6 fun q12_0 q12_1 q12_2 q12_3 q12_4 q12_5 =>
  bind (bop .int .eql q12_5 q12_2) fun v32x13 =>
  bind (gate v32x13 true 5 (bind (sls q12_0 none (some q12_4)) fun v36x14 =>
  bind (bop .str .eql v36x14 q12_1) fun v38x15 =>
  ret [q12_0, q12_4, v36x14, q12_1, v38x15])) (c5 fun _ _ _ _ q16_4 =>
  bind (pick v32x13 q16_4 (Value.bool false)) fun v39x17 =>
  cnd v39x17
  (ret (Value.int .i64 0))
  (jn (loopM (c7 (F_internalBytealgIndexRabinKarpString.l2 Γ)) [q12_0, q12_1, q12_2, q12_3, q12_4, q12_5, q12_4]) noN (xk 2 (c0 (ret (Value.int .i64 (-1)))) noX) ret))) noX) ret

set_option maxRecDepth 100000 in
theorem rf_internalBytealgIndexRabinKarpString (Γ : Funs) (x0 x1 : Value) : runF Tryz.prog Γ Tryz.f151 lv_internalBytealgIndexRabinKarpString [x0, x1] = F_internalBytealgIndexRabinKarpString Γ x0 x1 := by kernel_rfl

theorem run_internalBytealgIndexRabinKarpString {prim : FuncId → Option (List Value → M Value)} (hp : prim n_internalBytealgIndexRabinKarpString = none) (n : Nat) (x0 x1 : Value) : run Tryz.prog prim lvs (n + 1) n_internalBytealgIndexRabinKarpString [x0, x1] = F_internalBytealgIndexRabinKarpString (run Tryz.prog prim lvs n) x0 x1 :=
  (run_fn hp (by kernel_rfl) Tryz.func151 (by kernel_rfl)).trans (rf_internalBytealgIndexRabinKarpString _ x0 x1)

-- 152 ("unicode/utf8.RuneCountInString"): not covered: range
/-- unicode/utf8.DecodeRuneInString -/
noncomputable def F_unicodeUtf8DecodeRuneInString (Γ : Funs) (x0 : Value) : M Value :=
  bind (bop .str .neq x0 (Value.string ⟨#[]⟩)) fun v5x1 =>
  bind (gate v5x1 true 3 (bind (ixs x0 (Value.int .i64 0)) fun v8x2 =>
  bind (bop .int .lss v8x2 (Value.int .u8 128)) fun v9x3 =>
  ret [x0, v8x2, v9x3])) (c3 fun _ _ q4_2 =>
  bind (pick v5x1 q4_2 (Value.bool false)) fun v10x5 =>
  cnd v10x5
  (bind (ixs x0 (Value.int .i64 0)) fun v12x6 =>
  bind (cvi .i32 v12x6) fun v13x7 =>
  ret (Value.tuple #[v13x7, (Value.int .i64 1)]))
  (bind (Γ n_unicodeUtf8DecodeRuneInStringSlow [x0]) fun v16x8 =>
  bind (extr v16x8 0) fun v17x9 =>
  bind (extr v16x8 1) fun v18x10 =>
  ret (Value.tuple #[v17x9, v18x10])))

set_option maxRecDepth 100000 in
theorem rf_unicodeUtf8DecodeRuneInString (Γ : Funs) (x0 : Value) : runF Tryz.prog Γ Tryz.f153 lv_unicodeUtf8DecodeRuneInString [x0] = F_unicodeUtf8DecodeRuneInString Γ x0 := by kernel_rfl

theorem run_unicodeUtf8DecodeRuneInString {prim : FuncId → Option (List Value → M Value)} (hp : prim n_unicodeUtf8DecodeRuneInString = none) (n : Nat) (x0 : Value) : run Tryz.prog prim lvs (n + 1) n_unicodeUtf8DecodeRuneInString [x0] = F_unicodeUtf8DecodeRuneInString (run Tryz.prog prim lvs n) x0 :=
  (run_fn hp (by kernel_rfl) Tryz.func153 (by kernel_rfl)).trans (rf_unicodeUtf8DecodeRuneInString _ x0)

-- 154 ("internal/bytealg.CountString"): not covered: code n
/-- slices.order2CmpFunc[string] -/
noncomputable def F_slicesOrder2CmpFuncString (Γ : Funs) (x0 x1 x2 x3 x4 : Value) : M Value :=
  bind (ixa 1 x0 x2) fun v15x1 =>
  bind (ld1 v15x1) fun v16x2 =>
  bind (ixa 1 x0 x1) fun v19x3 =>
  bind (ld1 v19x3) fun v20x4 =>
  bind (callv Γ x4 [v16x2, v20x4]) fun v21x5 =>
  bind (bop .int .lss v21x5 (Value.int .i64 0)) fun v22x6 =>
  cnd v22x6
  (bind (nilc x3) fun v24x7 =>
  bind (ld1 v24x7) fun v25x8 =>
  bind (bop .int .add v25x8 (Value.int .i64 1)) fun v26x9 =>
  bind (nilc x3) fun v27x10 =>
  bind (st1 v27x10 v26x9) fun _ =>
  ret (Value.tuple #[x2, x1]))
  (ret (Value.tuple #[x1, x2]))

set_option maxRecDepth 100000 in
theorem rf_slicesOrder2CmpFuncString (Γ : Funs) (x0 x1 x2 x3 x4 : Value) : runF Tryz.prog Γ Tryz.f155 lv_slicesOrder2CmpFuncString [x0, x1, x2, x3, x4] = F_slicesOrder2CmpFuncString Γ x0 x1 x2 x3 x4 := by kernel_rfl

theorem run_slicesOrder2CmpFuncString {prim : FuncId → Option (List Value → M Value)} (hp : prim n_slicesOrder2CmpFuncString = none) (n : Nat) (x0 x1 x2 x3 x4 : Value) : run Tryz.prog prim lvs (n + 1) n_slicesOrder2CmpFuncString [x0, x1, x2, x3, x4] = F_slicesOrder2CmpFuncString (run Tryz.prog prim lvs n) x0 x1 x2 x3 x4 :=
  (run_fn hp (by kernel_rfl) Tryz.func155 (by kernel_rfl)).trans (rf_slicesOrder2CmpFuncString _ x0 x1 x2 x3 x4)

-- 156 ("internal/bytealg.IndexByteString"): not covered: code n
/-- internal/bytealg.hashStr[string]: a round. -/
noncomputable def F_internalBytealgHashStrString.l1 (Γ : Funs) (s0 s4 s5 : Value) : M Out :=
  bind (lenT s0) fun v11x1 =>
  bind (bop .int .lss s5 v11x1) fun v12x2 =>
  cnd v12x2
  (bind (bop .int .mul s4 (Value.int .u32 16777619)) fun v16x3 =>
  bind (ixs s0 s5) fun v19x4 =>
  bind (cvi .u32 v19x4) fun v20x5 =>
  bind (bop .int .add v16x3 v20x5) fun v21x6 =>
  bind (bop .int .add s5 (Value.int .i64 1)) fun v14x7 =>
  ret (.nrm [s0, v21x6, v14x7]))
  (ret (.ext 0 [s0, s4]))

/-- internal/bytealg.hashStr[string]: a round. -/
noncomputable def F_internalBytealgHashStrString.l2 (Γ : Funs) (s4 s6 s7 s8 : Value) : M Out :=
  bind (bop .int .gtr s8 (Value.int .i64 0)) fun v25x11 =>
  cnd v25x11
  (bind (bop .int .and s8 (Value.int .i64 1)) fun v29x12 =>
  bind (bop .int .neq v29x12 (Value.int .i64 0)) fun v30x13 =>
  jn (cnd v30x13
  (bind (bop .int .mul s6 s7) fun v33x14 =>
  ret (.nrm [s4, v33x14, s7, s8]))
  (ret (.nrm [s4, s6, s7, s8]))) (c4 fun q15_0 q15_1 q15_2 q15_3 =>
  bind (bop .int .mul q15_2 q15_2) fun v36x16 =>
  bind (bop .int .shr q15_3 (Value.int .u64 1)) fun v27x17 =>
  ret (.nrm [q15_0, q15_1, v36x16, v27x17])) noX retR)
  (ret (.ext 2 [s4, s6]))

/-- internal/bytealg.hashStr[string] -/
noncomputable def F_internalBytealgHashStrString (Γ : Funs) (x0 : Value) : M Value :=
  jn (loopM (c3 (F_internalBytealgHashStrString.l1 Γ)) [x0, (Value.int .u32 0), (Value.int .i64 0)]) noN (xk 0 (c2 fun q9_0 q9_1 =>
  bind (lenT q9_0) fun v23x10 =>
  jn (loopM (c4 (F_internalBytealgHashStrString.l2 Γ)) [q9_1, (Value.int .u32 1), (Value.int .u32 16777619), v23x10]) noN (xk 2 (c2 fun q20_0 q20_1 =>
  ret (Value.tuple #[q20_0, q20_1])) noX) ret) noX) ret

set_option maxRecDepth 100000 in
theorem rf_internalBytealgHashStrString (Γ : Funs) (x0 : Value) : runF Tryz.prog Γ Tryz.f157 lv_internalBytealgHashStrString [x0] = F_internalBytealgHashStrString Γ x0 := by kernel_rfl

theorem run_internalBytealgHashStrString {prim : FuncId → Option (List Value → M Value)} (hp : prim n_internalBytealgHashStrString = none) (n : Nat) (x0 : Value) : run Tryz.prog prim lvs (n + 1) n_internalBytealgHashStrString [x0] = F_internalBytealgHashStrString (run Tryz.prog prim lvs n) x0 :=
  (run_fn hp (by kernel_rfl) Tryz.func157 (by kernel_rfl)).trans (rf_internalBytealgHashStrString _ x0)

/-- unicode/utf8.decodeRuneInStringSlow -/
noncomputable def F_unicodeUtf8DecodeRuneInStringSlow (Γ : Funs) (x0 : Value) : M Value :=
  bind (lenT x0) fun v14x1 =>
  bind (bop .int .lss v14x1 (Value.int .i64 1)) fun v16x2 =>
  cnd v16x2
  (ret (Value.tuple #[(Value.int .i32 65533), (Value.int .i64 0)]))
  (bind (ixs x0 (Value.int .i64 0)) fun v18x3 =>
  bind (ixaA 256 1 (Value.pointer (some ⟨1, 0, none⟩)) v18x3) fun v20x4 =>
  bind (ld1 v20x4) fun v21x5 =>
  bind (bop .int .geq v21x5 (Value.int .u8 240)) fun v23x6 =>
  cnd v23x6
  (bind (cvi .i32 v21x5) fun v25x7 =>
  bind (bop .int .shl v25x7 (Value.int .u64 31)) fun v26x8 =>
  bind (bop .int .shr v26x8 (Value.int .u64 31)) fun v27x9 =>
  bind (ixs x0 (Value.int .i64 0)) fun v29x10 =>
  bind (cvi .i32 v29x10) fun v30x11 =>
  bind (bop .int .andNot v30x11 v27x9) fun v32x12 =>
  bind (bop .int .and (Value.int .i32 65533) v27x9) fun v34x13 =>
  bind (bop .int .or v32x12 v34x13) fun v35x14 =>
  ret (Value.tuple #[v35x14, (Value.int .i64 1)]))
  (bind (bop .int .and v21x5 (Value.int .u8 7)) fun v37x15 =>
  bind (cvi .i64 v37x15) fun v38x16 =>
  bind (bop .int .shr v21x5 (Value.int .u64 4)) fun v40x17 =>
  bind (ixaA 16 2 (Value.pointer (some ⟨2, 0, none⟩)) v40x17) fun v41x18 =>
  bind (ldA 2 v41x18) fun v42x19 =>
  bind (alc 1 (.agg #[.int .u8 0, .int .u8 0])) fun v9x20 =>
  bind (stA 2 v9x20 v42x19) fun _ =>
  bind (bop .int .lss v14x1 v38x16) fun v45x21 =>
  cnd v45x21
  (ret (Value.tuple #[(Value.int .i32 65533), (Value.int .i64 1)]))
  (bind (ixs x0 (Value.int .i64 1)) fun v47x22 =>
  bind (fa 0 v9x20) fun v49x23 =>
  bind (ld1 v49x23) fun v50x24 =>
  bind (bop .int .lss v47x22 v50x24) fun v51x25 =>
  bind (gate v51x25 false 4 (bind (fa 1 v9x20) fun v53x26 =>
  bind (ld1 v53x26) fun v54x27 =>
  bind (bop .int .lss v54x27 v47x22) fun v56x28 =>
  ret [v53x26, v54x27, v47x22, v56x28])) (c4 fun _ _ _ q29_3 =>
  bind (pick v51x25 (Value.bool true) q29_3) fun v57x30 =>
  cnd v57x30
  (ret (Value.tuple #[(Value.int .i32 65533), (Value.int .i64 1)]))
  (bind (bop .int .leq v38x16 (Value.int .i64 2)) fun v59x31 =>
  cnd v59x31
  (bind (bop .int .and v18x3 (Value.int .u8 31)) fun v61x32 =>
  bind (cvi .i32 v61x32) fun v62x33 =>
  bind (bop .int .shl v62x33 (Value.int .u64 6)) fun v63x34 =>
  bind (bop .int .and v47x22 (Value.int .u8 63)) fun v65x35 =>
  bind (cvi .i32 v65x35) fun v66x36 =>
  bind (bop .int .or v63x34 v66x36) fun v67x37 =>
  ret (Value.tuple #[v67x37, (Value.int .i64 2)]))
  (bind (ixs x0 (Value.int .i64 2)) fun v69x38 =>
  bind (bop .int .lss v69x38 (Value.int .u8 128)) fun v71x39 =>
  bind (gate v71x39 false 2 (bind (bop .int .lss (Value.int .u8 191) v69x38) fun v74x40 =>
  ret [v69x38, v74x40])) (c2 fun _ q41_1 =>
  bind (pick v71x39 (Value.bool true) q41_1) fun v75x42 =>
  cnd v75x42
  (ret (Value.tuple #[(Value.int .i32 65533), (Value.int .i64 1)]))
  (bind (bop .int .leq v38x16 (Value.int .i64 3)) fun v77x43 =>
  cnd v77x43
  (bind (bop .int .and v18x3 (Value.int .u8 15)) fun v79x44 =>
  bind (cvi .i32 v79x44) fun v80x45 =>
  bind (bop .int .shl v80x45 (Value.int .u64 12)) fun v81x46 =>
  bind (bop .int .and v47x22 (Value.int .u8 63)) fun v83x47 =>
  bind (cvi .i32 v83x47) fun v84x48 =>
  bind (bop .int .shl v84x48 (Value.int .u64 6)) fun v85x49 =>
  bind (bop .int .or v81x46 v85x49) fun v86x50 =>
  bind (bop .int .and v69x38 (Value.int .u8 63)) fun v88x51 =>
  bind (cvi .i32 v88x51) fun v89x52 =>
  bind (bop .int .or v86x50 v89x52) fun v90x53 =>
  ret (Value.tuple #[v90x53, (Value.int .i64 3)]))
  (bind (ixs x0 (Value.int .i64 3)) fun v92x54 =>
  bind (bop .int .lss v92x54 (Value.int .u8 128)) fun v94x55 =>
  bind (gate v94x55 false 2 (bind (bop .int .lss (Value.int .u8 191) v92x54) fun v97x56 =>
  ret [v92x54, v97x56])) (c2 fun _ q57_1 =>
  bind (pick v94x55 (Value.bool true) q57_1) fun v98x58 =>
  cnd v98x58
  (ret (Value.tuple #[(Value.int .i32 65533), (Value.int .i64 1)]))
  (bind (bop .int .and v18x3 (Value.int .u8 7)) fun v100x59 =>
  bind (cvi .i32 v100x59) fun v101x60 =>
  bind (bop .int .shl v101x60 (Value.int .u64 18)) fun v102x61 =>
  bind (bop .int .and v47x22 (Value.int .u8 63)) fun v104x62 =>
  bind (cvi .i32 v104x62) fun v105x63 =>
  bind (bop .int .shl v105x63 (Value.int .u64 12)) fun v106x64 =>
  bind (bop .int .or v102x61 v106x64) fun v107x65 =>
  bind (bop .int .and v69x38 (Value.int .u8 63)) fun v109x66 =>
  bind (cvi .i32 v109x66) fun v110x67 =>
  bind (bop .int .shl v110x67 (Value.int .u64 6)) fun v111x68 =>
  bind (bop .int .or v107x65 v111x68) fun v112x69 =>
  bind (bop .int .and v92x54 (Value.int .u8 63)) fun v114x70 =>
  bind (cvi .i32 v114x70) fun v115x71 =>
  bind (bop .int .or v112x69 v115x71) fun v116x72 =>
  ret (Value.tuple #[v116x72, (Value.int .i64 4)]))))))))))))

set_option maxRecDepth 100000 in
theorem rf_unicodeUtf8DecodeRuneInStringSlow (Γ : Funs) (x0 : Value) : runF Tryz.prog Γ Tryz.f158 lv_unicodeUtf8DecodeRuneInStringSlow [x0] = F_unicodeUtf8DecodeRuneInStringSlow Γ x0 := by kernel_rfl

theorem run_unicodeUtf8DecodeRuneInStringSlow {prim : FuncId → Option (List Value → M Value)} (hp : prim n_unicodeUtf8DecodeRuneInStringSlow = none) (n : Nat) (x0 : Value) : run Tryz.prog prim lvs (n + 1) n_unicodeUtf8DecodeRuneInStringSlow [x0] = F_unicodeUtf8DecodeRuneInStringSlow (run Tryz.prog prim lvs n) x0 :=
  (run_fn hp (by kernel_rfl) Tryz.func158 (by kernel_rfl)).trans (rf_unicodeUtf8DecodeRuneInStringSlow _ x0)

-- 174 ("(*interrex/mail.Index).Len"): not covered: code n
-- 175 ("(*interrex/group.Groups).Remove"): not covered: code n
/-- gosem.cut.vars -/
noncomputable def F_gosemCutVars (Γ : Funs) : M Value :=
  bind (bld (.agg #[.int .u8 0, .int .u8 0]) [(0, 1, (Value.int .u8 128)), (1, 1, (Value.int .u8 191))]) fun v0x1 =>
  bind (bld (.agg #[.int .u8 0, .int .u8 0]) [(0, 1, (Value.int .u8 160)), (1, 1, (Value.int .u8 191))]) fun v1x2 =>
  bind (bld (.agg #[.int .u8 0, .int .u8 0]) [(0, 1, (Value.int .u8 128)), (1, 1, (Value.int .u8 159))]) fun v2x3 =>
  bind (bld (.agg #[.int .u8 0, .int .u8 0]) [(0, 1, (Value.int .u8 144)), (1, 1, (Value.int .u8 191))]) fun v3x4 =>
  bind (bld (.agg #[.int .u8 0, .int .u8 0]) [(0, 1, (Value.int .u8 128)), (1, 1, (Value.int .u8 143))]) fun v4x5 =>
  bind (bld (.agg #[.int .u8 0, .int .u8 0, .int .u8 0, .int .u8 0, .int .u8 0, .int .u8 0, .int .u8 0, .int .u8 0, .int .u8 0, .int .u8 0, .int .u8 0, .int .u8 0, .int .u8 0, .int .u8 0, .int .u8 0, .int .u8 0, .int .u8 0, .int .u8 0, .int .u8 0, .int .u8 0, .int .u8 0, .int .u8 0, .int .u8 0, .int .u8 0, .int .u8 0, .int .u8 0, .int .u8 0, .int .u8 0, .int .u8 0, .int .u8 0, .int .u8 0, .int .u8 0]) [(0, 2, v0x1), (2, 2, v1x2), (4, 2, v2x3), (6, 2, v3x4), (8, 2, v4x5)]) fun v5x6 =>
  bind (stA 32 (Value.pointer (some ⟨2, 0, none⟩)) v5x6) fun _ =>
  ret (Value.tuple #[])

set_option maxRecDepth 100000 in
theorem rf_gosemCutVars (Γ : Funs) : runF Tryz.prog Γ Tryz.f181 lv_gosemCutVars [] = F_gosemCutVars Γ  := by kernel_rfl

theorem run_gosemCutVars {prim : FuncId → Option (List Value → M Value)} (hp : prim n_gosemCutVars = none) (n : Nat) : run Tryz.prog prim lvs (n + 1) n_gosemCutVars [] = F_gosemCutVars (run Tryz.prog prim lvs n)  :=
  (run_fn hp (by kernel_rfl) Tryz.func181 (by kernel_rfl)).trans (rf_gosemCutVars _ )

end Go.Proofs.YtlpibiaokpbhbaaGreatDoor.A
