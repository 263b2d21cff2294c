/- Functions, as the abstract machine reads them: printed by wip/tools/gen.py. -/
import Derived.Test.YtkjoaediojdodaaNmNet
import Derived.Test.YtkjoaediojdodaaProg
import Derived.KernelRfl
namespace Go.Proofs.Ytkjoaediojdodaa.A
set_option linter.unusedVariables false
set_option linter.unusedSimpArgs false
open Go.Proofs Go.Proofs.Ytkjoaediojdodaa

/-- interrex/interrexlaw30.NetOrder: a round. -/
noncomputable def F_law30NetOrder.l1 (Γ : Funs) (s0 s3 s21 s22 s23 : Value) : M Out :=
  bind (bop .int .lss s23 s22) fun v24x10 =>
  cnd v24x10
  (bind (ixa 1 s21 s23) fun v25x11 =>
  bind (ld1 v25x11) fun v26x12 =>
  bind (lenS v26x12) fun v28x13 =>
  bind (bop .int .gtr v28x13 (Value.int .i64 100)) fun v29x14 =>
  cnd v29x14
  (ret (.ret (Value.bool true)))
  (bind (Γ n_netNetPut [s3, v26x12]) fun v32x15 =>
  bind (uop .not v32x15) fun v33x16 =>
  cnd v33x16
  (ret (.ret (Value.bool false)))
  (bind (bop .int .add s23 (Value.int .i64 1)) fun v34x17 =>
  ret (.nrm [s0, s3, s21, s22, v34x17]))))
  (ret (.ext 0 [s0, s3]))

/-- interrex/interrexlaw30.NetOrder: a round. -/
noncomputable def F_law30NetOrder.l2 (Γ : Funs) (s3 s35 s36 s37 : Value) : M Out :=
  bind (bop .int .lss s37 s36) fun v38x21 =>
  cnd v38x21
  (bind (ixa 1 s35 s37) fun v39x22 =>
  bind (ld1 v39x22) fun v40x23 =>
  bind (Γ n_netNetTake [s3, (Value.int .u64 0)]) fun v43x24 =>
  bind (extr v43x24 0) fun v44x25 =>
  bind (extr v43x24 1) fun v45x26 =>
  bind (uop .not v45x26) fun v47x27 =>
  bind (gate v47x27 false 5 (bind (b2s v44x25) fun v50x28 =>
  bind (b2s v40x23) fun v52x29 =>
  bind (bop .str .neq v50x28 v52x29) fun v53x30 =>
  ret [v44x25, v50x28, v40x23, v52x29, v53x30])) fun vs_31 =>
  bind (pick v47x27 (Value.bool true) (vs_31.tail.tail.tail.tail.headD undef)) fun v54x32 =>
  cnd v54x32
  (ret (.ret (Value.bool false)))
  (bind (bop .int .add s37 (Value.int .i64 1)) fun v55x33 =>
  ret (.nrm [s3, s35, s36, v55x33])))
  (ret (.ext 2 [s3]))

/-- interrex/interrexlaw30.NetOrder -/
noncomputable def F_law30NetOrder (Γ : Funs) (x0 : Value) : M Value :=
  bind (Γ n_law30Lives []) fun v12x1 =>
  bind (uop .not v12x1) fun v13x2 =>
  bind (gate v13x2 false 3 (bind (lenS x0) fun v16x3 =>
  bind (bop .int .gtr v16x3 (Value.int .i64 128)) fun v17x4 =>
  ret [x0, v16x3, v17x4])) fun vs_5 =>
  bind (pick v13x2 (Value.bool true) (vs_5.tail.tail.headD undef)) fun v18x6 =>
  cnd v18x6
  (bind (Γ n_law30Lives []) fun v19x7 =>
  ret v19x7)
  (bind (Γ n_netNew []) fun v20x8 =>
  bind (lenS x0) fun v22x9 =>
  jn (loopM (fun vs_18 => F_law30NetOrder.l1 Γ ((vs_18.headD undef)) ((vs_18.tail.headD undef)) ((vs_18.tail.tail.headD undef)) ((vs_18.tail.tail.tail.headD undef)) ((vs_18.tail.tail.tail.tail.headD undef))) [x0, v20x8, x0, v22x9, (Value.int .i64 0)]) (fun _ => fail) (fun j_19 vs_19 => bif Nat.beq j_19 0 then (bind (lenS (vs_19.headD undef)) fun v36x20 =>
  jn (loopM (fun vs_34 => F_law30NetOrder.l2 Γ ((vs_34.headD undef)) ((vs_34.tail.headD undef)) ((vs_34.tail.tail.headD undef)) ((vs_34.tail.tail.tail.headD undef))) [(vs_19.tail.headD undef), (vs_19.headD undef), v36x20, (Value.int .i64 0)]) (fun _ => fail) (fun j_35 vs_35 => bif Nat.beq j_35 2 then (bind (Γ n_netNetTake [(vs_35.headD undef), (Value.int .u64 0)]) fun v58x36 =>
  bind (extr v58x36 0) fun v59x37 =>
  bind (extr v58x36 1) fun v60x38 =>
  bind (uop .not v60x38) fun v62x39 =>
  bind (gate v62x39 true 3 (bind (Γ n_netNetLen [(vs_35.headD undef)]) fun v65x40 =>
  bind (bop .int .eql v65x40 (Value.int .i64 0)) fun v66x41 =>
  ret [(vs_35.headD undef), v65x40, v66x41])) fun vs_42 =>
  bind (pick v62x39 (vs_42.tail.tail.headD undef) (Value.bool false)) fun v67x43 =>
  bind (gate v67x43 true 3 (bind (Γ n_netNetLost [(vs_35.headD undef)]) fun v70x44 =>
  bind (bop .int .eql v70x44 (Value.int .i64 0)) fun v71x45 =>
  ret [(vs_35.headD undef), v70x44, v71x45])) fun vs_46 =>
  bind (pick v67x43 (vs_46.tail.tail.headD undef) (Value.bool false)) fun v72x47 =>
  ret v72x47) else fail) (fun w_48 => ret w_48)) else fail) (fun w_49 => ret w_49))

set_option maxRecDepth 100000 in
theorem rf_law30NetOrder (Γ : Funs) (x0 : Value) : runF Try.prog Γ Try.f3 lv_law30NetOrder [x0] = F_law30NetOrder Γ x0 := by kernel_rfl

theorem run_law30NetOrder {prim : FuncId → Option (List Value → M Value)} (hp : prim n_law30NetOrder = none) (n : Nat) (x0 : Value) : run Try.prog prim lvs (n + 1) n_law30NetOrder [x0] = F_law30NetOrder (run Try.prog prim lvs n) x0 :=
  (run_fn hp (by kernel_rfl) Try.func3 (by kernel_rfl)).trans (rf_law30NetOrder _ x0)

/-- interrex/interrexlaw30.NetSpoils: a round. -/
noncomputable def F_law30NetSpoils.l2 (Γ : Funs) (s0 s1 s2 s7 s8 s9 s11 s12 s13 s46 s47 s50 : Value) : M Out :=
  bind (bop .int .lss s50 (Value.int .i64 8)) fun v51x19 =>
  cnd v51x19
  (bind (ixa 1 s0 s13) fun v55x20 =>
  bind (ld1 v55x20) fun v56x21 =>
  bind (ixa 1 s9 s13) fun v59x22 =>
  bind (ld1 v59x22) fun v60x23 =>
  bind (bop .int .xor v56x21 v60x23) fun v61x24 =>
  bind (bop .int .shr v61x24 s50) fun v63x25 =>
  bind (bop .int .and v63x25 (Value.int .u8 1)) fun v64x26 =>
  bind (bop .int .eql v64x26 (Value.int .u8 1)) fun v65x27 =>
  jn (cnd v65x27
  (bind (bop .int .add s11 (Value.int .i64 1)) fun v67x28 =>
  ret (.nrm [s0, s1, s2, s7, s8, s9, v67x28, s12, s13, s46, s47, s50]))
  (ret (.nrm [s0, s1, s2, s7, s8, s9, s11, s12, s13, s46, s47, s50]))) (fun vs_29 =>
  bind (bop .int .add (vs_29.tail.tail.tail.tail.tail.tail.tail.tail.tail.tail.tail.headD undef) (Value.int .i64 1)) fun v68x30 =>
  ret (.nrm [(vs_29.headD undef), (vs_29.tail.headD undef), (vs_29.tail.tail.headD undef), (vs_29.tail.tail.tail.headD undef), (vs_29.tail.tail.tail.tail.headD undef), (vs_29.tail.tail.tail.tail.tail.headD undef), (vs_29.tail.tail.tail.tail.tail.tail.headD undef), (vs_29.tail.tail.tail.tail.tail.tail.tail.headD undef), (vs_29.tail.tail.tail.tail.tail.tail.tail.tail.headD undef), (vs_29.tail.tail.tail.tail.tail.tail.tail.tail.tail.headD undef), (vs_29.tail.tail.tail.tail.tail.tail.tail.tail.tail.tail.headD undef), v68x30])) (fun _ _ => fail) (fun w_31 => ret (.ret w_31)))
  (ret (.ext 2 [s0, s1, s2, s7, s8, s9, s11, s12, s46, s47]))

/-- interrex/interrexlaw30.NetSpoils: a round. -/
noncomputable def F_law30NetSpoils.l1 (Γ : Funs) (s0 s1 s2 s7 s8 s9 s11 s12 s46 s47 : Value) : M Out :=
  bind (bop .int .lss s47 s46) fun v48x18 =>
  cnd v48x18
  (jn (loopM (fun vs_32 => F_law30NetSpoils.l2 Γ ((vs_32.headD undef)) ((vs_32.tail.headD undef)) ((vs_32.tail.tail.headD undef)) ((vs_32.tail.tail.tail.headD undef)) ((vs_32.tail.tail.tail.tail.headD undef)) ((vs_32.tail.tail.tail.tail.tail.headD undef)) ((vs_32.tail.tail.tail.tail.tail.tail.headD undef)) ((vs_32.tail.tail.tail.tail.tail.tail.tail.headD undef)) ((vs_32.tail.tail.tail.tail.tail.tail.tail.tail.headD undef)) ((vs_32.tail.tail.tail.tail.tail.tail.tail.tail.tail.headD undef)) ((vs_32.tail.tail.tail.tail.tail.tail.tail.tail.tail.tail.headD undef)) ((vs_32.tail.tail.tail.tail.tail.tail.tail.tail.tail.tail.tail.headD undef))) [s0, s1, s2, s7, s8, s9, s11, s12, s47, s46, s47, (Value.int .i64 0)]) (fun _ => fail) (fun j_33 vs_33 => bif Nat.beq j_33 2 then (bind (bop .int .add (vs_33.tail.tail.tail.tail.tail.tail.tail.tail.tail.headD undef) (Value.int .i64 1)) fun v69x34 =>
  ret (.nrm [(vs_33.headD undef), (vs_33.tail.headD undef), (vs_33.tail.tail.headD undef), (vs_33.tail.tail.tail.headD undef), (vs_33.tail.tail.tail.tail.headD undef), (vs_33.tail.tail.tail.tail.tail.headD undef), (vs_33.tail.tail.tail.tail.tail.tail.headD undef), (vs_33.tail.tail.tail.tail.tail.tail.tail.headD undef), (vs_33.tail.tail.tail.tail.tail.tail.tail.tail.headD undef), v69x34])) else fail) (fun w_35 => ret (.ret w_35)))
  (ret (.ext 0 [s0, s1, s2, s7, s8, s11, s12]))

/-- interrex/interrexlaw30.NetSpoils: a round. -/
noncomputable def F_law30NetSpoils.l3 (Γ : Funs) (s0 s1 s2 s7 s8 s11 s12 s70 : Value) : M Out :=
  bind (bop .int .lss s70 (Value.int .u64 32)) fun v71x38 =>
  cnd v71x38
  (bind (lenS s0) fun v74x39 =>
  bind (bop .int .gtr v74x39 (Value.int .i64 0)) fun v75x40 =>
  bind (gate v75x40 true 5 (bind (bop .int .shr s2 s70) fun v79x41 =>
  bind (bop .int .and v79x41 (Value.int .u32 1)) fun v80x42 =>
  bind (bop .int .eql v80x42 (Value.int .u32 1)) fun v81x43 =>
  ret [s2, s70, v79x41, v80x42, v81x43])) fun vs_44 =>
  bind (pick v75x40 (vs_44.tail.tail.tail.tail.headD undef) (Value.bool false)) fun v82x45 =>
  bind (gate v82x45 true 13 (bind (lenS s0) fun v86x46 =>
  bind (bop .int .mul (Value.int .i64 8) v86x46) fun v87x47 =>
  bind (cvi .u64 v87x47) fun v88x48 =>
  bind (bop .int .rem s1 v88x48) fun v89x49 =>
  bind (bop .int .add v89x49 s70) fun v91x50 =>
  bind (lenS s0) fun v93x51 =>
  bind (bop .int .mul (Value.int .i64 8) v93x51) fun v94x52 =>
  bind (cvi .u64 v94x52) fun v95x53 =>
  bind (bop .int .lss v91x50 v95x53) fun v96x54 =>
  ret [s1, s0, v86x46, v87x47, v88x48, v89x49, s70, v91x50, s0, v93x51, v94x52, v95x53, v96x54])) fun vs_55 =>
  bind (pick v82x45 (vs_55.tail.tail.tail.tail.tail.tail.tail.tail.tail.tail.tail.tail.headD undef) (Value.bool false)) fun v97x56 =>
  jn (cnd v97x56
  (bind (bop .int .add s12 (Value.int .i64 1)) fun v99x57 =>
  ret (.nrm [s0, s1, s2, s7, s8, s11, v99x57, s70]))
  (ret (.nrm [s0, s1, s2, s7, s8, s11, s12, s70]))) (fun vs_58 =>
  bind (bop .int .add (vs_58.tail.tail.tail.tail.tail.tail.tail.headD undef) (Value.int .u64 1)) fun v100x59 =>
  ret (.nrm [(vs_58.headD undef), (vs_58.tail.headD undef), (vs_58.tail.tail.headD undef), (vs_58.tail.tail.tail.headD undef), (vs_58.tail.tail.tail.tail.headD undef), (vs_58.tail.tail.tail.tail.tail.headD undef), (vs_58.tail.tail.tail.tail.tail.tail.headD undef), v100x59])) (fun _ _ => fail) (fun w_60 => ret (.ret w_60)))
  (ret (.ext 4 [s0, s1, s2, s7, s8, s11, s12]))

/-- interrex/interrexlaw30.NetSpoils -/
noncomputable def F_law30NetSpoils (Γ : Funs) (x0 x1 x2 : Value) : M Value :=
  bind (Γ n_law30Lives []) fun v19x1 =>
  bind (uop .not v19x1) fun v20x2 =>
  bind (gate v20x2 false 3 (bind (lenS x0) fun v23x3 =>
  bind (bop .int .gtr v23x3 (Value.int .i64 100)) fun v24x4 =>
  ret [x0, v23x3, v24x4])) fun vs_5 =>
  bind (pick v20x2 (Value.bool true) (vs_5.tail.tail.headD undef)) fun v25x6 =>
  cnd v25x6
  (bind (Γ n_law30Lives []) fun v26x7 =>
  ret v26x7)
  (bind (Γ n_netNew []) fun v27x8 =>
  bind (Γ n_netNetPut [v27x8, x0]) fun v30x9 =>
  bind (Γ n_netNetSpoil [v27x8, (Value.int .u64 0), x1, x2]) fun v34x10 =>
  bind (Γ n_netNetLook [v27x8, (Value.int .u64 0)]) fun v37x11 =>
  bind (extr v37x11 0) fun v38x12 =>
  bind (extr v37x11 1) fun v39x13 =>
  bind (lenS v38x12) fun v41x14 =>
  bind (lenS x0) fun v43x15 =>
  bind (bop .int .neq v41x14 v43x15) fun v44x16 =>
  cnd v44x16
  (ret (Value.bool false))
  (bind (lenS x0) fun v46x17 =>
  jn (loopM (fun vs_36 => F_law30NetSpoils.l1 Γ ((vs_36.headD undef)) ((vs_36.tail.headD undef)) ((vs_36.tail.tail.headD undef)) ((vs_36.tail.tail.tail.headD undef)) ((vs_36.tail.tail.tail.tail.headD undef)) ((vs_36.tail.tail.tail.tail.tail.headD undef)) ((vs_36.tail.tail.tail.tail.tail.tail.headD undef)) ((vs_36.tail.tail.tail.tail.tail.tail.tail.headD undef)) ((vs_36.tail.tail.tail.tail.tail.tail.tail.tail.headD undef)) ((vs_36.tail.tail.tail.tail.tail.tail.tail.tail.tail.headD undef))) [x0, x1, x2, v27x8, v34x10, v38x12, (Value.int .i64 0), (Value.int .i64 0), v46x17, (Value.int .i64 0)]) (fun _ => fail) (fun j_37 vs_37 => bif Nat.beq j_37 0 then (jn (loopM (fun vs_61 => F_law30NetSpoils.l3 Γ ((vs_61.headD undef)) ((vs_61.tail.headD undef)) ((vs_61.tail.tail.headD undef)) ((vs_61.tail.tail.tail.headD undef)) ((vs_61.tail.tail.tail.tail.headD undef)) ((vs_61.tail.tail.tail.tail.tail.headD undef)) ((vs_61.tail.tail.tail.tail.tail.tail.headD undef)) ((vs_61.tail.tail.tail.tail.tail.tail.tail.headD undef))) [(vs_37.headD undef), (vs_37.tail.headD undef), (vs_37.tail.tail.headD undef), (vs_37.tail.tail.tail.headD undef), (vs_37.tail.tail.tail.tail.headD undef), (vs_37.tail.tail.tail.tail.tail.headD undef), (vs_37.tail.tail.tail.tail.tail.tail.headD undef), (Value.int .u64 0)]) (fun _ => fail) (fun j_62 vs_62 => bif Nat.beq j_62 4 then (bind (Γ n_netNetSpoil [(vs_62.tail.tail.tail.headD undef), (Value.int .u64 0), (vs_62.tail.headD undef), (vs_62.tail.tail.headD undef)]) fun v104x63 =>
  bind (Γ n_netNetLook [(vs_62.tail.tail.tail.headD undef), (Value.int .u64 0)]) fun v107x64 =>
  bind (extr v107x64 0) fun v108x65 =>
  bind (extr v107x64 1) fun v109x66 =>
  bind (bop .int .eql (vs_62.tail.tail.tail.tail.tail.headD undef) (vs_62.tail.tail.tail.tail.tail.tail.headD undef)) fun v112x67 =>
  bind (gate v112x67 true 4 (bind (bop .int .gtr (vs_62.tail.tail.tail.tail.tail.tail.headD undef) (Value.int .i64 0)) fun v116x68 =>
  bind (bop .bool .eql (vs_62.tail.tail.tail.tail.headD undef) v116x68) fun v117x69 =>
  ret [(vs_62.tail.tail.tail.tail.headD undef), (vs_62.tail.tail.tail.tail.tail.tail.headD undef), v116x68, v117x69])) fun vs_70 =>
  bind (pick v112x67 (vs_70.tail.tail.tail.headD undef) (Value.bool false)) fun v118x71 =>
  bind (gate v118x71 true 3 (bind (bop .bool .eql v104x63 (vs_62.tail.tail.tail.tail.headD undef)) fun v122x72 =>
  ret [v104x63, (vs_62.tail.tail.tail.tail.headD undef), v122x72])) fun vs_73 =>
  bind (pick v118x71 (vs_73.tail.tail.headD undef) (Value.bool false)) fun v123x74 =>
  bind (gate v123x74 true 5 (bind (b2s v108x65) fun v126x75 =>
  bind (b2s (vs_62.headD undef)) fun v128x76 =>
  bind (bop .str .eql v126x75 v128x76) fun v129x77 =>
  ret [v108x65, v126x75, (vs_62.headD undef), v128x76, v129x77])) fun vs_78 =>
  bind (pick v123x74 (vs_78.tail.tail.tail.tail.headD undef) (Value.bool false)) fun v130x79 =>
  ret v130x79) else fail) (fun w_80 => ret w_80)) else fail) (fun w_81 => ret w_81)))

set_option maxRecDepth 100000 in
theorem rf_law30NetSpoils (Γ : Funs) (x0 x1 x2 : Value) : runF Try.prog Γ Try.f4 lv_law30NetSpoils [x0, x1, x2] = F_law30NetSpoils Γ x0 x1 x2 := by kernel_rfl

theorem run_law30NetSpoils {prim : FuncId → Option (List Value → M Value)} (hp : prim n_law30NetSpoils = none) (n : Nat) (x0 x1 x2 : Value) : run Try.prog prim lvs (n + 1) n_law30NetSpoils [x0, x1, x2] = F_law30NetSpoils (run Try.prog prim lvs n) x0 x1 x2 :=
  (run_fn hp (by kernel_rfl) Try.func4 (by kernel_rfl)).trans (rf_law30NetSpoils _ x0 x1 x2)

/-- interrex/interrexlaw30.NetHonest: a round. -/
noncomputable def F_law30NetHonest.l2 (Γ : Funs) (s3 s4 s5 s11 s25 s26 s27 s84 s85 : Value) : M Out :=
  bind (bop .int .lss s85 s84) fun v86x63 =>
  cnd v86x63
  (bind (Γ n_netNetLook [s3, s85]) fun v91x64 =>
  bind (extr v91x64 0) fun v92x65 =>
  bind (extr v91x64 1) fun v93x66 =>
  bind (b2s v92x65) fun v96x67 =>
  bind (lkp .str (.int .i64 0) false s11 v96x67) fun v97x68 =>
  bind (bop .int .add v97x68 (Value.int .i64 1)) fun v98x69 =>
  bind (mup .str s11 v96x67 v98x69) fun _ =>
  bind (b2s v92x65) fun v101x70 =>
  bind (lkp .str (.int .i64 0) false s11 v101x70) fun v102x71 =>
  bind (b2s v92x65) fun v105x72 =>
  bind (lkp .str (.int .i64 0) false s4 v105x72) fun v106x73 =>
  bind (bop .int .gtr v102x71 v106x73) fun v107x74 =>
  cnd v107x74
  (ret (.ret (Value.bool false)))
  (bind (bop .int .add s85 (Value.int .u64 1)) fun v108x75 =>
  ret (.nrm [s3, s4, s5, s11, s25, s26, s27, s84, v108x75])))
  (ret (.ext 2 [s3, s4, s5, s25, s26, s27]))

/-- interrex/interrexlaw30.NetHonest: a round. -/
noncomputable def F_law30NetHonest.l1 (Γ : Funs) (s3 s4 s5 s25 s26 s27 : Value) : M Out :=
  bind (bop .int .lss s27 s26) fun v28x12 =>
  cnd v28x12
  (bind (ixa 5 s25 s27) fun v29x13 =>
  bind (ldA 5 v29x13) fun v30x14 =>
  bind (alc 1 (.agg #[.int .u8 0, .slice none 0 0, .int .u64 0, .int .u64 0, .int .u32 0])) fun v7x15 =>
  bind (stA 5 v7x15 v30x14) fun _ =>
  bind (fa 0 v7x15) fun v31x16 =>
  bind (ld1 v31x16) fun v32x17 =>
  bind (bop .int .rem v32x17 (Value.int .u8 8)) fun v33x18 =>
  bind (bop .int .eql v33x18 (Value.int .u8 4)) fun v34x19 =>
  jn (cnd v34x19
  (bind (fa 0 v7x15) fun v35x20 =>
  bind (st1 v35x20 (Value.int .u8 0)) fun _ =>
  ret (.nrm [s3, s4, s5, v7x15, s25, s26, s27]))
  (ret (.nrm [s3, s4, s5, v7x15, s25, s26, s27]))) (fun vs_21 =>
  bind (fa 2 (vs_21.tail.tail.tail.headD undef)) fun v38x22 =>
  bind (ld1 v38x22) fun v39x23 =>
  bind (Γ n_netNetLook [(vs_21.headD undef), v39x23]) fun v40x24 =>
  bind (extr v40x24 0) fun v41x25 =>
  bind (extr v40x24 1) fun v42x26 =>
  bind (gate v42x26 true 4 (bind (fa 0 (vs_21.tail.tail.tail.headD undef)) fun v45x27 =>
  bind (ld1 v45x27) fun v46x28 =>
  bind (bop .int .rem v46x28 (Value.int .u8 8)) fun v47x29 =>
  bind (bop .int .eql v47x29 (Value.int .u8 3)) fun v48x30 =>
  ret [v45x27, v46x28, v47x29, v48x30])) fun vs_31 =>
  bind (pick v42x26 (vs_31.tail.tail.tail.headD undef) (Value.bool false)) fun v49x32 =>
  jn (cnd v49x32
  (bind (b2s v41x25) fun v52x33 =>
  bind (lkp .str (.int .i64 0) false (vs_21.tail.headD undef) v52x33) fun v53x34 =>
  bind (bop .int .add v53x34 (Value.int .i64 1)) fun v54x35 =>
  bind (mup .str (vs_21.tail.headD undef) v52x33 v54x35) fun _ =>
  ret (.nrm [(vs_21.headD undef), (vs_21.tail.headD undef), (vs_21.tail.tail.headD undef), (vs_21.tail.tail.tail.headD undef), (vs_21.tail.tail.tail.tail.headD undef), (vs_21.tail.tail.tail.tail.tail.headD undef), (vs_21.tail.tail.tail.tail.tail.tail.headD undef)]))
  (ret (.nrm [(vs_21.headD undef), (vs_21.tail.headD undef), (vs_21.tail.tail.headD undef), (vs_21.tail.tail.tail.headD undef), (vs_21.tail.tail.tail.tail.headD undef), (vs_21.tail.tail.tail.tail.tail.headD undef), (vs_21.tail.tail.tail.tail.tail.tail.headD undef)]))) (fun vs_36 =>
  bind (fa 0 (vs_36.tail.tail.tail.headD undef)) fun v55x37 =>
  bind (ld1 v55x37) fun v56x38 =>
  bind (bop .int .rem v56x38 (Value.int .u8 8)) fun v57x39 =>
  bind (bop .int .lss v57x39 (Value.int .u8 2)) fun v59x40 =>
  jn (cnd v59x40
  (bind (fa 1 (vs_36.tail.tail.tail.headD undef)) fun v61x41 =>
  bind (ld1 v61x41) fun v62x42 =>
  bind (b2s v62x42) fun v63x43 =>
  bind (lkp .str (.int .i64 0) false (vs_36.tail.headD undef) v63x43) fun v64x44 =>
  bind (bop .int .add v64x44 (Value.int .i64 1)) fun v65x45 =>
  bind (mup .str (vs_36.tail.headD undef) v63x43 v65x45) fun _ =>
  ret (.nrm [(vs_36.headD undef), (vs_36.tail.headD undef), (vs_36.tail.tail.headD undef), (vs_36.tail.tail.tail.headD undef), (vs_36.tail.tail.tail.tail.headD undef), (vs_36.tail.tail.tail.tail.tail.headD undef), (vs_36.tail.tail.tail.tail.tail.tail.headD undef)]))
  (bind (bop .int .eql v57x39 (Value.int .u8 7)) fun v67x46 =>
  jn (cnd v67x46
  (bind (fa 1 (vs_36.tail.tail.tail.headD undef)) fun v69x47 =>
  bind (ld1 v69x47) fun v70x48 =>
  bind (b2s v70x48) fun v71x49 =>
  bind (lkp .str (.int .i64 0) false (vs_36.tail.headD undef) v71x49) fun v72x50 =>
  bind (bop .int .add v72x50 (Value.int .i64 60)) fun v73x51 =>
  bind (mup .str (vs_36.tail.headD undef) v71x49 v73x51) fun _ =>
  ret (.nrm [(vs_36.headD undef), (vs_36.tail.headD undef), (vs_36.tail.tail.headD undef), (vs_36.tail.tail.tail.headD undef), (vs_36.tail.tail.tail.tail.headD undef), (vs_36.tail.tail.tail.tail.tail.headD undef), (vs_36.tail.tail.tail.tail.tail.tail.headD undef)]))
  (ret (.nrm [(vs_36.headD undef), (vs_36.tail.headD undef), (vs_36.tail.tail.headD undef), (vs_36.tail.tail.tail.headD undef), (vs_36.tail.tail.tail.tail.headD undef), (vs_36.tail.tail.tail.tail.tail.headD undef), (vs_36.tail.tail.tail.tail.tail.tail.headD undef)]))) (fun vs_52 =>
  ret (.nrm [(vs_52.headD undef), (vs_52.tail.headD undef), (vs_52.tail.tail.headD undef), (vs_52.tail.tail.tail.headD undef), (vs_52.tail.tail.tail.tail.headD undef), (vs_52.tail.tail.tail.tail.tail.headD undef), (vs_52.tail.tail.tail.tail.tail.tail.headD undef)])) (fun _ _ => fail) (fun w_53 => ret (.ret w_53)))) (fun vs_54 =>
  bind (ldA 2 (vs_54.tail.tail.headD undef)) fun v76x55 =>
  bind (ldA 5 (vs_54.tail.tail.tail.headD undef)) fun v77x56 =>
  bind (Γ n_law30Do [(vs_54.headD undef), v76x55, v77x56]) fun v78x57 =>
  bind (extr v78x57 0) fun v79x58 =>
  bind (extr v78x57 1) fun v80x59 =>
  bind (stA 2 (vs_54.tail.tail.headD undef) v79x58) fun _ =>
  bind (mkm) fun v81x60 =>
  bind (Γ n_netNetLen [(vs_54.headD undef)]) fun v83x61 =>
  bind (cvi .u64 v83x61) fun v84x62 =>
  jn (loopM (fun vs_76 => F_law30NetHonest.l2 Γ ((vs_76.headD undef)) ((vs_76.tail.headD undef)) ((vs_76.tail.tail.headD undef)) ((vs_76.tail.tail.tail.headD undef)) ((vs_76.tail.tail.tail.tail.headD undef)) ((vs_76.tail.tail.tail.tail.tail.headD undef)) ((vs_76.tail.tail.tail.tail.tail.tail.headD undef)) ((vs_76.tail.tail.tail.tail.tail.tail.tail.headD undef)) ((vs_76.tail.tail.tail.tail.tail.tail.tail.tail.headD undef))) [(vs_54.headD undef), (vs_54.tail.headD undef), (vs_54.tail.tail.headD undef), v81x60, (vs_54.tail.tail.tail.tail.headD undef), (vs_54.tail.tail.tail.tail.tail.headD undef), (vs_54.tail.tail.tail.tail.tail.tail.headD undef), v84x62, (Value.int .u64 0)]) (fun _ => fail) (fun j_77 vs_77 => bif Nat.beq j_77 2 then (bind (bop .int .add (vs_77.tail.tail.tail.tail.tail.headD undef) (Value.int .i64 1)) fun v109x78 =>
  ret (.nrm [(vs_77.headD undef), (vs_77.tail.headD undef), (vs_77.tail.tail.headD undef), (vs_77.tail.tail.tail.headD undef), (vs_77.tail.tail.tail.tail.headD undef), v109x78])) else fail) (fun w_79 => ret (.ret w_79))) (fun _ _ => fail) (fun w_80 => ret (.ret w_80))) (fun _ _ => fail) (fun w_81 => ret (.ret w_81))) (fun _ _ => fail) (fun w_82 => ret (.ret w_82)))
  (ret (.ext 0 [s3]))

/-- interrex/interrexlaw30.NetHonest -/
noncomputable def F_law30NetHonest (Γ : Funs) (x0 : Value) : M Value :=
  bind (Γ n_law30Lives []) fun v15x1 =>
  bind (uop .not v15x1) fun v16x2 =>
  bind (gate v16x2 false 3 (bind (Γ n_law30Few [x0]) fun v19x3 =>
  bind (uop .not v19x3) fun v20x4 =>
  ret [x0, v19x3, v20x4])) fun vs_5 =>
  bind (pick v16x2 (Value.bool true) (vs_5.tail.tail.headD undef)) fun v21x6 =>
  cnd v21x6
  (bind (Γ n_law30Lives []) fun v22x7 =>
  ret v22x7)
  (bind (Γ n_netNew []) fun v23x8 =>
  bind (mkm) fun v24x9 =>
  bind (alc 1 (.agg #[.slice none 0 0, .int .i64 0])) fun v5x10 =>
  bind (lenS x0) fun v26x11 =>
  jn (loopM (fun vs_83 => F_law30NetHonest.l1 Γ ((vs_83.headD undef)) ((vs_83.tail.headD undef)) ((vs_83.tail.tail.headD undef)) ((vs_83.tail.tail.tail.headD undef)) ((vs_83.tail.tail.tail.tail.headD undef)) ((vs_83.tail.tail.tail.tail.tail.headD undef))) [v23x8, v24x9, v5x10, x0, v26x11, (Value.int .i64 0)]) (fun _ => fail) (fun j_84 vs_84 => bif Nat.beq j_84 0 then (bind (Γ n_netNetLen [(vs_84.headD undef)]) fun v111x85 =>
  bind (bop .int .leq v111x85 (Value.int .i64 128)) fun v112x86 =>
  ret v112x86) else fail) (fun w_87 => ret w_87))

set_option maxRecDepth 100000 in
theorem rf_law30NetHonest (Γ : Funs) (x0 : Value) : runF Try.prog Γ Try.f5 lv_law30NetHonest [x0] = F_law30NetHonest Γ x0 := by kernel_rfl

theorem run_law30NetHonest {prim : FuncId → Option (List Value → M Value)} (hp : prim n_law30NetHonest = none) (n : Nat) (x0 : Value) : run Try.prog prim lvs (n + 1) n_law30NetHonest [x0] = F_law30NetHonest (run Try.prog prim lvs n) x0 :=
  (run_fn hp (by kernel_rfl) Try.func5 (by kernel_rfl)).trans (rf_law30NetHonest _ x0)

/-- interrex/interrexlaw30.NetPlays: a round. -/
noncomputable def F_law30NetPlays.l3 (Γ : Funs) (s3 s4 s9 s23 s24 s25 s55 s56 s78 s79 : Value) : M Out :=
  bind (bop .int .lss s79 s78) fun v80x53 =>
  cnd v80x53
  (bind (ixa 1 s9 s79) fun v84x54 =>
  bind (ld1 v84x54) fun v85x55 =>
  bind (bop .int .add v85x55 (Value.int .u8 1)) fun v86x56 =>
  bind (ixa 1 s9 s79) fun v87x57 =>
  bind (st1 v87x57 v86x56) fun _ =>
  bind (bop .int .add s79 (Value.int .i64 1)) fun v88x58 =>
  ret (.nrm [s3, s4, s9, s23, s24, s25, s55, s56, s78, v88x58]))
  (ret (.ext 4 [s3, s4, s23, s24, s25, s55, s56]))

/-- interrex/interrexlaw30.NetPlays: a round. -/
noncomputable def F_law30NetPlays.l2 (Γ : Funs) (s3 s4 s23 s24 s25 s55 s56 : Value) : M Out :=
  bind (bop .int .lss s56 s55) fun v57x38 =>
  cnd v57x38
  (bind (Γ n_netNetLook [s3, s56]) fun v62x39 =>
  bind (extr v62x39 0) fun v63x40 =>
  bind (extr v62x39 1) fun v64x41 =>
  bind (uop .not v64x41) fun v66x42 =>
  bind (gateV v66x42 false (ret v63x40)) fun v68x43 =>
  bind (gateV v66x42 false (b2s v68x43)) fun v69x44 =>
  bind (gateV v66x42 false (fa 0 s4)) fun v70x45 =>
  bind (gateV v66x42 false (ld1 v70x45)) fun v71x46 =>
  bind (gateV v66x42 false (ret s56)) fun v72x47 =>
  bind (gateV v66x42 false (ixa 1 v71x46 v72x47)) fun v73x48 =>
  bind (gateV v66x42 false (ld1 v73x48)) fun v74x49 =>
  bind (gateV v66x42 false (bop .str .neq v69x44 v74x49)) fun v75x50 =>
  bind (pick v66x42 (Value.bool true) v75x50) fun v76x51 =>
  cnd v76x51
  (ret (.ret (Value.bool false)))
  (bind (lenS v63x40) fun v78x52 =>
  jn (loopM (fun vs_59 => F_law30NetPlays.l3 Γ ((vs_59.headD undef)) ((vs_59.tail.headD undef)) ((vs_59.tail.tail.headD undef)) ((vs_59.tail.tail.tail.headD undef)) ((vs_59.tail.tail.tail.tail.headD undef)) ((vs_59.tail.tail.tail.tail.tail.headD undef)) ((vs_59.tail.tail.tail.tail.tail.tail.headD undef)) ((vs_59.tail.tail.tail.tail.tail.tail.tail.headD undef)) ((vs_59.tail.tail.tail.tail.tail.tail.tail.tail.headD undef)) ((vs_59.tail.tail.tail.tail.tail.tail.tail.tail.tail.headD undef))) [s3, s4, v63x40, s23, s24, s25, s55, s56, v78x52, (Value.int .i64 0)]) (fun _ => fail) (fun j_60 vs_60 => bif Nat.beq j_60 4 then (bind (bop .int .add (vs_60.tail.tail.tail.tail.tail.tail.headD undef) (Value.int .u64 1)) fun v89x61 =>
  ret (.nrm [(vs_60.headD undef), (vs_60.tail.headD undef), (vs_60.tail.tail.headD undef), (vs_60.tail.tail.tail.headD undef), (vs_60.tail.tail.tail.tail.headD undef), (vs_60.tail.tail.tail.tail.tail.headD undef), v89x61])) else fail) (fun w_62 => ret (.ret w_62))))
  (ret (.ext 2 [s3, s4, s23, s24, s25]))

/-- interrex/interrexlaw30.NetPlays: a round. -/
noncomputable def F_law30NetPlays.l1 (Γ : Funs) (s3 s4 s23 s24 s25 : Value) : M Out :=
  bind (bop .int .lss s25 s24) fun v26x11 =>
  cnd v26x11
  (bind (ixa 5 s23 s25) fun v27x12 =>
  bind (ldA 5 v27x12) fun v28x13 =>
  bind (alc 1 (.agg #[.int .u8 0, .slice none 0 0, .int .u64 0, .int .u64 0, .int .u32 0])) fun v6x14 =>
  bind (stA 5 v6x14 v28x13) fun _ =>
  bind (ldA 2 s4) fun v31x15 =>
  bind (ldA 5 v6x14) fun v32x16 =>
  bind (Γ n_law30Do [s3, v31x15, v32x16]) fun v33x17 =>
  bind (extr v33x17 0) fun v34x18 =>
  bind (extr v33x17 1) fun v35x19 =>
  bind (stA 2 s4 v34x18) fun _ =>
  bind (uop .not v35x19) fun v37x20 =>
  bind (gateV v37x20 false (ret s3)) fun v39x21 =>
  bind (gateV v37x20 false (fa 0 s4)) fun v41x22 =>
  bind (gateV v37x20 false (ld1 v41x22)) fun v42x23 =>
  bind (gateV v37x20 false (lenS v42x23)) fun v43x24 =>
  bind (gateV v37x20 false (Γ n_netNetLen [v39x21])) fun v40x25 =>
  bind (gateV v37x20 false (ld1 v41x22)) fun u_26 => same u_26 v42x23 <|
  bind (gateV v37x20 false (bop .int .neq v40x25 v43x24)) fun v44x27 =>
  bind (pick v37x20 (Value.bool true) v44x27) fun v45x28 =>
  bind (gateV v45x28 false (ret s3)) fun v47x29 =>
  bind (gateV v45x28 false (fa 1 s4)) fun v49x30 =>
  bind (gateV v45x28 false (ld1 v49x30)) fun v50x31 =>
  bind (gateV v45x28 false (Γ n_netNetLost [v47x29])) fun v48x32 =>
  bind (gateV v45x28 false (ld1 v49x30)) fun u_33 => same u_33 v50x31 <|
  bind (gateV v45x28 false (bop .int .neq v48x32 v50x31)) fun v51x34 =>
  bind (pick v45x28 (Value.bool true) v51x34) fun v52x35 =>
  cnd v52x35
  (ret (.ret (Value.bool false)))
  (bind (Γ n_netNetLen [s3]) fun v54x36 =>
  bind (cvi .u64 v54x36) fun v55x37 =>
  jn (loopM (fun vs_63 => F_law30NetPlays.l2 Γ ((vs_63.headD undef)) ((vs_63.tail.headD undef)) ((vs_63.tail.tail.headD undef)) ((vs_63.tail.tail.tail.headD undef)) ((vs_63.tail.tail.tail.tail.headD undef)) ((vs_63.tail.tail.tail.tail.tail.headD undef)) ((vs_63.tail.tail.tail.tail.tail.tail.headD undef))) [s3, s4, s23, s24, s25, v55x37, (Value.int .u64 0)]) (fun _ => fail) (fun j_64 vs_64 => bif Nat.beq j_64 2 then (bind (bop .int .add (vs_64.tail.tail.tail.tail.headD undef) (Value.int .i64 1)) fun v90x65 =>
  ret (.nrm [(vs_64.headD undef), (vs_64.tail.headD undef), (vs_64.tail.tail.headD undef), (vs_64.tail.tail.tail.headD undef), v90x65])) else fail) (fun w_66 => ret (.ret w_66))))
  (ret (.ext 0 []))

/-- interrex/interrexlaw30.NetPlays -/
noncomputable def F_law30NetPlays (Γ : Funs) (x0 : Value) : M Value :=
  bind (Γ n_law30Lives []) fun v14x1 =>
  bind (uop .not v14x1) fun v15x2 =>
  bind (gate v15x2 false 3 (bind (Γ n_law30Few [x0]) fun v18x3 =>
  bind (uop .not v18x3) fun v19x4 =>
  ret [x0, v18x3, v19x4])) fun vs_5 =>
  bind (pick v15x2 (Value.bool true) (vs_5.tail.tail.headD undef)) fun v20x6 =>
  cnd v20x6
  (bind (Γ n_law30Lives []) fun v21x7 =>
  ret v21x7)
  (bind (Γ n_netNew []) fun v22x8 =>
  bind (alc 1 (.agg #[.slice none 0 0, .int .i64 0])) fun v4x9 =>
  bind (lenS x0) fun v24x10 =>
  jn (loopM (fun vs_67 => F_law30NetPlays.l1 Γ ((vs_67.headD undef)) ((vs_67.tail.headD undef)) ((vs_67.tail.tail.headD undef)) ((vs_67.tail.tail.tail.headD undef)) ((vs_67.tail.tail.tail.tail.headD undef))) [v22x8, v4x9, x0, v24x10, (Value.int .i64 0)]) (fun _ => fail) (fun j_68 vs_68 => bif Nat.beq j_68 0 then (bind (Γ n_netNew []) fun v92x69 =>
  bind (Γ n_netNetLook [v92x69, (Value.int .u64 0)]) fun v93x70 =>
  bind (extr v93x70 0) fun v94x71 =>
  bind (extr v93x70 1) fun v95x72 =>
  bind (uop .not v95x72) fun v97x73 =>
  ret v97x73) else fail) (fun w_74 => ret w_74))

set_option maxRecDepth 100000 in
theorem rf_law30NetPlays (Γ : Funs) (x0 : Value) : runF Try.prog Γ Try.f6 lv_law30NetPlays [x0] = F_law30NetPlays Γ x0 := by kernel_rfl

theorem run_law30NetPlays {prim : FuncId → Option (List Value → M Value)} (hp : prim n_law30NetPlays = none) (n : Nat) (x0 : Value) : run Try.prog prim lvs (n + 1) n_law30NetPlays [x0] = F_law30NetPlays (run Try.prog prim lvs n) x0 :=
  (run_fn hp (by kernel_rfl) Try.func6 (by kernel_rfl)).trans (rf_law30NetPlays _ x0)

/-- interrex/interrexlaw30.lives -/
noncomputable def F_law30Lives (Γ : Funs) : M Value :=
  bind (Γ n_netNew []) fun v4x1 =>
  bind (bop .ptr .eql v4x1 (Value.pointer none)) fun v6x2 =>
  bind (gate v6x2 false 5 (bind (bsl 1 1 (.int .u8 0) [(0, 1, (Value.int .u8 97))]) fun v9x3 =>
  bind (mrk v9x3) fun v10x4 =>
  bind (Γ n_netNetPut [v4x1, v10x4]) fun v11x5 =>
  bind (uop .not v11x5) fun v12x6 =>
  ret [v4x1, v9x3, v10x4, v11x5, v12x6])) fun vs_7 =>
  bind (pick v6x2 (Value.bool true) (vs_7.tail.tail.tail.tail.headD undef)) fun v13x8 =>
  bind (gate v13x8 false 5 (bind (bsl 1 1 (.int .u8 0) [(0, 1, (Value.int .u8 98))]) fun v16x9 =>
  bind (mrk v16x9) fun v17x10 =>
  bind (Γ n_netNetPut [v4x1, v17x10]) fun v18x11 =>
  bind (uop .not v18x11) fun v19x12 =>
  ret [v4x1, v16x9, v17x10, v18x11, v19x12])) fun vs_13 =>
  bind (pick v13x8 (Value.bool true) (vs_13.tail.tail.tail.tail.headD undef)) fun v20x14 =>
  cnd v20x14
  (ret (Value.bool false))
  (bind (Γ n_netNetTake [v4x1, (Value.int .u64 2)]) fun v23x15 =>
  bind (extr v23x15 0) fun v24x16 =>
  bind (extr v23x15 1) fun v25x17 =>
  bind (gate v25x17 true 3 (bind (b2s v24x16) fun v29x18 =>
  bind (bop .str .eql v29x18 (Value.string ⟨#[97]⟩)) fun v30x19 =>
  ret [v24x16, v29x18, v30x19])) fun vs_20 =>
  bind (pick v25x17 (vs_20.tail.tail.headD undef) (Value.bool false)) fun v31x21 =>
  bind (gate v31x21 true 3 (bind (Γ n_netNetLen [v4x1]) fun v34x22 =>
  bind (bop .int .eql v34x22 (Value.int .i64 1)) fun v35x23 =>
  ret [v4x1, v34x22, v35x23])) fun vs_24 =>
  bind (pick v31x21 (vs_24.tail.tail.headD undef) (Value.bool false)) fun v36x25 =>
  ret v36x25)

set_option maxRecDepth 100000 in
theorem rf_law30Lives (Γ : Funs) : runF Try.prog Γ Try.f7 lv_law30Lives [] = F_law30Lives Γ  := by kernel_rfl

theorem run_law30Lives {prim : FuncId → Option (List Value → M Value)} (hp : prim n_law30Lives = none) (n : Nat) : run Try.prog prim lvs (n + 1) n_law30Lives [] = F_law30Lives (run Try.prog prim lvs n)  :=
  (run_fn hp (by kernel_rfl) Try.func7 (by kernel_rfl)).trans (rf_law30Lives _ )

/-- interrex/net.New -/
noncomputable def F_netNew (Γ : Funs) : M Value :=
  bind (bld (.agg #[.slice none 0 0, .int .i64 0]) []) fun v1x1 =>
  bind (alc 1 v1x1) fun v2x2 =>
  ret v2x2

set_option maxRecDepth 100000 in
theorem rf_netNew (Γ : Funs) : runF Try.prog Γ Try.f8 lv_netNew [] = F_netNew Γ  := by kernel_rfl

theorem run_netNew {prim : FuncId → Option (List Value → M Value)} (hp : prim n_netNew = none) (n : Nat) : run Try.prog prim lvs (n + 1) n_netNew [] = F_netNew (run Try.prog prim lvs n)  :=
  (run_fn hp (by kernel_rfl) Try.func8 (by kernel_rfl)).trans (rf_netNew _ )

/-- (*interrex/net.Net).Put -/
noncomputable def F_netNetPut (Γ : Funs) (x0 x1 : Value) : M Value :=
  bind (nilc x0) fun v6x1 =>
  bind (fa 0 v6x1) fun v7x2 =>
  bind (ld1 v7x2) fun v8x3 =>
  bind (lenS v8x3) fun v9x4 =>
  bind (bop .int .geq v9x4 (Value.int .i64 128)) fun v10x5 =>
  cnd v10x5
  (bind (nilc x0) fun v12x6 =>
  bind (fa 1 v12x6) fun v13x7 =>
  bind (ld1 v13x7) fun v14x8 =>
  bind (bop .int .add v14x8 (Value.int .i64 1)) fun v15x9 =>
  bind (nilc x0) fun v16x10 =>
  bind (fa 1 v16x10) fun v17x11 =>
  bind (st1 v17x11 v15x9) fun _ =>
  ret (Value.bool false))
  (bind (nilc x0) fun v20x12 =>
  bind (fa 0 v20x12) fun v21x13 =>
  bind (ld1 v21x13) fun v22x14 =>
  bind (Γ n_bytesClone [x1]) fun v24x15 =>
  bind (ld1 v21x13) fun u_16 => same u_16 v22x14 <|
  bind (bsl 1 1 (.slice none 0 0) [(0, 1, v24x15)]) fun v25x17 =>
  bind (ld1 v21x13) fun u_18 => same u_18 v22x14 <|
  bind (app 1 24 v22x14 v25x17) fun v26x19 =>
  bind (nilc x0) fun v27x20 =>
  bind (fa 0 v27x20) fun v28x21 =>
  bind (st1 v28x21 v26x19) fun _ =>
  ret (Value.bool true))

set_option maxRecDepth 100000 in
theorem rf_netNetPut (Γ : Funs) (x0 x1 : Value) : runF Try.prog Γ Try.f9 lv_netNetPut [x0, x1] = F_netNetPut Γ x0 x1 := by kernel_rfl

theorem run_netNetPut {prim : FuncId → Option (List Value → M Value)} (hp : prim n_netNetPut = none) (n : Nat) (x0 x1 : Value) : run Try.prog prim lvs (n + 1) n_netNetPut [x0, x1] = F_netNetPut (run Try.prog prim lvs n) x0 x1 :=
  (run_fn hp (by kernel_rfl) Try.func9 (by kernel_rfl)).trans (rf_netNetPut _ x0 x1)

/-- (*interrex/net.Net).Take -/
noncomputable def F_netNetTake (Γ : Funs) (x0 x1 : Value) : M Value :=
  bind (Γ n_netNetLook [x0, x1]) fun v12x1 =>
  bind (extr v12x1 0) fun v13x2 =>
  bind (extr v12x1 1) fun v14x3 =>
  jn (cnd v14x3
  (bind (Γ n_netNetPlace [x0, x1]) fun v18x4 =>
  bind (nilc x0) fun v21x5 =>
  bind (fa 0 v21x5) fun v22x6 =>
  bind (ld1 v22x6) fun v23x7 =>
  bind (bop .int .add v18x4 (Value.int .i64 1)) fun v26x8 =>
  bind (Γ n_slicesDeletebyteByte [v23x7, v18x4, v26x8]) fun v27x9 =>
  bind (nilc x0) fun v28x10 =>
  bind (fa 0 v28x10) fun v29x11 =>
  bind (st1 v29x11 v27x9) fun _ =>
  ret (.nrm [v13x2, v14x3]))
  (ret (.nrm [v13x2, v14x3]))) (fun vs_12 =>
  ret (Value.tuple #[(vs_12.headD undef), (vs_12.tail.headD undef)])) (fun _ _ => fail) (fun w_13 => ret w_13)

set_option maxRecDepth 100000 in
theorem rf_netNetTake (Γ : Funs) (x0 x1 : Value) : runF Try.prog Γ Try.f10 lv_netNetTake [x0, x1] = F_netNetTake Γ x0 x1 := by kernel_rfl

theorem run_netNetTake {prim : FuncId → Option (List Value → M Value)} (hp : prim n_netNetTake = none) (n : Nat) (x0 x1 : Value) : run Try.prog prim lvs (n + 1) n_netNetTake [x0, x1] = F_netNetTake (run Try.prog prim lvs n) x0 x1 :=
  (run_fn hp (by kernel_rfl) Try.func10 (by kernel_rfl)).trans (rf_netNetTake _ x0 x1)

/-- (*interrex/net.Net).Len -/
noncomputable def F_netNetLen (Γ : Funs) (x0 : Value) : M Value :=
  bind (nilc x0) fun v4x1 =>
  bind (fa 0 v4x1) fun v5x2 =>
  bind (ld1 v5x2) fun v6x3 =>
  bind (lenS v6x3) fun v7x4 =>
  ret v7x4

set_option maxRecDepth 100000 in
theorem rf_netNetLen (Γ : Funs) (x0 : Value) : runF Try.prog Γ Try.f11 lv_netNetLen [x0] = F_netNetLen Γ x0 := by kernel_rfl

theorem run_netNetLen {prim : FuncId → Option (List Value → M Value)} (hp : prim n_netNetLen = none) (n : Nat) (x0 : Value) : run Try.prog prim lvs (n + 1) n_netNetLen [x0] = F_netNetLen (run Try.prog prim lvs n) x0 :=
  (run_fn hp (by kernel_rfl) Try.func11 (by kernel_rfl)).trans (rf_netNetLen _ x0)

/-- (*interrex/net.Net).Lost -/
noncomputable def F_netNetLost (Γ : Funs) (x0 : Value) : M Value :=
  bind (nilc x0) fun v4x1 =>
  bind (fa 1 v4x1) fun v5x2 =>
  bind (ld1 v5x2) fun v6x3 =>
  ret v6x3

set_option maxRecDepth 100000 in
theorem rf_netNetLost (Γ : Funs) (x0 : Value) : runF Try.prog Γ Try.f12 lv_netNetLost [x0] = F_netNetLost Γ x0 := by kernel_rfl

theorem run_netNetLost {prim : FuncId → Option (List Value → M Value)} (hp : prim n_netNetLost = none) (n : Nat) (x0 : Value) : run Try.prog prim lvs (n + 1) n_netNetLost [x0] = F_netNetLost (run Try.prog prim lvs n) x0 :=
  (run_fn hp (by kernel_rfl) Try.func12 (by kernel_rfl)).trans (rf_netNetLost _ x0)

/-- (*interrex/net.Net).Spoil: a round. -/
noncomputable def F_netNetSpoil.l1 (Γ : Funs) (s3 s10 s11 s12 s44 : Value) : M Out :=
  bind (bop .int .lss s44 (Value.int .u64 32)) fun v45x21 =>
  cnd v45x21
  (bind (bop .int .add s11 s44) fun v49x22 =>
  bind (bop .int .shr s3 s44) fun v52x23 =>
  bind (bop .int .and v52x23 (Value.int .u32 1)) fun v53x24 =>
  bind (bop .int .eql v53x24 (Value.int .u32 1)) fun v54x25 =>
  bind (gate v54x25 true 6 (bind (lenS s10) fun v58x26 =>
  bind (bop .int .mul (Value.int .i64 8) v58x26) fun v59x27 =>
  bind (cvi .u64 v59x27) fun v60x28 =>
  bind (bop .int .lss v49x22 v60x28) fun v61x29 =>
  ret [v49x22, s10, v58x26, v59x27, v60x28, v61x29])) fun vs_30 =>
  bind (pick v54x25 (vs_30.tail.tail.tail.tail.tail.headD undef) (Value.bool false)) fun v62x31 =>
  jn (cnd v62x31
  (bind (bop .int .quo v49x22 (Value.int .u64 8)) fun v65x32 =>
  bind (ixa 1 s10 v65x32) fun v66x33 =>
  bind (ld1 v66x33) fun v67x34 =>
  bind (bop .int .rem v49x22 (Value.int .u64 8)) fun v69x35 =>
  bind (bop .int .shl (Value.int .u8 1) v69x35) fun v70x36 =>
  bind (bop .int .xor v67x34 v70x36) fun v71x37 =>
  bind (ixa 1 s10 v65x32) fun v72x38 =>
  bind (st1 v72x38 v71x37) fun _ =>
  ret (.nrm [s3, s10, s11, (Value.bool true), s44]))
  (ret (.nrm [s3, s10, s11, s12, s44]))) (fun vs_39 =>
  bind (bop .int .add (vs_39.tail.tail.tail.tail.headD undef) (Value.int .u64 1)) fun v73x40 =>
  ret (.nrm [(vs_39.headD undef), (vs_39.tail.headD undef), (vs_39.tail.tail.headD undef), (vs_39.tail.tail.tail.headD undef), v73x40])) (fun _ _ => fail) (fun w_41 => ret (.ret w_41)))
  (ret (.ext 0 [s12]))

/-- (*interrex/net.Net).Spoil -/
noncomputable def F_netNetSpoil (Γ : Funs) (x0 x1 x2 x3 : Value) : M Value :=
  bind (Γ n_netNetPlace [x0, x1]) fun v17x1 =>
  bind (bop .int .lss v17x1 (Value.int .i64 0)) fun v19x2 =>
  bind (gate v19x2 false 9 (bind (nilc x0) fun v22x3 =>
  bind (fa 0 v22x3) fun v23x4 =>
  bind (ld1 v23x4) fun v24x5 =>
  bind (ixa 1 v24x5 v17x1) fun v26x6 =>
  bind (ld1 v26x6) fun v27x7 =>
  bind (lenS v27x7) fun v28x8 =>
  bind (bop .int .eql v28x8 (Value.int .i64 0)) fun v29x9 =>
  ret [x0, v22x3, v23x4, v24x5, v17x1, v26x6, v27x7, v28x8, v29x9])) fun vs_10 =>
  bind (pick v19x2 (Value.bool true) (vs_10.tail.tail.tail.tail.tail.tail.tail.tail.headD undef)) fun v30x11 =>
  cnd v30x11
  (ret (Value.bool false))
  (bind (nilc x0) fun v32x12 =>
  bind (fa 0 v32x12) fun v33x13 =>
  bind (ld1 v33x13) fun v34x14 =>
  bind (ixa 1 v34x14 v17x1) fun v36x15 =>
  bind (ld1 v36x15) fun v37x16 =>
  bind (lenS v37x16) fun v40x17 =>
  bind (bop .int .mul (Value.int .i64 8) v40x17) fun v41x18 =>
  bind (cvi .u64 v41x18) fun v42x19 =>
  bind (bop .int .rem x2 v42x19) fun v43x20 =>
  jn (loopM (fun vs_42 => F_netNetSpoil.l1 Γ ((vs_42.headD undef)) ((vs_42.tail.headD undef)) ((vs_42.tail.tail.headD undef)) ((vs_42.tail.tail.tail.headD undef)) ((vs_42.tail.tail.tail.tail.headD undef))) [x3, v37x16, v43x20, (Value.bool false), (Value.int .u64 0)]) (fun _ => fail) (fun j_43 vs_43 => bif Nat.beq j_43 0 then (ret (vs_43.headD undef)) else fail) (fun w_44 => ret w_44))

set_option maxRecDepth 100000 in
theorem rf_netNetSpoil (Γ : Funs) (x0 x1 x2 x3 : Value) : runF Try.prog Γ Try.f13 lv_netNetSpoil [x0, x1, x2, x3] = F_netNetSpoil Γ x0 x1 x2 x3 := by kernel_rfl

theorem run_netNetSpoil {prim : FuncId → Option (List Value → M Value)} (hp : prim n_netNetSpoil = none) (n : Nat) (x0 x1 x2 x3 : Value) : run Try.prog prim lvs (n + 1) n_netNetSpoil [x0, x1, x2, x3] = F_netNetSpoil (run Try.prog prim lvs n) x0 x1 x2 x3 :=
  (run_fn hp (by kernel_rfl) Try.func13 (by kernel_rfl)).trans (rf_netNetSpoil _ x0 x1 x2 x3)

/-- (*interrex/net.Net).Look -/
noncomputable def F_netNetLook (Γ : Funs) (x0 x1 : Value) : M Value :=
  bind (Γ n_netNetPlace [x0, x1]) fun v9x1 =>
  bind (bop .int .lss v9x1 (Value.int .i64 0)) fun v11x2 =>
  cnd v11x2
  (ret (Value.tuple #[(Value.slice none 0 0), (Value.bool false)]))
  (bind (nilc x0) fun v13x3 =>
  bind (fa 0 v13x3) fun v14x4 =>
  bind (ld1 v14x4) fun v15x5 =>
  bind (ixa 1 v15x5 v9x1) fun v17x6 =>
  bind (ld1 v17x6) fun v18x7 =>
  bind (Γ n_bytesClone [v18x7]) fun v19x8 =>
  ret (Value.tuple #[v19x8, (Value.bool true)]))

set_option maxRecDepth 100000 in
theorem rf_netNetLook (Γ : Funs) (x0 x1 : Value) : runF Try.prog Γ Try.f14 lv_netNetLook [x0, x1] = F_netNetLook Γ x0 x1 := by kernel_rfl

theorem run_netNetLook {prim : FuncId → Option (List Value → M Value)} (hp : prim n_netNetLook = none) (n : Nat) (x0 x1 : Value) : run Try.prog prim lvs (n + 1) n_netNetLook [x0, x1] = F_netNetLook (run Try.prog prim lvs n) x0 x1 :=
  (run_fn hp (by kernel_rfl) Try.func14 (by kernel_rfl)).trans (rf_netNetLook _ x0 x1)

/-- interrex/interrexlaw30.few: a round. -/
noncomputable def F_law30Few.l1 (Γ : Funs) (s0 s5 s6 s7 : Value) : M Out :=
  bind (bop .int .lss s7 s6) fun v8x2 =>
  cnd v8x2
  (bind (ixa 5 s5 s7) fun v9x3 =>
  bind (ldA 5 v9x3) fun v10x4 =>
  bind (alc 1 (.agg #[.int .u8 0, .slice none 0 0, .int .u64 0, .int .u64 0, .int .u32 0])) fun v4x5 =>
  bind (stA 5 v4x5 v10x4) fun _ =>
  bind (fa 1 v4x5) fun v11x6 =>
  bind (ld1 v11x6) fun v12x7 =>
  bind (lenS v12x7) fun v13x8 =>
  bind (bop .int .gtr v13x8 (Value.int .i64 100)) fun v14x9 =>
  cnd v14x9
  (ret (.ret (Value.bool false)))
  (bind (bop .int .add s7 (Value.int .i64 1)) fun v15x10 =>
  ret (.nrm [s0, s5, s6, v15x10])))
  (ret (.ext 0 [s0]))

/-- interrex/interrexlaw30.few -/
noncomputable def F_law30Few (Γ : Funs) (x0 : Value) : M Value :=
  bind (lenS x0) fun v6x1 =>
  jn (loopM (fun vs_11 => F_law30Few.l1 Γ ((vs_11.headD undef)) ((vs_11.tail.headD undef)) ((vs_11.tail.tail.headD undef)) ((vs_11.tail.tail.tail.headD undef))) [x0, x0, v6x1, (Value.int .i64 0)]) (fun _ => fail) (fun j_12 vs_12 => bif Nat.beq j_12 0 then (bind (lenS (vs_12.headD undef)) fun v17x13 =>
  bind (bop .int .leq v17x13 (Value.int .i64 40)) fun v18x14 =>
  ret v18x14) else fail) (fun w_15 => ret w_15)

set_option maxRecDepth 100000 in
theorem rf_law30Few (Γ : Funs) (x0 : Value) : runF Try.prog Γ Try.f15 lv_law30Few [x0] = F_law30Few Γ x0 := by kernel_rfl

theorem run_law30Few {prim : FuncId → Option (List Value → M Value)} (hp : prim n_law30Few = none) (n : Nat) (x0 : Value) : run Try.prog prim lvs (n + 1) n_law30Few [x0] = F_law30Few (run Try.prog prim lvs n) x0 :=
  (run_fn hp (by kernel_rfl) Try.func15 (by kernel_rfl)).trans (rf_law30Few _ x0)

/-- interrex/interrexlaw30.do: a round. -/
noncomputable def F_law30Do.l2 (Γ : Funs) (s0 s4 s5 s6 s21 s125 s126 s148 s149 : Value) : M Out :=
  bind (bop .int .lss s149 s148) fun v150x115 =>
  cnd v150x115
  (bind (ixa 1 s21 s149) fun v154x116 =>
  bind (ld1 v154x116) fun v155x117 =>
  bind (bop .int .add v155x117 (Value.int .u8 1)) fun v156x118 =>
  bind (ixa 1 s21 s149) fun v157x119 =>
  bind (st1 v157x119 v156x118) fun _ =>
  bind (bop .int .add s149 (Value.int .i64 1)) fun v158x120 =>
  ret (.nrm [s0, s4, s5, s6, s21, s125, s126, s148, v158x120]))
  (ret (.ext 3 [s0, s4, s5, s6, s125, s126]))

/-- interrex/interrexlaw30.do: a round. -/
noncomputable def F_law30Do.l1 (Γ : Funs) (s0 s4 s5 s6 s125 s126 : Value) : M Out :=
  bind (bop .int .lss s126 s125) fun v127x96 =>
  cnd v127x96
  (bind (ldA 2 s4) fun v129x97 =>
  bind (fa 1 s5) fun v130x98 =>
  bind (ld1 v130x98) fun v131x99 =>
  bind (b2s v131x99) fun v132x100 =>
  bind (Γ n_ref30Put [v129x97, v132x100]) fun v133x101 =>
  bind (extr v133x101 0) fun v134x102 =>
  bind (extr v133x101 1) fun v135x103 =>
  bind (alc 1 (.agg #[.slice none 0 0, .int .i64 0])) fun v19x104 =>
  bind (stA 2 v19x104 v134x102) fun _ =>
  bind (ldA 2 v19x104) fun v136x105 =>
  bind (stA 2 s4 v136x105) fun _ =>
  bind (bsl 1 0 (.int .u8 0) []) fun v137x106 =>
  bind (fa 1 s5) fun v138x107 =>
  bind (ld1 v138x107) fun v139x108 =>
  bind (app 1 1 v137x106 v139x108) fun v140x109 =>
  bind (Γ n_netNetPut [s0, v140x109]) fun v143x110 =>
  bind (bop .bool .neq v143x110 v135x103) fun v145x111 =>
  cnd v145x111
  (bind (ldA 2 s4) fun v146x112 =>
  bind (stA 2 s6 v146x112) fun _ =>
  bind (ldA 2 s6) fun vrx113 =>
  ret (.ret (Value.tuple #[vrx113, (Value.bool false)])))
  (bind (lenS v140x109) fun v148x114 =>
  jn (loopM (fun vs_121 => F_law30Do.l2 Γ ((vs_121.headD undef)) ((vs_121.tail.headD undef)) ((vs_121.tail.tail.headD undef)) ((vs_121.tail.tail.tail.headD undef)) ((vs_121.tail.tail.tail.tail.headD undef)) ((vs_121.tail.tail.tail.tail.tail.headD undef)) ((vs_121.tail.tail.tail.tail.tail.tail.headD undef)) ((vs_121.tail.tail.tail.tail.tail.tail.tail.headD undef)) ((vs_121.tail.tail.tail.tail.tail.tail.tail.tail.headD undef))) [s0, s4, s5, s6, v140x109, s125, s126, v148x114, (Value.int .i64 0)]) (fun _ => fail) (fun j_122 vs_122 => bif Nat.beq j_122 3 then (bind (bop .int .add (vs_122.tail.tail.tail.tail.tail.headD undef) (Value.int .i64 1)) fun v159x123 =>
  ret (.nrm [(vs_122.headD undef), (vs_122.tail.headD undef), (vs_122.tail.tail.headD undef), (vs_122.tail.tail.tail.headD undef), (vs_122.tail.tail.tail.tail.headD undef), v159x123])) else fail) (fun w_124 => ret (.ret w_124))))
  (ret (.ext 1 [s4, s6]))

/-- interrex/interrexlaw30.do -/
noncomputable def F_law30Do (Γ : Funs) (x0 x1 x2 : Value) : M Value :=
  bind (alc 1 x1) fun v4x1 =>
  bind (alc 1 x2) fun v5x2 =>
  bind (alc 1 (.agg #[.slice none 0 0, .int .i64 0])) fun v6x3 =>
  bind (fa 0 v5x2) fun v23x4 =>
  bind (ld1 v23x4) fun v24x5 =>
  bind (bop .int .rem v24x5 (Value.int .u8 8)) fun v25x6 =>
  bind (bop .int .eql v25x6 (Value.int .u8 2)) fun v27x7 =>
  cnd v27x7
  (bind (ldA 2 v4x1) fun v29x8 =>
  bind (fa 2 v5x2) fun v30x9 =>
  bind (ld1 v30x9) fun v31x10 =>
  bind (Γ n_ref30Take [v29x8, v31x10]) fun v32x11 =>
  bind (extr v32x11 0) fun v33x12 =>
  bind (extr v32x11 1) fun v34x13 =>
  bind (extr v32x11 2) fun v35x14 =>
  bind (alc 1 (.agg #[.slice none 0 0, .int .i64 0])) fun v8x15 =>
  bind (stA 2 v8x15 v33x12) fun _ =>
  bind (fa 2 v5x2) fun v38x16 =>
  bind (ld1 v38x16) fun v39x17 =>
  bind (Γ n_netNetTake [x0, v39x17]) fun v40x18 =>
  bind (extr v40x18 0) fun v41x19 =>
  bind (extr v40x18 1) fun v42x20 =>
  bind (ldA 2 v8x15) fun v43x21 =>
  bind (bop .bool .eql v42x20 v35x14) fun v46x22 =>
  bind (gateV v46x22 true (ret v41x19)) fun v48x23 =>
  bind (gateV v46x22 true (b2s v48x23)) fun v49x24 =>
  bind (gateV v46x22 true (ret v34x13)) fun v50x25 =>
  bind (gateV v46x22 true (bop .str .eql v49x24 v50x25)) fun v51x26 =>
  bind (pick v46x22 v51x26 (Value.bool false)) fun v52x27 =>
  bind (stA 2 v6x3 v43x21) fun _ =>
  bind (gateV v46x22 true (b2s v48x23)) fun u_28 => same u_28 v49x24 <|
  bind (ldA 2 v6x3) fun vrx29 =>
  ret (Value.tuple #[vrx29, v52x27]))
  (bind (bop .int .eql v25x6 (Value.int .u8 3)) fun v54x30 =>
  cnd v54x30
  (bind (ldA 2 v4x1) fun v56x31 =>
  bind (fa 2 v5x2) fun v57x32 =>
  bind (ld1 v57x32) fun v58x33 =>
  bind (Γ n_ref30Double [v56x31, v58x33]) fun v59x34 =>
  bind (extr v59x34 0) fun v60x35 =>
  bind (extr v59x34 1) fun v61x36 =>
  bind (alc 1 (.agg #[.slice none 0 0, .int .i64 0])) fun v13x37 =>
  bind (stA 2 v13x37 v60x35) fun _ =>
  bind (ldA 2 v13x37) fun v62x38 =>
  bind (fa 2 v5x2) fun v64x39 =>
  bind (ld1 v64x39) fun v65x40 =>
  bind (Γ n_netNetDouble [x0, v65x40]) fun v66x41 =>
  bind (ldA 2 v13x37) fun u_42 => same u_42 v62x38 <|
  bind (bop .bool .eql v66x41 v61x36) fun v68x43 =>
  bind (stA 2 v6x3 v62x38) fun _ =>
  bind (ldA 2 v6x3) fun vrx44 =>
  ret (Value.tuple #[vrx44, v68x43]))
  (bind (bop .int .eql v25x6 (Value.int .u8 4)) fun v70x45 =>
  cnd v70x45
  (bind (ldA 2 v4x1) fun v72x46 =>
  bind (fa 2 v5x2) fun v73x47 =>
  bind (ld1 v73x47) fun v74x48 =>
  bind (fa 3 v5x2) fun v75x49 =>
  bind (ld1 v75x49) fun v76x50 =>
  bind (fa 4 v5x2) fun v77x51 =>
  bind (ld1 v77x51) fun v78x52 =>
  bind (Γ n_ref30Spoil [v72x46, v74x48, v76x50, v78x52]) fun v79x53 =>
  bind (extr v79x53 0) fun v80x54 =>
  bind (extr v79x53 1) fun v81x55 =>
  bind (alc 1 (.agg #[.slice none 0 0, .int .i64 0])) fun v15x56 =>
  bind (stA 2 v15x56 v80x54) fun _ =>
  bind (ldA 2 v15x56) fun v82x57 =>
  bind (fa 2 v5x2) fun v84x58 =>
  bind (ld1 v84x58) fun v85x59 =>
  bind (fa 3 v5x2) fun v86x60 =>
  bind (ld1 v86x60) fun v87x61 =>
  bind (fa 4 v5x2) fun v88x62 =>
  bind (ld1 v88x62) fun v89x63 =>
  bind (Γ n_netNetSpoil [x0, v85x59, v87x61, v89x63]) fun v90x64 =>
  bind (ldA 2 v15x56) fun u_65 => same u_65 v82x57 <|
  bind (bop .bool .eql v90x64 v81x55) fun v92x66 =>
  bind (stA 2 v6x3 v82x57) fun _ =>
  bind (ldA 2 v6x3) fun vrx67 =>
  ret (Value.tuple #[vrx67, v92x66]))
  (bind (bop .int .eql v25x6 (Value.int .u8 5)) fun v94x68 =>
  cnd v94x68
  (bind (Γ n_netNetClear [x0]) fun v96x69 =>
  bind (fa 1 v4x1) fun v97x70 =>
  bind (ld1 v97x70) fun v98x71 =>
  bind (fa 0 v4x1) fun v99x72 =>
  bind (ld1 v99x72) fun v100x73 =>
  bind (lenS v100x73) fun v101x74 =>
  bind (bop .int .add v98x71 v101x74) fun v102x75 =>
  bind (bld (.agg #[.slice none 0 0, .int .i64 0]) [(1, 1, v102x75)]) fun v103x76 =>
  bind (stA 2 v6x3 v103x76) fun _ =>
  bind (ldA 2 v6x3) fun vrx77 =>
  ret (Value.tuple #[vrx77, (Value.bool true)]))
  (bind (bop .int .eql v25x6 (Value.int .u8 6)) fun v105x78 =>
  cnd v105x78
  (bind (Γ n_netNetCopy [x0]) fun v107x79 =>
  bind (fa 2 v5x2) fun v109x80 =>
  bind (ld1 v109x80) fun v110x81 =>
  bind (fa 3 v5x2) fun v111x82 =>
  bind (ld1 v111x82) fun v112x83 =>
  bind (Γ n_netNetSpoil [v107x79, v110x81, v112x83, (Value.int .u32 4294967295)]) fun v113x84 =>
  bind (bsl 1 2 (.int .u8 0) [(0, 1, (Value.int .u8 122)), (1, 1, (Value.int .u8 122))]) fun v115x85 =>
  bind (mrk v115x85) fun v116x86 =>
  bind (Γ n_netNetPut [v107x79, v116x86]) fun v117x87 =>
  bind (Γ n_netNetTake [v107x79, (Value.int .u64 0)]) fun v119x88 =>
  bind (ldA 2 v4x1) fun v120x89 =>
  bind (stA 2 v6x3 v120x89) fun _ =>
  bind (ldA 2 v6x3) fun vrx90 =>
  ret (Value.tuple #[vrx90, (Value.bool true)]))
  (bind (fa 0 v5x2) fun v121x91 =>
  bind (ld1 v121x91) fun v122x92 =>
  bind (bop .int .rem v122x92 (Value.int .u8 8)) fun v123x93 =>
  bind (bop .int .eql v123x93 (Value.int .u8 7)) fun v124x94 =>
  jn (cnd v124x94
  (ret (.nrm [x0, v4x1, v5x2, v6x3, (Value.int .i64 60)]))
  (ret (.nrm [x0, v4x1, v5x2, v6x3, (Value.int .i64 1)]))) (fun vs_95 =>
  jn (loopM (fun vs_125 => F_law30Do.l1 Γ ((vs_125.headD undef)) ((vs_125.tail.headD undef)) ((vs_125.tail.tail.headD undef)) ((vs_125.tail.tail.tail.headD undef)) ((vs_125.tail.tail.tail.tail.headD undef)) ((vs_125.tail.tail.tail.tail.tail.headD undef))) [(vs_95.headD undef), (vs_95.tail.headD undef), (vs_95.tail.tail.headD undef), (vs_95.tail.tail.tail.headD undef), (vs_95.tail.tail.tail.tail.headD undef), (Value.int .i64 0)]) (fun _ => fail) (fun j_126 vs_126 => bif Nat.beq j_126 1 then (bind (ldA 2 (vs_126.headD undef)) fun v160x127 =>
  bind (stA 2 (vs_126.tail.headD undef) v160x127) fun _ =>
  bind (ldA 2 (vs_126.tail.headD undef)) fun vrx128 =>
  ret (Value.tuple #[vrx128, (Value.bool true)])) else fail) (fun w_129 => ret w_129)) (fun _ _ => fail) (fun w_130 => ret w_130))))))

set_option maxRecDepth 100000 in
theorem rf_law30Do (Γ : Funs) (x0 x1 x2 : Value) : runF Try.prog Γ Try.f16 lv_law30Do [x0, x1, x2] = F_law30Do Γ x0 x1 x2 := by kernel_rfl

theorem run_law30Do {prim : FuncId → Option (List Value → M Value)} (hp : prim n_law30Do = none) (n : Nat) (x0 x1 x2 : Value) : run Try.prog prim lvs (n + 1) n_law30Do [x0, x1, x2] = F_law30Do (run Try.prog prim lvs n) x0 x1 x2 :=
  (run_fn hp (by kernel_rfl) Try.func16 (by kernel_rfl)).trans (rf_law30Do _ x0 x1 x2)

/-- bytes.Clone -/
noncomputable def F_bytesClone (Γ : Funs) (x0 : Value) : M Value :=
  bind (bop .slc .eql x0 (Value.slice none 0 0)) fun v4x1 =>
  cnd v4x1
  (ret (Value.slice none 0 0))
  (bind (bsl 1 0 (.int .u8 0) []) fun v5x2 =>
  bind (app 1 1 v5x2 x0) fun v7x3 =>
  ret v7x3)

set_option maxRecDepth 100000 in
theorem rf_bytesClone (Γ : Funs) (x0 : Value) : runF Try.prog Γ Try.f17 lv_bytesClone [x0] = F_bytesClone Γ x0 := by kernel_rfl

theorem run_bytesClone {prim : FuncId → Option (List Value → M Value)} (hp : prim n_bytesClone = none) (n : Nat) (x0 : Value) : run Try.prog prim lvs (n + 1) n_bytesClone [x0] = F_bytesClone (run Try.prog prim lvs n) x0 :=
  (run_fn hp (by kernel_rfl) Try.func17 (by kernel_rfl)).trans (rf_bytesClone _ x0)

/-- (*interrex/net.Net).place -/
noncomputable def F_netNetPlace (Γ : Funs) (x0 x1 : Value) : M Value :=
  bind (nilc x0) fun v6x1 =>
  bind (fa 0 v6x1) fun v7x2 =>
  bind (ld1 v7x2) fun v8x3 =>
  bind (lenS v8x3) fun v9x4 =>
  bind (bop .int .eql v9x4 (Value.int .i64 0)) fun v10x5 =>
  cnd v10x5
  (ret (Value.int .i64 (-1)))
  (bind (nilc x0) fun v13x6 =>
  bind (fa 0 v13x6) fun v14x7 =>
  bind (ld1 v14x7) fun v15x8 =>
  bind (lenS v15x8) fun v16x9 =>
  bind (cvi .u64 v16x9) fun v17x10 =>
  bind (bop .int .rem x1 v17x10) fun v18x11 =>
  bind (cvi .i64 v18x11) fun v19x12 =>
  ret v19x12)

set_option maxRecDepth 100000 in
theorem rf_netNetPlace (Γ : Funs) (x0 x1 : Value) : runF Try.prog Γ Try.f18 lv_netNetPlace [x0, x1] = F_netNetPlace Γ x0 x1 := by kernel_rfl

theorem run_netNetPlace {prim : FuncId → Option (List Value → M Value)} (hp : prim n_netNetPlace = none) (n : Nat) (x0 x1 : Value) : run Try.prog prim lvs (n + 1) n_netNetPlace [x0, x1] = F_netNetPlace (run Try.prog prim lvs n) x0 x1 :=
  (run_fn hp (by kernel_rfl) Try.func18 (by kernel_rfl)).trans (rf_netNetPlace _ x0 x1)

/-- slices.Delete[[][]byte,[]byte] -/
noncomputable def F_slicesDeletebyteByte (Γ : Funs) (x0 x1 x2 : Value) : M Value :=
  bind (lenS x0) fun v12x1 =>
  bind (slv 1 x0 (some x1) (some x2) (some v12x1)) fun v13x2 =>
  bind (bop .int .eql x1 x2) fun v16x3 =>
  cnd v16x3
  (ret x0)
  (bind (lenS x0) fun v19x4 =>
  bind (slv 1 x0 none (some x1) none) fun v22x5 =>
  bind (slv 1 x0 (some x2) none none) fun v25x6 =>
  bind (app 1 24 v22x5 v25x6) fun v26x7 =>
  bind (lenS v26x7) fun v29x8 =>
  bind (slv 1 v26x7 (some v29x8) (some v19x4) none) fun v31x9 =>
  bind (clr (.slice none 0 0) 1 v31x9) fun _ =>
  ret v26x7)

set_option maxRecDepth 100000 in
theorem rf_slicesDeletebyteByte (Γ : Funs) (x0 x1 x2 : Value) : runF Try.prog Γ Try.f19 lv_slicesDeletebyteByte [x0, x1, x2] = F_slicesDeletebyteByte Γ x0 x1 x2 := by kernel_rfl

theorem run_slicesDeletebyteByte {prim : FuncId → Option (List Value → M Value)} (hp : prim n_slicesDeletebyteByte = none) (n : Nat) (x0 x1 x2 : Value) : run Try.prog prim lvs (n + 1) n_slicesDeletebyteByte [x0, x1, x2] = F_slicesDeletebyteByte (run Try.prog prim lvs n) x0 x1 x2 :=
  (run_fn hp (by kernel_rfl) Try.func19 (by kernel_rfl)).trans (rf_slicesDeletebyteByte _ x0 x1 x2)

/-- interrex/interrexref30.Take -/
noncomputable def F_ref30Take (Γ : Funs) (x0 x1 : Value) : M Value :=
  bind (alc 1 x0) fun v2x1 =>
  bind (alc 1 (.agg #[.slice none 0 0, .int .i64 0])) fun v4x2 =>
  bind (ldA 2 v2x1) fun v9x3 =>
  bind (Γ n_ref30At [v9x3, x1]) fun v11x4 =>
  bind (bop .int .lss v11x4 (Value.int .i64 0)) fun v13x5 =>
  cnd v13x5
  (bind (ldA 2 v2x1) fun v14x6 =>
  bind (stA 2 v4x2 v14x6) fun _ =>
  bind (ldA 2 v4x2) fun vrx7 =>
  ret (Value.tuple #[vrx7, (Value.string ⟨#[]⟩), (Value.bool false)]))
  (bind (fa 0 v2x1) fun v15x8 =>
  bind (ld1 v15x8) fun v16x9 =>
  bind (ixa 1 v16x9 v11x4) fun v18x10 =>
  bind (ld1 v18x10) fun v19x11 =>
  bind (fa 0 v2x1) fun v21x12 =>
  bind (ld1 v21x12) fun v22x13 =>
  bind (slv 1 v22x13 none (some v11x4) none) fun v24x14 =>
  bind (fa 0 v2x1) fun v26x15 =>
  bind (ld1 v26x15) fun v27x16 =>
  bind (bop .int .add v11x4 (Value.int .i64 1)) fun v29x17 =>
  bind (slv 1 v27x16 (some v29x17) none none) fun v30x18 =>
  bind (bsl 1 0 (.string ⟨#[]⟩) []) fun v20x19 =>
  bind (slv 1 v27x16 (some v29x17) none none) fun u_20 => same u_20 v30x18 <|
  bind (ld1 v26x15) fun u_21 => same u_21 v27x16 <|
  bind (slv 1 v22x13 none (some v11x4) none) fun u_22 => same u_22 v24x14 <|
  bind (ld1 v21x12) fun u_23 => same u_23 v22x13 <|
  bind (app 1 16 v20x19 v24x14) fun v25x24 =>
  bind (slv 1 v27x16 (some v29x17) none none) fun u_25 => same u_25 v30x18 <|
  bind (ld1 v26x15) fun u_26 => same u_26 v27x16 <|
  bind (app 1 16 v25x24 v30x18) fun v31x27 =>
  bind (fa 0 v2x1) fun v32x28 =>
  bind (st1 v32x28 v31x27) fun _ =>
  bind (ldA 2 v2x1) fun v33x29 =>
  bind (stA 2 v4x2 v33x29) fun _ =>
  bind (ldA 2 v4x2) fun vrx30 =>
  ret (Value.tuple #[vrx30, v19x11, (Value.bool true)]))

set_option maxRecDepth 100000 in
theorem rf_ref30Take (Γ : Funs) (x0 x1 : Value) : runF Try.prog Γ Try.f20 lv_ref30Take [x0, x1] = F_ref30Take Γ x0 x1 := by kernel_rfl

theorem run_ref30Take {prim : FuncId → Option (List Value → M Value)} (hp : prim n_ref30Take = none) (n : Nat) (x0 x1 : Value) : run Try.prog prim lvs (n + 1) n_ref30Take [x0, x1] = F_ref30Take (run Try.prog prim lvs n) x0 x1 :=
  (run_fn hp (by kernel_rfl) Try.func20 (by kernel_rfl)).trans (rf_ref30Take _ x0 x1)

/-- interrex/interrexref30.Double -/
noncomputable def F_ref30Double (Γ : Funs) (x0 x1 : Value) : M Value :=
  bind (alc 1 x0) fun v2x1 =>
  bind (alc 1 (.agg #[.slice none 0 0, .int .i64 0])) fun v4x2 =>
  bind (ldA 2 v2x1) fun v7x3 =>
  bind (Γ n_ref30At [v7x3, x1]) fun v9x4 =>
  bind (bop .int .lss v9x4 (Value.int .i64 0)) fun v11x5 =>
  bind (gate v11x5 false 4 (bind (fa 0 v2x1) fun v13x6 =>
  bind (ld1 v13x6) fun v14x7 =>
  bind (lenS v14x7) fun v15x8 =>
  bind (bop .int .geq v15x8 (Value.int .i64 128)) fun v16x9 =>
  ret [v13x6, v14x7, v15x8, v16x9])) fun vs_10 =>
  bind (pick v11x5 (Value.bool true) (vs_10.tail.tail.tail.headD undef)) fun v17x11 =>
  cnd v17x11
  (bind (ldA 2 v2x1) fun v18x12 =>
  bind (stA 2 v4x2 v18x12) fun _ =>
  bind (ldA 2 v4x2) fun vrx13 =>
  ret (Value.tuple #[vrx13, (Value.bool false)]))
  (bind (ldA 2 v2x1) fun v19x14 =>
  bind (fa 0 v2x1) fun v20x15 =>
  bind (ld1 v20x15) fun v21x16 =>
  bind (ixa 1 v21x16 v9x4) fun v23x17 =>
  bind (ld1 v23x17) fun v24x18 =>
  bind (Γ n_ref30Put [v19x14, v24x18]) fun v25x19 =>
  bind (extr v25x19 0) fun v26x20 =>
  bind (extr v25x19 1) fun v27x21 =>
  bind (stA 2 v4x2 v26x20) fun _ =>
  bind (ldA 2 v4x2) fun vrx22 =>
  ret (Value.tuple #[vrx22, v27x21]))

set_option maxRecDepth 100000 in
theorem rf_ref30Double (Γ : Funs) (x0 x1 : Value) : runF Try.prog Γ Try.f21 lv_ref30Double [x0, x1] = F_ref30Double Γ x0 x1 := by kernel_rfl

theorem run_ref30Double {prim : FuncId → Option (List Value → M Value)} (hp : prim n_ref30Double = none) (n : Nat) (x0 x1 : Value) : run Try.prog prim lvs (n + 1) n_ref30Double [x0, x1] = F_ref30Double (run Try.prog prim lvs n) x0 x1 :=
  (run_fn hp (by kernel_rfl) Try.func21 (by kernel_rfl)).trans (rf_ref30Double _ x0 x1)

/-- (*interrex/net.Net).Double -/
noncomputable def F_netNetDouble (Γ : Funs) (x0 x1 : Value) : M Value :=
  bind (Γ n_netNetLook [x0, x1]) fun v10x1 =>
  bind (extr v10x1 0) fun v11x2 =>
  bind (extr v10x1 1) fun v12x3 =>
  bind (gate v12x3 true 6 (bind (nilc x0) fun v16x4 =>
  bind (fa 0 v16x4) fun v17x5 =>
  bind (ld1 v17x5) fun v18x6 =>
  bind (lenS v18x6) fun v19x7 =>
  bind (bop .int .lss v19x7 (Value.int .i64 128)) fun v20x8 =>
  ret [x0, v16x4, v17x5, v18x6, v19x7, v20x8])) fun vs_9 =>
  bind (pick v12x3 (vs_9.tail.tail.tail.tail.tail.headD undef) (Value.bool false)) fun v21x10 =>
  bind (gate v21x10 true 3 (bind (Γ n_netNetPut [x0, v11x2]) fun v25x11 =>
  ret [x0, v11x2, v25x11])) fun vs_12 =>
  bind (pick v21x10 (vs_12.tail.tail.headD undef) (Value.bool false)) fun v26x13 =>
  ret v26x13

set_option maxRecDepth 100000 in
theorem rf_netNetDouble (Γ : Funs) (x0 x1 : Value) : runF Try.prog Γ Try.f22 lv_netNetDouble [x0, x1] = F_netNetDouble Γ x0 x1 := by kernel_rfl

theorem run_netNetDouble {prim : FuncId → Option (List Value → M Value)} (hp : prim n_netNetDouble = none) (n : Nat) (x0 x1 : Value) : run Try.prog prim lvs (n + 1) n_netNetDouble [x0, x1] = F_netNetDouble (run Try.prog prim lvs n) x0 x1 :=
  (run_fn hp (by kernel_rfl) Try.func22 (by kernel_rfl)).trans (rf_netNetDouble _ x0 x1)

/-- interrex/interrexref30.Spoil: a round. -/
noncomputable def F_ref30Spoil.l2 (Γ : Funs) (s3 s4 s8 s10 s11 s12 s14 s41 s55 s56 : Value) : M Out :=
  bind (bop .int .lss s56 s55) fun v57x34 =>
  cnd v57x34
  (bind (bop .int .mul (Value.int .u8 2) s14) fun v59x35 =>
  bind (bop .int .add s56 (Value.int .u64 1)) fun v60x36 =>
  ret (.nrm [s3, s4, s8, s10, s11, s12, v59x35, s41, s55, v60x36]))
  (ret (.ext 2 [s3, s4, s8, s10, s11, s12, s14, s41]))

/-- interrex/interrexref30.Spoil: a round. -/
noncomputable def F_ref30Spoil.l1 (Γ : Funs) (s3 s4 s8 s10 s11 s12 s13 s41 : Value) : M Out :=
  bind (bop .int .lss s41 (Value.int .i64 32)) fun v42x24 =>
  cnd v42x24
  (bind (bop .int .rem s3 (Value.int .u32 2)) fun v44x25 =>
  bind (bop .int .eql v44x25 (Value.int .u32 1)) fun v45x26 =>
  bind (gate v45x26 true 6 (bind (lenS s11) fun v49x27 =>
  bind (bop .int .mul (Value.int .i64 8) v49x27) fun v50x28 =>
  bind (cvi .u64 v50x28) fun v51x29 =>
  bind (bop .int .lss s12 v51x29) fun v52x30 =>
  ret [s12, s11, v49x27, v50x28, v51x29, v52x30])) fun vs_31 =>
  bind (pick v45x26 (vs_31.tail.tail.tail.tail.tail.headD undef) (Value.bool false)) fun v53x32 =>
  jn (cnd v53x32
  (bind (bop .int .rem s12 (Value.int .u64 8)) fun v55x33 =>
  jn (loopM (fun vs_37 => F_ref30Spoil.l2 Γ ((vs_37.headD undef)) ((vs_37.tail.headD undef)) ((vs_37.tail.tail.headD undef)) ((vs_37.tail.tail.tail.headD undef)) ((vs_37.tail.tail.tail.tail.headD undef)) ((vs_37.tail.tail.tail.tail.tail.headD undef)) ((vs_37.tail.tail.tail.tail.tail.tail.headD undef)) ((vs_37.tail.tail.tail.tail.tail.tail.tail.headD undef)) ((vs_37.tail.tail.tail.tail.tail.tail.tail.tail.headD undef)) ((vs_37.tail.tail.tail.tail.tail.tail.tail.tail.tail.headD undef))) [s3, s4, s8, s10, s11, s12, (Value.int .u8 1), s41, v55x33, (Value.int .u64 0)]) (fun _ => fail) (fun j_38 vs_38 => bif Nat.beq j_38 2 then (bind (bop .int .quo (vs_38.tail.tail.tail.tail.tail.headD undef) (Value.int .u64 8)) fun v63x39 =>
  bind (ixa 1 (vs_38.tail.tail.tail.tail.headD undef) v63x39) fun v64x40 =>
  bind (ld1 v64x40) fun v65x41 =>
  bind (bop .int .quo v65x41 (vs_38.tail.tail.tail.tail.tail.tail.headD undef)) fun v67x42 =>
  bind (bop .int .rem v67x42 (Value.int .u8 2)) fun v68x43 =>
  bind (bop .int .eql v68x43 (Value.int .u8 1)) fun v69x44 =>
  jn (cnd v69x44
  (bind (bop .int .quo (vs_38.tail.tail.tail.tail.tail.headD undef) (Value.int .u64 8)) fun v72x45 =>
  bind (bop .int .quo (vs_38.tail.tail.tail.tail.tail.headD undef) (Value.int .u64 8)) fun v75x46 =>
  bind (ixa 1 (vs_38.tail.tail.tail.tail.headD undef) v75x46) fun v76x47 =>
  bind (ld1 v76x47) fun v77x48 =>
  bind (bop .int .sub v77x48 (vs_38.tail.tail.tail.tail.tail.tail.headD undef)) fun v79x49 =>
  bind (ixa 1 (vs_38.tail.tail.tail.tail.headD undef) v72x45) fun v80x50 =>
  bind (st1 v80x50 v79x49) fun _ =>
  ret (.nrm [(vs_38.headD undef), (vs_38.tail.headD undef), (vs_38.tail.tail.headD undef), (vs_38.tail.tail.tail.headD undef), (vs_38.tail.tail.tail.tail.headD undef), (vs_38.tail.tail.tail.tail.tail.headD undef), (vs_38.tail.tail.tail.tail.tail.tail.tail.headD undef)]))
  (bind (bop .int .quo (vs_38.tail.tail.tail.tail.tail.headD undef) (Value.int .u64 8)) fun v83x51 =>
  bind (bop .int .quo (vs_38.tail.tail.tail.tail.tail.headD undef) (Value.int .u64 8)) fun v86x52 =>
  bind (ixa 1 (vs_38.tail.tail.tail.tail.headD undef) v86x52) fun v87x53 =>
  bind (ld1 v87x53) fun v88x54 =>
  bind (bop .int .add v88x54 (vs_38.tail.tail.tail.tail.tail.tail.headD undef)) fun v90x55 =>
  bind (ixa 1 (vs_38.tail.tail.tail.tail.headD undef) v83x51) fun v91x56 =>
  bind (st1 v91x56 v90x55) fun _ =>
  ret (.nrm [(vs_38.headD undef), (vs_38.tail.headD undef), (vs_38.tail.tail.headD undef), (vs_38.tail.tail.tail.headD undef), (vs_38.tail.tail.tail.tail.headD undef), (vs_38.tail.tail.tail.tail.tail.headD undef), (vs_38.tail.tail.tail.tail.tail.tail.tail.headD undef)]))) (fun vs_57 =>
  ret (.nrm [(vs_57.headD undef), (vs_57.tail.headD undef), (vs_57.tail.tail.headD undef), (vs_57.tail.tail.tail.headD undef), (vs_57.tail.tail.tail.tail.headD undef), (vs_57.tail.tail.tail.tail.tail.headD undef), (Value.bool true), (vs_57.tail.tail.tail.tail.tail.tail.headD undef)])) (fun _ _ => fail) (fun w_58 => ret (.ret w_58))) else fail) (fun w_59 => ret (.ret w_59)))
  (ret (.nrm [s3, s4, s8, s10, s11, s12, s13, s41]))) (fun vs_60 =>
  bind (bop .int .quo (vs_60.headD undef) (Value.int .u32 2)) fun v93x61 =>
  bind (bop .int .add (vs_60.tail.tail.tail.tail.tail.headD undef) (Value.int .u64 1)) fun v95x62 =>
  bind (bop .int .add (vs_60.tail.tail.tail.tail.tail.tail.tail.headD undef) (Value.int .i64 1)) fun v96x63 =>
  ret (.nrm [v93x61, (vs_60.tail.headD undef), (vs_60.tail.tail.headD undef), (vs_60.tail.tail.tail.headD undef), (vs_60.tail.tail.tail.tail.headD undef), v95x62, (vs_60.tail.tail.tail.tail.tail.tail.headD undef), v96x63])) (fun _ _ => fail) (fun w_64 => ret (.ret w_64)))
  (ret (.ext 0 [s4, s8, s10, s11, s13]))

/-- interrex/interrexref30.Spoil -/
noncomputable def F_ref30Spoil (Γ : Funs) (x0 x1 x2 x3 : Value) : M Value :=
  bind (alc 1 x0) fun v4x1 =>
  bind (alc 1 (.agg #[.slice none 0 0, .int .i64 0])) fun v8x2 =>
  bind (ldA 2 v4x1) fun v15x3 =>
  bind (Γ n_ref30At [v15x3, x1]) fun v17x4 =>
  bind (bop .int .lss v17x4 (Value.int .i64 0)) fun v19x5 =>
  bind (gate v19x5 false 6 (bind (fa 0 v4x1) fun v21x6 =>
  bind (ld1 v21x6) fun v22x7 =>
  bind (ixa 1 v22x7 v17x4) fun v24x8 =>
  bind (ld1 v24x8) fun v25x9 =>
  bind (bop .str .eql v25x9 (Value.string ⟨#[]⟩)) fun v26x10 =>
  ret [v21x6, v22x7, v17x4, v24x8, v25x9, v26x10])) fun vs_11 =>
  bind (pick v19x5 (Value.bool true) (vs_11.tail.tail.tail.tail.tail.headD undef)) fun v27x12 =>
  cnd v27x12
  (bind (ldA 2 v4x1) fun v28x13 =>
  bind (stA 2 v8x2 v28x13) fun _ =>
  bind (ldA 2 v8x2) fun vrx14 =>
  ret (Value.tuple #[vrx14, (Value.bool false)]))
  (bind (fa 0 v4x1) fun v29x15 =>
  bind (ld1 v29x15) fun v30x16 =>
  bind (ixa 1 v30x16 v17x4) fun v32x17 =>
  bind (ld1 v32x17) fun v33x18 =>
  bind (s2b v33x18) fun v34x19 =>
  bind (lenS v34x19) fun v37x20 =>
  bind (bop .int .mul (Value.int .i64 8) v37x20) fun v38x21 =>
  bind (cvi .u64 v38x21) fun v39x22 =>
  bind (bop .int .rem x2 v39x22) fun v40x23 =>
  jn (loopM (fun vs_65 => F_ref30Spoil.l1 Γ ((vs_65.headD undef)) ((vs_65.tail.headD undef)) ((vs_65.tail.tail.headD undef)) ((vs_65.tail.tail.tail.headD undef)) ((vs_65.tail.tail.tail.tail.headD undef)) ((vs_65.tail.tail.tail.tail.tail.headD undef)) ((vs_65.tail.tail.tail.tail.tail.tail.headD undef)) ((vs_65.tail.tail.tail.tail.tail.tail.tail.headD undef))) [x3, v4x1, v8x2, v17x4, v34x19, v40x23, (Value.bool false), (Value.int .i64 0)]) (fun _ => fail) (fun j_66 vs_66 => bif Nat.beq j_66 0 then (bind (bsl 1 0 (.string ⟨#[]⟩) []) fun v97x67 =>
  bind (fa 0 (vs_66.headD undef)) fun v98x68 =>
  bind (ld1 v98x68) fun v99x69 =>
  bind (app 1 16 v97x67 v99x69) fun v100x70 =>
  bind (fa 0 (vs_66.headD undef)) fun v101x71 =>
  bind (st1 v101x71 v100x70) fun _ =>
  bind (fa 0 (vs_66.headD undef)) fun v102x72 =>
  bind (ld1 v102x72) fun v103x73 =>
  bind (b2s (vs_66.tail.tail.tail.headD undef)) fun v106x74 =>
  bind (ixa 1 v103x73 (vs_66.tail.tail.headD undef)) fun v107x75 =>
  bind (st1 v107x75 v106x74) fun _ =>
  bind (ldA 2 (vs_66.headD undef)) fun v108x76 =>
  bind (stA 2 (vs_66.tail.headD undef) v108x76) fun _ =>
  bind (ldA 2 (vs_66.tail.headD undef)) fun vrx77 =>
  ret (Value.tuple #[vrx77, (vs_66.tail.tail.tail.tail.headD undef)])) else fail) (fun w_78 => ret w_78))

set_option maxRecDepth 100000 in
theorem rf_ref30Spoil (Γ : Funs) (x0 x1 x2 x3 : Value) : runF Try.prog Γ Try.f23 lv_ref30Spoil [x0, x1, x2, x3] = F_ref30Spoil Γ x0 x1 x2 x3 := by kernel_rfl

theorem run_ref30Spoil {prim : FuncId → Option (List Value → M Value)} (hp : prim n_ref30Spoil = none) (n : Nat) (x0 x1 x2 x3 : Value) : run Try.prog prim lvs (n + 1) n_ref30Spoil [x0, x1, x2, x3] = F_ref30Spoil (run Try.prog prim lvs n) x0 x1 x2 x3 :=
  (run_fn hp (by kernel_rfl) Try.func23 (by kernel_rfl)).trans (rf_ref30Spoil _ x0 x1 x2 x3)

/-- (*interrex/net.Net).Clear -/
noncomputable def F_netNetClear (Γ : Funs) (x0 : Value) : M Value :=
  bind (nilc x0) fun v3x1 =>
  bind (fa 1 v3x1) fun v4x2 =>
  bind (ld1 v4x2) fun v5x3 =>
  bind (nilc x0) fun v7x4 =>
  bind (fa 0 v7x4) fun v8x5 =>
  bind (ld1 v8x5) fun v9x6 =>
  bind (lenS v9x6) fun v10x7 =>
  bind (bop .int .add v5x3 v10x7) fun v11x8 =>
  bind (nilc x0) fun v12x9 =>
  bind (fa 1 v12x9) fun v13x10 =>
  bind (st1 v13x10 v11x8) fun _ =>
  bind (nilc x0) fun v15x11 =>
  bind (fa 0 v15x11) fun v16x12 =>
  bind (st1 v16x12 (Value.slice none 0 0)) fun _ =>
  ret (Value.tuple #[])

set_option maxRecDepth 100000 in
theorem rf_netNetClear (Γ : Funs) (x0 : Value) : runF Try.prog Γ Try.f24 lv_netNetClear [x0] = F_netNetClear Γ x0 := by kernel_rfl

theorem run_netNetClear {prim : FuncId → Option (List Value → M Value)} (hp : prim n_netNetClear = none) (n : Nat) (x0 : Value) : run Try.prog prim lvs (n + 1) n_netNetClear [x0] = F_netNetClear (run Try.prog prim lvs n) x0 :=
  (run_fn hp (by kernel_rfl) Try.func24 (by kernel_rfl)).trans (rf_netNetClear _ x0)

/-- (*interrex/net.Net).Copy: a round. -/
noncomputable def F_netNetCopy.l1 (Γ : Funs) (s3 s15 s16 s17 : Value) : M Out :=
  bind (bop .int .lss s17 s16) fun v18x10 =>
  cnd v18x10
  (bind (ixa 1 s15 s17) fun v19x11 =>
  bind (ld1 v19x11) fun v20x12 =>
  bind (nilc s3) fun v23x13 =>
  bind (fa 0 v23x13) fun v24x14 =>
  bind (ld1 v24x14) fun v25x15 =>
  bind (Γ n_bytesClone [v20x12]) fun v27x16 =>
  bind (ld1 v24x14) fun u_17 => same u_17 v25x15 <|
  bind (bsl 1 1 (.slice none 0 0) [(0, 1, v27x16)]) fun v28x18 =>
  bind (ld1 v24x14) fun u_19 => same u_19 v25x15 <|
  bind (app 1 24 v25x15 v28x18) fun v29x20 =>
  bind (nilc s3) fun v30x21 =>
  bind (fa 0 v30x21) fun v31x22 =>
  bind (st1 v31x22 v29x20) fun _ =>
  bind (bop .int .add s17 (Value.int .i64 1)) fun v32x23 =>
  ret (.nrm [s3, s15, s16, v32x23]))
  (ret (.ext 0 [s3]))

/-- (*interrex/net.Net).Copy -/
noncomputable def F_netNetCopy (Γ : Funs) (x0 : Value) : M Value :=
  bind (nilc x0) fun v7x1 =>
  bind (fa 1 v7x1) fun v8x2 =>
  bind (ld1 v8x2) fun v9x3 =>
  bind (bld (.agg #[.slice none 0 0, .int .i64 0]) [(1, 1, v9x3)]) fun v10x4 =>
  bind (alc 1 v10x4) fun v11x5 =>
  bind (nilc x0) fun v13x6 =>
  bind (fa 0 v13x6) fun v14x7 =>
  bind (ld1 v14x7) fun v15x8 =>
  bind (lenS v15x8) fun v16x9 =>
  jn (loopM (fun vs_24 => F_netNetCopy.l1 Γ ((vs_24.headD undef)) ((vs_24.tail.headD undef)) ((vs_24.tail.tail.headD undef)) ((vs_24.tail.tail.tail.headD undef))) [v11x5, v15x8, v16x9, (Value.int .i64 0)]) (fun _ => fail) (fun j_25 vs_25 => bif Nat.beq j_25 0 then (ret (vs_25.headD undef)) else fail) (fun w_26 => ret w_26)

set_option maxRecDepth 100000 in
theorem rf_netNetCopy (Γ : Funs) (x0 : Value) : runF Try.prog Γ Try.f25 lv_netNetCopy [x0] = F_netNetCopy Γ x0 := by kernel_rfl

theorem run_netNetCopy {prim : FuncId → Option (List Value → M Value)} (hp : prim n_netNetCopy = none) (n : Nat) (x0 : Value) : run Try.prog prim lvs (n + 1) n_netNetCopy [x0] = F_netNetCopy (run Try.prog prim lvs n) x0 :=
  (run_fn hp (by kernel_rfl) Try.func25 (by kernel_rfl)).trans (rf_netNetCopy _ x0)

/-- interrex/interrexref30.Put -/
noncomputable def F_ref30Put (Γ : Funs) (x0 x1 : Value) : M Value :=
  bind (alc 1 x0) fun v2x1 =>
  bind (alc 1 (.agg #[.slice none 0 0, .int .i64 0])) fun v4x2 =>
  bind (fa 0 v2x1) fun v6x3 =>
  bind (ld1 v6x3) fun v7x4 =>
  bind (lenS v7x4) fun v8x5 =>
  bind (bop .int .geq v8x5 (Value.int .i64 128)) fun v9x6 =>
  cnd v9x6
  (bind (fa 1 v2x1) fun v10x7 =>
  bind (ld1 v10x7) fun v11x8 =>
  bind (bop .int .add v11x8 (Value.int .i64 1)) fun v12x9 =>
  bind (fa 1 v2x1) fun v13x10 =>
  bind (st1 v13x10 v12x9) fun _ =>
  bind (ldA 2 v2x1) fun v14x11 =>
  bind (stA 2 v4x2 v14x11) fun _ =>
  bind (ldA 2 v4x2) fun vrx12 =>
  ret (Value.tuple #[vrx12, (Value.bool false)]))
  (bind (bsl 1 0 (.string ⟨#[]⟩) []) fun v15x13 =>
  bind (fa 0 v2x1) fun v16x14 =>
  bind (ld1 v16x14) fun v17x15 =>
  bind (app 1 16 v15x13 v17x15) fun v18x16 =>
  bind (bsl 1 1 (.string ⟨#[]⟩) [(0, 1, x1)]) fun v20x17 =>
  bind (app 1 16 v18x16 v20x17) fun v21x18 =>
  bind (fa 0 v2x1) fun v22x19 =>
  bind (st1 v22x19 v21x18) fun _ =>
  bind (ldA 2 v2x1) fun v23x20 =>
  bind (stA 2 v4x2 v23x20) fun _ =>
  bind (ldA 2 v4x2) fun vrx21 =>
  ret (Value.tuple #[vrx21, (Value.bool true)]))

set_option maxRecDepth 100000 in
theorem rf_ref30Put (Γ : Funs) (x0 x1 : Value) : runF Try.prog Γ Try.f26 lv_ref30Put [x0, x1] = F_ref30Put Γ x0 x1 := by kernel_rfl

theorem run_ref30Put {prim : FuncId → Option (List Value → M Value)} (hp : prim n_ref30Put = none) (n : Nat) (x0 x1 : Value) : run Try.prog prim lvs (n + 1) n_ref30Put [x0, x1] = F_ref30Put (run Try.prog prim lvs n) x0 x1 :=
  (run_fn hp (by kernel_rfl) Try.func26 (by kernel_rfl)).trans (rf_ref30Put _ x0 x1)

/-- interrex/interrexref30.At -/
noncomputable def F_ref30At (Γ : Funs) (x0 x1 : Value) : M Value :=
  bind (alc 1 x0) fun v2x1 =>
  bind (fa 0 v2x1) fun v5x2 =>
  bind (ld1 v5x2) fun v6x3 =>
  bind (lenS v6x3) fun v7x4 =>
  bind (bop .int .eql v7x4 (Value.int .i64 0)) fun v8x5 =>
  cnd v8x5
  (ret (Value.int .i64 (-1)))
  (bind (fa 0 v2x1) fun v10x6 =>
  bind (ld1 v10x6) fun v11x7 =>
  bind (lenS v11x7) fun v12x8 =>
  bind (cvi .u64 v12x8) fun v13x9 =>
  bind (bop .int .rem x1 v13x9) fun v14x10 =>
  bind (cvi .i64 v14x10) fun v15x11 =>
  ret v15x11)

set_option maxRecDepth 100000 in
theorem rf_ref30At (Γ : Funs) (x0 x1 : Value) : runF Try.prog Γ Try.f27 lv_ref30At [x0, x1] = F_ref30At Γ x0 x1 := by kernel_rfl

theorem run_ref30At {prim : FuncId → Option (List Value → M Value)} (hp : prim n_ref30At = none) (n : Nat) (x0 x1 : Value) : run Try.prog prim lvs (n + 1) n_ref30At [x0, x1] = F_ref30At (run Try.prog prim lvs n) x0 x1 :=
  (run_fn hp (by kernel_rfl) Try.func27 (by kernel_rfl)).trans (rf_ref30At _ x0 x1)

end Go.Proofs.Ytkjoaediojdodaa.A
