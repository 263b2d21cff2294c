/- Functions, as the abstract machine reads them: printed by wip/tools/gen.py. -/
import Derived.Test.YtahocinoohdagaaNmBlk
import Derived.Test.YtahocinoohdagaaProg
import Derived.KernelRfl
namespace Go.Proofs.Ytahocinoohdagaa.A
set_option linter.unusedVariables false
set_option linter.unusedSimpArgs false
open Go.Proofs Go.Proofs.Ytahocinoohdagaa

/-- interrex/interrexlaw21.BlockFuses: a round. -/
noncomputable def F_law21BlockFuses.l1 (Γ : Funs) (s0 s7 s25 s26 s27 : Value) : M Out :=
  bind (bop .int .lss s27 s26) fun v28x11 =>
  cnd v28x11
  (bind (ixa 1 s25 s27) fun v30x12 =>
  bind (ld1 v30x12) fun v31x13 =>
  jn (cnd v31x13
  (bind (Γ n_blockDeviceFlush [s7]) fun v34x14 =>
  ret (.nrm [s0, s7, s27, v34x14, s25, s26, s27]))
  (bind (bop .int .rem s27 (Value.int .i64 4)) fun v37x15 =>
  bind (cvi .u8 s27) fun v39x16 =>
  bind (bsl 1 1 (.int .u8 0) [(0, 1, v39x16)]) fun v40x17 =>
  bind (Γ n_blockDeviceWrite [s7, v37x15, v40x17]) fun v41x18 =>
  ret (.nrm [s0, s7, s27, v41x18, s25, s26, s27]))) (fun vs_19 =>
  bind (bop .int .eql (vs_19.tail.tail.tail.headD undef) (Value.int .i64 0)) fun v43x20 =>
  bind (bop .int .lss (vs_19.tail.tail.headD undef) (vs_19.headD undef)) fun v46x21 =>
  bind (bop .bool .neq v43x20 v46x21) fun v47x22 =>
  bind (gate v47x22 false 3 (bind (bop .int .neq (vs_19.tail.tail.tail.headD undef) (Value.int .i64 0)) fun v50x23 =>
  ret [(vs_19.tail.tail.tail.headD undef), v50x23, v50x23])) fun vs_24 =>
  bind (gate (vs_24.tail.tail.headD undef) true 2 (bind (bop .int .neq (vs_19.tail.tail.tail.headD undef) (Value.int .i64 15)) fun v53x25 =>
  ret [(vs_19.tail.tail.tail.headD undef), v53x25])) fun vs_26 =>
  bind (gate v47x22 false 1 (bind (pick (vs_24.tail.tail.headD undef) (vs_26.tail.headD undef) (Value.bool false)) fun v54x27 =>
  ret [v54x27])) fun vs_28 =>
  bind (pick v47x22 (Value.bool true) (vs_28.headD undef)) fun v55x29 =>
  bind (gate v55x29 false 6 (bind (Γ n_blockDeviceDown [(vs_19.tail.headD undef)]) fun v58x30 =>
  bind (bop .int .geq (vs_19.tail.tail.headD undef) (vs_19.headD undef)) fun v61x31 =>
  bind (bop .bool .neq v58x30 v61x31) fun v62x32 =>
  ret [(vs_19.tail.headD undef), v58x30, (vs_19.tail.tail.headD undef), (vs_19.headD undef), v61x31, v62x32])) fun vs_33 =>
  bind (pick v55x29 (Value.bool true) (vs_33.tail.tail.tail.tail.tail.headD undef)) fun v63x34 =>
  cnd v63x34
  (ret (.ret (Value.bool false)))
  (bind (bop .int .add (vs_19.tail.tail.tail.tail.tail.tail.headD undef) (Value.int .i64 1)) fun v64x35 =>
  ret (.nrm [(vs_19.headD undef), (vs_19.tail.headD undef), (vs_19.tail.tail.tail.tail.headD undef), (vs_19.tail.tail.tail.tail.tail.headD undef), v64x35]))) (fun _ _ => fail) (fun w_36 => ret (.ret w_36)))
  (ret (.ext 0 [s7]))

/-- interrex/interrexlaw21.BlockFuses -/
noncomputable def F_law21BlockFuses (Γ : Funs) (x0 x1 x2 : Value) : M Value :=
  bind (Γ n_law21Lives []) fun v12x1 =>
  bind (uop .not v12x1) fun v13x2 =>
  bind (gate v13x2 false 3 (bind (lenS x2) fun v16x3 =>
  bind (bop .int .gtr v16x3 (Value.int .i64 60)) fun v17x4 =>
  ret [x2, v16x3, v17x4])) fun vs_5 =>
  bind (pick v13x2 (Value.bool true) (vs_5.tail.tail.headD undef)) fun v18x6 =>
  cnd v18x6
  (bind (Γ n_law21Lives []) fun v19x7 =>
  ret v19x7)
  (bind (Γ n_blockNew [(Value.int .i64 4)]) fun v20x8 =>
  bind (Γ n_blockDeviceArm [v20x8, x0, x1]) fun v24x9 =>
  bind (lenS x2) fun v26x10 =>
  jn (loopM (fun vs_37 => F_law21BlockFuses.l1 Γ ((vs_37.headD undef)) ((vs_37.tail.headD undef)) ((vs_37.tail.tail.headD undef)) ((vs_37.tail.tail.tail.headD undef)) ((vs_37.tail.tail.tail.tail.headD undef))) [x0, v20x8, x2, v26x10, (Value.int .i64 0)]) (fun _ => fail) (fun j_38 vs_38 => bif Nat.beq j_38 0 then (bind (Γ n_blockDeviceDown [(vs_38.headD undef)]) fun v66x39 =>
  bind (Γ n_blockDeviceStart [(vs_38.headD undef)]) fun v68x40 =>
  bind (Γ n_blockDeviceDown [(vs_38.headD undef)]) fun v70x41 =>
  bind (bop .bool .eql v70x41 (Value.bool false)) fun v71x42 =>
  bind (gate v71x42 true 3 (bind (uop .not v66x39) fun v74x43 =>
  ret [v66x39, v74x43, v74x43])) fun vs_44 =>
  bind (gate (vs_44.tail.tail.headD undef) false 4 (bind (Γ n_blockDeviceWrite [(vs_38.headD undef), (Value.int .i64 0), (Value.slice none 0 0)]) fun v77x45 =>
  bind (bop .int .eql v77x45 (Value.int .i64 0)) fun v78x46 =>
  ret [(vs_38.headD undef), v77x45, v78x46, v78x46])) fun vs_47 =>
  bind (gate (vs_47.tail.tail.tail.headD undef) true 3 (bind (Γ n_blockDeviceFlush [(vs_38.headD undef)]) fun v81x48 =>
  bind (bop .int .eql v81x48 (Value.int .i64 0)) fun v82x49 =>
  ret [(vs_38.headD undef), v81x48, v82x49])) fun vs_50 =>
  bind (gate (vs_44.tail.tail.headD undef) false 1 (bind (pick (vs_47.tail.tail.tail.headD undef) (vs_50.tail.tail.headD undef) (Value.bool false)) fun v83x51 =>
  ret [v83x51])) fun vs_52 =>
  bind (gate v71x42 true 1 (bind (pick (vs_44.tail.tail.headD undef) (Value.bool true) (vs_52.headD undef)) fun v84x53 =>
  ret [v84x53])) fun vs_54 =>
  bind (pick v71x42 (vs_54.headD undef) (Value.bool false)) fun v85x55 =>
  ret v85x55) else fail) (fun w_56 => ret w_56))

set_option maxRecDepth 100000 in
theorem rf_law21BlockFuses (Γ : Funs) (x0 x1 x2 : Value) : runF Try.prog Γ Try.f3 lv_law21BlockFuses [x0, x1, x2] = F_law21BlockFuses Γ x0 x1 x2 := by kernel_rfl

theorem run_law21BlockFuses {prim : FuncId → Option (List Value → M Value)} (hp : prim n_law21BlockFuses = none) (n : Nat) (x0 x1 x2 : Value) : run Try.prog prim lvs (n + 1) n_law21BlockFuses [x0, x1, x2] = F_law21BlockFuses (run Try.prog prim lvs n) x0 x1 x2 :=
  (run_fn hp (by kernel_rfl) Try.func3 (by kernel_rfl)).trans (rf_law21BlockFuses _ x0 x1 x2)

/-- interrex/interrexlaw21.BlockKeeps: a round. -/
noncomputable def F_law21BlockKeeps.l1 (Γ : Funs) (s0 s1 s5 s6 s27 : Value) : M Out :=
  bind (bop .int .lss s27 (Value.int .i64 8)) fun v28x10 =>
  cnd v28x10
  (bind (mks 1 1 (.int .u8 0) (Value.int .i64 128) (Value.int .i64 128)) fun v31x11 =>
  bind (b2s v31x11) fun v32x12 =>
  bind (bsl 1 1 (.string ⟨#[]⟩) [(0, 1, v32x12)]) fun v33x13 =>
  bind (ixaA 8 1 s6 s27) fun v34x14 =>
  bind (st1 v34x14 v33x13) fun _ =>
  bind (bop .int .add s27 (Value.int .i64 1)) fun v35x15 =>
  ret (.nrm [s0, s1, s5, s6, v35x15]))
  (ret (.ext 0 [s0, s1, s5, s6]))

/-- interrex/interrexlaw21.BlockKeeps: a round. -/
noncomputable def F_law21BlockKeeps.l3 (Γ : Funs) (s1 s5 s6 s9 s36 s37 s38 s83 : Value) : M Out :=
  bind (bop .int .lss s83 (Value.int .i64 8)) fun v84x72 =>
  cnd v84x72
  (bind (ixaA 8 1 s6 s83) fun v88x73 =>
  bind (ld1 v88x73) fun v89x74 =>
  bind (ixaA 8 1 s6 s83) fun v91x75 =>
  bind (ld1 v91x75) fun v92x76 =>
  bind (lenS v92x76) fun v93x77 =>
  bind (bop .int .sub v93x77 (Value.int .i64 1)) fun v94x78 =>
  bind (slv 1 v89x74 (some v94x78) none none) fun v95x79 =>
  bind (ixaA 8 1 s6 s83) fun v96x80 =>
  bind (st1 v96x80 v95x79) fun _ =>
  bind (bop .int .add s83 (Value.int .i64 1)) fun v97x81 =>
  ret (.nrm [s1, s5, s6, s9, s36, s37, s38, v97x81]))
  (ret (.ext 4 [s1, s5, s6, s9, s36, s37, s38]))

/-- interrex/interrexlaw21.BlockKeeps: a round. -/
noncomputable def F_law21BlockKeeps.l2 (Γ : Funs) (s1 s5 s6 s36 s37 s38 : Value) : M Out :=
  bind (bop .int .lss s38 s37) fun v39x19 =>
  cnd v39x19
  (bind (ixa 4 s36 s38) fun v40x20 =>
  bind (ldA 4 v40x20) fun v41x21 =>
  bind (alc 1 (.agg #[.int .u8 0, .int .i64 0, .slice none 0 0, .int .u64 0])) fun v9x22 =>
  bind (stA 4 v9x22 v41x21) fun _ =>
  bind (fa 0 v9x22) fun v42x23 =>
  bind (ld1 v42x23) fun v43x24 =>
  bind (bop .int .rem v43x24 (Value.int .u8 7)) fun v44x25 =>
  bind (bop .int .lss v44x25 (Value.int .u8 2)) fun v45x26 =>
  bind (gate v45x26 true 7 (bind (fa 1 v9x22) fun v48x27 =>
  bind (ld1 v48x27) fun v49x28 =>
  bind (fa 2 v9x22) fun v50x29 =>
  bind (ld1 v50x29) fun v51x30 =>
  bind (Γ n_blockDeviceWrite [s5, v49x28, v51x30]) fun v52x31 =>
  bind (bop .int .eql v52x31 (Value.int .i64 0)) fun v53x32 =>
  ret [s5, v48x27, v49x28, v50x29, v51x30, v52x31, v53x32])) fun vs_33 =>
  bind (pick v45x26 (vs_33.tail.tail.tail.tail.tail.tail.headD undef) (Value.bool false)) fun v54x34 =>
  jn (cnd v54x34
  (bind (fa 1 v9x22) fun v55x35 =>
  bind (ld1 v55x35) fun v56x36 =>
  bind (fa 1 v9x22) fun v57x37 =>
  bind (ld1 v57x37) fun v58x38 =>
  bind (ixaA 8 1 s6 v58x38) fun v59x39 =>
  bind (ld1 v59x39) fun v60x40 =>
  bind (fa 2 v9x22) fun v61x41 =>
  bind (ld1 v61x41) fun v62x42 =>
  bind (b2s v62x42) fun v63x43 =>
  bind (fa 2 v9x22) fun v64x44 =>
  bind (ld1 v64x44) fun v65x45 =>
  bind (lenS v65x45) fun v66x46 =>
  bind (bop .int .sub (Value.int .i64 128) v66x46) fun v67x47 =>
  bind (mks 1 1 (.int .u8 0) v67x47 v67x47) fun v68x48 =>
  bind (b2s v62x42) fun u_49 => same u_49 v63x43 <|
  bind (ld1 v61x41) fun u_50 => same u_50 v62x42 <|
  bind (ld1 v59x39) fun u_51 => same u_51 v60x40 <|
  bind (ld1 v57x37) fun u_52 => same u_52 v58x38 <|
  bind (ld1 v55x35) fun u_53 => same u_53 v56x36 <|
  bind (b2s v68x48) fun v69x54 =>
  bind (bop .str .add v63x43 v69x54) fun v70x55 =>
  bind (bsl 1 1 (.string ⟨#[]⟩) [(0, 1, v70x55)]) fun v71x56 =>
  bind (ld1 v59x39) fun u_57 => same u_57 v60x40 <|
  bind (ld1 v57x37) fun u_58 => same u_58 v58x38 <|
  bind (ld1 v55x35) fun u_59 => same u_59 v56x36 <|
  bind (app 1 16 v60x40 v71x56) fun v72x60 =>
  bind (ld1 v55x35) fun u_61 => same u_61 v56x36 <|
  bind (ixaA 8 1 s6 v56x36) fun v73x62 =>
  bind (st1 v73x62 v72x60) fun _ =>
  ret (.nrm [s1, s5, s6, v9x22, s36, s37, s38]))
  (ret (.nrm [s1, s5, s6, v9x22, s36, s37, s38]))) (fun vs_63 =>
  bind (fa 0 (vs_63.tail.tail.tail.headD undef)) fun v74x64 =>
  bind (ld1 v74x64) fun v75x65 =>
  bind (bop .int .rem v75x65 (Value.int .u8 7)) fun v76x66 =>
  bind (bop .int .eql v76x66 (Value.int .u8 2)) fun v77x67 =>
  bind (gate v77x67 true 3 (bind (Γ n_blockDeviceFlush [(vs_63.tail.headD undef)]) fun v80x68 =>
  bind (bop .int .eql v80x68 (Value.int .i64 0)) fun v81x69 =>
  ret [(vs_63.tail.headD undef), v80x68, v81x69])) fun vs_70 =>
  bind (pick v77x67 (vs_70.tail.tail.headD undef) (Value.bool false)) fun v82x71 =>
  jn (cnd v82x71
  (jn (loopM (fun vs_82 => F_law21BlockKeeps.l3 Γ ((vs_82.headD undef)) ((vs_82.tail.headD undef)) ((vs_82.tail.tail.headD undef)) ((vs_82.tail.tail.tail.headD undef)) ((vs_82.tail.tail.tail.tail.headD undef)) ((vs_82.tail.tail.tail.tail.tail.headD undef)) ((vs_82.tail.tail.tail.tail.tail.tail.headD undef)) ((vs_82.tail.tail.tail.tail.tail.tail.tail.headD undef))) [(vs_63.headD undef), (vs_63.tail.headD undef), (vs_63.tail.tail.headD undef), (vs_63.tail.tail.tail.headD undef), (vs_63.tail.tail.tail.tail.headD undef), (vs_63.tail.tail.tail.tail.tail.headD undef), (vs_63.tail.tail.tail.tail.tail.tail.headD undef), (Value.int .i64 0)]) (fun _ => fail) (fun j_83 vs_83 => bif Nat.beq j_83 4 then (ret (.nrm [(vs_83.headD undef), (vs_83.tail.headD undef), (vs_83.tail.tail.headD undef), (vs_83.tail.tail.tail.headD undef), (vs_83.tail.tail.tail.tail.headD undef), (vs_83.tail.tail.tail.tail.tail.headD undef), (vs_83.tail.tail.tail.tail.tail.tail.headD undef)])) else fail) (fun w_84 => ret (.ret w_84)))
  (ret (.nrm [(vs_63.headD undef), (vs_63.tail.headD undef), (vs_63.tail.tail.headD undef), (vs_63.tail.tail.tail.headD undef), (vs_63.tail.tail.tail.tail.headD undef), (vs_63.tail.tail.tail.tail.tail.headD undef), (vs_63.tail.tail.tail.tail.tail.tail.headD undef)]))) (fun vs_85 =>
  bind (fa 0 (vs_85.tail.tail.tail.headD undef)) fun v98x86 =>
  bind (ld1 v98x86) fun v99x87 =>
  bind (bop .int .rem v99x87 (Value.int .u8 7)) fun v100x88 =>
  bind (bop .int .eql v100x88 (Value.int .u8 4)) fun v101x89 =>
  jn (cnd v101x89
  (bind (fa 1 (vs_85.tail.tail.tail.headD undef)) fun v103x90 =>
  bind (ld1 v103x90) fun v104x91 =>
  bind (fa 3 (vs_85.tail.tail.tail.headD undef)) fun v105x92 =>
  bind (ld1 v105x92) fun v106x93 =>
  bind (Γ n_blockDeviceArm [(vs_85.tail.headD undef), v104x91, v106x93]) fun v107x94 =>
  ret (.nrm [(vs_85.headD undef), (vs_85.tail.headD undef), (vs_85.tail.tail.headD undef), (vs_85.tail.tail.tail.tail.headD undef), (vs_85.tail.tail.tail.tail.tail.headD undef), (vs_85.tail.tail.tail.tail.tail.tail.headD undef)]))
  (ret (.nrm [(vs_85.headD undef), (vs_85.tail.headD undef), (vs_85.tail.tail.headD undef), (vs_85.tail.tail.tail.tail.headD undef), (vs_85.tail.tail.tail.tail.tail.headD undef), (vs_85.tail.tail.tail.tail.tail.tail.headD undef)]))) (fun vs_95 =>
  bind (bop .int .add (vs_95.tail.tail.tail.tail.tail.headD undef) (Value.int .i64 1)) fun v108x96 =>
  ret (.nrm [(vs_95.headD undef), (vs_95.tail.headD undef), (vs_95.tail.tail.headD undef), (vs_95.tail.tail.tail.headD undef), (vs_95.tail.tail.tail.tail.headD undef), v108x96])) (fun _ _ => fail) (fun w_97 => ret (.ret w_97))) (fun _ _ => fail) (fun w_98 => ret (.ret w_98))) (fun _ _ => fail) (fun w_99 => ret (.ret w_99)))
  (ret (.ext 2 [s1, s5, s6]))

/-- interrex/interrexlaw21.BlockKeeps: a round. -/
noncomputable def F_law21BlockKeeps.l5 (Γ : Funs) (s5 s6 s11 s12 s13 s14 s15 s140 s151 s152 s153 : Value) : M Out :=
  bind (bop .int .lss s153 s152) fun v154x131 =>
  cnd v154x131
  (bind (ixa 1 s151 s153) fun v155x132 =>
  bind (ld1 v155x132) fun v156x133 =>
  bind (gate s15 false 4 (bind (b2s s13) fun v161x134 =>
  bind (bop .str .eql v156x133 v161x134) fun v162x135 =>
  ret [v156x133, s13, v161x134, v162x135])) fun vs_136 =>
  bind (pick s15 (Value.bool true) (vs_136.tail.tail.tail.headD undef)) fun v163x137 =>
  bind (bop .int .add s153 (Value.int .i64 1)) fun v164x138 =>
  ret (.nrm [s5, s6, s11, s12, s13, s14, v163x137, s140, s151, s152, v164x138]))
  (ret (.ext 8 [s5, s6, s11, s12, s13, s14, s15, s140]))

/-- interrex/interrexlaw21.BlockKeeps: a round. -/
noncomputable def F_law21BlockKeeps.l4 (Γ : Funs) (s5 s6 s11 s140 : Value) : M Out :=
  bind (bop .int .lss s140 (Value.int .i64 8)) fun v141x124 =>
  cnd v141x124
  (bind (Γ n_blockDeviceRead [s5, s140]) fun v146x125 =>
  bind (extr v146x125 0) fun v147x126 =>
  bind (extr v146x125 1) fun v148x127 =>
  bind (ixaA 8 1 s6 s140) fun v150x128 =>
  bind (ld1 v150x128) fun v151x129 =>
  bind (lenS v151x129) fun v152x130 =>
  jn (loopM (fun vs_139 => F_law21BlockKeeps.l5 Γ ((vs_139.headD undef)) ((vs_139.tail.headD undef)) ((vs_139.tail.tail.headD undef)) ((vs_139.tail.tail.tail.headD undef)) ((vs_139.tail.tail.tail.tail.headD undef)) ((vs_139.tail.tail.tail.tail.tail.headD undef)) ((vs_139.tail.tail.tail.tail.tail.tail.headD undef)) ((vs_139.tail.tail.tail.tail.tail.tail.tail.headD undef)) ((vs_139.tail.tail.tail.tail.tail.tail.tail.tail.headD undef)) ((vs_139.tail.tail.tail.tail.tail.tail.tail.tail.tail.headD undef)) ((vs_139.tail.tail.tail.tail.tail.tail.tail.tail.tail.tail.headD undef))) [s5, s6, s11, s140, v147x126, v148x127, (Value.bool false), s140, v151x129, v152x130, (Value.int .i64 0)]) (fun _ => fail) (fun j_140 vs_140 => bif Nat.beq j_140 8 then (bind (bop .int .neq (vs_140.tail.tail.tail.tail.tail.headD undef) (Value.int .i64 0)) fun v166x141 =>
  bind (gateV v166x141 false (ret (vs_140.tail.tail.tail.tail.tail.tail.headD undef))) fun v168x142 =>
  bind (gateV v166x141 false (uop .not v168x142)) fun v169x143 =>
  bind (pick v166x141 (Value.bool true) v169x143) fun v170x144 =>
  bind (gateV v170x144 false (ret (vs_140.tail.tail.headD undef))) fun v172x145 =>
  bind (gateV v170x144 false (ret v172x145)) fun v173x146 =>
  bind (gateV v173x146 true (ret (vs_140.tail.tail.tail.tail.headD undef))) fun v174x147 =>
  bind (gateV v173x146 true (b2s v174x147)) fun v175x148 =>
  bind (gateV v173x146 true (ret (vs_140.tail.tail.tail.headD undef))) fun v176x149 =>
  bind (gateV v173x146 true (ixaA 8 1 (vs_140.tail.headD undef) v176x149)) fun v177x150 =>
  bind (gateV v173x146 true (ld1 v177x150)) fun v178x151 =>
  bind (gateV v173x146 true (ret (vs_140.tail.tail.tail.headD undef))) fun v179x152 =>
  bind (gateV v173x146 true (ixaA 8 1 (vs_140.tail.headD undef) v179x152)) fun v180x153 =>
  bind (gateV v173x146 true (ld1 v180x153)) fun v181x154 =>
  bind (gateV v173x146 true (lenS v181x154)) fun v182x155 =>
  bind (gateV v173x146 true (bop .int .sub v182x155 (Value.int .i64 1))) fun v183x156 =>
  bind (gateV v173x146 true (ixa 1 v178x151 v183x156)) fun v184x157 =>
  bind (gateV v173x146 true (ld1 v184x157)) fun v185x158 =>
  bind (gateV v173x146 true (bop .str .neq v175x148 v185x158)) fun v186x159 =>
  bind (gateV v170x144 false (pick v173x146 v186x159 (Value.bool false))) fun v187x160 =>
  bind (pick v170x144 (Value.bool true) v187x160) fun v188x161 =>
  cnd v188x161
  (ret (.ret (Value.bool false)))
  (bind (bop .int .add (vs_140.tail.tail.tail.tail.tail.tail.tail.headD undef) (Value.int .i64 1)) fun v189x162 =>
  ret (.nrm [(vs_140.headD undef), (vs_140.tail.headD undef), (vs_140.tail.tail.headD undef), v189x162]))) else fail) (fun w_163 => ret (.ret w_163)))
  (ret (.ext 6 []))

/-- interrex/interrexlaw21.BlockKeeps -/
noncomputable def F_law21BlockKeeps (Γ : Funs) (x0 x1 : Value) : M Value :=
  bind (Γ n_law21Lives []) fun v18x1 =>
  bind (uop .not v18x1) fun v19x2 =>
  bind (gate v19x2 false 3 (bind (Γ n_law21Few [x0]) fun v22x3 =>
  bind (uop .not v22x3) fun v23x4 =>
  ret [x0, v22x3, v23x4])) fun vs_5 =>
  bind (pick v19x2 (Value.bool true) (vs_5.tail.tail.headD undef)) fun v24x6 =>
  cnd v24x6
  (bind (Γ n_law21Lives []) fun v25x7 =>
  ret v25x7)
  (bind (Γ n_blockNew [(Value.int .i64 8)]) fun v26x8 =>
  bind (alc 1 (.agg #[.slice none 0 0, .slice none 0 0, .slice none 0 0, .slice none 0 0, .slice none 0 0, .slice none 0 0, .slice none 0 0, .slice none 0 0])) fun v6x9 =>
  jn (loopM (fun vs_16 => F_law21BlockKeeps.l1 Γ ((vs_16.headD undef)) ((vs_16.tail.headD undef)) ((vs_16.tail.tail.headD undef)) ((vs_16.tail.tail.tail.headD undef)) ((vs_16.tail.tail.tail.tail.headD undef))) [x0, x1, v26x8, v6x9, (Value.int .i64 0)]) (fun _ => fail) (fun j_17 vs_17 => bif Nat.beq j_17 0 then (bind (lenS (vs_17.headD undef)) fun v37x18 =>
  jn (loopM (fun vs_100 => F_law21BlockKeeps.l2 Γ ((vs_100.headD undef)) ((vs_100.tail.headD undef)) ((vs_100.tail.tail.headD undef)) ((vs_100.tail.tail.tail.headD undef)) ((vs_100.tail.tail.tail.tail.headD undef)) ((vs_100.tail.tail.tail.tail.tail.headD undef))) [(vs_17.tail.headD undef), (vs_17.tail.tail.headD undef), (vs_17.tail.tail.tail.headD undef), (vs_17.headD undef), v37x18, (Value.int .i64 0)]) (fun _ => fail) (fun j_101 vs_101 => bif Nat.beq j_101 2 then (bind (Γ n_blockDeviceWaiting [(vs_101.tail.headD undef)]) fun v110x102 =>
  bind (bop .int .eql v110x102 (Value.int .i64 0)) fun v111x103 =>
  bind (gate v111x103 true 3 (bind (Γ n_blockDeviceDown [(vs_101.tail.headD undef)]) fun v114x104 =>
  bind (uop .not v114x104) fun v115x105 =>
  ret [(vs_101.tail.headD undef), v114x104, v115x105])) fun vs_106 =>
  bind (pick v111x103 (vs_106.tail.tail.headD undef) (Value.bool false)) fun v116x107 =>
  bind (Γ n_blockDeviceCut [(vs_101.tail.headD undef), (vs_101.headD undef)]) fun v119x108 =>
  bind (Γ n_blockDeviceDown [(vs_101.tail.headD undef)]) fun v121x109 =>
  bind (uop .not v121x109) fun v122x110 =>
  bind (gate v122x110 false 3 (bind (Γ n_blockDeviceWaiting [(vs_101.tail.headD undef)]) fun v125x111 =>
  bind (bop .int .neq v125x111 (Value.int .i64 0)) fun v126x112 =>
  ret [(vs_101.tail.headD undef), v125x111, v126x112])) fun vs_113 =>
  bind (pick v122x110 (Value.bool true) (vs_113.tail.tail.headD undef)) fun v127x114 =>
  bind (gate v127x114 false 3 (bind (Γ n_blockDeviceFlush [(vs_101.tail.headD undef)]) fun v130x115 =>
  bind (bop .int .neq v130x115 (Value.int .i64 15)) fun v131x116 =>
  ret [(vs_101.tail.headD undef), v130x115, v131x116])) fun vs_117 =>
  bind (pick v127x114 (Value.bool true) (vs_117.tail.tail.headD undef)) fun v132x118 =>
  bind (gate v132x118 false 3 (bind (Γ n_blockDeviceWrite [(vs_101.tail.headD undef), (Value.int .i64 0), (Value.slice none 0 0)]) fun v135x119 =>
  bind (bop .int .neq v135x119 (Value.int .i64 15)) fun v136x120 =>
  ret [(vs_101.tail.headD undef), v135x119, v136x120])) fun vs_121 =>
  bind (pick v132x118 (Value.bool true) (vs_121.tail.tail.headD undef)) fun v137x122 =>
  cnd v137x122
  (ret (Value.bool false))
  (bind (Γ n_blockDeviceStart [(vs_101.tail.headD undef)]) fun v139x123 =>
  jn (loopM (fun vs_164 => F_law21BlockKeeps.l4 Γ ((vs_164.headD undef)) ((vs_164.tail.headD undef)) ((vs_164.tail.tail.headD undef)) ((vs_164.tail.tail.tail.headD undef))) [(vs_101.tail.headD undef), (vs_101.tail.tail.headD undef), v116x107, (Value.int .i64 0)]) (fun _ => fail) (fun j_165 vs_165 => bif Nat.beq j_165 6 then (ret (Value.bool true)) else fail) (fun w_166 => ret w_166))) else fail) (fun w_167 => ret w_167)) else fail) (fun w_168 => ret w_168))

set_option maxRecDepth 100000 in
theorem rf_law21BlockKeeps (Γ : Funs) (x0 x1 : Value) : runF Try.prog Γ Try.f4 lv_law21BlockKeeps [x0, x1] = F_law21BlockKeeps Γ x0 x1 := by kernel_rfl

theorem run_law21BlockKeeps {prim : FuncId → Option (List Value → M Value)} (hp : prim n_law21BlockKeeps = none) (n : Nat) (x0 x1 : Value) : run Try.prog prim lvs (n + 1) n_law21BlockKeeps [x0, x1] = F_law21BlockKeeps (run Try.prog prim lvs n) x0 x1 :=
  (run_fn hp (by kernel_rfl) Try.func4 (by kernel_rfl)).trans (rf_law21BlockKeeps _ x0 x1)

/-- interrex/interrexlaw21.BlockPlays: a round. -/
noncomputable def F_law21BlockPlays.l3 (Γ : Funs) (s5 s6 s10 s11 s46 s47 s48 s103 s104 : Value) : M Out :=
  bind (bop .int .lss s104 s103) fun v105x68 =>
  cnd v105x68
  (bind (ixa 1 s11 s104) fun v109x69 =>
  bind (st1 v109x69 (Value.int .u8 7)) fun _ =>
  bind (bop .int .add s104 (Value.int .i64 1)) fun v110x70 =>
  ret (.nrm [s5, s6, s10, s11, s46, s47, s48, s103, v110x70]))
  (ret (.ext 4 [s5, s6, s10, s46, s47, s48]))

/-- interrex/interrexlaw21.BlockPlays: a round. -/
noncomputable def F_law21BlockPlays.l2 (Γ : Funs) (s5 s6 s10 s46 s47 s48 : Value) : M Out :=
  bind (fa 0 s6) fun v76x52 =>
  bind (ld1 v76x52) fun v77x53 =>
  bind (bop .int .leq s10 v77x53) fun v78x54 =>
  cnd v78x54
  (bind (Γ n_blockDeviceRead [s5, s10]) fun v84x55 =>
  bind (extr v84x55 0) fun v85x56 =>
  bind (extr v84x55 1) fun v86x57 =>
  bind (ldA 5 s6) fun v88x58 =>
  bind (Γ n_ref21Get [v88x58, s10]) fun v90x59 =>
  bind (extr v90x59 0) fun v91x60 =>
  bind (extr v90x59 1) fun v92x61 =>
  bind (b2s v85x56) fun v94x62 =>
  bind (bop .str .neq v94x62 v91x60) fun v96x63 =>
  bind (gate v96x63 false 3 (bind (bop .int .neq v86x57 v92x61) fun v100x64 =>
  ret [v86x57, v92x61, v100x64])) fun vs_65 =>
  bind (pick v96x63 (Value.bool true) (vs_65.tail.tail.headD undef)) fun v101x66 =>
  cnd v101x66
  (ret (.ret (Value.bool false)))
  (bind (lenS v85x56) fun v103x67 =>
  jn (loopM (fun vs_71 => F_law21BlockPlays.l3 Γ ((vs_71.headD undef)) ((vs_71.tail.headD undef)) ((vs_71.tail.tail.headD undef)) ((vs_71.tail.tail.tail.headD undef)) ((vs_71.tail.tail.tail.tail.headD undef)) ((vs_71.tail.tail.tail.tail.tail.headD undef)) ((vs_71.tail.tail.tail.tail.tail.tail.headD undef)) ((vs_71.tail.tail.tail.tail.tail.tail.tail.headD undef)) ((vs_71.tail.tail.tail.tail.tail.tail.tail.tail.headD undef))) [s5, s6, s10, v85x56, s46, s47, s48, v103x67, (Value.int .i64 0)]) (fun _ => fail) (fun j_72 vs_72 => bif Nat.beq j_72 4 then (bind (bop .int .add (vs_72.tail.tail.headD undef) (Value.int .i64 1)) fun v80x73 =>
  ret (.nrm [(vs_72.headD undef), (vs_72.tail.headD undef), v80x73, (vs_72.tail.tail.tail.headD undef), (vs_72.tail.tail.tail.tail.headD undef), (vs_72.tail.tail.tail.tail.tail.headD undef)])) else fail) (fun w_74 => ret (.ret w_74))))
  (ret (.ext 2 [s5, s6, s46, s47, s48]))

/-- interrex/interrexlaw21.BlockPlays: a round. -/
noncomputable def F_law21BlockPlays.l1 (Γ : Funs) (s5 s6 s46 s47 s48 : Value) : M Out :=
  bind (bop .int .lss s48 s47) fun v49x28 =>
  cnd v49x28
  (bind (ixa 4 s46 s48) fun v50x29 =>
  bind (ldA 4 v50x29) fun v51x30 =>
  bind (alc 1 (.agg #[.int .u8 0, .int .i64 0, .slice none 0 0, .int .u64 0])) fun v8x31 =>
  bind (stA 4 v8x31 v51x30) fun _ =>
  bind (ldA 5 s6) fun v54x32 =>
  bind (ldA 4 v8x31) fun v55x33 =>
  bind (Γ n_law21Do [s5, v54x32, v55x33]) fun v56x34 =>
  bind (extr v56x34 0) fun v57x35 =>
  bind (extr v56x34 1) fun v58x36 =>
  bind (stA 5 s6 v57x35) fun _ =>
  bind (uop .not v58x36) fun v60x37 =>
  bind (gateV v60x37 false (ret s5)) fun v62x38 =>
  bind (gateV v60x37 false (fa 2 s6)) fun v64x39 =>
  bind (gateV v60x37 false (ld1 v64x39)) fun v65x40 =>
  bind (gateV v60x37 false (Γ n_blockDeviceDown [v62x38])) fun v63x41 =>
  bind (gateV v60x37 false (ld1 v64x39)) fun u_42 => same u_42 v65x40 <|
  bind (gateV v60x37 false (bop .bool .neq v63x41 v65x40)) fun v66x43 =>
  bind (pick v60x37 (Value.bool true) v66x43) fun v67x44 =>
  bind (gateV v67x44 false (ret s5)) fun v69x45 =>
  bind (gateV v67x44 false (ldA 5 s6)) fun v71x46 =>
  bind (gateV v67x44 false (Γ n_blockDeviceWaiting [v69x45])) fun v70x47 =>
  bind (gateV v67x44 false (ldA 5 s6)) fun u_48 => same u_48 v71x46 <|
  bind (gateV v67x44 false (Γ n_ref21Waiting [v71x46])) fun v72x49 =>
  bind (gateV v67x44 false (bop .int .neq v70x47 v72x49)) fun v73x50 =>
  bind (pick v67x44 (Value.bool true) v73x50) fun v74x51 =>
  cnd v74x51
  (ret (.ret (Value.bool false)))
  (jn (loopM (fun vs_75 => F_law21BlockPlays.l2 Γ ((vs_75.headD undef)) ((vs_75.tail.headD undef)) ((vs_75.tail.tail.headD undef)) ((vs_75.tail.tail.tail.headD undef)) ((vs_75.tail.tail.tail.tail.headD undef)) ((vs_75.tail.tail.tail.tail.tail.headD undef))) [s5, s6, (Value.int .i64 (-1)), s46, s47, s48]) (fun _ => fail) (fun j_76 vs_76 => bif Nat.beq j_76 2 then (bind (bop .int .add (vs_76.tail.tail.tail.tail.headD undef) (Value.int .i64 1)) fun v111x77 =>
  ret (.nrm [(vs_76.headD undef), (vs_76.tail.headD undef), (vs_76.tail.tail.headD undef), (vs_76.tail.tail.tail.headD undef), v111x77])) else fail) (fun w_78 => ret (.ret w_78))))
  (ret (.ext 0 []))

/-- interrex/interrexlaw21.BlockPlays -/
noncomputable def F_law21BlockPlays (Γ : Funs) (x0 x1 : Value) : M Value :=
  bind (Γ n_law21Lives []) fun v16x1 =>
  bind (uop .not v16x1) fun v17x2 =>
  bind (gate v17x2 false 3 (bind (Γ n_law21Few [x1]) fun v20x3 =>
  bind (uop .not v20x3) fun v21x4 =>
  ret [x1, v20x3, v21x4])) fun vs_5 =>
  bind (pick v17x2 (Value.bool true) (vs_5.tail.tail.headD undef)) fun v22x6 =>
  cnd v22x6
  (bind (Γ n_law21Lives []) fun v23x7 =>
  ret v23x7)
  (bind (bop .int .rem x0 (Value.int .u8 9)) fun v25x8 =>
  bind (cvi .i64 v25x8) fun v26x9 =>
  bind (Γ n_blockNew [v26x9]) fun v27x10 =>
  bind (bop .int .rem x0 (Value.int .u8 9)) fun v29x11 =>
  bind (cvi .i64 v29x11) fun v30x12 =>
  bind (Γ n_ref21New [v30x12]) fun v31x13 =>
  bind (alc 1 (.agg #[.int .i64 0, .slice none 0 0, .bool false, .int .i64 0, .int .u64 0])) fun v6x14 =>
  bind (stA 5 v6x14 v31x13) fun _ =>
  bind (bop .ptr .eql v27x10 (Value.pointer none)) fun v33x15 =>
  bind (gateV v33x15 false (ret v27x10)) fun v35x16 =>
  bind (gateV v33x15 false (fa 0 v6x14)) fun v37x17 =>
  bind (gateV v33x15 false (ld1 v37x17)) fun v38x18 =>
  bind (gateV v33x15 false (Γ n_blockDeviceLen [v35x16])) fun v36x19 =>
  bind (gateV v33x15 false (ld1 v37x17)) fun u_20 => same u_20 v38x18 <|
  bind (gateV v33x15 false (bop .int .neq v36x19 v38x18)) fun v39x21 =>
  bind (pick v33x15 (Value.bool true) v39x21) fun v40x22 =>
  bind (gateV v40x22 false (Γ n_blockNew [(Value.int .i64 (-1))])) fun v42x23 =>
  bind (gateV v40x22 false (Γ n_blockDeviceLen [v42x23])) fun v43x24 =>
  bind (gateV v40x22 false (bop .int .neq v43x24 (Value.int .i64 0))) fun v44x25 =>
  bind (pick v40x22 (Value.bool true) v44x25) fun v45x26 =>
  cnd v45x26
  (ret (Value.bool false))
  (bind (lenS x1) fun v47x27 =>
  jn (loopM (fun vs_79 => F_law21BlockPlays.l1 Γ ((vs_79.headD undef)) ((vs_79.tail.headD undef)) ((vs_79.tail.tail.headD undef)) ((vs_79.tail.tail.tail.headD undef)) ((vs_79.tail.tail.tail.tail.headD undef))) [v27x10, v6x14, x1, v47x27, (Value.int .i64 0)]) (fun _ => fail) (fun j_80 vs_80 => bif Nat.beq j_80 0 then (ret (Value.bool true)) else fail) (fun w_81 => ret w_81)))

set_option maxRecDepth 100000 in
theorem rf_law21BlockPlays (Γ : Funs) (x0 x1 : Value) : runF Try.prog Γ Try.f5 lv_law21BlockPlays [x0, x1] = F_law21BlockPlays Γ x0 x1 := by kernel_rfl

theorem run_law21BlockPlays {prim : FuncId → Option (List Value → M Value)} (hp : prim n_law21BlockPlays = none) (n : Nat) (x0 x1 : Value) : run Try.prog prim lvs (n + 1) n_law21BlockPlays [x0, x1] = F_law21BlockPlays (run Try.prog prim lvs n) x0 x1 :=
  (run_fn hp (by kernel_rfl) Try.func5 (by kernel_rfl)).trans (rf_law21BlockPlays _ x0 x1)

/-- interrex/interrexlaw21.lives -/
noncomputable def F_law21Lives (Γ : Funs) : M Value :=
  bind (Γ n_blockNew [(Value.int .i64 2)]) fun v7x1 =>
  bind (bop .ptr .eql v7x1 (Value.pointer none)) fun v9x2 =>
  cnd v9x2
  (ret (Value.bool false))
  (bind (bsl 1 1 (.int .u8 0) [(0, 1, (Value.int .u8 97))]) fun v11x3 =>
  bind (mrk v11x3) fun v12x4 =>
  bind (Γ n_blockDeviceWrite [v7x1, (Value.int .i64 0), v12x4]) fun v13x5 =>
  bind (Γ n_blockDeviceFlush [v7x1]) fun v15x6 =>
  bind (bsl 1 1 (.int .u8 0) [(0, 1, (Value.int .u8 98))]) fun v17x7 =>
  bind (mrk v17x7) fun v18x8 =>
  bind (Γ n_blockDeviceWrite [v7x1, (Value.int .i64 0), v18x8]) fun v19x9 =>
  bind (bsl 1 1 (.int .u8 0) [(0, 1, (Value.int .u8 99))]) fun v21x10 =>
  bind (mrk v21x10) fun v22x11 =>
  bind (Γ n_blockDeviceWrite [v7x1, (Value.int .i64 1), v22x11]) fun v23x12 =>
  bind (Γ n_blockDeviceCut [v7x1, (Value.int .u64 2)]) fun v25x13 =>
  bind (Γ n_blockDeviceDown [v7x1]) fun v27x14 =>
  bind (Γ n_blockDeviceStart [v7x1]) fun v29x15 =>
  bind (Γ n_blockDeviceRead [v7x1, (Value.int .i64 0)]) fun v32x16 =>
  bind (extr v32x16 0) fun v33x17 =>
  bind (extr v32x16 1) fun v34x18 =>
  bind (Γ n_blockDeviceRead [v7x1, (Value.int .i64 1)]) fun v37x19 =>
  bind (extr v37x19 0) fun v38x20 =>
  bind (extr v37x19 1) fun v39x21 =>
  bind (gate v27x14 true 2 (bind (bop .int .eql v34x18 (Value.int .i64 0)) fun v43x22 =>
  ret [v34x18, v43x22])) fun vs_23 =>
  bind (pick v27x14 (vs_23.tail.headD undef) (Value.bool false)) fun v44x24 =>
  bind (gate v44x24 true 2 (bind (bop .int .eql v39x21 (Value.int .i64 0)) fun v47x25 =>
  ret [v39x21, v47x25])) fun vs_26 =>
  bind (pick v44x24 (vs_26.tail.headD undef) (Value.bool false)) fun v48x27 =>
  bind (gate v48x27 true 3 (bind (lenS v33x17) fun v51x28 =>
  bind (bop .int .eql v51x28 (Value.int .i64 128)) fun v52x29 =>
  ret [v33x17, v51x28, v52x29])) fun vs_30 =>
  bind (pick v48x27 (vs_30.tail.tail.headD undef) (Value.bool false)) fun v53x31 =>
  bind (gate v53x31 true 3 (bind (lenS v38x20) fun v56x32 =>
  bind (bop .int .eql v56x32 (Value.int .i64 128)) fun v57x33 =>
  ret [v38x20, v56x32, v57x33])) fun vs_34 =>
  bind (pick v53x31 (vs_34.tail.tail.headD undef) (Value.bool false)) fun v58x35 =>
  bind (gate v58x35 true 4 (bind (ixa 1 v33x17 (Value.int .i64 0)) fun v61x36 =>
  bind (ld1 v61x36) fun v62x37 =>
  bind (bop .int .eql v62x37 (Value.int .u8 97)) fun v63x38 =>
  ret [v33x17, v61x36, v62x37, v63x38])) fun vs_39 =>
  bind (pick v58x35 (vs_39.tail.tail.tail.headD undef) (Value.bool false)) fun v64x40 =>
  bind (gate v64x40 true 4 (bind (ixa 1 v38x20 (Value.int .i64 0)) fun v67x41 =>
  bind (ld1 v67x41) fun v68x42 =>
  bind (bop .int .eql v68x42 (Value.int .u8 99)) fun v69x43 =>
  ret [v38x20, v67x41, v68x42, v69x43])) fun vs_44 =>
  bind (pick v64x40 (vs_44.tail.tail.tail.headD undef) (Value.bool false)) fun v70x45 =>
  ret v70x45)

set_option maxRecDepth 100000 in
theorem rf_law21Lives (Γ : Funs) : runF Try.prog Γ Try.f7 lv_law21Lives [] = F_law21Lives Γ  := by kernel_rfl

theorem run_law21Lives {prim : FuncId → Option (List Value → M Value)} (hp : prim n_law21Lives = none) (n : Nat) : run Try.prog prim lvs (n + 1) n_law21Lives [] = F_law21Lives (run Try.prog prim lvs n)  :=
  (run_fn hp (by kernel_rfl) Try.func7 (by kernel_rfl)).trans (rf_law21Lives _ )

/-- interrex/block.New: a round. -/
noncomputable def F_blockNew.l1 (Γ : Funs) (s3 s6 s7 : Value) : M Out :=
  bind (bop .int .lss s7 s6) fun v8x3 =>
  cnd v8x3
  (bind (nilc s3) fun v11x4 =>
  bind (fa 0 v11x4) fun v12x5 =>
  bind (ld1 v12x5) fun v13x6 =>
  bind (mks 1 1 (.int .u8 0) (Value.int .i64 128) (Value.int .i64 128)) fun v14x7 =>
  bind (ld1 v12x5) fun u_8 => same u_8 v13x6 <|
  bind (bsl 1 1 (.slice none 0 0) [(0, 1, v14x7)]) fun v15x9 =>
  bind (ld1 v12x5) fun u_10 => same u_10 v13x6 <|
  bind (app 1 24 v13x6 v15x9) fun v16x11 =>
  bind (nilc s3) fun v17x12 =>
  bind (fa 0 v17x12) fun v18x13 =>
  bind (st1 v18x13 v16x11) fun _ =>
  bind (bop .int .add s7 (Value.int .i64 1)) fun v19x14 =>
  ret (.nrm [s3, s6, v19x14]))
  (ret (.ext 0 [s3]))

/-- interrex/block.New -/
noncomputable def F_blockNew (Γ : Funs) (x0 : Value) : M Value :=
  bind (bld (.agg #[.slice none 0 0, .slice none 0 0, .bool false, .int .i64 0, .int .u64 0]) [(3, 1, (Value.int .i64 (-1)))]) fun v4x1 =>
  bind (alc 1 v4x1) fun v5x2 =>
  jn (loopM (fun vs_15 => F_blockNew.l1 Γ ((vs_15.headD undef)) ((vs_15.tail.headD undef)) ((vs_15.tail.tail.headD undef))) [v5x2, x0, (Value.int .i64 0)]) (fun _ => fail) (fun j_16 vs_16 => bif Nat.beq j_16 0 then (ret (vs_16.headD undef)) else fail) (fun w_17 => ret w_17)

set_option maxRecDepth 100000 in
theorem rf_blockNew (Γ : Funs) (x0 : Value) : runF Try.prog Γ Try.f8 lv_blockNew [x0] = F_blockNew Γ x0 := by kernel_rfl

theorem run_blockNew {prim : FuncId → Option (List Value → M Value)} (hp : prim n_blockNew = none) (n : Nat) (x0 : Value) : run Try.prog prim lvs (n + 1) n_blockNew [x0] = F_blockNew (run Try.prog prim lvs n) x0 :=
  (run_fn hp (by kernel_rfl) Try.func8 (by kernel_rfl)).trans (rf_blockNew _ x0)

/-- (*interrex/block.Device).Arm -/
noncomputable def F_blockDeviceArm (Γ : Funs) (x0 x1 x2 : Value) : M Value :=
  bind (nilc x0) fun v7x1 =>
  bind (fa 2 v7x1) fun v8x2 =>
  bind (ld1 v8x2) fun v9x3 =>
  bind (uop .not v9x3) fun v10x4 =>
  jn (cnd v10x4
  (bind (mxi true (Value.int .i64 0) x1) fun v14x5 =>
  bind (nilc x0) fun v16x6 =>
  bind (fa 3 v16x6) fun v17x7 =>
  bind (st1 v17x7 v14x5) fun _ =>
  bind (nilc x0) fun v18x8 =>
  bind (fa 4 v18x8) fun v19x9 =>
  bind (st1 v19x9 x2) fun _ =>
  ret (.nrm []))
  (ret (.nrm []))) (fun vs_10 =>
  ret (Value.tuple #[])) (fun _ _ => fail) (fun w_11 => ret w_11)

set_option maxRecDepth 100000 in
theorem rf_blockDeviceArm (Γ : Funs) (x0 x1 x2 : Value) : runF Try.prog Γ Try.f9 lv_blockDeviceArm [x0, x1, x2] = F_blockDeviceArm Γ x0 x1 x2 := by kernel_rfl

theorem run_blockDeviceArm {prim : FuncId → Option (List Value → M Value)} (hp : prim n_blockDeviceArm = none) (n : Nat) (x0 x1 x2 : Value) : run Try.prog prim lvs (n + 1) n_blockDeviceArm [x0, x1, x2] = F_blockDeviceArm (run Try.prog prim lvs n) x0 x1 x2 :=
  (run_fn hp (by kernel_rfl) Try.func9 (by kernel_rfl)).trans (rf_blockDeviceArm _ x0 x1 x2)

/-- (*interrex/block.Device).Flush -/
noncomputable def F_blockDeviceFlush (Γ : Funs) (x0 : Value) : M Value :=
  bind (nilc x0) fun v5x1 =>
  bind (fa 2 v5x1) fun v6x2 =>
  bind (ld1 v6x2) fun v7x3 =>
  cnd v7x3
  (ret (Value.int .i64 15))
  (bind (Γ n_blockDeviceBurn [x0]) fun v9x4 =>
  bind (bop .int .neq v9x4 (Value.int .i64 0)) fun v11x5 =>
  cnd v11x5
  (ret v9x4)
  (bind (Γ n_blockDeviceKeep [x0, (Value.func (.func 29) #[] #[])]) fun v14x6 =>
  ret (Value.int .i64 0)))

set_option maxRecDepth 100000 in
theorem rf_blockDeviceFlush (Γ : Funs) (x0 : Value) : runF Try.prog Γ Try.f10 lv_blockDeviceFlush [x0] = F_blockDeviceFlush Γ x0 := by kernel_rfl

theorem run_blockDeviceFlush {prim : FuncId → Option (List Value → M Value)} (hp : prim n_blockDeviceFlush = none) (n : Nat) (x0 : Value) : run Try.prog prim lvs (n + 1) n_blockDeviceFlush [x0] = F_blockDeviceFlush (run Try.prog prim lvs n) x0 :=
  (run_fn hp (by kernel_rfl) Try.func10 (by kernel_rfl)).trans (rf_blockDeviceFlush _ x0)

/-- (*interrex/block.Device).Write -/
noncomputable def F_blockDeviceWrite (Γ : Funs) (x0 x1 x2 : Value) : M Value :=
  bind (Γ n_blockDeviceThere [x0, x1]) fun v12x1 =>
  bind (bop .int .neq v12x1 (Value.int .i64 0)) fun v14x2 =>
  cnd v14x2
  (ret v12x1)
  (bind (lenS x2) fun v17x3 =>
  bind (bop .int .gtr v17x3 (Value.int .i64 128)) fun v18x4 =>
  cnd v18x4
  (ret (Value.int .i64 3))
  (bind (Γ n_blockDeviceBurn [x0]) fun v20x5 =>
  bind (bop .int .neq v20x5 (Value.int .i64 0)) fun v22x6 =>
  cnd v22x6
  (ret v20x5)
  (bind (mks 1 1 (.int .u8 0) (Value.int .i64 128) (Value.int .i64 128)) fun v24x7 =>
  bind (cpy 1 v24x7 x2) fun v27x8 =>
  bind (nilc x0) fun v30x9 =>
  bind (fa 1 v30x9) fun v31x10 =>
  bind (ld1 v31x10) fun v32x11 =>
  bind (bld (.agg #[.int .i64 0, .slice none 0 0]) [(0, 1, x1), (1, 1, v24x7)]) fun v35x12 =>
  bind (bsl 2 1 (.agg #[.int .i64 0, .slice none 0 0]) [(0, 2, v35x12)]) fun v36x13 =>
  bind (app 2 32 v32x11 v36x13) fun v37x14 =>
  bind (nilc x0) fun v38x15 =>
  bind (fa 1 v38x15) fun v39x16 =>
  bind (st1 v39x16 v37x14) fun _ =>
  ret (Value.int .i64 0))))

set_option maxRecDepth 100000 in
theorem rf_blockDeviceWrite (Γ : Funs) (x0 x1 x2 : Value) : runF Try.prog Γ Try.f11 lv_blockDeviceWrite [x0, x1, x2] = F_blockDeviceWrite Γ x0 x1 x2 := by kernel_rfl

theorem run_blockDeviceWrite {prim : FuncId → Option (List Value → M Value)} (hp : prim n_blockDeviceWrite = none) (n : Nat) (x0 x1 x2 : Value) : run Try.prog prim lvs (n + 1) n_blockDeviceWrite [x0, x1, x2] = F_blockDeviceWrite (run Try.prog prim lvs n) x0 x1 x2 :=
  (run_fn hp (by kernel_rfl) Try.func11 (by kernel_rfl)).trans (rf_blockDeviceWrite _ x0 x1 x2)

/-- (*interrex/block.Device).Down -/
noncomputable def F_blockDeviceDown (Γ : Funs) (x0 : Value) : M Value :=
  bind (nilc x0) fun v4x1 =>
  bind (fa 2 v4x1) fun v5x2 =>
  bind (ld1 v5x2) fun v6x3 =>
  ret v6x3

set_option maxRecDepth 100000 in
theorem rf_blockDeviceDown (Γ : Funs) (x0 : Value) : runF Try.prog Γ Try.f12 lv_blockDeviceDown [x0] = F_blockDeviceDown Γ x0 := by kernel_rfl

theorem run_blockDeviceDown {prim : FuncId → Option (List Value → M Value)} (hp : prim n_blockDeviceDown = none) (n : Nat) (x0 : Value) : run Try.prog prim lvs (n + 1) n_blockDeviceDown [x0] = F_blockDeviceDown (run Try.prog prim lvs n) x0 :=
  (run_fn hp (by kernel_rfl) Try.func12 (by kernel_rfl)).trans (rf_blockDeviceDown _ x0)

/-- (*interrex/block.Device).Start -/
noncomputable def F_blockDeviceStart (Γ : Funs) (x0 : Value) : M Value :=
  bind (nilc x0) fun v3x1 =>
  bind (fa 2 v3x1) fun v4x2 =>
  bind (st1 v4x2 (Value.bool false)) fun _ =>
  ret (Value.tuple #[])

set_option maxRecDepth 100000 in
theorem rf_blockDeviceStart (Γ : Funs) (x0 : Value) : runF Try.prog Γ Try.f13 lv_blockDeviceStart [x0] = F_blockDeviceStart Γ x0 := by kernel_rfl

theorem run_blockDeviceStart {prim : FuncId → Option (List Value → M Value)} (hp : prim n_blockDeviceStart = none) (n : Nat) (x0 : Value) : run Try.prog prim lvs (n + 1) n_blockDeviceStart [x0] = F_blockDeviceStart (run Try.prog prim lvs n) x0 :=
  (run_fn hp (by kernel_rfl) Try.func13 (by kernel_rfl)).trans (rf_blockDeviceStart _ x0)

/-- interrex/interrexlaw21.few: a round. -/
noncomputable def F_law21Few.l1 (Γ : Funs) (s0 s5 s6 s7 : Value) : M Out :=
  bind (bop .int .lss s7 s6) fun v8x2 =>
  cnd v8x2
  (bind (ixa 4 s5 s7) fun v9x3 =>
  bind (ldA 4 v9x3) fun v10x4 =>
  bind (alc 1 (.agg #[.int .u8 0, .int .i64 0, .slice none 0 0, .int .u64 0])) fun v4x5 =>
  bind (stA 4 v4x5 v10x4) fun _ =>
  bind (fa 2 v4x5) fun v11x6 =>
  bind (ld1 v11x6) fun v12x7 =>
  bind (lenS v12x7) fun v13x8 =>
  bind (bop .int .gtr v13x8 (Value.int .i64 200)) fun v14x9 =>
  cnd v14x9
  (ret (.ret (Value.bool false)))
  (bind (bop .int .add s7 (Value.int .i64 1)) fun v15x10 =>
  ret (.nrm [s0, s5, s6, v15x10])))
  (ret (.ext 0 [s0]))

/-- interrex/interrexlaw21.few -/
noncomputable def F_law21Few (Γ : Funs) (x0 : Value) : M Value :=
  bind (lenS x0) fun v6x1 =>
  jn (loopM (fun vs_11 => F_law21Few.l1 Γ ((vs_11.headD undef)) ((vs_11.tail.headD undef)) ((vs_11.tail.tail.headD undef)) ((vs_11.tail.tail.tail.headD undef))) [x0, x0, v6x1, (Value.int .i64 0)]) (fun _ => fail) (fun j_12 vs_12 => bif Nat.beq j_12 0 then (bind (lenS (vs_12.headD undef)) fun v17x13 =>
  bind (bop .int .leq v17x13 (Value.int .i64 60)) fun v18x14 =>
  ret v18x14) else fail) (fun w_15 => ret w_15)

set_option maxRecDepth 100000 in
theorem rf_law21Few (Γ : Funs) (x0 : Value) : runF Try.prog Γ Try.f14 lv_law21Few [x0] = F_law21Few Γ x0 := by kernel_rfl

theorem run_law21Few {prim : FuncId → Option (List Value → M Value)} (hp : prim n_law21Few = none) (n : Nat) (x0 : Value) : run Try.prog prim lvs (n + 1) n_law21Few [x0] = F_law21Few (run Try.prog prim lvs n) x0 :=
  (run_fn hp (by kernel_rfl) Try.func14 (by kernel_rfl)).trans (rf_law21Few _ x0)

/-- (*interrex/block.Device).Waiting -/
noncomputable def F_blockDeviceWaiting (Γ : Funs) (x0 : Value) : M Value :=
  bind (nilc x0) fun v4x1 =>
  bind (fa 1 v4x1) fun v5x2 =>
  bind (ld1 v5x2) fun v6x3 =>
  bind (lenS v6x3) fun v7x4 =>
  ret v7x4

set_option maxRecDepth 100000 in
theorem rf_blockDeviceWaiting (Γ : Funs) (x0 : Value) : runF Try.prog Γ Try.f15 lv_blockDeviceWaiting [x0] = F_blockDeviceWaiting Γ x0 := by kernel_rfl

theorem run_blockDeviceWaiting {prim : FuncId → Option (List Value → M Value)} (hp : prim n_blockDeviceWaiting = none) (n : Nat) (x0 : Value) : run Try.prog prim lvs (n + 1) n_blockDeviceWaiting [x0] = F_blockDeviceWaiting (run Try.prog prim lvs n) x0 :=
  (run_fn hp (by kernel_rfl) Try.func15 (by kernel_rfl)).trans (rf_blockDeviceWaiting _ x0)

/-- (*interrex/block.Device).Cut -/
noncomputable def F_blockDeviceCut (Γ : Funs) (x0 x1 : Value) : M Value :=
  bind (alc 1 x1) fun v3x1 =>
  bind (nilc x0) fun v5x2 =>
  bind (fa 2 v5x2) fun v6x3 =>
  bind (ld1 v6x3) fun v7x4 =>
  cnd v7x4
  (ret (Value.tuple #[]))
  (bind (Γ n_blockDeviceKeep [x0, (Value.func (.func 31) #[] #[v3x1])]) fun v10x5 =>
  bind (nilc x0) fun v13x6 =>
  bind (fa 2 v13x6) fun v14x7 =>
  bind (st1 v14x7 (Value.bool true)) fun _ =>
  bind (nilc x0) fun v15x8 =>
  bind (fa 3 v15x8) fun v16x9 =>
  bind (st1 v16x9 (Value.int .i64 (-1))) fun _ =>
  ret (Value.tuple #[]))

set_option maxRecDepth 100000 in
theorem rf_blockDeviceCut (Γ : Funs) (x0 x1 : Value) : runF Try.prog Γ Try.f16 lv_blockDeviceCut [x0, x1] = F_blockDeviceCut Γ x0 x1 := by kernel_rfl

theorem run_blockDeviceCut {prim : FuncId → Option (List Value → M Value)} (hp : prim n_blockDeviceCut = none) (n : Nat) (x0 x1 : Value) : run Try.prog prim lvs (n + 1) n_blockDeviceCut [x0, x1] = F_blockDeviceCut (run Try.prog prim lvs n) x0 x1 :=
  (run_fn hp (by kernel_rfl) Try.func16 (by kernel_rfl)).trans (rf_blockDeviceCut _ x0 x1)

/-- (*interrex/block.Device).Read: a range over a function. -/
noncomputable abbrev F_blockDeviceRead.o1 (s3 s4 s5 : Value) (st : LoopState) (pd : Option Code) : AObj := .loop Try.f17 lv_blockDeviceRead 58 [0] (rfAt Try.f17 58) [(3, s3), (4, s4), (5, s5)] st pd

/-- (*interrex/block.Device).Read: a round of a range over a function. -/
noncomputable def F_blockDeviceRead.r1 (Γ : Funs) (L : Nat) (s3 s4 s5 : Value) (a0 a1 : Value) : M Value :=
  bind (alc 1 (.agg #[.int .i64 0, .slice none 0 0])) fun v8x13 =>
  bind (stA 2 v8x13 a1) fun _ =>
  begM L (
  bind (fa 0 v8x13) fun v22x14 =>
  bind (ld1 v22x14) fun v23x15 =>
  bind (ld1 s3) fun v24x16 =>
  bind (bop .int .eql v23x15 v24x16) fun v25x17 =>
  cnd v25x17
  (bind (fa 1 v8x13) fun v26x18 =>
  bind (ld1 v26x18) fun v27x19 =>
  bind (Γ n_bytesClone [v27x19]) fun v28x20 =>
  bind (st1 s4 v28x20) fun _ =>
  bind (st1 s5 (Value.int .i64 0)) fun _ =>
  endR L (some .ret))
  (endR L none))

set_option maxRecDepth 100000 in
theorem rd_blockDeviceRead_r1 {Γ : Funs} {L : Nat} {s3 s4 s5 a0 a1 : Value} {H : Heap} {pd : Option Code} (h : H[L]? = some (F_blockDeviceRead.o1 s3 s4 s5 .ready pd)) : roundF Try.prog Γ L [a0, a1] H = F_blockDeviceRead.r1 Γ L s3 s4 s5 a0 a1 H := by
  unfold roundF
  rw [h]
  kernel_rfl

/-- (*interrex/block.Device).Read -/
noncomputable def F_blockDeviceRead (Γ : Funs) (x0 x1 : Value) : M Value :=
  bind (alc 1 x1) fun v3x1 =>
  bind (alc 1 (.slice none 0 0)) fun v4x2 =>
  bind (alc 1 (.int .i64 0)) fun v5x3 =>
  bind (ld1 v3x1) fun v10x4 =>
  bind (Γ n_blockDeviceThere [x0, v10x4]) fun v11x5 =>
  bind (bop .int .neq v11x5 (Value.int .i64 0)) fun v13x6 =>
  cnd v13x6
  (bind (st1 v4x2 (Value.slice none 0 0)) fun _ =>
  bind (st1 v5x3 v11x5) fun _ =>
  bind (ld1 v4x2) fun vrx7 =>
  bind (ld1 v5x3) fun vrx8 =>
  ret (Value.tuple #[vrx7, vrx8]))
  (bind (nilc x0) fun v16x9 =>
  bind (fa 1 v16x9) fun v17x10 =>
  bind (ld1 v17x10) fun v18x11 =>
  bind (Γ n_slicesBackwardblockWriteBlockWrite [v18x11]) fun v19x12 =>
  rangeM (callG Try.prog) Γ v19x12 Try.f17 lv_blockDeviceRead 58 [0] (rfAt Try.f17 58) [(3, v3x1), (4, v4x2), (5, v5x3)] fun pd_21 =>
  (match pd_21 with
  | none => bind (nilc x0) fun v30x22 =>
  bind (fa 0 v30x22) fun v31x23 =>
  bind (ld1 v31x23) fun v32x24 =>
  bind (ld1 v3x1) fun v33x25 =>
  bind (ixa 1 v32x24 v33x25) fun v34x26 =>
  bind (ld1 v34x26) fun v35x27 =>
  bind (Γ n_bytesClone [v35x27]) fun v36x28 =>
  bind (st1 v4x2 v36x28) fun _ =>
  bind (st1 v5x3 (Value.int .i64 0)) fun _ =>
  bind (ld1 v4x2) fun vrx29 =>
  bind (ld1 v5x3) fun vrx30 =>
  ret (Value.tuple #[vrx29, vrx30])
  | some (.exit j_21) => fail
  | some .ret => bind (ld1 v4x2) fun vrx31 =>
  bind (ld1 v5x3) fun vrx32 =>
  ret (Value.tuple #[vrx31, vrx32])
  | _ => fail))

set_option maxRecDepth 100000 in
theorem rf_blockDeviceRead (Γ : Funs) (x0 x1 : Value) : runF Try.prog Γ Try.f17 lv_blockDeviceRead [x0, x1] = F_blockDeviceRead Γ x0 x1 := by kernel_rfl

theorem run_blockDeviceRead {prim : FuncId → Option (List Value → M Value)} (hp : prim n_blockDeviceRead = none) (n : Nat) (x0 x1 : Value) : run Try.prog prim lvs (n + 1) n_blockDeviceRead [x0, x1] = F_blockDeviceRead (run Try.prog prim lvs n) x0 x1 :=
  (run_fn hp (by kernel_rfl) Try.func17 (by kernel_rfl)).trans (rf_blockDeviceRead _ x0 x1)

/-- interrex/interrexref21.New -/
noncomputable def F_ref21New (Γ : Funs) (x0 : Value) : M Value :=
  bind (alc 1 (.agg #[.int .i64 0, .slice none 0 0, .bool false, .int .i64 0, .int .u64 0])) fun v2x1 =>
  bind (mxi true (Value.int .i64 0) x0) fun v4x2 =>
  bind (bld (.agg #[.int .i64 0, .slice none 0 0, .bool false, .int .i64 0, .int .u64 0]) [(0, 1, v4x2), (3, 1, (Value.int .i64 (-1)))]) fun v5x3 =>
  bind (stA 5 v2x1 v5x3) fun _ =>
  bind (ldA 5 v2x1) fun vrx4 =>
  ret vrx4

set_option maxRecDepth 100000 in
theorem rf_ref21New (Γ : Funs) (x0 : Value) : runF Try.prog Γ Try.f18 lv_ref21New [x0] = F_ref21New Γ x0 := by kernel_rfl

theorem run_ref21New {prim : FuncId → Option (List Value → M Value)} (hp : prim n_ref21New = none) (n : Nat) (x0 : Value) : run Try.prog prim lvs (n + 1) n_ref21New [x0] = F_ref21New (run Try.prog prim lvs n) x0 :=
  (run_fn hp (by kernel_rfl) Try.func18 (by kernel_rfl)).trans (rf_ref21New _ x0)

/-- (*interrex/block.Device).Len -/
noncomputable def F_blockDeviceLen (Γ : Funs) (x0 : Value) : M Value :=
  bind (nilc x0) fun v4x1 =>
  bind (fa 0 v4x1) fun v5x2 =>
  bind (ld1 v5x2) fun v6x3 =>
  bind (lenS v6x3) fun v7x4 =>
  ret v7x4

set_option maxRecDepth 100000 in
theorem rf_blockDeviceLen (Γ : Funs) (x0 : Value) : runF Try.prog Γ Try.f19 lv_blockDeviceLen [x0] = F_blockDeviceLen Γ x0 := by kernel_rfl

theorem run_blockDeviceLen {prim : FuncId → Option (List Value → M Value)} (hp : prim n_blockDeviceLen = none) (n : Nat) (x0 : Value) : run Try.prog prim lvs (n + 1) n_blockDeviceLen [x0] = F_blockDeviceLen (run Try.prog prim lvs n) x0 :=
  (run_fn hp (by kernel_rfl) Try.func19 (by kernel_rfl)).trans (rf_blockDeviceLen _ x0)

/-- interrex/interrexlaw21.do: a round. -/
noncomputable def F_law21Do.l1 (Γ : Funs) (s6 s8 s9 s10 s11 s42 s43 : Value) : M Out :=
  bind (bop .int .lss s43 s42) fun v44x28 =>
  cnd v44x28
  (bind (ixa 1 s8 s43) fun v48x29 =>
  bind (ld1 v48x29) fun v49x30 =>
  bind (bop .int .add v49x30 (Value.int .u8 1)) fun v50x31 =>
  bind (ixa 1 s8 s43) fun v51x32 =>
  bind (st1 v51x32 v50x31) fun _ =>
  bind (bop .int .add s43 (Value.int .i64 1)) fun v52x33 =>
  ret (.nrm [s6, s8, s9, s10, s11, s42, v52x33]))
  (ret (.ext 1 [s6, s9, s10, s11]))

/-- interrex/interrexlaw21.do -/
noncomputable def F_law21Do (Γ : Funs) (x0 x1 x2 : Value) : M Value :=
  bind (alc 1 x1) fun v4x1 =>
  bind (alc 1 x2) fun v5x2 =>
  bind (alc 1 (.agg #[.int .i64 0, .slice none 0 0, .bool false, .int .i64 0, .int .u64 0])) fun v6x3 =>
  bind (fa 0 v5x2) fun v16x4 =>
  bind (ld1 v16x4) fun v17x5 =>
  bind (bop .int .rem v17x5 (Value.int .u8 7)) fun v18x6 =>
  bind (bop .int .eql v18x6 (Value.int .u8 0)) fun v20x7 =>
  jn (cnd v20x7
  (ret (.nrm [x0, v4x1, v5x2, v6x3, v18x6, v20x7]))
  (bind (bop .int .eql v18x6 (Value.int .u8 1)) fun v21x8 =>
  ret (.nrm [x0, v4x1, v5x2, v6x3, v18x6, v21x8]))) (fun vs_9 =>
  cnd (vs_9.tail.tail.tail.tail.tail.headD undef)
  (bind (bsl 1 0 (.int .u8 0) []) fun v22x10 =>
  bind (fa 2 (vs_9.tail.tail.headD undef)) fun v23x11 =>
  bind (ld1 v23x11) fun v24x12 =>
  bind (app 1 1 v22x10 v24x12) fun v25x13 =>
  bind (ldA 5 (vs_9.tail.headD undef)) fun v27x14 =>
  bind (fa 1 (vs_9.tail.tail.headD undef)) fun v28x15 =>
  bind (ld1 v28x15) fun v29x16 =>
  bind (fa 2 (vs_9.tail.tail.headD undef)) fun v30x17 =>
  bind (ld1 v30x17) fun v31x18 =>
  bind (b2s v31x18) fun v32x19 =>
  bind (Γ n_ref21Put [v27x14, v29x16, v32x19]) fun v33x20 =>
  bind (extr v33x20 0) fun v34x21 =>
  bind (extr v33x20 1) fun v35x22 =>
  bind (alc 1 (.agg #[.int .i64 0, .slice none 0 0, .bool false, .int .i64 0, .int .u64 0])) fun v9x23 =>
  bind (stA 5 v9x23 v34x21) fun _ =>
  bind (fa 1 (vs_9.tail.tail.headD undef)) fun v37x24 =>
  bind (ld1 v37x24) fun v38x25 =>
  bind (Γ n_blockDeviceWrite [(vs_9.headD undef), v38x25, v25x13]) fun v40x26 =>
  bind (lenS v25x13) fun v42x27 =>
  jn (loopM (fun vs_34 => F_law21Do.l1 Γ ((vs_34.headD undef)) ((vs_34.tail.headD undef)) ((vs_34.tail.tail.headD undef)) ((vs_34.tail.tail.tail.headD undef)) ((vs_34.tail.tail.tail.tail.headD undef)) ((vs_34.tail.tail.tail.tail.tail.headD undef)) ((vs_34.tail.tail.tail.tail.tail.tail.headD undef))) [(vs_9.tail.tail.tail.headD undef), v25x13, v9x23, v35x22, v40x26, v42x27, (Value.int .i64 0)]) (fun _ => fail) (fun j_35 vs_35 => bif Nat.beq j_35 1 then (bind (ldA 5 (vs_35.tail.headD undef)) fun v53x36 =>
  bind (bop .int .eql (vs_35.tail.tail.tail.headD undef) (vs_35.tail.tail.headD undef)) fun v56x37 =>
  bind (stA 5 (vs_35.headD undef) v53x36) fun _ =>
  bind (ldA 5 (vs_35.headD undef)) fun vrx38 =>
  ret (Value.tuple #[vrx38, v56x37])) else fail) (fun w_39 => ret w_39))
  (bind (bop .int .eql (vs_9.tail.tail.tail.tail.headD undef) (Value.int .u8 2)) fun v58x40 =>
  cnd v58x40
  (bind (ldA 5 (vs_9.tail.headD undef)) fun v60x41 =>
  bind (Γ n_ref21Flush [v60x41]) fun v61x42 =>
  bind (extr v61x42 0) fun v62x43 =>
  bind (extr v61x42 1) fun v63x44 =>
  bind (alc 1 (.agg #[.int .i64 0, .slice none 0 0, .bool false, .int .i64 0, .int .u64 0])) fun v13x45 =>
  bind (stA 5 v13x45 v62x43) fun _ =>
  bind (ldA 5 v13x45) fun v64x46 =>
  bind (Γ n_blockDeviceFlush [(vs_9.headD undef)]) fun v66x47 =>
  bind (ldA 5 v13x45) fun u_48 => same u_48 v64x46 <|
  bind (bop .int .eql v66x47 v63x44) fun v68x49 =>
  bind (stA 5 (vs_9.tail.tail.tail.headD undef) v64x46) fun _ =>
  bind (ldA 5 (vs_9.tail.tail.tail.headD undef)) fun vrx50 =>
  ret (Value.tuple #[vrx50, v68x49]))
  (bind (bop .int .eql (vs_9.tail.tail.tail.tail.headD undef) (Value.int .u8 3)) fun v70x51 =>
  cnd v70x51
  (bind (fa 3 (vs_9.tail.tail.headD undef)) fun v72x52 =>
  bind (ld1 v72x52) fun v73x53 =>
  bind (Γ n_blockDeviceCut [(vs_9.headD undef), v73x53]) fun v74x54 =>
  bind (ldA 5 (vs_9.tail.headD undef)) fun v75x55 =>
  bind (fa 3 (vs_9.tail.tail.headD undef)) fun v76x56 =>
  bind (ld1 v76x56) fun v77x57 =>
  bind (Γ n_ref21Cut [v75x55, v77x57]) fun v78x58 =>
  bind (stA 5 (vs_9.tail.tail.tail.headD undef) v78x58) fun _ =>
  bind (ldA 5 (vs_9.tail.tail.tail.headD undef)) fun vrx59 =>
  ret (Value.tuple #[vrx59, (Value.bool true)]))
  (bind (bop .int .eql (vs_9.tail.tail.tail.tail.headD undef) (Value.int .u8 4)) fun v80x60 =>
  cnd v80x60
  (bind (fa 1 (vs_9.tail.tail.headD undef)) fun v82x61 =>
  bind (ld1 v82x61) fun v83x62 =>
  bind (fa 3 (vs_9.tail.tail.headD undef)) fun v84x63 =>
  bind (ld1 v84x63) fun v85x64 =>
  bind (Γ n_blockDeviceArm [(vs_9.headD undef), v83x62, v85x64]) fun v86x65 =>
  bind (fa 2 (vs_9.tail.headD undef)) fun v87x66 =>
  bind (ld1 v87x66) fun v88x67 =>
  bind (uop .not v88x67) fun v89x68 =>
  jn (cnd v89x68
  (bind (fa 1 (vs_9.tail.tail.headD undef)) fun v90x69 =>
  bind (ld1 v90x69) fun v91x70 =>
  bind (mxi true (Value.int .i64 0) v91x70) fun v92x71 =>
  bind (fa 3 (vs_9.tail.headD undef)) fun v93x72 =>
  bind (st1 v93x72 v92x71) fun _ =>
  bind (fa 3 (vs_9.tail.tail.headD undef)) fun v94x73 =>
  bind (ld1 v94x73) fun v95x74 =>
  bind (fa 4 (vs_9.tail.headD undef)) fun v96x75 =>
  bind (st1 v96x75 v95x74) fun _ =>
  ret (.nrm [(vs_9.tail.headD undef), (vs_9.tail.tail.tail.headD undef)]))
  (ret (.nrm [(vs_9.tail.headD undef), (vs_9.tail.tail.tail.headD undef)]))) (fun vs_76 =>
  bind (ldA 5 (vs_76.headD undef)) fun v97x77 =>
  bind (stA 5 (vs_76.tail.headD undef) v97x77) fun _ =>
  bind (ldA 5 (vs_76.tail.headD undef)) fun vrx78 =>
  ret (Value.tuple #[vrx78, (Value.bool true)])) (fun _ _ => fail) (fun w_79 => ret w_79))
  (bind (bop .int .eql (vs_9.tail.tail.tail.tail.headD undef) (Value.int .u8 5)) fun v99x80 =>
  cnd v99x80
  (bind (Γ n_blockDeviceStart [(vs_9.headD undef)]) fun v101x81 =>
  bind (fa 2 (vs_9.tail.headD undef)) fun v102x82 =>
  bind (st1 v102x82 (Value.bool false)) fun _ =>
  bind (ldA 5 (vs_9.tail.headD undef)) fun v103x83 =>
  bind (stA 5 (vs_9.tail.tail.tail.headD undef) v103x83) fun _ =>
  bind (ldA 5 (vs_9.tail.tail.tail.headD undef)) fun vrx84 =>
  ret (Value.tuple #[vrx84, (Value.bool true)]))
  (bind (Γ n_blockDeviceCopy [(vs_9.headD undef)]) fun v105x85 =>
  bind (bsl 1 2 (.int .u8 0) [(0, 1, (Value.int .u8 122)), (1, 1, (Value.int .u8 122))]) fun v107x86 =>
  bind (mrk v107x86) fun v108x87 =>
  bind (Γ n_blockDeviceWrite [v105x85, (Value.int .i64 0), v108x87]) fun v109x88 =>
  bind (Γ n_blockDeviceCut [v105x85, (Value.int .u64 18446744073709551615)]) fun v111x89 =>
  bind (ldA 5 (vs_9.tail.headD undef)) fun v112x90 =>
  bind (stA 5 (vs_9.tail.tail.tail.headD undef) v112x90) fun _ =>
  bind (ldA 5 (vs_9.tail.tail.tail.headD undef)) fun vrx91 =>
  ret (Value.tuple #[vrx91, (Value.bool true)]))))))) (fun _ _ => fail) (fun w_92 => ret w_92)

set_option maxRecDepth 100000 in
theorem rf_law21Do (Γ : Funs) (x0 x1 x2 : Value) : runF Try.prog Γ Try.f20 lv_law21Do [x0, x1, x2] = F_law21Do Γ x0 x1 x2 := by kernel_rfl

theorem run_law21Do {prim : FuncId → Option (List Value → M Value)} (hp : prim n_law21Do = none) (n : Nat) (x0 x1 x2 : Value) : run Try.prog prim lvs (n + 1) n_law21Do [x0, x1, x2] = F_law21Do (run Try.prog prim lvs n) x0 x1 x2 :=
  (run_fn hp (by kernel_rfl) Try.func20 (by kernel_rfl)).trans (rf_law21Do _ x0 x1 x2)

/-- interrex/interrexref21.Waiting: a round. -/
noncomputable def F_ref21Waiting.l1 (Γ : Funs) (s3 s7 s8 s9 : Value) : M Out :=
  bind (bop .int .lss s9 s8) fun v10x5 =>
  cnd v10x5
  (bind (ixa 3 s7 s9) fun v11x6 =>
  bind (ldA 3 v11x6) fun v12x7 =>
  bind (alc 1 (.agg #[.int .i64 0, .string ⟨#[]⟩, .bool false])) fun v5x8 =>
  bind (stA 3 v5x8 v12x7) fun _ =>
  bind (fa 2 v5x8) fun v13x9 =>
  bind (ld1 v13x9) fun v14x10 =>
  bind (uop .not v14x10) fun v15x11 =>
  jn (cnd v15x11
  (bind (bop .int .add s3 (Value.int .i64 1)) fun v17x12 =>
  ret (.nrm [v17x12, s7, s8, s9]))
  (ret (.nrm [s3, s7, s8, s9]))) (fun vs_13 =>
  bind (bop .int .add (vs_13.tail.tail.tail.headD undef) (Value.int .i64 1)) fun v18x14 =>
  ret (.nrm [(vs_13.headD undef), (vs_13.tail.headD undef), (vs_13.tail.tail.headD undef), v18x14])) (fun _ _ => fail) (fun w_15 => ret (.ret w_15)))
  (ret (.ext 0 [s3]))

/-- interrex/interrexref21.Waiting -/
noncomputable def F_ref21Waiting (Γ : Funs) (x0 : Value) : M Value :=
  bind (alc 1 x0) fun v1x1 =>
  bind (fa 1 v1x1) fun v6x2 =>
  bind (ld1 v6x2) fun v7x3 =>
  bind (lenS v7x3) fun v8x4 =>
  jn (loopM (fun vs_16 => F_ref21Waiting.l1 Γ ((vs_16.headD undef)) ((vs_16.tail.headD undef)) ((vs_16.tail.tail.headD undef)) ((vs_16.tail.tail.tail.headD undef))) [(Value.int .i64 0), v7x3, v8x4, (Value.int .i64 0)]) (fun _ => fail) (fun j_17 vs_17 => bif Nat.beq j_17 0 then (ret (vs_17.headD undef)) else fail) (fun w_18 => ret w_18)

set_option maxRecDepth 100000 in
theorem rf_ref21Waiting (Γ : Funs) (x0 : Value) : runF Try.prog Γ Try.f21 lv_ref21Waiting [x0] = F_ref21Waiting Γ x0 := by kernel_rfl

theorem run_ref21Waiting {prim : FuncId → Option (List Value → M Value)} (hp : prim n_ref21Waiting = none) (n : Nat) (x0 : Value) : run Try.prog prim lvs (n + 1) n_ref21Waiting [x0] = F_ref21Waiting (run Try.prog prim lvs n) x0 :=
  (run_fn hp (by kernel_rfl) Try.func21 (by kernel_rfl)).trans (rf_ref21Waiting _ x0)

/-- interrex/interrexref21.Get -/
noncomputable def F_ref21Get (Γ : Funs) (x0 x1 : Value) : M Value :=
  bind (alc 1 x0) fun v2x1 =>
  bind (fa 2 v2x1) fun v6x2 =>
  bind (ld1 v6x2) fun v7x3 =>
  cnd v7x3
  (ret (Value.tuple #[(Value.string ⟨#[]⟩), (Value.int .i64 15)]))
  (bind (bop .int .lss x1 (Value.int .i64 0)) fun v9x4 =>
  bind (gate v9x4 false 4 (bind (fa 0 v2x1) fun v12x5 =>
  bind (ld1 v12x5) fun v13x6 =>
  bind (bop .int .geq x1 v13x6) fun v14x7 =>
  ret [x1, v12x5, v13x6, v14x7])) fun vs_8 =>
  bind (pick v9x4 (Value.bool true) (vs_8.tail.tail.tail.headD undef)) fun v15x9 =>
  cnd v15x9
  (ret (Value.tuple #[(Value.string ⟨#[]⟩), (Value.int .i64 1)]))
  (bind (ldA 5 v2x1) fun v16x10 =>
  bind (Γ n_ref21Block [v16x10, x1]) fun v18x11 =>
  ret (Value.tuple #[v18x11, (Value.int .i64 0)])))

set_option maxRecDepth 100000 in
theorem rf_ref21Get (Γ : Funs) (x0 x1 : Value) : runF Try.prog Γ Try.f22 lv_ref21Get [x0, x1] = F_ref21Get Γ x0 x1 := by kernel_rfl

theorem run_ref21Get {prim : FuncId → Option (List Value → M Value)} (hp : prim n_ref21Get = none) (n : Nat) (x0 x1 : Value) : run Try.prog prim lvs (n + 1) n_ref21Get [x0, x1] = F_ref21Get (run Try.prog prim lvs n) x0 x1 :=
  (run_fn hp (by kernel_rfl) Try.func22 (by kernel_rfl)).trans (rf_ref21Get _ x0 x1)

/-- (*interrex/block.Device).burn -/
noncomputable def F_blockDeviceBurn (Γ : Funs) (x0 : Value) : M Value :=
  bind (nilc x0) fun v4x1 =>
  bind (fa 3 v4x1) fun v5x2 =>
  bind (ld1 v5x2) fun v6x3 =>
  bind (bop .int .lss v6x3 (Value.int .i64 0)) fun v7x4 =>
  cnd v7x4
  (ret (Value.int .i64 0))
  (bind (nilc x0) fun v9x5 =>
  bind (fa 3 v9x5) fun v10x6 =>
  bind (ld1 v10x6) fun v11x7 =>
  bind (bop .int .gtr v11x7 (Value.int .i64 0)) fun v12x8 =>
  cnd v12x8
  (bind (nilc x0) fun v14x9 =>
  bind (fa 3 v14x9) fun v15x10 =>
  bind (ld1 v15x10) fun v16x11 =>
  bind (bop .int .sub v16x11 (Value.int .i64 1)) fun v17x12 =>
  bind (nilc x0) fun v18x13 =>
  bind (fa 3 v18x13) fun v19x14 =>
  bind (st1 v19x14 v17x12) fun _ =>
  ret (Value.int .i64 0))
  (bind (nilc x0) fun v22x15 =>
  bind (fa 4 v22x15) fun v23x16 =>
  bind (ld1 v23x16) fun v24x17 =>
  bind (Γ n_blockDeviceCut [x0, v24x17]) fun v25x18 =>
  ret (Value.int .i64 15)))

set_option maxRecDepth 100000 in
theorem rf_blockDeviceBurn (Γ : Funs) (x0 : Value) : runF Try.prog Γ Try.f27 lv_blockDeviceBurn [x0] = F_blockDeviceBurn Γ x0 := by kernel_rfl

theorem run_blockDeviceBurn {prim : FuncId → Option (List Value → M Value)} (hp : prim n_blockDeviceBurn = none) (n : Nat) (x0 : Value) : run Try.prog prim lvs (n + 1) n_blockDeviceBurn [x0] = F_blockDeviceBurn (run Try.prog prim lvs n) x0 :=
  (run_fn hp (by kernel_rfl) Try.func27 (by kernel_rfl)).trans (rf_blockDeviceBurn _ x0)

/-- (*interrex/block.Device).keep: a round. -/
noncomputable def F_blockDeviceKeep.l1 (Γ : Funs) (s0 s1 s9 s10 s11 : Value) : M Out :=
  bind (bop .int .lss s11 s10) fun v12x5 =>
  cnd v12x5
  (bind (ixa 2 s9 s11) fun v14x6 =>
  bind (ldA 2 v14x6) fun v15x7 =>
  bind (alc 1 (.agg #[.int .i64 0, .slice none 0 0])) fun v5x8 =>
  bind (stA 2 v5x8 v15x7) fun _ =>
  bind (callv Γ s1 [s11]) fun v18x9 =>
  jn (cnd v18x9
  (bind (nilc s0) fun v20x10 =>
  bind (fa 0 v20x10) fun v21x11 =>
  bind (ld1 v21x11) fun v22x12 =>
  bind (fa 0 v5x8) fun v23x13 =>
  bind (ld1 v23x13) fun v24x14 =>
  bind (fa 1 v5x8) fun v25x15 =>
  bind (ld1 v25x15) fun v26x16 =>
  bind (ixa 1 v22x12 v24x14) fun v27x17 =>
  bind (st1 v27x17 v26x16) fun _ =>
  ret (.nrm [s0, s1, s9, s10, s11]))
  (ret (.nrm [s0, s1, s9, s10, s11]))) (fun vs_18 =>
  bind (bop .int .add (vs_18.tail.tail.tail.tail.headD undef) (Value.int .i64 1)) fun v28x19 =>
  ret (.nrm [(vs_18.headD undef), (vs_18.tail.headD undef), (vs_18.tail.tail.headD undef), (vs_18.tail.tail.tail.headD undef), v28x19])) (fun _ _ => fail) (fun w_20 => ret (.ret w_20)))
  (ret (.ext 0 [s0]))

/-- (*interrex/block.Device).keep -/
noncomputable def F_blockDeviceKeep (Γ : Funs) (x0 x1 : Value) : M Value :=
  bind (nilc x0) fun v7x1 =>
  bind (fa 1 v7x1) fun v8x2 =>
  bind (ld1 v8x2) fun v9x3 =>
  bind (lenS v9x3) fun v10x4 =>
  jn (loopM (fun vs_21 => F_blockDeviceKeep.l1 Γ ((vs_21.headD undef)) ((vs_21.tail.headD undef)) ((vs_21.tail.tail.headD undef)) ((vs_21.tail.tail.tail.headD undef)) ((vs_21.tail.tail.tail.tail.headD undef))) [x0, x1, v9x3, v10x4, (Value.int .i64 0)]) (fun _ => fail) (fun j_22 vs_22 => bif Nat.beq j_22 0 then (bind (nilc (vs_22.headD undef)) fun v30x23 =>
  bind (fa 1 v30x23) fun v31x24 =>
  bind (st1 v31x24 (Value.slice none 0 0)) fun _ =>
  ret (Value.tuple #[])) else fail) (fun w_25 => ret w_25)

set_option maxRecDepth 100000 in
theorem rf_blockDeviceKeep (Γ : Funs) (x0 x1 : Value) : runF Try.prog Γ Try.f28 lv_blockDeviceKeep [x0, x1] = F_blockDeviceKeep Γ x0 x1 := by kernel_rfl

theorem run_blockDeviceKeep {prim : FuncId → Option (List Value → M Value)} (hp : prim n_blockDeviceKeep = none) (n : Nat) (x0 x1 : Value) : run Try.prog prim lvs (n + 1) n_blockDeviceKeep [x0, x1] = F_blockDeviceKeep (run Try.prog prim lvs n) x0 x1 :=
  (run_fn hp (by kernel_rfl) Try.func28 (by kernel_rfl)).trans (rf_blockDeviceKeep _ x0 x1)

/-- (*interrex/block.Device).Flush$1 -/
noncomputable def F_blockDeviceFlush1 (Γ : Funs) (x0 : Value) : M Value :=
  ret (Value.bool true)

set_option maxRecDepth 100000 in
theorem rf_blockDeviceFlush1 (Γ : Funs) (x0 : Value) : runF Try.prog Γ Try.f29 lv_blockDeviceFlush1 [x0] = F_blockDeviceFlush1 Γ x0 := by kernel_rfl

theorem run_blockDeviceFlush1 {prim : FuncId → Option (List Value → M Value)} (hp : prim n_blockDeviceFlush1 = none) (n : Nat) (x0 : Value) : run Try.prog prim lvs (n + 1) n_blockDeviceFlush1 [x0] = F_blockDeviceFlush1 (run Try.prog prim lvs n) x0 :=
  (run_fn hp (by kernel_rfl) Try.func29 (by kernel_rfl)).trans (rf_blockDeviceFlush1 _ x0)

/-- (*interrex/block.Device).there -/
noncomputable def F_blockDeviceThere (Γ : Funs) (x0 x1 : Value) : M Value :=
  bind (nilc x0) fun v7x1 =>
  bind (fa 2 v7x1) fun v8x2 =>
  bind (ld1 v8x2) fun v9x3 =>
  cnd v9x3
  (ret (Value.int .i64 15))
  (bind (bop .int .lss x1 (Value.int .i64 0)) fun v12x4 =>
  bind (gate v12x4 false 7 (bind (nilc x0) fun v16x5 =>
  bind (fa 0 v16x5) fun v17x6 =>
  bind (ld1 v17x6) fun v18x7 =>
  bind (lenS v18x7) fun v19x8 =>
  bind (bop .int .geq x1 v19x8) fun v20x9 =>
  ret [x1, x0, v16x5, v17x6, v18x7, v19x8, v20x9])) fun vs_10 =>
  bind (pick v12x4 (Value.bool true) (vs_10.tail.tail.tail.tail.tail.tail.headD undef)) fun v21x11 =>
  cnd v21x11
  (ret (Value.int .i64 1))
  (ret (Value.int .i64 0)))

set_option maxRecDepth 100000 in
theorem rf_blockDeviceThere (Γ : Funs) (x0 x1 : Value) : runF Try.prog Γ Try.f30 lv_blockDeviceThere [x0, x1] = F_blockDeviceThere Γ x0 x1 := by kernel_rfl

theorem run_blockDeviceThere {prim : FuncId → Option (List Value → M Value)} (hp : prim n_blockDeviceThere = none) (n : Nat) (x0 x1 : Value) : run Try.prog prim lvs (n + 1) n_blockDeviceThere [x0, x1] = F_blockDeviceThere (run Try.prog prim lvs n) x0 x1 :=
  (run_fn hp (by kernel_rfl) Try.func30 (by kernel_rfl)).trans (rf_blockDeviceThere _ x0 x1)

/-- (*interrex/block.Device).Cut$1 -/
noncomputable def F_blockDeviceCut1 (Γ : Funs) (x0 x1 : Value) : M Value :=
  bind (ld1 x1) fun v4x1 =>
  bind (bop .int .rem x0 (Value.int .i64 64)) fun v6x2 =>
  bind (bop .int .shr v4x1 v6x2) fun v7x3 =>
  bind (bop .int .and v7x3 (Value.int .u64 1)) fun v8x4 =>
  bind (bop .int .eql v8x4 (Value.int .u64 1)) fun v9x5 =>
  ret v9x5

set_option maxRecDepth 100000 in
theorem rf_blockDeviceCut1 (Γ : Funs) (x0 x1 : Value) : runF Try.prog Γ Try.f31 lv_blockDeviceCut1 [x0, x1] = F_blockDeviceCut1 Γ x0 x1 := by kernel_rfl

theorem run_blockDeviceCut1 {prim : FuncId → Option (List Value → M Value)} (hp : prim n_blockDeviceCut1 = none) (n : Nat) (x0 x1 : Value) : run Try.prog prim lvs (n + 1) n_blockDeviceCut1 [x0, x1] = F_blockDeviceCut1 (run Try.prog prim lvs n) x0 x1 :=
  (run_fn hp (by kernel_rfl) Try.func31 (by kernel_rfl)).trans (rf_blockDeviceCut1 _ x0 x1)

/-- slices.Backward[[]interrex/block.write,interrex/block.write] -/
noncomputable def F_slicesBackwardblockWriteBlockWrite (Γ : Funs) (x0 : Value) : M Value :=
  bind (alc 1 x0) fun v1x1 =>
  ret (Value.func (.func 43) #[] #[v1x1])

set_option maxRecDepth 100000 in
theorem rf_slicesBackwardblockWriteBlockWrite (Γ : Funs) (x0 : Value) : runF Try.prog Γ Try.f32 lv_slicesBackwardblockWriteBlockWrite [x0] = F_slicesBackwardblockWriteBlockWrite Γ x0 := by kernel_rfl

theorem run_slicesBackwardblockWriteBlockWrite {prim : FuncId → Option (List Value → M Value)} (hp : prim n_slicesBackwardblockWriteBlockWrite = none) (n : Nat) (x0 : Value) : run Try.prog prim lvs (n + 1) n_slicesBackwardblockWriteBlockWrite [x0] = F_slicesBackwardblockWriteBlockWrite (run Try.prog prim lvs n) x0 :=
  (run_fn hp (by kernel_rfl) Try.func32 (by kernel_rfl)).trans (rf_slicesBackwardblockWriteBlockWrite _ x0)

/-- bytes.Clone -/
noncomputable def F_bytesClone (Γ : Funs) (x0 : Value) : M Value :=
  bind (bop .slc .eql x0 (Value.slice none 0 0)) fun v4x1 =>
  cnd v4x1
  (ret (Value.slice none 0 0))
  (bind (bsl 1 0 (.int .u8 0) []) fun v5x2 =>
  bind (app 1 1 v5x2 x0) fun v7x3 =>
  ret v7x3)

set_option maxRecDepth 100000 in
theorem rf_bytesClone (Γ : Funs) (x0 : Value) : runF Try.prog Γ Try.f33 lv_bytesClone [x0] = F_bytesClone Γ x0 := by kernel_rfl

theorem run_bytesClone {prim : FuncId → Option (List Value → M Value)} (hp : prim n_bytesClone = none) (n : Nat) (x0 : Value) : run Try.prog prim lvs (n + 1) n_bytesClone [x0] = F_bytesClone (run Try.prog prim lvs n) x0 :=
  (run_fn hp (by kernel_rfl) Try.func33 (by kernel_rfl)).trans (rf_bytesClone _ x0)

/-- interrex/interrexref21.Put -/
noncomputable def F_ref21Put (Γ : Funs) (x0 x1 x2 : Value) : M Value :=
  bind (alc 1 x0) fun v3x1 =>
  bind (alc 1 (.agg #[.int .i64 0, .slice none 0 0, .bool false, .int .i64 0, .int .u64 0])) fun v6x2 =>
  bind (fa 2 v3x1) fun v10x3 =>
  bind (ld1 v10x3) fun v11x4 =>
  cnd v11x4
  (bind (ldA 5 v3x1) fun v12x5 =>
  bind (stA 5 v6x2 v12x5) fun _ =>
  bind (ldA 5 v6x2) fun vrx6 =>
  ret (Value.tuple #[vrx6, (Value.int .i64 15)]))
  (bind (bop .int .lss x1 (Value.int .i64 0)) fun v14x7 =>
  bind (gate v14x7 false 4 (bind (fa 0 v3x1) fun v17x8 =>
  bind (ld1 v17x8) fun v18x9 =>
  bind (bop .int .geq x1 v18x9) fun v19x10 =>
  ret [x1, v17x8, v18x9, v19x10])) fun vs_11 =>
  bind (pick v14x7 (Value.bool true) (vs_11.tail.tail.tail.headD undef)) fun v20x12 =>
  cnd v20x12
  (bind (ldA 5 v3x1) fun v21x13 =>
  bind (stA 5 v6x2 v21x13) fun _ =>
  bind (ldA 5 v6x2) fun vrx14 =>
  ret (Value.tuple #[vrx14, (Value.int .i64 1)]))
  (bind (lenT x2) fun v23x15 =>
  bind (bop .int .gtr v23x15 (Value.int .i64 128)) fun v24x16 =>
  cnd v24x16
  (bind (ldA 5 v3x1) fun v25x17 =>
  bind (stA 5 v6x2 v25x17) fun _ =>
  bind (ldA 5 v6x2) fun vrx18 =>
  ret (Value.tuple #[vrx18, (Value.int .i64 3)]))
  (bind (ldA 5 v3x1) fun v27x19 =>
  bind (Γ n_ref21Burn [v27x19]) fun v28x20 =>
  bind (extr v28x20 0) fun v29x21 =>
  bind (extr v28x20 1) fun v30x22 =>
  bind (alc 1 (.agg #[.int .i64 0, .slice none 0 0, .bool false, .int .i64 0, .int .u64 0])) fun v8x23 =>
  bind (stA 5 v8x23 v29x21) fun _ =>
  bind (bop .int .neq v30x22 (Value.int .i64 0)) fun v32x24 =>
  cnd v32x24
  (bind (ldA 5 v8x23) fun v33x25 =>
  bind (stA 5 v6x2 v33x25) fun _ =>
  bind (ldA 5 v6x2) fun vrx26 =>
  ret (Value.tuple #[vrx26, v30x22]))
  (bind (bsl 3 0 (.agg #[.int .i64 0, .string ⟨#[]⟩, .bool false]) []) fun v35x27 =>
  bind (fa 1 v3x1) fun v36x28 =>
  bind (ld1 v36x28) fun v37x29 =>
  bind (app 3 32 v35x27 v37x29) fun v38x30 =>
  bind (bld (.agg #[.int .i64 0, .string ⟨#[]⟩, .bool false]) [(0, 1, x1), (1, 1, x2), (2, 1, (Value.bool false))]) fun v41x31 =>
  bind (bsl 3 1 (.agg #[.int .i64 0, .string ⟨#[]⟩, .bool false]) [(0, 3, v41x31)]) fun v42x32 =>
  bind (app 3 32 v38x30 v42x32) fun v43x33 =>
  bind (fa 1 v8x23) fun v44x34 =>
  bind (st1 v44x34 v43x33) fun _ =>
  bind (ldA 5 v8x23) fun v45x35 =>
  bind (stA 5 v6x2 v45x35) fun _ =>
  bind (ldA 5 v6x2) fun vrx36 =>
  ret (Value.tuple #[vrx36, (Value.int .i64 0)])))))

set_option maxRecDepth 100000 in
theorem rf_ref21Put (Γ : Funs) (x0 x1 x2 : Value) : runF Try.prog Γ Try.f34 lv_ref21Put [x0, x1, x2] = F_ref21Put Γ x0 x1 x2 := by kernel_rfl

theorem run_ref21Put {prim : FuncId → Option (List Value → M Value)} (hp : prim n_ref21Put = none) (n : Nat) (x0 x1 x2 : Value) : run Try.prog prim lvs (n + 1) n_ref21Put [x0, x1, x2] = F_ref21Put (run Try.prog prim lvs n) x0 x1 x2 :=
  (run_fn hp (by kernel_rfl) Try.func34 (by kernel_rfl)).trans (rf_ref21Put _ x0 x1 x2)

/-- interrex/interrexref21.Flush: a round. -/
noncomputable def F_ref21Flush.l1 (Γ : Funs) (s2 s4 s6 s22 s23 s24 : Value) : M Out :=
  bind (bop .int .lss s24 s23) fun v25x18 =>
  cnd v25x18
  (bind (ixa 3 s22 s24) fun v26x19 =>
  bind (ldA 3 v26x19) fun v27x20 =>
  bind (alc 1 (.agg #[.int .i64 0, .string ⟨#[]⟩, .bool false])) fun v8x21 =>
  bind (stA 3 v8x21 v27x20) fun _ =>
  bind (fa 0 v8x21) fun v29x22 =>
  bind (ld1 v29x22) fun v30x23 =>
  bind (fa 1 v8x21) fun v31x24 =>
  bind (ld1 v31x24) fun v32x25 =>
  bind (bld (.agg #[.int .i64 0, .string ⟨#[]⟩, .bool false]) [(0, 1, v30x23), (1, 1, v32x25), (2, 1, (Value.bool true))]) fun v33x26 =>
  bind (bsl 3 1 (.agg #[.int .i64 0, .string ⟨#[]⟩, .bool false]) [(0, 3, v33x26)]) fun v34x27 =>
  bind (app 3 32 s6 v34x27) fun v35x28 =>
  bind (bop .int .add s24 (Value.int .i64 1)) fun v36x29 =>
  ret (.nrm [s2, s4, v35x28, s22, s23, v36x29]))
  (ret (.ext 0 [s2, s4, s6]))

/-- interrex/interrexref21.Flush -/
noncomputable def F_ref21Flush (Γ : Funs) (x0 : Value) : M Value :=
  bind (alc 1 x0) fun v1x1 =>
  bind (alc 1 (.agg #[.int .i64 0, .slice none 0 0, .bool false, .int .i64 0, .int .u64 0])) fun v2x2 =>
  bind (fa 2 v1x1) fun v9x3 =>
  bind (ld1 v9x3) fun v10x4 =>
  cnd v10x4
  (bind (ldA 5 v1x1) fun v11x5 =>
  bind (stA 5 v2x2 v11x5) fun _ =>
  bind (ldA 5 v2x2) fun vrx6 =>
  ret (Value.tuple #[vrx6, (Value.int .i64 15)]))
  (bind (ldA 5 v1x1) fun v13x7 =>
  bind (Γ n_ref21Burn [v13x7]) fun v14x8 =>
  bind (extr v14x8 0) fun v15x9 =>
  bind (extr v14x8 1) fun v16x10 =>
  bind (alc 1 (.agg #[.int .i64 0, .slice none 0 0, .bool false, .int .i64 0, .int .u64 0])) fun v4x11 =>
  bind (stA 5 v4x11 v15x9) fun _ =>
  bind (bop .int .neq v16x10 (Value.int .i64 0)) fun v18x12 =>
  cnd v18x12
  (bind (ldA 5 v4x11) fun v19x13 =>
  bind (stA 5 v2x2 v19x13) fun _ =>
  bind (ldA 5 v2x2) fun vrx14 =>
  ret (Value.tuple #[vrx14, v16x10]))
  (bind (fa 1 v1x1) fun v21x15 =>
  bind (ld1 v21x15) fun v22x16 =>
  bind (lenS v22x16) fun v23x17 =>
  jn (loopM (fun vs_30 => F_ref21Flush.l1 Γ ((vs_30.headD undef)) ((vs_30.tail.headD undef)) ((vs_30.tail.tail.headD undef)) ((vs_30.tail.tail.tail.headD undef)) ((vs_30.tail.tail.tail.tail.headD undef)) ((vs_30.tail.tail.tail.tail.tail.headD undef))) [v2x2, v4x11, (Value.slice none 0 0), v22x16, v23x17, (Value.int .i64 0)]) (fun _ => fail) (fun j_31 vs_31 => bif Nat.beq j_31 0 then (bind (fa 1 (vs_31.tail.headD undef)) fun v38x32 =>
  bind (st1 v38x32 (vs_31.tail.tail.headD undef)) fun _ =>
  bind (ldA 5 (vs_31.tail.headD undef)) fun v39x33 =>
  bind (stA 5 (vs_31.headD undef) v39x33) fun _ =>
  bind (ldA 5 (vs_31.headD undef)) fun vrx34 =>
  ret (Value.tuple #[vrx34, (Value.int .i64 0)])) else fail) (fun w_35 => ret w_35)))

set_option maxRecDepth 100000 in
theorem rf_ref21Flush (Γ : Funs) (x0 : Value) : runF Try.prog Γ Try.f35 lv_ref21Flush [x0] = F_ref21Flush Γ x0 := by kernel_rfl

theorem run_ref21Flush {prim : FuncId → Option (List Value → M Value)} (hp : prim n_ref21Flush = none) (n : Nat) (x0 : Value) : run Try.prog prim lvs (n + 1) n_ref21Flush [x0] = F_ref21Flush (run Try.prog prim lvs n) x0 :=
  (run_fn hp (by kernel_rfl) Try.func35 (by kernel_rfl)).trans (rf_ref21Flush _ x0)

/-- interrex/interrexref21.Cut: a round. -/
noncomputable def F_ref21Cut.l1 (Γ : Funs) (s1 s2 s4 s5 s6 s13 s14 s15 : Value) : M Out :=
  bind (bop .int .lss s15 s14) fun v16x10 =>
  cnd v16x10
  (jn (bind (ixa 3 s13 s15) fun v17x11 =>
  bind (ldA 3 v17x11) fun v18x12 =>
  bind (alc 1 (.agg #[.int .i64 0, .string ⟨#[]⟩, .bool false])) fun v8x13 =>
  bind (stA 3 v8x13 v18x12) fun _ =>
  bind (fa 2 v8x13) fun v19x14 =>
  bind (ld1 v19x14) fun v20x15 =>
  cnd v20x15
  (bind (ldA 3 v8x13) fun v22x16 =>
  bind (bsl 3 1 (.agg #[.int .i64 0, .string ⟨#[]⟩, .bool false]) [(0, 3, v22x16)]) fun v23x17 =>
  bind (app 3 32 s5 v23x17) fun v24x18 =>
  ret (.nrm [s1, s2, s4, v24x18, s6, s13, s14, s15]))
  (bind (Γ n_ref21Bit [s1, s6]) fun v27x19 =>
  jn (cnd v27x19
  (bind (fa 0 v8x13) fun v29x20 =>
  bind (ld1 v29x20) fun v30x21 =>
  bind (fa 1 v8x13) fun v31x22 =>
  bind (ld1 v31x22) fun v32x23 =>
  bind (bld (.agg #[.int .i64 0, .string ⟨#[]⟩, .bool false]) [(0, 1, v30x21), (1, 1, v32x23), (2, 1, (Value.bool true))]) fun v33x24 =>
  bind (bsl 3 1 (.agg #[.int .i64 0, .string ⟨#[]⟩, .bool false]) [(0, 3, v33x24)]) fun v34x25 =>
  bind (app 3 32 s5 v34x25) fun v35x26 =>
  ret (.nrm [s1, s2, s4, v35x26, s6, s13, s14, s15]))
  (ret (.nrm [s1, s2, s4, s5, s6, s13, s14, s15]))) (fun vs_27 =>
  bind (bop .int .add (vs_27.tail.tail.tail.tail.headD undef) (Value.int .i64 1)) fun v37x28 =>
  ret (.nrm [(vs_27.headD undef), (vs_27.tail.headD undef), (vs_27.tail.tail.headD undef), (vs_27.tail.tail.tail.headD undef), v37x28, (vs_27.tail.tail.tail.tail.tail.headD undef), (vs_27.tail.tail.tail.tail.tail.tail.headD undef), (vs_27.tail.tail.tail.tail.tail.tail.tail.headD undef)])) (fun _ _ => fail) (fun w_29 => ret (.ret w_29)))) (fun vs_30 =>
  bind (bop .int .add (vs_30.tail.tail.tail.tail.tail.tail.tail.headD undef) (Value.int .i64 1)) fun v38x31 =>
  ret (.nrm [(vs_30.headD undef), (vs_30.tail.headD undef), (vs_30.tail.tail.headD undef), (vs_30.tail.tail.tail.headD undef), (vs_30.tail.tail.tail.tail.headD undef), (vs_30.tail.tail.tail.tail.tail.headD undef), (vs_30.tail.tail.tail.tail.tail.tail.headD undef), v38x31])) (fun _ _ => fail) (fun w_32 => ret (.ret w_32)))
  (ret (.ext 0 [s2, s4, s5]))

/-- interrex/interrexref21.Cut -/
noncomputable def F_ref21Cut (Γ : Funs) (x0 x1 : Value) : M Value :=
  bind (alc 1 x0) fun v2x1 =>
  bind (alc 1 (.agg #[.int .i64 0, .slice none 0 0, .bool false, .int .i64 0, .int .u64 0])) fun v4x2 =>
  bind (fa 2 v2x1) fun v9x3 =>
  bind (ld1 v9x3) fun v10x4 =>
  cnd v10x4
  (bind (ldA 5 v2x1) fun v11x5 =>
  bind (stA 5 v4x2 v11x5) fun _ =>
  bind (ldA 5 v4x2) fun vrx6 =>
  ret vrx6)
  (bind (fa 1 v2x1) fun v12x7 =>
  bind (ld1 v12x7) fun v13x8 =>
  bind (lenS v13x8) fun v14x9 =>
  jn (loopM (fun vs_33 => F_ref21Cut.l1 Γ ((vs_33.headD undef)) ((vs_33.tail.headD undef)) ((vs_33.tail.tail.headD undef)) ((vs_33.tail.tail.tail.headD undef)) ((vs_33.tail.tail.tail.tail.headD undef)) ((vs_33.tail.tail.tail.tail.tail.headD undef)) ((vs_33.tail.tail.tail.tail.tail.tail.headD undef)) ((vs_33.tail.tail.tail.tail.tail.tail.tail.headD undef))) [x1, v2x1, v4x2, (Value.slice none 0 0), (Value.int .i64 0), v13x8, v14x9, (Value.int .i64 0)]) (fun _ => fail) (fun j_34 vs_34 => bif Nat.beq j_34 0 then (bind (fa 1 (vs_34.headD undef)) fun v40x35 =>
  bind (st1 v40x35 (vs_34.tail.tail.headD undef)) fun _ =>
  bind (fa 2 (vs_34.headD undef)) fun v41x36 =>
  bind (st1 v41x36 (Value.bool true)) fun _ =>
  bind (fa 3 (vs_34.headD undef)) fun v42x37 =>
  bind (st1 v42x37 (Value.int .i64 (-1))) fun _ =>
  bind (ldA 5 (vs_34.headD undef)) fun v43x38 =>
  bind (stA 5 (vs_34.tail.headD undef) v43x38) fun _ =>
  bind (ldA 5 (vs_34.tail.headD undef)) fun vrx39 =>
  ret vrx39) else fail) (fun w_40 => ret w_40))

set_option maxRecDepth 100000 in
theorem rf_ref21Cut (Γ : Funs) (x0 x1 : Value) : runF Try.prog Γ Try.f36 lv_ref21Cut [x0, x1] = F_ref21Cut Γ x0 x1 := by kernel_rfl

theorem run_ref21Cut {prim : FuncId → Option (List Value → M Value)} (hp : prim n_ref21Cut = none) (n : Nat) (x0 x1 : Value) : run Try.prog prim lvs (n + 1) n_ref21Cut [x0, x1] = F_ref21Cut (run Try.prog prim lvs n) x0 x1 :=
  (run_fn hp (by kernel_rfl) Try.func36 (by kernel_rfl)).trans (rf_ref21Cut _ x0 x1)

/-- (*interrex/block.Device).Copy -/
noncomputable def F_blockDeviceCopy (Γ : Funs) (x0 : Value) : M Value :=
  bind (nilc x0) fun v5x1 =>
  bind (ldA 5 v5x1) fun v6x2 =>
  bind (alc 1 (.agg #[.slice none 0 0, .slice none 0 0, .bool false, .int .i64 0, .int .u64 0])) fun v3x3 =>
  bind (stA 5 v3x3 v6x2) fun _ =>
  bind (nilc x0) fun v8x4 =>
  bind (fa 0 v8x4) fun v9x5 =>
  bind (ld1 v9x5) fun v10x6 =>
  bind (Γ n_slicesClonebyteByte [v10x6]) fun v11x7 =>
  bind (fa 0 v3x3) fun v12x8 =>
  bind (st1 v12x8 v11x7) fun _ =>
  bind (nilc x0) fun v14x9 =>
  bind (fa 1 v14x9) fun v15x10 =>
  bind (ld1 v15x10) fun v16x11 =>
  bind (Γ n_slicesCloneblockWriteBlockWrite [v16x11]) fun v17x12 =>
  bind (fa 1 v3x3) fun v18x13 =>
  bind (st1 v18x13 v17x12) fun _ =>
  ret v3x3

set_option maxRecDepth 100000 in
theorem rf_blockDeviceCopy (Γ : Funs) (x0 : Value) : runF Try.prog Γ Try.f37 lv_blockDeviceCopy [x0] = F_blockDeviceCopy Γ x0 := by kernel_rfl

theorem run_blockDeviceCopy {prim : FuncId → Option (List Value → M Value)} (hp : prim n_blockDeviceCopy = none) (n : Nat) (x0 : Value) : run Try.prog prim lvs (n + 1) n_blockDeviceCopy [x0] = F_blockDeviceCopy (run Try.prog prim lvs n) x0 :=
  (run_fn hp (by kernel_rfl) Try.func37 (by kernel_rfl)).trans (rf_blockDeviceCopy _ x0)

/-- interrex/interrexref21.Block: a round. -/
noncomputable def F_ref21Block.l1 (Γ : Funs) (s1 s5 s11 s12 s13 : Value) : M Out :=
  bind (bop .int .lss s13 s12) fun v14x7 =>
  cnd v14x7
  (bind (ixa 3 s11 s13) fun v15x8 =>
  bind (ldA 3 v15x8) fun v16x9 =>
  bind (alc 1 (.agg #[.int .i64 0, .string ⟨#[]⟩, .bool false])) fun v7x10 =>
  bind (stA 3 v7x10 v16x9) fun _ =>
  bind (fa 0 v7x10) fun v17x11 =>
  bind (ld1 v17x11) fun v18x12 =>
  bind (bop .int .eql v18x12 s1) fun v20x13 =>
  jn (cnd v20x13
  (bind (fa 1 v7x10) fun v21x14 =>
  bind (ld1 v21x14) fun v22x15 =>
  bind (fa 1 v7x10) fun v23x16 =>
  bind (ld1 v23x16) fun v24x17 =>
  bind (lenT v24x17) fun v25x18 =>
  bind (bop .int .sub (Value.int .i64 128) v25x18) fun v26x19 =>
  bind (mks 1 1 (.int .u8 0) v26x19 v26x19) fun v27x20 =>
  bind (ld1 v21x14) fun u_21 => same u_21 v22x15 <|
  bind (b2s v27x20) fun v28x22 =>
  bind (bop .str .add v22x15 v28x22) fun v29x23 =>
  ret (.nrm [s1, v29x23, s11, s12, s13]))
  (ret (.nrm [s1, s5, s11, s12, s13]))) (fun vs_24 =>
  bind (bop .int .add (vs_24.tail.tail.tail.tail.headD undef) (Value.int .i64 1)) fun v30x25 =>
  ret (.nrm [(vs_24.headD undef), (vs_24.tail.headD undef), (vs_24.tail.tail.headD undef), (vs_24.tail.tail.tail.headD undef), v30x25])) (fun _ _ => fail) (fun w_26 => ret (.ret w_26)))
  (ret (.ext 0 [s5]))

/-- interrex/interrexref21.Block -/
noncomputable def F_ref21Block (Γ : Funs) (x0 x1 : Value) : M Value :=
  bind (alc 1 x0) fun v2x1 =>
  bind (mks 1 1 (.int .u8 0) (Value.int .i64 128) (Value.int .i64 128)) fun v8x2 =>
  bind (b2s v8x2) fun v9x3 =>
  bind (fa 1 v2x1) fun v10x4 =>
  bind (ld1 v10x4) fun v11x5 =>
  bind (lenS v11x5) fun v12x6 =>
  jn (loopM (fun vs_27 => F_ref21Block.l1 Γ ((vs_27.headD undef)) ((vs_27.tail.headD undef)) ((vs_27.tail.tail.headD undef)) ((vs_27.tail.tail.tail.headD undef)) ((vs_27.tail.tail.tail.tail.headD undef))) [x1, v9x3, v11x5, v12x6, (Value.int .i64 0)]) (fun _ => fail) (fun j_28 vs_28 => bif Nat.beq j_28 0 then (ret (vs_28.headD undef)) else fail) (fun w_29 => ret w_29)

set_option maxRecDepth 100000 in
theorem rf_ref21Block (Γ : Funs) (x0 x1 : Value) : runF Try.prog Γ Try.f38 lv_ref21Block [x0, x1] = F_ref21Block Γ x0 x1 := by kernel_rfl

theorem run_ref21Block {prim : FuncId → Option (List Value → M Value)} (hp : prim n_ref21Block = none) (n : Nat) (x0 x1 : Value) : run Try.prog prim lvs (n + 1) n_ref21Block [x0, x1] = F_ref21Block (run Try.prog prim lvs n) x0 x1 :=
  (run_fn hp (by kernel_rfl) Try.func38 (by kernel_rfl)).trans (rf_ref21Block _ x0 x1)

/-- slices.Backward[[]interrex/block.write,interrex/block.write]$1: a round. -/
noncomputable def F_slicesBackwardblockWriteBlockWrite1.l1 (Γ : Funs) (s0 s1 s3 : Value) : M Out :=
  bind (bop .int .geq s3 (Value.int .i64 0)) fun v8x4 =>
  cnd v8x4
  (bind (ld1 s1) fun v13x5 =>
  bind (ixa 2 v13x5 s3) fun v15x6 =>
  bind (ldA 2 v15x6) fun v16x7 =>
  bind (callv Γ s0 [s3, v16x7]) fun v17x8 =>
  bind (uop .not v17x8) fun v18x9 =>
  cnd v18x9
  (ret (.ret (Value.tuple #[])))
  (bind (bop .int .sub s3 (Value.int .i64 1)) fun v10x10 =>
  ret (.nrm [s0, s1, v10x10])))
  (ret (.ext 0 []))

/-- slices.Backward[[]interrex/block.write,interrex/block.write]$1 -/
noncomputable def F_slicesBackwardblockWriteBlockWrite1 (Γ : Funs) (x0 x1 : Value) : M Value :=
  bind (ld1 x1) fun v4x1 =>
  bind (lenS v4x1) fun v5x2 =>
  bind (bop .int .sub v5x2 (Value.int .i64 1)) fun v6x3 =>
  jn (loopM (fun vs_11 => F_slicesBackwardblockWriteBlockWrite1.l1 Γ ((vs_11.headD undef)) ((vs_11.tail.headD undef)) ((vs_11.tail.tail.headD undef))) [x0, x1, v6x3]) (fun _ => fail) (fun j_12 vs_12 => bif Nat.beq j_12 0 then (ret (Value.tuple #[])) else fail) (fun w_13 => ret w_13)

set_option maxRecDepth 100000 in
theorem rf_slicesBackwardblockWriteBlockWrite1 (Γ : Funs) (x0 x1 : Value) : runF Try.prog Γ Try.f43 lv_slicesBackwardblockWriteBlockWrite1 [x0, x1] = F_slicesBackwardblockWriteBlockWrite1 Γ x0 x1 := by kernel_rfl

theorem run_slicesBackwardblockWriteBlockWrite1 {prim : FuncId → Option (List Value → M Value)} (hp : prim n_slicesBackwardblockWriteBlockWrite1 = none) (n : Nat) (x0 x1 : Value) : run Try.prog prim lvs (n + 1) n_slicesBackwardblockWriteBlockWrite1 [x0, x1] = F_slicesBackwardblockWriteBlockWrite1 (run Try.prog prim lvs n) x0 x1 :=
  (run_fn hp (by kernel_rfl) Try.func43 (by kernel_rfl)).trans (rf_slicesBackwardblockWriteBlockWrite1 _ x0 x1)

/-- interrex/interrexref21.Burn -/
noncomputable def F_ref21Burn (Γ : Funs) (x0 : Value) : M Value :=
  bind (alc 1 x0) fun v1x1 =>
  bind (alc 1 (.agg #[.int .i64 0, .slice none 0 0, .bool false, .int .i64 0, .int .u64 0])) fun v2x2 =>
  bind (fa 3 v1x1) fun v4x3 =>
  bind (ld1 v4x3) fun v5x4 =>
  bind (bop .int .lss v5x4 (Value.int .i64 0)) fun v6x5 =>
  cnd v6x5
  (bind (ldA 5 v1x1) fun v7x6 =>
  bind (stA 5 v2x2 v7x6) fun _ =>
  bind (ldA 5 v2x2) fun vrx7 =>
  ret (Value.tuple #[vrx7, (Value.int .i64 0)]))
  (bind (fa 3 v1x1) fun v8x8 =>
  bind (ld1 v8x8) fun v9x9 =>
  bind (bop .int .eql v9x9 (Value.int .i64 0)) fun v10x10 =>
  cnd v10x10
  (bind (ldA 5 v1x1) fun v11x11 =>
  bind (fa 4 v1x1) fun v12x12 =>
  bind (ld1 v12x12) fun v13x13 =>
  bind (Γ n_ref21Cut [v11x11, v13x13]) fun v14x14 =>
  bind (stA 5 v2x2 v14x14) fun _ =>
  bind (ldA 5 v2x2) fun vrx15 =>
  ret (Value.tuple #[vrx15, (Value.int .i64 15)]))
  (bind (fa 3 v1x1) fun v15x16 =>
  bind (ld1 v15x16) fun v16x17 =>
  bind (bop .int .sub v16x17 (Value.int .i64 1)) fun v17x18 =>
  bind (fa 3 v1x1) fun v18x19 =>
  bind (st1 v18x19 v17x18) fun _ =>
  bind (ldA 5 v1x1) fun v19x20 =>
  bind (stA 5 v2x2 v19x20) fun _ =>
  bind (ldA 5 v2x2) fun vrx21 =>
  ret (Value.tuple #[vrx21, (Value.int .i64 0)])))

set_option maxRecDepth 100000 in
theorem rf_ref21Burn (Γ : Funs) (x0 : Value) : runF Try.prog Γ Try.f44 lv_ref21Burn [x0] = F_ref21Burn Γ x0 := by kernel_rfl

theorem run_ref21Burn {prim : FuncId → Option (List Value → M Value)} (hp : prim n_ref21Burn = none) (n : Nat) (x0 : Value) : run Try.prog prim lvs (n + 1) n_ref21Burn [x0] = F_ref21Burn (run Try.prog prim lvs n) x0 :=
  (run_fn hp (by kernel_rfl) Try.func44 (by kernel_rfl)).trans (rf_ref21Burn _ x0)

/-- interrex/interrexref21.bit: a round. -/
noncomputable def F_ref21Bit.l1 (Γ : Funs) (s0 s6 s7 : Value) : M Out :=
  bind (bop .int .lss s7 s6) fun v8x2 =>
  cnd v8x2
  (bind (bop .int .quo s0 (Value.int .u64 2)) fun v10x3 =>
  bind (bop .int .add s7 (Value.int .i64 1)) fun v11x4 =>
  ret (.nrm [v10x3, s6, v11x4]))
  (ret (.ext 0 [s0]))

/-- interrex/interrexref21.bit -/
noncomputable def F_ref21Bit (Γ : Funs) (x0 x1 : Value) : M Value :=
  bind (bop .int .rem x1 (Value.int .i64 64)) fun v6x1 =>
  jn (loopM (fun vs_5 => F_ref21Bit.l1 Γ ((vs_5.headD undef)) ((vs_5.tail.headD undef)) ((vs_5.tail.tail.headD undef))) [x0, v6x1, (Value.int .i64 0)]) (fun _ => fail) (fun j_6 vs_6 => bif Nat.beq j_6 0 then (bind (bop .int .rem (vs_6.headD undef) (Value.int .u64 2)) fun v13x7 =>
  bind (bop .int .eql v13x7 (Value.int .u64 1)) fun v14x8 =>
  ret v14x8) else fail) (fun w_9 => ret w_9)

set_option maxRecDepth 100000 in
theorem rf_ref21Bit (Γ : Funs) (x0 x1 : Value) : runF Try.prog Γ Try.f45 lv_ref21Bit [x0, x1] = F_ref21Bit Γ x0 x1 := by kernel_rfl

theorem run_ref21Bit {prim : FuncId → Option (List Value → M Value)} (hp : prim n_ref21Bit = none) (n : Nat) (x0 x1 : Value) : run Try.prog prim lvs (n + 1) n_ref21Bit [x0, x1] = F_ref21Bit (run Try.prog prim lvs n) x0 x1 :=
  (run_fn hp (by kernel_rfl) Try.func45 (by kernel_rfl)).trans (rf_ref21Bit _ x0 x1)

/-- slices.Clone[[][]byte,[]byte] -/
noncomputable def F_slicesClonebyteByte (Γ : Funs) (x0 : Value) : M Value :=
  bind (bop .slc .eql x0 (Value.slice none 0 0)) fun v4x1 =>
  cnd v4x1
  (ret (Value.slice none 0 0))
  (bind (bsl 1 0 (.slice none 0 0) []) fun v5x2 =>
  bind (app 1 24 v5x2 x0) fun v7x3 =>
  ret v7x3)

set_option maxRecDepth 100000 in
theorem rf_slicesClonebyteByte (Γ : Funs) (x0 : Value) : runF Try.prog Γ Try.f46 lv_slicesClonebyteByte [x0] = F_slicesClonebyteByte Γ x0 := by kernel_rfl

theorem run_slicesClonebyteByte {prim : FuncId → Option (List Value → M Value)} (hp : prim n_slicesClonebyteByte = none) (n : Nat) (x0 : Value) : run Try.prog prim lvs (n + 1) n_slicesClonebyteByte [x0] = F_slicesClonebyteByte (run Try.prog prim lvs n) x0 :=
  (run_fn hp (by kernel_rfl) Try.func46 (by kernel_rfl)).trans (rf_slicesClonebyteByte _ x0)

/-- slices.Clone[[]interrex/block.write,interrex/block.write] -/
noncomputable def F_slicesCloneblockWriteBlockWrite (Γ : Funs) (x0 : Value) : M Value :=
  bind (bop .slc .eql x0 (Value.slice none 0 0)) fun v4x1 =>
  cnd v4x1
  (ret (Value.slice none 0 0))
  (bind (bsl 2 0 (.agg #[.int .i64 0, .slice none 0 0]) []) fun v5x2 =>
  bind (app 2 32 v5x2 x0) fun v7x3 =>
  ret v7x3)

set_option maxRecDepth 100000 in
theorem rf_slicesCloneblockWriteBlockWrite (Γ : Funs) (x0 : Value) : runF Try.prog Γ Try.f47 lv_slicesCloneblockWriteBlockWrite [x0] = F_slicesCloneblockWriteBlockWrite Γ x0 := by kernel_rfl

theorem run_slicesCloneblockWriteBlockWrite {prim : FuncId → Option (List Value → M Value)} (hp : prim n_slicesCloneblockWriteBlockWrite = none) (n : Nat) (x0 : Value) : run Try.prog prim lvs (n + 1) n_slicesCloneblockWriteBlockWrite [x0] = F_slicesCloneblockWriteBlockWrite (run Try.prog prim lvs n) x0 :=
  (run_fn hp (by kernel_rfl) Try.func47 (by kernel_rfl)).trans (rf_slicesCloneblockWriteBlockWrite _ x0)

end Go.Proofs.Ytahocinoohdagaa.A
