/- Functions, as the abstract machine reads them: printed by wip/tools/gen.py. -/
import Derived.Test.YtmacmlpiheimhaaNmEg
import Derived.Test.YtmacmlpiheimhaaProg
import Derived.KernelRfl
namespace Go.Proofs.Ytmacmlpiheimhaa.A
set_option linter.unusedVariables false
set_option linter.unusedSimpArgs false
open Go.Proofs Go.Proofs.Ytmacmlpiheimhaa

/-- interrex/interrexlaw07.ElderLists: a round. -/
noncomputable def F_law07ElderLists.l1 (Γ : Funs) (s1 s2 s7 s41 s42 s43 : Value) : M Out :=
  bind (bop .int .lss s43 s42) fun v44x18 =>
  cnd v44x18
  (bind (ixa 3 s41 s43) fun v45x19 =>
  bind (ldA 3 v45x19) fun v46x20 =>
  bind (alc 1 (.agg #[.int .u8 0, .string ⟨#[]⟩, .string ⟨#[]⟩])) fun v9x21 =>
  bind (stA 3 v9x21 v46x20) fun _ =>
  bind (fa 1 v9x21) fun v48x22 =>
  bind (ld1 v48x22) fun v49x23 =>
  bind (fa 2 v9x21) fun v50x24 =>
  bind (ld1 v50x24) fun v51x25 =>
  bind (Γ n_elderDirCreate [s7, v49x23, v51x25]) fun v52x26 =>
  bind (bop .int .add s43 (Value.int .i64 1)) fun v53x27 =>
  ret (.nrm [s1, s2, s7, s41, s42, v53x27]))
  (ret (.ext 0 [s1, s2, s7]))

/-- interrex/interrexlaw07.ElderLists: a round. -/
noncomputable def F_law07ElderLists.l2 (Γ : Funs) (s1 s11 s13 s15 s84 s85 s86 : Value) : M Out :=
  bind (bop .int .lss s86 s85) fun v87x49 =>
  cnd v87x49
  (jn (bind (ixa 5 s84 s86) fun v88x50 =>
  bind (ldA 5 v88x50) fun v89x51 =>
  bind (alc 1 (.agg #[.string ⟨#[]⟩, .string ⟨#[]⟩, .string ⟨#[]⟩, .bool false, .slice none 0 0])) fun v17x52 =>
  bind (stA 5 v17x52 v89x51) fun _ =>
  bind (fa 0 v17x52) fun v90x53 =>
  bind (ld1 v90x53) fun v91x54 =>
  bind (lenT v91x54) fun v92x55 =>
  bind (lenT s1) fun v94x56 =>
  bind (bop .int .geq v92x55 v94x56) fun v95x57 =>
  bind (gate v95x57 true 7 (bind (fa 0 v17x52) fun v97x58 =>
  bind (ld1 v97x58) fun v98x59 =>
  bind (lenT s1) fun v100x60 =>
  bind (sls v98x59 none (some v100x60)) fun v101x61 =>
  bind (bop .str .eql v101x61 s1) fun v103x62 =>
  ret [v97x58, v98x59, s1, v100x60, v101x61, s1, v103x62])) (c7 fun _ _ _ _ _ _ q63_6 =>
  bind (pick v95x57 q63_6 (Value.bool false)) fun v104x64 =>
  bind (uop .not v104x64) fun v106x65 =>
  cnd v106x65
  (ret (.nrm [s1, s11, s13, s15, s84, s85, s86]))
  (bind (lenS s11) fun v109x66 =>
  bind (bop .int .geq s15 v109x66) fun v110x67 =>
  bind (gateV v110x67 false (ret s11)) fun v112x68 =>
  bind (gateV v110x67 false (ret s15)) fun v113x69 =>
  bind (gateV v110x67 false (ixa 1 v112x68 v113x69)) fun v114x70 =>
  bind (gateV v110x67 false (ld1 v114x70)) fun v115x71 =>
  bind (gateV v110x67 false (fa 0 v17x52)) fun v116x72 =>
  bind (gateV v110x67 false (ld1 v116x72)) fun v117x73 =>
  bind (gateV v110x67 false (bop .str .neq v115x71 v117x73)) fun v118x74 =>
  bind (pick v110x67 (Value.bool true) v118x74) fun v119x75 =>
  cnd v119x75
  (ret (.ret (Value.bool false)))
  (bind (bop .int .add s15 (Value.int .i64 1)) fun v121x76 =>
  ret (.nrm [s1, s11, s13, v121x76, s84, s85, s86]))))) (c7 fun q77_0 q77_1 q77_2 q77_3 q77_4 q77_5 q77_6 =>
  bind (bop .int .add q77_6 (Value.int .i64 1)) fun v122x78 =>
  ret (.nrm [q77_0, q77_1, q77_2, q77_3, q77_4, q77_5, v122x78])) noX retR)
  (ret (.ext 2 [s11, s13, s15]))

/-- interrex/interrexlaw07.ElderLists: a round. -/
noncomputable def F_law07ElderLists.l3 (Γ : Funs) (s11 s13 s15 s19 s123 s124 s125 : Value) : M Out :=
  bind (bop .int .lss s125 s124) fun v126x83 =>
  cnd v126x83
  (bind (ixa 1 s123 s125) fun v127x84 =>
  bind (ld1 v127x84) fun v128x85 =>
  bind (lenS s13) fun v131x86 =>
  bind (bop .int .lss s19 v131x86) fun v132x87 =>
  bind (gate v132x87 true 6 (bind (ixa 1 s13 s19) fun v136x88 =>
  bind (ld1 v136x88) fun v137x89 =>
  bind (bop .str .eql v137x89 v128x85) fun v139x90 =>
  ret [s13, s19, v136x88, v137x89, v128x85, v139x90])) (c6 fun _ _ _ _ _ q91_5 =>
  bind (pick v132x87 q91_5 (Value.bool false)) fun v140x92 =>
  jn (cnd v140x92
  (bind (bop .int .add s19 (Value.int .i64 1)) fun v142x93 =>
  ret (.nrm [s11, s13, s15, v142x93, s123, s124, s125]))
  (ret (.nrm [s11, s13, s15, s19, s123, s124, s125]))) (c7 fun q94_0 q94_1 q94_2 q94_3 q94_4 q94_5 q94_6 =>
  bind (bop .int .add q94_6 (Value.int .i64 1)) fun v143x95 =>
  ret (.nrm [q94_0, q94_1, q94_2, q94_3, q94_4, q94_5, v143x95])) noX retR))
  (ret (.ext 4 [s11, s13, s15, s19]))

/-- interrex/interrexlaw07.ElderLists -/
noncomputable def F_law07ElderLists (Γ : Funs) (x0 x1 x2 : Value) : M Value :=
  bind (Γ n_law07Lives []) fun v22x1 =>
  bind (uop .not v22x1) fun v23x2 =>
  bind (gate v23x2 false 3 (bind (Γ n_law07Few [x0]) fun v26x3 =>
  bind (uop .not v26x3) fun v27x4 =>
  ret [x0, v26x3, v27x4])) (c3 fun _ _ q5_2 =>
  bind (pick v23x2 (Value.bool true) q5_2) fun v28x6 =>
  bind (gate v28x6 false 3 (bind (lenT x1) fun v31x7 =>
  bind (bop .int .gtr v31x7 (Value.int .i64 50)) fun v32x8 =>
  ret [x1, v31x7, v32x8])) (c3 fun _ _ q9_2 =>
  bind (pick v28x6 (Value.bool true) q9_2) fun v33x10 =>
  bind (gate v33x10 false 3 (bind (lenT x2) fun v36x11 =>
  bind (bop .int .gtr v36x11 (Value.int .i64 50)) fun v37x12 =>
  ret [x2, v36x11, v37x12])) (c3 fun _ _ q13_2 =>
  bind (pick v33x10 (Value.bool true) q13_2) fun v38x14 =>
  cnd v38x14
  (bind (Γ n_law07Lives []) fun v39x15 =>
  ret v39x15)
  (bind (Γ n_elderNew []) fun v40x16 =>
  bind (lenS x0) fun v42x17 =>
  jn (loopM (c6 (F_law07ElderLists.l1 Γ)) [x1, x2, v40x16, x0, v42x17, (Value.int .i64 0)]) noN (xk 0 (c3 fun q29_0 q29_1 q29_2 =>
  bind (Γ n_elderDirAll [q29_2]) fun v55x30 =>
  bind (Γ n_elderDirList [q29_2, q29_0]) fun v59x31 =>
  bind (extr v59x31 0) fun v60x32 =>
  bind (extr v59x31 1) fun v61x33 =>
  bind (bop .str .add q29_0 q29_1) fun v66x34 =>
  bind (Γ n_elderDirList [q29_2, v66x34]) fun v67x35 =>
  bind (extr v67x35 0) fun v68x36 =>
  bind (extr v67x35 1) fun v69x37 =>
  bind (bop .int .neq v61x33 (Value.int .i64 0)) fun v71x38 =>
  cnd v71x38
  (bind (bop .int .neq v69x37 (Value.int .i64 0)) fun v73x39 =>
  bind (gate v73x39 true 3 (bind (lenS v60x32) fun v76x40 =>
  bind (bop .int .eql v76x40 (Value.int .i64 0)) fun v77x41 =>
  ret [v60x32, v76x40, v77x41])) (c3 fun _ _ q42_2 =>
  bind (pick v73x39 q42_2 (Value.bool false)) fun v78x43 =>
  bind (gate v78x43 true 3 (bind (lenS v68x36) fun v81x44 =>
  bind (bop .int .eql v81x44 (Value.int .i64 0)) fun v82x45 =>
  ret [v68x36, v81x44, v82x45])) (c3 fun _ _ q46_2 =>
  bind (pick v78x43 q46_2 (Value.bool false)) fun v83x47 =>
  ret v83x47)))
  (bind (lenS v55x30) fun v85x48 =>
  jn (loopM (c7 (F_law07ElderLists.l2 Γ)) [q29_0, v60x32, v68x36, (Value.int .i64 0), v55x30, v85x48, (Value.int .i64 0)]) noN (xk 2 (c3 fun q81_0 q81_1 q81_2 =>
  bind (lenS q81_0) fun v124x82 =>
  jn (loopM (c7 (F_law07ElderLists.l3 Γ)) [q81_0, q81_1, q81_2, (Value.int .i64 0), q81_0, v124x82, (Value.int .i64 0)]) noN (xk 4 (c4 fun q98_0 q98_1 q98_2 q98_3 =>
  bind (lenS q98_0) fun v146x99 =>
  bind (bop .int .eql q98_2 v146x99) fun v147x100 =>
  bind (gate v147x100 true 4 (bind (lenS q98_1) fun v151x101 =>
  bind (bop .int .eql q98_3 v151x101) fun v152x102 =>
  ret [q98_3, q98_1, v151x101, v152x102])) (c4 fun _ _ _ q103_3 =>
  bind (pick v147x100 q103_3 (Value.bool false)) fun v153x104 =>
  ret v153x104)) noX) ret) noX) ret)) noX) ret))))

set_option maxRecDepth 100000 in
theorem rf_law07ElderLists (Γ : Funs) (x0 x1 x2 : Value) : runF Try.prog Γ Try.f3 lv_law07ElderLists [x0, x1, x2] = F_law07ElderLists Γ x0 x1 x2 := by kernel_rfl

theorem run_law07ElderLists {prim : FuncId → Option (List Value → M Value)} (hp : prim n_law07ElderLists = none) (n : Nat) (x0 x1 x2 : Value) : run Try.prog prim lvs (n + 1) n_law07ElderLists [x0, x1, x2] = F_law07ElderLists (run Try.prog prim lvs n) x0 x1 x2 :=
  (run_fn hp (by kernel_rfl) Try.func3 (by kernel_rfl)).trans (rf_law07ElderLists _ x0 x1 x2)

/-- interrex/interrexlaw07.ElderFull: a round. -/
noncomputable def F_law07ElderFull.l1 (Γ : Funs) (s0 s1 s5 s6 s22 s23 s24 : Value) : M Out :=
  bind (bop .int .lss s24 s23) fun v25x12 =>
  cnd v25x12
  (bind (ixa 1 s22 s24) fun v27x13 =>
  bind (ld1 v27x13) fun v28x14 =>
  bind (Γ n_elderDirCreate [s5, v28x14, s0]) fun v32x15 =>
  bind (bop .int .eql v32x15 (Value.int .i64 4)) fun v34x16 =>
  cnd v34x16
  (bind (bop .int .eql s24 (Value.int .i64 0)) fun v36x17 =>
  bind (gate v36x17 true 3 (bind (Γ n_elderDirLen [s5]) fun v39x18 =>
  bind (bop .int .eql v39x18 (Value.int .i64 0)) fun v40x19 =>
  ret [s5, v39x18, v40x19])) (c3 fun _ _ q20_2 =>
  bind (pick v36x17 q20_2 (Value.bool false)) fun v41x21 =>
  ret (.ret v41x21)))
  (bind (bop .int .neq v32x15 (Value.int .i64 0)) fun v43x22 =>
  cnd v43x22
  (ret (.ret (Value.bool false)))
  (bind (bop .int .add s24 (Value.int .i64 1)) fun v44x23 =>
  ret (.nrm [s0, s1, s5, s6, s22, s23, v44x23]))))
  (ret (.ext 0 [s0, s1, s5, s6]))

/-- interrex/interrexlaw07.ElderFull -/
noncomputable def F_law07ElderFull (Γ : Funs) (x0 x1 : Value) : M Value :=
  bind (Γ n_law07Lives []) fun v11x1 =>
  bind (uop .not v11x1) fun v12x2 =>
  bind (gate v12x2 false 3 (bind (lenT x0) fun v15x3 =>
  bind (bop .int .gtr v15x3 (Value.int .i64 50)) fun v16x4 =>
  ret [x0, v15x3, v16x4])) (c3 fun _ _ q5_2 =>
  bind (pick v12x2 (Value.bool true) q5_2) fun v17x6 =>
  cnd v17x6
  (bind (Γ n_law07Lives []) fun v18x7 =>
  ret v18x7)
  (bind (Γ n_elderNew []) fun v19x8 =>
  bind (bsl 1 13 (.string ⟨#[]⟩) [(0, 1, (Value.string ⟨#[97]⟩)), (1, 1, (Value.string ⟨#[98]⟩)), (2, 1, (Value.string ⟨#[99]⟩)), (3, 1, (Value.string ⟨#[100]⟩)), (4, 1, (Value.string ⟨#[101]⟩)), (5, 1, (Value.string ⟨#[102]⟩)), (6, 1, (Value.string ⟨#[103]⟩)), (7, 1, (Value.string ⟨#[104]⟩)), (8, 1, (Value.string ⟨#[105]⟩)), (9, 1, (Value.string ⟨#[106]⟩)), (10, 1, (Value.string ⟨#[107]⟩)), (11, 1, (Value.string ⟨#[108]⟩)), (12, 1, (Value.string ⟨#[109]⟩))]) fun v20x9 =>
  bind (slv 1 v20x9 none (some (Value.int .i64 12)) none) fun v22x10 =>
  bind (lenS v22x10) fun v23x11 =>
  jn (loopM (c7 (F_law07ElderFull.l1 Γ)) [x0, x1, v19x8, v20x9, v22x10, v23x11, (Value.int .i64 0)]) noN (xk 0 (c4 fun q25_0 q25_1 q25_2 q25_3 =>
  bind (cvi .i64 q25_1) fun v47x26 =>
  bind (bop .int .rem v47x26 (Value.int .i64 12)) fun v48x27 =>
  bind (ixa 1 q25_3 v48x27) fun v49x28 =>
  bind (ld1 v49x28) fun v50x29 =>
  bind (Γ n_elderDirCreate [q25_2, (Value.string ⟨#[109]⟩), q25_0]) fun v53x30 =>
  bind (bop .int .eql v53x30 (Value.int .i64 7)) fun v54x31 =>
  bind (gate v54x31 true 5 (bind (Γ n_elderDirCreate [q25_2, v50x29, q25_0]) fun v59x32 =>
  bind (bop .int .eql v59x32 (Value.int .i64 9)) fun v60x33 =>
  ret [q25_2, v50x29, q25_0, v59x32, v60x33])) (c5 fun _ _ _ _ q34_4 =>
  bind (pick v54x31 q34_4 (Value.bool false)) fun v61x35 =>
  bind (gate v61x35 true 4 (bind (Γ n_elderDirDelete [q25_2, v50x29]) fun v65x36 =>
  bind (bop .int .eql v65x36 (Value.int .i64 0)) fun v66x37 =>
  ret [q25_2, v50x29, v65x36, v66x37])) (c4 fun _ _ _ q38_3 =>
  bind (pick v61x35 q38_3 (Value.bool false)) fun v67x39 =>
  bind (gate v67x39 true 4 (bind (Γ n_elderDirCreate [q25_2, (Value.string ⟨#[109]⟩), q25_0]) fun v71x40 =>
  bind (bop .int .eql v71x40 (Value.int .i64 0)) fun v72x41 =>
  ret [q25_2, q25_0, v71x40, v72x41])) (c4 fun _ _ _ q42_3 =>
  bind (pick v67x39 q42_3 (Value.bool false)) fun v73x43 =>
  bind (gate v73x43 true 3 (bind (Γ n_elderDirLen [q25_2]) fun v76x44 =>
  bind (bop .int .eql v76x44 (Value.int .i64 12)) fun v77x45 =>
  ret [q25_2, v76x44, v77x45])) (c3 fun _ _ q46_2 =>
  bind (pick v73x43 q46_2 (Value.bool false)) fun v78x47 =>
  bind (gate v78x47 true 5 (bind (Γ n_elderDirSetHash [q25_2, v50x29, q25_0]) fun v83x48 =>
  bind (bop .int .eql v83x48 (Value.int .i64 8)) fun v84x49 =>
  ret [q25_2, v50x29, q25_0, v83x48, v84x49])) (c5 fun _ _ _ _ q50_4 =>
  bind (pick v78x47 q50_4 (Value.bool false)) fun v85x51 =>
  ret v85x51)))))) noX) ret))

set_option maxRecDepth 100000 in
theorem rf_law07ElderFull (Γ : Funs) (x0 x1 : Value) : runF Try.prog Γ Try.f4 lv_law07ElderFull [x0, x1] = F_law07ElderFull Γ x0 x1 := by kernel_rfl

theorem run_law07ElderFull {prim : FuncId → Option (List Value → M Value)} (hp : prim n_law07ElderFull = none) (n : Nat) (x0 x1 : Value) : run Try.prog prim lvs (n + 1) n_law07ElderFull [x0, x1] = F_law07ElderFull (run Try.prog prim lvs n) x0 x1 :=
  (run_fn hp (by kernel_rfl) Try.func4 (by kernel_rfl)).trans (rf_law07ElderFull _ x0 x1)

/-- interrex/interrexlaw07.ElderPlays: a round. -/
noncomputable def F_law07ElderPlays.l2 (Γ : Funs) (s1 s2 s7 s8 s43 s44 s45 s108 s109 s110 : Value) : M Out :=
  bind (bop .int .lss s110 s109) fun v111x69 =>
  cnd v111x69
  (bind (ixa 1 s108 s110) fun v112x70 =>
  bind (ld1 v112x70) fun v113x71 =>
  bind (Γ n_elderDirLookup [s7, v113x71]) fun v117x72 =>
  bind (extr v117x72 0) fun v118x73 =>
  bind (extr v117x72 1) fun v119x74 =>
  bind (Γ n_ref07Lookup [s8, v113x71]) fun v123x75 =>
  bind (extr v123x75 0) fun v124x76 =>
  bind (extr v123x75 1) fun v125x77 =>
  bind (bop .str .neq v118x73 v124x76) fun v128x78 =>
  bind (gate v128x78 false 3 (bind (bop .int .neq v119x74 v125x77) fun v132x79 =>
  ret [v119x74, v125x77, v132x79])) (c3 fun _ _ q80_2 =>
  bind (pick v128x78 (Value.bool true) q80_2) fun v133x81 =>
  cnd v133x81
  (ret (.ret (Value.bool false)))
  (bind (bop .int .add s110 (Value.int .i64 1)) fun v134x82 =>
  ret (.nrm [s1, s2, s7, s8, s43, s44, s45, s108, s109, v134x82]))))
  (ret (.ext 3 [s1, s2, s7, s8, s43, s44, s45]))

/-- interrex/interrexlaw07.ElderPlays: a round. -/
noncomputable def F_law07ElderPlays.l1 (Γ : Funs) (s1 s2 s7 s8 s43 s44 s45 : Value) : M Out :=
  bind (bop .int .lss s45 s44) fun v46x18 =>
  cnd v46x18
  (bind (ixa 3 s43 s45) fun v47x19 =>
  bind (ldA 3 v47x19) fun v48x20 =>
  bind (alc 1 (.agg #[.int .u8 0, .string ⟨#[]⟩, .string ⟨#[]⟩])) fun v10x21 =>
  bind (stA 3 v10x21 v48x20) fun _ =>
  bind (fa 0 v10x21) fun v49x22 =>
  bind (ld1 v49x22) fun v50x23 =>
  bind (bop .int .rem v50x23 (Value.int .u8 5)) fun v51x24 =>
  bind (bop .int .eql v51x24 (Value.int .u8 3)) fun v67x25 =>
  jn (cnd v67x25
  (bind (Γ n_elderDirCopy [s7]) fun v69x26 =>
  bind (fa 1 v10x21) fun v71x27 =>
  bind (ld1 v71x27) fun v72x28 =>
  bind (fa 2 v10x21) fun v73x29 =>
  bind (ld1 v73x29) fun v74x30 =>
  bind (Γ n_elderDirCreate [v69x26, v72x28, v74x30]) fun v75x31 =>
  bind (Γ n_elderDirDelete [v69x26, (Value.string ⟨#[97, 110, 110]⟩)]) fun v77x32 =>
  ret (.nrm [s1, s2, s7, s8, v10x21, (Value.bool true), s43, s44, s45]))
  (bind (bop .int .eql v51x24 (Value.int .u8 4)) fun v79x33 =>
  jn (cnd v79x33
  (bind (Γ n_elderDirCopy [s7]) fun v81x34 =>
  bind (fa 1 v10x21) fun v83x35 =>
  bind (ld1 v83x35) fun v84x36 =>
  bind (fa 2 v10x21) fun v85x37 =>
  bind (ld1 v85x37) fun v86x38 =>
  bind (Γ n_elderDirCreate [s7, v84x36, v86x38]) fun v87x39 =>
  ret (.nrm [s1, s2, v81x34, s8, v10x21, (Value.bool true), s43, s44, s45]))
  (bind (fa 0 v10x21) fun v55x40 =>
  bind (ld1 v55x40) fun v56x41 =>
  bind (bop .int .rem v56x41 (Value.int .u8 5)) fun v57x42 =>
  bind (fa 1 v10x21) fun v58x43 =>
  bind (ld1 v58x43) fun v59x44 =>
  bind (fa 2 v10x21) fun v60x45 =>
  bind (ld1 v60x45) fun v61x46 =>
  bind (bld (.agg #[.int .u8 0, .string ⟨#[]⟩, .string ⟨#[]⟩]) [(0, 1, v57x42), (1, 1, v59x44), (2, 1, v61x46)]) fun v62x47 =>
  bind (Γ n_law07Do [s7, s8, v62x47]) fun v63x48 =>
  bind (extr v63x48 0) fun v64x49 =>
  bind (extr v63x48 1) fun v65x50 =>
  ret (.nrm [s1, s2, s7, v64x49, v10x21, v65x50, s43, s44, s45]))) (c9 fun q51_0 q51_1 q51_2 q51_3 q51_4 q51_5 q51_6 q51_7 q51_8 =>
  ret (.nrm [q51_0, q51_1, q51_2, q51_3, q51_4, q51_5, q51_6, q51_7, q51_8])) noX retR)) (c9 fun q53_0 q53_1 q53_2 q53_3 q53_4 q53_5 q53_6 q53_7 q53_8 =>
  bind (uop .not q53_5) fun v90x54 =>
  bind (gate v90x54 false 5 (bind (Γ n_elderDirLen [q53_2]) fun v93x55 =>
  bind (lenS q53_3) fun v95x56 =>
  bind (bop .int .neq v93x55 v95x56) fun v96x57 =>
  ret [q53_2, v93x55, q53_3, v95x56, v96x57])) (c5 fun _ _ _ _ q58_4 =>
  bind (pick v90x54 (Value.bool true) q58_4) fun v97x59 =>
  bind (gate v97x59 false 5 (bind (Γ n_elderDirAll [q53_2]) fun v100x60 =>
  bind (Γ n_law07SameUsers [v100x60, q53_3]) fun v102x61 =>
  bind (uop .not v102x61) fun v103x62 =>
  ret [q53_2, v100x60, q53_3, v102x61, v103x62])) (c5 fun _ _ _ _ q63_4 =>
  bind (pick v97x59 (Value.bool true) q63_4) fun v104x64 =>
  cnd v104x64
  (ret (.ret (Value.bool false)))
  (bind (fa 1 q53_4) fun v106x65 =>
  bind (ld1 v106x65) fun v107x66 =>
  bind (bsl 1 2 (.string ⟨#[]⟩) [(0, 1, q53_0), (1, 1, v107x66)]) fun v108x67 =>
  bind (lenS v108x67) fun v109x68 =>
  jn (loopM (c10 (F_law07ElderPlays.l2 Γ)) [q53_0, q53_1, q53_2, q53_3, q53_6, q53_7, q53_8, v108x67, v109x68, (Value.int .i64 0)]) noN (xk 3 (c7 fun q84_0 q84_1 q84_2 q84_3 q84_4 q84_5 q84_6 =>
  bind (Γ n_elderDirList [q84_2, q84_1]) fun v138x85 =>
  bind (extr v138x85 0) fun v139x86 =>
  bind (extr v138x85 1) fun v140x87 =>
  bind (Γ n_ref07List [q84_3, q84_1]) fun v144x88 =>
  bind (extr v144x88 0) fun v145x89 =>
  bind (extr v144x88 1) fun v146x90 =>
  bind (bop .int .neq v140x87 v146x90) fun v149x91 =>
  bind (gate v149x91 false 4 (bind (Γ n_law07SameTexts [v139x86, v145x89]) fun v153x92 =>
  bind (uop .not v153x92) fun v154x93 =>
  ret [v139x86, v145x89, v153x92, v154x93])) (c4 fun _ _ _ q94_3 =>
  bind (pick v149x91 (Value.bool true) q94_3) fun v155x95 =>
  cnd v155x95
  (ret (.ret (Value.bool false)))
  (bind (bop .int .add q84_6 (Value.int .i64 1)) fun v156x96 =>
  ret (.nrm [q84_0, q84_1, q84_2, q84_3, q84_4, q84_5, v156x96])))) noX) retR)))) noX retR)
  (ret (.ext 0 []))

/-- interrex/interrexlaw07.ElderPlays -/
noncomputable def F_law07ElderPlays (Γ : Funs) (x0 x1 x2 : Value) : M Value :=
  bind (Γ n_law07Lives []) fun v24x1 =>
  bind (uop .not v24x1) fun v25x2 =>
  bind (gate v25x2 false 3 (bind (Γ n_law07Few [x0]) fun v28x3 =>
  bind (uop .not v28x3) fun v29x4 =>
  ret [x0, v28x3, v29x4])) (c3 fun _ _ q5_2 =>
  bind (pick v25x2 (Value.bool true) q5_2) fun v30x6 =>
  bind (gate v30x6 false 3 (bind (lenT x1) fun v33x7 =>
  bind (bop .int .gtr v33x7 (Value.int .i64 50)) fun v34x8 =>
  ret [x1, v33x7, v34x8])) (c3 fun _ _ q9_2 =>
  bind (pick v30x6 (Value.bool true) q9_2) fun v35x10 =>
  bind (gate v35x10 false 3 (bind (lenT x2) fun v38x11 =>
  bind (bop .int .gtr v38x11 (Value.int .i64 50)) fun v39x12 =>
  ret [x2, v38x11, v39x12])) (c3 fun _ _ q13_2 =>
  bind (pick v35x10 (Value.bool true) q13_2) fun v40x14 =>
  cnd v40x14
  (bind (Γ n_law07Lives []) fun v41x15 =>
  ret v41x15)
  (bind (Γ n_elderNew []) fun v42x16 =>
  bind (lenS x0) fun v44x17 =>
  jn (loopM (c7 (F_law07ElderPlays.l1 Γ)) [x1, x2, v42x16, (Value.slice none 0 0), x0, v44x17, (Value.int .i64 0)]) noN (xk 0 (c0 (ret (Value.bool true))) noX) ret))))

set_option maxRecDepth 100000 in
theorem rf_law07ElderPlays (Γ : Funs) (x0 x1 x2 : Value) : runF Try.prog Γ Try.f5 lv_law07ElderPlays [x0, x1, x2] = F_law07ElderPlays Γ x0 x1 x2 := by kernel_rfl

theorem run_law07ElderPlays {prim : FuncId → Option (List Value → M Value)} (hp : prim n_law07ElderPlays = none) (n : Nat) (x0 x1 x2 : Value) : run Try.prog prim lvs (n + 1) n_law07ElderPlays [x0, x1, x2] = F_law07ElderPlays (run Try.prog prim lvs n) x0 x1 x2 :=
  (run_fn hp (by kernel_rfl) Try.func5 (by kernel_rfl)).trans (rf_law07ElderPlays _ x0 x1 x2)

/-- interrex/interrexlaw10.GroupGone: a round. -/
noncomputable def F_law10GroupGone.l1 (Γ : Funs) (s1 s2 s7 s8 s36 s37 s38 : Value) : M Out :=
  bind (bop .int .lss s38 s37) fun v39x19 =>
  cnd v39x19
  (bind (ixa 3 s36 s38) fun v40x20 =>
  bind (ldA 3 v40x20) fun v41x21 =>
  bind (alc 1 (.agg #[.int .u8 0, .string ⟨#[]⟩, .string ⟨#[]⟩])) fun v10x22 =>
  bind (stA 3 v10x22 v41x21) fun _ =>
  bind (ldA 2 s8) fun v44x23 =>
  bind (ldA 3 v10x22) fun v45x24 =>
  bind (Γ n_law10Do [s7, v44x23, v45x24]) fun v46x25 =>
  bind (extr v46x25 0) fun v47x26 =>
  bind (extr v46x25 1) fun v48x27 =>
  bind (stA 2 s8 v47x26) fun _ =>
  bind (bop .int .add s38 (Value.int .i64 1)) fun v49x28 =>
  ret (.nrm [s1, s2, s7, s8, s36, s37, v49x28]))
  (ret (.ext 0 [s1, s2, s7]))

/-- interrex/interrexlaw10.GroupGone: a round. -/
noncomputable def F_law10GroupGone.l2 (Γ : Funs) (s1 s7 s78 s79 s80 : Value) : M Out :=
  bind (bop .int .lss s80 s79) fun v81x49 =>
  cnd v81x49
  (bind (ixa 1 s78 s80) fun v82x50 =>
  bind (ld1 v82x50) fun v83x51 =>
  bind (Γ n_groupGroupsOf [s7, s1]) fun v86x52 =>
  bind (Γ n_law10Has [v86x52, v83x51]) fun v88x53 =>
  bind (gate v88x53 true 5 (bind (Γ n_groupGroupsDrop [s7, v83x51]) fun v92x54 =>
  bind (bop .int .neq v92x54 (Value.int .i64 0)) fun v93x55 =>
  ret [s7, v83x51, v92x54, v93x55, v93x55])) (c5 fun _ _ _ _ q56_4 =>
  bind (gate q56_4 false 4 (bind (Γ n_groupGroupsMake [s7, v83x51]) fun v97x57 =>
  bind (bop .int .neq v97x57 (Value.int .i64 0)) fun v98x58 =>
  ret [s7, v83x51, v97x57, v98x58])) (c4 fun _ _ _ q59_3 =>
  bind (gate v88x53 true 1 (bind (pick q56_4 (Value.bool true) q59_3) fun v99x60 =>
  ret [v99x60])) (c1 fun q61_0 =>
  bind (pick v88x53 q61_0 (Value.bool false)) fun v100x62 =>
  cnd v100x62
  (ret (.ret (Value.bool false)))
  (bind (bop .int .add s80 (Value.int .i64 1)) fun v101x63 =>
  ret (.nrm [s1, s7, s78, s79, v101x63]))))))
  (ret (.ext 2 [s1, s7]))

/-- interrex/interrexlaw10.GroupGone: a round. -/
noncomputable def F_law10GroupGone.l3 (Γ : Funs) (s1 s7 s14 s114 s115 s116 : Value) : M Out :=
  bind (bop .int .lss s116 s115) fun v117x75 =>
  cnd v117x75
  (bind (ixa 1 s114 s116) fun v118x76 =>
  bind (ld1 v118x76) fun v119x77 =>
  bind (Γ n_groupGroupsJoin [s7, v119x77, s1]) fun v123x78 =>
  bind (bop .int .eql v123x78 (Value.int .i64 0)) fun v124x79 =>
  jn (cnd v124x79
  (bind (bop .int .add s14 (Value.int .i64 1)) fun v126x80 =>
  ret (.nrm [s1, s7, v126x80, s114, s115, s116]))
  (ret (.nrm [s1, s7, s14, s114, s115, s116]))) (c6 fun q81_0 q81_1 q81_2 q81_3 q81_4 q81_5 =>
  bind (bop .int .add q81_5 (Value.int .i64 1)) fun v127x82 =>
  ret (.nrm [q81_0, q81_1, q81_2, q81_3, q81_4, v127x82])) noX retR)
  (ret (.ext 4 [s1, s7, s14]))

/-- interrex/interrexlaw10.GroupGone -/
noncomputable def F_law10GroupGone (Γ : Funs) (x0 x1 x2 : Value) : M Value :=
  bind (Γ n_law10Lives []) fun v17x1 =>
  bind (uop .not v17x1) fun v18x2 =>
  bind (gate v18x2 false 3 (bind (Γ n_law10Few [x0]) fun v21x3 =>
  bind (uop .not v21x3) fun v22x4 =>
  ret [x0, v21x3, v22x4])) (c3 fun _ _ q5_2 =>
  bind (pick v18x2 (Value.bool true) q5_2) fun v23x6 =>
  bind (gate v23x6 false 3 (bind (lenT x1) fun v26x7 =>
  bind (bop .int .gtr v26x7 (Value.int .i64 50)) fun v27x8 =>
  ret [x1, v26x7, v27x8])) (c3 fun _ _ q9_2 =>
  bind (pick v23x6 (Value.bool true) q9_2) fun v28x10 =>
  bind (gate v28x10 false 3 (bind (lenT x2) fun v31x11 =>
  bind (bop .int .gtr v31x11 (Value.int .i64 50)) fun v32x12 =>
  ret [x2, v31x11, v32x12])) (c3 fun _ _ q13_2 =>
  bind (pick v28x10 (Value.bool true) q13_2) fun v33x14 =>
  cnd v33x14
  (bind (Γ n_law10Lives []) fun v34x15 =>
  ret v34x15)
  (bind (Γ n_groupNew []) fun v35x16 =>
  bind (alc 1 (.agg #[.slice none 0 0, .slice none 0 0])) fun v8x17 =>
  bind (lenS x0) fun v37x18 =>
  jn (loopM (c7 (F_law10GroupGone.l1 Γ)) [x1, x2, v35x16, v8x17, x0, v37x18, (Value.int .i64 0)]) noN (xk 0 (c3 fun q30_0 q30_1 q30_2 =>
  bind (Γ n_groupGroupsOf [q30_2, q30_0]) fun v52x31 =>
  bind (Γ n_groupGroupsRename [q30_2, q30_0, q30_1]) fun v56x32 =>
  bind (bop .int .eql v56x32 (Value.int .i64 0)) fun v57x33 =>
  jn (cnd v57x33
  (bind (Γ n_groupGroupsOf [q30_2, q30_1]) fun v60x34 =>
  bind (Γ n_law07SameTexts [v60x34, v52x31]) fun v62x35 =>
  bind (uop .not v62x35) fun v63x36 =>
  bind (gate v63x36 false 4 (bind (bop .str .neq q30_0 q30_1) fun v67x37 =>
  ret [q30_0, q30_1, v67x37, v67x37])) (c4 fun _ _ _ q38_3 =>
  bind (gate q38_3 true 5 (bind (Γ n_groupGroupsOf [q30_2, q30_0]) fun v71x39 =>
  bind (lenS v71x39) fun v72x40 =>
  bind (bop .int .neq v72x40 (Value.int .i64 0)) fun v73x41 =>
  ret [q30_2, q30_0, v71x39, v72x40, v73x41])) (c5 fun _ _ _ _ q42_4 =>
  bind (gate v63x36 false 1 (bind (pick q38_3 q42_4 (Value.bool false)) fun v74x43 =>
  ret [v74x43])) (c1 fun q44_0 =>
  bind (pick v63x36 (Value.bool true) q44_0) fun v75x45 =>
  cnd v75x45
  (ret (.ret (Value.bool false)))
  (ret (.nrm [q30_1, q30_2]))))))
  (ret (.nrm [q30_0, q30_2]))) (c2 fun q46_0 q46_1 =>
  bind (Γ n_groupGroupsAll [q46_1]) fun v78x47 =>
  bind (lenS v78x47) fun v79x48 =>
  jn (loopM (c5 (F_law10GroupGone.l2 Γ)) [q46_0, q46_1, v78x47, v79x48, (Value.int .i64 0)]) noN (xk 2 (c2 fun q65_0 q65_1 =>
  bind (Γ n_groupGroupsOf [q65_1, q65_0]) fun v104x66 =>
  bind (lenS v104x66) fun v105x67 =>
  bind (bop .int .neq v105x67 (Value.int .i64 0)) fun v106x68 =>
  bind (gate v106x68 false 4 (bind (Γ n_groupGroupsRemove [q65_1, q65_0]) fun v110x69 =>
  bind (bop .int .neq v110x69 (Value.int .i64 0)) fun v111x70 =>
  ret [q65_1, q65_0, v110x69, v111x70])) (c4 fun _ _ _ q71_3 =>
  bind (pick v106x68 (Value.bool true) q71_3) fun v112x72 =>
  cnd v112x72
  (ret (Value.bool false))
  (bind (Γ n_groupGroupsAll [q65_1]) fun v114x73 =>
  bind (lenS v114x73) fun v115x74 =>
  jn (loopM (c6 (F_law10GroupGone.l3 Γ)) [q65_0, q65_1, (Value.int .i64 0), v114x73, v115x74, (Value.int .i64 0)]) noN (xk 4 (c3 fun q85_0 q85_1 q85_2 =>
  bind (Γ n_groupGroupsRemove [q85_1, q85_0]) fun v130x86 =>
  bind (bop .int .eql v130x86 q85_2) fun v132x87 =>
  bind (gate v132x87 true 5 (bind (Γ n_groupGroupsOf [q85_1, q85_0]) fun v136x88 =>
  bind (lenS v136x88) fun v137x89 =>
  bind (bop .int .eql v137x89 (Value.int .i64 0)) fun v138x90 =>
  ret [q85_1, q85_0, v136x88, v137x89, v138x90])) (c5 fun _ _ _ _ q91_4 =>
  bind (pick v132x87 q91_4 (Value.bool false)) fun v139x92 =>
  ret v139x92)) noX) ret))) noX) ret) noX ret) noX) ret))))

set_option maxRecDepth 100000 in
theorem rf_law10GroupGone (Γ : Funs) (x0 x1 x2 : Value) : runF Try.prog Γ Try.f6 lv_law10GroupGone [x0, x1, x2] = F_law10GroupGone Γ x0 x1 x2 := by kernel_rfl

theorem run_law10GroupGone {prim : FuncId → Option (List Value → M Value)} (hp : prim n_law10GroupGone = none) (n : Nat) (x0 x1 x2 : Value) : run Try.prog prim lvs (n + 1) n_law10GroupGone [x0, x1, x2] = F_law10GroupGone (run Try.prog prim lvs n) x0 x1 x2 :=
  (run_fn hp (by kernel_rfl) Try.func6 (by kernel_rfl)).trans (rf_law10GroupGone _ x0 x1 x2)

/-- interrex/interrexlaw10.GroupPlays: a round. -/
noncomputable def F_law10GroupPlays.l2 (Γ : Funs) (s1 s5 s6 s30 s31 s32 s58 s59 s60 : Value) : M Out :=
  bind (bop .int .lss s60 s59) fun v61x39 =>
  cnd v61x39
  (bind (ixa 1 s58 s60) fun v62x40 =>
  bind (ld1 v62x40) fun v63x41 =>
  bind (Γ n_groupGroupsMembers [s5, v63x41]) fun v67x42 =>
  bind (extr v67x42 0) fun v68x43 =>
  bind (extr v67x42 1) fun v69x44 =>
  bind (ldA 2 s6) fun v71x45 =>
  bind (Γ n_ref10Members [v71x45, v63x41]) fun v73x46 =>
  bind (extr v73x46 0) fun v74x47 =>
  bind (extr v73x46 1) fun v75x48 =>
  bind (Γ n_law07SameTexts [v68x43, v74x47]) fun v78x49 =>
  bind (uop .not v78x49) fun v79x50 =>
  bind (gateV v79x50 false (ret v69x44)) fun v81x51 =>
  bind (gateV v79x50 false (ret v75x48)) fun v82x52 =>
  bind (gateV v79x50 false (bop .int .neq v81x51 v82x52)) fun v83x53 =>
  bind (pick v79x50 (Value.bool true) v83x53) fun v84x54 =>
  bind (gateV v84x54 false (ret s5)) fun v86x55 =>
  bind (gateV v84x54 false (ret v63x41)) fun v87x56 =>
  bind (gateV v84x54 false (ldA 2 s6)) fun v89x57 =>
  bind (gateV v84x54 false (ret v63x41)) fun v90x58 =>
  bind (gateV v84x54 false (Γ n_groupGroupsOf [v86x55, v87x56])) fun v88x59 =>
  bind (gateV v84x54 false (ldA 2 s6)) fun u_60 => same u_60 v89x57 <|
  bind (gateV v84x54 false (Γ n_ref10Of [v89x57, v90x58])) fun v91x61 =>
  bind (gateV v84x54 false (Γ n_law07SameTexts [v88x59, v91x61])) fun v92x62 =>
  bind (gateV v84x54 false (uop .not v92x62)) fun v93x63 =>
  bind (pick v84x54 (Value.bool true) v93x63) fun v94x64 =>
  cnd v94x64
  (ret (.ret (Value.bool false)))
  (bind (bop .int .add s60 (Value.int .i64 1)) fun v95x65 =>
  ret (.nrm [s1, s5, s6, s30, s31, s32, s58, s59, v95x65])))
  (ret (.ext 2 [s1, s5, s6, s30, s31, s32]))

/-- interrex/interrexlaw10.GroupPlays: a round. -/
noncomputable def F_law10GroupPlays.l1 (Γ : Funs) (s1 s5 s6 s30 s31 s32 : Value) : M Out :=
  bind (bop .int .lss s32 s31) fun v33x15 =>
  cnd v33x15
  (bind (ixa 3 s30 s32) fun v34x16 =>
  bind (ldA 3 v34x16) fun v35x17 =>
  bind (alc 1 (.agg #[.int .u8 0, .string ⟨#[]⟩, .string ⟨#[]⟩])) fun v8x18 =>
  bind (stA 3 v8x18 v35x17) fun _ =>
  bind (ldA 2 s6) fun v38x19 =>
  bind (ldA 3 v8x18) fun v39x20 =>
  bind (Γ n_law10Do [s5, v38x19, v39x20]) fun v40x21 =>
  bind (extr v40x21 0) fun v41x22 =>
  bind (extr v40x21 1) fun v42x23 =>
  bind (stA 2 s6 v41x22) fun _ =>
  bind (uop .not v42x23) fun v44x24 =>
  bind (gateV v44x24 false (ret s5)) fun v46x25 =>
  bind (gateV v44x24 false (fa 0 s6)) fun v48x26 =>
  bind (gateV v44x24 false (ld1 v48x26)) fun v49x27 =>
  bind (gateV v44x24 false (Γ n_groupGroupsAll [v46x25])) fun v47x28 =>
  bind (gateV v44x24 false (ld1 v48x26)) fun u_29 => same u_29 v49x27 <|
  bind (gateV v44x24 false (Γ n_law07SameTexts [v47x28, v49x27])) fun v50x30 =>
  bind (gateV v44x24 false (uop .not v50x30)) fun v51x31 =>
  bind (pick v44x24 (Value.bool true) v51x31) fun v52x32 =>
  cnd v52x32
  (ret (.ret (Value.bool false)))
  (bind (fa 1 v8x18) fun v54x33 =>
  bind (ld1 v54x33) fun v55x34 =>
  bind (fa 2 v8x18) fun v56x35 =>
  bind (ld1 v56x35) fun v57x36 =>
  bind (bsl 1 3 (.string ⟨#[]⟩) [(0, 1, s1), (1, 1, v55x34), (2, 1, v57x36)]) fun v58x37 =>
  bind (lenS v58x37) fun v59x38 =>
  jn (loopM (c9 (F_law10GroupPlays.l2 Γ)) [s1, s5, s6, s30, s31, s32, v58x37, v59x38, (Value.int .i64 0)]) noN (xk 2 (c6 fun q67_0 q67_1 q67_2 q67_3 q67_4 q67_5 =>
  bind (bop .int .add q67_5 (Value.int .i64 1)) fun v96x68 =>
  ret (.nrm [q67_0, q67_1, q67_2, q67_3, q67_4, v96x68])) noX) retR))
  (ret (.ext 0 []))

/-- interrex/interrexlaw10.GroupPlays -/
noncomputable def F_law10GroupPlays (Γ : Funs) (x0 x1 : Value) : M Value :=
  bind (Γ n_law10Lives []) fun v16x1 =>
  bind (uop .not v16x1) fun v17x2 =>
  bind (gate v17x2 false 3 (bind (Γ n_law10Few [x0]) fun v20x3 =>
  bind (uop .not v20x3) fun v21x4 =>
  ret [x0, v20x3, v21x4])) (c3 fun _ _ q5_2 =>
  bind (pick v17x2 (Value.bool true) q5_2) fun v22x6 =>
  bind (gate v22x6 false 3 (bind (lenT x1) fun v25x7 =>
  bind (bop .int .gtr v25x7 (Value.int .i64 50)) fun v26x8 =>
  ret [x1, v25x7, v26x8])) (c3 fun _ _ q9_2 =>
  bind (pick v22x6 (Value.bool true) q9_2) fun v27x10 =>
  cnd v27x10
  (bind (Γ n_law10Lives []) fun v28x11 =>
  ret v28x11)
  (bind (Γ n_groupNew []) fun v29x12 =>
  bind (alc 1 (.agg #[.slice none 0 0, .slice none 0 0])) fun v6x13 =>
  bind (lenS x0) fun v31x14 =>
  jn (loopM (c6 (F_law10GroupPlays.l1 Γ)) [x1, v29x12, v6x13, x0, v31x14, (Value.int .i64 0)]) noN (xk 0 (c0 (ret (Value.bool true))) noX) ret)))

set_option maxRecDepth 100000 in
theorem rf_law10GroupPlays (Γ : Funs) (x0 x1 : Value) : runF Try.prog Γ Try.f7 lv_law10GroupPlays [x0, x1] = F_law10GroupPlays Γ x0 x1 := by kernel_rfl

theorem run_law10GroupPlays {prim : FuncId → Option (List Value → M Value)} (hp : prim n_law10GroupPlays = none) (n : Nat) (x0 x1 : Value) : run Try.prog prim lvs (n + 1) n_law10GroupPlays [x0, x1] = F_law10GroupPlays (run Try.prog prim lvs n) x0 x1 :=
  (run_fn hp (by kernel_rfl) Try.func7 (by kernel_rfl)).trans (rf_law10GroupPlays _ x0 x1)

/-- interrex/interrexlaw10.GroupBoth: a round. -/
noncomputable def F_law10GroupBoth.l3 (Γ : Funs) (s3 s4 s6 s9 s10 s23 s24 s25 s46 s47 s48 s71 s72 s73 : Value) : M Out :=
  bind (bop .int .lss s73 s72) fun v74x46 =>
  cnd v74x46
  (bind (ixa 1 s71 s73) fun v75x47 =>
  bind (ld1 v75x47) fun v76x48 =>
  bind (Γ n_law10Has [s10, v76x48]) fun v79x49 =>
  bind (Γ n_groupGroupsOf [s3, v76x48]) fun v82x50 =>
  bind (Γ n_law10Has [v82x50, s9]) fun v84x51 =>
  bind (bop .bool .neq v79x49 v84x51) fun v85x52 =>
  cnd v85x52
  (ret (.ret (Value.bool false)))
  (bind (bop .int .add s73 (Value.int .i64 1)) fun v86x53 =>
  ret (.nrm [s3, s4, s6, s9, s10, s23, s24, s25, s46, s47, s48, s71, s72, v86x53])))
  (ret (.ext 4 [s3, s4, s6, s23, s24, s25, s46, s47, s48]))

/-- interrex/interrexlaw10.GroupBoth: a round. -/
noncomputable def F_law10GroupBoth.l2 (Γ : Funs) (s3 s4 s6 s23 s24 s25 s46 s47 s48 : Value) : M Out :=
  bind (bop .int .lss s48 s47) fun v49x28 =>
  cnd v49x28
  (bind (ixa 1 s46 s48) fun v50x29 =>
  bind (ld1 v50x29) fun v51x30 =>
  bind (Γ n_groupGroupsMembers [s3, v51x30]) fun v55x31 =>
  bind (extr v55x31 0) fun v56x32 =>
  bind (extr v55x31 1) fun v57x33 =>
  bind (bop .int .neq v57x33 (Value.int .i64 0)) fun v59x34 =>
  bind (gate v59x34 false 3 (bind (Γ n_law10Rises [v56x32]) fun v62x35 =>
  bind (uop .not v62x35) fun v63x36 =>
  ret [v56x32, v62x35, v63x36])) (c3 fun _ _ q37_2 =>
  bind (pick v59x34 (Value.bool true) q37_2) fun v64x38 =>
  cnd v64x38
  (ret (.ret (Value.bool false)))
  (bind (fa 1 s6) fun v66x39 =>
  bind (ld1 v66x39) fun v67x40 =>
  bind (fa 2 s6) fun v68x41 =>
  bind (ld1 v68x41) fun v69x42 =>
  bind (bsl 1 3 (.string ⟨#[]⟩) [(0, 1, v67x40), (1, 1, v69x42), (2, 1, (Value.string ⟨#[97, 110, 110]⟩))]) fun v70x43 =>
  bind (app 1 16 v56x32 v70x43) fun v71x44 =>
  bind (lenS v71x44) fun v72x45 =>
  jn (loopM (c14 (F_law10GroupBoth.l3 Γ)) [s3, s4, s6, v51x30, v56x32, s23, s24, s25, s46, s47, s48, v71x44, v72x45, (Value.int .i64 0)]) noN (xk 4 (c9 fun q55_0 q55_1 q55_2 q55_3 q55_4 q55_5 q55_6 q55_7 q55_8 =>
  bind (bop .int .add q55_8 (Value.int .i64 1)) fun v87x56 =>
  ret (.nrm [q55_0, q55_1, q55_2, q55_3, q55_4, q55_5, q55_6, q55_7, v87x56])) noX) retR)))
  (ret (.ext 2 [s3, s4, s23, s24, s25]))

/-- interrex/interrexlaw10.GroupBoth: a round. -/
noncomputable def F_law10GroupBoth.l1 (Γ : Funs) (s3 s4 s23 s24 s25 : Value) : M Out :=
  bind (bop .int .lss s25 s24) fun v26x11 =>
  cnd v26x11
  (bind (ixa 3 s23 s25) fun v27x12 =>
  bind (ldA 3 v27x12) fun v28x13 =>
  bind (alc 1 (.agg #[.int .u8 0, .string ⟨#[]⟩, .string ⟨#[]⟩])) fun v6x14 =>
  bind (stA 3 v6x14 v28x13) fun _ =>
  bind (ldA 2 s4) fun v31x15 =>
  bind (ldA 3 v6x14) fun v32x16 =>
  bind (Γ n_law10Do [s3, v31x15, v32x16]) fun v33x17 =>
  bind (extr v33x17 0) fun v34x18 =>
  bind (extr v33x17 1) fun v35x19 =>
  bind (stA 2 s4 v34x18) fun _ =>
  bind (Γ n_groupGroupsAll [s3]) fun v37x20 =>
  bind (lenS v37x20) fun v39x21 =>
  bind (bop .int .gtr v39x21 (Value.int .i64 6)) fun v40x22 =>
  bind (gate v40x22 false 3 (bind (Γ n_law10Rises [v37x20]) fun v43x23 =>
  bind (uop .not v43x23) fun v44x24 =>
  ret [v37x20, v43x23, v44x24])) (c3 fun _ _ q25_2 =>
  bind (pick v40x22 (Value.bool true) q25_2) fun v45x26 =>
  cnd v45x26
  (ret (.ret (Value.bool false)))
  (bind (lenS v37x20) fun v47x27 =>
  jn (loopM (c9 (F_law10GroupBoth.l2 Γ)) [s3, s4, v6x14, s23, s24, s25, v37x20, v47x27, (Value.int .i64 0)]) noN (xk 2 (c5 fun q59_0 q59_1 q59_2 q59_3 q59_4 =>
  bind (bop .int .add q59_4 (Value.int .i64 1)) fun v88x60 =>
  ret (.nrm [q59_0, q59_1, q59_2, q59_3, v88x60])) noX) retR)))
  (ret (.ext 0 []))

/-- interrex/interrexlaw10.GroupBoth -/
noncomputable def F_law10GroupBoth (Γ : Funs) (x0 : Value) : M Value :=
  bind (Γ n_law10Lives []) fun v14x1 =>
  bind (uop .not v14x1) fun v15x2 =>
  bind (gate v15x2 false 3 (bind (Γ n_law10Few [x0]) fun v18x3 =>
  bind (uop .not v18x3) fun v19x4 =>
  ret [x0, v18x3, v19x4])) (c3 fun _ _ q5_2 =>
  bind (pick v15x2 (Value.bool true) q5_2) fun v20x6 =>
  cnd v20x6
  (bind (Γ n_law10Lives []) fun v21x7 =>
  ret v21x7)
  (bind (Γ n_groupNew []) fun v22x8 =>
  bind (alc 1 (.agg #[.slice none 0 0, .slice none 0 0])) fun v4x9 =>
  bind (lenS x0) fun v24x10 =>
  jn (loopM (c5 (F_law10GroupBoth.l1 Γ)) [v22x8, v4x9, x0, v24x10, (Value.int .i64 0)]) noN (xk 0 (c0 (ret (Value.bool true))) noX) ret))

set_option maxRecDepth 100000 in
theorem rf_law10GroupBoth (Γ : Funs) (x0 : Value) : runF Try.prog Γ Try.f8 lv_law10GroupBoth [x0] = F_law10GroupBoth Γ x0 := by kernel_rfl

theorem run_law10GroupBoth {prim : FuncId → Option (List Value → M Value)} (hp : prim n_law10GroupBoth = none) (n : Nat) (x0 : Value) : run Try.prog prim lvs (n + 1) n_law10GroupBoth [x0] = F_law10GroupBoth (run Try.prog prim lvs n) x0 :=
  (run_fn hp (by kernel_rfl) Try.func8 (by kernel_rfl)).trans (rf_law10GroupBoth _ x0)

/-- interrex/interrexlaw07.lives -/
noncomputable def F_law07Lives (Γ : Funs) : M Value :=
  bind (Γ n_elderNew []) fun v6x1 =>
  bind (bop .ptr .eql v6x1 (Value.pointer none)) fun v8x2 =>
  cnd v8x2
  (ret (Value.bool false))
  (bind (Γ n_elderDirCreate [v6x1, (Value.string ⟨#[98, 111, 98]⟩), (Value.string ⟨#[49]⟩)]) fun v10x3 =>
  bind (Γ n_elderDirCreate [v6x1, (Value.string ⟨#[97, 110, 110]⟩), (Value.string ⟨#[50]⟩)]) fun v12x4 =>
  bind (Γ n_elderDirList [v6x1, (Value.string ⟨#[]⟩)]) fun v15x5 =>
  bind (extr v15x5 0) fun v16x6 =>
  bind (extr v15x5 1) fun v17x7 =>
  bind (bop .int .eql v10x3 (Value.int .i64 0)) fun v19x8 =>
  bind (gate v19x8 true 2 (bind (bop .int .eql v12x4 (Value.int .i64 0)) fun v22x9 =>
  ret [v12x4, v22x9])) (c2 fun _ q10_1 =>
  bind (pick v19x8 q10_1 (Value.bool false)) fun v23x11 =>
  bind (gate v23x11 true 2 (bind (bop .int .eql v17x7 (Value.int .i64 0)) fun v26x12 =>
  ret [v17x7, v26x12])) (c2 fun _ q13_1 =>
  bind (pick v23x11 q13_1 (Value.bool false)) fun v27x14 =>
  bind (gate v27x14 true 3 (bind (lenS v16x6) fun v30x15 =>
  bind (bop .int .eql v30x15 (Value.int .i64 2)) fun v31x16 =>
  ret [v16x6, v30x15, v31x16])) (c3 fun _ _ q17_2 =>
  bind (pick v27x14 q17_2 (Value.bool false)) fun v32x18 =>
  bind (gate v32x18 true 4 (bind (ixa 1 v16x6 (Value.int .i64 0)) fun v35x19 =>
  bind (ld1 v35x19) fun v36x20 =>
  bind (bop .str .eql v36x20 (Value.string ⟨#[97, 110, 110]⟩)) fun v37x21 =>
  ret [v16x6, v35x19, v36x20, v37x21])) (c4 fun _ _ _ q22_3 =>
  bind (pick v32x18 q22_3 (Value.bool false)) fun v38x23 =>
  ret v38x23)))))

set_option maxRecDepth 100000 in
theorem rf_law07Lives (Γ : Funs) : runF Try.prog Γ Try.f9 lv_law07Lives [] = F_law07Lives Γ  := by kernel_rfl

theorem run_law07Lives {prim : FuncId → Option (List Value → M Value)} (hp : prim n_law07Lives = none) (n : Nat) : run Try.prog prim lvs (n + 1) n_law07Lives [] = F_law07Lives (run Try.prog prim lvs n)  :=
  (run_fn hp (by kernel_rfl) Try.func9 (by kernel_rfl)).trans (rf_law07Lives _ )

/-- interrex/interrexlaw07.few: a round. -/
noncomputable def F_law07Few.l1 (Γ : Funs) (s0 s5 s6 s7 : Value) : M Out :=
  bind (bop .int .lss s7 s6) fun v8x2 =>
  cnd v8x2
  (bind (ixa 3 s5 s7) fun v9x3 =>
  bind (ldA 3 v9x3) fun v10x4 =>
  bind (alc 1 (.agg #[.int .u8 0, .string ⟨#[]⟩, .string ⟨#[]⟩])) fun v4x5 =>
  bind (stA 3 v4x5 v10x4) fun _ =>
  bind (fa 1 v4x5) fun v11x6 =>
  bind (ld1 v11x6) fun v12x7 =>
  bind (lenT v12x7) fun v13x8 =>
  bind (bop .int .gtr v13x8 (Value.int .i64 50)) fun v14x9 =>
  bind (gate v14x9 false 4 (bind (fa 2 v4x5) fun v16x10 =>
  bind (ld1 v16x10) fun v17x11 =>
  bind (lenT v17x11) fun v18x12 =>
  bind (bop .int .gtr v18x12 (Value.int .i64 50)) fun v19x13 =>
  ret [v16x10, v17x11, v18x12, v19x13])) (c4 fun _ _ _ q14_3 =>
  bind (pick v14x9 (Value.bool true) q14_3) fun v20x15 =>
  cnd v20x15
  (ret (.ret (Value.bool false)))
  (bind (bop .int .add s7 (Value.int .i64 1)) fun v21x16 =>
  ret (.nrm [s0, s5, s6, v21x16]))))
  (ret (.ext 0 [s0]))

/-- interrex/interrexlaw07.few -/
noncomputable def F_law07Few (Γ : Funs) (x0 : Value) : M Value :=
  bind (lenS x0) fun v6x1 =>
  jn (loopM (c4 (F_law07Few.l1 Γ)) [x0, x0, v6x1, (Value.int .i64 0)]) noN (xk 0 (c1 fun q18_0 =>
  bind (lenS q18_0) fun v23x19 =>
  bind (bop .int .leq v23x19 (Value.int .i64 60)) fun v24x20 =>
  ret v24x20) noX) ret

set_option maxRecDepth 100000 in
theorem rf_law07Few (Γ : Funs) (x0 : Value) : runF Try.prog Γ Try.f10 lv_law07Few [x0] = F_law07Few Γ x0 := by kernel_rfl

theorem run_law07Few {prim : FuncId → Option (List Value → M Value)} (hp : prim n_law07Few = none) (n : Nat) (x0 : Value) : run Try.prog prim lvs (n + 1) n_law07Few [x0] = F_law07Few (run Try.prog prim lvs n) x0 :=
  (run_fn hp (by kernel_rfl) Try.func10 (by kernel_rfl)).trans (rf_law07Few _ x0)

/-- interrex/elder.New -/
noncomputable def F_elderNew (Γ : Funs) : M Value :=
  bind (mkm) fun v1x1 =>
  bind (bld (.agg #[.map none]) [(0, 1, v1x1)]) fun v2x2 =>
  bind (alc 1 v2x2) fun v3x3 =>
  ret v3x3

set_option maxRecDepth 100000 in
theorem rf_elderNew (Γ : Funs) : runF Try.prog Γ Try.f11 lv_elderNew [] = F_elderNew Γ  := by kernel_rfl

theorem run_elderNew {prim : FuncId → Option (List Value → M Value)} (hp : prim n_elderNew = none) (n : Nat) : run Try.prog prim lvs (n + 1) n_elderNew [] = F_elderNew (run Try.prog prim lvs n)  :=
  (run_fn hp (by kernel_rfl) Try.func11 (by kernel_rfl)).trans (rf_elderNew _ )

/-- (*interrex/elder.Dir).Create -/
noncomputable def F_elderDirCreate (Γ : Funs) (x0 x1 x2 : Value) : M Value :=
  bind (Γ n_elderSum [x2]) fun v10x1 =>
  bind (Γ n_elderDirRoom [x0, x1]) fun v13x2 =>
  bind (bsl 1 2 .nilFunc [(0, 1, v10x1), (1, 1, v13x2)]) fun v14x3 =>
  bind (Γ n_elderCheck [x1, v14x3]) fun v15x4 =>
  bind (bop .int .eql v15x4 (Value.int .i64 0)) fun v17x5 =>
  jn (cnd v17x5
  (bind (nilc x0) fun v19x6 =>
  bind (fa 0 v19x6) fun v20x7 =>
  bind (ld1 v20x7) fun v21x8 =>
  bind (mup .str v21x8 x1 x2) fun _ =>
  ret (.nrm [v15x4]))
  (ret (.nrm [v15x4]))) (c1 fun q9_0 =>
  ret q9_0) noX ret

set_option maxRecDepth 100000 in
theorem rf_elderDirCreate (Γ : Funs) (x0 x1 x2 : Value) : runF Try.prog Γ Try.f12 lv_elderDirCreate [x0, x1, x2] = F_elderDirCreate Γ x0 x1 x2 := by kernel_rfl

theorem run_elderDirCreate {prim : FuncId → Option (List Value → M Value)} (hp : prim n_elderDirCreate = none) (n : Nat) (x0 x1 x2 : Value) : run Try.prog prim lvs (n + 1) n_elderDirCreate [x0, x1, x2] = F_elderDirCreate (run Try.prog prim lvs n) x0 x1 x2 :=
  (run_fn hp (by kernel_rfl) Try.func12 (by kernel_rfl)).trans (rf_elderDirCreate _ x0 x1 x2)

/-- (*interrex/elder.Dir).All: a round. -/
noncomputable def F_elderDirAll.l1 (Γ : Funs) (s0 s3 s7 s8 s9 : Value) : M Out :=
  bind (bop .int .lss s9 s8) fun v10x3 =>
  cnd v10x3
  (bind (ixa 1 s7 s9) fun v11x4 =>
  bind (ld1 v11x4) fun v12x5 =>
  bind (nilc s0) fun v16x6 =>
  bind (fa 0 v16x6) fun v17x7 =>
  bind (ld1 v17x7) fun v18x8 =>
  bind (lkp .str (.string ⟨#[]⟩) false v18x8 v12x5) fun v20x9 =>
  bind (bld (.agg #[.string ⟨#[]⟩, .string ⟨#[]⟩, .string ⟨#[]⟩, .bool false, .slice none 0 0]) [(0, 1, v12x5), (1, 1, v20x9)]) fun v21x10 =>
  bind (bsl 5 1 (.agg #[.string ⟨#[]⟩, .string ⟨#[]⟩, .string ⟨#[]⟩, .bool false, .slice none 0 0]) [(0, 5, v21x10)]) fun v22x11 =>
  bind (app 5 80 s3 v22x11) fun v23x12 =>
  bind (bop .int .add s9 (Value.int .i64 1)) fun v24x13 =>
  ret (.nrm [s0, v23x12, s7, s8, v24x13]))
  (ret (.ext 0 [s3]))

/-- (*interrex/elder.Dir).All -/
noncomputable def F_elderDirAll (Γ : Funs) (x0 : Value) : M Value :=
  bind (Γ n_elderDirNames [x0]) fun v7x1 =>
  bind (lenS v7x1) fun v8x2 =>
  jn (loopM (c5 (F_elderDirAll.l1 Γ)) [x0, (Value.slice none 0 0), v7x1, v8x2, (Value.int .i64 0)]) noN (xk 0 (c1 fun q15_0 =>
  ret q15_0) noX) ret

set_option maxRecDepth 100000 in
theorem rf_elderDirAll (Γ : Funs) (x0 : Value) : runF Try.prog Γ Try.f13 lv_elderDirAll [x0] = F_elderDirAll Γ x0 := by kernel_rfl

theorem run_elderDirAll {prim : FuncId → Option (List Value → M Value)} (hp : prim n_elderDirAll = none) (n : Nat) (x0 : Value) : run Try.prog prim lvs (n + 1) n_elderDirAll [x0] = F_elderDirAll (run Try.prog prim lvs n) x0 :=
  (run_fn hp (by kernel_rfl) Try.func13 (by kernel_rfl)).trans (rf_elderDirAll _ x0)

/-- (*interrex/elder.Dir).List -/
noncomputable def F_elderDirList (Γ : Funs) (x0 x1 : Value) : M Value :=
  bind (alc 1 x1) fun v3x1 =>
  bind (ld1 v3x1) fun v7x2 =>
  bind (Γ n_namePrefix [v7x2]) fun v8x3 =>
  bind (bop .int .neq v8x3 (Value.int .i64 0)) fun v10x4 =>
  cnd v10x4
  (ret (Value.tuple #[(Value.slice none 0 0), v8x3]))
  (bind (Γ n_elderDirNames [x0]) fun v13x5 =>
  bind (Γ n_slicesDeleteFuncstringString [v13x5, (Value.func (.func 47) #[] #[v3x1])]) fun v15x6 =>
  ret (Value.tuple #[v15x6, (Value.int .i64 0)]))

set_option maxRecDepth 100000 in
theorem rf_elderDirList (Γ : Funs) (x0 x1 : Value) : runF Try.prog Γ Try.f14 lv_elderDirList [x0, x1] = F_elderDirList Γ x0 x1 := by kernel_rfl

theorem run_elderDirList {prim : FuncId → Option (List Value → M Value)} (hp : prim n_elderDirList = none) (n : Nat) (x0 x1 : Value) : run Try.prog prim lvs (n + 1) n_elderDirList [x0, x1] = F_elderDirList (run Try.prog prim lvs n) x0 x1 :=
  (run_fn hp (by kernel_rfl) Try.func14 (by kernel_rfl)).trans (rf_elderDirList _ x0 x1)

/-- (*interrex/elder.Dir).Len -/
noncomputable def F_elderDirLen (Γ : Funs) (x0 : Value) : M Value :=
  bind (nilc x0) fun v4x1 =>
  bind (fa 0 v4x1) fun v5x2 =>
  bind (ld1 v5x2) fun v6x3 =>
  bind (lenM v6x3) fun v7x4 =>
  ret v7x4

set_option maxRecDepth 100000 in
theorem rf_elderDirLen (Γ : Funs) (x0 : Value) : runF Try.prog Γ Try.f15 lv_elderDirLen [x0] = F_elderDirLen Γ x0 := by kernel_rfl

theorem run_elderDirLen {prim : FuncId → Option (List Value → M Value)} (hp : prim n_elderDirLen = none) (n : Nat) (x0 : Value) : run Try.prog prim lvs (n + 1) n_elderDirLen [x0] = F_elderDirLen (run Try.prog prim lvs n) x0 :=
  (run_fn hp (by kernel_rfl) Try.func15 (by kernel_rfl)).trans (rf_elderDirLen _ x0)

/-- (*interrex/elder.Dir).Delete -/
noncomputable def F_elderDirDelete (Γ : Funs) (x0 x1 : Value) : M Value :=
  bind (Γ n_elderDirThere [x0, x1]) fun v9x1 =>
  bind (bsl 1 1 .nilFunc [(0, 1, v9x1)]) fun v10x2 =>
  bind (Γ n_elderCheck [x1, v10x2]) fun v11x3 =>
  bind (bop .int .eql v11x3 (Value.int .i64 0)) fun v13x4 =>
  jn (cnd v13x4
  (bind (nilc x0) fun v15x5 =>
  bind (fa 0 v15x5) fun v16x6 =>
  bind (ld1 v16x6) fun v17x7 =>
  bind (mde .str v17x7 x1) fun _ =>
  ret (.nrm [v11x3]))
  (ret (.nrm [v11x3]))) (c1 fun q8_0 =>
  ret q8_0) noX ret

set_option maxRecDepth 100000 in
theorem rf_elderDirDelete (Γ : Funs) (x0 x1 : Value) : runF Try.prog Γ Try.f16 lv_elderDirDelete [x0, x1] = F_elderDirDelete Γ x0 x1 := by kernel_rfl

theorem run_elderDirDelete {prim : FuncId → Option (List Value → M Value)} (hp : prim n_elderDirDelete = none) (n : Nat) (x0 x1 : Value) : run Try.prog prim lvs (n + 1) n_elderDirDelete [x0, x1] = F_elderDirDelete (run Try.prog prim lvs n) x0 x1 :=
  (run_fn hp (by kernel_rfl) Try.func16 (by kernel_rfl)).trans (rf_elderDirDelete _ x0 x1)

/-- (*interrex/elder.Dir).SetHash -/
noncomputable def F_elderDirSetHash (Γ : Funs) (x0 x1 x2 : Value) : M Value :=
  bind (Γ n_elderSum [x2]) fun v10x1 =>
  bind (Γ n_elderDirThere [x0, x1]) fun v13x2 =>
  bind (bsl 1 2 .nilFunc [(0, 1, v10x1), (1, 1, v13x2)]) fun v14x3 =>
  bind (Γ n_elderCheck [x1, v14x3]) fun v15x4 =>
  bind (bop .int .eql v15x4 (Value.int .i64 0)) fun v17x5 =>
  jn (cnd v17x5
  (bind (nilc x0) fun v19x6 =>
  bind (fa 0 v19x6) fun v20x7 =>
  bind (ld1 v20x7) fun v21x8 =>
  bind (mup .str v21x8 x1 x2) fun _ =>
  ret (.nrm [v15x4]))
  (ret (.nrm [v15x4]))) (c1 fun q9_0 =>
  ret q9_0) noX ret

set_option maxRecDepth 100000 in
theorem rf_elderDirSetHash (Γ : Funs) (x0 x1 x2 : Value) : runF Try.prog Γ Try.f17 lv_elderDirSetHash [x0, x1, x2] = F_elderDirSetHash Γ x0 x1 x2 := by kernel_rfl

theorem run_elderDirSetHash {prim : FuncId → Option (List Value → M Value)} (hp : prim n_elderDirSetHash = none) (n : Nat) (x0 x1 x2 : Value) : run Try.prog prim lvs (n + 1) n_elderDirSetHash [x0, x1, x2] = F_elderDirSetHash (run Try.prog prim lvs n) x0 x1 x2 :=
  (run_fn hp (by kernel_rfl) Try.func17 (by kernel_rfl)).trans (rf_elderDirSetHash _ x0 x1 x2)

/-- (*interrex/elder.Dir).Copy -/
noncomputable def F_elderDirCopy (Γ : Funs) (x0 : Value) : M Value :=
  bind (nilc x0) fun v4x1 =>
  bind (fa 0 v4x1) fun v5x2 =>
  bind (ld1 v5x2) fun v6x3 =>
  bind (Γ n_mapsCloneMapStringstringStringString [v6x3]) fun v7x4 =>
  bind (bld (.agg #[.map none]) [(0, 1, v7x4)]) fun v8x5 =>
  bind (alc 1 v8x5) fun v9x6 =>
  ret v9x6

set_option maxRecDepth 100000 in
theorem rf_elderDirCopy (Γ : Funs) (x0 : Value) : runF Try.prog Γ Try.f18 lv_elderDirCopy [x0] = F_elderDirCopy Γ x0 := by kernel_rfl

theorem run_elderDirCopy {prim : FuncId → Option (List Value → M Value)} (hp : prim n_elderDirCopy = none) (n : Nat) (x0 : Value) : run Try.prog prim lvs (n + 1) n_elderDirCopy [x0] = F_elderDirCopy (run Try.prog prim lvs n) x0 :=
  (run_fn hp (by kernel_rfl) Try.func18 (by kernel_rfl)).trans (rf_elderDirCopy _ x0)

/-- interrex/interrexlaw07.do -/
noncomputable def F_law07Do (Γ : Funs) (x0 x1 x2 : Value) : M Value :=
  bind (alc 1 x2) fun v5x1 =>
  bind (fa 0 v5x1) fun v14x2 =>
  bind (ld1 v14x2) fun v15x3 =>
  bind (bop .int .rem v15x3 (Value.int .u8 3)) fun v16x4 =>
  bind (bop .int .eql v16x4 (Value.int .u8 0)) fun v18x5 =>
  cnd v18x5
  (bind (fa 1 v5x1) fun v21x6 =>
  bind (ld1 v21x6) fun v22x7 =>
  bind (fa 2 v5x1) fun v23x8 =>
  bind (ld1 v23x8) fun v24x9 =>
  bind (Γ n_ref07Create [x1, v22x7, v24x9]) fun v25x10 =>
  bind (extr v25x10 0) fun v26x11 =>
  bind (extr v25x10 1) fun v27x12 =>
  bind (fa 1 v5x1) fun v30x13 =>
  bind (ld1 v30x13) fun v31x14 =>
  bind (fa 2 v5x1) fun v32x15 =>
  bind (ld1 v32x15) fun v33x16 =>
  bind (Γ n_elderDirCreate [x0, v31x14, v33x16]) fun v34x17 =>
  bind (bop .int .eql v34x17 v27x12) fun v36x18 =>
  ret (Value.tuple #[v26x11, v36x18]))
  (bind (bop .int .eql v16x4 (Value.int .u8 1)) fun v38x19 =>
  cnd v38x19
  (bind (fa 1 v5x1) fun v41x20 =>
  bind (ld1 v41x20) fun v42x21 =>
  bind (Γ n_ref07Delete [x1, v42x21]) fun v43x22 =>
  bind (extr v43x22 0) fun v44x23 =>
  bind (extr v43x22 1) fun v45x24 =>
  bind (fa 1 v5x1) fun v48x25 =>
  bind (ld1 v48x25) fun v49x26 =>
  bind (Γ n_elderDirDelete [x0, v49x26]) fun v50x27 =>
  bind (bop .int .eql v50x27 v45x24) fun v52x28 =>
  ret (Value.tuple #[v44x23, v52x28]))
  (bind (fa 1 v5x1) fun v55x29 =>
  bind (ld1 v55x29) fun v56x30 =>
  bind (fa 2 v5x1) fun v57x31 =>
  bind (ld1 v57x31) fun v58x32 =>
  bind (Γ n_ref07SetHash [x1, v56x30, v58x32]) fun v59x33 =>
  bind (extr v59x33 0) fun v60x34 =>
  bind (extr v59x33 1) fun v61x35 =>
  bind (fa 1 v5x1) fun v64x36 =>
  bind (ld1 v64x36) fun v65x37 =>
  bind (fa 2 v5x1) fun v66x38 =>
  bind (ld1 v66x38) fun v67x39 =>
  bind (Γ n_elderDirSetHash [x0, v65x37, v67x39]) fun v68x40 =>
  bind (bop .int .eql v68x40 v61x35) fun v70x41 =>
  ret (Value.tuple #[v60x34, v70x41])))

set_option maxRecDepth 100000 in
theorem rf_law07Do (Γ : Funs) (x0 x1 x2 : Value) : runF Try.prog Γ Try.f19 lv_law07Do [x0, x1, x2] = F_law07Do Γ x0 x1 x2 := by kernel_rfl

theorem run_law07Do {prim : FuncId → Option (List Value → M Value)} (hp : prim n_law07Do = none) (n : Nat) (x0 x1 x2 : Value) : run Try.prog prim lvs (n + 1) n_law07Do [x0, x1, x2] = F_law07Do (run Try.prog prim lvs n) x0 x1 x2 :=
  (run_fn hp (by kernel_rfl) Try.func19 (by kernel_rfl)).trans (rf_law07Do _ x0 x1 x2)

/-- interrex/interrexlaw07.SameUsers: a round. -/
noncomputable def F_law07SameUsers.l1 (Γ : Funs) (s0 s1 s12 s13 : Value) : M Out :=
  bind (bop .int .lss s13 s12) fun v14x5 =>
  cnd v14x5
  (bind (ixa 5 s0 s13) fun v18x6 =>
  bind (ldA 5 v18x6) fun v19x7 =>
  bind (ixa 5 s1 s13) fun v22x8 =>
  bind (ldA 5 v22x8) fun v23x9 =>
  bind (Γ n_ref06Same [v19x7, v23x9]) fun v24x10 =>
  bind (uop .not v24x10) fun v25x11 =>
  cnd v25x11
  (ret (.ret (Value.bool false)))
  (bind (bop .int .add s13 (Value.int .i64 1)) fun v26x12 =>
  ret (.nrm [s0, s1, s12, v26x12])))
  (ret (.ext 0 []))

/-- interrex/interrexlaw07.SameUsers -/
noncomputable def F_law07SameUsers (Γ : Funs) (x0 x1 : Value) : M Value :=
  bind (lenS x0) fun v7x1 =>
  bind (lenS x1) fun v9x2 =>
  bind (bop .int .neq v7x1 v9x2) fun v10x3 =>
  cnd v10x3
  (ret (Value.bool false))
  (bind (lenS x0) fun v12x4 =>
  jn (loopM (c4 (F_law07SameUsers.l1 Γ)) [x0, x1, v12x4, (Value.int .i64 0)]) noN (xk 0 (c0 (ret (Value.bool true))) noX) ret)

set_option maxRecDepth 100000 in
theorem rf_law07SameUsers (Γ : Funs) (x0 x1 : Value) : runF Try.prog Γ Try.f20 lv_law07SameUsers [x0, x1] = F_law07SameUsers Γ x0 x1 := by kernel_rfl

theorem run_law07SameUsers {prim : FuncId → Option (List Value → M Value)} (hp : prim n_law07SameUsers = none) (n : Nat) (x0 x1 : Value) : run Try.prog prim lvs (n + 1) n_law07SameUsers [x0, x1] = F_law07SameUsers (run Try.prog prim lvs n) x0 x1 :=
  (run_fn hp (by kernel_rfl) Try.func20 (by kernel_rfl)).trans (rf_law07SameUsers _ x0 x1)

/-- (*interrex/elder.Dir).Lookup -/
noncomputable def F_elderDirLookup (Γ : Funs) (x0 x1 : Value) : M Value :=
  bind (Γ n_elderDirThere [x0, x1]) fun v10x1 =>
  bind (bsl 1 1 .nilFunc [(0, 1, v10x1)]) fun v11x2 =>
  bind (Γ n_elderCheck [x1, v11x2]) fun v12x3 =>
  bind (bop .int .neq v12x3 (Value.int .i64 0)) fun v14x4 =>
  cnd v14x4
  (ret (Value.tuple #[(Value.string ⟨#[]⟩), v12x3]))
  (bind (nilc x0) fun v17x5 =>
  bind (fa 0 v17x5) fun v18x6 =>
  bind (ld1 v18x6) fun v19x7 =>
  bind (lkp .str (.string ⟨#[]⟩) false v19x7 x1) fun v21x8 =>
  ret (Value.tuple #[v21x8, (Value.int .i64 0)]))

set_option maxRecDepth 100000 in
theorem rf_elderDirLookup (Γ : Funs) (x0 x1 : Value) : runF Try.prog Γ Try.f21 lv_elderDirLookup [x0, x1] = F_elderDirLookup Γ x0 x1 := by kernel_rfl

theorem run_elderDirLookup {prim : FuncId → Option (List Value → M Value)} (hp : prim n_elderDirLookup = none) (n : Nat) (x0 x1 : Value) : run Try.prog prim lvs (n + 1) n_elderDirLookup [x0, x1] = F_elderDirLookup (run Try.prog prim lvs n) x0 x1 :=
  (run_fn hp (by kernel_rfl) Try.func21 (by kernel_rfl)).trans (rf_elderDirLookup _ x0 x1)

/-- interrex/interrexref07.Lookup -/
noncomputable def F_ref07Lookup (Γ : Funs) (x0 x1 : Value) : M Value :=
  bind (Γ n_ref05Name [x1]) fun v8x1 =>
  bind (uop .not v8x1) fun v9x2 =>
  cnd v9x2
  (ret (Value.tuple #[(Value.string ⟨#[]⟩), (Value.int .i64 10)]))
  (bind (Γ n_ref07Find [x0, x1]) fun v12x3 =>
  bind (bop .int .lss v12x3 (Value.int .i64 0)) fun v14x4 =>
  cnd v14x4
  (ret (Value.tuple #[(Value.string ⟨#[]⟩), (Value.int .i64 8)]))
  (bind (ixa 5 x0 v12x3) fun v17x5 =>
  bind (fa 1 v17x5) fun v18x6 =>
  bind (ld1 v18x6) fun v19x7 =>
  ret (Value.tuple #[v19x7, (Value.int .i64 0)])))

set_option maxRecDepth 100000 in
theorem rf_ref07Lookup (Γ : Funs) (x0 x1 : Value) : runF Try.prog Γ Try.f22 lv_ref07Lookup [x0, x1] = F_ref07Lookup Γ x0 x1 := by kernel_rfl

theorem run_ref07Lookup {prim : FuncId → Option (List Value → M Value)} (hp : prim n_ref07Lookup = none) (n : Nat) (x0 x1 : Value) : run Try.prog prim lvs (n + 1) n_ref07Lookup [x0, x1] = F_ref07Lookup (run Try.prog prim lvs n) x0 x1 :=
  (run_fn hp (by kernel_rfl) Try.func22 (by kernel_rfl)).trans (rf_ref07Lookup _ x0 x1)

/-- interrex/interrexref07.List: a round. -/
noncomputable def F_ref07List.l1 (Γ : Funs) (s1 s6 s12 s13 s14 : Value) : M Out :=
  bind (bop .int .lss s14 s13) fun v15x4 =>
  cnd v15x4
  (bind (ixa 5 s12 s14) fun v16x5 =>
  bind (ldA 5 v16x5) fun v17x6 =>
  bind (alc 1 (.agg #[.string ⟨#[]⟩, .string ⟨#[]⟩, .string ⟨#[]⟩, .bool false, .slice none 0 0])) fun v8x7 =>
  bind (stA 5 v8x7 v17x6) fun _ =>
  bind (fa 0 v8x7) fun v18x8 =>
  bind (ld1 v18x8) fun v19x9 =>
  bind (lenT v19x9) fun v20x10 =>
  bind (lenT s1) fun v22x11 =>
  bind (bop .int .geq v20x10 v22x11) fun v23x12 =>
  bind (gate v23x12 true 7 (bind (fa 0 v8x7) fun v25x13 =>
  bind (ld1 v25x13) fun v26x14 =>
  bind (lenT s1) fun v28x15 =>
  bind (sls v26x14 none (some v28x15)) fun v29x16 =>
  bind (bop .str .eql v29x16 s1) fun v31x17 =>
  ret [v25x13, v26x14, s1, v28x15, v29x16, s1, v31x17])) (c7 fun _ _ _ _ _ _ q18_6 =>
  bind (pick v23x12 q18_6 (Value.bool false)) fun v32x19 =>
  jn (cnd v32x19
  (bind (fa 0 v8x7) fun v34x20 =>
  bind (ld1 v34x20) fun v35x21 =>
  bind (bsl 1 1 (.string ⟨#[]⟩) [(0, 1, v35x21)]) fun v36x22 =>
  bind (app 1 16 s6 v36x22) fun v37x23 =>
  ret (.nrm [s1, v37x23, s12, s13, s14]))
  (ret (.nrm [s1, s6, s12, s13, s14]))) (c5 fun q24_0 q24_1 q24_2 q24_3 q24_4 =>
  bind (bop .int .add q24_4 (Value.int .i64 1)) fun v38x25 =>
  ret (.nrm [q24_0, q24_1, q24_2, q24_3, v38x25])) noX retR))
  (ret (.ext 0 [s6]))

/-- interrex/interrexref07.List -/
noncomputable def F_ref07List (Γ : Funs) (x0 x1 : Value) : M Value :=
  bind (Γ n_ref05Prefix [x1]) fun v10x1 =>
  bind (uop .not v10x1) fun v11x2 =>
  cnd v11x2
  (ret (Value.tuple #[(Value.slice none 0 0), (Value.int .i64 10)]))
  (bind (lenS x0) fun v13x3 =>
  jn (loopM (c5 (F_ref07List.l1 Γ)) [x1, (Value.slice none 0 0), x0, v13x3, (Value.int .i64 0)]) noN (xk 0 (c1 fun q28_0 =>
  ret (Value.tuple #[q28_0, (Value.int .i64 0)])) noX) ret)

set_option maxRecDepth 100000 in
theorem rf_ref07List (Γ : Funs) (x0 x1 : Value) : runF Try.prog Γ Try.f23 lv_ref07List [x0, x1] = F_ref07List Γ x0 x1 := by kernel_rfl

theorem run_ref07List {prim : FuncId → Option (List Value → M Value)} (hp : prim n_ref07List = none) (n : Nat) (x0 x1 : Value) : run Try.prog prim lvs (n + 1) n_ref07List [x0, x1] = F_ref07List (run Try.prog prim lvs n) x0 x1 :=
  (run_fn hp (by kernel_rfl) Try.func23 (by kernel_rfl)).trans (rf_ref07List _ x0 x1)

/-- interrex/interrexlaw07.SameTexts: a round. -/
noncomputable def F_law07SameTexts.l1 (Γ : Funs) (s0 s1 s12 s13 : Value) : M Out :=
  bind (bop .int .lss s13 s12) fun v14x5 =>
  cnd v14x5
  (bind (ixa 1 s0 s13) fun v18x6 =>
  bind (ld1 v18x6) fun v19x7 =>
  bind (ixa 1 s1 s13) fun v22x8 =>
  bind (ld1 v22x8) fun v23x9 =>
  bind (bop .str .neq v19x7 v23x9) fun v24x10 =>
  cnd v24x10
  (ret (.ret (Value.bool false)))
  (bind (bop .int .add s13 (Value.int .i64 1)) fun v25x11 =>
  ret (.nrm [s0, s1, s12, v25x11])))
  (ret (.ext 0 []))

/-- interrex/interrexlaw07.SameTexts -/
noncomputable def F_law07SameTexts (Γ : Funs) (x0 x1 : Value) : M Value :=
  bind (lenS x0) fun v7x1 =>
  bind (lenS x1) fun v9x2 =>
  bind (bop .int .neq v7x1 v9x2) fun v10x3 =>
  cnd v10x3
  (ret (Value.bool false))
  (bind (lenS x0) fun v12x4 =>
  jn (loopM (c4 (F_law07SameTexts.l1 Γ)) [x0, x1, v12x4, (Value.int .i64 0)]) noN (xk 0 (c0 (ret (Value.bool true))) noX) ret)

set_option maxRecDepth 100000 in
theorem rf_law07SameTexts (Γ : Funs) (x0 x1 : Value) : runF Try.prog Γ Try.f24 lv_law07SameTexts [x0, x1] = F_law07SameTexts Γ x0 x1 := by kernel_rfl

theorem run_law07SameTexts {prim : FuncId → Option (List Value → M Value)} (hp : prim n_law07SameTexts = none) (n : Nat) (x0 x1 : Value) : run Try.prog prim lvs (n + 1) n_law07SameTexts [x0, x1] = F_law07SameTexts (run Try.prog prim lvs n) x0 x1 :=
  (run_fn hp (by kernel_rfl) Try.func24 (by kernel_rfl)).trans (rf_law07SameTexts _ x0 x1)

/-- interrex/interrexlaw10.lives -/
noncomputable def F_law10Lives (Γ : Funs) : M Value :=
  bind (Γ n_groupNew []) fun v5x1 =>
  bind (bop .ptr .eql v5x1 (Value.pointer none)) fun v7x2 =>
  cnd v7x2
  (ret (Value.bool false))
  (bind (Γ n_groupGroupsMake [v5x1, (Value.string ⟨#[100, 101, 118]⟩)]) fun v9x3 =>
  bind (Γ n_groupGroupsJoin [v5x1, (Value.string ⟨#[100, 101, 118]⟩), (Value.string ⟨#[97, 110, 110]⟩)]) fun v11x4 =>
  bind (Γ n_groupGroupsOf [v5x1, (Value.string ⟨#[97, 110, 110]⟩)]) fun v13x5 =>
  bind (bop .int .eql v9x3 (Value.int .i64 0)) fun v15x6 =>
  bind (gate v15x6 true 2 (bind (bop .int .eql v11x4 (Value.int .i64 0)) fun v18x7 =>
  ret [v11x4, v18x7])) (c2 fun _ q8_1 =>
  bind (pick v15x6 q8_1 (Value.bool false)) fun v19x9 =>
  bind (gate v19x9 true 3 (bind (lenS v13x5) fun v22x10 =>
  bind (bop .int .eql v22x10 (Value.int .i64 1)) fun v23x11 =>
  ret [v13x5, v22x10, v23x11])) (c3 fun _ _ q12_2 =>
  bind (pick v19x9 q12_2 (Value.bool false)) fun v24x13 =>
  bind (gate v24x13 true 4 (bind (ixa 1 v13x5 (Value.int .i64 0)) fun v27x14 =>
  bind (ld1 v27x14) fun v28x15 =>
  bind (bop .str .eql v28x15 (Value.string ⟨#[100, 101, 118]⟩)) fun v29x16 =>
  ret [v13x5, v27x14, v28x15, v29x16])) (c4 fun _ _ _ q17_3 =>
  bind (pick v24x13 q17_3 (Value.bool false)) fun v30x18 =>
  ret v30x18))))

set_option maxRecDepth 100000 in
theorem rf_law10Lives (Γ : Funs) : runF Try.prog Γ Try.f25 lv_law10Lives [] = F_law10Lives Γ  := by kernel_rfl

theorem run_law10Lives {prim : FuncId → Option (List Value → M Value)} (hp : prim n_law10Lives = none) (n : Nat) : run Try.prog prim lvs (n + 1) n_law10Lives [] = F_law10Lives (run Try.prog prim lvs n)  :=
  (run_fn hp (by kernel_rfl) Try.func25 (by kernel_rfl)).trans (rf_law10Lives _ )

/-- interrex/interrexlaw10.few: a round. -/
noncomputable def F_law10Few.l1 (Γ : Funs) (s0 s5 s6 s7 : Value) : M Out :=
  bind (bop .int .lss s7 s6) fun v8x2 =>
  cnd v8x2
  (bind (ixa 3 s5 s7) fun v9x3 =>
  bind (ldA 3 v9x3) fun v10x4 =>
  bind (alc 1 (.agg #[.int .u8 0, .string ⟨#[]⟩, .string ⟨#[]⟩])) fun v4x5 =>
  bind (stA 3 v4x5 v10x4) fun _ =>
  bind (fa 1 v4x5) fun v11x6 =>
  bind (ld1 v11x6) fun v12x7 =>
  bind (lenT v12x7) fun v13x8 =>
  bind (bop .int .gtr v13x8 (Value.int .i64 50)) fun v14x9 =>
  bind (gate v14x9 false 4 (bind (fa 2 v4x5) fun v16x10 =>
  bind (ld1 v16x10) fun v17x11 =>
  bind (lenT v17x11) fun v18x12 =>
  bind (bop .int .gtr v18x12 (Value.int .i64 50)) fun v19x13 =>
  ret [v16x10, v17x11, v18x12, v19x13])) (c4 fun _ _ _ q14_3 =>
  bind (pick v14x9 (Value.bool true) q14_3) fun v20x15 =>
  cnd v20x15
  (ret (.ret (Value.bool false)))
  (bind (bop .int .add s7 (Value.int .i64 1)) fun v21x16 =>
  ret (.nrm [s0, s5, s6, v21x16]))))
  (ret (.ext 0 [s0]))

/-- interrex/interrexlaw10.few -/
noncomputable def F_law10Few (Γ : Funs) (x0 : Value) : M Value :=
  bind (lenS x0) fun v6x1 =>
  jn (loopM (c4 (F_law10Few.l1 Γ)) [x0, x0, v6x1, (Value.int .i64 0)]) noN (xk 0 (c1 fun q18_0 =>
  bind (lenS q18_0) fun v23x19 =>
  bind (bop .int .leq v23x19 (Value.int .i64 60)) fun v24x20 =>
  ret v24x20) noX) ret

set_option maxRecDepth 100000 in
theorem rf_law10Few (Γ : Funs) (x0 : Value) : runF Try.prog Γ Try.f26 lv_law10Few [x0] = F_law10Few Γ x0 := by kernel_rfl

theorem run_law10Few {prim : FuncId → Option (List Value → M Value)} (hp : prim n_law10Few = none) (n : Nat) (x0 : Value) : run Try.prog prim lvs (n + 1) n_law10Few [x0] = F_law10Few (run Try.prog prim lvs n) x0 :=
  (run_fn hp (by kernel_rfl) Try.func26 (by kernel_rfl)).trans (rf_law10Few _ x0)

/-- interrex/group.New -/
noncomputable def F_groupNew (Γ : Funs) : M Value :=
  bind (mkm) fun v1x1 =>
  bind (bld (.agg #[.map none]) [(0, 1, v1x1)]) fun v2x2 =>
  bind (alc 1 v2x2) fun v3x3 =>
  ret v3x3

set_option maxRecDepth 100000 in
theorem rf_groupNew (Γ : Funs) : runF Try.prog Γ Try.f27 lv_groupNew [] = F_groupNew Γ  := by kernel_rfl

theorem run_groupNew {prim : FuncId → Option (List Value → M Value)} (hp : prim n_groupNew = none) (n : Nat) : run Try.prog prim lvs (n + 1) n_groupNew [] = F_groupNew (run Try.prog prim lvs n)  :=
  (run_fn hp (by kernel_rfl) Try.func27 (by kernel_rfl)).trans (rf_groupNew _ )

/-- interrex/interrexlaw10.do -/
noncomputable def F_law10Do (Γ : Funs) (x0 x1 x2 : Value) : M Value :=
  bind (alc 1 x1) fun v4x1 =>
  bind (alc 1 x2) fun v5x2 =>
  bind (alc 1 (.agg #[.slice none 0 0, .slice none 0 0])) fun v6x3 =>
  bind (fa 0 v5x2) fun v21x4 =>
  bind (ld1 v21x4) fun v22x5 =>
  bind (bop .int .rem v22x5 (Value.int .u8 7)) fun v23x6 =>
  bind (bop .int .eql v23x6 (Value.int .u8 0)) fun v25x7 =>
  cnd v25x7
  (bind (ldA 2 v4x1) fun v27x8 =>
  bind (fa 1 v5x2) fun v28x9 =>
  bind (ld1 v28x9) fun v29x10 =>
  bind (Γ n_ref10Make [v27x8, v29x10]) fun v30x11 =>
  bind (extr v30x11 0) fun v31x12 =>
  bind (extr v30x11 1) fun v32x13 =>
  bind (alc 1 (.agg #[.slice none 0 0, .slice none 0 0])) fun v8x14 =>
  bind (stA 2 v8x14 v31x12) fun _ =>
  bind (ldA 2 v8x14) fun v33x15 =>
  bind (fa 1 v5x2) fun v35x16 =>
  bind (ld1 v35x16) fun v36x17 =>
  bind (Γ n_groupGroupsMake [x0, v36x17]) fun v37x18 =>
  bind (ldA 2 v8x14) fun u_19 => same u_19 v33x15 <|
  bind (bop .int .eql v37x18 v32x13) fun v39x20 =>
  bind (stA 2 v6x3 v33x15) fun _ =>
  bind (ldA 2 v6x3) fun vrx21 =>
  ret (Value.tuple #[vrx21, v39x20]))
  (bind (bop .int .eql v23x6 (Value.int .u8 1)) fun v41x22 =>
  cnd v41x22
  (bind (ldA 2 v4x1) fun v43x23 =>
  bind (fa 1 v5x2) fun v44x24 =>
  bind (ld1 v44x24) fun v45x25 =>
  bind (Γ n_ref10Drop [v43x23, v45x25]) fun v46x26 =>
  bind (extr v46x26 0) fun v47x27 =>
  bind (extr v46x26 1) fun v48x28 =>
  bind (alc 1 (.agg #[.slice none 0 0, .slice none 0 0])) fun v10x29 =>
  bind (stA 2 v10x29 v47x27) fun _ =>
  bind (ldA 2 v10x29) fun v49x30 =>
  bind (fa 1 v5x2) fun v51x31 =>
  bind (ld1 v51x31) fun v52x32 =>
  bind (Γ n_groupGroupsDrop [x0, v52x32]) fun v53x33 =>
  bind (ldA 2 v10x29) fun u_34 => same u_34 v49x30 <|
  bind (bop .int .eql v53x33 v48x28) fun v55x35 =>
  bind (stA 2 v6x3 v49x30) fun _ =>
  bind (ldA 2 v6x3) fun vrx36 =>
  ret (Value.tuple #[vrx36, v55x35]))
  (bind (bop .int .eql v23x6 (Value.int .u8 2)) fun v57x37 =>
  cnd v57x37
  (bind (ldA 2 v4x1) fun v59x38 =>
  bind (fa 1 v5x2) fun v60x39 =>
  bind (ld1 v60x39) fun v61x40 =>
  bind (fa 2 v5x2) fun v62x41 =>
  bind (ld1 v62x41) fun v63x42 =>
  bind (Γ n_ref10Join [v59x38, v61x40, v63x42]) fun v64x43 =>
  bind (extr v64x43 0) fun v65x44 =>
  bind (extr v64x43 1) fun v66x45 =>
  bind (alc 1 (.agg #[.slice none 0 0, .slice none 0 0])) fun v12x46 =>
  bind (stA 2 v12x46 v65x44) fun _ =>
  bind (ldA 2 v12x46) fun v67x47 =>
  bind (fa 1 v5x2) fun v69x48 =>
  bind (ld1 v69x48) fun v70x49 =>
  bind (fa 2 v5x2) fun v71x50 =>
  bind (ld1 v71x50) fun v72x51 =>
  bind (Γ n_groupGroupsJoin [x0, v70x49, v72x51]) fun v73x52 =>
  bind (ldA 2 v12x46) fun u_53 => same u_53 v67x47 <|
  bind (bop .int .eql v73x52 v66x45) fun v75x54 =>
  bind (stA 2 v6x3 v67x47) fun _ =>
  bind (ldA 2 v6x3) fun vrx55 =>
  ret (Value.tuple #[vrx55, v75x54]))
  (bind (bop .int .eql v23x6 (Value.int .u8 3)) fun v77x56 =>
  cnd v77x56
  (bind (ldA 2 v4x1) fun v79x57 =>
  bind (fa 1 v5x2) fun v80x58 =>
  bind (ld1 v80x58) fun v81x59 =>
  bind (fa 2 v5x2) fun v82x60 =>
  bind (ld1 v82x60) fun v83x61 =>
  bind (Γ n_ref10Leave [v79x57, v81x59, v83x61]) fun v84x62 =>
  bind (extr v84x62 0) fun v85x63 =>
  bind (extr v84x62 1) fun v86x64 =>
  bind (alc 1 (.agg #[.slice none 0 0, .slice none 0 0])) fun v14x65 =>
  bind (stA 2 v14x65 v85x63) fun _ =>
  bind (ldA 2 v14x65) fun v87x66 =>
  bind (fa 1 v5x2) fun v89x67 =>
  bind (ld1 v89x67) fun v90x68 =>
  bind (fa 2 v5x2) fun v91x69 =>
  bind (ld1 v91x69) fun v92x70 =>
  bind (Γ n_groupGroupsLeave [x0, v90x68, v92x70]) fun v93x71 =>
  bind (ldA 2 v14x65) fun u_72 => same u_72 v87x66 <|
  bind (bop .int .eql v93x71 v86x64) fun v95x73 =>
  bind (stA 2 v6x3 v87x66) fun _ =>
  bind (ldA 2 v6x3) fun vrx74 =>
  ret (Value.tuple #[vrx74, v95x73]))
  (bind (bop .int .eql v23x6 (Value.int .u8 4)) fun v97x75 =>
  cnd v97x75
  (bind (ldA 2 v4x1) fun v99x76 =>
  bind (fa 1 v5x2) fun v100x77 =>
  bind (ld1 v100x77) fun v101x78 =>
  bind (fa 2 v5x2) fun v102x79 =>
  bind (ld1 v102x79) fun v103x80 =>
  bind (Γ n_ref10Rename [v99x76, v101x78, v103x80]) fun v104x81 =>
  bind (extr v104x81 0) fun v105x82 =>
  bind (extr v104x81 1) fun v106x83 =>
  bind (alc 1 (.agg #[.slice none 0 0, .slice none 0 0])) fun v16x84 =>
  bind (stA 2 v16x84 v105x82) fun _ =>
  bind (ldA 2 v16x84) fun v107x85 =>
  bind (fa 1 v5x2) fun v109x86 =>
  bind (ld1 v109x86) fun v110x87 =>
  bind (fa 2 v5x2) fun v111x88 =>
  bind (ld1 v111x88) fun v112x89 =>
  bind (Γ n_groupGroupsRename [x0, v110x87, v112x89]) fun v113x90 =>
  bind (ldA 2 v16x84) fun u_91 => same u_91 v107x85 <|
  bind (bop .int .eql v113x90 v106x83) fun v115x92 =>
  bind (stA 2 v6x3 v107x85) fun _ =>
  bind (ldA 2 v6x3) fun vrx93 =>
  ret (Value.tuple #[vrx93, v115x92]))
  (bind (bop .int .eql v23x6 (Value.int .u8 5)) fun v117x94 =>
  cnd v117x94
  (bind (ldA 2 v4x1) fun v119x95 =>
  bind (fa 1 v5x2) fun v120x96 =>
  bind (ld1 v120x96) fun v121x97 =>
  bind (Γ n_ref10Remove [v119x95, v121x97]) fun v122x98 =>
  bind (extr v122x98 0) fun v123x99 =>
  bind (extr v122x98 1) fun v124x100 =>
  bind (alc 1 (.agg #[.slice none 0 0, .slice none 0 0])) fun v18x101 =>
  bind (stA 2 v18x101 v123x99) fun _ =>
  bind (ldA 2 v18x101) fun v125x102 =>
  bind (fa 1 v5x2) fun v127x103 =>
  bind (ld1 v127x103) fun v128x104 =>
  bind (Γ n_groupGroupsRemove [x0, v128x104]) fun v129x105 =>
  bind (ldA 2 v18x101) fun u_106 => same u_106 v125x102 <|
  bind (bop .int .eql v129x105 v124x100) fun v131x107 =>
  bind (stA 2 v6x3 v125x102) fun _ =>
  bind (ldA 2 v6x3) fun vrx108 =>
  ret (Value.tuple #[vrx108, v131x107]))
  (bind (Γ n_groupGroupsCopy [x0]) fun v133x109 =>
  bind (Γ n_groupGroupsMake [v133x109, (Value.string ⟨#[100, 101, 118]⟩)]) fun v135x110 =>
  bind (fa 2 v5x2) fun v137x111 =>
  bind (ld1 v137x111) fun v138x112 =>
  bind (Γ n_groupGroupsJoin [v133x109, (Value.string ⟨#[100, 101, 118]⟩), v138x112]) fun v139x113 =>
  bind (fa 1 v5x2) fun v141x114 =>
  bind (ld1 v141x114) fun v142x115 =>
  bind (Γ n_groupGroupsDrop [v133x109, v142x115]) fun v143x116 =>
  bind (ldA 2 v4x1) fun v144x117 =>
  bind (stA 2 v6x3 v144x117) fun _ =>
  bind (ldA 2 v6x3) fun vrx118 =>
  ret (Value.tuple #[vrx118, (Value.bool true)])))))))

set_option maxRecDepth 100000 in
theorem rf_law10Do (Γ : Funs) (x0 x1 x2 : Value) : runF Try.prog Γ Try.f28 lv_law10Do [x0, x1, x2] = F_law10Do Γ x0 x1 x2 := by kernel_rfl

theorem run_law10Do {prim : FuncId → Option (List Value → M Value)} (hp : prim n_law10Do = none) (n : Nat) (x0 x1 x2 : Value) : run Try.prog prim lvs (n + 1) n_law10Do [x0, x1, x2] = F_law10Do (run Try.prog prim lvs n) x0 x1 x2 :=
  (run_fn hp (by kernel_rfl) Try.func28 (by kernel_rfl)).trans (rf_law10Do _ x0 x1 x2)

/-- (*interrex/group.Groups).Of -/
noncomputable def F_groupGroupsOf (Γ : Funs) (x0 x1 : Value) : M Value :=
  bind (alc 1 x0) fun v2x1 =>
  bind (alc 1 x1) fun v3x2 =>
  bind (ld1 v2x1) fun v5x3 =>
  bind (Γ n_groupGroupsAll [v5x3]) fun v6x4 =>
  bind (Γ n_slicesDeleteFuncstringString [v6x4, (Value.func (.func 66) #[] #[v2x1, v3x2])]) fun v8x5 =>
  ret v8x5

set_option maxRecDepth 100000 in
theorem rf_groupGroupsOf (Γ : Funs) (x0 x1 : Value) : runF Try.prog Γ Try.f29 lv_groupGroupsOf [x0, x1] = F_groupGroupsOf Γ x0 x1 := by kernel_rfl

theorem run_groupGroupsOf {prim : FuncId → Option (List Value → M Value)} (hp : prim n_groupGroupsOf = none) (n : Nat) (x0 x1 : Value) : run Try.prog prim lvs (n + 1) n_groupGroupsOf [x0, x1] = F_groupGroupsOf (run Try.prog prim lvs n) x0 x1 :=
  (run_fn hp (by kernel_rfl) Try.func29 (by kernel_rfl)).trans (rf_groupGroupsOf _ x0 x1)

/-- (*interrex/group.Groups).Rename: a round. -/
noncomputable def F_groupGroupsRename.l1 (Γ : Funs) (s0 s1 s2 s26 s27 s28 : Value) : M Out :=
  bind (bop .int .lss s28 s27) fun v29x10 =>
  cnd v29x10
  (bind (ixa 1 s26 s28) fun v30x11 =>
  bind (ld1 v30x11) fun v31x12 =>
  bind (nilc s0) fun v33x13 =>
  bind (fa 0 v33x13) fun v34x14 =>
  bind (ld1 v34x14) fun v35x15 =>
  bind (lkp .str (.map none) false v35x15 v31x12) fun v37x16 =>
  bind (mde .str v37x16 s1) fun _ =>
  bind (nilc s0) fun v40x17 =>
  bind (fa 0 v40x17) fun v41x18 =>
  bind (ld1 v41x18) fun v42x19 =>
  bind (lkp .str (.map none) false v42x19 v31x12) fun v44x20 =>
  bind (bld (.agg #[]) []) fun v46x21 =>
  bind (mup .str v44x20 s2 v46x21) fun _ =>
  bind (bop .int .add s28 (Value.int .i64 1)) fun v47x22 =>
  ret (.nrm [s0, s1, s2, s26, s27, v47x22]))
  (ret (.ext 0 []))

/-- (*interrex/group.Groups).Rename -/
noncomputable def F_groupGroupsRename (Γ : Funs) (x0 x1 x2 : Value) : M Value :=
  bind (bsl 1 1 (.string ⟨#[]⟩) [(0, 1, x2)]) fun v11x1 =>
  bind (Γ n_groupNames [v11x1]) fun v12x2 =>
  bind (bop .int .neq v12x2 (Value.int .i64 0)) fun v14x3 =>
  cnd v14x3
  (ret v12x2)
  (bind (bop .str .eql x1 x2) fun v18x4 =>
  cnd v18x4
  (ret (Value.int .i64 0))
  (bind (Γ n_groupGroupsOf [x0, x2]) fun v21x5 =>
  bind (lenS v21x5) fun v22x6 =>
  bind (bop .int .gtr v22x6 (Value.int .i64 0)) fun v23x7 =>
  cnd v23x7
  (ret (Value.int .i64 9))
  (bind (Γ n_groupGroupsOf [x0, x1]) fun v26x8 =>
  bind (lenS v26x8) fun v27x9 =>
  jn (loopM (c6 (F_groupGroupsRename.l1 Γ)) [x0, x1, x2, v26x8, v27x9, (Value.int .i64 0)]) noN (xk 0 (c0 (ret (Value.int .i64 0))) noX) ret)))

set_option maxRecDepth 100000 in
theorem rf_groupGroupsRename (Γ : Funs) (x0 x1 x2 : Value) : runF Try.prog Γ Try.f30 lv_groupGroupsRename [x0, x1, x2] = F_groupGroupsRename Γ x0 x1 x2 := by kernel_rfl

theorem run_groupGroupsRename {prim : FuncId → Option (List Value → M Value)} (hp : prim n_groupGroupsRename = none) (n : Nat) (x0 x1 x2 : Value) : run Try.prog prim lvs (n + 1) n_groupGroupsRename [x0, x1, x2] = F_groupGroupsRename (run Try.prog prim lvs n) x0 x1 x2 :=
  (run_fn hp (by kernel_rfl) Try.func30 (by kernel_rfl)).trans (rf_groupGroupsRename _ x0 x1 x2)

/-- (*interrex/group.Groups).All -/
noncomputable def F_groupGroupsAll (Γ : Funs) (x0 : Value) : M Value :=
  bind (nilc x0) fun v4x1 =>
  bind (fa 0 v4x1) fun v5x2 =>
  bind (ld1 v5x2) fun v6x3 =>
  bind (Γ n_groupRisingGroupSet [v6x3]) fun v7x4 =>
  ret v7x4

set_option maxRecDepth 100000 in
theorem rf_groupGroupsAll (Γ : Funs) (x0 : Value) : runF Try.prog Γ Try.f31 lv_groupGroupsAll [x0] = F_groupGroupsAll Γ x0 := by kernel_rfl

theorem run_groupGroupsAll {prim : FuncId → Option (List Value → M Value)} (hp : prim n_groupGroupsAll = none) (n : Nat) (x0 : Value) : run Try.prog prim lvs (n + 1) n_groupGroupsAll [x0] = F_groupGroupsAll (run Try.prog prim lvs n) x0 :=
  (run_fn hp (by kernel_rfl) Try.func31 (by kernel_rfl)).trans (rf_groupGroupsAll _ x0)

/-- interrex/interrexlaw10.has: a round. -/
noncomputable def F_law10Has.l1 (Γ : Funs) (s1 s7 s8 s9 : Value) : M Out :=
  bind (bop .int .lss s9 s8) fun v10x2 =>
  cnd v10x2
  (bind (ixa 1 s7 s9) fun v11x3 =>
  bind (ld1 v11x3) fun v12x4 =>
  bind (bop .str .eql v12x4 s1) fun v15x5 =>
  cnd v15x5
  (ret (.ret (Value.bool true)))
  (bind (bop .int .add s9 (Value.int .i64 1)) fun v16x6 =>
  ret (.nrm [s1, s7, s8, v16x6])))
  (ret (.ext 0 []))

/-- interrex/interrexlaw10.has -/
noncomputable def F_law10Has (Γ : Funs) (x0 x1 : Value) : M Value :=
  bind (lenS x0) fun v8x1 =>
  jn (loopM (c4 (F_law10Has.l1 Γ)) [x1, x0, v8x1, (Value.int .i64 0)]) noN (xk 0 (c0 (ret (Value.bool false))) noX) ret

set_option maxRecDepth 100000 in
theorem rf_law10Has (Γ : Funs) (x0 x1 : Value) : runF Try.prog Γ Try.f32 lv_law10Has [x0, x1] = F_law10Has Γ x0 x1 := by kernel_rfl

theorem run_law10Has {prim : FuncId → Option (List Value → M Value)} (hp : prim n_law10Has = none) (n : Nat) (x0 x1 : Value) : run Try.prog prim lvs (n + 1) n_law10Has [x0, x1] = F_law10Has (run Try.prog prim lvs n) x0 x1 :=
  (run_fn hp (by kernel_rfl) Try.func32 (by kernel_rfl)).trans (rf_law10Has _ x0 x1)

/-- (*interrex/group.Groups).Drop -/
noncomputable def F_groupGroupsDrop (Γ : Funs) (x0 x1 : Value) : M Value :=
  bind (Γ n_groupGroupsFind [x0, x1, (Value.slice none 0 0)]) fun v10x1 =>
  bind (extr v10x1 0) fun v11x2 =>
  bind (extr v10x1 1) fun v12x3 =>
  bind (bop .int .eql v12x3 (Value.int .i64 0)) fun v14x4 =>
  jn (cnd v14x4
  (bind (nilc x0) fun v16x5 =>
  bind (fa 0 v16x5) fun v17x6 =>
  bind (ld1 v17x6) fun v18x7 =>
  bind (mde .str v18x7 x1) fun _ =>
  ret (.nrm [v12x3]))
  (ret (.nrm [v12x3]))) (c1 fun q8_0 =>
  ret q8_0) noX ret

set_option maxRecDepth 100000 in
theorem rf_groupGroupsDrop (Γ : Funs) (x0 x1 : Value) : runF Try.prog Γ Try.f33 lv_groupGroupsDrop [x0, x1] = F_groupGroupsDrop Γ x0 x1 := by kernel_rfl

theorem run_groupGroupsDrop {prim : FuncId → Option (List Value → M Value)} (hp : prim n_groupGroupsDrop = none) (n : Nat) (x0 x1 : Value) : run Try.prog prim lvs (n + 1) n_groupGroupsDrop [x0, x1] = F_groupGroupsDrop (run Try.prog prim lvs n) x0 x1 :=
  (run_fn hp (by kernel_rfl) Try.func33 (by kernel_rfl)).trans (rf_groupGroupsDrop _ x0 x1)

/-- (*interrex/group.Groups).Make -/
noncomputable def F_groupGroupsMake (Γ : Funs) (x0 x1 : Value) : M Value :=
  bind (Γ n_groupGroupsFind [x0, x1, (Value.slice none 0 0)]) fun v10x1 =>
  bind (extr v10x1 0) fun v11x2 =>
  bind (extr v10x1 1) fun v12x3 =>
  bind (bop .int .eql v12x3 (Value.int .i64 0)) fun v15x4 =>
  cnd v15x4
  (ret (Value.int .i64 9))
  (bind (bop .int .neq v12x3 (Value.int .i64 8)) fun v18x5 =>
  cnd v18x5
  (ret v12x3)
  (bind (nilc x0) fun v22x6 =>
  bind (fa 0 v22x6) fun v23x7 =>
  bind (ld1 v23x7) fun v24x8 =>
  bind (lenM v24x8) fun v25x9 =>
  bind (bop .int .geq v25x9 (Value.int .i64 6)) fun v26x10 =>
  cnd v26x10
  (ret (Value.int .i64 7))
  (bind (nilc x0) fun v28x11 =>
  bind (fa 0 v28x11) fun v29x12 =>
  bind (ld1 v29x12) fun v30x13 =>
  bind (mkm) fun v32x14 =>
  bind (mup .str v30x13 x1 v32x14) fun _ =>
  ret (Value.int .i64 0))))

set_option maxRecDepth 100000 in
theorem rf_groupGroupsMake (Γ : Funs) (x0 x1 : Value) : runF Try.prog Γ Try.f34 lv_groupGroupsMake [x0, x1] = F_groupGroupsMake Γ x0 x1 := by kernel_rfl

theorem run_groupGroupsMake {prim : FuncId → Option (List Value → M Value)} (hp : prim n_groupGroupsMake = none) (n : Nat) (x0 x1 : Value) : run Try.prog prim lvs (n + 1) n_groupGroupsMake [x0, x1] = F_groupGroupsMake (run Try.prog prim lvs n) x0 x1 :=
  (run_fn hp (by kernel_rfl) Try.func34 (by kernel_rfl)).trans (rf_groupGroupsMake _ x0 x1)

/-- (*interrex/group.Groups).Remove: a round. -/
noncomputable def F_groupGroupsRemove.l1 (Γ : Funs) (s0 s1 s5 s11 s12 s13 : Value) : M Out :=
  bind (bop .int .lss s13 s12) fun v14x3 =>
  cnd v14x3
  (bind (ixa 1 s11 s13) fun v15x4 =>
  bind (ld1 v15x4) fun v16x5 =>
  bind (nilc s0) fun v18x6 =>
  bind (fa 0 v18x6) fun v19x7 =>
  bind (ld1 v19x7) fun v20x8 =>
  bind (lkp .str (.map none) false v20x8 v16x5) fun v22x9 =>
  bind (mde .str v22x9 s1) fun _ =>
  bind (bop .int .add s13 (Value.int .i64 1)) fun v24x10 =>
  ret (.nrm [s0, s1, s5, s11, s12, v24x10]))
  (ret (.ext 0 [s5]))

/-- (*interrex/group.Groups).Remove -/
noncomputable def F_groupGroupsRemove (Γ : Funs) (x0 x1 : Value) : M Value :=
  bind (Γ n_groupGroupsOf [x0, x1]) fun v10x1 =>
  bind (lenS v10x1) fun v12x2 =>
  jn (loopM (c6 (F_groupGroupsRemove.l1 Γ)) [x0, x1, v10x1, v10x1, v12x2, (Value.int .i64 0)]) noN (xk 0 (c1 fun q12_0 =>
  bind (lenS q12_0) fun v26x13 =>
  ret v26x13) noX) ret

set_option maxRecDepth 100000 in
theorem rf_groupGroupsRemove (Γ : Funs) (x0 x1 : Value) : runF Try.prog Γ Try.f35 lv_groupGroupsRemove [x0, x1] = F_groupGroupsRemove Γ x0 x1 := by kernel_rfl

theorem run_groupGroupsRemove {prim : FuncId → Option (List Value → M Value)} (hp : prim n_groupGroupsRemove = none) (n : Nat) (x0 x1 : Value) : run Try.prog prim lvs (n + 1) n_groupGroupsRemove [x0, x1] = F_groupGroupsRemove (run Try.prog prim lvs n) x0 x1 :=
  (run_fn hp (by kernel_rfl) Try.func35 (by kernel_rfl)).trans (rf_groupGroupsRemove _ x0 x1)

/-- (*interrex/group.Groups).Join -/
noncomputable def F_groupGroupsJoin (Γ : Funs) (x0 x1 x2 : Value) : M Value :=
  bind (bsl 1 1 (.string ⟨#[]⟩) [(0, 1, x2)]) fun v15x1 =>
  bind (Γ n_groupGroupsFind [x0, x1, v15x1]) fun v16x2 =>
  bind (extr v16x2 0) fun v17x3 =>
  bind (extr v16x2 1) fun v18x4 =>
  bind (bop .int .neq v18x4 (Value.int .i64 0)) fun v20x5 =>
  cnd v20x5
  (ret v18x4)
  (bind (lkp .str (.agg #[]) true v17x3 x2) fun v25x6 =>
  bind (extr v25x6 0) fun v26x7 =>
  bind (extr v25x6 1) fun v27x8 =>
  bind (alc 1 (.agg #[])) fun v9x9 =>
  bind (stA 0 v9x9 v26x7) fun _ =>
  cnd v27x8
  (ret (Value.int .i64 9))
  (bind (bld (.agg #[]) []) fun v31x10 =>
  bind (mup .str v17x3 x2 v31x10) fun _ =>
  ret (Value.int .i64 0)))

set_option maxRecDepth 100000 in
theorem rf_groupGroupsJoin (Γ : Funs) (x0 x1 x2 : Value) : runF Try.prog Γ Try.f36 lv_groupGroupsJoin [x0, x1, x2] = F_groupGroupsJoin Γ x0 x1 x2 := by kernel_rfl

theorem run_groupGroupsJoin {prim : FuncId → Option (List Value → M Value)} (hp : prim n_groupGroupsJoin = none) (n : Nat) (x0 x1 x2 : Value) : run Try.prog prim lvs (n + 1) n_groupGroupsJoin [x0, x1, x2] = F_groupGroupsJoin (run Try.prog prim lvs n) x0 x1 x2 :=
  (run_fn hp (by kernel_rfl) Try.func36 (by kernel_rfl)).trans (rf_groupGroupsJoin _ x0 x1 x2)

/-- (*interrex/group.Groups).Members -/
noncomputable def F_groupGroupsMembers (Γ : Funs) (x0 x1 : Value) : M Value :=
  bind (Γ n_groupGroupsFind [x0, x1, (Value.slice none 0 0)]) fun v11x1 =>
  bind (extr v11x1 0) fun v12x2 =>
  bind (extr v11x1 1) fun v13x3 =>
  bind (bop .int .neq v13x3 (Value.int .i64 0)) fun v15x4 =>
  cnd v15x4
  (ret (Value.tuple #[(Value.slice none 0 0), v13x3]))
  (bind (Γ n_groupRisingStruct [v12x2]) fun v18x5 =>
  ret (Value.tuple #[v18x5, (Value.int .i64 0)]))

set_option maxRecDepth 100000 in
theorem rf_groupGroupsMembers (Γ : Funs) (x0 x1 : Value) : runF Try.prog Γ Try.f37 lv_groupGroupsMembers [x0, x1] = F_groupGroupsMembers Γ x0 x1 := by kernel_rfl

theorem run_groupGroupsMembers {prim : FuncId → Option (List Value → M Value)} (hp : prim n_groupGroupsMembers = none) (n : Nat) (x0 x1 : Value) : run Try.prog prim lvs (n + 1) n_groupGroupsMembers [x0, x1] = F_groupGroupsMembers (run Try.prog prim lvs n) x0 x1 :=
  (run_fn hp (by kernel_rfl) Try.func37 (by kernel_rfl)).trans (rf_groupGroupsMembers _ x0 x1)

/-- interrex/interrexref10.Members: a round. -/
noncomputable def F_ref10Members.l1 (Γ : Funs) (s1 s6 s18 s19 s20 : Value) : M Out :=
  bind (bop .int .lss s20 s19) fun v21x11 =>
  cnd v21x11
  (bind (ixa 2 s18 s20) fun v22x12 =>
  bind (ldA 2 v22x12) fun v23x13 =>
  bind (alc 1 (.agg #[.string ⟨#[]⟩, .string ⟨#[]⟩])) fun v8x14 =>
  bind (stA 2 v8x14 v23x13) fun _ =>
  bind (fa 0 v8x14) fun v24x15 =>
  bind (ld1 v24x15) fun v25x16 =>
  bind (bop .str .eql v25x16 s1) fun v27x17 =>
  jn (cnd v27x17
  (bind (fa 1 v8x14) fun v29x18 =>
  bind (ld1 v29x18) fun v30x19 =>
  bind (bsl 1 1 (.string ⟨#[]⟩) [(0, 1, v30x19)]) fun v31x20 =>
  bind (app 1 16 s6 v31x20) fun v32x21 =>
  ret (.nrm [s1, v32x21, s18, s19, s20]))
  (ret (.nrm [s1, s6, s18, s19, s20]))) (c5 fun q22_0 q22_1 q22_2 q22_3 q22_4 =>
  bind (bop .int .add q22_4 (Value.int .i64 1)) fun v33x23 =>
  ret (.nrm [q22_0, q22_1, q22_2, q22_3, v33x23])) noX retR)
  (ret (.ext 0 [s6]))

/-- interrex/interrexref10.Members -/
noncomputable def F_ref10Members (Γ : Funs) (x0 x1 : Value) : M Value :=
  bind (alc 1 x0) fun v2x1 =>
  bind (Γ n_ref05Name [x1]) fun v10x2 =>
  bind (uop .not v10x2) fun v11x3 =>
  cnd v11x3
  (ret (Value.tuple #[(Value.slice none 0 0), (Value.int .i64 10)]))
  (bind (fa 0 v2x1) fun v12x4 =>
  bind (ld1 v12x4) fun v13x5 =>
  bind (Γ n_ref10Has [v13x5, x1]) fun v15x6 =>
  bind (uop .not v15x6) fun v16x7 =>
  cnd v16x7
  (ret (Value.tuple #[(Value.slice none 0 0), (Value.int .i64 8)]))
  (bind (fa 1 v2x1) fun v17x8 =>
  bind (ld1 v17x8) fun v18x9 =>
  bind (lenS v18x9) fun v19x10 =>
  jn (loopM (c5 (F_ref10Members.l1 Γ)) [x1, (Value.slice none 0 0), v18x9, v19x10, (Value.int .i64 0)]) noN (xk 0 (c1 fun q26_0 =>
  bind (Γ n_ref10Sorted [q26_0]) fun v35x27 =>
  ret (Value.tuple #[v35x27, (Value.int .i64 0)])) noX) ret))

set_option maxRecDepth 100000 in
theorem rf_ref10Members (Γ : Funs) (x0 x1 : Value) : runF Try.prog Γ Try.f38 lv_ref10Members [x0, x1] = F_ref10Members Γ x0 x1 := by kernel_rfl

theorem run_ref10Members {prim : FuncId → Option (List Value → M Value)} (hp : prim n_ref10Members = none) (n : Nat) (x0 x1 : Value) : run Try.prog prim lvs (n + 1) n_ref10Members [x0, x1] = F_ref10Members (run Try.prog prim lvs n) x0 x1 :=
  (run_fn hp (by kernel_rfl) Try.func38 (by kernel_rfl)).trans (rf_ref10Members _ x0 x1)

/-- interrex/interrexref10.Of: a round. -/
noncomputable def F_ref10Of.l1 (Γ : Funs) (s1 s5 s9 s10 s11 : Value) : M Out :=
  bind (bop .int .lss s11 s10) fun v12x5 =>
  cnd v12x5
  (bind (ixa 2 s9 s11) fun v13x6 =>
  bind (ldA 2 v13x6) fun v14x7 =>
  bind (alc 1 (.agg #[.string ⟨#[]⟩, .string ⟨#[]⟩])) fun v7x8 =>
  bind (stA 2 v7x8 v14x7) fun _ =>
  bind (fa 1 v7x8) fun v15x9 =>
  bind (ld1 v15x9) fun v16x10 =>
  bind (bop .str .eql v16x10 s1) fun v18x11 =>
  jn (cnd v18x11
  (bind (fa 0 v7x8) fun v20x12 =>
  bind (ld1 v20x12) fun v21x13 =>
  bind (bsl 1 1 (.string ⟨#[]⟩) [(0, 1, v21x13)]) fun v22x14 =>
  bind (app 1 16 s5 v22x14) fun v23x15 =>
  ret (.nrm [s1, v23x15, s9, s10, s11]))
  (ret (.nrm [s1, s5, s9, s10, s11]))) (c5 fun q16_0 q16_1 q16_2 q16_3 q16_4 =>
  bind (bop .int .add q16_4 (Value.int .i64 1)) fun v24x17 =>
  ret (.nrm [q16_0, q16_1, q16_2, q16_3, v24x17])) noX retR)
  (ret (.ext 0 [s5]))

/-- interrex/interrexref10.Of -/
noncomputable def F_ref10Of (Γ : Funs) (x0 x1 : Value) : M Value :=
  bind (alc 1 x0) fun v2x1 =>
  bind (fa 1 v2x1) fun v8x2 =>
  bind (ld1 v8x2) fun v9x3 =>
  bind (lenS v9x3) fun v10x4 =>
  jn (loopM (c5 (F_ref10Of.l1 Γ)) [x1, (Value.slice none 0 0), v9x3, v10x4, (Value.int .i64 0)]) noN (xk 0 (c1 fun q20_0 =>
  bind (Γ n_ref10Sorted [q20_0]) fun v26x21 =>
  ret v26x21) noX) ret

set_option maxRecDepth 100000 in
theorem rf_ref10Of (Γ : Funs) (x0 x1 : Value) : runF Try.prog Γ Try.f39 lv_ref10Of [x0, x1] = F_ref10Of Γ x0 x1 := by kernel_rfl

theorem run_ref10Of {prim : FuncId → Option (List Value → M Value)} (hp : prim n_ref10Of = none) (n : Nat) (x0 x1 : Value) : run Try.prog prim lvs (n + 1) n_ref10Of [x0, x1] = F_ref10Of (run Try.prog prim lvs n) x0 x1 :=
  (run_fn hp (by kernel_rfl) Try.func39 (by kernel_rfl)).trans (rf_ref10Of _ x0 x1)

/-- interrex/interrexlaw10.rises: a round. -/
noncomputable def F_law10Rises.l1 (Γ : Funs) (s0 s3 : Value) : M Out :=
  bind (lenS s0) fun v6x1 =>
  bind (bop .int .lss s3 v6x1) fun v7x2 =>
  cnd v7x2
  (bind (bop .int .sub s3 (Value.int .i64 1)) fun v12x3 =>
  bind (ixa 1 s0 v12x3) fun v13x4 =>
  bind (ld1 v13x4) fun v14x5 =>
  bind (ixa 1 s0 s3) fun v17x6 =>
  bind (ld1 v17x6) fun v18x7 =>
  bind (bop .str .geq v14x5 v18x7) fun v19x8 =>
  cnd v19x8
  (ret (.ret (Value.bool false)))
  (bind (bop .int .add s3 (Value.int .i64 1)) fun v9x9 =>
  ret (.nrm [s0, v9x9])))
  (ret (.ext 0 []))

/-- interrex/interrexlaw10.rises -/
noncomputable def F_law10Rises (Γ : Funs) (x0 : Value) : M Value :=
  jn (loopM (c2 (F_law10Rises.l1 Γ)) [x0, (Value.int .i64 1)]) noN (xk 0 (c0 (ret (Value.bool true))) noX) ret

set_option maxRecDepth 100000 in
theorem rf_law10Rises (Γ : Funs) (x0 : Value) : runF Try.prog Γ Try.f40 lv_law10Rises [x0] = F_law10Rises Γ x0 := by kernel_rfl

theorem run_law10Rises {prim : FuncId → Option (List Value → M Value)} (hp : prim n_law10Rises = none) (n : Nat) (x0 : Value) : run Try.prog prim lvs (n + 1) n_law10Rises [x0] = F_law10Rises (run Try.prog prim lvs n) x0 :=
  (run_fn hp (by kernel_rfl) Try.func40 (by kernel_rfl)).trans (rf_law10Rises _ x0)

/-- interrex/elder.check: a round. -/
noncomputable def F_elderCheck.l1 (Γ : Funs) (s5 s10 s11 s12 : Value) : M Out :=
  bind (bop .int .lss s12 s11) fun v13x3 =>
  cnd v13x3
  (bind (ixa 1 s10 s12) fun v14x4 =>
  bind (ld1 v14x4) fun v15x5 =>
  bind (bop .int .eql s5 (Value.int .i64 0)) fun v17x6 =>
  jn (cnd v17x6
  (bind (callv Γ v15x5 []) fun v19x7 =>
  ret (.nrm [v19x7, s10, s11, s12]))
  (ret (.nrm [s5, s10, s11, s12]))) (c4 fun q8_0 q8_1 q8_2 q8_3 =>
  bind (bop .int .add q8_3 (Value.int .i64 1)) fun v20x9 =>
  ret (.nrm [q8_0, q8_1, q8_2, v20x9])) noX retR)
  (ret (.ext 0 [s5]))

/-- interrex/elder.check -/
noncomputable def F_elderCheck (Γ : Funs) (x0 x1 : Value) : M Value :=
  bind (Γ n_nameName [x0]) fun v9x1 =>
  bind (lenS x1) fun v11x2 =>
  jn (loopM (c4 (F_elderCheck.l1 Γ)) [v9x1, x1, v11x2, (Value.int .i64 0)]) noN (xk 0 (c1 fun q12_0 =>
  ret q12_0) noX) ret

set_option maxRecDepth 100000 in
theorem rf_elderCheck (Γ : Funs) (x0 x1 : Value) : runF Try.prog Γ Try.f41 lv_elderCheck [x0, x1] = F_elderCheck Γ x0 x1 := by kernel_rfl

theorem run_elderCheck {prim : FuncId → Option (List Value → M Value)} (hp : prim n_elderCheck = none) (n : Nat) (x0 x1 : Value) : run Try.prog prim lvs (n + 1) n_elderCheck [x0, x1] = F_elderCheck (run Try.prog prim lvs n) x0 x1 :=
  (run_fn hp (by kernel_rfl) Try.func41 (by kernel_rfl)).trans (rf_elderCheck _ x0 x1)

/-- interrex/elder.sum -/
noncomputable def F_elderSum (Γ : Funs) (x0 : Value) : M Value :=
  bind (alc 1 x0) fun v1x1 =>
  ret (Value.func (.func 74) #[] #[v1x1])

set_option maxRecDepth 100000 in
theorem rf_elderSum (Γ : Funs) (x0 : Value) : runF Try.prog Γ Try.f42 lv_elderSum [x0] = F_elderSum Γ x0 := by kernel_rfl

theorem run_elderSum {prim : FuncId → Option (List Value → M Value)} (hp : prim n_elderSum = none) (n : Nat) (x0 : Value) : run Try.prog prim lvs (n + 1) n_elderSum [x0] = F_elderSum (run Try.prog prim lvs n) x0 :=
  (run_fn hp (by kernel_rfl) Try.func42 (by kernel_rfl)).trans (rf_elderSum _ x0)

/-- (*interrex/elder.Dir).room -/
noncomputable def F_elderDirRoom (Γ : Funs) (x0 x1 : Value) : M Value :=
  bind (alc 1 x0) fun v2x1 =>
  bind (alc 1 x1) fun v3x2 =>
  ret (Value.func (.func 76) #[] #[v2x1, v3x2])

set_option maxRecDepth 100000 in
theorem rf_elderDirRoom (Γ : Funs) (x0 x1 : Value) : runF Try.prog Γ Try.f43 lv_elderDirRoom [x0, x1] = F_elderDirRoom Γ x0 x1 := by kernel_rfl

theorem run_elderDirRoom {prim : FuncId → Option (List Value → M Value)} (hp : prim n_elderDirRoom = none) (n : Nat) (x0 x1 : Value) : run Try.prog prim lvs (n + 1) n_elderDirRoom [x0, x1] = F_elderDirRoom (run Try.prog prim lvs n) x0 x1 :=
  (run_fn hp (by kernel_rfl) Try.func43 (by kernel_rfl)).trans (rf_elderDirRoom _ x0 x1)

/-- (*interrex/elder.Dir).names -/
noncomputable def F_elderDirNames (Γ : Funs) (x0 : Value) : M Value :=
  bind (nilc x0) fun v4x1 =>
  bind (fa 0 v4x1) fun v5x2 =>
  bind (ld1 v5x2) fun v6x3 =>
  bind (Γ n_mapsKeysMapStringstringStringString [v6x3]) fun v7x4 =>
  bind (Γ n_slicesSortedFuncString [v7x4, (Value.func (.func 79) #[] #[])]) fun v8x5 =>
  ret v8x5

set_option maxRecDepth 100000 in
theorem rf_elderDirNames (Γ : Funs) (x0 : Value) : runF Try.prog Γ Try.f44 lv_elderDirNames [x0] = F_elderDirNames Γ x0 := by kernel_rfl

theorem run_elderDirNames {prim : FuncId → Option (List Value → M Value)} (hp : prim n_elderDirNames = none) (n : Nat) (x0 : Value) : run Try.prog prim lvs (n + 1) n_elderDirNames [x0] = F_elderDirNames (run Try.prog prim lvs n) x0 :=
  (run_fn hp (by kernel_rfl) Try.func44 (by kernel_rfl)).trans (rf_elderDirNames _ x0)

/-- interrex/name.Prefix -/
noncomputable def F_namePrefix (Γ : Funs) (x0 : Value) : M Value :=
  bind (lenT x0) fun v4x1 =>
  bind (bop .int .gtr v4x1 (Value.int .i64 12)) fun v5x2 =>
  bind (gate v5x2 false 3 (bind (Γ n_nameAll [x0, (Value.func (.func 81) #[] #[])]) fun v8x3 =>
  bind (uop .not v8x3) fun v9x4 =>
  ret [x0, v8x3, v9x4])) (c3 fun _ _ q5_2 =>
  bind (pick v5x2 (Value.bool true) q5_2) fun v10x6 =>
  cnd v10x6
  (ret (Value.int .i64 10))
  (ret (Value.int .i64 0)))

set_option maxRecDepth 100000 in
theorem rf_namePrefix (Γ : Funs) (x0 : Value) : runF Try.prog Γ Try.f45 lv_namePrefix [x0] = F_namePrefix Γ x0 := by kernel_rfl

theorem run_namePrefix {prim : FuncId → Option (List Value → M Value)} (hp : prim n_namePrefix = none) (n : Nat) (x0 : Value) : run Try.prog prim lvs (n + 1) n_namePrefix [x0] = F_namePrefix (run Try.prog prim lvs n) x0 :=
  (run_fn hp (by kernel_rfl) Try.func45 (by kernel_rfl)).trans (rf_namePrefix _ x0)

/-- slices.DeleteFunc[[]string,string]: a round. -/
noncomputable def F_slicesDeleteFuncstringString.l1 (Γ : Funs) (s0 s1 s5 s6 : Value) : M Out :=
  bind (lenS s0) fun v18x4 =>
  bind (bop .int .lss s6 v18x4) fun v19x5 =>
  cnd v19x5
  (bind (ixa 1 s0 s6) fun v24x6 =>
  bind (ld1 v24x6) fun v25x7 =>
  bind (callv Γ s1 [v25x7]) fun v28x8 =>
  bind (uop .not v28x8) fun v29x9 =>
  jn (cnd v29x9
  (bind (ixa 1 s0 s5) fun v33x10 =>
  bind (st1 v33x10 v25x7) fun _ =>
  bind (bop .int .add s5 (Value.int .i64 1)) fun v35x11 =>
  ret (.nrm [s0, s1, v35x11, s6]))
  (ret (.nrm [s0, s1, s5, s6]))) (c4 fun q12_0 q12_1 q12_2 q12_3 =>
  bind (bop .int .add q12_3 (Value.int .i64 1)) fun v21x13 =>
  ret (.nrm [q12_0, q12_1, q12_2, v21x13])) noX retR)
  (ret (.ext 0 [s0, s5]))

/-- slices.DeleteFunc[[]string,string] -/
noncomputable def F_slicesDeleteFuncstringString (Γ : Funs) (x0 x1 : Value) : M Value :=
  bind (Γ n_slicesIndexFuncstringString [x0, x1]) fun v10x1 =>
  bind (bop .int .eql v10x1 (Value.int .i64 (-1))) fun v12x2 =>
  cnd v12x2
  (ret x0)
  (bind (bop .int .add v10x1 (Value.int .i64 1)) fun v15x3 =>
  jn (loopM (c4 (F_slicesDeleteFuncstringString.l1 Γ)) [x0, x1, v10x1, v15x3]) noN (xk 0 (c2 fun q16_0 q16_1 =>
  bind (slv 1 q16_0 (some q16_1) none none) fun v38x17 =>
  bind (clr (.string ⟨#[]⟩) 1 v38x17) fun _ =>
  bind (slv 1 q16_0 none (some q16_1) none) fun v41x18 =>
  ret v41x18) noX) ret)

set_option maxRecDepth 100000 in
theorem rf_slicesDeleteFuncstringString (Γ : Funs) (x0 x1 : Value) : runF Try.prog Γ Try.f46 lv_slicesDeleteFuncstringString [x0, x1] = F_slicesDeleteFuncstringString Γ x0 x1 := by kernel_rfl

theorem run_slicesDeleteFuncstringString {prim : FuncId → Option (List Value → M Value)} (hp : prim n_slicesDeleteFuncstringString = none) (n : Nat) (x0 x1 : Value) : run Try.prog prim lvs (n + 1) n_slicesDeleteFuncstringString [x0, x1] = F_slicesDeleteFuncstringString (run Try.prog prim lvs n) x0 x1 :=
  (run_fn hp (by kernel_rfl) Try.func46 (by kernel_rfl)).trans (rf_slicesDeleteFuncstringString _ x0 x1)

/-- (*interrex/elder.Dir).List$1 -/
noncomputable def F_elderDirList1 (Γ : Funs) (x0 x1 : Value) : M Value :=
  bind (ld1 x1) fun v5x1 =>
  bind (Γ n_stringsHasPrefix [x0, v5x1]) fun v6x2 =>
  bind (uop .not v6x2) fun v7x3 =>
  ret v7x3

set_option maxRecDepth 100000 in
theorem rf_elderDirList1 (Γ : Funs) (x0 x1 : Value) : runF Try.prog Γ Try.f47 lv_elderDirList1 [x0, x1] = F_elderDirList1 Γ x0 x1 := by kernel_rfl

theorem run_elderDirList1 {prim : FuncId → Option (List Value → M Value)} (hp : prim n_elderDirList1 = none) (n : Nat) (x0 x1 : Value) : run Try.prog prim lvs (n + 1) n_elderDirList1 [x0, x1] = F_elderDirList1 (run Try.prog prim lvs n) x0 x1 :=
  (run_fn hp (by kernel_rfl) Try.func47 (by kernel_rfl)).trans (rf_elderDirList1 _ x0 x1)

/-- strings.HasPrefix -/
noncomputable def F_stringsHasPrefix (Γ : Funs) (x0 x1 : Value) : M Value :=
  bind (Γ n_internalStringsliteHasPrefix [x0, x1]) fun v7x1 =>
  ret v7x1

set_option maxRecDepth 100000 in
theorem rf_stringsHasPrefix (Γ : Funs) (x0 x1 : Value) : runF Try.prog Γ Try.f48 lv_stringsHasPrefix [x0, x1] = F_stringsHasPrefix Γ x0 x1 := by kernel_rfl

theorem run_stringsHasPrefix {prim : FuncId → Option (List Value → M Value)} (hp : prim n_stringsHasPrefix = none) (n : Nat) (x0 x1 : Value) : run Try.prog prim lvs (n + 1) n_stringsHasPrefix [x0, x1] = F_stringsHasPrefix (run Try.prog prim lvs n) x0 x1 :=
  (run_fn hp (by kernel_rfl) Try.func48 (by kernel_rfl)).trans (rf_stringsHasPrefix _ x0 x1)

/-- (*interrex/elder.Dir).there -/
noncomputable def F_elderDirThere (Γ : Funs) (x0 x1 : Value) : M Value :=
  bind (alc 1 x0) fun v2x1 =>
  bind (alc 1 x1) fun v3x2 =>
  ret (Value.func (.func 84) #[] #[v2x1, v3x2])

set_option maxRecDepth 100000 in
theorem rf_elderDirThere (Γ : Funs) (x0 x1 : Value) : runF Try.prog Γ Try.f49 lv_elderDirThere [x0, x1] = F_elderDirThere Γ x0 x1 := by kernel_rfl

theorem run_elderDirThere {prim : FuncId → Option (List Value → M Value)} (hp : prim n_elderDirThere = none) (n : Nat) (x0 x1 : Value) : run Try.prog prim lvs (n + 1) n_elderDirThere [x0, x1] = F_elderDirThere (run Try.prog prim lvs n) x0 x1 :=
  (run_fn hp (by kernel_rfl) Try.func49 (by kernel_rfl)).trans (rf_elderDirThere _ x0 x1)

-- 50 ("maps.Clone[map[string]string,string,string]"): not covered: typeAssert
/-- interrex/interrexref07.Create -/
noncomputable def F_ref07Create (Γ : Funs) (x0 x1 x2 : Value) : M Value :=
  bind (Γ n_ref05Name [x1]) fun v9x1 =>
  bind (uop .not v9x1) fun v10x2 =>
  cnd v10x2
  (ret (Value.tuple #[x0, (Value.int .i64 10)]))
  (bind (Γ n_ref05Hash [x2]) fun v13x3 =>
  bind (uop .not v13x3) fun v14x4 =>
  cnd v14x4
  (ret (Value.tuple #[x0, (Value.int .i64 4)]))
  (bind (Γ n_ref07Find [x0, x1]) fun v18x5 =>
  bind (bop .int .geq v18x5 (Value.int .i64 0)) fun v19x6 =>
  cnd v19x6
  (ret (Value.tuple #[x0, (Value.int .i64 9)]))
  (bind (lenS x0) fun v22x7 =>
  bind (bop .int .geq v22x7 (Value.int .i64 12)) fun v23x8 =>
  cnd v23x8
  (ret (Value.tuple #[x0, (Value.int .i64 7)]))
  (bind (bld (.agg #[.string ⟨#[]⟩, .string ⟨#[]⟩, .string ⟨#[]⟩, .bool false, .slice none 0 0]) [(0, 1, x1), (1, 1, x2)]) fun v28x9 =>
  bind (Γ n_ref07Put [x0, v28x9]) fun v29x10 =>
  ret (Value.tuple #[v29x10, (Value.int .i64 0)])))))

set_option maxRecDepth 100000 in
theorem rf_ref07Create (Γ : Funs) (x0 x1 x2 : Value) : runF Try.prog Γ Try.f51 lv_ref07Create [x0, x1, x2] = F_ref07Create Γ x0 x1 x2 := by kernel_rfl

theorem run_ref07Create {prim : FuncId → Option (List Value → M Value)} (hp : prim n_ref07Create = none) (n : Nat) (x0 x1 x2 : Value) : run Try.prog prim lvs (n + 1) n_ref07Create [x0, x1, x2] = F_ref07Create (run Try.prog prim lvs n) x0 x1 x2 :=
  (run_fn hp (by kernel_rfl) Try.func51 (by kernel_rfl)).trans (rf_ref07Create _ x0 x1 x2)

/-- interrex/interrexref07.Delete -/
noncomputable def F_ref07Delete (Γ : Funs) (x0 x1 : Value) : M Value :=
  bind (Γ n_ref05Name [x1]) fun v7x1 =>
  bind (uop .not v7x1) fun v8x2 =>
  cnd v8x2
  (ret (Value.tuple #[x0, (Value.int .i64 10)]))
  (bind (Γ n_ref07Find [x0, x1]) fun v12x3 =>
  bind (bop .int .lss v12x3 (Value.int .i64 0)) fun v13x4 =>
  cnd v13x4
  (ret (Value.tuple #[x0, (Value.int .i64 8)]))
  (bind (Γ n_ref07Drop [x0, x1]) fun v17x5 =>
  ret (Value.tuple #[v17x5, (Value.int .i64 0)])))

set_option maxRecDepth 100000 in
theorem rf_ref07Delete (Γ : Funs) (x0 x1 : Value) : runF Try.prog Γ Try.f52 lv_ref07Delete [x0, x1] = F_ref07Delete Γ x0 x1 := by kernel_rfl

theorem run_ref07Delete {prim : FuncId → Option (List Value → M Value)} (hp : prim n_ref07Delete = none) (n : Nat) (x0 x1 : Value) : run Try.prog prim lvs (n + 1) n_ref07Delete [x0, x1] = F_ref07Delete (run Try.prog prim lvs n) x0 x1 :=
  (run_fn hp (by kernel_rfl) Try.func52 (by kernel_rfl)).trans (rf_ref07Delete _ x0 x1)

/-- interrex/interrexref07.SetHash -/
noncomputable def F_ref07SetHash (Γ : Funs) (x0 x1 x2 : Value) : M Value :=
  bind (Γ n_ref05Name [x1]) fun v11x1 =>
  bind (uop .not v11x1) fun v12x2 =>
  cnd v12x2
  (ret (Value.tuple #[x0, (Value.int .i64 10)]))
  (bind (Γ n_ref05Hash [x2]) fun v15x3 =>
  bind (uop .not v15x3) fun v16x4 =>
  cnd v16x4
  (ret (Value.tuple #[x0, (Value.int .i64 4)]))
  (bind (Γ n_ref07Find [x0, x1]) fun v20x5 =>
  bind (bop .int .lss v20x5 (Value.int .i64 0)) fun v22x6 =>
  cnd v22x6
  (ret (Value.tuple #[x0, (Value.int .i64 8)]))
  (bind (ixa 5 x0 v20x5) fun v26x7 =>
  bind (ldA 5 v26x7) fun v27x8 =>
  bind (alc 1 (.agg #[.string ⟨#[]⟩, .string ⟨#[]⟩, .string ⟨#[]⟩, .bool false, .slice none 0 0])) fun v9x9 =>
  bind (stA 5 v9x9 v27x8) fun _ =>
  bind (fa 1 v9x9) fun v29x10 =>
  bind (st1 v29x10 x2) fun _ =>
  bind (ldA 5 v9x9) fun v31x11 =>
  bind (Γ n_ref07Put [x0, v31x11]) fun v32x12 =>
  ret (Value.tuple #[v32x12, (Value.int .i64 0)]))))

set_option maxRecDepth 100000 in
theorem rf_ref07SetHash (Γ : Funs) (x0 x1 x2 : Value) : runF Try.prog Γ Try.f53 lv_ref07SetHash [x0, x1, x2] = F_ref07SetHash Γ x0 x1 x2 := by kernel_rfl

theorem run_ref07SetHash {prim : FuncId → Option (List Value → M Value)} (hp : prim n_ref07SetHash = none) (n : Nat) (x0 x1 x2 : Value) : run Try.prog prim lvs (n + 1) n_ref07SetHash [x0, x1, x2] = F_ref07SetHash (run Try.prog prim lvs n) x0 x1 x2 :=
  (run_fn hp (by kernel_rfl) Try.func53 (by kernel_rfl)).trans (rf_ref07SetHash _ x0 x1 x2)

/-- interrex/interrexref06.Same: a round. -/
noncomputable def F_ref06Same.l1 (Γ : Funs) (s2 s3 s43 s44 : Value) : M Out :=
  bind (bop .int .lss s44 s43) fun v45x41 =>
  cnd v45x41
  (bind (fa 4 s2) fun v47x42 =>
  bind (ld1 v47x42) fun v48x43 =>
  bind (ixa 1 v48x43 s44) fun v50x44 =>
  bind (ld1 v50x44) fun v51x45 =>
  bind (fa 4 s3) fun v52x46 =>
  bind (ld1 v52x46) fun v53x47 =>
  bind (ixa 1 v53x47 s44) fun v55x48 =>
  bind (ld1 v55x48) fun v56x49 =>
  bind (bop .str .neq v51x45 v56x49) fun v57x50 =>
  cnd v57x50
  (ret (.ret (Value.bool false)))
  (bind (bop .int .add s44 (Value.int .i64 1)) fun v58x51 =>
  ret (.nrm [s2, s3, s43, v58x51])))
  (ret (.ext 0 []))

/-- interrex/interrexref06.Same -/
noncomputable def F_ref06Same (Γ : Funs) (x0 x1 : Value) : M Value :=
  bind (alc 1 x0) fun v2x1 =>
  bind (alc 1 x1) fun v3x2 =>
  bind (fa 0 v2x1) fun v6x3 =>
  bind (ld1 v6x3) fun v7x4 =>
  bind (fa 0 v3x2) fun v8x5 =>
  bind (ld1 v8x5) fun v9x6 =>
  bind (bop .str .neq v7x4 v9x6) fun v10x7 =>
  bind (gate v10x7 false 5 (bind (fa 1 v2x1) fun v12x8 =>
  bind (ld1 v12x8) fun v13x9 =>
  bind (fa 1 v3x2) fun v14x10 =>
  bind (ld1 v14x10) fun v15x11 =>
  bind (bop .str .neq v13x9 v15x11) fun v16x12 =>
  ret [v12x8, v13x9, v14x10, v15x11, v16x12])) (c5 fun _ _ _ _ q13_4 =>
  bind (pick v10x7 (Value.bool true) q13_4) fun v17x14 =>
  bind (gate v17x14 false 5 (bind (fa 2 v2x1) fun v19x15 =>
  bind (ld1 v19x15) fun v20x16 =>
  bind (fa 2 v3x2) fun v21x17 =>
  bind (ld1 v21x17) fun v22x18 =>
  bind (bop .str .neq v20x16 v22x18) fun v23x19 =>
  ret [v19x15, v20x16, v21x17, v22x18, v23x19])) (c5 fun _ _ _ _ q20_4 =>
  bind (pick v17x14 (Value.bool true) q20_4) fun v24x21 =>
  bind (gate v24x21 false 5 (bind (fa 3 v2x1) fun v26x22 =>
  bind (ld1 v26x22) fun v27x23 =>
  bind (fa 3 v3x2) fun v28x24 =>
  bind (ld1 v28x24) fun v29x25 =>
  bind (bop .bool .neq v27x23 v29x25) fun v30x26 =>
  ret [v26x22, v27x23, v28x24, v29x25, v30x26])) (c5 fun _ _ _ _ q27_4 =>
  bind (pick v24x21 (Value.bool true) q27_4) fun v31x28 =>
  bind (gate v31x28 false 7 (bind (fa 4 v2x1) fun v33x29 =>
  bind (ld1 v33x29) fun v34x30 =>
  bind (lenS v34x30) fun v35x31 =>
  bind (fa 4 v3x2) fun v36x32 =>
  bind (ld1 v36x32) fun v37x33 =>
  bind (lenS v37x33) fun v38x34 =>
  bind (bop .int .neq v35x31 v38x34) fun v39x35 =>
  ret [v33x29, v34x30, v35x31, v36x32, v37x33, v38x34, v39x35])) (c7 fun _ _ _ _ _ _ q36_6 =>
  bind (pick v31x28 (Value.bool true) q36_6) fun v40x37 =>
  cnd v40x37
  (ret (Value.bool false))
  (bind (fa 4 v2x1) fun v41x38 =>
  bind (ld1 v41x38) fun v42x39 =>
  bind (lenS v42x39) fun v43x40 =>
  jn (loopM (c4 (F_ref06Same.l1 Γ)) [v2x1, v3x2, v43x40, (Value.int .i64 0)]) noN (xk 0 (c0 (ret (Value.bool true))) noX) ret)))))

set_option maxRecDepth 100000 in
theorem rf_ref06Same (Γ : Funs) (x0 x1 : Value) : runF Try.prog Γ Try.f54 lv_ref06Same [x0, x1] = F_ref06Same Γ x0 x1 := by kernel_rfl

theorem run_ref06Same {prim : FuncId → Option (List Value → M Value)} (hp : prim n_ref06Same = none) (n : Nat) (x0 x1 : Value) : run Try.prog prim lvs (n + 1) n_ref06Same [x0, x1] = F_ref06Same (run Try.prog prim lvs n) x0 x1 :=
  (run_fn hp (by kernel_rfl) Try.func54 (by kernel_rfl)).trans (rf_ref06Same _ x0 x1)

/-- interrex/interrexref05.Name -/
noncomputable def F_ref05Name (Γ : Funs) (x0 : Value) : M Value :=
  bind (lenT x0) fun v5x1 =>
  bind (bop .int .geq v5x1 (Value.int .i64 1)) fun v7x2 =>
  bind (gate v7x2 true 2 (bind (bop .int .leq v5x1 (Value.int .i64 12)) fun v10x3 =>
  ret [v5x1, v10x3])) (c2 fun _ q4_1 =>
  bind (pick v7x2 q4_1 (Value.bool false)) fun v11x5 =>
  bind (gate v11x5 true 2 (bind (Γ n_ref05Of [x0, (Value.string ⟨#[97, 98, 99, 100, 101, 102, 103, 104, 105, 106, 107, 108, 109, 110, 111, 112, 113, 114, 115, 116, 117, 118, 119, 120, 121, 122, 48, 49, 50, 51, 52, 53, 54, 55, 56, 57, 45, 46]⟩)]) fun v14x6 =>
  ret [x0, v14x6])) (c2 fun _ q7_1 =>
  bind (pick v11x5 q7_1 (Value.bool false)) fun v15x8 =>
  bind (gate v15x8 true 3 (bind (ixs x0 (Value.int .i64 0)) fun v18x9 =>
  bind (Γ n_ref05In [v18x9, (Value.string ⟨#[97, 98, 99, 100, 101, 102, 103, 104, 105, 106, 107, 108, 109, 110, 111, 112, 113, 114, 115, 116, 117, 118, 119, 120, 121, 122]⟩)]) fun v19x10 =>
  ret [x0, v18x9, v19x10])) (c3 fun _ _ q11_2 =>
  bind (pick v15x8 q11_2 (Value.bool false)) fun v20x12 =>
  bind (gate v20x12 true 5 (bind (bop .int .sub v5x1 (Value.int .i64 1)) fun v24x13 =>
  bind (ixs x0 v24x13) fun v25x14 =>
  bind (Γ n_ref05In [v25x14, (Value.string ⟨#[97, 98, 99, 100, 101, 102, 103, 104, 105, 106, 107, 108, 109, 110, 111, 112, 113, 114, 115, 116, 117, 118, 119, 120, 121, 122, 48, 49, 50, 51, 52, 53, 54, 55, 56, 57]⟩)]) fun v26x15 =>
  ret [x0, v5x1, v24x13, v25x14, v26x15])) (c5 fun _ _ _ _ q16_4 =>
  bind (pick v20x12 q16_4 (Value.bool false)) fun v27x17 =>
  ret v27x17))))

set_option maxRecDepth 100000 in
theorem rf_ref05Name (Γ : Funs) (x0 : Value) : runF Try.prog Γ Try.f55 lv_ref05Name [x0] = F_ref05Name Γ x0 := by kernel_rfl

theorem run_ref05Name {prim : FuncId → Option (List Value → M Value)} (hp : prim n_ref05Name = none) (n : Nat) (x0 : Value) : run Try.prog prim lvs (n + 1) n_ref05Name [x0] = F_ref05Name (run Try.prog prim lvs n) x0 :=
  (run_fn hp (by kernel_rfl) Try.func55 (by kernel_rfl)).trans (rf_ref05Name _ x0)

/-- interrex/interrexref07.Find: a round. -/
noncomputable def F_ref07Find.l1 (Γ : Funs) (s1 s7 s8 s9 : Value) : M Out :=
  bind (bop .int .lss s9 s8) fun v10x2 =>
  cnd v10x2
  (bind (ixa 5 s7 s9) fun v12x3 =>
  bind (ldA 5 v12x3) fun v13x4 =>
  bind (alc 1 (.agg #[.string ⟨#[]⟩, .string ⟨#[]⟩, .string ⟨#[]⟩, .bool false, .slice none 0 0])) fun v6x5 =>
  bind (stA 5 v6x5 v13x4) fun _ =>
  bind (fa 0 v6x5) fun v14x6 =>
  bind (ld1 v14x6) fun v15x7 =>
  bind (bop .str .eql v15x7 s1) fun v17x8 =>
  cnd v17x8
  (ret (.ret s9))
  (bind (bop .int .add s9 (Value.int .i64 1)) fun v19x9 =>
  ret (.nrm [s1, s7, s8, v19x9])))
  (ret (.ext 0 []))

/-- interrex/interrexref07.Find -/
noncomputable def F_ref07Find (Γ : Funs) (x0 x1 : Value) : M Value :=
  bind (lenS x0) fun v8x1 =>
  jn (loopM (c4 (F_ref07Find.l1 Γ)) [x1, x0, v8x1, (Value.int .i64 0)]) noN (xk 0 (c0 (ret (Value.int .i64 (-1)))) noX) ret

set_option maxRecDepth 100000 in
theorem rf_ref07Find (Γ : Funs) (x0 x1 : Value) : runF Try.prog Γ Try.f56 lv_ref07Find [x0, x1] = F_ref07Find Γ x0 x1 := by kernel_rfl

theorem run_ref07Find {prim : FuncId → Option (List Value → M Value)} (hp : prim n_ref07Find = none) (n : Nat) (x0 x1 : Value) : run Try.prog prim lvs (n + 1) n_ref07Find [x0, x1] = F_ref07Find (run Try.prog prim lvs n) x0 x1 :=
  (run_fn hp (by kernel_rfl) Try.func56 (by kernel_rfl)).trans (rf_ref07Find _ x0 x1)

/-- interrex/interrexref05.Prefix -/
noncomputable def F_ref05Prefix (Γ : Funs) (x0 : Value) : M Value :=
  bind (lenT x0) fun v4x1 =>
  bind (bop .int .leq v4x1 (Value.int .i64 12)) fun v5x2 =>
  bind (gate v5x2 true 2 (bind (Γ n_ref05Of [x0, (Value.string ⟨#[97, 98, 99, 100, 101, 102, 103, 104, 105, 106, 107, 108, 109, 110, 111, 112, 113, 114, 115, 116, 117, 118, 119, 120, 121, 122, 48, 49, 50, 51, 52, 53, 54, 55, 56, 57, 45, 46]⟩)]) fun v8x3 =>
  ret [x0, v8x3])) (c2 fun _ q4_1 =>
  bind (pick v5x2 q4_1 (Value.bool false)) fun v9x5 =>
  ret v9x5)

set_option maxRecDepth 100000 in
theorem rf_ref05Prefix (Γ : Funs) (x0 : Value) : runF Try.prog Γ Try.f57 lv_ref05Prefix [x0] = F_ref05Prefix Γ x0 := by kernel_rfl

theorem run_ref05Prefix {prim : FuncId → Option (List Value → M Value)} (hp : prim n_ref05Prefix = none) (n : Nat) (x0 : Value) : run Try.prog prim lvs (n + 1) n_ref05Prefix [x0] = F_ref05Prefix (run Try.prog prim lvs n) x0 :=
  (run_fn hp (by kernel_rfl) Try.func57 (by kernel_rfl)).trans (rf_ref05Prefix _ x0)

/-- interrex/interrexref10.Make -/
noncomputable def F_ref10Make (Γ : Funs) (x0 x1 : Value) : M Value :=
  bind (alc 1 x0) fun v2x1 =>
  bind (alc 1 (.agg #[.slice none 0 0, .slice none 0 0])) fun v4x2 =>
  bind (Γ n_ref05Name [x1]) fun v7x3 =>
  bind (uop .not v7x3) fun v8x4 =>
  cnd v8x4
  (bind (ldA 2 v2x1) fun v9x5 =>
  bind (stA 2 v4x2 v9x5) fun _ =>
  bind (ldA 2 v4x2) fun vrx6 =>
  ret (Value.tuple #[vrx6, (Value.int .i64 10)]))
  (bind (fa 0 v2x1) fun v10x7 =>
  bind (ld1 v10x7) fun v11x8 =>
  bind (Γ n_ref10Has [v11x8, x1]) fun v13x9 =>
  cnd v13x9
  (bind (ldA 2 v2x1) fun v14x10 =>
  bind (stA 2 v4x2 v14x10) fun _ =>
  bind (ldA 2 v4x2) fun vrx11 =>
  ret (Value.tuple #[vrx11, (Value.int .i64 9)]))
  (bind (fa 0 v2x1) fun v15x12 =>
  bind (ld1 v15x12) fun v16x13 =>
  bind (lenS v16x13) fun v17x14 =>
  bind (bop .int .geq v17x14 (Value.int .i64 6)) fun v18x15 =>
  cnd v18x15
  (bind (ldA 2 v2x1) fun v19x16 =>
  bind (stA 2 v4x2 v19x16) fun _ =>
  bind (ldA 2 v4x2) fun vrx17 =>
  ret (Value.tuple #[vrx17, (Value.int .i64 7)]))
  (bind (bsl 1 0 (.string ⟨#[]⟩) []) fun v20x18 =>
  bind (fa 0 v2x1) fun v21x19 =>
  bind (ld1 v21x19) fun v22x20 =>
  bind (app 1 16 v20x18 v22x20) fun v23x21 =>
  bind (bsl 1 1 (.string ⟨#[]⟩) [(0, 1, x1)]) fun v25x22 =>
  bind (app 1 16 v23x21 v25x22) fun v26x23 =>
  bind (Γ n_ref10Sorted [v26x23]) fun v27x24 =>
  bind (fa 0 v2x1) fun v28x25 =>
  bind (st1 v28x25 v27x24) fun _ =>
  bind (ldA 2 v2x1) fun v29x26 =>
  bind (stA 2 v4x2 v29x26) fun _ =>
  bind (ldA 2 v4x2) fun vrx27 =>
  ret (Value.tuple #[vrx27, (Value.int .i64 0)]))))

set_option maxRecDepth 100000 in
theorem rf_ref10Make (Γ : Funs) (x0 x1 : Value) : runF Try.prog Γ Try.f58 lv_ref10Make [x0, x1] = F_ref10Make Γ x0 x1 := by kernel_rfl

theorem run_ref10Make {prim : FuncId → Option (List Value → M Value)} (hp : prim n_ref10Make = none) (n : Nat) (x0 x1 : Value) : run Try.prog prim lvs (n + 1) n_ref10Make [x0, x1] = F_ref10Make (run Try.prog prim lvs n) x0 x1 :=
  (run_fn hp (by kernel_rfl) Try.func58 (by kernel_rfl)).trans (rf_ref10Make _ x0 x1)

/-- interrex/interrexref10.Drop: a round. -/
noncomputable def F_ref10Drop.l1 (Γ : Funs) (s1 s2 s4 s6 s23 s24 s25 : Value) : M Out :=
  bind (bop .int .lss s25 s24) fun v26x16 =>
  cnd v26x16
  (bind (ixa 1 s23 s25) fun v27x17 =>
  bind (ld1 v27x17) fun v28x18 =>
  bind (bop .str .neq v28x18 s1) fun v31x19 =>
  jn (cnd v31x19
  (bind (bsl 1 1 (.string ⟨#[]⟩) [(0, 1, v28x18)]) fun v34x20 =>
  bind (app 1 16 s6 v34x20) fun v35x21 =>
  ret (.nrm [s1, s2, s4, v35x21, s23, s24, s25]))
  (ret (.nrm [s1, s2, s4, s6, s23, s24, s25]))) (c7 fun q22_0 q22_1 q22_2 q22_3 q22_4 q22_5 q22_6 =>
  bind (bop .int .add q22_6 (Value.int .i64 1)) fun v36x23 =>
  ret (.nrm [q22_0, q22_1, q22_2, q22_3, q22_4, q22_5, v36x23])) noX retR)
  (ret (.ext 0 [s1, s2, s4, s6]))

/-- interrex/interrexref10.Drop: a round. -/
noncomputable def F_ref10Drop.l2 (Γ : Funs) (s1 s4 s6 s9 s38 s39 s40 : Value) : M Out :=
  bind (bop .int .lss s40 s39) fun v41x30 =>
  cnd v41x30
  (bind (ixa 2 s38 s40) fun v42x31 =>
  bind (ldA 2 v42x31) fun v43x32 =>
  bind (alc 1 (.agg #[.string ⟨#[]⟩, .string ⟨#[]⟩])) fun v11x33 =>
  bind (stA 2 v11x33 v43x32) fun _ =>
  bind (fa 0 v11x33) fun v44x34 =>
  bind (ld1 v44x34) fun v45x35 =>
  bind (bop .str .neq v45x35 s1) fun v47x36 =>
  jn (cnd v47x36
  (bind (ldA 2 v11x33) fun v49x37 =>
  bind (bsl 2 1 (.agg #[.string ⟨#[]⟩, .string ⟨#[]⟩]) [(0, 2, v49x37)]) fun v50x38 =>
  bind (app 2 32 s9 v50x38) fun v51x39 =>
  ret (.nrm [s1, s4, s6, v51x39, s38, s39, s40]))
  (ret (.nrm [s1, s4, s6, s9, s38, s39, s40]))) (c7 fun q40_0 q40_1 q40_2 q40_3 q40_4 q40_5 q40_6 =>
  bind (bop .int .add q40_6 (Value.int .i64 1)) fun v52x41 =>
  ret (.nrm [q40_0, q40_1, q40_2, q40_3, q40_4, q40_5, v52x41])) noX retR)
  (ret (.ext 2 [s4, s6, s9]))

/-- interrex/interrexref10.Drop -/
noncomputable def F_ref10Drop (Γ : Funs) (x0 x1 : Value) : M Value :=
  bind (alc 1 x0) fun v2x1 =>
  bind (alc 1 (.agg #[.slice none 0 0, .slice none 0 0])) fun v4x2 =>
  bind (Γ n_ref05Name [x1]) fun v13x3 =>
  bind (uop .not v13x3) fun v14x4 =>
  cnd v14x4
  (bind (ldA 2 v2x1) fun v15x5 =>
  bind (stA 2 v4x2 v15x5) fun _ =>
  bind (ldA 2 v4x2) fun vrx6 =>
  ret (Value.tuple #[vrx6, (Value.int .i64 10)]))
  (bind (fa 0 v2x1) fun v16x7 =>
  bind (ld1 v16x7) fun v17x8 =>
  bind (Γ n_ref10Has [v17x8, x1]) fun v19x9 =>
  bind (uop .not v19x9) fun v20x10 =>
  cnd v20x10
  (bind (ldA 2 v2x1) fun v21x11 =>
  bind (stA 2 v4x2 v21x11) fun _ =>
  bind (ldA 2 v4x2) fun vrx12 =>
  ret (Value.tuple #[vrx12, (Value.int .i64 8)]))
  (bind (fa 0 v2x1) fun v22x13 =>
  bind (ld1 v22x13) fun v23x14 =>
  bind (lenS v23x14) fun v24x15 =>
  jn (loopM (c7 (F_ref10Drop.l1 Γ)) [x1, v2x1, v4x2, (Value.slice none 0 0), v23x14, v24x15, (Value.int .i64 0)]) noN (xk 0 (c4 fun q26_0 q26_1 q26_2 q26_3 =>
  bind (fa 1 q26_1) fun v37x27 =>
  bind (ld1 v37x27) fun v38x28 =>
  bind (lenS v38x28) fun v39x29 =>
  jn (loopM (c7 (F_ref10Drop.l2 Γ)) [q26_0, q26_2, q26_3, (Value.slice none 0 0), v38x28, v39x29, (Value.int .i64 0)]) noN (xk 2 (c3 fun q44_0 q44_1 q44_2 =>
  bind (bld (.agg #[.slice none 0 0, .slice none 0 0]) [(0, 1, q44_1), (1, 1, q44_2)]) fun v55x45 =>
  bind (stA 2 q44_0 v55x45) fun _ =>
  bind (ldA 2 q44_0) fun vrx46 =>
  ret (Value.tuple #[vrx46, (Value.int .i64 0)])) noX) ret) noX) ret))

set_option maxRecDepth 100000 in
theorem rf_ref10Drop (Γ : Funs) (x0 x1 : Value) : runF Try.prog Γ Try.f59 lv_ref10Drop [x0, x1] = F_ref10Drop Γ x0 x1 := by kernel_rfl

theorem run_ref10Drop {prim : FuncId → Option (List Value → M Value)} (hp : prim n_ref10Drop = none) (n : Nat) (x0 x1 : Value) : run Try.prog prim lvs (n + 1) n_ref10Drop [x0, x1] = F_ref10Drop (run Try.prog prim lvs n) x0 x1 :=
  (run_fn hp (by kernel_rfl) Try.func59 (by kernel_rfl)).trans (rf_ref10Drop _ x0 x1)

/-- interrex/interrexref10.Join -/
noncomputable def F_ref10Join (Γ : Funs) (x0 x1 x2 : Value) : M Value :=
  bind (alc 1 x0) fun v3x1 =>
  bind (alc 1 (.agg #[.slice none 0 0, .slice none 0 0])) fun v6x2 =>
  bind (Γ n_ref05Name [x1]) fun v9x3 =>
  bind (uop .not v9x3) fun v10x4 =>
  bind (gate v10x4 false 3 (bind (Γ n_ref05Name [x2]) fun v13x5 =>
  bind (uop .not v13x5) fun v14x6 =>
  ret [x2, v13x5, v14x6])) (c3 fun _ _ q7_2 =>
  bind (pick v10x4 (Value.bool true) q7_2) fun v15x8 =>
  cnd v15x8
  (bind (ldA 2 v3x1) fun v16x9 =>
  bind (stA 2 v6x2 v16x9) fun _ =>
  bind (ldA 2 v6x2) fun vrx10 =>
  ret (Value.tuple #[vrx10, (Value.int .i64 10)]))
  (bind (fa 0 v3x1) fun v17x11 =>
  bind (ld1 v17x11) fun v18x12 =>
  bind (Γ n_ref10Has [v18x12, x1]) fun v20x13 =>
  bind (uop .not v20x13) fun v21x14 =>
  cnd v21x14
  (bind (ldA 2 v3x1) fun v22x15 =>
  bind (stA 2 v6x2 v22x15) fun _ =>
  bind (ldA 2 v6x2) fun vrx16 =>
  ret (Value.tuple #[vrx16, (Value.int .i64 8)]))
  (bind (ldA 2 v3x1) fun v23x17 =>
  bind (Γ n_ref10In [v23x17, x1, x2]) fun v26x18 =>
  cnd v26x18
  (bind (ldA 2 v3x1) fun v27x19 =>
  bind (stA 2 v6x2 v27x19) fun _ =>
  bind (ldA 2 v6x2) fun vrx20 =>
  ret (Value.tuple #[vrx20, (Value.int .i64 9)]))
  (bind (bsl 2 0 (.agg #[.string ⟨#[]⟩, .string ⟨#[]⟩]) []) fun v28x21 =>
  bind (fa 1 v3x1) fun v29x22 =>
  bind (ld1 v29x22) fun v30x23 =>
  bind (app 2 32 v28x21 v30x23) fun v31x24 =>
  bind (bld (.agg #[.string ⟨#[]⟩, .string ⟨#[]⟩]) [(0, 1, x1), (1, 1, x2)]) fun v34x25 =>
  bind (bsl 2 1 (.agg #[.string ⟨#[]⟩, .string ⟨#[]⟩]) [(0, 2, v34x25)]) fun v35x26 =>
  bind (app 2 32 v31x24 v35x26) fun v36x27 =>
  bind (fa 1 v3x1) fun v37x28 =>
  bind (st1 v37x28 v36x27) fun _ =>
  bind (ldA 2 v3x1) fun v38x29 =>
  bind (stA 2 v6x2 v38x29) fun _ =>
  bind (ldA 2 v6x2) fun vrx30 =>
  ret (Value.tuple #[vrx30, (Value.int .i64 0)])))))

set_option maxRecDepth 100000 in
theorem rf_ref10Join (Γ : Funs) (x0 x1 x2 : Value) : runF Try.prog Γ Try.f60 lv_ref10Join [x0, x1, x2] = F_ref10Join Γ x0 x1 x2 := by kernel_rfl

theorem run_ref10Join {prim : FuncId → Option (List Value → M Value)} (hp : prim n_ref10Join = none) (n : Nat) (x0 x1 x2 : Value) : run Try.prog prim lvs (n + 1) n_ref10Join [x0, x1, x2] = F_ref10Join (run Try.prog prim lvs n) x0 x1 x2 :=
  (run_fn hp (by kernel_rfl) Try.func60 (by kernel_rfl)).trans (rf_ref10Join _ x0 x1 x2)

/-- interrex/interrexref10.Leave -/
noncomputable def F_ref10Leave (Γ : Funs) (x0 x1 x2 : Value) : M Value :=
  bind (alc 1 x0) fun v3x1 =>
  bind (alc 1 (.agg #[.slice none 0 0, .slice none 0 0])) fun v6x2 =>
  bind (Γ n_ref05Name [x1]) fun v9x3 =>
  bind (uop .not v9x3) fun v10x4 =>
  bind (gate v10x4 false 3 (bind (Γ n_ref05Name [x2]) fun v13x5 =>
  bind (uop .not v13x5) fun v14x6 =>
  ret [x2, v13x5, v14x6])) (c3 fun _ _ q7_2 =>
  bind (pick v10x4 (Value.bool true) q7_2) fun v15x8 =>
  cnd v15x8
  (bind (ldA 2 v3x1) fun v16x9 =>
  bind (stA 2 v6x2 v16x9) fun _ =>
  bind (ldA 2 v6x2) fun vrx10 =>
  ret (Value.tuple #[vrx10, (Value.int .i64 10)]))
  (bind (fa 0 v3x1) fun v17x11 =>
  bind (ld1 v17x11) fun v18x12 =>
  bind (Γ n_ref10Has [v18x12, x1]) fun v20x13 =>
  bind (uop .not v20x13) fun v21x14 =>
  cnd v21x14
  (bind (ldA 2 v3x1) fun v22x15 =>
  bind (stA 2 v6x2 v22x15) fun _ =>
  bind (ldA 2 v6x2) fun vrx16 =>
  ret (Value.tuple #[vrx16, (Value.int .i64 8)]))
  (bind (ldA 2 v3x1) fun v23x17 =>
  bind (Γ n_ref10In [v23x17, x1, x2]) fun v26x18 =>
  bind (uop .not v26x18) fun v27x19 =>
  cnd v27x19
  (bind (ldA 2 v3x1) fun v28x20 =>
  bind (stA 2 v6x2 v28x20) fun _ =>
  bind (ldA 2 v6x2) fun vrx21 =>
  ret (Value.tuple #[vrx21, (Value.int .i64 12)]))
  (bind (ldA 2 v3x1) fun v29x22 =>
  bind (Γ n_ref10Without [v29x22, x1, x2]) fun v32x23 =>
  bind (stA 2 v6x2 v32x23) fun _ =>
  bind (ldA 2 v6x2) fun vrx24 =>
  ret (Value.tuple #[vrx24, (Value.int .i64 0)])))))

set_option maxRecDepth 100000 in
theorem rf_ref10Leave (Γ : Funs) (x0 x1 x2 : Value) : runF Try.prog Γ Try.f61 lv_ref10Leave [x0, x1, x2] = F_ref10Leave Γ x0 x1 x2 := by kernel_rfl

theorem run_ref10Leave {prim : FuncId → Option (List Value → M Value)} (hp : prim n_ref10Leave = none) (n : Nat) (x0 x1 x2 : Value) : run Try.prog prim lvs (n + 1) n_ref10Leave [x0, x1, x2] = F_ref10Leave (run Try.prog prim lvs n) x0 x1 x2 :=
  (run_fn hp (by kernel_rfl) Try.func61 (by kernel_rfl)).trans (rf_ref10Leave _ x0 x1 x2)

/-- (*interrex/group.Groups).Leave -/
noncomputable def F_groupGroupsLeave (Γ : Funs) (x0 x1 x2 : Value) : M Value :=
  bind (bsl 1 1 (.string ⟨#[]⟩) [(0, 1, x2)]) fun v15x1 =>
  bind (Γ n_groupGroupsFind [x0, x1, v15x1]) fun v16x2 =>
  bind (extr v16x2 0) fun v17x3 =>
  bind (extr v16x2 1) fun v18x4 =>
  bind (bop .int .neq v18x4 (Value.int .i64 0)) fun v20x5 =>
  cnd v20x5
  (ret v18x4)
  (bind (lkp .str (.agg #[]) true v17x3 x2) fun v25x6 =>
  bind (extr v25x6 0) fun v26x7 =>
  bind (extr v25x6 1) fun v27x8 =>
  bind (alc 1 (.agg #[])) fun v9x9 =>
  bind (stA 0 v9x9 v26x7) fun _ =>
  bind (uop .not v27x8) fun v29x10 =>
  cnd v29x10
  (ret (Value.int .i64 12))
  (bind (mde .str v17x3 x2) fun _ =>
  ret (Value.int .i64 0)))

set_option maxRecDepth 100000 in
theorem rf_groupGroupsLeave (Γ : Funs) (x0 x1 x2 : Value) : runF Try.prog Γ Try.f62 lv_groupGroupsLeave [x0, x1, x2] = F_groupGroupsLeave Γ x0 x1 x2 := by kernel_rfl

theorem run_groupGroupsLeave {prim : FuncId → Option (List Value → M Value)} (hp : prim n_groupGroupsLeave = none) (n : Nat) (x0 x1 x2 : Value) : run Try.prog prim lvs (n + 1) n_groupGroupsLeave [x0, x1, x2] = F_groupGroupsLeave (run Try.prog prim lvs n) x0 x1 x2 :=
  (run_fn hp (by kernel_rfl) Try.func62 (by kernel_rfl)).trans (rf_groupGroupsLeave _ x0 x1 x2)

/-- interrex/interrexref10.Rename: a round. -/
noncomputable def F_ref10Rename.l1 (Γ : Funs) (s1 s2 s3 s6 s8 s27 s28 s29 : Value) : M Out :=
  bind (bop .int .lss s29 s28) fun v30x19 =>
  cnd v30x19
  (bind (ixa 2 s27 s29) fun v31x20 =>
  bind (ldA 2 v31x20) fun v32x21 =>
  bind (alc 1 (.agg #[.string ⟨#[]⟩, .string ⟨#[]⟩])) fun v10x22 =>
  bind (stA 2 v10x22 v32x21) fun _ =>
  bind (fa 1 v10x22) fun v33x23 =>
  bind (ld1 v33x23) fun v34x24 =>
  bind (bop .str .eql v34x24 s1) fun v36x25 =>
  jn (cnd v36x25
  (bind (fa 1 v10x22) fun v38x26 =>
  bind (st1 v38x26 s2) fun _ =>
  ret (.nrm [s1, s2, s3, s6, s8, v10x22, s27, s28, s29]))
  (ret (.nrm [s1, s2, s3, s6, s8, v10x22, s27, s28, s29]))) (c9 fun q27_0 q27_1 q27_2 q27_3 q27_4 q27_5 q27_6 q27_7 q27_8 =>
  bind (ldA 2 q27_5) fun v40x28 =>
  bind (bsl 2 1 (.agg #[.string ⟨#[]⟩, .string ⟨#[]⟩]) [(0, 2, v40x28)]) fun v41x29 =>
  bind (app 2 32 q27_4 v41x29) fun v42x30 =>
  bind (bop .int .add q27_8 (Value.int .i64 1)) fun v43x31 =>
  ret (.nrm [q27_0, q27_1, q27_2, q27_3, v42x30, q27_6, q27_7, v43x31])) noX retR)
  (ret (.ext 0 [s3, s6, s8]))

/-- interrex/interrexref10.Rename -/
noncomputable def F_ref10Rename (Γ : Funs) (x0 x1 x2 : Value) : M Value :=
  bind (alc 1 x0) fun v3x1 =>
  bind (alc 1 (.agg #[.slice none 0 0, .slice none 0 0])) fun v6x2 =>
  bind (Γ n_ref05Name [x2]) fun v12x3 =>
  bind (uop .not v12x3) fun v13x4 =>
  cnd v13x4
  (bind (ldA 2 v3x1) fun v14x5 =>
  bind (stA 2 v6x2 v14x5) fun _ =>
  bind (ldA 2 v6x2) fun vrx6 =>
  ret (Value.tuple #[vrx6, (Value.int .i64 10)]))
  (bind (bop .str .neq x1 x2) fun v17x7 =>
  bind (gate v17x7 true 5 (bind (ldA 2 v3x1) fun v19x8 =>
  bind (Γ n_ref10Of [v19x8, x2]) fun v21x9 =>
  bind (lenS v21x9) fun v22x10 =>
  bind (bop .int .gtr v22x10 (Value.int .i64 0)) fun v23x11 =>
  ret [v19x8, x2, v21x9, v22x10, v23x11])) (c5 fun _ _ _ _ q12_4 =>
  bind (pick v17x7 q12_4 (Value.bool false)) fun v24x13 =>
  cnd v24x13
  (bind (ldA 2 v3x1) fun v25x14 =>
  bind (stA 2 v6x2 v25x14) fun _ =>
  bind (ldA 2 v6x2) fun vrx15 =>
  ret (Value.tuple #[vrx15, (Value.int .i64 9)]))
  (bind (fa 1 v3x1) fun v26x16 =>
  bind (ld1 v26x16) fun v27x17 =>
  bind (lenS v27x17) fun v28x18 =>
  jn (loopM (c8 (F_ref10Rename.l1 Γ)) [x1, x2, v3x1, v6x2, (Value.slice none 0 0), v27x17, v28x18, (Value.int .i64 0)]) noN (xk 0 (c3 fun q34_0 q34_1 q34_2 =>
  bind (fa 1 q34_0) fun v45x35 =>
  bind (st1 v45x35 q34_2) fun _ =>
  bind (ldA 2 q34_0) fun v46x36 =>
  bind (stA 2 q34_1 v46x36) fun _ =>
  bind (ldA 2 q34_1) fun vrx37 =>
  ret (Value.tuple #[vrx37, (Value.int .i64 0)])) noX) ret)))

set_option maxRecDepth 100000 in
theorem rf_ref10Rename (Γ : Funs) (x0 x1 x2 : Value) : runF Try.prog Γ Try.f63 lv_ref10Rename [x0, x1, x2] = F_ref10Rename Γ x0 x1 x2 := by kernel_rfl

theorem run_ref10Rename {prim : FuncId → Option (List Value → M Value)} (hp : prim n_ref10Rename = none) (n : Nat) (x0 x1 x2 : Value) : run Try.prog prim lvs (n + 1) n_ref10Rename [x0, x1, x2] = F_ref10Rename (run Try.prog prim lvs n) x0 x1 x2 :=
  (run_fn hp (by kernel_rfl) Try.func63 (by kernel_rfl)).trans (rf_ref10Rename _ x0 x1 x2)

/-- interrex/interrexref10.Remove: a round. -/
noncomputable def F_ref10Remove.l1 (Γ : Funs) (s1 s2 s4 s6 s12 s13 s14 : Value) : M Out :=
  bind (bop .int .lss s14 s13) fun v15x6 =>
  cnd v15x6
  (bind (ixa 1 s12 s14) fun v16x7 =>
  bind (ld1 v16x7) fun v17x8 =>
  bind (ldA 2 s2) fun v18x9 =>
  bind (Γ n_ref10Without [v18x9, v17x8, s1]) fun v21x10 =>
  bind (stA 2 s2 v21x10) fun _ =>
  bind (bop .int .add s14 (Value.int .i64 1)) fun v22x11 =>
  ret (.nrm [s1, s2, s4, s6, s12, s13, v22x11]))
  (ret (.ext 0 [s2, s4, s6]))

/-- interrex/interrexref10.Remove -/
noncomputable def F_ref10Remove (Γ : Funs) (x0 x1 : Value) : M Value :=
  bind (alc 1 x0) fun v2x1 =>
  bind (alc 1 (.agg #[.slice none 0 0, .slice none 0 0])) fun v4x2 =>
  bind (ldA 2 v2x1) fun v9x3 =>
  bind (Γ n_ref10Of [v9x3, x1]) fun v11x4 =>
  bind (lenS v11x4) fun v13x5 =>
  jn (loopM (c7 (F_ref10Remove.l1 Γ)) [x1, v2x1, v4x2, v11x4, v11x4, v13x5, (Value.int .i64 0)]) noN (xk 0 (c3 fun q13_0 q13_1 q13_2 =>
  bind (ldA 2 q13_0) fun v23x14 =>
  bind (lenS q13_2) fun v25x15 =>
  bind (stA 2 q13_1 v23x14) fun _ =>
  bind (ldA 2 q13_1) fun vrx16 =>
  ret (Value.tuple #[vrx16, v25x15])) noX) ret

set_option maxRecDepth 100000 in
theorem rf_ref10Remove (Γ : Funs) (x0 x1 : Value) : runF Try.prog Γ Try.f64 lv_ref10Remove [x0, x1] = F_ref10Remove Γ x0 x1 := by kernel_rfl

theorem run_ref10Remove {prim : FuncId → Option (List Value → M Value)} (hp : prim n_ref10Remove = none) (n : Nat) (x0 x1 : Value) : run Try.prog prim lvs (n + 1) n_ref10Remove [x0, x1] = F_ref10Remove (run Try.prog prim lvs n) x0 x1 :=
  (run_fn hp (by kernel_rfl) Try.func64 (by kernel_rfl)).trans (rf_ref10Remove _ x0 x1)

-- 65 ("(*interrex/group.Groups).Copy"): not covered: range
/-- (*interrex/group.Groups).Of$1 -/
noncomputable def F_groupGroupsOf1 (Γ : Funs) (x0 x1 x2 : Value) : M Value :=
  bind (ld1 x1) fun v8x1 =>
  bind (nilc v8x1) fun v9x2 =>
  bind (fa 0 v9x2) fun v10x3 =>
  bind (ld1 v10x3) fun v11x4 =>
  bind (lkp .str (.map none) false v11x4 x0) fun v13x5 =>
  bind (ld1 x2) fun v14x6 =>
  bind (lkp .str (.agg #[]) true v13x5 v14x6) fun v15x7 =>
  bind (extr v15x7 0) fun v16x8 =>
  bind (extr v15x7 1) fun v17x9 =>
  bind (alc 1 (.agg #[])) fun v5x10 =>
  bind (lkp .str (.agg #[]) true v13x5 v14x6) fun u_11 => same u_11 v15x7 <|
  bind (ld1 x2) fun u_12 => same u_12 v14x6 <|
  bind (lkp .str (.map none) false v11x4 x0) fun u_13 => same u_13 v13x5 <|
  bind (ld1 v10x3) fun u_14 => same u_14 v11x4 <|
  bind (ld1 x1) fun u_15 => same u_15 v8x1 <|
  bind (stA 0 v5x10 v16x8) fun _ =>
  bind (uop .not v17x9) fun v19x16 =>
  ret v19x16

set_option maxRecDepth 100000 in
theorem rf_groupGroupsOf1 (Γ : Funs) (x0 x1 x2 : Value) : runF Try.prog Γ Try.f66 lv_groupGroupsOf1 [x0, x1, x2] = F_groupGroupsOf1 Γ x0 x1 x2 := by kernel_rfl

theorem run_groupGroupsOf1 {prim : FuncId → Option (List Value → M Value)} (hp : prim n_groupGroupsOf1 = none) (n : Nat) (x0 x1 x2 : Value) : run Try.prog prim lvs (n + 1) n_groupGroupsOf1 [x0, x1, x2] = F_groupGroupsOf1 (run Try.prog prim lvs n) x0 x1 x2 :=
  (run_fn hp (by kernel_rfl) Try.func66 (by kernel_rfl)).trans (rf_groupGroupsOf1 _ x0 x1 x2)

/-- interrex/group.names: a round. -/
noncomputable def F_groupNames.l1 (Γ : Funs) (s6 s7 s8 : Value) : M Out :=
  bind (bop .int .lss s8 s7) fun v9x2 =>
  cnd v9x2
  (bind (ixa 1 s6 s8) fun v10x3 =>
  bind (ld1 v10x3) fun v11x4 =>
  bind (Γ n_nameName [v11x4]) fun v13x5 =>
  bind (bop .int .neq v13x5 (Value.int .i64 0)) fun v15x6 =>
  cnd v15x6
  (ret (.ret v13x5))
  (bind (bop .int .add s8 (Value.int .i64 1)) fun v17x7 =>
  ret (.nrm [s6, s7, v17x7])))
  (ret (.ext 0 []))

/-- interrex/group.names -/
noncomputable def F_groupNames (Γ : Funs) (x0 : Value) : M Value :=
  bind (lenS x0) fun v7x1 =>
  jn (loopM (c3 (F_groupNames.l1 Γ)) [x0, v7x1, (Value.int .i64 0)]) noN (xk 0 (c0 (ret (Value.int .i64 0))) noX) ret

set_option maxRecDepth 100000 in
theorem rf_groupNames (Γ : Funs) (x0 : Value) : runF Try.prog Γ Try.f67 lv_groupNames [x0] = F_groupNames Γ x0 := by kernel_rfl

theorem run_groupNames {prim : FuncId → Option (List Value → M Value)} (hp : prim n_groupNames = none) (n : Nat) (x0 : Value) : run Try.prog prim lvs (n + 1) n_groupNames [x0] = F_groupNames (run Try.prog prim lvs n) x0 :=
  (run_fn hp (by kernel_rfl) Try.func67 (by kernel_rfl)).trans (rf_groupNames _ x0)

/-- interrex/group.rising[interrex/group.set] -/
noncomputable def F_groupRisingGroupSet (Γ : Funs) (x0 : Value) : M Value :=
  bind (Γ n_mapsKeysMapStringgroupSetStringGroupSet [x0]) fun v4x1 =>
  bind (Γ n_slicesSortedFuncString [v4x1, (Value.func (.func 79) #[] #[])]) fun v5x2 =>
  ret v5x2

set_option maxRecDepth 100000 in
theorem rf_groupRisingGroupSet (Γ : Funs) (x0 : Value) : runF Try.prog Γ Try.f68 lv_groupRisingGroupSet [x0] = F_groupRisingGroupSet Γ x0 := by kernel_rfl

theorem run_groupRisingGroupSet {prim : FuncId → Option (List Value → M Value)} (hp : prim n_groupRisingGroupSet = none) (n : Nat) (x0 : Value) : run Try.prog prim lvs (n + 1) n_groupRisingGroupSet [x0] = F_groupRisingGroupSet (run Try.prog prim lvs n) x0 :=
  (run_fn hp (by kernel_rfl) Try.func68 (by kernel_rfl)).trans (rf_groupRisingGroupSet _ x0)

/-- (*interrex/group.Groups).find -/
noncomputable def F_groupGroupsFind (Γ : Funs) (x0 x1 x2 : Value) : M Value :=
  bind (bsl 1 1 (.string ⟨#[]⟩) [(0, 1, x1)]) fun v12x1 =>
  bind (app 1 16 v12x1 x2) fun v14x2 =>
  bind (Γ n_groupNames [v14x2]) fun v15x3 =>
  bind (bop .int .neq v15x3 (Value.int .i64 0)) fun v17x4 =>
  cnd v17x4
  (ret (Value.tuple #[(Value.map none), v15x3]))
  (bind (nilc x0) fun v21x5 =>
  bind (fa 0 v21x5) fun v22x6 =>
  bind (ld1 v22x6) fun v23x7 =>
  bind (lkp .str (.map none) true v23x7 x1) fun v25x8 =>
  bind (extr v25x8 0) fun v26x9 =>
  bind (extr v25x8 1) fun v27x10 =>
  bind (uop .not v27x10) fun v29x11 =>
  cnd v29x11
  (ret (Value.tuple #[(Value.map none), (Value.int .i64 8)]))
  (ret (Value.tuple #[v26x9, (Value.int .i64 0)])))

set_option maxRecDepth 100000 in
theorem rf_groupGroupsFind (Γ : Funs) (x0 x1 x2 : Value) : runF Try.prog Γ Try.f69 lv_groupGroupsFind [x0, x1, x2] = F_groupGroupsFind Γ x0 x1 x2 := by kernel_rfl

theorem run_groupGroupsFind {prim : FuncId → Option (List Value → M Value)} (hp : prim n_groupGroupsFind = none) (n : Nat) (x0 x1 x2 : Value) : run Try.prog prim lvs (n + 1) n_groupGroupsFind [x0, x1, x2] = F_groupGroupsFind (run Try.prog prim lvs n) x0 x1 x2 :=
  (run_fn hp (by kernel_rfl) Try.func69 (by kernel_rfl)).trans (rf_groupGroupsFind _ x0 x1 x2)

/-- interrex/group.rising[struct{}] -/
noncomputable def F_groupRisingStruct (Γ : Funs) (x0 : Value) : M Value :=
  bind (Γ n_mapsKeysMapStringstructStringStruct [x0]) fun v4x1 =>
  bind (Γ n_slicesSortedFuncString [v4x1, (Value.func (.func 79) #[] #[])]) fun v5x2 =>
  ret v5x2

set_option maxRecDepth 100000 in
theorem rf_groupRisingStruct (Γ : Funs) (x0 : Value) : runF Try.prog Γ Try.f70 lv_groupRisingStruct [x0] = F_groupRisingStruct Γ x0 := by kernel_rfl

theorem run_groupRisingStruct {prim : FuncId → Option (List Value → M Value)} (hp : prim n_groupRisingStruct = none) (n : Nat) (x0 : Value) : run Try.prog prim lvs (n + 1) n_groupRisingStruct [x0] = F_groupRisingStruct (run Try.prog prim lvs n) x0 :=
  (run_fn hp (by kernel_rfl) Try.func70 (by kernel_rfl)).trans (rf_groupRisingStruct _ x0)

/-- interrex/interrexref10.has: a round. -/
noncomputable def F_ref10Has.l1 (Γ : Funs) (s1 s7 s8 s9 : Value) : M Out :=
  bind (bop .int .lss s9 s8) fun v10x2 =>
  cnd v10x2
  (bind (ixa 1 s7 s9) fun v11x3 =>
  bind (ld1 v11x3) fun v12x4 =>
  bind (bop .str .eql v12x4 s1) fun v15x5 =>
  cnd v15x5
  (ret (.ret (Value.bool true)))
  (bind (bop .int .add s9 (Value.int .i64 1)) fun v16x6 =>
  ret (.nrm [s1, s7, s8, v16x6])))
  (ret (.ext 0 []))

/-- interrex/interrexref10.has -/
noncomputable def F_ref10Has (Γ : Funs) (x0 x1 : Value) : M Value :=
  bind (lenS x0) fun v8x1 =>
  jn (loopM (c4 (F_ref10Has.l1 Γ)) [x1, x0, v8x1, (Value.int .i64 0)]) noN (xk 0 (c0 (ret (Value.bool false))) noX) ret

set_option maxRecDepth 100000 in
theorem rf_ref10Has (Γ : Funs) (x0 x1 : Value) : runF Try.prog Γ Try.f71 lv_ref10Has [x0, x1] = F_ref10Has Γ x0 x1 := by kernel_rfl

theorem run_ref10Has {prim : FuncId → Option (List Value → M Value)} (hp : prim n_ref10Has = none) (n : Nat) (x0 x1 : Value) : run Try.prog prim lvs (n + 1) n_ref10Has [x0, x1] = F_ref10Has (run Try.prog prim lvs n) x0 x1 :=
  (run_fn hp (by kernel_rfl) Try.func71 (by kernel_rfl)).trans (rf_ref10Has _ x0 x1)

/-- interrex/interrexref10.Sorted: a round. -/
noncomputable def F_ref10Sorted.l2 (Γ : Funs) (s5 s6 s7 s10 s11 s12 s19 s20 s21 : Value) : M Out :=
  bind (bop .int .lss s21 s20) fun v22x7 =>
  cnd v22x7
  (bind (ixa 1 s19 s21) fun v23x8 =>
  bind (ld1 v23x8) fun v24x9 =>
  bind (uop .not s7) fun v26x10 =>
  bind (gate v26x10 true 3 (bind (bop .str .lss s5 v24x9) fun v30x11 =>
  ret [s5, v24x9, v30x11])) (c3 fun _ _ q12_2 =>
  bind (pick v26x10 q12_2 (Value.bool false)) fun v31x13 =>
  jn (cnd v31x13
  (bind (bsl 1 1 (.string ⟨#[]⟩) [(0, 1, s5)]) fun v34x14 =>
  bind (app 1 16 s6 v34x14) fun v35x15 =>
  ret (.nrm [s5, v35x15, (Value.bool true), v24x9, s10, s11, s12, s19, s20, s21]))
  (ret (.nrm [s5, s6, s7, v24x9, s10, s11, s12, s19, s20, s21]))) (c10 fun q16_0 q16_1 q16_2 q16_3 q16_4 q16_5 q16_6 q16_7 q16_8 q16_9 =>
  bind (bsl 1 1 (.string ⟨#[]⟩) [(0, 1, q16_3)]) fun v38x17 =>
  bind (app 1 16 q16_1 v38x17) fun v39x18 =>
  bind (bop .int .add q16_9 (Value.int .i64 1)) fun v40x19 =>
  ret (.nrm [q16_0, v39x18, q16_2, q16_4, q16_5, q16_6, q16_7, q16_8, v40x19])) noX retR))
  (ret (.ext 2 [s5, s6, s7, s10, s11, s12]))

/-- interrex/interrexref10.Sorted: a round. -/
noncomputable def F_ref10Sorted.l1 (Γ : Funs) (s3 s10 s11 s12 : Value) : M Out :=
  bind (bop .int .lss s12 s11) fun v13x2 =>
  cnd v13x2
  (jn (bind (ixa 1 s10 s12) fun v14x3 =>
  bind (ld1 v14x3) fun v15x4 =>
  bind (Γ n_ref10Has [s3, v15x4]) fun v18x5 =>
  cnd v18x5
  (ret (.nrm [s3, s10, s11, s12]))
  (bind (lenS s3) fun v20x6 =>
  jn (loopM (c9 (F_ref10Sorted.l2 Γ)) [v15x4, (Value.slice none 0 0), (Value.bool false), s10, s11, s12, s3, v20x6, (Value.int .i64 0)]) noN (xk 2 (c6 fun q22_0 q22_1 q22_2 q22_3 q22_4 q22_5 =>
  bind (uop .not q22_2) fun v42x23 =>
  jn (cnd v42x23
  (bind (bsl 1 1 (.string ⟨#[]⟩) [(0, 1, q22_0)]) fun v45x24 =>
  bind (app 1 16 q22_1 v45x24) fun v46x25 =>
  ret (.nrm [v46x25, q22_3, q22_4, q22_5]))
  (ret (.nrm [q22_1, q22_3, q22_4, q22_5]))) (c4 fun q26_0 q26_1 q26_2 q26_3 =>
  ret (.nrm [q26_0, q26_1, q26_2, q26_3])) noX retR) noX) retR)) (c4 fun q29_0 q29_1 q29_2 q29_3 =>
  bind (bop .int .add q29_3 (Value.int .i64 1)) fun v48x30 =>
  ret (.nrm [q29_0, q29_1, q29_2, v48x30])) noX retR)
  (ret (.ext 0 [s3]))

/-- interrex/interrexref10.Sorted -/
noncomputable def F_ref10Sorted (Γ : Funs) (x0 : Value) : M Value :=
  bind (lenS x0) fun v11x1 =>
  jn (loopM (c4 (F_ref10Sorted.l1 Γ)) [(Value.slice none 0 0), x0, v11x1, (Value.int .i64 0)]) noN (xk 0 (c1 fun q33_0 =>
  ret q33_0) noX) ret

set_option maxRecDepth 100000 in
theorem rf_ref10Sorted (Γ : Funs) (x0 : Value) : runF Try.prog Γ Try.f72 lv_ref10Sorted [x0] = F_ref10Sorted Γ x0 := by kernel_rfl

theorem run_ref10Sorted {prim : FuncId → Option (List Value → M Value)} (hp : prim n_ref10Sorted = none) (n : Nat) (x0 : Value) : run Try.prog prim lvs (n + 1) n_ref10Sorted [x0] = F_ref10Sorted (run Try.prog prim lvs n) x0 :=
  (run_fn hp (by kernel_rfl) Try.func72 (by kernel_rfl)).trans (rf_ref10Sorted _ x0)

/-- interrex/name.Name -/
noncomputable def F_nameName (Γ : Funs) (x0 : Value) : M Value :=
  bind (Γ n_nameIsName [x0]) fun v4x1 =>
  bind (uop .not v4x1) fun v5x2 =>
  cnd v5x2
  (ret (Value.int .i64 10))
  (ret (Value.int .i64 0))

set_option maxRecDepth 100000 in
theorem rf_nameName (Γ : Funs) (x0 : Value) : runF Try.prog Γ Try.f73 lv_nameName [x0] = F_nameName Γ x0 := by kernel_rfl

theorem run_nameName {prim : FuncId → Option (List Value → M Value)} (hp : prim n_nameName = none) (n : Nat) (x0 : Value) : run Try.prog prim lvs (n + 1) n_nameName [x0] = F_nameName (run Try.prog prim lvs n) x0 :=
  (run_fn hp (by kernel_rfl) Try.func73 (by kernel_rfl)).trans (rf_nameName _ x0)

/-- interrex/elder.sum$1 -/
noncomputable def F_elderSum1 (Γ : Funs) (x0 : Value) : M Value :=
  bind (ld1 x0) fun v2x1 =>
  bind (Γ n_nameHash [v2x1]) fun v3x2 =>
  ret v3x2

set_option maxRecDepth 100000 in
theorem rf_elderSum1 (Γ : Funs) (x0 : Value) : runF Try.prog Γ Try.f74 lv_elderSum1 [x0] = F_elderSum1 Γ x0 := by kernel_rfl

theorem run_elderSum1 {prim : FuncId → Option (List Value → M Value)} (hp : prim n_elderSum1 = none) (n : Nat) (x0 : Value) : run Try.prog prim lvs (n + 1) n_elderSum1 [x0] = F_elderSum1 (run Try.prog prim lvs n) x0 :=
  (run_fn hp (by kernel_rfl) Try.func74 (by kernel_rfl)).trans (rf_elderSum1 _ x0)

/-- interrex/name.Hash -/
noncomputable def F_nameHash (Γ : Funs) (x0 : Value) : M Value :=
  bind (bop .str .eql x0 (Value.string ⟨#[]⟩)) fun v5x1 =>
  bind (gate v5x1 false 3 (bind (lenT x0) fun v8x2 =>
  bind (bop .int .gtr v8x2 (Value.int .i64 12)) fun v9x3 =>
  ret [x0, v8x2, v9x3])) (c3 fun _ _ q4_2 =>
  bind (pick v5x1 (Value.bool true) q4_2) fun v10x5 =>
  bind (gate v10x5 false 4 (bind (Γ n_nameAll [x0, (Value.func (.func 97) #[] #[])]) fun v14x6 =>
  bind (uop .not v14x6) fun v15x7 =>
  ret [x0, (Value.func (.func 97) #[] #[]), v14x6, v15x7])) (c4 fun _ _ _ q8_3 =>
  bind (pick v10x5 (Value.bool true) q8_3) fun v16x9 =>
  cnd v16x9
  (ret (Value.int .i64 4))
  (ret (Value.int .i64 0))))

set_option maxRecDepth 100000 in
theorem rf_nameHash (Γ : Funs) (x0 : Value) : runF Try.prog Γ Try.f75 lv_nameHash [x0] = F_nameHash Γ x0 := by kernel_rfl

theorem run_nameHash {prim : FuncId → Option (List Value → M Value)} (hp : prim n_nameHash = none) (n : Nat) (x0 : Value) : run Try.prog prim lvs (n + 1) n_nameHash [x0] = F_nameHash (run Try.prog prim lvs n) x0 :=
  (run_fn hp (by kernel_rfl) Try.func75 (by kernel_rfl)).trans (rf_nameHash _ x0)

/-- (*interrex/elder.Dir).room$1 -/
noncomputable def F_elderDirRoom1 (Γ : Funs) (x0 x1 : Value) : M Value :=
  bind (ld1 x0) fun v3x1 =>
  bind (ld1 x1) fun v4x2 =>
  bind (Γ n_elderDirThere [v3x1, v4x2]) fun v5x3 =>
  bind (callv Γ v5x3 []) fun v6x4 =>
  bind (bop .int .eql v6x4 (Value.int .i64 0)) fun v7x5 =>
  cnd v7x5
  (ret (Value.int .i64 9))
  (bind (ld1 x0) fun v8x6 =>
  bind (nilc v8x6) fun v9x7 =>
  bind (fa 0 v9x7) fun v10x8 =>
  bind (ld1 v10x8) fun v11x9 =>
  bind (lenM v11x9) fun v12x10 =>
  bind (bop .int .geq v12x10 (Value.int .i64 12)) fun v13x11 =>
  cnd v13x11
  (ret (Value.int .i64 7))
  (ret (Value.int .i64 0)))

set_option maxRecDepth 100000 in
theorem rf_elderDirRoom1 (Γ : Funs) (x0 x1 : Value) : runF Try.prog Γ Try.f76 lv_elderDirRoom1 [x0, x1] = F_elderDirRoom1 Γ x0 x1 := by kernel_rfl

theorem run_elderDirRoom1 {prim : FuncId → Option (List Value → M Value)} (hp : prim n_elderDirRoom1 = none) (n : Nat) (x0 x1 : Value) : run Try.prog prim lvs (n + 1) n_elderDirRoom1 [x0, x1] = F_elderDirRoom1 (run Try.prog prim lvs n) x0 x1 :=
  (run_fn hp (by kernel_rfl) Try.func76 (by kernel_rfl)).trans (rf_elderDirRoom1 _ x0 x1)

/-- slices.SortedFunc[string] -/
noncomputable def F_slicesSortedFuncString (Γ : Funs) (x0 x1 : Value) : M Value :=
  bind (Γ n_slicesCollectString [x0]) fun v7x1 =>
  bind (Γ n_slicesSortFuncstringString [v7x1, x1]) fun v10x2 =>
  ret v7x1

set_option maxRecDepth 100000 in
theorem rf_slicesSortedFuncString (Γ : Funs) (x0 x1 : Value) : runF Try.prog Γ Try.f77 lv_slicesSortedFuncString [x0, x1] = F_slicesSortedFuncString Γ x0 x1 := by kernel_rfl

theorem run_slicesSortedFuncString {prim : FuncId → Option (List Value → M Value)} (hp : prim n_slicesSortedFuncString = none) (n : Nat) (x0 x1 : Value) : run Try.prog prim lvs (n + 1) n_slicesSortedFuncString [x0, x1] = F_slicesSortedFuncString (run Try.prog prim lvs n) x0 x1 :=
  (run_fn hp (by kernel_rfl) Try.func77 (by kernel_rfl)).trans (rf_slicesSortedFuncString _ x0 x1)

/-- maps.Keys[map[string]string,string,string] -/
noncomputable def F_mapsKeysMapStringstringStringString (Γ : Funs) (x0 : Value) : M Value :=
  bind (alc 1 x0) fun v1x1 =>
  ret (Value.func (.func 101) #[] #[v1x1])

set_option maxRecDepth 100000 in
theorem rf_mapsKeysMapStringstringStringString (Γ : Funs) (x0 : Value) : runF Try.prog Γ Try.f78 lv_mapsKeysMapStringstringStringString [x0] = F_mapsKeysMapStringstringStringString Γ x0 := by kernel_rfl

theorem run_mapsKeysMapStringstringStringString {prim : FuncId → Option (List Value → M Value)} (hp : prim n_mapsKeysMapStringstringStringString = none) (n : Nat) (x0 : Value) : run Try.prog prim lvs (n + 1) n_mapsKeysMapStringstringStringString [x0] = F_mapsKeysMapStringstringStringString (run Try.prog prim lvs n) x0 :=
  (run_fn hp (by kernel_rfl) Try.func78 (by kernel_rfl)).trans (rf_mapsKeysMapStringstringStringString _ x0)

/-- interrex/name.Compare -/
noncomputable def F_nameCompare (Γ : Funs) (x0 x1 : Value) : M Value :=
  bind (Γ n_cmpCompareString [x0, x1]) fun v7x1 =>
  ret v7x1

set_option maxRecDepth 100000 in
theorem rf_nameCompare (Γ : Funs) (x0 x1 : Value) : runF Try.prog Γ Try.f79 lv_nameCompare [x0, x1] = F_nameCompare Γ x0 x1 := by kernel_rfl

theorem run_nameCompare {prim : FuncId → Option (List Value → M Value)} (hp : prim n_nameCompare = none) (n : Nat) (x0 x1 : Value) : run Try.prog prim lvs (n + 1) n_nameCompare [x0, x1] = F_nameCompare (run Try.prog prim lvs n) x0 x1 :=
  (run_fn hp (by kernel_rfl) Try.func79 (by kernel_rfl)).trans (rf_nameCompare _ x0 x1)

/-- interrex/name.all: a round. -/
noncomputable def F_nameAll.l1 (Γ : Funs) (s0 s1 s7 s8 : Value) : M Out :=
  bind (bop .int .lss s8 s7) fun v9x2 =>
  cnd v9x2
  (bind (ixs s0 s8) fun v14x3 =>
  bind (callv Γ s1 [v14x3]) fun v15x4 =>
  bind (uop .not v15x4) fun v16x5 =>
  cnd v16x5
  (ret (.ret (Value.bool false)))
  (bind (bop .int .add s8 (Value.int .i64 1)) fun v17x6 =>
  ret (.nrm [s0, s1, s7, v17x6])))
  (ret (.ext 0 []))

/-- interrex/name.all -/
noncomputable def F_nameAll (Γ : Funs) (x0 x1 : Value) : M Value :=
  bind (lenT x0) fun v7x1 =>
  jn (loopM (c4 (F_nameAll.l1 Γ)) [x0, x1, v7x1, (Value.int .i64 0)]) noN (xk 0 (c0 (ret (Value.bool true))) noX) ret

set_option maxRecDepth 100000 in
theorem rf_nameAll (Γ : Funs) (x0 x1 : Value) : runF Try.prog Γ Try.f80 lv_nameAll [x0, x1] = F_nameAll Γ x0 x1 := by kernel_rfl

theorem run_nameAll {prim : FuncId → Option (List Value → M Value)} (hp : prim n_nameAll = none) (n : Nat) (x0 x1 : Value) : run Try.prog prim lvs (n + 1) n_nameAll [x0, x1] = F_nameAll (run Try.prog prim lvs n) x0 x1 :=
  (run_fn hp (by kernel_rfl) Try.func80 (by kernel_rfl)).trans (rf_nameAll _ x0 x1)

/-- interrex/name.sign -/
noncomputable def F_nameSign (Γ : Funs) (x0 : Value) : M Value :=
  bind (Γ n_nameLetter [x0]) fun v4x1 =>
  bind (gate v4x1 false 2 (bind (Γ n_nameDigit [x0]) fun v7x2 =>
  ret [x0, v7x2])) (c2 fun _ q3_1 =>
  bind (pick v4x1 (Value.bool true) q3_1) fun v8x4 =>
  bind (gate v8x4 false 2 (bind (bop .int .eql x0 (Value.int .u8 45)) fun v11x5 =>
  ret [x0, v11x5])) (c2 fun _ q6_1 =>
  bind (pick v8x4 (Value.bool true) q6_1) fun v12x7 =>
  bind (gate v12x7 false 2 (bind (bop .int .eql x0 (Value.int .u8 46)) fun v15x8 =>
  ret [x0, v15x8])) (c2 fun _ q9_1 =>
  bind (pick v12x7 (Value.bool true) q9_1) fun v16x10 =>
  ret v16x10)))

set_option maxRecDepth 100000 in
theorem rf_nameSign (Γ : Funs) (x0 : Value) : runF Try.prog Γ Try.f81 lv_nameSign [x0] = F_nameSign Γ x0 := by kernel_rfl

theorem run_nameSign {prim : FuncId → Option (List Value → M Value)} (hp : prim n_nameSign = none) (n : Nat) (x0 : Value) : run Try.prog prim lvs (n + 1) n_nameSign [x0] = F_nameSign (run Try.prog prim lvs n) x0 :=
  (run_fn hp (by kernel_rfl) Try.func81 (by kernel_rfl)).trans (rf_nameSign _ x0)

/-- slices.IndexFunc[[]string,string]: a round. -/
noncomputable def F_slicesIndexFuncstringString.l1 (Γ : Funs) (s0 s1 s7 s8 : Value) : M Out :=
  bind (bop .int .lss s8 s7) fun v9x2 =>
  cnd v9x2
  (bind (ixa 1 s0 s8) fun v14x3 =>
  bind (ld1 v14x3) fun v15x4 =>
  bind (callv Γ s1 [v15x4]) fun v16x5 =>
  cnd v16x5
  (ret (.ret s8))
  (bind (bop .int .add s8 (Value.int .i64 1)) fun v18x6 =>
  ret (.nrm [s0, s1, s7, v18x6])))
  (ret (.ext 0 []))

/-- slices.IndexFunc[[]string,string] -/
noncomputable def F_slicesIndexFuncstringString (Γ : Funs) (x0 x1 : Value) : M Value :=
  bind (lenS x0) fun v7x1 =>
  jn (loopM (c4 (F_slicesIndexFuncstringString.l1 Γ)) [x0, x1, v7x1, (Value.int .i64 0)]) noN (xk 0 (c0 (ret (Value.int .i64 (-1)))) noX) ret

set_option maxRecDepth 100000 in
theorem rf_slicesIndexFuncstringString (Γ : Funs) (x0 x1 : Value) : runF Try.prog Γ Try.f82 lv_slicesIndexFuncstringString [x0, x1] = F_slicesIndexFuncstringString Γ x0 x1 := by kernel_rfl

theorem run_slicesIndexFuncstringString {prim : FuncId → Option (List Value → M Value)} (hp : prim n_slicesIndexFuncstringString = none) (n : Nat) (x0 x1 : Value) : run Try.prog prim lvs (n + 1) n_slicesIndexFuncstringString [x0, x1] = F_slicesIndexFuncstringString (run Try.prog prim lvs n) x0 x1 :=
  (run_fn hp (by kernel_rfl) Try.func82 (by kernel_rfl)).trans (rf_slicesIndexFuncstringString _ x0 x1)

/-- internal/stringslite.HasPrefix -/
noncomputable def F_internalStringsliteHasPrefix (Γ : Funs) (x0 x1 : Value) : M Value :=
  bind (lenT x0) fun v6x1 =>
  bind (lenT x1) fun v8x2 =>
  bind (bop .int .geq v6x1 v8x2) fun v9x3 =>
  bind (gate v9x3 true 6 (bind (lenT x1) fun v13x4 =>
  bind (sls x0 none (some v13x4)) fun v14x5 =>
  bind (bop .str .eql v14x5 x1) fun v16x6 =>
  ret [x0, x1, v13x4, v14x5, x1, v16x6])) (c6 fun _ _ _ _ _ q7_5 =>
  bind (pick v9x3 q7_5 (Value.bool false)) fun v17x8 =>
  ret v17x8)

set_option maxRecDepth 100000 in
theorem rf_internalStringsliteHasPrefix (Γ : Funs) (x0 x1 : Value) : runF Try.prog Γ Try.f83 lv_internalStringsliteHasPrefix [x0, x1] = F_internalStringsliteHasPrefix Γ x0 x1 := by kernel_rfl

theorem run_internalStringsliteHasPrefix {prim : FuncId → Option (List Value → M Value)} (hp : prim n_internalStringsliteHasPrefix = none) (n : Nat) (x0 x1 : Value) : run Try.prog prim lvs (n + 1) n_internalStringsliteHasPrefix [x0, x1] = F_internalStringsliteHasPrefix (run Try.prog prim lvs n) x0 x1 :=
  (run_fn hp (by kernel_rfl) Try.func83 (by kernel_rfl)).trans (rf_internalStringsliteHasPrefix _ x0 x1)

/-- (*interrex/elder.Dir).there$1 -/
noncomputable def F_elderDirThere1 (Γ : Funs) (x0 x1 : Value) : M Value :=
  bind (ld1 x0) fun v6x1 =>
  bind (nilc v6x1) fun v7x2 =>
  bind (fa 0 v7x2) fun v8x3 =>
  bind (ld1 v8x3) fun v9x4 =>
  bind (ld1 x1) fun v10x5 =>
  bind (lkp .str (.string ⟨#[]⟩) true v9x4 v10x5) fun v11x6 =>
  bind (extr v11x6 0) fun v12x7 =>
  bind (extr v11x6 1) fun v13x8 =>
  bind (uop .not v13x8) fun v15x9 =>
  cnd v15x9
  (ret (Value.int .i64 8))
  (ret (Value.int .i64 0))

set_option maxRecDepth 100000 in
theorem rf_elderDirThere1 (Γ : Funs) (x0 x1 : Value) : runF Try.prog Γ Try.f84 lv_elderDirThere1 [x0, x1] = F_elderDirThere1 Γ x0 x1 := by kernel_rfl

theorem run_elderDirThere1 {prim : FuncId → Option (List Value → M Value)} (hp : prim n_elderDirThere1 = none) (n : Nat) (x0 x1 : Value) : run Try.prog prim lvs (n + 1) n_elderDirThere1 [x0, x1] = F_elderDirThere1 (run Try.prog prim lvs n) x0 x1 :=
  (run_fn hp (by kernel_rfl) Try.func84 (by kernel_rfl)).trans (rf_elderDirThere1 _ x0 x1)

-- 85 ("maps.clone"): not covered: code n
/-- interrex/interrexref05.Hash -/
noncomputable def F_ref05Hash (Γ : Funs) (x0 : Value) : M Value :=
  bind (lenT x0) fun v4x1 =>
  bind (bop .int .geq v4x1 (Value.int .i64 1)) fun v5x2 =>
  bind (gate v5x2 true 3 (bind (lenT x0) fun v8x3 =>
  bind (bop .int .leq v8x3 (Value.int .i64 12)) fun v9x4 =>
  ret [x0, v8x3, v9x4])) (c3 fun _ _ q5_2 =>
  bind (pick v5x2 q5_2 (Value.bool false)) fun v10x6 =>
  bind (gate v10x6 true 2 (bind (Γ n_ref05Of [x0, (Value.string ⟨#[48, 49, 50, 51, 52, 53, 54, 55, 56, 57, 97, 98, 99, 100, 101, 102]⟩)]) fun v13x7 =>
  ret [x0, v13x7])) (c2 fun _ q8_1 =>
  bind (pick v10x6 q8_1 (Value.bool false)) fun v14x9 =>
  ret v14x9))

set_option maxRecDepth 100000 in
theorem rf_ref05Hash (Γ : Funs) (x0 : Value) : runF Try.prog Γ Try.f86 lv_ref05Hash [x0] = F_ref05Hash Γ x0 := by kernel_rfl

theorem run_ref05Hash {prim : FuncId → Option (List Value → M Value)} (hp : prim n_ref05Hash = none) (n : Nat) (x0 : Value) : run Try.prog prim lvs (n + 1) n_ref05Hash [x0] = F_ref05Hash (run Try.prog prim lvs n) x0 :=
  (run_fn hp (by kernel_rfl) Try.func86 (by kernel_rfl)).trans (rf_ref05Hash _ x0)

/-- interrex/interrexref07.Put: a round. -/
noncomputable def F_ref07Put.l1 (Γ : Funs) (s3 s5 s6 s9 s10 s11 : Value) : M Out :=
  bind (bop .int .lss s11 s10) fun v12x3 =>
  cnd v12x3
  (bind (ixa 5 s9 s11) fun v13x4 =>
  bind (ldA 5 v13x4) fun v14x5 =>
  bind (alc 1 (.agg #[.string ⟨#[]⟩, .string ⟨#[]⟩, .string ⟨#[]⟩, .bool false, .slice none 0 0])) fun v8x6 =>
  bind (stA 5 v8x6 v14x5) fun _ =>
  bind (uop .not s6) fun v16x7 =>
  bind (gate v16x7 true 5 (bind (fa 0 s3) fun v18x8 =>
  bind (ld1 v18x8) fun v19x9 =>
  bind (fa 0 v8x6) fun v20x10 =>
  bind (ld1 v20x10) fun v21x11 =>
  bind (bop .str .leq v19x9 v21x11) fun v22x12 =>
  ret [v18x8, v19x9, v20x10, v21x11, v22x12])) (c5 fun _ _ _ _ q13_4 =>
  bind (pick v16x7 q13_4 (Value.bool false)) fun v23x14 =>
  jn (cnd v23x14
  (bind (ldA 5 s3) fun v25x15 =>
  bind (bsl 5 1 (.agg #[.string ⟨#[]⟩, .string ⟨#[]⟩, .string ⟨#[]⟩, .bool false, .slice none 0 0]) [(0, 5, v25x15)]) fun v26x16 =>
  bind (app 5 80 s5 v26x16) fun v27x17 =>
  ret (.nrm [s3, v27x17, (Value.bool true), v8x6, s9, s10, s11]))
  (ret (.nrm [s3, s5, s6, v8x6, s9, s10, s11]))) (c7 fun q18_0 q18_1 q18_2 q18_3 q18_4 q18_5 q18_6 =>
  bind (fa 0 q18_3) fun v28x19 =>
  bind (ld1 v28x19) fun v29x20 =>
  bind (fa 0 q18_0) fun v30x21 =>
  bind (ld1 v30x21) fun v31x22 =>
  bind (bop .str .neq v29x20 v31x22) fun v32x23 =>
  jn (cnd v32x23
  (bind (ldA 5 q18_3) fun v34x24 =>
  bind (bsl 5 1 (.agg #[.string ⟨#[]⟩, .string ⟨#[]⟩, .string ⟨#[]⟩, .bool false, .slice none 0 0]) [(0, 5, v34x24)]) fun v35x25 =>
  bind (app 5 80 q18_1 v35x25) fun v36x26 =>
  ret (.nrm [q18_0, v36x26, q18_2, q18_4, q18_5, q18_6]))
  (ret (.nrm [q18_0, q18_1, q18_2, q18_4, q18_5, q18_6]))) (c6 fun q27_0 q27_1 q27_2 q27_3 q27_4 q27_5 =>
  bind (bop .int .add q27_5 (Value.int .i64 1)) fun v37x28 =>
  ret (.nrm [q27_0, q27_1, q27_2, q27_3, q27_4, v37x28])) noX retR) noX retR))
  (ret (.ext 0 [s3, s5, s6]))

/-- interrex/interrexref07.Put -/
noncomputable def F_ref07Put (Γ : Funs) (x0 x1 : Value) : M Value :=
  bind (alc 1 x1) fun v3x1 =>
  bind (lenS x0) fun v10x2 =>
  jn (loopM (c6 (F_ref07Put.l1 Γ)) [v3x1, (Value.slice none 0 0), (Value.bool false), x0, v10x2, (Value.int .i64 0)]) noN (xk 0 (c3 fun q32_0 q32_1 q32_2 =>
  bind (uop .not q32_2) fun v39x33 =>
  jn (cnd v39x33
  (bind (ldA 5 q32_0) fun v41x34 =>
  bind (bsl 5 1 (.agg #[.string ⟨#[]⟩, .string ⟨#[]⟩, .string ⟨#[]⟩, .bool false, .slice none 0 0]) [(0, 5, v41x34)]) fun v42x35 =>
  bind (app 5 80 q32_1 v42x35) fun v43x36 =>
  ret (.nrm [v43x36]))
  (ret (.nrm [q32_1]))) (c1 fun q37_0 =>
  ret q37_0) noX ret) noX) ret

set_option maxRecDepth 100000 in
theorem rf_ref07Put (Γ : Funs) (x0 x1 : Value) : runF Try.prog Γ Try.f87 lv_ref07Put [x0, x1] = F_ref07Put Γ x0 x1 := by kernel_rfl

theorem run_ref07Put {prim : FuncId → Option (List Value → M Value)} (hp : prim n_ref07Put = none) (n : Nat) (x0 x1 : Value) : run Try.prog prim lvs (n + 1) n_ref07Put [x0, x1] = F_ref07Put (run Try.prog prim lvs n) x0 x1 :=
  (run_fn hp (by kernel_rfl) Try.func87 (by kernel_rfl)).trans (rf_ref07Put _ x0 x1)

/-- interrex/interrexref07.Drop: a round. -/
noncomputable def F_ref07Drop.l1 (Γ : Funs) (s1 s5 s8 s9 s10 : Value) : M Out :=
  bind (bop .int .lss s10 s9) fun v11x2 =>
  cnd v11x2
  (bind (ixa 5 s8 s10) fun v12x3 =>
  bind (ldA 5 v12x3) fun v13x4 =>
  bind (alc 1 (.agg #[.string ⟨#[]⟩, .string ⟨#[]⟩, .string ⟨#[]⟩, .bool false, .slice none 0 0])) fun v7x5 =>
  bind (stA 5 v7x5 v13x4) fun _ =>
  bind (fa 0 v7x5) fun v14x6 =>
  bind (ld1 v14x6) fun v15x7 =>
  bind (bop .str .neq v15x7 s1) fun v17x8 =>
  jn (cnd v17x8
  (bind (ldA 5 v7x5) fun v19x9 =>
  bind (bsl 5 1 (.agg #[.string ⟨#[]⟩, .string ⟨#[]⟩, .string ⟨#[]⟩, .bool false, .slice none 0 0]) [(0, 5, v19x9)]) fun v20x10 =>
  bind (app 5 80 s5 v20x10) fun v21x11 =>
  ret (.nrm [s1, v21x11, s8, s9, s10]))
  (ret (.nrm [s1, s5, s8, s9, s10]))) (c5 fun q12_0 q12_1 q12_2 q12_3 q12_4 =>
  bind (bop .int .add q12_4 (Value.int .i64 1)) fun v22x13 =>
  ret (.nrm [q12_0, q12_1, q12_2, q12_3, v22x13])) noX retR)
  (ret (.ext 0 [s5]))

/-- interrex/interrexref07.Drop -/
noncomputable def F_ref07Drop (Γ : Funs) (x0 x1 : Value) : M Value :=
  bind (lenS x0) fun v9x1 =>
  jn (loopM (c5 (F_ref07Drop.l1 Γ)) [x1, (Value.slice none 0 0), x0, v9x1, (Value.int .i64 0)]) noN (xk 0 (c1 fun q16_0 =>
  ret q16_0) noX) ret

set_option maxRecDepth 100000 in
theorem rf_ref07Drop (Γ : Funs) (x0 x1 : Value) : runF Try.prog Γ Try.f88 lv_ref07Drop [x0, x1] = F_ref07Drop Γ x0 x1 := by kernel_rfl

theorem run_ref07Drop {prim : FuncId → Option (List Value → M Value)} (hp : prim n_ref07Drop = none) (n : Nat) (x0 x1 : Value) : run Try.prog prim lvs (n + 1) n_ref07Drop [x0, x1] = F_ref07Drop (run Try.prog prim lvs n) x0 x1 :=
  (run_fn hp (by kernel_rfl) Try.func88 (by kernel_rfl)).trans (rf_ref07Drop _ x0 x1)

/-- interrex/interrexref05.Of: a round. -/
noncomputable def F_ref05Of.l1 (Γ : Funs) (s0 s1 s5 : Value) : M Out :=
  bind (lenT s0) fun v8x1 =>
  bind (bop .int .lss s5 v8x1) fun v9x2 =>
  cnd v9x2
  (bind (ixs s0 s5) fun v14x3 =>
  bind (Γ n_ref05In [v14x3, s1]) fun v16x4 =>
  bind (uop .not v16x4) fun v17x5 =>
  cnd v17x5
  (ret (.ret (Value.bool false)))
  (bind (bop .int .add s5 (Value.int .i64 1)) fun v11x6 =>
  ret (.nrm [s0, s1, v11x6])))
  (ret (.ext 0 []))

/-- interrex/interrexref05.Of -/
noncomputable def F_ref05Of (Γ : Funs) (x0 x1 : Value) : M Value :=
  jn (loopM (c3 (F_ref05Of.l1 Γ)) [x0, x1, (Value.int .i64 0)]) noN (xk 0 (c0 (ret (Value.bool true))) noX) ret

set_option maxRecDepth 100000 in
theorem rf_ref05Of (Γ : Funs) (x0 x1 : Value) : runF Try.prog Γ Try.f89 lv_ref05Of [x0, x1] = F_ref05Of Γ x0 x1 := by kernel_rfl

theorem run_ref05Of {prim : FuncId → Option (List Value → M Value)} (hp : prim n_ref05Of = none) (n : Nat) (x0 x1 : Value) : run Try.prog prim lvs (n + 1) n_ref05Of [x0, x1] = F_ref05Of (run Try.prog prim lvs n) x0 x1 :=
  (run_fn hp (by kernel_rfl) Try.func89 (by kernel_rfl)).trans (rf_ref05Of _ x0 x1)

/-- interrex/interrexref05.In: a round. -/
noncomputable def F_ref05In.l1 (Γ : Funs) (s0 s1 s5 : Value) : M Out :=
  bind (lenT s1) fun v8x1 =>
  bind (bop .int .lss s5 v8x1) fun v9x2 =>
  cnd v9x2
  (bind (ixs s1 s5) fun v14x3 =>
  bind (bop .int .eql v14x3 s0) fun v16x4 =>
  cnd v16x4
  (ret (.ret (Value.bool true)))
  (bind (bop .int .add s5 (Value.int .i64 1)) fun v11x5 =>
  ret (.nrm [s0, s1, v11x5])))
  (ret (.ext 0 []))

/-- interrex/interrexref05.In -/
noncomputable def F_ref05In (Γ : Funs) (x0 x1 : Value) : M Value :=
  jn (loopM (c3 (F_ref05In.l1 Γ)) [x0, x1, (Value.int .i64 0)]) noN (xk 0 (c0 (ret (Value.bool false))) noX) ret

set_option maxRecDepth 100000 in
theorem rf_ref05In (Γ : Funs) (x0 x1 : Value) : runF Try.prog Γ Try.f90 lv_ref05In [x0, x1] = F_ref05In Γ x0 x1 := by kernel_rfl

theorem run_ref05In {prim : FuncId → Option (List Value → M Value)} (hp : prim n_ref05In = none) (n : Nat) (x0 x1 : Value) : run Try.prog prim lvs (n + 1) n_ref05In [x0, x1] = F_ref05In (run Try.prog prim lvs n) x0 x1 :=
  (run_fn hp (by kernel_rfl) Try.func90 (by kernel_rfl)).trans (rf_ref05In _ x0 x1)

/-- interrex/interrexref10.in: a round. -/
noncomputable def F_ref10In.l1 (Γ : Funs) (s1 s2 s10 s11 s12 : Value) : M Out :=
  bind (bop .int .lss s12 s11) fun v13x5 =>
  cnd v13x5
  (bind (ixa 2 s10 s12) fun v14x6 =>
  bind (ldA 2 v14x6) fun v15x7 =>
  bind (alc 1 (.agg #[.string ⟨#[]⟩, .string ⟨#[]⟩])) fun v8x8 =>
  bind (stA 2 v8x8 v15x7) fun _ =>
  bind (fa 0 v8x8) fun v16x9 =>
  bind (ld1 v16x9) fun v17x10 =>
  bind (bop .str .eql v17x10 s1) fun v19x11 =>
  bind (gate v19x11 true 4 (bind (fa 1 v8x8) fun v21x12 =>
  bind (ld1 v21x12) fun v22x13 =>
  bind (bop .str .eql v22x13 s2) fun v24x14 =>
  ret [v21x12, v22x13, s2, v24x14])) (c4 fun _ _ _ q15_3 =>
  bind (pick v19x11 q15_3 (Value.bool false)) fun v25x16 =>
  cnd v25x16
  (ret (.ret (Value.bool true)))
  (bind (bop .int .add s12 (Value.int .i64 1)) fun v26x17 =>
  ret (.nrm [s1, s2, s10, s11, v26x17]))))
  (ret (.ext 0 []))

/-- interrex/interrexref10.in -/
noncomputable def F_ref10In (Γ : Funs) (x0 x1 x2 : Value) : M Value :=
  bind (alc 1 x0) fun v3x1 =>
  bind (fa 1 v3x1) fun v9x2 =>
  bind (ld1 v9x2) fun v10x3 =>
  bind (lenS v10x3) fun v11x4 =>
  jn (loopM (c5 (F_ref10In.l1 Γ)) [x1, x2, v10x3, v11x4, (Value.int .i64 0)]) noN (xk 0 (c0 (ret (Value.bool false))) noX) ret

set_option maxRecDepth 100000 in
theorem rf_ref10In (Γ : Funs) (x0 x1 x2 : Value) : runF Try.prog Γ Try.f91 lv_ref10In [x0, x1, x2] = F_ref10In Γ x0 x1 x2 := by kernel_rfl

theorem run_ref10In {prim : FuncId → Option (List Value → M Value)} (hp : prim n_ref10In = none) (n : Nat) (x0 x1 x2 : Value) : run Try.prog prim lvs (n + 1) n_ref10In [x0, x1, x2] = F_ref10In (run Try.prog prim lvs n) x0 x1 x2 :=
  (run_fn hp (by kernel_rfl) Try.func91 (by kernel_rfl)).trans (rf_ref10In _ x0 x1 x2)

/-- interrex/interrexref10.without: a round. -/
noncomputable def F_ref10Without.l1 (Γ : Funs) (s1 s2 s3 s6 s7 s11 s12 s13 : Value) : M Out :=
  bind (bop .int .lss s13 s12) fun v14x6 =>
  cnd v14x6
  (bind (ixa 2 s11 s13) fun v15x7 =>
  bind (ldA 2 v15x7) fun v16x8 =>
  bind (alc 1 (.agg #[.string ⟨#[]⟩, .string ⟨#[]⟩])) fun v9x9 =>
  bind (stA 2 v9x9 v16x8) fun _ =>
  bind (fa 0 v9x9) fun v17x10 =>
  bind (ld1 v17x10) fun v18x11 =>
  bind (bop .str .neq v18x11 s1) fun v20x12 =>
  bind (gate v20x12 false 4 (bind (fa 1 v9x9) fun v22x13 =>
  bind (ld1 v22x13) fun v23x14 =>
  bind (bop .str .neq v23x14 s2) fun v25x15 =>
  ret [v22x13, v23x14, s2, v25x15])) (c4 fun _ _ _ q16_3 =>
  bind (pick v20x12 (Value.bool true) q16_3) fun v26x17 =>
  jn (cnd v26x17
  (bind (ldA 2 v9x9) fun v28x18 =>
  bind (bsl 2 1 (.agg #[.string ⟨#[]⟩, .string ⟨#[]⟩]) [(0, 2, v28x18)]) fun v29x19 =>
  bind (app 2 32 s7 v29x19) fun v30x20 =>
  ret (.nrm [s1, s2, s3, s6, v30x20, s11, s12, s13]))
  (ret (.nrm [s1, s2, s3, s6, s7, s11, s12, s13]))) (c8 fun q21_0 q21_1 q21_2 q21_3 q21_4 q21_5 q21_6 q21_7 =>
  bind (bop .int .add q21_7 (Value.int .i64 1)) fun v31x22 =>
  ret (.nrm [q21_0, q21_1, q21_2, q21_3, q21_4, q21_5, q21_6, v31x22])) noX retR))
  (ret (.ext 0 [s3, s6, s7]))

/-- interrex/interrexref10.without -/
noncomputable def F_ref10Without (Γ : Funs) (x0 x1 x2 : Value) : M Value :=
  bind (alc 1 x0) fun v3x1 =>
  bind (alc 1 (.agg #[.slice none 0 0, .slice none 0 0])) fun v6x2 =>
  bind (fa 1 v3x1) fun v10x3 =>
  bind (ld1 v10x3) fun v11x4 =>
  bind (lenS v11x4) fun v12x5 =>
  jn (loopM (c8 (F_ref10Without.l1 Γ)) [x1, x2, v3x1, v6x2, (Value.slice none 0 0), v11x4, v12x5, (Value.int .i64 0)]) noN (xk 0 (c3 fun q25_0 q25_1 q25_2 =>
  bind (fa 1 q25_0) fun v33x26 =>
  bind (st1 v33x26 q25_2) fun _ =>
  bind (ldA 2 q25_0) fun v34x27 =>
  bind (stA 2 q25_1 v34x27) fun _ =>
  bind (ldA 2 q25_1) fun vrx28 =>
  ret vrx28) noX) ret

set_option maxRecDepth 100000 in
theorem rf_ref10Without (Γ : Funs) (x0 x1 x2 : Value) : runF Try.prog Γ Try.f92 lv_ref10Without [x0, x1, x2] = F_ref10Without Γ x0 x1 x2 := by kernel_rfl

theorem run_ref10Without {prim : FuncId → Option (List Value → M Value)} (hp : prim n_ref10Without = none) (n : Nat) (x0 x1 x2 : Value) : run Try.prog prim lvs (n + 1) n_ref10Without [x0, x1, x2] = F_ref10Without (run Try.prog prim lvs n) x0 x1 x2 :=
  (run_fn hp (by kernel_rfl) Try.func92 (by kernel_rfl)).trans (rf_ref10Without _ x0 x1 x2)

-- 93 ("maps.Clone[interrex/group.set,string,struct{}]"): not covered: typeAssert
/-- maps.Keys[map[string]interrex/group.set,string,interrex/group.set] -/
noncomputable def F_mapsKeysMapStringgroupSetStringGroupSet (Γ : Funs) (x0 : Value) : M Value :=
  bind (alc 1 x0) fun v1x1 =>
  ret (Value.func (.func 104) #[] #[v1x1])

set_option maxRecDepth 100000 in
theorem rf_mapsKeysMapStringgroupSetStringGroupSet (Γ : Funs) (x0 : Value) : runF Try.prog Γ Try.f94 lv_mapsKeysMapStringgroupSetStringGroupSet [x0] = F_mapsKeysMapStringgroupSetStringGroupSet Γ x0 := by kernel_rfl

theorem run_mapsKeysMapStringgroupSetStringGroupSet {prim : FuncId → Option (List Value → M Value)} (hp : prim n_mapsKeysMapStringgroupSetStringGroupSet = none) (n : Nat) (x0 : Value) : run Try.prog prim lvs (n + 1) n_mapsKeysMapStringgroupSetStringGroupSet [x0] = F_mapsKeysMapStringgroupSetStringGroupSet (run Try.prog prim lvs n) x0 :=
  (run_fn hp (by kernel_rfl) Try.func94 (by kernel_rfl)).trans (rf_mapsKeysMapStringgroupSetStringGroupSet _ x0)

/-- maps.Keys[map[string]struct{},string,struct{}] -/
noncomputable def F_mapsKeysMapStringstructStringStruct (Γ : Funs) (x0 : Value) : M Value :=
  bind (alc 1 x0) fun v1x1 =>
  ret (Value.func (.func 105) #[] #[v1x1])

set_option maxRecDepth 100000 in
theorem rf_mapsKeysMapStringstructStringStruct (Γ : Funs) (x0 : Value) : runF Try.prog Γ Try.f95 lv_mapsKeysMapStringstructStringStruct [x0] = F_mapsKeysMapStringstructStringStruct Γ x0 := by kernel_rfl

theorem run_mapsKeysMapStringstructStringStruct {prim : FuncId → Option (List Value → M Value)} (hp : prim n_mapsKeysMapStringstructStringStruct = none) (n : Nat) (x0 : Value) : run Try.prog prim lvs (n + 1) n_mapsKeysMapStringstructStringStruct [x0] = F_mapsKeysMapStringstructStringStruct (run Try.prog prim lvs n) x0 :=
  (run_fn hp (by kernel_rfl) Try.func95 (by kernel_rfl)).trans (rf_mapsKeysMapStringstructStringStruct _ x0)

/-- interrex/name.isName -/
noncomputable def F_nameIsName (Γ : Funs) (x0 : Value) : M Value :=
  bind (bop .str .eql x0 (Value.string ⟨#[]⟩)) fun v5x1 =>
  bind (gate v5x1 false 3 (bind (lenT x0) fun v8x2 =>
  bind (bop .int .gtr v8x2 (Value.int .i64 12)) fun v9x3 =>
  ret [x0, v8x2, v9x3])) (c3 fun _ _ q4_2 =>
  bind (pick v5x1 (Value.bool true) q4_2) fun v10x5 =>
  bind (gate v10x5 false 4 (bind (ixs x0 (Value.int .i64 0)) fun v13x6 =>
  bind (Γ n_nameLetter [v13x6]) fun v14x7 =>
  bind (uop .not v14x7) fun v15x8 =>
  ret [x0, v13x6, v14x7, v15x8])) (c4 fun _ _ _ q9_3 =>
  bind (pick v10x5 (Value.bool true) q9_3) fun v16x10 =>
  bind (gate v16x10 false 3 (bind (Γ n_nameAll [x0, (Value.func (.func 81) #[] #[])]) fun v19x11 =>
  bind (uop .not v19x11) fun v20x12 =>
  ret [x0, v19x11, v20x12])) (c3 fun _ _ q13_2 =>
  bind (pick v16x10 (Value.bool true) q13_2) fun v21x14 =>
  cnd v21x14
  (ret (Value.bool false))
  (bind (lenT x0) fun v24x15 =>
  bind (bop .int .sub v24x15 (Value.int .i64 1)) fun v25x16 =>
  bind (ixs x0 v25x16) fun v26x17 =>
  bind (Γ n_nameLetter [v26x17]) fun v28x18 =>
  bind (gate v28x18 false 2 (bind (Γ n_nameDigit [v26x17]) fun v31x19 =>
  ret [v26x17, v31x19])) (c2 fun _ q20_1 =>
  bind (pick v28x18 (Value.bool true) q20_1) fun v32x21 =>
  ret v32x21)))))

set_option maxRecDepth 100000 in
theorem rf_nameIsName (Γ : Funs) (x0 : Value) : runF Try.prog Γ Try.f96 lv_nameIsName [x0] = F_nameIsName Γ x0 := by kernel_rfl

theorem run_nameIsName {prim : FuncId → Option (List Value → M Value)} (hp : prim n_nameIsName = none) (n : Nat) (x0 : Value) : run Try.prog prim lvs (n + 1) n_nameIsName [x0] = F_nameIsName (run Try.prog prim lvs n) x0 :=
  (run_fn hp (by kernel_rfl) Try.func96 (by kernel_rfl)).trans (rf_nameIsName _ x0)

/-- interrex/name.Hash$1 -/
noncomputable def F_nameHash1 (Γ : Funs) (x0 : Value) : M Value :=
  bind (Γ n_nameDigit [x0]) fun v4x1 =>
  bind (gate v4x1 false 3 (bind (bop .int .geq x0 (Value.int .u8 97)) fun v7x2 =>
  ret [x0, v7x2, v7x2])) (c3 fun _ _ q3_2 =>
  bind (gate q3_2 true 2 (bind (bop .int .leq x0 (Value.int .u8 102)) fun v10x4 =>
  ret [x0, v10x4])) (c2 fun _ q5_1 =>
  bind (gate v4x1 false 1 (bind (pick q3_2 q5_1 (Value.bool false)) fun v11x6 =>
  ret [v11x6])) (c1 fun q7_0 =>
  bind (pick v4x1 (Value.bool true) q7_0) fun v12x8 =>
  ret v12x8)))

set_option maxRecDepth 100000 in
theorem rf_nameHash1 (Γ : Funs) (x0 : Value) : runF Try.prog Γ Try.f97 lv_nameHash1 [x0] = F_nameHash1 Γ x0 := by kernel_rfl

theorem run_nameHash1 {prim : FuncId → Option (List Value → M Value)} (hp : prim n_nameHash1 = none) (n : Nat) (x0 : Value) : run Try.prog prim lvs (n + 1) n_nameHash1 [x0] = F_nameHash1 (run Try.prog prim lvs n) x0 :=
  (run_fn hp (by kernel_rfl) Try.func97 (by kernel_rfl)).trans (rf_nameHash1 _ x0)

/-- interrex/name.digit -/
noncomputable def F_nameDigit (Γ : Funs) (x0 : Value) : M Value :=
  bind (bop .int .geq x0 (Value.int .u8 48)) fun v4x1 =>
  bind (gate v4x1 true 2 (bind (bop .int .leq x0 (Value.int .u8 57)) fun v7x2 =>
  ret [x0, v7x2])) (c2 fun _ q3_1 =>
  bind (pick v4x1 q3_1 (Value.bool false)) fun v8x4 =>
  ret v8x4)

set_option maxRecDepth 100000 in
theorem rf_nameDigit (Γ : Funs) (x0 : Value) : runF Try.prog Γ Try.f98 lv_nameDigit [x0] = F_nameDigit Γ x0 := by kernel_rfl

theorem run_nameDigit {prim : FuncId → Option (List Value → M Value)} (hp : prim n_nameDigit = none) (n : Nat) (x0 : Value) : run Try.prog prim lvs (n + 1) n_nameDigit [x0] = F_nameDigit (run Try.prog prim lvs n) x0 :=
  (run_fn hp (by kernel_rfl) Try.func98 (by kernel_rfl)).trans (rf_nameDigit _ x0)

/-- slices.Collect[string] -/
noncomputable def F_slicesCollectString (Γ : Funs) (x0 : Value) : M Value :=
  bind (Γ n_slicesAppendSeqstringString [(Value.slice none 0 0), x0]) fun v4x1 =>
  ret v4x1

set_option maxRecDepth 100000 in
theorem rf_slicesCollectString (Γ : Funs) (x0 : Value) : runF Try.prog Γ Try.f99 lv_slicesCollectString [x0] = F_slicesCollectString Γ x0 := by kernel_rfl

theorem run_slicesCollectString {prim : FuncId → Option (List Value → M Value)} (hp : prim n_slicesCollectString = none) (n : Nat) (x0 : Value) : run Try.prog prim lvs (n + 1) n_slicesCollectString [x0] = F_slicesCollectString (run Try.prog prim lvs n) x0 :=
  (run_fn hp (by kernel_rfl) Try.func99 (by kernel_rfl)).trans (rf_slicesCollectString _ x0)

/-- slices.SortFunc[[]string,string] -/
noncomputable def F_slicesSortFuncstringString (Γ : Funs) (x0 x1 : Value) : M Value :=
  bind (lenS x0) fun v6x1 =>
  bind (cvi .u64 v6x1) fun v10x2 =>
  bind (Γ n_mathBitsLen [v10x2]) fun v11x3 =>
  bind (Γ n_slicesPdqsortCmpFuncString [x0, (Value.int .i64 0), v6x1, v11x3, x1]) fun v13x4 =>
  ret (Value.tuple #[])

set_option maxRecDepth 100000 in
theorem rf_slicesSortFuncstringString (Γ : Funs) (x0 x1 : Value) : runF Try.prog Γ Try.f100 lv_slicesSortFuncstringString [x0, x1] = F_slicesSortFuncstringString Γ x0 x1 := by kernel_rfl

theorem run_slicesSortFuncstringString {prim : FuncId → Option (List Value → M Value)} (hp : prim n_slicesSortFuncstringString = none) (n : Nat) (x0 x1 : Value) : run Try.prog prim lvs (n + 1) n_slicesSortFuncstringString [x0, x1] = F_slicesSortFuncstringString (run Try.prog prim lvs n) x0 x1 :=
  (run_fn hp (by kernel_rfl) Try.func100 (by kernel_rfl)).trans (rf_slicesSortFuncstringString _ x0 x1)

-- 101 ("maps.Keys[map[string]string,string,string]$1"): not covered: range
/-- cmp.Compare[string] -/
noncomputable def F_cmpCompareString (Γ : Funs) (x0 x1 : Value) : M Value :=
  bind (Γ n_cmpIsNaNString [x0]) fun v8x1 =>
  bind (Γ n_cmpIsNaNString [x1]) fun v10x2 =>
  cnd v8x1
  (cnd v10x2
  (ret (Value.int .i64 0))
  (ret (Value.int .i64 (-1))))
  (cnd v10x2
  (ret (Value.int .i64 1))
  (bind (bop .str .lss x0 x1) fun v16x3 =>
  cnd v16x3
  (ret (Value.int .i64 (-1)))
  (bind (bop .str .gtr x0 x1) fun v19x4 =>
  cnd v19x4
  (ret (Value.int .i64 1))
  (ret (Value.int .i64 0)))))

set_option maxRecDepth 100000 in
theorem rf_cmpCompareString (Γ : Funs) (x0 x1 : Value) : runF Try.prog Γ Try.f102 lv_cmpCompareString [x0, x1] = F_cmpCompareString Γ x0 x1 := by kernel_rfl

theorem run_cmpCompareString {prim : FuncId → Option (List Value → M Value)} (hp : prim n_cmpCompareString = none) (n : Nat) (x0 x1 : Value) : run Try.prog prim lvs (n + 1) n_cmpCompareString [x0, x1] = F_cmpCompareString (run Try.prog prim lvs n) x0 x1 :=
  (run_fn hp (by kernel_rfl) Try.func102 (by kernel_rfl)).trans (rf_cmpCompareString _ x0 x1)

/-- interrex/name.letter -/
noncomputable def F_nameLetter (Γ : Funs) (x0 : Value) : M Value :=
  bind (bop .int .geq x0 (Value.int .u8 97)) fun v4x1 =>
  bind (gate v4x1 true 2 (bind (bop .int .leq x0 (Value.int .u8 122)) fun v7x2 =>
  ret [x0, v7x2])) (c2 fun _ q3_1 =>
  bind (pick v4x1 q3_1 (Value.bool false)) fun v8x4 =>
  ret v8x4)

set_option maxRecDepth 100000 in
theorem rf_nameLetter (Γ : Funs) (x0 : Value) : runF Try.prog Γ Try.f103 lv_nameLetter [x0] = F_nameLetter Γ x0 := by kernel_rfl

theorem run_nameLetter {prim : FuncId → Option (List Value → M Value)} (hp : prim n_nameLetter = none) (n : Nat) (x0 : Value) : run Try.prog prim lvs (n + 1) n_nameLetter [x0] = F_nameLetter (run Try.prog prim lvs n) x0 :=
  (run_fn hp (by kernel_rfl) Try.func103 (by kernel_rfl)).trans (rf_nameLetter _ x0)

-- 104 ("maps.Keys[map[string]interrex/group.set,string,interrex/group.set]$1"): not covered: range
-- 105 ("maps.Keys[map[string]struct{},string,struct{}]$1"): not covered: range
/-- slices.AppendSeq[[]string,string]: a range over a function. -/
noncomputable abbrev F_slicesAppendSeqstringString.o1 (s2 : Value) (st : LoopState) (pd : Option Code) : AObj := .loop Try.f106 lv_slicesAppendSeqstringString 26 [0] (rfAt Try.f106 26) [(2, s2)] st pd

/-- slices.AppendSeq[[]string,string]: a round of a range over a function. -/
noncomputable def F_slicesAppendSeqstringString.r1 (Γ : Funs) (L : Nat) (s2 : Value) (a0 : Value) : M Value :=
  begM L (
  bind (ld1 s2) fun v8x2 =>
  bind (bsl 1 1 (.string ⟨#[]⟩) [(0, 1, a0)]) fun v10x3 =>
  bind (app 1 16 v8x2 v10x3) fun v11x4 =>
  bind (st1 s2 v11x4) fun _ =>
  endR L none)

set_option maxRecDepth 100000 in
theorem rd_slicesAppendSeqstringString_r1 {Γ : Funs} {L : Nat} {s2 a0 : Value} {H : Heap} {pd : Option Code} (h : H[L]? = some (F_slicesAppendSeqstringString.o1 s2 .ready pd)) : roundF Try.prog Γ L [a0] H = F_slicesAppendSeqstringString.r1 Γ L s2 a0 H := by
  unfold roundF
  rw [h]
  kernel_rfl

/-- slices.AppendSeq[[]string,string] -/
noncomputable def F_slicesAppendSeqstringString (Γ : Funs) (x0 x1 : Value) : M Value :=
  bind (alc 1 x0) fun v2x1 =>
  rangeM (callG Try.prog) Γ x1 Try.f106 lv_slicesAppendSeqstringString 26 [0] (rfAt Try.f106 26) [(2, v2x1)] fun pd_5 =>
  (match pd_5 with
  | none => bind (ld1 v2x1) fun v12x6 =>
  ret v12x6
  | some (.exit j_5) => fail
  | some .ret => ret (Value.slice none 0 0)
  | _ => fail)

set_option maxRecDepth 100000 in
theorem rf_slicesAppendSeqstringString (Γ : Funs) (x0 x1 : Value) : runF Try.prog Γ Try.f106 lv_slicesAppendSeqstringString [x0, x1] = F_slicesAppendSeqstringString Γ x0 x1 := by kernel_rfl

theorem run_slicesAppendSeqstringString {prim : FuncId → Option (List Value → M Value)} (hp : prim n_slicesAppendSeqstringString = none) (n : Nat) (x0 x1 : Value) : run Try.prog prim lvs (n + 1) n_slicesAppendSeqstringString [x0, x1] = F_slicesAppendSeqstringString (run Try.prog prim lvs n) x0 x1 :=
  (run_fn hp (by kernel_rfl) Try.func106 (by kernel_rfl)).trans (rf_slicesAppendSeqstringString _ x0 x1)

/-- slices.pdqsortCmpFunc[string]: a round. -/
noncomputable def F_slicesPdqsortCmpFuncString.l1 (Γ : Funs) (s0 s1 s2 s3 s4 s10 s11 : Value) : M Out :=
  jn (bind (bop .int .sub s2 s1) fun v23x1 =>
  bind (bop .int .leq v23x1 (Value.int .i64 12)) fun v25x2 =>
  cnd v25x2
  (bind (Γ n_slicesInsertionSortCmpFuncString [s0, s1, s2, s4]) fun v30x3 =>
  ret (.ret (Value.tuple #[])))
  (bind (bop .int .eql s3 (Value.int .i64 0)) fun v32x4 =>
  cnd v32x4
  (bind (Γ n_slicesHeapSortCmpFuncString [s0, s1, s2, s4]) fun v37x5 =>
  ret (.ret (Value.tuple #[])))
  (bind (uop .not s10) fun v39x6 =>
  jn (cnd v39x6
  (bind (Γ n_slicesBreakPatternsCmpFuncString [s0, s1, s2, s4]) fun v44x7 =>
  bind (bop .int .sub s3 (Value.int .i64 1)) fun v46x8 =>
  ret (.nrm [s0, s1, s2, v46x8, s4, s10, s11, v23x1]))
  (ret (.nrm [s0, s1, s2, s3, s4, s10, s11, v23x1]))) (c8 fun q9_0 q9_1 q9_2 q9_3 q9_4 q9_5 q9_6 q9_7 =>
  bind (Γ n_slicesChoosePivotCmpFuncString [q9_0, q9_1, q9_2, q9_4]) fun v52x10 =>
  bind (extr v52x10 0) fun v53x11 =>
  bind (extr v52x10 1) fun v54x12 =>
  bind (bop .int .eql v54x12 (Value.int .i64 2)) fun v56x13 =>
  jn (cnd v56x13
  (bind (Γ n_slicesReverseRangeCmpFuncString [q9_0, q9_1, q9_2, q9_4]) fun v61x14 =>
  bind (bop .int .sub q9_2 (Value.int .i64 1)) fun v63x15 =>
  bind (bop .int .sub v53x11 q9_1) fun v66x16 =>
  bind (bop .int .sub v63x15 v66x16) fun v67x17 =>
  ret (.nrm [q9_0, q9_1, q9_2, q9_3, q9_4, q9_5, q9_6, q9_7, v67x17, (Value.int .i64 1)]))
  (ret (.nrm [q9_0, q9_1, q9_2, q9_3, q9_4, q9_5, q9_6, q9_7, v53x11, v54x12]))) (c10 fun q18_0 q18_1 q18_2 q18_3 q18_4 q18_5 q18_6 q18_7 q18_8 q18_9 =>
  bind (gate q18_5 true 1 (ret [q18_6])) (c1 fun q19_0 =>
  bind (pick q18_5 q19_0 (Value.bool false)) fun v71x20 =>
  bind (gate v71x20 true 2 (bind (bop .int .eql q18_9 (Value.int .i64 1)) fun v74x21 =>
  ret [q18_9, v74x21])) (c2 fun _ q22_1 =>
  bind (pick v71x20 q22_1 (Value.bool false)) fun v75x23 =>
  jn (cnd v75x23
  (bind (Γ n_slicesPartialInsertionSortCmpFuncString [q18_0, q18_1, q18_2, q18_4]) fun v80x24 =>
  cnd v80x24
  (ret (.ret (Value.tuple #[])))
  (ret (.nrm [q18_0, q18_1, q18_2, q18_3, q18_4, q18_5, q18_6, q18_7, q18_8])))
  (ret (.nrm [q18_0, q18_1, q18_2, q18_3, q18_4, q18_5, q18_6, q18_7, q18_8]))) (c9 fun q25_0 q25_1 q25_2 q25_3 q25_4 q25_5 q25_6 q25_7 q25_8 =>
  bind (bop .int .gtr q25_1 (Value.int .i64 0)) fun v82x26 =>
  bind (gateV v82x26 true (ret q25_4)) fun v84x27 =>
  bind (gateV v82x26 true (ret q25_0)) fun v85x28 =>
  bind (gateV v82x26 true (ret q25_1)) fun v86x29 =>
  bind (gateV v82x26 true (bop .int .sub v86x29 (Value.int .i64 1))) fun v87x30 =>
  bind (gateV v82x26 true (ixa 1 v85x28 v87x30)) fun v88x31 =>
  bind (gateV v82x26 true (ld1 v88x31)) fun v89x32 =>
  bind (gateV v82x26 true (ret q25_0)) fun v90x33 =>
  bind (gateV v82x26 true (ret q25_8)) fun v91x34 =>
  bind (gateV v82x26 true (ixa 1 v90x33 v91x34)) fun v92x35 =>
  bind (gateV v82x26 true (ld1 v92x35)) fun v93x36 =>
  bind (gateV v82x26 true (callv Γ v84x27 [v89x32, v93x36])) fun v94x37 =>
  bind (gateV v82x26 true (bop .int .lss v94x37 (Value.int .i64 0))) fun v95x38 =>
  bind (gateV v82x26 true (uop .not v95x38)) fun v96x39 =>
  bind (pick v82x26 v96x39 (Value.bool false)) fun v97x40 =>
  cnd v97x40
  (bind (Γ n_slicesPartitionEqualCmpFuncString [q25_0, q25_1, q25_2, q25_8, q25_4]) fun v103x41 =>
  ret (.nrm [q25_0, v103x41, q25_2, q25_3, q25_4, q25_5, q25_6]))
  (bind (Γ n_slicesPartitionCmpFuncString [q25_0, q25_1, q25_2, q25_8, q25_4]) fun v111x42 =>
  bind (extr v111x42 0) fun v112x43 =>
  bind (extr v111x42 1) fun v113x44 =>
  bind (bop .int .sub v112x43 q25_1) fun v117x45 =>
  bind (bop .int .sub q25_2 v112x43) fun v120x46 =>
  bind (bop .int .quo q25_7 (Value.int .i64 8)) fun v122x47 =>
  bind (bop .int .lss v117x45 v120x46) fun v125x48 =>
  jn (cnd v125x48
  (bind (bop .int .geq v117x45 v122x47) fun v128x49 =>
  bind (Γ n_slicesPdqsortCmpFuncString [q25_0, q25_1, v112x43, q25_3, q25_4]) fun v134x50 =>
  bind (bop .int .add v112x43 (Value.int .i64 1)) fun v136x51 =>
  ret (.nrm [q25_0, v136x51, q25_2, q25_3, q25_4, v128x49, v113x44]))
  (bind (bop .int .geq v120x46 v122x47) fun v139x52 =>
  bind (bop .int .add v112x43 (Value.int .i64 1)) fun v142x53 =>
  bind (Γ n_slicesPdqsortCmpFuncString [q25_0, v142x53, q25_2, q25_3, q25_4]) fun v146x54 =>
  ret (.nrm [q25_0, q25_1, v112x43, q25_3, q25_4, v139x52, v113x44]))) (c7 fun q55_0 q55_1 q55_2 q55_3 q55_4 q55_5 q55_6 =>
  ret (.nrm [q55_0, q55_1, q55_2, q55_3, q55_4, q55_5, q55_6])) noX retR)) noX retR))) noX retR) noX retR))) (c7 fun q60_0 q60_1 q60_2 q60_3 q60_4 q60_5 q60_6 =>
  ret (.nrm [q60_0, q60_1, q60_2, q60_3, q60_4, q60_5, q60_6])) noX retR

/-- slices.pdqsortCmpFunc[string] -/
noncomputable def F_slicesPdqsortCmpFuncString (Γ : Funs) (x0 x1 x2 x3 x4 : Value) : M Value :=
  jn (loopM (c7 (F_slicesPdqsortCmpFuncString.l1 Γ)) [x0, x1, x2, x3, x4, (Value.bool true), (Value.bool true)]) noN noX ret

set_option maxRecDepth 100000 in
theorem rf_slicesPdqsortCmpFuncString (Γ : Funs) (x0 x1 x2 x3 x4 : Value) : runF Try.prog Γ Try.f107 lv_slicesPdqsortCmpFuncString [x0, x1, x2, x3, x4] = F_slicesPdqsortCmpFuncString Γ x0 x1 x2 x3 x4 := by kernel_rfl

theorem run_slicesPdqsortCmpFuncString {prim : FuncId → Option (List Value → M Value)} (hp : prim n_slicesPdqsortCmpFuncString = none) (n : Nat) (x0 x1 x2 x3 x4 : Value) : run Try.prog prim lvs (n + 1) n_slicesPdqsortCmpFuncString [x0, x1, x2, x3, x4] = F_slicesPdqsortCmpFuncString (run Try.prog prim lvs n) x0 x1 x2 x3 x4 :=
  (run_fn hp (by kernel_rfl) Try.func107 (by kernel_rfl)).trans (rf_slicesPdqsortCmpFuncString _ x0 x1 x2 x3 x4)

/-- math/bits.Len -/
noncomputable def F_mathBitsLen (Γ : Funs) (x0 : Value) : M Value :=
  cnd (Value.bool false)
  (bind (cvi .u32 x0) fun v4x1 =>
  bind (Γ n_mathBitsLen32 [v4x1]) fun v5x2 =>
  ret v5x2)
  (bind (Γ n_mathBitsLen64 [x0]) fun v7x3 =>
  ret v7x3)

set_option maxRecDepth 100000 in
theorem rf_mathBitsLen (Γ : Funs) (x0 : Value) : runF Try.prog Γ Try.f108 lv_mathBitsLen [x0] = F_mathBitsLen Γ x0 := by kernel_rfl

theorem run_mathBitsLen {prim : FuncId → Option (List Value → M Value)} (hp : prim n_mathBitsLen = none) (n : Nat) (x0 : Value) : run Try.prog prim lvs (n + 1) n_mathBitsLen [x0] = F_mathBitsLen (run Try.prog prim lvs n) x0 :=
  (run_fn hp (by kernel_rfl) Try.func108 (by kernel_rfl)).trans (rf_mathBitsLen _ x0)

/-- cmp.isNaN[string] -/
noncomputable def F_cmpIsNaNString (Γ : Funs) (x0 : Value) : M Value :=
  bind (bop .str .neq x0 x0) fun v5x1 =>
  ret v5x1

set_option maxRecDepth 100000 in
theorem rf_cmpIsNaNString (Γ : Funs) (x0 : Value) : runF Try.prog Γ Try.f109 lv_cmpIsNaNString [x0] = F_cmpIsNaNString Γ x0 := by kernel_rfl

theorem run_cmpIsNaNString {prim : FuncId → Option (List Value → M Value)} (hp : prim n_cmpIsNaNString = none) (n : Nat) (x0 : Value) : run Try.prog prim lvs (n + 1) n_cmpIsNaNString [x0] = F_cmpIsNaNString (run Try.prog prim lvs n) x0 :=
  (run_fn hp (by kernel_rfl) Try.func109 (by kernel_rfl)).trans (rf_cmpIsNaNString _ x0)

/-- slices.insertionSortCmpFunc[string]: a round. -/
noncomputable def F_slicesInsertionSortCmpFuncString.l2 (Γ : Funs) (s0 s1 s2 s3 s8 s9 : Value) : M Out :=
  bind (bop .int .gtr s9 s1) fun v20x3 =>
  bind (gateV v20x3 true (ret s3)) fun v22x4 =>
  bind (gateV v20x3 true (ret s0)) fun v23x5 =>
  bind (gateV v20x3 true (ret s9)) fun v24x6 =>
  bind (gateV v20x3 true (ixa 1 v23x5 v24x6)) fun v25x7 =>
  bind (gateV v20x3 true (ld1 v25x7)) fun v26x8 =>
  bind (gateV v20x3 true (ret s0)) fun v27x9 =>
  bind (gateV v20x3 true (ret s9)) fun v28x10 =>
  bind (gateV v20x3 true (bop .int .sub v28x10 (Value.int .i64 1))) fun v29x11 =>
  bind (gateV v20x3 true (ixa 1 v27x9 v29x11)) fun v30x12 =>
  bind (gateV v20x3 true (ld1 v30x12)) fun v31x13 =>
  bind (gateV v20x3 true (callv Γ v22x4 [v26x8, v31x13])) fun v32x14 =>
  bind (gateV v20x3 true (bop .int .lss v32x14 (Value.int .i64 0))) fun v33x15 =>
  bind (pick v20x3 v33x15 (Value.bool false)) fun v34x16 =>
  cnd v34x16
  (bind (bop .int .sub s9 (Value.int .i64 1)) fun v41x17 =>
  bind (bop .int .sub s9 (Value.int .i64 1)) fun v44x18 =>
  bind (ixa 1 s0 v44x18) fun v45x19 =>
  bind (ld1 v45x19) fun v46x20 =>
  bind (ixa 1 s0 s9) fun v49x21 =>
  bind (ld1 v49x21) fun v50x22 =>
  bind (ixa 1 s0 s9) fun v51x23 =>
  bind (st1 v51x23 v46x20) fun _ =>
  bind (ixa 1 s0 v41x17) fun v52x24 =>
  bind (st1 v52x24 v50x22) fun _ =>
  bind (bop .int .sub s9 (Value.int .i64 1)) fun v36x25 =>
  ret (.nrm [s0, s1, s2, s3, s8, v36x25]))
  (ret (.ext 2 [s0, s1, s2, s3, s8]))

/-- slices.insertionSortCmpFunc[string]: a round. -/
noncomputable def F_slicesInsertionSortCmpFuncString.l1 (Γ : Funs) (s0 s1 s2 s3 s8 : Value) : M Out :=
  bind (bop .int .lss s8 s2) fun v14x2 =>
  cnd v14x2
  (jn (loopM (c6 (F_slicesInsertionSortCmpFuncString.l2 Γ)) [s0, s1, s2, s3, s8, s8]) noN (xk 2 (c5 fun q27_0 q27_1 q27_2 q27_3 q27_4 =>
  bind (bop .int .add q27_4 (Value.int .i64 1)) fun v16x28 =>
  ret (.nrm [q27_0, q27_1, q27_2, q27_3, v16x28])) noX) retR)
  (ret (.ext 0 []))

/-- slices.insertionSortCmpFunc[string] -/
noncomputable def F_slicesInsertionSortCmpFuncString (Γ : Funs) (x0 x1 x2 x3 : Value) : M Value :=
  bind (bop .int .add x1 (Value.int .i64 1)) fun v11x1 =>
  jn (loopM (c5 (F_slicesInsertionSortCmpFuncString.l1 Γ)) [x0, x1, x2, x3, v11x1]) noN (xk 0 (c0 (ret (Value.tuple #[]))) noX) ret

set_option maxRecDepth 100000 in
theorem rf_slicesInsertionSortCmpFuncString (Γ : Funs) (x0 x1 x2 x3 : Value) : runF Try.prog Γ Try.f110 lv_slicesInsertionSortCmpFuncString [x0, x1, x2, x3] = F_slicesInsertionSortCmpFuncString Γ x0 x1 x2 x3 := by kernel_rfl

theorem run_slicesInsertionSortCmpFuncString {prim : FuncId → Option (List Value → M Value)} (hp : prim n_slicesInsertionSortCmpFuncString = none) (n : Nat) (x0 x1 x2 x3 : Value) : run Try.prog prim lvs (n + 1) n_slicesInsertionSortCmpFuncString [x0, x1, x2, x3] = F_slicesInsertionSortCmpFuncString (run Try.prog prim lvs n) x0 x1 x2 x3 :=
  (run_fn hp (by kernel_rfl) Try.func110 (by kernel_rfl)).trans (rf_slicesInsertionSortCmpFuncString _ x0 x1 x2 x3)

/-- math/bits.Len64 -/
noncomputable def F_mathBitsLen64 (Γ : Funs) (x0 : Value) : M Value :=
  bind (bop .int .geq x0 (Value.int .u64 4294967296)) fun v4x1 =>
  jn (cnd v4x1
  (bind (bop .int .shr x0 (Value.int .u64 32)) fun v6x2 =>
  ret (.nrm [v6x2, (Value.int .i64 32)]))
  (ret (.nrm [x0, (Value.int .i64 0)]))) (c2 fun q3_0 q3_1 =>
  bind (bop .int .geq q3_0 (Value.int .u64 65536)) fun v8x4 =>
  jn (cnd v8x4
  (bind (bop .int .shr q3_0 (Value.int .u64 16)) fun v10x5 =>
  bind (bop .int .add q3_1 (Value.int .i64 16)) fun v12x6 =>
  ret (.nrm [v10x5, v12x6]))
  (ret (.nrm [q3_0, q3_1]))) (c2 fun q7_0 q7_1 =>
  bind (bop .int .geq q7_0 (Value.int .u64 256)) fun v14x8 =>
  jn (cnd v14x8
  (bind (bop .int .shr q7_0 (Value.int .u64 8)) fun v16x9 =>
  bind (bop .int .add q7_1 (Value.int .i64 8)) fun v18x10 =>
  ret (.nrm [v16x9, v18x10]))
  (ret (.nrm [q7_0, q7_1]))) (c2 fun q11_0 q11_1 =>
  bind (cvi .u8 q11_0) fun v21x12 =>
  bind (ixs (Value.string ⟨#[0, 1, 2, 2, 3, 3, 3, 3, 4, 4, 4, 4, 4, 4, 4, 4, 5, 5, 5, 5, 5, 5, 5, 5, 5, 5, 5, 5, 5, 5, 5, 5, 6, 6, 6, 6, 6, 6, 6, 6, 6, 6, 6, 6, 6, 6, 6, 6, 6, 6, 6, 6, 6, 6, 6, 6, 6, 6, 6, 6, 6, 6, 6, 6, 7, 7, 7, 7, 7, 7, 7, 7, 7, 7, 7, 7, 7, 7, 7, 7, 7, 7, 7, 7, 7, 7, 7, 7, 7, 7, 7, 7, 7, 7, 7, 7, 7, 7, 7, 7, 7, 7, 7, 7, 7, 7, 7, 7, 7, 7, 7, 7, 7, 7, 7, 7, 7, 7, 7, 7, 7, 7, 7, 7, 7, 7, 7, 7, 8, 8, 8, 8, 8, 8, 8, 8, 8, 8, 8, 8, 8, 8, 8, 8, 8, 8, 8, 8, 8, 8, 8, 8, 8, 8, 8, 8, 8, 8, 8, 8, 8, 8, 8, 8, 8, 8, 8, 8, 8, 8, 8, 8, 8, 8, 8, 8, 8, 8, 8, 8, 8, 8, 8, 8, 8, 8, 8, 8, 8, 8, 8, 8, 8, 8, 8, 8, 8, 8, 8, 8, 8, 8, 8, 8, 8, 8, 8, 8, 8, 8, 8, 8, 8, 8, 8, 8, 8, 8, 8, 8, 8, 8, 8, 8, 8, 8, 8, 8, 8, 8, 8, 8, 8, 8, 8, 8, 8, 8, 8, 8, 8, 8, 8, 8, 8, 8, 8, 8, 8, 8, 8, 8, 8, 8, 8, 8]⟩) v21x12) fun v22x13 =>
  bind (cvi .i64 v22x13) fun v23x14 =>
  bind (bop .int .add q11_1 v23x14) fun v24x15 =>
  ret v24x15) noX ret) noX ret) noX ret

set_option maxRecDepth 100000 in
theorem rf_mathBitsLen64 (Γ : Funs) (x0 : Value) : runF Try.prog Γ Try.f119 lv_mathBitsLen64 [x0] = F_mathBitsLen64 Γ x0 := by kernel_rfl

theorem run_mathBitsLen64 {prim : FuncId → Option (List Value → M Value)} (hp : prim n_mathBitsLen64 = none) (n : Nat) (x0 : Value) : run Try.prog prim lvs (n + 1) n_mathBitsLen64 [x0] = F_mathBitsLen64 (run Try.prog prim lvs n) x0 :=
  (run_fn hp (by kernel_rfl) Try.func119 (by kernel_rfl)).trans (rf_mathBitsLen64 _ x0)

end Go.Proofs.Ytmacmlpiheimhaa.A
