/- Functions of the library that work on maps: what the kit's contracts say of them, at this program. -/
import Derived.Test.YtlpibiaokpbhbaaGreatDoorNmZd
import Derived.Test.YtlpibiaokpbhbaaGreatDoorProg
import Derived.Test.YtlpibiaokpbhbaaGreatDoorA32
import Derived.Test.YtlpibiaokpbhbaaGreatDoorFzd
import Derived.WalkKit
import Derived.Laws.Cover1
import Derived.Sort.Walk0
import Derived.Sort.OwnSorted
import Derived.Shelf.SlGeneric
import Derived.Shelf.SlIter.Collect
import Derived.Shelf.SlSortCmp.Whole1
import Derived.Shelf.SlMaps.Clone
import Derived.Ground.GgzProg
import Derived.Ground.SlsfProg
import Derived.Ground.SlmcProg
import Derived.KernelRfl
namespace Go.Proofs
open Go.RowKit Go.Maps Go.Sort Go.Shelf

def Tryz.keysA_ren : Go.Shelf.Ren := ⟨fun | 7 => 60 | 10 => 91 | n => n, fun | 23 => 66 | 26 => 9 | 3 => 9 | 28 => 107 | 0 => 0 | 27 => 106 | 33 => 127 | 4 => 4 | n => n, fun | n => n⟩
theorem Tryz.keysA : Go.Proofs.SlLaysZ.n7 Tryz.prog Tryz.keysA_ren := {
  mixed := by kernel_rfl
  f7 := ⟨Tryz.f60.name, by decide, Tryz.func60.trans (congrArg some (by kernel_rfl))⟩
  f10 := ⟨Tryz.f91.name, by decide, Tryz.func91.trans (congrArg some (by kernel_rfl))⟩
  t0 := Tryz.underlying0
  a0 := Tryz.isAgg0
  z0 := Tryz.sizeOf0
  v0 := Tryz.zeroValue0
  t4 := Tryz.underlying4
  a4 := Tryz.isAgg4
  z4 := Tryz.sizeOf4
  v4 := Tryz.zeroValue4
  t23 := Tryz.underlying66
  a23 := Tryz.isAgg66
  z23 := Tryz.sizeOf66
  v23 := Tryz.zeroValue66
  t26 := Tryz.underlying9
  a26 := Tryz.isAgg9
  z26 := Tryz.sizeOf9
  v26 := Tryz.zeroValue9
  t27 := Tryz.underlying106
  a27 := Tryz.isAgg106
  z27 := Tryz.sizeOf106
  v27 := Tryz.zeroValue106
  t28 := Tryz.underlying107
  a28 := Tryz.isAgg107
  z28 := Tryz.sizeOf107
  v28 := Tryz.zeroValue107
  t33 := Tryz.underlying127
  a33 := Tryz.isAgg127
  z33 := Tryz.sizeOf127
  v33 := Tryz.zeroValue127 }
def Tryz.keysB_ren : Go.Shelf.Ren := ⟨fun | 7 => 108 | 10 => 124 | n => n, fun | 23 => 81 | 26 => 9 | 3 => 88 | 28 => 107 | 0 => 0 | 27 => 106 | 33 => 127 | 4 => 4 | n => n, fun | n => n⟩
theorem Tryz.keysB : Go.Proofs.SlLaysZ.n7 Tryz.prog Tryz.keysB_ren := {
  mixed := by kernel_rfl
  f7 := ⟨Tryz.f108.name, by decide, Tryz.func108.trans (congrArg some (by kernel_rfl))⟩
  f10 := ⟨Tryz.f124.name, by decide, Tryz.func124.trans (congrArg some (by kernel_rfl))⟩
  t0 := Tryz.underlying0
  a0 := Tryz.isAgg0
  z0 := Tryz.sizeOf0
  v0 := Tryz.zeroValue0
  t4 := Tryz.underlying4
  a4 := Tryz.isAgg4
  z4 := Tryz.sizeOf4
  v4 := Tryz.zeroValue4
  t23 := Tryz.underlying81
  a23 := Tryz.isAgg81
  z23 := Tryz.sizeOf81
  v23 := Tryz.zeroValue81
  t26 := Tryz.underlying9
  a26 := Tryz.isAgg9
  z26 := Tryz.sizeOf9
  v26 := Tryz.zeroValue9
  t27 := Tryz.underlying106
  a27 := Tryz.isAgg106
  z27 := Tryz.sizeOf106
  v27 := Tryz.zeroValue106
  t28 := Tryz.underlying107
  a28 := Tryz.isAgg107
  z28 := Tryz.sizeOf107
  v28 := Tryz.zeroValue107
  t33 := Tryz.underlying127
  a33 := Tryz.isAgg127
  z33 := Tryz.sizeOf127
  v33 := Tryz.zeroValue127 }
def Tryz.keysC_ren : Go.Shelf.Ren := ⟨fun | 7 => 123 | 10 => 141 | n => n, fun | 23 => 122 | 26 => 9 | 3 => 119 | 28 => 107 | 0 => 0 | 27 => 106 | 33 => 127 | 4 => 4 | n => n, fun | n => n⟩
theorem Tryz.keysC : Go.Proofs.SlLaysZ.n7 Tryz.prog Tryz.keysC_ren := {
  mixed := by kernel_rfl
  f7 := ⟨Tryz.f123.name, by decide, Tryz.func123.trans (congrArg some (by kernel_rfl))⟩
  f10 := ⟨Tryz.f141.name, by decide, Tryz.func141.trans (congrArg some (by kernel_rfl))⟩
  t0 := Tryz.underlying0
  a0 := Tryz.isAgg0
  z0 := Tryz.sizeOf0
  v0 := Tryz.zeroValue0
  t4 := Tryz.underlying4
  a4 := Tryz.isAgg4
  z4 := Tryz.sizeOf4
  v4 := Tryz.zeroValue4
  t23 := Tryz.underlying122
  a23 := Tryz.isAgg122
  z23 := Tryz.sizeOf122
  v23 := Tryz.zeroValue122
  t26 := Tryz.underlying9
  a26 := Tryz.isAgg9
  z26 := Tryz.sizeOf9
  v26 := Tryz.zeroValue9
  t27 := Tryz.underlying106
  a27 := Tryz.isAgg106
  z27 := Tryz.sizeOf106
  v27 := Tryz.zeroValue106
  t28 := Tryz.underlying107
  a28 := Tryz.isAgg107
  z28 := Tryz.sizeOf107
  v28 := Tryz.zeroValue107
  t33 := Tryz.underlying127
  a33 := Tryz.isAgg127
  z33 := Tryz.sizeOf127
  v33 := Tryz.zeroValue127 }
def Tryz.collA_ren : Go.Shelf.Ren := ⟨fun | 8 => 89 | 11 => 114 | n => n, fun | 26 => 9 | 28 => 107 | 24 => 41 | 0 => 0 | 33 => 127 | 4 => 4 | n => n, fun | n => n⟩
theorem Tryz.collA : Go.Proofs.SlLaysZ.n8 Tryz.prog Tryz.collA_ren := {
  mixed := by kernel_rfl
  f8 := ⟨Tryz.f89.name, by decide, Tryz.func89.trans (congrArg some (by kernel_rfl))⟩
  f11 := ⟨Tryz.f114.name, by decide, Tryz.func114.trans (congrArg some (by kernel_rfl))⟩
  t0 := Tryz.underlying0
  a0 := Tryz.isAgg0
  z0 := Tryz.sizeOf0
  v0 := Tryz.zeroValue0
  t24 := Tryz.underlying41
  a24 := Tryz.isAgg41
  z24 := Tryz.sizeOf41
  v24 := Tryz.zeroValue41
  t26 := Tryz.underlying9
  a26 := Tryz.isAgg9
  z26 := Tryz.sizeOf9
  v26 := Tryz.zeroValue9
  t28 := Tryz.underlying107
  a28 := Tryz.isAgg107
  z28 := Tryz.sizeOf107
  v28 := Tryz.zeroValue107
  i26 := by kernel_rfl }
def Tryz.sortA_ren : Go.Shelf.Ren := ⟨fun | 6 => 90 | 15 => 116 | 14 => 115 | 28 => 135 | 29 => 136 | 20 => 127 | 21 => 128 | 22 => 129 | 23 => 130 | 24 => 131 | 25 => 132 | 26 => 133 | 27 => 134 | 46 => 143 | 47 => 144 | 48 => 145 | 49 => 146 | 50 => 147 | 57 => 155 | n => n, fun | 22 => 41 | 24 => 9 | 25 => 99 | 3 => 3 | 39 => 150 | 0 => 0 | 53 => 185 | 55 => 94 | 4 => 4 | 46 => 178 | 45 => 177 | 50 => 182 | 5 => 5 | 9 => 9 | 66 => 189 | 70 => 193 | 76 => 199 | 77 => 200 | n => n, fun | n => n⟩
theorem Tryz.sortA : Go.Proofs.SlLaysF.n6 Tryz.prog Tryz.sortA_ren := {
  mixed := by kernel_rfl
  f6 := ⟨Tryz.f90.name, by decide, Tryz.func90.trans (congrArg some (by kernel_rfl))⟩
  f14 := ⟨Tryz.f115.name, by decide, Tryz.func115.trans (congrArg some (by kernel_rfl))⟩
  f15 := Tryz.func116.trans (congrArg some (by kernel_rfl))
  f20 := ⟨Tryz.f127.name, by decide, Tryz.func127.trans (congrArg some (by kernel_rfl))⟩
  f21 := ⟨Tryz.f128.name, by decide, Tryz.func128.trans (congrArg some (by kernel_rfl))⟩
  f22 := ⟨Tryz.f129.name, by decide, Tryz.func129.trans (congrArg some (by kernel_rfl))⟩
  f23 := ⟨Tryz.f130.name, by decide, Tryz.func130.trans (congrArg some (by kernel_rfl))⟩
  f24 := ⟨Tryz.f131.name, by decide, Tryz.func131.trans (congrArg some (by kernel_rfl))⟩
  f25 := ⟨Tryz.f132.name, by decide, Tryz.func132.trans (congrArg some (by kernel_rfl))⟩
  f26 := ⟨Tryz.f133.name, by decide, Tryz.func133.trans (congrArg some (by kernel_rfl))⟩
  f27 := ⟨Tryz.f134.name, by decide, Tryz.func134.trans (congrArg some (by kernel_rfl))⟩
  f28 := Tryz.func135.trans (congrArg some (by kernel_rfl))
  f29 := Tryz.func136.trans (congrArg some (by kernel_rfl))
  f46 := ⟨Tryz.f143.name, by decide, Tryz.func143.trans (congrArg some (by kernel_rfl))⟩
  f47 := Tryz.func144.trans (congrArg some (by kernel_rfl))
  f48 := Tryz.func145.trans (congrArg some (by kernel_rfl))
  f49 := ⟨Tryz.f146.name, by decide, Tryz.func146.trans (congrArg some (by kernel_rfl))⟩
  f50 := ⟨Tryz.f147.name, by decide, Tryz.func147.trans (congrArg some (by kernel_rfl))⟩
  f57 := ⟨Tryz.f155.name, by decide, Tryz.func155.trans (congrArg some (by kernel_rfl))⟩
  t0 := Tryz.underlying0
  a0 := Tryz.isAgg0
  z0 := Tryz.sizeOf0
  v0 := Tryz.zeroValue0
  t3 := Tryz.underlying3
  a3 := Tryz.isAgg3
  z3 := Tryz.sizeOf3
  v3 := Tryz.zeroValue3
  t4 := Tryz.underlying4
  a4 := Tryz.isAgg4
  z4 := Tryz.sizeOf4
  v4 := Tryz.zeroValue4
  t5 := Tryz.underlying5
  a5 := Tryz.isAgg5
  z5 := Tryz.sizeOf5
  v5 := Tryz.zeroValue5
  t9 := Tryz.underlying9
  a9 := Tryz.isAgg9
  z9 := Tryz.sizeOf9
  v9 := Tryz.zeroValue9
  t22 := Tryz.underlying41
  a22 := Tryz.isAgg41
  z22 := Tryz.sizeOf41
  v22 := Tryz.zeroValue41
  a24 := Tryz.isAgg9
  z24 := Tryz.sizeOf9
  t25 := Tryz.underlying99
  a25 := Tryz.isAgg99
  z25 := Tryz.sizeOf99
  v25 := Tryz.zeroValue99
  t39 := Tryz.underlying150
  a39 := Tryz.isAgg150
  z39 := Tryz.sizeOf150
  v39 := Tryz.zeroValue150
  t45 := Tryz.underlying177
  a45 := Tryz.isAgg177
  z45 := Tryz.sizeOf177
  v45 := Tryz.zeroValue177
  t46 := Tryz.underlying178
  a46 := Tryz.isAgg178
  z46 := Tryz.sizeOf178
  v46 := Tryz.zeroValue178
  t50 := Tryz.underlying182
  a50 := Tryz.isAgg182
  z50 := Tryz.sizeOf182
  v50 := Tryz.zeroValue182
  t53 := Tryz.underlying185
  a53 := Tryz.isAgg185
  z53 := Tryz.sizeOf185
  v53 := Tryz.zeroValue185
  t55 := Tryz.underlying94
  a55 := Tryz.isAgg94
  z55 := Tryz.sizeOf94
  v55 := Tryz.zeroValue94
  t66 := Tryz.underlying189
  a66 := Tryz.isAgg189
  z66 := Tryz.sizeOf189
  v66 := Tryz.zeroValue189
  t70 := Tryz.underlying193
  a70 := Tryz.isAgg193
  z70 := Tryz.sizeOf193
  v70 := Tryz.zeroValue193
  t76 := Tryz.underlying199
  a76 := Tryz.isAgg199
  z76 := Tryz.sizeOf199
  v76 := Tryz.zeroValue199
  t77 := Tryz.underlying200
  a77 := Tryz.isAgg200
  z77 := Tryz.sizeOf200
  v77 := Tryz.zeroValue200 }

end Go.Proofs

namespace Go.Proofs.YtlpibiaokpbhbaaGreatDoor.A
set_option linter.unusedVariables false
set_option linter.unusedSimpArgs false
open Go.RowKit Go.Maps Go.Sort Go.Shelf Go.Proofs

/-! texts are compared -/

def cmpS (x y : List UInt8) : Int := if x < y then -1 else if y < x then 1 else 0

theorem isNaN_s (x : List UInt8) (w : World) : Calls Tryz.prog 113 #[encStr x] w fun e w' => e = .returned (.bool false) ∧ w' = w := by
  go_enter Tryz.func113, Tryz.ntmps113
  go_wp2
  go_ret
  exact ⟨by simp, rfl⟩

theorem lt_tri (x y : List UInt8) : x < y ∨ x = y ∨ y < x := by
  by_cases h : x < y
  · exact .inl h
  · by_cases h2 : y < x
    · exact .inr (.inr h2)
    · exact .inr (.inl (List.le_antisymm h2 h))

theorem compare_s (x y : List UInt8) (w : World) : Calls Tryz.prog 83 #[encStr x, encStr y] w fun e w' => e = .returned (.int .i64 (cmpS x y)) ∧ w' = w := by
  have e113 : ∀ args w, (callFunc 113 args).run Tryz.prog w = .ok (.enter 113 args) w := enters_of Tryz.func113 (by kernel_rfl) rfl
  have hb : Op.bytesLess x y = decide (x < y) := bytesLess_eq x y
  have ht := lt_tri x y
  have hn : ∀ a : List UInt8, ¬ a < a := fun a => List.lt_irrefl a
  have has : x < y → ¬ y < x := fun h => List.lt_asymm h
  go_enter Tryz.func83, Tryz.ntmps83
  go_wp2_with (go_at_call 113; refine (isNaN_s _ _).mono ?_; rintro e w' ⟨rfl, hw⟩; rw [hw])
  all_goals (go_ret; refine ⟨?_, rfl⟩; unfold cmpS; rw [hb] at *; by_cases h1 : x < y <;> by_cases h2 : y < x <;> simp_all <;> exact absurd h2 (List.lt_irrefl _))

theorem nameCompare_s (x y : List UInt8) (w : World) : Calls Tryz.prog 55 #[encStr x, encStr y] w fun e w' => e = .returned (.int .i64 (cmpS x y)) ∧ w' = w := by
  have e83 : ∀ args w, (callFunc 83 args).run Tryz.prog w = .ok (.enter 83 args) w := enters_of Tryz.func83 (by kernel_rfl) rfl
  go_enter Tryz.func55, Tryz.ntmps55
  go_wp2_with (go_at_call 83; refine (compare_s _ _ _).mono ?_; rintro e w' ⟨rfl, hw⟩; rw [hw])
  go_ret
  exact ⟨rfl, rfl⟩

theorem cmpLays (blk off size : Nat) (w : World) : CmpLays1 Tryz.prog 55 #[] encStr cmpS blk off size w := fun m os dk hd x y =>
  (nameCompare_s x y _).mono fun e w' ⟨he, hw⟩ => ⟨he, 0, #[], by rw [hw]; simp [grow, World.drewN]⟩

theorem ltOf_cmpS (x y : List UInt8) : ltOf cmpS x y = decide (x < y) := by
  unfold ltOf cmpS
  by_cases h1 : x < y
  · simp [h1]
  · by_cases h2 : y < x <;> simp [h1, h2]

theorem swoS : SWO (ltOf cmpS) where
  irrefl x := by rw [ltOf_cmpS]; exact decide_eq_false (List.lt_irrefl x)
  trans x y z h1 h2 := by rw [ltOf_cmpS] at *; simp only [decide_eq_true_eq] at *; exact List.lt_trans h1 h2
  ntrans x y z h1 h2 := by
    rw [ltOf_cmpS] at *
    simp only [decide_eq_false_iff_not] at *
    exact List.le_trans h2 h1

/-- What is sorted, and has the same texts, is the sorted row. -/
theorem sorted_is {ss : List (List UInt8)} {d' : Array (List UInt8)} (hp : PermIn 0 ss.toArray.size ss.toArray d') (hs : SortedIn (ltOf cmpS) 0 ss.toArray.size d') : d' = (ss.mergeSort fun x y => decide (x ≤ y)).toArray := by
  have hsz : d'.size = ss.length := by simpa using hp.1
  have hperm : d'.toList.Perm ss := by
    have h3 : d'.toList.Perm (ss.take d'.size) := by simpa [← hsz] using hp.2.2
    rwa [List.take_of_length_le (by omega)] at h3
  have hpw : d'.toList.Pairwise fun x y => (decide (x ≤ y)) = true := by
    rw [List.pairwise_iff_getElem]
    intro i j hi hj hij
    have hi' : i < d'.size := by simpa using hi
    have hj' : j < d'.size := by simpa using hj
    have := hs i j (Nat.zero_le _) hij (by simpa [hsz] using hj')
    rw [ltOf_cmpS, getElem!_pos d' j hj', getElem!_pos d' i hi'] at this
    simp only [decide_eq_false_iff_not] at this
    simp only [Array.getElem_toList, decide_eq_true_eq]
    exact this
  have h1 : d'.toList.mergeSort (fun x y => decide (x ≤ y)) = d'.toList := List.mergeSort_of_pairwise hpw
  have h2 := mergeSort_of_perm hperm
  apply Array.ext'
  rw [← h1]
  exact h2

/-- The model's run of a function that the abstract machine reads without what is told here. -/
theorem calls_of {g : FuncId} {args : List Value} {v : Value} {n : Nat} (hg : g < yoff) (hc : callableF Tryz.prog g) (hx : ∀ w : World, RVs (ι0 Tryz.prog.globals.size) args args) (hrun : ∃ H', run Tryz.prog (fun _ => none) lvs n g args (List.replicate Tryz.prog.globals.size AObj.dead) = some (v, H')) (w : World) :
    Calls Tryz.prog g args.toArray w fun e w' => ∃ v', e = .returned v' ∧ Go.RowKit.Below w.heap.size w w' := by
  obtain ⟨H', hrun⟩ := hrun
  have hs := run_sound (P := Tryz.prog) (prim := fun _ => none) (lvs := lvs) (by kernel_rfl) (fun b g m h => by cases h) n (b0 w) g args _ v H' hrun
  rcases hs with ⟨_, hC | ⟨e, ⟨fn', h1, _, h2, _⟩, _⟩⟩ | ⟨hno, _⟩
  · obtain ⟨_, hC⟩ := hC
    refine (hC (ι0 Tryz.prog.globals.size) w args sim0 (hx w)).mono fun e w' ⟨ι1, v', _, he, _, hS⟩ => ⟨v', he, ?_⟩
    exact ⟨hS.rest.1, hS.rest.2.1, hS.rest.2.2, hS.size, hS.old⟩
  · obtain ⟨fn, h3, _, h4⟩ := hc
    rw [h3] at h1; cases h1
    rw [h4] at h2; cases h2
  · exact absurd hg (Nat.not_lt_of_le hno)

noncomputable abbrev R0 (n : Nat) : Funs := run Tryz.prog (fun _ => none) lvs n

section
variable {H : Heap} {n : Nat} {f : Value}

theorem insNil : R0 (n + 1) n_slicesInsertionSortCmpFuncString [.slice none 0 0, iv 0, iv 0, f] H = some (.tuple #[], H) := by
  rw [R0, run_slicesInsertionSortCmpFuncString rfl]
  unfold F_slicesInsertionSortCmpFuncString
  have w1 : IntKind.i64.wrap (0 + 1) = 1 := w64 (by omega) (by omega)
  rw [bind_eq add_r, w1]
  refine (jn_ext (j := 0) (vs := []) (H' := H) (loop_ext ?_)).trans ?_
  · simp [F_slicesInsertionSortCmpFuncString.l1, ↓bind_andk, andk_some, ↓jn_outk, outk_nrm, outk_ext, outk_ret, ↓cnd_b, ret_r, nilc_r, fa_r, ldOne_r, ldA_r, stOne_r, stA_r, rdk_r, rdkA_r, wrk_r, wrkA_r, alc_r, lenS_r, lenT_r, cvi_r, pick_r, not_r, mx_r, mn_r, ixa_r, ixaA_r, bld_r, add_r, sub_r, mul_r, quo_r, rem_r, eql_r, neq_r, lss_r, leq_r, gtr_r, geq_r, eqb_r, neb_r, eqp_r, nep_r, ↓gv_r, gvn_r, ↓g_r, gn_r, Bool.not_true, Bool.not_false, Bool.false_eq_true, Bool.true_eq_false, reduceIte, List.tail_cons, List.headD_cons, decide_true, decide_false, cond_true, cond_false, Nat.beq_refl, c0_r, c1_r, c2_r, c3_r, c4_r, c5_r, c6_r, c7_r, c8_r, c9_r, c10_r, c11_r, c12_r, xk_hit, List.replicate, extr_p0, extr_p1, extr_q0, extr_q1, extr_q2, fa_z, adds_v, lenT_v, retR]
  · rw [xk_hit]; rfl

theorem pdqNil {l : Value} : R0 (n + 2) n_slicesPdqsortCmpFuncString [.slice none 0 0, iv 0, iv 0, l, f] H = some (.tuple #[], H) := by
  have e1 : run Tryz.prog (fun _ => none) lvs (n + 1) n_slicesInsertionSortCmpFuncString [.slice none 0 0, iv 0, iv 0, f] H = _ := insNil
  rw [R0, run_slicesPdqsortCmpFuncString rfl]
  unfold F_slicesPdqsortCmpFuncString
  refine (jn_ret (v := .tuple #[]) (H' := H) (loop_ret ?_)).trans rfl
  have w1 : IntKind.i64.wrap (0 - 0) = 0 := w64 (by omega) (by omega)
  rw [c7_r]
  unfold F_slicesPdqsortCmpFuncString.l1
  refine jn_ret ?_
  rw [bind_eq sub_r, w1, bind_eq leq_r, cnd_b, if_pos (by simp), bind_eq e1]
  rfl

theorem ixs_any {s : ByteArray} {i : Nat} (hi : i < s.size) (q : IntKind) (H : Heap) : ∃ b : UInt8, ixs (.string s) (.int q i) H = some (.int .u8 b.toNat, H) := by
  refine ⟨s[i], ?_⟩
  unfold ixs
  simp only [Int.toNat_natCast]
  rw [if_pos (by omega), getElem?_pos s i hi]

set_option maxRecDepth 100000 in
theorem lenNil : ∃ v, R0 (n + 2) n_mathBitsLen [.int .u64 0] H = some (v, H) := by
  have e : ∃ v, R0 (n + 1) n_mathBitsLen64 [.int .u64 0] H = some (v, H) := by
    rw [R0, run_mathBitsLen64 rfl]
    unfold F_mathBitsLen64
    have w1 : IntKind.u8.wrap 0 = ((0 : Nat) : Int) := by rw [wu8]; rfl
    generalize ht : (⟨#[0, 1, 2, 2, 3, 3, 3, 3, 4, 4, 4, 4, 4, 4, 4, 4, 5, 5, 5, 5, 5, 5, 5, 5, 5, 5, 5, 5, 5, 5, 5, 5, 6, 6, 6, 6, 6, 6, 6, 6, 6, 6, 6, 6, 6, 6, 6, 6, 6, 6, 6, 6, 6, 6, 6, 6, 6, 6, 6, 6, 6, 6, 6, 6, 7, 7, 7, 7, 7, 7, 7, 7, 7, 7, 7, 7, 7, 7, 7, 7, 7, 7, 7, 7, 7, 7, 7, 7, 7, 7, 7, 7, 7, 7, 7, 7, 7, 7, 7, 7, 7, 7, 7, 7, 7, 7, 7, 7, 7, 7, 7, 7, 7, 7, 7, 7, 7, 7, 7, 7, 7, 7, 7, 7, 7, 7, 7, 7, 8, 8, 8, 8, 8, 8, 8, 8, 8, 8, 8, 8, 8, 8, 8, 8, 8, 8, 8, 8, 8, 8, 8, 8, 8, 8, 8, 8, 8, 8, 8, 8, 8, 8, 8, 8, 8, 8, 8, 8, 8, 8, 8, 8, 8, 8, 8, 8, 8, 8, 8, 8, 8, 8, 8, 8, 8, 8, 8, 8, 8, 8, 8, 8, 8, 8, 8, 8, 8, 8, 8, 8, 8, 8, 8, 8, 8, 8, 8, 8, 8, 8, 8, 8, 8, 8, 8, 8, 8, 8, 8, 8, 8, 8, 8, 8, 8, 8, 8, 8, 8, 8, 8, 8, 8, 8, 8, 8, 8, 8, 8, 8, 8, 8, 8, 8, 8, 8, 8, 8, 8, 8, 8, 8, 8, 8, 8, 8]⟩ : ByteArray) = tab
    have hs : tab.size = 256 := by rw [← ht]; rfl
    obtain ⟨b, hb⟩ := ixs_any (s := tab) (i := 0) (by omega) .u8 H
    refine ⟨iv (IntKind.i64.wrap (0 + IntKind.i64.wrap b.toNat)), ?_⟩
    rw [bind_eq geq_r]
    refine (jn_nrm (vs := [.int .u64 0, iv 0]) (H' := H) (by rw [cnd_b, if_neg (by simp)]; rfl)).trans ?_
    rw [c2_r, bind_eq geq_r]
    refine (jn_nrm (vs := [.int .u64 0, iv 0]) (H' := H) (by rw [cnd_b, if_neg (by simp)]; rfl)).trans ?_
    rw [c2_r, bind_eq geq_r]
    refine (jn_nrm (vs := [.int .u64 0, iv 0]) (H' := H) (by rw [cnd_b, if_neg (by simp)]; rfl)).trans ?_
    rw [c2_r, bind_eq cvi_r, w1, bind_eq hb, bind_eq cvi_r, bind_eq add_r]
    rfl
  obtain ⟨v, e⟩ := e
  refine ⟨v, ?_⟩
  rw [R0, run_mathBitsLen rfl]
  unfold F_mathBitsLen
  rw [cnd_b, if_neg (by simp), bind_eq e]
  rfl

theorem sortNil : R0 (n + 3) n_slicesSortFuncstringString [.slice none 0 0, f] H = some (.tuple #[], H) := by
  obtain ⟨v, e1⟩ := lenNil (n := n) (H := H)
  have e2 : R0 (n + 2) n_slicesPdqsortCmpFuncString [.slice none 0 0, iv 0, iv 0, v, f] H = some (.tuple #[], H) := pdqNil
  rw [R0, run_slicesSortFuncstringString rfl]
  unfold F_slicesSortFuncstringString
  have w1 : IntKind.u64.wrap ((0 : Nat) : Int) = 0 := by rw [wu64]; rfl
  rw [bind_eq lenS_r, bind_eq cvi_r, w1, bind_eq e1]
  refine (bind_eq e2).trans rfl

end

theorem sort_nil (w : World) : Calls Tryz.prog 90 #[.slice none 0 0, .func (.func 55) #[] #[]] w fun e w' => ∃ v', e = .returned v' ∧ Go.RowKit.Below w.heap.size w w' :=
  calls_of (args := [.slice none 0 0, .func (.func 55) #[] #[]]) (n := 3) (by decide) ⟨Tryz.f90, Tryz.func90, by kernel_rfl, by kernel_rfl⟩ (fun w => .cons (.sc rfl) (.cons (.fn (fun l h => by cases h) rfl (fun i hi => by cases hi) rfl (fun i hi => by cases hi)) .nil)) ⟨_, sortNil (n := 0)⟩ w

theorem keysCon_of {gk : FuncId} (hg : ∀ args w, (callFunc gk args).run Tryz.prog w = .ok (.enter gk args) w)
    (hseq : ∀ (w : World) (Bm b : Nat) (es : Array MapEntry) (clock : Nat) (ks : List (List UInt8)), Bm < w.heap.size → w.cell? ⟨Bm, 0, none⟩ = some (.map (some b)) → w.heap[b]? = some (.map es clock) → es.toList.map (·.key) = ks.map strv → Go.MapKept.Stamped es clock →
      (∀ k ∈ ks, k.length ≤ 1000000) → ks.length ≤ 1000000 → SeqGives Fence.wide 3 Tryz.prog gk #[.pointer (some ⟨Bm, 0, none⟩)] encStr (fun ss => ss.Perm ks) ks.length w) : KeysCon Tryz.prog 59 gk 55 where
  c := ⟨Tryz.f59, Tryz.func59, by kernel_rfl, by kernel_rfl⟩
  run := fun w Bm b es clock ks hB hc hb hk hst hl hf => by
    have e90 : ∀ args w, (callFunc 90 args).run Tryz.prog w = .ok (.enter 90 args) w := enters_of Tryz.func90 (by kernel_rfl) rfl
    have e55 : ∀ args w, (callFunc 55 args).run Tryz.prog w = .ok (.enter 55 args) w := enters_of Tryz.func55 (by kernel_rfl) rfl
    have hmax : ks.length ≤ maxLen := Nat.le_trans hf (by decide)
    have cC := AnyZ.collect_in Tryz.collA Fence.wide 5 trivial trivial rfl (by omega) gk #[.pointer (some ⟨Bm, 0, none⟩)] trivial hg _ _ hmax (by omega) w (hseq w Bm b es clock ks hB hc hb hk hst hl hf)
    have cC := (callsIn_wide (n := 5)).1 cC
    change Calls Tryz.prog 89 _ _ _ at cC
    go_enter Tryz.func59, Tryz.ntmps59
    go_wp2_with (go_at_call 89; refine cC.mono ?_; rintro e W ⟨v, ss, rfl, hS, hrow, hnil, hbl⟩)
    have hlen : ss.length = ks.length := hS.length_eq
    rcases hrow.2 with ⟨rfl, hz⟩ | ⟨gb, cap, cur, rfl, hbase, hgb, r1, r2, r3, r4⟩
    · have hss : ss = [] := List.eq_nil_of_length_eq_zero hz
      go_wp2_with (go_at_call 90; refine (sort_nil W).mono ?_; rintro e w' ⟨v', rfl, hb2⟩)
      go_ret
      have hks : ks = [] := List.eq_nil_of_length_eq_zero (by rw [← hlen, hss]; rfl)
      subst hks
      exact ⟨_, 0, rfl, ⟨by simp [ksort], .inl ⟨rfl, rfl⟩⟩, by simp, hbl.trans (hb2.mono (by have := hbl.size; omega))⟩
    · have hH : Holds encStr W gb 0 ss.toArray := holds_of_block hgb (by simpa using r4)
      have hgl : gb < W.heap.size := (Array.getElem?_eq_some_iff.1 hgb).1
      have cS := Any.slices_SortFunc Tryz.sortA encStr (fun _ => rfl) cmpS swoS 55 #[] gb 0 cap ss.toArray W e55 (cmpLays gb 0 _ W) hH hgl (by simp; omega)
      change Calls Tryz.prog 90 #[.slice (some ⟨gb, 0, none⟩) ss.length cap, .func (.func 55) #[] #[]] W _ at cS
      go_wp2_with (go_at_call 90; refine cS.mono ?_; rintro e w' ⟨rfl, d', nn, os, hp, hs, rfl⟩)
      go_ret
      have hd := sorted_is hp hs
      subst hd
      have hks : ksort ks = ss.mergeSort (fun x y => decide (x ≤ y)) := (mergeSort_of_perm hS).symm
      rw [← hlen, hks]
      exact ⟨_, _, rfl, ownsRow_sorted (by simp) hbase hgb r1 r2 r3, hnil.trans ⟨fun h => List.eq_nil_of_length_eq_zero (by rw [← hlen, h]; rfl), fun h => List.eq_nil_of_length_eq_zero (by rw [hlen, h]; rfl)⟩, hbl.grown (grownBy_sorted _) hbl.size (fun j hj => by cases hj; exact hbase)⟩

/-! ranges over the keys -/

section
variable {H : Type}

/-- Elements as they are: nothing is asked of them. -/
def anyV (v : Value) : Option (DataW H × List MemPlace) := some (.nil, [])

theorem own_of {P : Program} {k : TypeId} (hk : P.underlying k = some .string) {w : World} {b clock : Nat} {es : Array MapEntry} {ks : List (List UInt8)} (hb : w.heap[b]? = some (.map es clock)) (hks : es.toList.map (·.key) = ks.map strv) (hst : Go.MapKept.Stamped es clock)
    (hl : ∀ k ∈ ks, k.length ≤ 1000000) (hf : ks.length ≤ 1000000) : ∃ D0 : DataW H, w.ownsMap P k anyV b ks.length D0 ∧ ks.Perm (strKeys D0) ∧ Maps.size D0 = ks.length := by
  have hsz : es.size = ks.length := by
    have := congrArg List.length hks
    simpa using this
  have hrd : ∀ (x : MapEntry) (s : List UInt8), x.key = strv s → s.length ≤ 1000000 → Go.WideElems.rd (H := H) P k anyV x = some (.string s, .nil) := fun x s hs hlen => by
    have h1 : (⟨s.toArray⟩ : ByteArray).size ≤ maxLen := Nat.le_trans (by simpa [ByteArray.size] using hlen) (by decide)
    simp [Go.WideElems.rd, hs, keyOf, hk, mapKey, anyV, h1, strv]
  have hmap : ∀ (l : List MapEntry) (q : List (List UInt8)), l.map (·.key) = q.map strv → (∀ s ∈ q, s.length ≤ 1000000) → l.map (Go.WideElems.rg (H := H) P k anyV) = q.map fun s => (Lit.string s, DataW.nil) := by
    intro l
    induction l with
    | nil => intro q h _; cases q with | nil => rfl | cons a q => simp at h
    | cons x l ih =>
      intro q h hq
      cases q with
      | nil => simp at h
      | cons a q =>
        simp only [List.map_cons, List.cons.injEq] at h
        rw [List.map_cons, List.map_cons, ih q h.2 (fun s hs => hq s (List.mem_cons_of_mem _ hs))]
        congr 1
        unfold Go.WideElems.rg
        rw [hrd x a h.1 (hq a (by simp))]
        rfl
  refine ⟨.map ((es.toList.map (Go.WideElems.rg P k anyV)).foldr DataW.insert []), ⟨es, clock, hb, ⟨by rw [hsz]; exact Nat.le_trans hf (by decide), hst, fun x hx => ?_⟩, by omega, rfl⟩, ?_, ?_⟩
  · have : x.key ∈ ks.map strv := by rw [← hks]; exact List.mem_map.2 ⟨x, hx, rfl⟩
    obtain ⟨s, h1, h2⟩ := List.mem_map.1 this
    exact ⟨_, hrd x s h2.symm (hl s h1)⟩
  · rw [hmap _ _ hks hl]
    have h1 := (Go.WideShapes.sorted_perm (H := H) (ks.map fun s => (Lit.string s, DataW.nil))).map fun p => Go.strOf p.1
    have h2 : (ks.map fun s => (Lit.string s, (DataW.nil : DataW H))).map (fun p => Go.strOf p.1) = ks := by
      rw [List.map_map]; exact (List.map_congr_left fun a _ => rfl).trans (List.map_id ks)
    rw [h2] at h1
    exact h1.symm
  · rw [hmap _ _ hks hl]
    have := (Go.WideShapes.sorted_perm (H := H) (ks.map fun s => (Lit.string s, DataW.nil))).length_eq
    rw [List.length_map] at this
    exact this

end

theorem gives_of {g Bm n : Nat} {ks ks' : List (List UInt8)} {w : World} (h : SeqGives Fence.wide 3 Tryz.prog g #[.pointer (some ⟨Bm, 0, none⟩)] encStr (fun ss => ss.Perm ks') n w) (hn : n = ks.length) (hp : ks.Perm ks') : SeqGives Fence.wide 3 Tryz.prog g #[.pointer (some ⟨Bm, 0, none⟩)] encStr (fun ss => ss.Perm ks) ks.length w := by
  subst hn
  intro l J W hW hJ hY h0
  refine (h l J W hW hJ hY h0).mono fun e w' ⟨h1, xs, h2, h3⟩ => ⟨h1, xs, h2.trans hp.symm, h3⟩

theorem keysA : KeysCon Tryz.prog 59 91 55 := keysCon_of (enters_of Tryz.func91 (by kernel_rfl) rfl) fun w Bm b es clock ks hB hc hb hk hst hl hf => by
  obtain ⟨D0, hown, hp, hs⟩ := own_of (H := Unit) (P := Tryz.prog) (k := Tryz.keysA_ren.t 26) (by kernel_rfl) hb hk hst hl hf
  exact gives_of (AnyZ.keys_gives (ρ := Tryz.keysA_ren) { Tryz.keysA with } Fence.wide 3 trivial rfl (by omega) Bm b ks.length D0 w hB hc hown) hs hp

theorem keysB : KeysCon Tryz.prog 59 124 55 := keysCon_of (enters_of Tryz.func124 (by kernel_rfl) rfl) fun w Bm b es clock ks hB hc hb hk hst hl hf => by
  obtain ⟨D0, hown, hp, hs⟩ := own_of (H := Unit) (P := Tryz.prog) (k := Tryz.keysB_ren.t 26) (by kernel_rfl) hb hk hst hl hf
  exact gives_of (AnyZ.keys_gives (ρ := Tryz.keysB_ren) { Tryz.keysB with } Fence.wide 3 trivial rfl (by omega) Bm b ks.length D0 w hB hc hown) hs hp

theorem keysC : KeysCon Tryz.prog 59 141 55 := keysCon_of (enters_of Tryz.func141 (by kernel_rfl) rfl) fun w Bm b es clock ks hB hc hb hk hst hl hf => by
  obtain ⟨D0, hown, hp, hs⟩ := own_of (H := Unit) (P := Tryz.prog) (k := Tryz.keysC_ren.t 26) (by kernel_rfl) hb hk hst hl hf
  exact gives_of (AnyZ.keys_gives (ρ := Tryz.keysC_ren) { Tryz.keysC with } Fence.wide 3 trivial rfl (by omega) Bm b ks.length D0 w hB hc hown) hs hp

abbrev n_keysStr : Nat := n_mapsKeysMapStringstringStringString1
/-- What tells the keys of maps. -/
abbrev keyFns : List Nat := [91, 124, 141]

/-- What the abstract machine does at once. -/
noncomputable def np : Nat → Option (List Value → M Value)
  | 59 => some (skeysM keyFns n_nameCompare)
  | 156 => some idxBM
  | 154 => some cntBM
  | _ => none

theorem np_sound (w0 : Base) : ∀ g m, np g = some m → SoundP Tryz.prog Tryz.prog.globals.size w0 g m := by
  intro g m h
  unfold np at h
  split at h
  · cases h
    exact skeys_sound (by simp) fun gk hg => by
      simp only [List.mem_cons, List.not_mem_nil, or_false] at hg
      rcases hg with rfl | rfl | rfl
      · exact keysA
      · exact keysB
      · exact keysC
  · cases h; exact (idxB_sound ⟨Tryz.f156, Tryz.func156, by kernel_rfl, by kernel_rfl, by kernel_rfl, by kernel_rfl⟩)
  · cases h; exact (cntB_sound ⟨Tryz.f154, Tryz.func154, by kernel_rfl, by kernel_rfl, by kernel_rfl, by kernel_rfl⟩)
  · cases h

noncomputable abbrev R (n : Nat) : Funs := run Tryz.prog np lvs n

end Go.Proofs.YtlpibiaokpbhbaaGreatDoor.A
