/- Functions of the library that work on maps: what the kit's contracts say of them, at this program. -/
import Derived.Test.YtmacmlpiheimhaaDoorNmEm
import Derived.Test.YtmacmlpiheimhaaDoorProg
import Derived.Test.YtmacmlpiheimhaaDoorA32
import Derived.Test.YtmacmlpiheimhaaDoorFem
import Derived.WalkKit
import Derived.Laws.Cover1
import Derived.Sort.Walk0
import Derived.Sort.OwnSorted
import Derived.Shelf.SlGeneric
import Derived.Shelf.SlIter.Collect
import Derived.Shelf.SlSortCmp.Whole1
import Derived.Shelf.SlMaps.Clone
import Derived.Ground.GgzProg
import Derived.Ground.SlsfProg
import Derived.Ground.SlmcProg
import Derived.KernelRfl
namespace Go.Proofs
open Go.RowKit Go.Maps Go.Sort Go.Shelf

def Tryd.cloneA_ren : Go.Shelf.Ren := ⟨fun | 5 => 35 | 7 => 59 | n => n, fun | 23 => 64 | 25 => 9 | 3 => 9 | 4 => 4 | 20 => 20 | n => n, fun | n => n⟩
theorem Tryd.cloneA : Go.Proofs.SlLaysW.n5 Tryd.prog Tryd.cloneA_ren := {
  mixed := by kernel_rfl
  f5 := ⟨Tryd.f35.name, by decide, Tryd.func35.trans (congrArg some (by kernel_rfl))⟩
  f7 := Tryd.func59.trans (congrArg some (by kernel_rfl))
  t4 := Tryd.underlying4
  a4 := Tryd.isAgg4
  z4 := Tryd.sizeOf4
  v4 := Tryd.zeroValue4
  t20 := Tryd.underlying20
  a20 := Tryd.isAgg20
  z20 := Tryd.sizeOf20
  v20 := Tryd.zeroValue20
  t23 := Tryd.underlying64
  a23 := Tryd.isAgg64
  z23 := Tryd.sizeOf64
  v23 := Tryd.zeroValue64 }
def Tryd.keysA_ren : Go.Shelf.Ren := ⟨fun | 7 => 55 | 10 => 79 | n => n, fun | 23 => 64 | 26 => 9 | 3 => 9 | 28 => 90 | 0 => 0 | 27 => 89 | 33 => 29 | 4 => 4 | n => n, fun | n => n⟩
theorem Tryd.keysA : Go.Proofs.SlLaysZ.n7 Tryd.prog Tryd.keysA_ren := {
  mixed := by kernel_rfl
  f7 := ⟨Tryd.f55.name, by decide, Tryd.func55.trans (congrArg some (by kernel_rfl))⟩
  f10 := ⟨Tryd.f79.name, by decide, Tryd.func79.trans (congrArg some (by kernel_rfl))⟩
  t0 := Tryd.underlying0
  a0 := Tryd.isAgg0
  z0 := Tryd.sizeOf0
  v0 := Tryd.zeroValue0
  t4 := Tryd.underlying4
  a4 := Tryd.isAgg4
  z4 := Tryd.sizeOf4
  v4 := Tryd.zeroValue4
  t23 := Tryd.underlying64
  a23 := Tryd.isAgg64
  z23 := Tryd.sizeOf64
  v23 := Tryd.zeroValue64
  t26 := Tryd.underlying9
  a26 := Tryd.isAgg9
  z26 := Tryd.sizeOf9
  v26 := Tryd.zeroValue9
  t27 := Tryd.underlying89
  a27 := Tryd.isAgg89
  z27 := Tryd.sizeOf89
  v27 := Tryd.zeroValue89
  t28 := Tryd.underlying90
  a28 := Tryd.isAgg90
  z28 := Tryd.sizeOf90
  v28 := Tryd.zeroValue90
  t33 := Tryd.underlying29
  a33 := Tryd.isAgg29
  z33 := Tryd.sizeOf29
  v33 := Tryd.zeroValue29 }
def Tryd.collA_ren : Go.Shelf.Ren := ⟨fun | 8 => 77 | 11 => 91 | n => n, fun | 26 => 9 | 28 => 90 | 24 => 53 | 0 => 0 | 33 => 29 | 4 => 4 | n => n, fun | n => n⟩
theorem Tryd.collA : Go.Proofs.SlLaysZ.n8 Tryd.prog Tryd.collA_ren := {
  mixed := by kernel_rfl
  f8 := ⟨Tryd.f77.name, by decide, Tryd.func77.trans (congrArg some (by kernel_rfl))⟩
  f11 := ⟨Tryd.f91.name, by decide, Tryd.func91.trans (congrArg some (by kernel_rfl))⟩
  t0 := Tryd.underlying0
  a0 := Tryd.isAgg0
  z0 := Tryd.sizeOf0
  v0 := Tryd.zeroValue0
  t24 := Tryd.underlying53
  a24 := Tryd.isAgg53
  z24 := Tryd.sizeOf53
  v24 := Tryd.zeroValue53
  t26 := Tryd.underlying9
  a26 := Tryd.isAgg9
  z26 := Tryd.sizeOf9
  v26 := Tryd.zeroValue9
  t28 := Tryd.underlying90
  a28 := Tryd.isAgg90
  z28 := Tryd.sizeOf90
  v28 := Tryd.zeroValue90
  i26 := by kernel_rfl }
def Tryd.sortA_ren : Go.Shelf.Ren := ⟨fun | 6 => 78 | 15 => 93 | 14 => 92 | 28 => 110 | 29 => 111 | 20 => 102 | 21 => 103 | 22 => 104 | 23 => 105 | 24 => 106 | 25 => 107 | 26 => 108 | 27 => 109 | 46 => 115 | 47 => 116 | 48 => 117 | 49 => 118 | 50 => 119 | 57 => 120 | n => n, fun | 22 => 53 | 24 => 9 | 25 => 76 | 3 => 3 | 39 => 111 | 0 => 0 | 53 => 126 | 55 => 128 | 4 => 4 | 46 => 119 | 45 => 118 | 50 => 123 | 5 => 5 | 9 => 9 | 66 => 131 | 70 => 135 | 76 => 141 | 77 => 142 | n => n, fun | n => n⟩
theorem Tryd.sortA : Go.Proofs.SlLaysF.n6 Tryd.prog Tryd.sortA_ren := {
  mixed := by kernel_rfl
  f6 := ⟨Tryd.f78.name, by decide, Tryd.func78.trans (congrArg some (by kernel_rfl))⟩
  f14 := ⟨Tryd.f92.name, by decide, Tryd.func92.trans (congrArg some (by kernel_rfl))⟩
  f15 := Tryd.func93.trans (congrArg some (by kernel_rfl))
  f20 := ⟨Tryd.f102.name, by decide, Tryd.func102.trans (congrArg some (by kernel_rfl))⟩
  f21 := ⟨Tryd.f103.name, by decide, Tryd.func103.trans (congrArg some (by kernel_rfl))⟩
  f22 := ⟨Tryd.f104.name, by decide, Tryd.func104.trans (congrArg some (by kernel_rfl))⟩
  f23 := ⟨Tryd.f105.name, by decide, Tryd.func105.trans (congrArg some (by kernel_rfl))⟩
  f24 := ⟨Tryd.f106.name, by decide, Tryd.func106.trans (congrArg some (by kernel_rfl))⟩
  f25 := ⟨Tryd.f107.name, by decide, Tryd.func107.trans (congrArg some (by kernel_rfl))⟩
  f26 := ⟨Tryd.f108.name, by decide, Tryd.func108.trans (congrArg some (by kernel_rfl))⟩
  f27 := ⟨Tryd.f109.name, by decide, Tryd.func109.trans (congrArg some (by kernel_rfl))⟩
  f28 := Tryd.func110.trans (congrArg some (by kernel_rfl))
  f29 := Tryd.func111.trans (congrArg some (by kernel_rfl))
  f46 := ⟨Tryd.f115.name, by decide, Tryd.func115.trans (congrArg some (by kernel_rfl))⟩
  f47 := Tryd.func116.trans (congrArg some (by kernel_rfl))
  f48 := Tryd.func117.trans (congrArg some (by kernel_rfl))
  f49 := ⟨Tryd.f118.name, by decide, Tryd.func118.trans (congrArg some (by kernel_rfl))⟩
  f50 := ⟨Tryd.f119.name, by decide, Tryd.func119.trans (congrArg some (by kernel_rfl))⟩
  f57 := ⟨Tryd.f120.name, by decide, Tryd.func120.trans (congrArg some (by kernel_rfl))⟩
  t0 := Tryd.underlying0
  a0 := Tryd.isAgg0
  z0 := Tryd.sizeOf0
  v0 := Tryd.zeroValue0
  t3 := Tryd.underlying3
  a3 := Tryd.isAgg3
  z3 := Tryd.sizeOf3
  v3 := Tryd.zeroValue3
  t4 := Tryd.underlying4
  a4 := Tryd.isAgg4
  z4 := Tryd.sizeOf4
  v4 := Tryd.zeroValue4
  t5 := Tryd.underlying5
  a5 := Tryd.isAgg5
  z5 := Tryd.sizeOf5
  v5 := Tryd.zeroValue5
  t9 := Tryd.underlying9
  a9 := Tryd.isAgg9
  z9 := Tryd.sizeOf9
  v9 := Tryd.zeroValue9
  t22 := Tryd.underlying53
  a22 := Tryd.isAgg53
  z22 := Tryd.sizeOf53
  v22 := Tryd.zeroValue53
  a24 := Tryd.isAgg9
  z24 := Tryd.sizeOf9
  t25 := Tryd.underlying76
  a25 := Tryd.isAgg76
  z25 := Tryd.sizeOf76
  v25 := Tryd.zeroValue76
  t39 := Tryd.underlying111
  a39 := Tryd.isAgg111
  z39 := Tryd.sizeOf111
  v39 := Tryd.zeroValue111
  t45 := Tryd.underlying118
  a45 := Tryd.isAgg118
  z45 := Tryd.sizeOf118
  v45 := Tryd.zeroValue118
  t46 := Tryd.underlying119
  a46 := Tryd.isAgg119
  z46 := Tryd.sizeOf119
  v46 := Tryd.zeroValue119
  t50 := Tryd.underlying123
  a50 := Tryd.isAgg123
  z50 := Tryd.sizeOf123
  v50 := Tryd.zeroValue123
  t53 := Tryd.underlying126
  a53 := Tryd.isAgg126
  z53 := Tryd.sizeOf126
  v53 := Tryd.zeroValue126
  t55 := Tryd.underlying128
  a55 := Tryd.isAgg128
  z55 := Tryd.sizeOf128
  v55 := Tryd.zeroValue128
  t66 := Tryd.underlying131
  a66 := Tryd.isAgg131
  z66 := Tryd.sizeOf131
  v66 := Tryd.zeroValue131
  t70 := Tryd.underlying135
  a70 := Tryd.isAgg135
  z70 := Tryd.sizeOf135
  v70 := Tryd.zeroValue135
  t76 := Tryd.underlying141
  a76 := Tryd.isAgg141
  z76 := Tryd.sizeOf141
  v76 := Tryd.zeroValue141
  t77 := Tryd.underlying142
  a77 := Tryd.isAgg142
  z77 := Tryd.sizeOf142
  v77 := Tryd.zeroValue142 }

end Go.Proofs

namespace Go.Proofs.YtmacmlpiheimhaaDoor.A
set_option linter.unusedVariables false
set_option linter.unusedSimpArgs false
open Go.RowKit Go.Maps Go.Sort Go.Shelf Go.Proofs

theorem clA : CloneCon Tryd.prog 35 where
  c := ⟨Tryd.f35, Tryd.func35, by kernel_rfl, by kernel_rfl⟩
  nil := fun w => AnyW.maps_Clone_nil Tryd.cloneA w
  some := fun b es clock w hb => AnyW.maps_Clone Tryd.cloneA b es clock w hb

/-! texts are compared -/

def cmpS (x y : List UInt8) : Int := if x < y then -1 else if y < x then 1 else 0

theorem isNaN_s (x : List UInt8) (w : World) : Calls Tryd.prog 86 #[encStr x] w fun e w' => e = .returned (.bool false) ∧ w' = w := by
  go_enter Tryd.func86, Tryd.ntmps86
  go_wp2
  go_ret
  exact ⟨by simp, rfl⟩

theorem lt_tri (x y : List UInt8) : x < y ∨ x = y ∨ y < x := by
  by_cases h : x < y
  · exact .inl h
  · by_cases h2 : y < x
    · exact .inr (.inr h2)
    · exact .inr (.inl (List.le_antisymm h2 h))

theorem compare_s (x y : List UInt8) (w : World) : Calls Tryd.prog 72 #[encStr x, encStr y] w fun e w' => e = .returned (.int .i64 (cmpS x y)) ∧ w' = w := by
  have e86 : ∀ args w, (callFunc 86 args).run Tryd.prog w = .ok (.enter 86 args) w := enters_of Tryd.func86 (by kernel_rfl) rfl
  have hb : Op.bytesLess x y = decide (x < y) := bytesLess_eq x y
  have ht := lt_tri x y
  have hn : ∀ a : List UInt8, ¬ a < a := fun a => List.lt_irrefl a
  have has : x < y → ¬ y < x := fun h => List.lt_asymm h
  go_enter Tryd.func72, Tryd.ntmps72
  go_wp2_with (go_at_call 86; refine (isNaN_s _ _).mono ?_; rintro e w' ⟨rfl, hw⟩; rw [hw])
  all_goals (go_ret; refine ⟨?_, rfl⟩; unfold cmpS; rw [hb] at *; by_cases h1 : x < y <;> by_cases h2 : y < x <;> simp_all <;> exact absurd h2 (List.lt_irrefl _))

theorem nameCompare_s (x y : List UInt8) (w : World) : Calls Tryd.prog 42 #[encStr x, encStr y] w fun e w' => e = .returned (.int .i64 (cmpS x y)) ∧ w' = w := by
  have e72 : ∀ args w, (callFunc 72 args).run Tryd.prog w = .ok (.enter 72 args) w := enters_of Tryd.func72 (by kernel_rfl) rfl
  go_enter Tryd.func42, Tryd.ntmps42
  go_wp2_with (go_at_call 72; refine (compare_s _ _ _).mono ?_; rintro e w' ⟨rfl, hw⟩; rw [hw])
  go_ret
  exact ⟨rfl, rfl⟩

theorem cmpLays (blk off size : Nat) (w : World) : CmpLays1 Tryd.prog 42 #[] encStr cmpS blk off size w := fun m os dk hd x y =>
  (nameCompare_s x y _).mono fun e w' ⟨he, hw⟩ => ⟨he, 0, #[], by rw [hw]; simp [grow, World.drewN]⟩

theorem ltOf_cmpS (x y : List UInt8) : ltOf cmpS x y = decide (x < y) := by
  unfold ltOf cmpS
  by_cases h1 : x < y
  · simp [h1]
  · by_cases h2 : y < x <;> simp [h1, h2]

theorem swoS : SWO (ltOf cmpS) where
  irrefl x := by rw [ltOf_cmpS]; exact decide_eq_false (List.lt_irrefl x)
  trans x y z h1 h2 := by rw [ltOf_cmpS] at *; simp only [decide_eq_true_eq] at *; exact List.lt_trans h1 h2
  ntrans x y z h1 h2 := by
    rw [ltOf_cmpS] at *
    simp only [decide_eq_false_iff_not] at *
    exact List.le_trans h2 h1

/-- What is sorted, and has the same texts, is the sorted row. -/
theorem sorted_is {ss : List (List UInt8)} {d' : Array (List UInt8)} (hp : PermIn 0 ss.toArray.size ss.toArray d') (hs : SortedIn (ltOf cmpS) 0 ss.toArray.size d') : d' = (ss.mergeSort fun x y => decide (x ≤ y)).toArray := by
  have hsz : d'.size = ss.length := by simpa using hp.1
  have hperm : d'.toList.Perm ss := by
    have h3 : d'.toList.Perm (ss.take d'.size) := by simpa [← hsz] using hp.2.2
    rwa [List.take_of_length_le (by omega)] at h3
  have hpw : d'.toList.Pairwise fun x y => (decide (x ≤ y)) = true := by
    rw [List.pairwise_iff_getElem]
    intro i j hi hj hij
    have hi' : i < d'.size := by simpa using hi
    have hj' : j < d'.size := by simpa using hj
    have := hs i j (Nat.zero_le _) hij (by simpa [hsz] using hj')
    rw [ltOf_cmpS, getElem!_pos d' j hj', getElem!_pos d' i hi'] at this
    simp only [decide_eq_false_iff_not] at this
    simp only [Array.getElem_toList, decide_eq_true_eq]
    exact this
  have h1 : d'.toList.mergeSort (fun x y => decide (x ≤ y)) = d'.toList := List.mergeSort_of_pairwise hpw
  have h2 := mergeSort_of_perm hperm
  apply Array.ext'
  rw [← h1]
  exact h2

/-- The model's run of a function that the abstract machine reads without what is told here. -/
theorem calls_of {g : FuncId} {args : List Value} {v : Value} {n : Nat} (hg : g < yoff) (hc : callableF Tryd.prog g) (hx : ∀ w : World, RVs (ι0 Tryd.prog.globals.size) args args) (hrun : ∃ H', run Tryd.prog (fun _ => none) lvs n g args (List.replicate Tryd.prog.globals.size AObj.dead) = some (v, H')) (w : World) :
    Calls Tryd.prog g args.toArray w fun e w' => ∃ v', e = .returned v' ∧ Go.RowKit.Below w.heap.size w w' := by
  obtain ⟨H', hrun⟩ := hrun
  have hs := run_sound (P := Tryd.prog) (prim := fun _ => none) (lvs := lvs) (by kernel_rfl) (fun b g m h => by cases h) n (b0 w) g args _ v H' hrun
  rcases hs with ⟨_, hC | ⟨e, ⟨fn', h1, _, h2, _⟩, _⟩⟩ | ⟨hno, _⟩
  · obtain ⟨_, hC⟩ := hC
    refine (hC (ι0 Tryd.prog.globals.size) w args sim0 (hx w)).mono fun e w' ⟨ι1, v', _, he, _, hS⟩ => ⟨v', he, ?_⟩
    exact ⟨hS.rest.1, hS.rest.2.1, hS.rest.2.2, hS.size, hS.old⟩
  · obtain ⟨fn, h3, _, h4⟩ := hc
    rw [h3] at h1; cases h1
    rw [h4] at h2; cases h2
  · exact absurd hg (Nat.not_lt_of_le hno)

noncomputable abbrev R0 (n : Nat) : Funs := run Tryd.prog (fun _ => none) lvs n

section
variable {H : Heap} {n : Nat} {f : Value}

theorem insNil : R0 (n + 1) n_slicesInsertionSortCmpFuncString [.slice none 0 0, iv 0, iv 0, f] H = some (.tuple #[], H) := by
  rw [R0, run_slicesInsertionSortCmpFuncString rfl]
  unfold F_slicesInsertionSortCmpFuncString
  have w1 : IntKind.i64.wrap (0 + 1) = 1 := w64 (by omega) (by omega)
  rw [bind_eq add_r, w1]
  refine (jn_ext (j := 0) (vs := []) (H' := H) (loop_ext ?_)).trans ?_
  · simp [F_slicesInsertionSortCmpFuncString.l1, ↓bind_andk, andk_some, ↓jn_outk, outk_nrm, outk_ext, outk_ret, ↓cnd_b, ret_r, nilc_r, fa_r, ldOne_r, ldA_r, stOne_r, stA_r, rdk_r, rdkA_r, wrk_r, wrkA_r, alc_r, lenS_r, lenT_r, cvi_r, pick_r, not_r, mx_r, mn_r, ixa_r, ixaA_r, bld_r, add_r, sub_r, mul_r, quo_r, rem_r, eql_r, neq_r, lss_r, leq_r, gtr_r, geq_r, eqb_r, neb_r, eqp_r, nep_r, ↓gv_r, gvn_r, ↓g_r, gn_r, Bool.not_true, Bool.not_false, Bool.false_eq_true, Bool.true_eq_false, reduceIte, List.tail_cons, List.headD_cons, decide_true, decide_false, cond_true, cond_false, Nat.beq_refl, c0_r, c1_r, c2_r, c3_r, c4_r, c5_r, c6_r, c7_r, c8_r, c9_r, c10_r, c11_r, c12_r, xk_hit, List.replicate, extr_p0, extr_p1, extr_q0, extr_q1, extr_q2, fa_z, adds_v, lenT_v, retR]
  · rw [xk_hit]; rfl

theorem pdqNil {l : Value} : R0 (n + 2) n_slicesPdqsortCmpFuncString [.slice none 0 0, iv 0, iv 0, l, f] H = some (.tuple #[], H) := by
  have e1 : run Tryd.prog (fun _ => none) lvs (n + 1) n_slicesInsertionSortCmpFuncString [.slice none 0 0, iv 0, iv 0, f] H = _ := insNil
  rw [R0, run_slicesPdqsortCmpFuncString rfl]
  unfold F_slicesPdqsortCmpFuncString
  refine (jn_ret (v := .tuple #[]) (H' := H) (loop_ret ?_)).trans rfl
  have w1 : IntKind.i64.wrap (0 - 0) = 0 := w64 (by omega) (by omega)
  rw [c7_r]
  unfold F_slicesPdqsortCmpFuncString.l1
  refine jn_ret ?_
  rw [bind_eq sub_r, w1, bind_eq leq_r, cnd_b, if_pos (by simp), bind_eq e1]
  rfl

theorem ixs_any {s : ByteArray} {i : Nat} (hi : i < s.size) (q : IntKind) (H : Heap) : ∃ b : UInt8, ixs (.string s) (.int q i) H = some (.int .u8 b.toNat, H) := by
  refine ⟨s[i], ?_⟩
  unfold ixs
  simp only [Int.toNat_natCast]
  rw [if_pos (by omega), getElem?_pos s i hi]

set_option maxRecDepth 100000 in
theorem lenNil : ∃ v, R0 (n + 2) n_mathBitsLen [.int .u64 0] H = some (v, H) := by
  have e : ∃ v, R0 (n + 1) n_mathBitsLen64 [.int .u64 0] H = some (v, H) := by
    rw [R0, run_mathBitsLen64 rfl]
    unfold F_mathBitsLen64
    have w1 : IntKind.u8.wrap 0 = ((0 : Nat) : Int) := by rw [wu8]; rfl
    generalize ht : (⟨#[0, 1, 2, 2, 3, 3, 3, 3, 4, 4, 4, 4, 4, 4, 4, 4, 5, 5, 5, 5, 5, 5, 5, 5, 5, 5, 5, 5, 5, 5, 5, 5, 6, 6, 6, 6, 6, 6, 6, 6, 6, 6, 6, 6, 6, 6, 6, 6, 6, 6, 6, 6, 6, 6, 6, 6, 6, 6, 6, 6, 6, 6, 6, 6, 7, 7, 7, 7, 7, 7, 7, 7, 7, 7, 7, 7, 7, 7, 7, 7, 7, 7, 7, 7, 7, 7, 7, 7, 7, 7, 7, 7, 7, 7, 7, 7, 7, 7, 7, 7, 7, 7, 7, 7, 7, 7, 7, 7, 7, 7, 7, 7, 7, 7, 7, 7, 7, 7, 7, 7, 7, 7, 7, 7, 7, 7, 7, 7, 8, 8, 8, 8, 8, 8, 8, 8, 8, 8, 8, 8, 8, 8, 8, 8, 8, 8, 8, 8, 8, 8, 8, 8, 8, 8, 8, 8, 8, 8, 8, 8, 8, 8, 8, 8, 8, 8, 8, 8, 8, 8, 8, 8, 8, 8, 8, 8, 8, 8, 8, 8, 8, 8, 8, 8, 8, 8, 8, 8, 8, 8, 8, 8, 8, 8, 8, 8, 8, 8, 8, 8, 8, 8, 8, 8, 8, 8, 8, 8, 8, 8, 8, 8, 8, 8, 8, 8, 8, 8, 8, 8, 8, 8, 8, 8, 8, 8, 8, 8, 8, 8, 8, 8, 8, 8, 8, 8, 8, 8, 8, 8, 8, 8, 8, 8, 8, 8, 8, 8, 8, 8, 8, 8, 8, 8, 8, 8]⟩ : ByteArray) = tab
    have hs : tab.size = 256 := by rw [← ht]; rfl
    obtain ⟨b, hb⟩ := ixs_any (s := tab) (i := 0) (by omega) .u8 H
    refine ⟨iv (IntKind.i64.wrap (0 + IntKind.i64.wrap b.toNat)), ?_⟩
    rw [bind_eq geq_r]
    refine (jn_nrm (vs := [.int .u64 0, iv 0]) (H' := H) (by rw [cnd_b, if_neg (by simp)]; rfl)).trans ?_
    rw [c2_r, bind_eq geq_r]
    refine (jn_nrm (vs := [.int .u64 0, iv 0]) (H' := H) (by rw [cnd_b, if_neg (by simp)]; rfl)).trans ?_
    rw [c2_r, bind_eq geq_r]
    refine (jn_nrm (vs := [.int .u64 0, iv 0]) (H' := H) (by rw [cnd_b, if_neg (by simp)]; rfl)).trans ?_
    rw [c2_r, bind_eq cvi_r, w1, bind_eq hb, bind_eq cvi_r, bind_eq add_r]
    rfl
  obtain ⟨v, e⟩ := e
  refine ⟨v, ?_⟩
  rw [R0, run_mathBitsLen rfl]
  unfold F_mathBitsLen
  rw [cnd_b, if_neg (by simp), bind_eq e]
  rfl

theorem sortNil : R0 (n + 3) n_slicesSortFuncstringString [.slice none 0 0, f] H = some (.tuple #[], H) := by
  obtain ⟨v, e1⟩ := lenNil (n := n) (H := H)
  have e2 : R0 (n + 2) n_slicesPdqsortCmpFuncString [.slice none 0 0, iv 0, iv 0, v, f] H = some (.tuple #[], H) := pdqNil
  rw [R0, run_slicesSortFuncstringString rfl]
  unfold F_slicesSortFuncstringString
  have w1 : IntKind.u64.wrap ((0 : Nat) : Int) = 0 := by rw [wu64]; rfl
  rw [bind_eq lenS_r, bind_eq cvi_r, w1, bind_eq e1]
  refine (bind_eq e2).trans rfl

end

theorem sort_nil (w : World) : Calls Tryd.prog 78 #[.slice none 0 0, .func (.func 42) #[] #[]] w fun e w' => ∃ v', e = .returned v' ∧ Go.RowKit.Below w.heap.size w w' :=
  calls_of (args := [.slice none 0 0, .func (.func 42) #[] #[]]) (n := 3) (by decide) ⟨Tryd.f78, Tryd.func78, by kernel_rfl, by kernel_rfl⟩ (fun w => .cons (.sc rfl) (.cons (.fn (fun l h => by cases h) rfl (fun i hi => by cases hi) rfl (fun i hi => by cases hi)) .nil)) ⟨_, sortNil (n := 0)⟩ w

theorem keysCon_of {gk : FuncId} (hg : ∀ args w, (callFunc gk args).run Tryd.prog w = .ok (.enter gk args) w)
    (hseq : ∀ (w : World) (Bm b : Nat) (es : Array MapEntry) (clock : Nat) (ks : List (List UInt8)), Bm < w.heap.size → w.cell? ⟨Bm, 0, none⟩ = some (.map (some b)) → w.heap[b]? = some (.map es clock) → es.toList.map (·.key) = ks.map strv → Go.MapKept.Stamped es clock →
      (∀ k ∈ ks, k.length ≤ 1000000) → ks.length ≤ 1000000 → SeqGives Fence.wide 3 Tryd.prog gk #[.pointer (some ⟨Bm, 0, none⟩)] encStr (fun ss => ss.Perm ks) ks.length w) : KeysCon Tryd.prog 54 gk 42 where
  c := ⟨Tryd.f54, Tryd.func54, by kernel_rfl, by kernel_rfl⟩
  run := fun w Bm b es clock ks hB hc hb hk hst hl hf => by
    have e78 : ∀ args w, (callFunc 78 args).run Tryd.prog w = .ok (.enter 78 args) w := enters_of Tryd.func78 (by kernel_rfl) rfl
    have e42 : ∀ args w, (callFunc 42 args).run Tryd.prog w = .ok (.enter 42 args) w := enters_of Tryd.func42 (by kernel_rfl) rfl
    have hmax : ks.length ≤ maxLen := Nat.le_trans hf (by decide)
    have cC := AnyZ.collect_in Tryd.collA Fence.wide 5 trivial trivial rfl (by omega) gk #[.pointer (some ⟨Bm, 0, none⟩)] trivial hg _ _ hmax (by omega) w (hseq w Bm b es clock ks hB hc hb hk hst hl hf)
    have cC := (callsIn_wide (n := 5)).1 cC
    change Calls Tryd.prog 77 _ _ _ at cC
    go_enter Tryd.func54, Tryd.ntmps54
    go_wp2_with (go_at_call 77; refine cC.mono ?_; rintro e W ⟨v, ss, rfl, hS, hrow, hnil, hbl⟩)
    have hlen : ss.length = ks.length := hS.length_eq
    rcases hrow.2 with ⟨rfl, hz⟩ | ⟨gb, cap, cur, rfl, hbase, hgb, r1, r2, r3, r4⟩
    · have hss : ss = [] := List.eq_nil_of_length_eq_zero hz
      go_wp2_with (go_at_call 78; refine (sort_nil W).mono ?_; rintro e w' ⟨v', rfl, hb2⟩)
      go_ret
      have hks : ks = [] := List.eq_nil_of_length_eq_zero (by rw [← hlen, hss]; rfl)
      subst hks
      exact ⟨_, 0, rfl, ⟨by simp [ksort], .inl ⟨rfl, rfl⟩⟩, by simp, hbl.trans (hb2.mono (by have := hbl.size; omega))⟩
    · have hH : Holds encStr W gb 0 ss.toArray := holds_of_block hgb (by simpa using r4)
      have hgl : gb < W.heap.size := (Array.getElem?_eq_some_iff.1 hgb).1
      have cS := Any.slices_SortFunc Tryd.sortA encStr (fun _ => rfl) cmpS swoS 42 #[] gb 0 cap ss.toArray W e42 (cmpLays gb 0 _ W) hH hgl (by simp; omega)
      change Calls Tryd.prog 78 #[.slice (some ⟨gb, 0, none⟩) ss.length cap, .func (.func 42) #[] #[]] W _ at cS
      go_wp2_with (go_at_call 78; refine cS.mono ?_; rintro e w' ⟨rfl, d', nn, os, hp, hs, rfl⟩)
      go_ret
      have hd := sorted_is hp hs
      subst hd
      have hks : ksort ks = ss.mergeSort (fun x y => decide (x ≤ y)) := (mergeSort_of_perm hS).symm
      rw [← hlen, hks]
      exact ⟨_, _, rfl, ownsRow_sorted (by simp) hbase hgb r1 r2 r3, hnil.trans ⟨fun h => List.eq_nil_of_length_eq_zero (by rw [← hlen, h]; rfl), fun h => List.eq_nil_of_length_eq_zero (by rw [hlen, h]; rfl)⟩, hbl.grown (grownBy_sorted _) hbl.size (fun j hj => by cases hj; exact hbase)⟩

/-! ranges over the keys -/

section
variable {H : Type}

/-- Elements as they are: nothing is asked of them. -/
def anyV (v : Value) : Option (DataW H × List MemPlace) := some (.nil, [])

theorem own_of {P : Program} {k : TypeId} (hk : P.underlying k = some .string) {w : World} {b clock : Nat} {es : Array MapEntry} {ks : List (List UInt8)} (hb : w.heap[b]? = some (.map es clock)) (hks : es.toList.map (·.key) = ks.map strv) (hst : Go.MapKept.Stamped es clock)
    (hl : ∀ k ∈ ks, k.length ≤ 1000000) (hf : ks.length ≤ 1000000) : ∃ D0 : DataW H, w.ownsMap P k anyV b ks.length D0 ∧ ks.Perm (strKeys D0) ∧ Maps.size D0 = ks.length := by
  have hsz : es.size = ks.length := by
    have := congrArg List.length hks
    simpa using this
  have hrd : ∀ (x : MapEntry) (s : List UInt8), x.key = strv s → s.length ≤ 1000000 → Go.WideElems.rd (H := H) P k anyV x = some (.string s, .nil) := fun x s hs hlen => by
    have h1 : (⟨s.toArray⟩ : ByteArray).size ≤ maxLen := Nat.le_trans (by simpa [ByteArray.size] using hlen) (by decide)
    simp [Go.WideElems.rd, hs, keyOf, hk, mapKey, anyV, h1, strv]
  have hmap : ∀ (l : List MapEntry) (q : List (List UInt8)), l.map (·.key) = q.map strv → (∀ s ∈ q, s.length ≤ 1000000) → l.map (Go.WideElems.rg (H := H) P k anyV) = q.map fun s => (Lit.string s, DataW.nil) := by
    intro l
    induction l with
    | nil => intro q h _; cases q with | nil => rfl | cons a q => simp at h
    | cons x l ih =>
      intro q h hq
      cases q with
      | nil => simp at h
      | cons a q =>
        simp only [List.map_cons, List.cons.injEq] at h
        rw [List.map_cons, List.map_cons, ih q h.2 (fun s hs => hq s (List.mem_cons_of_mem _ hs))]
        congr 1
        unfold Go.WideElems.rg
        rw [hrd x a h.1 (hq a (by simp))]
        rfl
  refine ⟨.map ((es.toList.map (Go.WideElems.rg P k anyV)).foldr DataW.insert []), ⟨es, clock, hb, ⟨by rw [hsz]; exact Nat.le_trans hf (by decide), hst, fun x hx => ?_⟩, by omega, rfl⟩, ?_, ?_⟩
  · have : x.key ∈ ks.map strv := by rw [← hks]; exact List.mem_map.2 ⟨x, hx, rfl⟩
    obtain ⟨s, h1, h2⟩ := List.mem_map.1 this
    exact ⟨_, hrd x s h2.symm (hl s h1)⟩
  · rw [hmap _ _ hks hl]
    have h1 := (Go.WideShapes.sorted_perm (H := H) (ks.map fun s => (Lit.string s, DataW.nil))).map fun p => Go.strOf p.1
    have h2 : (ks.map fun s => (Lit.string s, (DataW.nil : DataW H))).map (fun p => Go.strOf p.1) = ks := by
      rw [List.map_map]; exact (List.map_congr_left fun a _ => rfl).trans (List.map_id ks)
    rw [h2] at h1
    exact h1.symm
  · rw [hmap _ _ hks hl]
    have := (Go.WideShapes.sorted_perm (H := H) (ks.map fun s => (Lit.string s, DataW.nil))).length_eq
    rw [List.length_map] at this
    exact this

end

theorem gives_of {g Bm n : Nat} {ks ks' : List (List UInt8)} {w : World} (h : SeqGives Fence.wide 3 Tryd.prog g #[.pointer (some ⟨Bm, 0, none⟩)] encStr (fun ss => ss.Perm ks') n w) (hn : n = ks.length) (hp : ks.Perm ks') : SeqGives Fence.wide 3 Tryd.prog g #[.pointer (some ⟨Bm, 0, none⟩)] encStr (fun ss => ss.Perm ks) ks.length w := by
  subst hn
  intro l J W hW hJ hY h0
  refine (h l J W hW hJ hY h0).mono fun e w' ⟨h1, xs, h2, h3⟩ => ⟨h1, xs, h2.trans hp.symm, h3⟩

theorem keysA : KeysCon Tryd.prog 54 79 42 := keysCon_of (enters_of Tryd.func79 (by kernel_rfl) rfl) fun w Bm b es clock ks hB hc hb hk hst hl hf => by
  obtain ⟨D0, hown, hp, hs⟩ := own_of (H := Unit) (P := Tryd.prog) (k := Tryd.keysA_ren.t 26) (by kernel_rfl) hb hk hst hl hf
  exact gives_of (AnyZ.keys_gives (ρ := Tryd.keysA_ren) { Tryd.keysA with } Fence.wide 3 trivial rfl (by omega) Bm b ks.length D0 w hB hc hown) hs hp

abbrev n_keysStr : Nat := n_mapsKeysMapStringstringStringString1
/-- What tells the keys of maps. -/
abbrev keyFns : List Nat := [79]

/-- What the abstract machine does at once. -/
noncomputable def np : Nat → Option (List Value → M Value)
  | 35 => some cloneM
  | 54 => some (skeysM keyFns n_nameCompare)
  | 112 => some idxBM
  | 101 => some cntBM
  | _ => none

theorem np_sound (w0 : Base) : ∀ g m, np g = some m → SoundP Tryd.prog Tryd.prog.globals.size w0 g m := by
  intro g m h
  unfold np at h
  split at h
  · cases h; exact clone_sound clA
  · cases h
    exact skeys_sound (by simp) fun gk hg => by
      simp only [List.mem_cons, List.not_mem_nil, or_false] at hg
      subst hg
      exact keysA
  · cases h; exact (idxB_sound ⟨Tryd.f112, Tryd.func112, by kernel_rfl, by kernel_rfl, by kernel_rfl, by kernel_rfl⟩)
  · cases h; exact (cntB_sound ⟨Tryd.f101, Tryd.func101, by kernel_rfl, by kernel_rfl, by kernel_rfl, by kernel_rfl⟩)
  · cases h

noncomputable abbrev R (n : Nat) : Funs := run Tryd.prog np lvs n

end Go.Proofs.YtmacmlpiheimhaaDoor.A
