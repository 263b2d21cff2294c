/- 'MigrateDown' tells true, for every input; what it was given reads as it did: the tied card. -/
import Derived.Test.YtedkoimihknggaaGreatDoorZMigrateDown7
import Derived.Test.YtedkoimihknggaaGreatDoorTie
import Derived.Test.YtedkoimihknggaaGreatDoorChecked
import Derived.ProofKit
import Derived.OpenShut
import Derived.LaidMore
import Derived.Lay
import Derived.Test.YtedkoimihknggaaGreatDoorCards
import Derived.SevenTiedAt
import Derived.Stop.Joined
/- 'MigrateDown': the contract of its row: it tells true, and what it was given reads as it did. -/
namespace Go.Proofs.YtedkoimihknggaaGreatDoor
set_option linter.unusedVariables false
open Go.ChangeShapes Go.WideShapes Go.ChangeAt Go.RowKit
theorem Tryz.own : ownKnob Tryz.prog.godebug = none := by kernel_rfl
theorem Tryz.laidOut : laidOutB Tryz.prog = true := by kernel_rfl
set_option maxRecDepth 100000 in
theorem migrateDown_lifted (os : Os) (started : os.Started) (H : Type) (enc : TypeId × Value → H) :
    ReturnsInHanded {} Tryz.checked os 9 .any (fun w args => (Rows.migrateDownSpec.pre enc Tryz.prog Tryz.f9 Rows.migrateDownRow.domain false w args ∧ laidMetH Tryz.prog Rows.migrateDownRow.laid w) ∧ sizedMet enc Tryz.prog Tryz.f9 (OpenSpec.ofChange Rows.migrateDownSpec) false w args) (Rows.migrateDownSpec.post enc Tryz.prog Tryz.f9 false true false false) := by
  refine returnsInHanded_of_change_and (C := Tryz.checked) (X := fun w _ => laidMetH Tryz.prog Rows.migrateDownRow.laid w) (fun _ _ _ hh h => h.of_heap hh) Tryz.own started (by kernel_rfl) Tryz.func9
    (ChangeSpec.witness_shaped (enc := enc) (C := Tryz.checked) (os := os) (X := fun w _ => laidMetH Tryz.prog Rows.migrateDownRow.laid w) false (World.laidAll Tryz.prog os Rows.migrateDownRow.laid) #[.slice none 0 0] 8 (World.laidAll_os _ _ _)
      (World.shaped_of_ZipB (by kernel_rfl) (by kernel_rfl)) (by kernel_rfl) (by kernel_rfl) (by kernel_rfl)
      (by rw [MakeChecks.laidMetH_plain _ _ _ (by kernel_rfl)]; exact laidMet_laidAll _ (by kernel_rfl) (by kernel_rfl))) ?_
  intro W base args ds gs before hval hW _ _ _ _
  refine A.law_calls (P := Tryz.prog) (by kernel_rfl) Tryz.laidOut (prim := A.np) (lvs := A.lvs) (tys := [.slc A.nActT]) A.np_sound (fn := Tryz.f9) (s := Rows.migrateDownSpec) A.law_MigrateDown Tryz.func9 (by kernel_rfl) (by decide) (by kernel_rfl) (by kernel_rfl) (tb := 4) (by kernel_rfl) rfl (fun ds h => ?_) hval hW
  match ds, h with
  | [x0], _ => rfl
end Go.Proofs.YtedkoimihknggaaGreatDoor

namespace Go.Proofs.YtedkoimihknggaaGreatDoor
open Go Go.ChangeShapes Go.WideShapes Go.ChangeAt Go.RowKit
theorem migrateDown_row : Rows.MigrateDownSaid :=
  OpenClaim.holds_of_wide 9 Tryz.f9 rfl rfl rfl rfl rfl rfl rfl ⟨rfl, rfl, rfl, rfl, rfl⟩ rfl rfl rfl rfl rfl (by kernel_rfl) Tryz.func9 (by kernel_rfl)
    (of_decide_eq_true (by kernel_rfl)) (by unfold Func.isWrapper; first | (rw [if_pos (by decide +kernel)]; kernel_rfl) | (rw [if_neg (by decide +kernel)]; exact ⟨rfl, rfl⟩))
    (fun os started H enc _ => migrateDown_lifted os started H enc)
theorem migrateDown_holds : Rows.MigrateDownCardSaid :=
  Claim7.holds_tied_plain_at .later [] [.data, .pinned] true (true, "d6d9c60763bf8bc0123e028da6cb2a07e463b74728570edff625c18f6e259766") true migrateDown_row (fun _ h => by cases h) (by kernel_rfl) (fun _ h => by cases h) migrateDown_row_tie rfl ⟨rfl, rfl⟩ (by kernel_rfl) rfl
    (fun f fn hf hfn => by
      obtain rfl : f = 9 := Option.some.inj ((show Tryz.prog.funcNamed "interrex/interrexlaw13.MigrateDown" = some 9 by kernel_rfl).symm.trans hf) |>.symm
      obtain rfl : fn = Tryz.f9 := (Option.some.inj (Tryz.func9.symm.trans hfn)).symm
      exact ⟨by kernel_rfl, fun j t ht => by
        rw [Tryz.params9] at ht
        have hm : t ∈ [43] := by simpa using Array.mem_of_getElem? ht
        have hall : ([43].all fun u => !Tryz.prog.wantsStandIn u) = true := by kernel_rfl
        exact (show Tryz.prog.wantsStandIn t = false by simpa using List.all_eq_true.1 hall t hm)⟩)
    (by kernel_rfl)
end Go.Proofs.YtedkoimihknggaaGreatDoor

