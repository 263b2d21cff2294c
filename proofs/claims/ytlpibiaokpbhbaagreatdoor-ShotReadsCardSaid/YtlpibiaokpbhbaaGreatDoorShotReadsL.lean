/- 'ShotReads': the contract of its row: it tells true, and what it was given reads as it did. -/
import Derived.Test.YtlpibiaokpbhbaaGreatDoorTie
import Derived.Test.YtlpibiaokpbhbaaGreatDoorChecked
import Derived.Test.YtlpibiaokpbhbaaGreatDoorShotReads
import Derived.ProofKit
import Derived.OpenShut
import Derived.LaidMore
import Derived.Lay
namespace Go.Proofs.YtlpibiaokpbhbaaGreatDoor
set_option linter.unusedVariables false
open Go.ChangeShapes Go.WideShapes Go.ChangeAt Go.RowKit

theorem Tryz.own : ownKnob Tryz.prog.godebug = none := by kernel_rfl
theorem Tryz.laidOut : laidOutB Tryz.prog = true := by kernel_rfl

set_option maxRecDepth 100000 in
theorem shotReads_lifted (os : Os) (started : os.Started) (H : Type) (enc : TypeId × Value → H) :
    ReturnsInHanded {} Tryz.checked os 3 .any (fun w args => (Rows.shotReadsSpec.pre enc Tryz.prog Tryz.f3 Rows.shotReadsRow.domain false w args ∧ laidMetH Tryz.prog Rows.shotReadsRow.laid w) ∧ sizedMet enc Tryz.prog Tryz.f3 (OpenSpec.ofChange Rows.shotReadsSpec) false w args) (Rows.shotReadsSpec.post enc Tryz.prog Tryz.f3 false true false false) := by
  refine returnsInHanded_of_change_and (C := Tryz.checked) (X := fun w _ => laidMetH Tryz.prog Rows.shotReadsRow.laid w) (fun _ _ _ hh h => h.of_heap hh) Tryz.own started (by kernel_rfl) Tryz.func3
    (ChangeSpec.witness_shaped (enc := enc) (C := Tryz.checked) (os := os) (X := fun w _ => laidMetH Tryz.prog Rows.shotReadsRow.laid w) false (World.laidAll Tryz.prog os Rows.shotReadsRow.laid) #[.slice none 0 0] 8 (World.laidAll_os _ _ _)
      (World.shaped_of_ZipB (by kernel_rfl) (by kernel_rfl)) (by kernel_rfl) (by kernel_rfl) (by kernel_rfl)
      (by rw [MakeChecks.laidMetH_plain _ _ _ (by kernel_rfl)]; exact laidMet_laidAll _ (by kernel_rfl) (by kernel_rfl))) ?_
  intro W base args ds gs before hval hW _ _ _ _
  refine A.law_calls (P := Tryz.prog) (by kernel_rfl) Tryz.laidOut (prim := A.np) (lvs := A.lvs) (tys := [.slc (.int .u8)]) A.np_sound (fn := Tryz.f3) (s := Rows.shotReadsSpec) A.law_ShotReads Tryz.func3 (by kernel_rfl) (by decide) (by kernel_rfl) (by kernel_rfl) (tb := 4) (by kernel_rfl) rfl (fun ds h => ?_) hval hW
  match ds, h with
  | [x0], _ => rfl

end Go.Proofs.YtlpibiaokpbhbaaGreatDoor
