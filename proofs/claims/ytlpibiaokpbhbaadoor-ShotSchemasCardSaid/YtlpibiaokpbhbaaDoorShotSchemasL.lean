/- 'ShotSchemas': the contract of its row: it tells true, and what it was given reads as it did. -/
import Derived.Test.YtlpibiaokpbhbaaDoorTie
import Derived.Test.YtlpibiaokpbhbaaDoorChecked
import Derived.Test.YtlpibiaokpbhbaaDoorShotSchemas
import Derived.ProofKit
import Derived.OpenShut
import Derived.LaidMore
import Derived.Lay
namespace Go.Proofs.YtlpibiaokpbhbaaDoor
set_option linter.unusedVariables false
open Go.ChangeShapes Go.WideShapes Go.ChangeAt Go.RowKit

theorem Tryd.own : ownKnob Tryd.prog.godebug = none := by kernel_rfl
theorem Tryd.laidOut : laidOutB Tryd.prog = true := by kernel_rfl

set_option maxRecDepth 100000 in
theorem shotSchemas_lifted (os : Os) (started : os.Started) (H : Type) (enc : TypeId × Value → H) :
    ReturnsInHanded {} Tryd.checked os 4 .any (fun w args => (Rows.shotSchemasSpec.pre enc Tryd.prog Tryd.f4 Rows.shotSchemasRow.domain false w args ∧ laidMetH Tryd.prog Rows.shotSchemasRow.laid w) ∧ sizedMet enc Tryd.prog Tryd.f4 (OpenSpec.ofChange Rows.shotSchemasSpec) false w args) (Rows.shotSchemasSpec.post enc Tryd.prog Tryd.f4 false true false false) := by
  refine returnsInHanded_of_change_and (C := Tryd.checked) (X := fun w _ => laidMetH Tryd.prog Rows.shotSchemasRow.laid w) (fun _ _ _ hh h => h.of_heap hh) Tryd.own started (by kernel_rfl) Tryd.func4
    (ChangeSpec.witness_shaped (enc := enc) (C := Tryd.checked) (os := os) (X := fun w _ => laidMetH Tryd.prog Rows.shotSchemasRow.laid w) false (World.laidAll Tryd.prog os Rows.shotSchemasRow.laid) #[.slice none 0 0] 8 (World.laidAll_os _ _ _)
      (World.shaped_of_ZipB (by kernel_rfl) (by kernel_rfl)) (by kernel_rfl) (by kernel_rfl) (by kernel_rfl)
      (by rw [MakeChecks.laidMetH_plain _ _ _ (by kernel_rfl)]; exact laidMet_laidAll _ (by kernel_rfl) (by kernel_rfl))) ?_
  intro W base args ds gs before hval hW _ _ _ _
  refine A.law_calls (P := Tryd.prog) (by kernel_rfl) Tryd.laidOut (prim := A.np) (lvs := A.lvs) (tys := [.slc (.int .u8)]) A.np_sound (fn := Tryd.f4) (s := Rows.shotSchemasSpec) A.law_ShotSchemas Tryd.func4 (by kernel_rfl) (by decide) (by kernel_rfl) (by kernel_rfl) (tb := 4) (by kernel_rfl) rfl (fun ds h => ?_) hval hW
  match ds, h with
  | [x0], _ => rfl

end Go.Proofs.YtlpibiaokpbhbaaDoor
