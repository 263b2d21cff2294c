/- 'GroupBoth': the contract of its row: it tells true, and what it was given reads as it did. -/
import Derived.Test.YtmacmlpiheimhaaRows
import Derived.Test.YtmacmlpiheimhaaChecked
import Derived.Test.YtmacmlpiheimhaaGroupBoth
import Derived.ProofKit
namespace Go.Proofs.Ytmacmlpiheimhaa
set_option linter.unusedVariables false
open Go.ChangeShapes Go.WideShapes Go.ChangeAt Go.RowKit

theorem Try.own : ownKnob Try.prog.godebug = none := by kernel_rfl
theorem Try.laidOut : laidOutB Try.prog = true := by kernel_rfl

set_option maxRecDepth 100000 in
theorem groupBoth_lifted (os : Os) (started : os.Started) (H : Type) (enc : TypeId × Value → H) :
    ReturnsInHanded {} Try.checked os 8 .any (Rows.groupBothSpec.pre6 enc Try.prog Try.f8 Rows.groupBothRow.domain false) (Rows.groupBothSpec.post enc Try.prog Try.f8 false true false false) := by
  refine returnsInHanded_of_change (C := Try.checked) Try.own started (by kernel_rfl) Try.func8
    (ChangeSpec.witness6 (enc := enc) (C := Try.checked) false ⟨#[], #[.slice none 0 0], []⟩ 8 (by kernel_rfl) (by kernel_rfl) (by kernel_rfl) (by kernel_rfl)) ?_
  intro W base args ds gs before hval hW _ _
  refine A.law_calls (P := Try.prog) (by kernel_rfl) Try.laidOut (prim := A.np) (lvs := A.lvs) (tys := [.slc A.eldActT]) A.np_sound (fn := Try.f8) (s := Rows.groupBothSpec) A.law_GroupBoth Try.func8 (by kernel_rfl) (by decide) (by kernel_rfl) (by kernel_rfl) (tb := 4) (by kernel_rfl) rfl (fun ds h => ?_) hval hW
  match ds, h with
  | [x0], _ => rfl

end Go.Proofs.Ytmacmlpiheimhaa
