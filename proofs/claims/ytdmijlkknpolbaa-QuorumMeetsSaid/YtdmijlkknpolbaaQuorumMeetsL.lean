/- 'QuorumMeets': the contract of its row: it tells true, and what it was given reads as it did. -/
import Derived.Test.YtdmijlkknpolbaaRows
import Derived.Test.YtdmijlkknpolbaaChecked
import Derived.Test.YtdmijlkknpolbaaQuorumMeets
import Derived.ProofKit
namespace Go.Proofs.Ytdmijlkknpolbaa
set_option linter.unusedVariables false
open Go.ChangeShapes Go.WideShapes Go.ChangeAt Go.RowKit

theorem Try.own : ownKnob Try.prog.godebug = none := by kernel_rfl
theorem Try.laidOut : laidOutB Try.prog = true := by kernel_rfl

set_option maxRecDepth 100000 in
theorem quorumMeets_lifted (os : Os) (started : os.Started) (H : Type) (enc : TypeId × Value → H) :
    ReturnsInHanded {} Try.checked os 6 .any (Rows.quorumMeetsSpec.pre6 enc Try.prog Try.f6 Rows.quorumMeetsRow.domain false) (Rows.quorumMeetsSpec.post enc Try.prog Try.f6 false true false false) := by
  refine returnsInHanded_of_change (C := Try.checked) Try.own started (by kernel_rfl) Try.func6
    (ChangeSpec.witness6 (enc := enc) (C := Try.checked) false ⟨#[], #[.int .u8 0, .slice none 0 0, .slice none 0 0, .slice none 0 0], []⟩ 8 (by kernel_rfl) (by kernel_rfl) (by kernel_rfl) (by kernel_rfl)) ?_
  intro W base args ds gs before hval hW _ _
  refine A.law_calls (P := Try.prog) (by kernel_rfl) Try.laidOut (prim := A.np) (lvs := A.lvs) (tys := [.int .u8, .slc (.int .u8), .slc (.int .u8), .slc A.quoActT]) A.np_sound (fn := Try.f6) (s := Rows.quorumMeetsSpec) A.law_QuorumMeets Try.func6 (by kernel_rfl) (by decide) (by kernel_rfl) (by kernel_rfl) (tb := 4) (by kernel_rfl) rfl (fun ds h => ?_) hval hW
  match ds, h with
  | [x0, x1, x2, x3], _ => rfl

end Go.Proofs.Ytdmijlkknpolbaa
