/- 'TallyPlays' tells true, for every input; what it was given reads as it did. -/
import Derived.Test.YtfefblgkfdaekaaZTallyPlays3
import Derived.Test.YtfefblgkfdaekaaRows
import Derived.Test.YtfefblgkfdaekaaChecked
import Derived.ProofKit
/- 'TallyPlays': the contract of its row: it tells true, and what it was given reads as it did. -/
namespace Go.Proofs.Ytfefblgkfdaekaa
set_option linter.unusedVariables false
open Go.ChangeShapes Go.WideShapes Go.ChangeAt Go.RowKit
theorem Try.own : ownKnob Try.prog.godebug = none := by kernel_rfl
theorem Try.laidOut : laidOutB Try.prog = true := by kernel_rfl
set_option maxRecDepth 100000 in
theorem tallyPlays_lifted (os : Os) (started : os.Started) (H : Type) (enc : TypeId × Value → H) :
    ReturnsInHanded {} Try.checked os 3 .any (Rows.tallyPlaysSpec.pre6 enc Try.prog Try.f3 Rows.tallyPlaysRow.domain false) (Rows.tallyPlaysSpec.post enc Try.prog Try.f3 false true false false) := by
  refine returnsInHanded_of_change (C := Try.checked) Try.own started (by kernel_rfl) Try.func3
    (ChangeSpec.witness6 (enc := enc) (C := Try.checked) false ⟨#[], #[.slice none 0 0, .int .i64 0], []⟩ 8 (by kernel_rfl) (by kernel_rfl) (by kernel_rfl) (by kernel_rfl)) ?_
  intro W base args ds gs before hval hW _ _
  refine A.law_calls (P := Try.prog) (by kernel_rfl) Try.laidOut (prim := A.np) (lvs := A.lvs) (tys := [.slc A.tActT, .int .i64]) A.np_sound (fn := Try.f3) (s := Rows.tallyPlaysSpec) A.law_TallyPlays Try.func3 (by kernel_rfl) (by decide) (by kernel_rfl) (by kernel_rfl) (tb := 4) (by kernel_rfl) rfl (fun ds h => ?_) hval hW
  match ds, h with
  | [x0, x1], _ => rfl
end Go.Proofs.Ytfefblgkfdaekaa

namespace Go.Proofs.Ytfefblgkfdaekaa
open Go.ChangeShapes Go.WideShapes Go.ChangeAt Go.RowKit
theorem tallyPlays_holds : Rows.TallyPlaysSaid :=
  OpenClaim.holds_of_wide 3 Try.f3 rfl rfl rfl rfl rfl rfl rfl ⟨rfl, rfl, rfl, rfl, rfl⟩ rfl rfl rfl rfl rfl (by kernel_rfl) Try.func3 (by kernel_rfl)
    (of_decide_eq_true (by kernel_rfl)) (by unfold Func.isWrapper; first | (rw [if_pos (by decide +kernel)]; kernel_rfl) | (rw [if_neg (by decide +kernel)]; exact ⟨rfl, rfl⟩))
    (fun os started H enc _ => tallyPlays_lifted os started H enc)
end Go.Proofs.Ytfefblgkfdaekaa

