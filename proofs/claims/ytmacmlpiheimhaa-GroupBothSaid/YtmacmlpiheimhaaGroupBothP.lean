/- 'GroupBoth' tells true, for every input; what it was given reads as it did. -/
import Derived.Test.YtmacmlpiheimhaaGroupBothL
namespace Go.Proofs.Ytmacmlpiheimhaa
open Go.ChangeShapes Go.WideShapes Go.ChangeAt Go.RowKit

theorem groupBoth_holds : Rows.GroupBothSaid :=
  OpenClaim.holds_of_wide 8 Try.f8 rfl rfl rfl rfl rfl rfl rfl ⟨rfl, rfl, rfl, rfl, rfl⟩ rfl rfl rfl rfl rfl (by kernel_rfl) Try.func8 (by kernel_rfl)
    (of_decide_eq_true (by kernel_rfl)) (by unfold Func.isWrapper; first | (rw [if_pos (by decide +kernel)]; kernel_rfl) | (rw [if_neg (by decide +kernel)]; exact ⟨rfl, rfl⟩))
    (fun os started H enc _ => groupBoth_lifted os started H enc)

end Go.Proofs.Ytmacmlpiheimhaa
