/- 'ShotSchemas' tells true, for every input; what it was given reads as it did: the tied card. -/
import Derived.Test.YtlpibiaokpbhbaaDoorCards
import Derived.Test.YtlpibiaokpbhbaaDoorShotSchemasL
import Derived.SevenTiedAt
import Derived.Stop.Joined
namespace Go.Proofs.YtlpibiaokpbhbaaDoor
open Go Go.ChangeShapes Go.WideShapes Go.ChangeAt Go.RowKit

theorem shotSchemas_row : Rows.ShotSchemasSaid :=
  OpenClaim.holds_of_wide 4 Tryd.f4 rfl rfl rfl rfl rfl rfl rfl ⟨rfl, rfl, rfl, rfl, rfl⟩ rfl rfl rfl rfl rfl (by kernel_rfl) Tryd.func4 (by kernel_rfl)
    (of_decide_eq_true (by kernel_rfl)) (by unfold Func.isWrapper; first | (rw [if_pos (by decide +kernel)]; kernel_rfl) | (rw [if_neg (by decide +kernel)]; exact ⟨rfl, rfl⟩))
    (fun os started H enc _ => shotSchemas_lifted os started H enc)

theorem shotSchemas_holds : Rows.ShotSchemasCardSaid :=
  Claim7.holds_tied_plain_at .later [] [.data, .pinned] true (true, "6fe54da6980a05bc34d5963c2694c7708c0dcba57ed2f883664009ff150fca2b") false shotSchemas_row (fun _ h => by cases h) (by kernel_rfl) (fun _ h => by cases h) shotSchemas_row_tie rfl ⟨rfl, rfl⟩ (by kernel_rfl) rfl
    (fun f fn hf hfn => by
      obtain rfl : f = 4 := Option.some.inj ((show Tryd.prog.funcNamed "interrex/interrexlaw08.ShotSchemas" = some 4 by kernel_rfl).symm.trans hf) |>.symm
      obtain rfl : fn = Tryd.f4 := (Option.some.inj (Tryd.func4.symm.trans hfn)).symm
      exact ⟨by kernel_rfl, fun j t ht => by
        rw [Tryd.params4] at ht
        have hm : t ∈ [27] := by simpa using Array.mem_of_getElem? ht
        have hall : ([27].all fun u => !Tryd.prog.wantsStandIn u) = true := by kernel_rfl
        exact (show Tryd.prog.wantsStandIn t = false by simpa using List.all_eq_true.1 hall t hm)⟩)
    (by kernel_rfl)

end Go.Proofs.YtlpibiaokpbhbaaDoor
