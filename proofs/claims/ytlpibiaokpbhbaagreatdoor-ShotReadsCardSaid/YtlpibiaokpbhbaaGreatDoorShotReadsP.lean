/- 'ShotReads' tells true, for every input; what it was given reads as it did: the tied card. -/
import Derived.Test.YtlpibiaokpbhbaaGreatDoorCards
import Derived.Test.YtlpibiaokpbhbaaGreatDoorShotReadsL
import Derived.SevenTiedAt
import Derived.Stop.Joined
namespace Go.Proofs.YtlpibiaokpbhbaaGreatDoor
open Go Go.ChangeShapes Go.WideShapes Go.ChangeAt Go.RowKit

theorem shotReads_row : Rows.ShotReadsSaid :=
  OpenClaim.holds_of_wide 3 Tryz.f3 rfl rfl rfl rfl rfl rfl rfl ⟨rfl, rfl, rfl, rfl, rfl⟩ rfl rfl rfl rfl rfl (by kernel_rfl) Tryz.func3 (by kernel_rfl)
    (of_decide_eq_true (by kernel_rfl)) (by unfold Func.isWrapper; first | (rw [if_pos (by decide +kernel)]; kernel_rfl) | (rw [if_neg (by decide +kernel)]; exact ⟨rfl, rfl⟩))
    (fun os started H enc _ => shotReads_lifted os started H enc)

theorem shotReads_holds : Rows.ShotReadsCardSaid :=
  Claim7.holds_tied_plain_at .later [] [.data, .pinned] true (true, "aba626f75e24b21f3a8b2ce2b444704f11c23cc5f5a057208c941893d3f30729") false shotReads_row (fun _ h => by cases h) (by kernel_rfl) (fun _ h => by cases h) shotReads_row_tie rfl ⟨rfl, rfl⟩ (by kernel_rfl) rfl
    (fun f fn hf hfn => by
      obtain rfl : f = 3 := Option.some.inj ((show Tryz.prog.funcNamed "interrex/interrexlaw08.ShotReads" = some 3 by kernel_rfl).symm.trans hf) |>.symm
      obtain rfl : fn = Tryz.f3 := (Option.some.inj (Tryz.func3.symm.trans hfn)).symm
      exact ⟨by kernel_rfl, fun j t ht => by
        rw [Tryz.params3] at ht
        have hm : t ∈ [22] := by simpa using Array.mem_of_getElem? ht
        have hall : ([22].all fun u => !Tryz.prog.wantsStandIn u) = true := by kernel_rfl
        exact (show Tryz.prog.wantsStandIn t = false by simpa using List.all_eq_true.1 hall t hm)⟩)
    (by kernel_rfl)

end Go.Proofs.YtlpibiaokpbhbaaGreatDoor
