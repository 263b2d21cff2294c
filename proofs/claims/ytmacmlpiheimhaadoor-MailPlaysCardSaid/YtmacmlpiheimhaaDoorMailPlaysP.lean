/- 'MailPlays' tells true, for every input; what it was given reads as it did: the tied card. -/
import Derived.Test.YtmacmlpiheimhaaDoorCards
import Derived.Test.YtmacmlpiheimhaaDoorMailPlaysL
import Derived.SevenTiedAt
import Derived.Stop.Joined
namespace Go.Proofs.YtmacmlpiheimhaaDoor
open Go Go.ChangeShapes Go.WideShapes Go.ChangeAt Go.RowKit

theorem mailPlays_row : Rows.MailPlaysSaid :=
  OpenClaim.holds_of_wide 5 Tryd.f5 rfl rfl rfl rfl rfl rfl rfl ⟨rfl, rfl, rfl, rfl, rfl⟩ rfl rfl rfl rfl rfl (by kernel_rfl) Tryd.func5 (by kernel_rfl)
    (of_decide_eq_true (by kernel_rfl)) (by unfold Func.isWrapper; first | (rw [if_pos (by decide +kernel)]; kernel_rfl) | (rw [if_neg (by decide +kernel)]; exact ⟨rfl, rfl⟩))
    (fun os started H enc _ => mailPlays_lifted os started H enc)

theorem mailPlays_holds : Rows.MailPlaysCardSaid :=
  Claim7.holds_tied_plain_at .later [] [.data, .pinned] true (true, "bbd4899ebf93e542dc7665ce818432bfad828c141f24d519f2c856501b3fe73d") true mailPlays_row (fun _ h => by cases h) (by kernel_rfl) (fun _ h => by cases h) mailPlays_row_tie rfl ⟨rfl, rfl⟩ (by kernel_rfl) rfl
    (fun f fn hf hfn => by
      obtain rfl : f = 5 := Option.some.inj ((show Tryd.prog.funcNamed "interrex/interrexlaw09.MailPlays" = some 5 by kernel_rfl).symm.trans hf) |>.symm
      obtain rfl : fn = Tryd.f5 := (Option.some.inj (Tryd.func5.symm.trans hfn)).symm
      exact ⟨by kernel_rfl, fun j t ht => by
        rw [Tryd.params5] at ht
        have hm : t ∈ [22,9,9,3] := by simpa using Array.mem_of_getElem? ht
        have hall : ([22,9,9,3].all fun u => !Tryd.prog.wantsStandIn u) = true := by kernel_rfl
        exact (show Tryd.prog.wantsStandIn t = false by simpa using List.all_eq_true.1 hall t hm)⟩)
    (by kernel_rfl)

end Go.Proofs.YtmacmlpiheimhaaDoor
