/- 'MigrateGoes' tells true, for every input; what it was given reads as it did: the tied card. -/
import Derived.Test.YtedkoimihknggaaGreatDoorZMigrateGoes5
import Derived.Test.YtedkoimihknggaaGreatDoorTie
import Derived.Test.YtedkoimihknggaaGreatDoorChecked
import Derived.ProofKit
import Derived.OpenShut
import Derived.LaidMore
import Derived.Lay
import Derived.Test.YtedkoimihknggaaGreatDoorCards
import Derived.SevenTiedAt
import Derived.Stop.Joined
/- 'MigrateGoes': the contract of its row: it tells true, and what it was given reads as it did. -/
namespace Go.Proofs.YtedkoimihknggaaGreatDoor
set_option linter.unusedVariables false
open Go.ChangeShapes Go.WideShapes Go.ChangeAt Go.RowKit
theorem Tryz.own : ownKnob Tryz.prog.godebug = none := by kernel_rfl
theorem Tryz.laidOut : laidOutB Tryz.prog = true := by kernel_rfl
set_option maxRecDepth 100000 in
theorem migrateGoes_lifted (os : Os) (started : os.Started) (H : Type) (enc : TypeId × Value → H) :
    ReturnsInHanded {} Tryz.checked os 8 .any (fun w args => (Rows.migrateGoesSpec.pre enc Tryz.prog Tryz.f8 Rows.migrateGoesRow.domain false w args ∧ laidMetH Tryz.prog Rows.migrateGoesRow.laid w) ∧ sizedMet enc Tryz.prog Tryz.f8 (OpenSpec.ofChange Rows.migrateGoesSpec) false w args) (Rows.migrateGoesSpec.post enc Tryz.prog Tryz.f8 false true false false) := by
  refine returnsInHanded_of_change_and (C := Tryz.checked) (X := fun w _ => laidMetH Tryz.prog Rows.migrateGoesRow.laid w) (fun _ _ _ hh h => h.of_heap hh) Tryz.own started (by kernel_rfl) Tryz.func8
    (ChangeSpec.witness_shaped (enc := enc) (C := Tryz.checked) (os := os) (X := fun w _ => laidMetH Tryz.prog Rows.migrateGoesRow.laid w) false (World.laidAll Tryz.prog os Rows.migrateGoesRow.laid) #[.slice none 0 0, .slice none 0 0, .string ⟨#[]⟩, .string ⟨#[]⟩] 8 (World.laidAll_os _ _ _)
      (World.shaped_of_ZipB (by kernel_rfl) (by kernel_rfl)) (by kernel_rfl) (by kernel_rfl) (by kernel_rfl)
      (by rw [MakeChecks.laidMetH_plain _ _ _ (by kernel_rfl)]; exact laidMet_laidAll _ (by kernel_rfl) (by kernel_rfl))) ?_
  intro W base args ds gs before hval hW _ _ _ _
  refine A.law_calls (P := Tryz.prog) (by kernel_rfl) Tryz.laidOut (prim := A.np) (lvs := A.lvs) (tys := [.slc A.eldActT, .slc A.eldActT, .str, .str]) A.np_sound (fn := Tryz.f8) (s := Rows.migrateGoesSpec) A.law_MigrateGoes Tryz.func8 (by kernel_rfl) (by decide) (by kernel_rfl) (by kernel_rfl) (tb := 4) (by kernel_rfl) rfl (fun ds h => ?_) hval hW
  match ds, h with
  | [x0, x1, x2, x3], _ => rfl
end Go.Proofs.YtedkoimihknggaaGreatDoor

namespace Go.Proofs.YtedkoimihknggaaGreatDoor
open Go Go.ChangeShapes Go.WideShapes Go.ChangeAt Go.RowKit
theorem migrateGoes_row : Rows.MigrateGoesSaid :=
  OpenClaim.holds_of_wide 8 Tryz.f8 rfl rfl rfl rfl rfl rfl rfl ⟨rfl, rfl, rfl, rfl, rfl⟩ rfl rfl rfl rfl rfl (by kernel_rfl) Tryz.func8 (by kernel_rfl)
    (of_decide_eq_true (by kernel_rfl)) (by unfold Func.isWrapper; first | (rw [if_pos (by decide +kernel)]; kernel_rfl) | (rw [if_neg (by decide +kernel)]; exact ⟨rfl, rfl⟩))
    (fun os started H enc _ => migrateGoes_lifted os started H enc)
theorem migrateGoes_holds : Rows.MigrateGoesCardSaid :=
  Claim7.holds_tied_plain_at .later [] [.data, .pinned] true (true, "d6d9c60763bf8bc0123e028da6cb2a07e463b74728570edff625c18f6e259766") true migrateGoes_row (fun _ h => by cases h) (by kernel_rfl) (fun _ h => by cases h) migrateGoes_row_tie rfl ⟨rfl, rfl⟩ (by kernel_rfl) rfl
    (fun f fn hf hfn => by
      obtain rfl : f = 8 := Option.some.inj ((show Tryz.prog.funcNamed "interrex/interrexlaw13.MigrateGoes" = some 8 by kernel_rfl).symm.trans hf) |>.symm
      obtain rfl : fn = Tryz.f8 := (Option.some.inj (Tryz.func8.symm.trans hfn)).symm
      exact ⟨by kernel_rfl, fun j t ht => by
        rw [Tryz.params8] at ht
        have hm : t ∈ [58,58,9,9] := by simpa using Array.mem_of_getElem? ht
        have hall : ([58,58,9,9].all fun u => !Tryz.prog.wantsStandIn u) = true := by kernel_rfl
        exact (show Tryz.prog.wantsStandIn t = false by simpa using List.all_eq_true.1 hall t hm)⟩)
    (by kernel_rfl)
end Go.Proofs.YtedkoimihknggaaGreatDoor

