/- 'HostUpgrades' tells true, for every input; what it was given reads as it did: the tied card. -/
import Derived.Test.YtgfbgfafajiehaaGreatDoorZHostUpgrades6
import Derived.Test.YtgfbgfafajiehaaGreatDoorTie
import Derived.Test.YtgfbgfafajiehaaGreatDoorChecked
import Derived.ProofKit
import Derived.OpenShut
import Derived.LaidMore
import Derived.Lay
import Derived.Test.YtgfbgfafajiehaaGreatDoorCards
import Derived.SevenTiedAt
import Derived.Stop.Joined
/- 'HostUpgrades': the contract of its row: it tells true, and what it was given reads as it did. -/
namespace Go.Proofs.YtgfbgfafajiehaaGreatDoor
set_option linter.unusedVariables false
open Go.ChangeShapes Go.WideShapes Go.ChangeAt Go.RowKit
theorem Tryz.own : ownKnob Tryz.prog.godebug = none := by kernel_rfl
theorem Tryz.laidOut : laidOutB Tryz.prog = true := by kernel_rfl
set_option maxRecDepth 100000 in
theorem hostUpgrades_lifted (os : Os) (started : os.Started) (H : Type) (enc : TypeId × Value → H) :
    ReturnsInHanded {} Tryz.checked os 7 .any (fun w args => (Rows.hostUpgradesSpec.pre enc Tryz.prog Tryz.f7 Rows.hostUpgradesRow.domain false w args ∧ laidMetH Tryz.prog Rows.hostUpgradesRow.laid w) ∧ sizedMet enc Tryz.prog Tryz.f7 (OpenSpec.ofChange Rows.hostUpgradesSpec) false w args) (Rows.hostUpgradesSpec.post enc Tryz.prog Tryz.f7 false true false false) := by
  refine returnsInHanded_of_change_and (C := Tryz.checked) (X := fun w _ => laidMetH Tryz.prog Rows.hostUpgradesRow.laid w) (fun _ _ _ hh h => h.of_heap hh) Tryz.own started (by kernel_rfl) Tryz.func7
    (ChangeSpec.witness_shaped (enc := enc) (C := Tryz.checked) (os := os) (X := fun w _ => laidMetH Tryz.prog Rows.hostUpgradesRow.laid w) false (World.laidAll Tryz.prog os Rows.hostUpgradesRow.laid) #[.slice none 0 0] 8 (World.laidAll_os _ _ _)
      (World.shaped_of_ZipB (by kernel_rfl) (by kernel_rfl)) (by kernel_rfl) (by kernel_rfl) (by kernel_rfl)
      (by rw [MakeChecks.laidMetH_plain _ _ _ (by kernel_rfl)]; exact laidMet_laidAll _ (by kernel_rfl) (by kernel_rfl))) ?_
  intro W base args ds gs before hval hW k1 k2 k3 k4
  have hlaid : laidMetH Tryz.prog Rows.hostUpgradesRow.laid W := by first | exact k1 | exact k2 | exact k3 | exact k4 | assumption
  rw [MakeChecks.laidMetH_plain _ _ _ (by kernel_rfl)] at hlaid
  have hmet : A.GlMet A.gl W := by
    intro g cs es gr hg
    match g, hg with
    | 0, hg =>
      cases hg
      exact A.strs_laid hlaid (n := "interrex/op.signs") (l := A.gl.signsG) (g := 0) (t := 90) (e := 9) (k := 17) (by simp [Rows.hostUpgradesRow, Rows.laid_interrex_op_signs, A.gl.signsG]) (by kernel_rfl) (by kernel_rfl) (by kernel_rfl) (by kernel_rfl) (by kernel_rfl) (by kernel_rfl)
    | 1, hg => cases hg
    | 2, hg => cases hg
    | 3, hg => cases hg
    | g + 4, hg => simp [A.gl] at hg
  refine A.law_callsG (P := Tryz.prog) (by kernel_rfl) Tryz.laidOut (prim := A.np) (lvs := A.lvs) (tys := [.slc A.reqT]) A.np_sound (gl := A.gl) rfl A.gl_plain hmet (fn := Tryz.f7) (s := Rows.hostUpgradesSpec) A.law_HostUpgrades Tryz.func7 (by kernel_rfl) (by decide) (by kernel_rfl) (by kernel_rfl) (tb := 4) (by kernel_rfl) rfl (fun ds h => ?_) hval hW
  match ds, h with
  | [x0], _ => rfl
end Go.Proofs.YtgfbgfafajiehaaGreatDoor

namespace Go.Proofs.YtgfbgfafajiehaaGreatDoor
open Go Go.ChangeShapes Go.WideShapes Go.ChangeAt Go.RowKit
theorem hostUpgrades_row : Rows.HostUpgradesSaid :=
  OpenClaim.holds_of_wide 7 Tryz.f7 rfl rfl rfl rfl rfl rfl rfl ⟨rfl, rfl, rfl, rfl, rfl⟩ rfl rfl rfl rfl rfl (by kernel_rfl) Tryz.func7 (by kernel_rfl)
    (of_decide_eq_true (by kernel_rfl)) (by unfold Func.isWrapper; first | (rw [if_pos (by decide +kernel)]; kernel_rfl) | (rw [if_neg (by decide +kernel)]; exact ⟨rfl, rfl⟩))
    (fun os started H enc _ => hostUpgrades_lifted os started H enc)
theorem hostUpgrades_holds : Rows.HostUpgradesCardSaid :=
  Claim7.holds_tied_plain_at .later [] [.data, .data, .pinned] true (true, "6ec73892d6fd08699fe6b64cfe211b28d5c5ec8f457419d981b4838674883c30") true hostUpgrades_row (fun _ h => by cases h) (by kernel_rfl) (fun _ h => by cases h) hostUpgrades_row_tie rfl ⟨rfl, rfl⟩ (by kernel_rfl) rfl
    (fun f fn hf hfn => by
      obtain rfl : f = 7 := Option.some.inj ((show Tryz.prog.funcNamed "interrex/interrexlaw17.HostUpgrades" = some 7 by kernel_rfl).symm.trans hf) |>.symm
      obtain rfl : fn = Tryz.f7 := (Option.some.inj (Tryz.func7.symm.trans hfn)).symm
      exact ⟨by kernel_rfl, fun j t ht => by
        rw [Tryz.params7] at ht
        have hm : t ∈ [22] := by simpa using Array.mem_of_getElem? ht
        have hall : ([22].all fun u => !Tryz.prog.wantsStandIn u) = true := by kernel_rfl
        exact (show Tryz.prog.wantsStandIn t = false by simpa using List.all_eq_true.1 hall t hm)⟩)
    (by kernel_rfl)
end Go.Proofs.YtgfbgfafajiehaaGreatDoor

