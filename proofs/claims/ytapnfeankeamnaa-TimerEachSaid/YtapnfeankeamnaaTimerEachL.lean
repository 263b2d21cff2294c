/- 'interrexlaw28.TimerEach' tells true, for every limit and every number of ticks; what it was given reads as it did. -/
import Derived.Test.YtapnfeankeamnaaRows
import Derived.Test.YtapnfeankeamnaaChecked
import Derived.Test.YtapnfeankeamnaaT6
import Derived.ProofKit
namespace Go.Proofs.Ytapnfeankeamnaa
set_option linter.unusedVariables false
set_option linter.unusedSimpArgs false
open Go.ChangeShapes Go.WideShapes Go.ChangeAt Go.RowKit

theorem Try.own : ownKnob Try.prog.godebug = none := by kernel_rfl
theorem Try.laidOut : laidOutB Try.prog = true := by kernel_rfl

set_option maxRecDepth 100000 in
theorem timerEach_lifted (os : Os) (started : os.Started) (H : Type) (enc : TypeId × Value → H) :
    ReturnsInHanded {} Try.checked os 3 .any (Rows.timerEachSpec.pre6 enc Try.prog Try.f3 Rows.timerEachRow.domain false) (Rows.timerEachSpec.post enc Try.prog Try.f3 false true false false) := by
  refine returnsInHanded_of_change (C := Try.checked) Try.own started (by kernel_rfl) Try.func3
    (ChangeSpec.witness6 (enc := enc) (C := Try.checked) false ⟨#[], #[.int .u8 0, .int .u8 0], []⟩ 8 (by kernel_rfl) (by kernel_rfl) (by kernel_rfl) (by kernel_rfl)) ?_
  intro W base args ds gs before hval hW _ _
  refine A.law_calls (P := Try.prog) (by kernel_rfl) Try.laidOut (prim := A.np) (tys := [.int .u8, .int .u8]) (fun g m h => by cases h) (fn := Try.f3) (s := Rows.timerEachSpec) ?_ (by kernel_rfl) (by kernel_rfl) (tb := 4) (by kernel_rfl) rfl (fun ds h => ?_) hval hW
  · intro xs H vs hwf hrd
    obtain ⟨a, b, _⟩ := xs
    obtain ⟨ha, hb, _⟩ := hwf
    obtain ⟨_, _, rfl, _, rfl, _, _, rfl, _, rfl, rfl⟩ := hrd
    obtain ⟨H', h⟩ := A.each_true (A.wf_u8 ha) (A.wf_u8 hb) H
    exact ⟨4, H', h⟩
  · match ds, h with
    | [a, b], _ => rfl

end Go.Proofs.Ytapnfeankeamnaa
