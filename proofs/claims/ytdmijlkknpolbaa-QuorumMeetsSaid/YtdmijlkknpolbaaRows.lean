/-
  No cell of these rows narrows 'for every input' (looked for: loops, veiled, ifaces, maps, wideKeys, modest, calm, conditions, laid).
  DERIVED. THE GIVEN ROWS OF THIS SEAT. 4 by the template 'for every input the law returns true; each argument reads behind the call as it read before'; 0 by the template 'total and deterministic' (their statements: YtdmijlkknpolbaaTotals.lean).
  GIVEN WITH THE SEED: the statements are not yours to turn. If you find one false, say at which input.
  Laid BY PROGRAM, IN A SANDBOX (cutbox-rows.mjs): the forced cells as the released guide's own fill.sh prints them over the translation 534c7e3cefbd55fd… (all of the seat's roots in one cut). By AI agents, Wed Nov 11 2026. No macro, syntax, notation, axiom, sorry.
-/
import Derived.Test.YtdmijlkknpolbaaChecked
import GoSem.Claim
import GoSem.ClaimJoined
import GoSem.ClaimMapViews
import Derived.JoinedTies
import Derived.KernelRfl
namespace Go.Proofs.Ytdmijlkknpolbaa
/- THE CELL 'sum', in the pinned program and in every row, IS THE sha256 OF THE DUMP (.gsa) THAT YtdmijlkknpolbaaProg.lean LOADS. Nothing in Lean hashes anything: it is a label: what it is worth is what the hold of that sum in a sandbox is worth. -/
noncomputable def Try.pinned : Pinned := { name := "ytdmijlkknpolbaa", sum := "534c7e3cefbd55fdfb002aa0e60878fab0c2583c6a9b44d67d031af0dbe9b083", checked := Try.checked }
namespace Rows
def none {H : Type} : Left H := { results := [], args := [] }

/-- 'interrexlaw27.QuorumTurns': WHATEVER THE INPUT: true; the input reads as it did. -/
def quorumTurnsSpec : ChangeSpec := { name := "quorumTurns", fn := fun _ => fun
  | [d1, d2] => { results := [.lit (.bool true)], args := [d1, d2] }
  | _ => none }
def quorumTurnsRow : OpenClaim := { program := "ytdmijlkknpolbaa", sum := "534c7e3cefbd55fdfb002aa0e60878fab0c2583c6a9b44d67d031af0dbe9b083", func := "interrex/interrexlaw27.QuorumTurns", spec := "quorumTurns", unfollowed := true, recurses := true, apart := false }
def QuorumTurnsSaid : Prop := quorumTurnsRow.holds Try.pinned (OpenSpec.ofChange quorumTurnsSpec)

/-- ITS FALSE NEIGHBOUR: 'it returns false'. Refute it at one input. -/
def quorumTurnsWrong : ChangeSpec := { name := "quorumTurns", fn := fun _ => fun
  | [d1, d2] => { results := [.lit (.bool false)], args := [d1, d2] }
  | _ => none }
def QuorumTurnsWrongFalsely : Prop := quorumTurnsRow.holds Try.pinned (OpenSpec.ofChange quorumTurnsWrong)

/-- 'interrexlaw27.QuorumMarks': WHATEVER THE INPUT: true; the input reads as it did. -/
def quorumMarksSpec : ChangeSpec := { name := "quorumMarks", fn := fun _ => fun
  | [d1, d2] => { results := [.lit (.bool true)], args := [d1, d2] }
  | _ => none }
def quorumMarksRow : OpenClaim := { program := "ytdmijlkknpolbaa", sum := "534c7e3cefbd55fdfb002aa0e60878fab0c2583c6a9b44d67d031af0dbe9b083", func := "interrex/interrexlaw27.QuorumMarks", spec := "quorumMarks", unfollowed := true, recurses := true, apart := false }
def QuorumMarksSaid : Prop := quorumMarksRow.holds Try.pinned (OpenSpec.ofChange quorumMarksSpec)

/-- ITS FALSE NEIGHBOUR: 'it returns false'. Refute it at one input. -/
def quorumMarksWrong : ChangeSpec := { name := "quorumMarks", fn := fun _ => fun
  | [d1, d2] => { results := [.lit (.bool false)], args := [d1, d2] }
  | _ => none }
def QuorumMarksWrongFalsely : Prop := quorumMarksRow.holds Try.pinned (OpenSpec.ofChange quorumMarksWrong)

/-- 'interrexlaw27.QuorumSets': WHATEVER THE INPUT: true; the input reads as it did. -/
def quorumSetsSpec : ChangeSpec := { name := "quorumSets", fn := fun _ => fun
  | [d1, d2] => { results := [.lit (.bool true)], args := [d1, d2] }
  | _ => none }
def quorumSetsRow : OpenClaim := { program := "ytdmijlkknpolbaa", sum := "534c7e3cefbd55fdfb002aa0e60878fab0c2583c6a9b44d67d031af0dbe9b083", func := "interrex/interrexlaw27.QuorumSets", spec := "quorumSets", unfollowed := true, recurses := true, apart := false }
def QuorumSetsSaid : Prop := quorumSetsRow.holds Try.pinned (OpenSpec.ofChange quorumSetsSpec)

/-- ITS FALSE NEIGHBOUR: 'it returns false'. Refute it at one input. -/
def quorumSetsWrong : ChangeSpec := { name := "quorumSets", fn := fun _ => fun
  | [d1, d2] => { results := [.lit (.bool false)], args := [d1, d2] }
  | _ => none }
def QuorumSetsWrongFalsely : Prop := quorumSetsRow.holds Try.pinned (OpenSpec.ofChange quorumSetsWrong)

/-- 'interrexlaw27.QuorumMeets': WHATEVER THE INPUT: true; the input reads as it did. -/
def quorumMeetsSpec : ChangeSpec := { name := "quorumMeets", fn := fun _ => fun
  | [d1, d2, d3, d4] => { results := [.lit (.bool true)], args := [d1, d2, d3, d4] }
  | _ => none }
def quorumMeetsRow : OpenClaim := { program := "ytdmijlkknpolbaa", sum := "534c7e3cefbd55fdfb002aa0e60878fab0c2583c6a9b44d67d031af0dbe9b083", func := "interrex/interrexlaw27.QuorumMeets", spec := "quorumMeets", unfollowed := true, recurses := true, apart := false }
def QuorumMeetsSaid : Prop := quorumMeetsRow.holds Try.pinned (OpenSpec.ofChange quorumMeetsSpec)

/-- ITS FALSE NEIGHBOUR: 'it returns false'. Refute it at one input. -/
def quorumMeetsWrong : ChangeSpec := { name := "quorumMeets", fn := fun _ => fun
  | [d1, d2, d3, d4] => { results := [.lit (.bool false)], args := [d1, d2, d3, d4] }
  | _ => none }
def QuorumMeetsWrongFalsely : Prop := quorumMeetsRow.holds Try.pinned (OpenSpec.ofChange quorumMeetsWrong)

/- THE SECOND FORM. 'bulk': how many values and letters a reading holds, each counted each time it is reached (what is shared counts as often as it is met; a slice's spare places count too). A statement '..UptoSaid' is the law's where the arguments, and the package variables that the reading takes, are together of bulk at most 1048576: NARROWER than '..Said'. Prove '..Said' where nothing that the law and all that it calls make is longer than what came in: it says more and counts as full. Else prove '..UptoSaid'. A law counts once. -/
mutual
def uptoBulk {H : Type} : DataW H → Nat
  | .lit (.string bytes) => bytes.length + 1
  | .lit _ => 1
  | .nil => 1
  | .ptr d => uptoBulk d + 1
  | .slice elems spare => uptoBulkAll elems + uptoBulkAll spare + 1
  | .agg parts => uptoBulkAll parts + 1
  | .iface _ d => uptoBulk d + 1
  | .map entries => uptoBulkEntries entries + 1
  | .held _ => 1
def uptoBulkAll {H : Type} : List (DataW H) → Nat
  | [] => 0
  | d :: r => uptoBulk d + uptoBulkAll r
def uptoBulkEntries {H : Type} : List (Lit × DataW H) → Nat
  | [] => 0
  | x :: r => uptoBulkEntry x + uptoBulkEntries r
def uptoBulkEntry {H : Type} : Lit × DataW H → Nat
  | (.string bytes, d) => bytes.length + uptoBulk d + 1
  | (_, d) => uptoBulk d + 1
 end
def uptoSmall : (H : Type) → List (DataW H) → Bool := fun _ ds => decide (uptoBulkAll ds ≤ 1048576)
def OpenSpec.upto (s : _root_.Go.ChangeSpec) : _root_.Go.OpenSpec := { _root_.Go.OpenSpec.ofChange s with cond := some uptoSmall }

/-- 'interrexlaw27.QuorumTurns', WHERE WHAT IT READS IS OF BULK AT MOST 1048576: true; the input reads as it did. -/
def quorumTurnsUptoRow : OpenClaim := { program := "ytdmijlkknpolbaa", sum := "534c7e3cefbd55fdfb002aa0e60878fab0c2583c6a9b44d67d031af0dbe9b083", func := "interrex/interrexlaw27.QuorumTurns", spec := "quorumTurns", unfollowed := true, recurses := true, apart := false, narrowed := true }
def QuorumTurnsUptoSaid : Prop := quorumTurnsUptoRow.holds Try.pinned (OpenSpec.upto quorumTurnsSpec)

/-- 'interrexlaw27.QuorumMarks', WHERE WHAT IT READS IS OF BULK AT MOST 1048576: true; the input reads as it did. -/
def quorumMarksUptoRow : OpenClaim := { program := "ytdmijlkknpolbaa", sum := "534c7e3cefbd55fdfb002aa0e60878fab0c2583c6a9b44d67d031af0dbe9b083", func := "interrex/interrexlaw27.QuorumMarks", spec := "quorumMarks", unfollowed := true, recurses := true, apart := false, narrowed := true }
def QuorumMarksUptoSaid : Prop := quorumMarksUptoRow.holds Try.pinned (OpenSpec.upto quorumMarksSpec)

/-- 'interrexlaw27.QuorumSets', WHERE WHAT IT READS IS OF BULK AT MOST 1048576: true; the input reads as it did. -/
def quorumSetsUptoRow : OpenClaim := { program := "ytdmijlkknpolbaa", sum := "534c7e3cefbd55fdfb002aa0e60878fab0c2583c6a9b44d67d031af0dbe9b083", func := "interrex/interrexlaw27.QuorumSets", spec := "quorumSets", unfollowed := true, recurses := true, apart := false, narrowed := true }
def QuorumSetsUptoSaid : Prop := quorumSetsUptoRow.holds Try.pinned (OpenSpec.upto quorumSetsSpec)

/-- 'interrexlaw27.QuorumMeets', WHERE WHAT IT READS IS OF BULK AT MOST 1048576: true; the input reads as it did. -/
def quorumMeetsUptoRow : OpenClaim := { program := "ytdmijlkknpolbaa", sum := "534c7e3cefbd55fdfb002aa0e60878fab0c2583c6a9b44d67d031af0dbe9b083", func := "interrex/interrexlaw27.QuorumMeets", spec := "quorumMeets", unfollowed := true, recurses := true, apart := false, narrowed := true }
def QuorumMeetsUptoSaid : Prop := quorumMeetsUptoRow.holds Try.pinned (OpenSpec.upto quorumMeetsSpec)

end Rows
end Go.Proofs.Ytdmijlkknpolbaa
