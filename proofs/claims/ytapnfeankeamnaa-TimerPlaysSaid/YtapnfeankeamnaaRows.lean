/-
  No cell of these rows narrows 'for every input' (looked for: loops, veiled, ifaces, maps, wideKeys, modest, calm, conditions, laid).
  DERIVED. THE GIVEN ROWS OF THIS SEAT. 17 by the template 'for every input the law returns true; each argument reads behind the call as it read before'; 0 by the template 'total and deterministic' (their statements: YtapnfeankeamnaaTotals.lean).
  GIVEN WITH THE SEED: the statements are not yours to turn. If you find one false, say at which input.
  Laid BY PROGRAM, IN A SANDBOX (cutbox-rows.mjs): the forced cells as the released guide's own fill.sh prints them over the translation 261e5679e966ae76… (all of the seat's roots in one cut). By AI agents, Wed Nov 11 2026. No macro, syntax, notation, axiom, sorry.
-/
import Derived.Test.YtapnfeankeamnaaChecked
import GoSem.Claim
import GoSem.ClaimJoined
import GoSem.ClaimMapViews
import Derived.JoinedTies
import Derived.KernelRfl
namespace Go.Proofs.Ytapnfeankeamnaa
/- THE CELL 'sum', in the pinned program and in every row, IS THE sha256 OF THE DUMP (.gsa) THAT YtapnfeankeamnaaProg.lean LOADS. Nothing in Lean hashes anything: it is a label: what it is worth is what the hold of that sum in a sandbox is worth. -/
noncomputable def Try.pinned : Pinned := { name := "ytapnfeankeamnaa", sum := "261e5679e966ae76bea270d68064ef50567bc39152d65946286751ff747d565c", checked := Try.checked }
namespace Rows
def none {H : Type} : Left H := { results := [], args := [] }

/-- 'interrexlaw28.TimerEach': WHATEVER THE INPUT: true; the input reads as it did. -/
def timerEachSpec : ChangeSpec := { name := "timerEach", fn := fun _ => fun
  | [d1, d2] => { results := [.lit (.bool true)], args := [d1, d2] }
  | _ => none }
def timerEachRow : OpenClaim := { program := "ytapnfeankeamnaa", sum := "261e5679e966ae76bea270d68064ef50567bc39152d65946286751ff747d565c", func := "interrex/interrexlaw28.TimerEach", spec := "timerEach", apart := false }
def TimerEachSaid : Prop := timerEachRow.holds Try.pinned (OpenSpec.ofChange timerEachSpec)

/-- ITS FALSE NEIGHBOUR: 'it returns false'. Refute it at one input. -/
def timerEachWrong : ChangeSpec := { name := "timerEach", fn := fun _ => fun
  | [d1, d2] => { results := [.lit (.bool false)], args := [d1, d2] }
  | _ => none }
def TimerEachWrongFalsely : Prop := timerEachRow.holds Try.pinned (OpenSpec.ofChange timerEachWrong)

/-- 'interrexlaw28.TimerLeft': WHATEVER THE INPUT: true; the input reads as it did. -/
def timerLeftSpec : ChangeSpec := { name := "timerLeft", fn := fun _ => fun
  | [d1, d2] => { results := [.lit (.bool true)], args := [d1, d2] }
  | _ => none }
def timerLeftRow : OpenClaim := { program := "ytapnfeankeamnaa", sum := "261e5679e966ae76bea270d68064ef50567bc39152d65946286751ff747d565c", func := "interrex/interrexlaw28.TimerLeft", spec := "timerLeft", apart := false }
def TimerLeftSaid : Prop := timerLeftRow.holds Try.pinned (OpenSpec.ofChange timerLeftSpec)

/-- ITS FALSE NEIGHBOUR: 'it returns false'. Refute it at one input. -/
def timerLeftWrong : ChangeSpec := { name := "timerLeft", fn := fun _ => fun
  | [d1, d2] => { results := [.lit (.bool false)], args := [d1, d2] }
  | _ => none }
def TimerLeftWrongFalsely : Prop := timerLeftRow.holds Try.pinned (OpenSpec.ofChange timerLeftWrong)

/-- 'interrexlaw28.TimerPlays': WHATEVER THE INPUT: true; the input reads as it did. -/
def timerPlaysSpec : ChangeSpec := { name := "timerPlays", fn := fun _ => fun
  | [d1, d2] => { results := [.lit (.bool true)], args := [d1, d2] }
  | _ => none }
def timerPlaysRow : OpenClaim := { program := "ytapnfeankeamnaa", sum := "261e5679e966ae76bea270d68064ef50567bc39152d65946286751ff747d565c", func := "interrex/interrexlaw28.TimerPlays", spec := "timerPlays", apart := false }
def TimerPlaysSaid : Prop := timerPlaysRow.holds Try.pinned (OpenSpec.ofChange timerPlaysSpec)

/-- ITS FALSE NEIGHBOUR: 'it returns false'. Refute it at one input. -/
def timerPlaysWrong : ChangeSpec := { name := "timerPlays", fn := fun _ => fun
  | [d1, d2] => { results := [.lit (.bool false)], args := [d1, d2] }
  | _ => none }
def TimerPlaysWrongFalsely : Prop := timerPlaysRow.holds Try.pinned (OpenSpec.ofChange timerPlaysWrong)

/-- 'interrexlaw04.TallyRaises': WHATEVER THE INPUT: true; the input reads as it did. -/
def tallyRaisesSpec : ChangeSpec := { name := "tallyRaises", fn := fun _ => fun
  | [d1, d2] => { results := [.lit (.bool true)], args := [d1, d2] }
  | _ => none }
def tallyRaisesRow : OpenClaim := { program := "ytapnfeankeamnaa", sum := "261e5679e966ae76bea270d68064ef50567bc39152d65946286751ff747d565c", func := "interrex/interrexlaw04.TallyRaises", spec := "tallyRaises", inPlace := ["sync/atomic.AddInt64", "sync/atomic.LoadInt64", "sync/atomic.CompareAndSwapInt64"], apart := false }
def TallyRaisesSaid : Prop := tallyRaisesRow.holds Try.pinned (OpenSpec.ofChange tallyRaisesSpec)

/-- ITS FALSE NEIGHBOUR: 'it returns false'. Refute it at one input. -/
def tallyRaisesWrong : ChangeSpec := { name := "tallyRaises", fn := fun _ => fun
  | [d1, d2] => { results := [.lit (.bool false)], args := [d1, d2] }
  | _ => none }
def TallyRaisesWrongFalsely : Prop := tallyRaisesRow.holds Try.pinned (OpenSpec.ofChange tallyRaisesWrong)

/-- 'interrexlaw30.NetOrder': WHATEVER THE INPUT: true; the input reads as it did. -/
def netOrderSpec : ChangeSpec := { name := "netOrder", fn := fun _ => fun
  | [d] => { results := [.lit (.bool true)], args := [d] }
  | _ => none }
def netOrderRow : OpenClaim := { program := "ytapnfeankeamnaa", sum := "261e5679e966ae76bea270d68064ef50567bc39152d65946286751ff747d565c", func := "interrex/interrexlaw30.NetOrder", spec := "netOrder", apart := false }
def NetOrderSaid : Prop := netOrderRow.holds Try.pinned (OpenSpec.ofChange netOrderSpec)

/-- ITS FALSE NEIGHBOUR: 'it returns false'. Refute it at one input. -/
def netOrderWrong : ChangeSpec := { name := "netOrder", fn := fun _ => fun
  | [d] => { results := [.lit (.bool false)], args := [d] }
  | _ => none }
def NetOrderWrongFalsely : Prop := netOrderRow.holds Try.pinned (OpenSpec.ofChange netOrderWrong)

/-- 'interrexlaw04.TallySwaps': WHATEVER THE INPUT: true; the input reads as it did. -/
def tallySwapsSpec : ChangeSpec := { name := "tallySwaps", fn := fun _ => fun
  | [d1, d2] => { results := [.lit (.bool true)], args := [d1, d2] }
  | _ => none }
def tallySwapsRow : OpenClaim := { program := "ytapnfeankeamnaa", sum := "261e5679e966ae76bea270d68064ef50567bc39152d65946286751ff747d565c", func := "interrex/interrexlaw04.TallySwaps", spec := "tallySwaps", inPlace := ["sync/atomic.AddInt64", "sync/atomic.LoadInt64", "sync/atomic.CompareAndSwapInt64"], apart := false }
def TallySwapsSaid : Prop := tallySwapsRow.holds Try.pinned (OpenSpec.ofChange tallySwapsSpec)

/-- ITS FALSE NEIGHBOUR: 'it returns false'. Refute it at one input. -/
def tallySwapsWrong : ChangeSpec := { name := "tallySwaps", fn := fun _ => fun
  | [d1, d2] => { results := [.lit (.bool false)], args := [d1, d2] }
  | _ => none }
def TallySwapsWrongFalsely : Prop := tallySwapsRow.holds Try.pinned (OpenSpec.ofChange tallySwapsWrong)

/-- 'interrexlaw04.TallyPlays': WHATEVER THE INPUT: true; the input reads as it did. -/
def tallyPlaysSpec : ChangeSpec := { name := "tallyPlays", fn := fun _ => fun
  | [d1, d2] => { results := [.lit (.bool true)], args := [d1, d2] }
  | _ => none }
def tallyPlaysRow : OpenClaim := { program := "ytapnfeankeamnaa", sum := "261e5679e966ae76bea270d68064ef50567bc39152d65946286751ff747d565c", func := "interrex/interrexlaw04.TallyPlays", spec := "tallyPlays", inPlace := ["sync/atomic.AddInt64", "sync/atomic.LoadInt64", "sync/atomic.CompareAndSwapInt64", "sync/atomic.StoreInt64"], apart := false }
def TallyPlaysSaid : Prop := tallyPlaysRow.holds Try.pinned (OpenSpec.ofChange tallyPlaysSpec)

/-- ITS FALSE NEIGHBOUR: 'it returns false'. Refute it at one input. -/
def tallyPlaysWrong : ChangeSpec := { name := "tallyPlays", fn := fun _ => fun
  | [d1, d2] => { results := [.lit (.bool false)], args := [d1, d2] }
  | _ => none }
def TallyPlaysWrongFalsely : Prop := tallyPlaysRow.holds Try.pinned (OpenSpec.ofChange tallyPlaysWrong)

/-- 'interrexlaw30.NetSpoils': WHATEVER THE INPUT: true; the input reads as it did. -/
def netSpoilsSpec : ChangeSpec := { name := "netSpoils", fn := fun _ => fun
  | [d1, d2, d3] => { results := [.lit (.bool true)], args := [d1, d2, d3] }
  | _ => none }
def netSpoilsRow : OpenClaim := { program := "ytapnfeankeamnaa", sum := "261e5679e966ae76bea270d68064ef50567bc39152d65946286751ff747d565c", func := "interrex/interrexlaw30.NetSpoils", spec := "netSpoils", apart := false }
def NetSpoilsSaid : Prop := netSpoilsRow.holds Try.pinned (OpenSpec.ofChange netSpoilsSpec)

/-- ITS FALSE NEIGHBOUR: 'it returns false'. Refute it at one input. -/
def netSpoilsWrong : ChangeSpec := { name := "netSpoils", fn := fun _ => fun
  | [d1, d2, d3] => { results := [.lit (.bool false)], args := [d1, d2, d3] }
  | _ => none }
def NetSpoilsWrongFalsely : Prop := netSpoilsRow.holds Try.pinned (OpenSpec.ofChange netSpoilsWrong)

/-- 'interrexlaw30.NetHonest': WHATEVER THE INPUT: true; the input reads as it did. -/
def netHonestSpec : ChangeSpec := { name := "netHonest", fn := fun _ => fun
  | [d] => { results := [.lit (.bool true)], args := [d] }
  | _ => none }
def netHonestRow : OpenClaim := { program := "ytapnfeankeamnaa", sum := "261e5679e966ae76bea270d68064ef50567bc39152d65946286751ff747d565c", func := "interrex/interrexlaw30.NetHonest", spec := "netHonest", apart := false }
def NetHonestSaid : Prop := netHonestRow.holds Try.pinned (OpenSpec.ofChange netHonestSpec)

/-- ITS FALSE NEIGHBOUR: 'it returns false'. Refute it at one input. -/
def netHonestWrong : ChangeSpec := { name := "netHonest", fn := fun _ => fun
  | [d] => { results := [.lit (.bool false)], args := [d] }
  | _ => none }
def NetHonestWrongFalsely : Prop := netHonestRow.holds Try.pinned (OpenSpec.ofChange netHonestWrong)

/-- 'interrexlaw30.NetPlays': WHATEVER THE INPUT: true; the input reads as it did. -/
def netPlaysSpec : ChangeSpec := { name := "netPlays", fn := fun _ => fun
  | [d] => { results := [.lit (.bool true)], args := [d] }
  | _ => none }
def netPlaysRow : OpenClaim := { program := "ytapnfeankeamnaa", sum := "261e5679e966ae76bea270d68064ef50567bc39152d65946286751ff747d565c", func := "interrex/interrexlaw30.NetPlays", spec := "netPlays", apart := false }
def NetPlaysSaid : Prop := netPlaysRow.holds Try.pinned (OpenSpec.ofChange netPlaysSpec)

/-- ITS FALSE NEIGHBOUR: 'it returns false'. Refute it at one input. -/
def netPlaysWrong : ChangeSpec := { name := "netPlays", fn := fun _ => fun
  | [d] => { results := [.lit (.bool false)], args := [d] }
  | _ => none }
def NetPlaysWrongFalsely : Prop := netPlaysRow.holds Try.pinned (OpenSpec.ofChange netPlaysWrong)

/-- 'interrexlaw21.BlockFuses': WHATEVER THE INPUT: true; the input reads as it did. -/
def blockFusesSpec : ChangeSpec := { name := "blockFuses", fn := fun _ => fun
  | [d1, d2, d3] => { results := [.lit (.bool true)], args := [d1, d2, d3] }
  | _ => none }
def blockFusesRow : OpenClaim := { program := "ytapnfeankeamnaa", sum := "261e5679e966ae76bea270d68064ef50567bc39152d65946286751ff747d565c", func := "interrex/interrexlaw21.BlockFuses", spec := "blockFuses", unfollowed := true, recurses := true, apart := false }
def BlockFusesSaid : Prop := blockFusesRow.holds Try.pinned (OpenSpec.ofChange blockFusesSpec)

/-- ITS FALSE NEIGHBOUR: 'it returns false'. Refute it at one input. -/
def blockFusesWrong : ChangeSpec := { name := "blockFuses", fn := fun _ => fun
  | [d1, d2, d3] => { results := [.lit (.bool false)], args := [d1, d2, d3] }
  | _ => none }
def BlockFusesWrongFalsely : Prop := blockFusesRow.holds Try.pinned (OpenSpec.ofChange blockFusesWrong)

/-- 'interrexlaw21.BlockKeeps': WHATEVER THE INPUT: true; the input reads as it did. -/
def blockKeepsSpec : ChangeSpec := { name := "blockKeeps", fn := fun _ => fun
  | [d1, d2] => { results := [.lit (.bool true)], args := [d1, d2] }
  | _ => none }
def blockKeepsRow : OpenClaim := { program := "ytapnfeankeamnaa", sum := "261e5679e966ae76bea270d68064ef50567bc39152d65946286751ff747d565c", func := "interrex/interrexlaw21.BlockKeeps", spec := "blockKeeps", unfollowed := true, recurses := true, apart := false }
def BlockKeepsSaid : Prop := blockKeepsRow.holds Try.pinned (OpenSpec.ofChange blockKeepsSpec)

/-- ITS FALSE NEIGHBOUR: 'it returns false'. Refute it at one input. -/
def blockKeepsWrong : ChangeSpec := { name := "blockKeeps", fn := fun _ => fun
  | [d1, d2] => { results := [.lit (.bool false)], args := [d1, d2] }
  | _ => none }
def BlockKeepsWrongFalsely : Prop := blockKeepsRow.holds Try.pinned (OpenSpec.ofChange blockKeepsWrong)

/-- 'interrexlaw21.BlockPlays': WHATEVER THE INPUT: true; the input reads as it did. -/
def blockPlaysSpec : ChangeSpec := { name := "blockPlays", fn := fun _ => fun
  | [d1, d2] => { results := [.lit (.bool true)], args := [d1, d2] }
  | _ => none }
def blockPlaysRow : OpenClaim := { program := "ytapnfeankeamnaa", sum := "261e5679e966ae76bea270d68064ef50567bc39152d65946286751ff747d565c", func := "interrex/interrexlaw21.BlockPlays", spec := "blockPlays", unfollowed := true, recurses := true, apart := false }
def BlockPlaysSaid : Prop := blockPlaysRow.holds Try.pinned (OpenSpec.ofChange blockPlaysSpec)

/-- ITS FALSE NEIGHBOUR: 'it returns false'. Refute it at one input. -/
def blockPlaysWrong : ChangeSpec := { name := "blockPlays", fn := fun _ => fun
  | [d1, d2] => { results := [.lit (.bool false)], args := [d1, d2] }
  | _ => none }
def BlockPlaysWrongFalsely : Prop := blockPlaysRow.holds Try.pinned (OpenSpec.ofChange blockPlaysWrong)

/-- 'interrexlaw27.QuorumTurns': WHATEVER THE INPUT: true; the input reads as it did. -/
def quorumTurnsSpec : ChangeSpec := { name := "quorumTurns", fn := fun _ => fun
  | [d1, d2] => { results := [.lit (.bool true)], args := [d1, d2] }
  | _ => none }
def quorumTurnsRow : OpenClaim := { program := "ytapnfeankeamnaa", sum := "261e5679e966ae76bea270d68064ef50567bc39152d65946286751ff747d565c", func := "interrex/interrexlaw27.QuorumTurns", spec := "quorumTurns", unfollowed := true, recurses := true, apart := false }
def QuorumTurnsSaid : Prop := quorumTurnsRow.holds Try.pinned (OpenSpec.ofChange quorumTurnsSpec)

/-- ITS FALSE NEIGHBOUR: 'it returns false'. Refute it at one input. -/
def quorumTurnsWrong : ChangeSpec := { name := "quorumTurns", fn := fun _ => fun
  | [d1, d2] => { results := [.lit (.bool false)], args := [d1, d2] }
  | _ => none }
def QuorumTurnsWrongFalsely : Prop := quorumTurnsRow.holds Try.pinned (OpenSpec.ofChange quorumTurnsWrong)

/-- 'interrexlaw27.QuorumMarks': WHATEVER THE INPUT: true; the input reads as it did. -/
def quorumMarksSpec : ChangeSpec := { name := "quorumMarks", fn := fun _ => fun
  | [d1, d2] => { results := [.lit (.bool true)], args := [d1, d2] }
  | _ => none }
def quorumMarksRow : OpenClaim := { program := "ytapnfeankeamnaa", sum := "261e5679e966ae76bea270d68064ef50567bc39152d65946286751ff747d565c", func := "interrex/interrexlaw27.QuorumMarks", spec := "quorumMarks", unfollowed := true, recurses := true, apart := false }
def QuorumMarksSaid : Prop := quorumMarksRow.holds Try.pinned (OpenSpec.ofChange quorumMarksSpec)

/-- ITS FALSE NEIGHBOUR: 'it returns false'. Refute it at one input. -/
def quorumMarksWrong : ChangeSpec := { name := "quorumMarks", fn := fun _ => fun
  | [d1, d2] => { results := [.lit (.bool false)], args := [d1, d2] }
  | _ => none }
def QuorumMarksWrongFalsely : Prop := quorumMarksRow.holds Try.pinned (OpenSpec.ofChange quorumMarksWrong)

/-- 'interrexlaw27.QuorumSets': WHATEVER THE INPUT: true; the input reads as it did. -/
def quorumSetsSpec : ChangeSpec := { name := "quorumSets", fn := fun _ => fun
  | [d1, d2] => { results := [.lit (.bool true)], args := [d1, d2] }
  | _ => none }
def quorumSetsRow : OpenClaim := { program := "ytapnfeankeamnaa", sum := "261e5679e966ae76bea270d68064ef50567bc39152d65946286751ff747d565c", func := "interrex/interrexlaw27.QuorumSets", spec := "quorumSets", unfollowed := true, recurses := true, apart := false }
def QuorumSetsSaid : Prop := quorumSetsRow.holds Try.pinned (OpenSpec.ofChange quorumSetsSpec)

/-- ITS FALSE NEIGHBOUR: 'it returns false'. Refute it at one input. -/
def quorumSetsWrong : ChangeSpec := { name := "quorumSets", fn := fun _ => fun
  | [d1, d2] => { results := [.lit (.bool false)], args := [d1, d2] }
  | _ => none }
def QuorumSetsWrongFalsely : Prop := quorumSetsRow.holds Try.pinned (OpenSpec.ofChange quorumSetsWrong)

/-- 'interrexlaw27.QuorumMeets': WHATEVER THE INPUT: true; the input reads as it did. -/
def quorumMeetsSpec : ChangeSpec := { name := "quorumMeets", fn := fun _ => fun
  | [d1, d2, d3, d4] => { results := [.lit (.bool true)], args := [d1, d2, d3, d4] }
  | _ => none }
def quorumMeetsRow : OpenClaim := { program := "ytapnfeankeamnaa", sum := "261e5679e966ae76bea270d68064ef50567bc39152d65946286751ff747d565c", func := "interrex/interrexlaw27.QuorumMeets", spec := "quorumMeets", unfollowed := true, recurses := true, apart := false }
def QuorumMeetsSaid : Prop := quorumMeetsRow.holds Try.pinned (OpenSpec.ofChange quorumMeetsSpec)

/-- ITS FALSE NEIGHBOUR: 'it returns false'. Refute it at one input. -/
def quorumMeetsWrong : ChangeSpec := { name := "quorumMeets", fn := fun _ => fun
  | [d1, d2, d3, d4] => { results := [.lit (.bool false)], args := [d1, d2, d3, d4] }
  | _ => none }
def QuorumMeetsWrongFalsely : Prop := quorumMeetsRow.holds Try.pinned (OpenSpec.ofChange quorumMeetsWrong)

/- THE SECOND FORM. 'bulk': how many values and letters a reading holds, each counted each time it is reached (what is shared counts as often as it is met; a slice's spare places count too). A statement '..UptoSaid' is the law's where the arguments, and the package variables that the reading takes, are together of bulk at most 1048576: NARROWER than '..Said'. Prove '..Said' where nothing that the law and all that it calls make is longer than what came in: it says more and counts as full. Else prove '..UptoSaid'. A law counts once. -/
mutual
def uptoBulk {H : Type} : DataW H → Nat
  | .lit (.string bytes) => bytes.length + 1
  | .lit _ => 1
  | .nil => 1
  | .ptr d => uptoBulk d + 1
  | .slice elems spare => uptoBulkAll elems + uptoBulkAll spare + 1
  | .agg parts => uptoBulkAll parts + 1
  | .iface _ d => uptoBulk d + 1
  | .map entries => uptoBulkEntries entries + 1
  | .held _ => 1
def uptoBulkAll {H : Type} : List (DataW H) → Nat
  | [] => 0
  | d :: r => uptoBulk d + uptoBulkAll r
def uptoBulkEntries {H : Type} : List (Lit × DataW H) → Nat
  | [] => 0
  | x :: r => uptoBulkEntry x + uptoBulkEntries r
def uptoBulkEntry {H : Type} : Lit × DataW H → Nat
  | (.string bytes, d) => bytes.length + uptoBulk d + 1
  | (_, d) => uptoBulk d + 1
 end
def uptoSmall : (H : Type) → List (DataW H) → Bool := fun _ ds => decide (uptoBulkAll ds ≤ 1048576)
def OpenSpec.upto (s : _root_.Go.ChangeSpec) : _root_.Go.OpenSpec := { _root_.Go.OpenSpec.ofChange s with cond := some uptoSmall }

/-- 'interrexlaw28.TimerEach', WHERE WHAT IT READS IS OF BULK AT MOST 1048576: true; the input reads as it did. -/
def timerEachUptoRow : OpenClaim := { program := "ytapnfeankeamnaa", sum := "261e5679e966ae76bea270d68064ef50567bc39152d65946286751ff747d565c", func := "interrex/interrexlaw28.TimerEach", spec := "timerEach", apart := false, narrowed := true }
def TimerEachUptoSaid : Prop := timerEachUptoRow.holds Try.pinned (OpenSpec.upto timerEachSpec)

/-- 'interrexlaw28.TimerLeft', WHERE WHAT IT READS IS OF BULK AT MOST 1048576: true; the input reads as it did. -/
def timerLeftUptoRow : OpenClaim := { program := "ytapnfeankeamnaa", sum := "261e5679e966ae76bea270d68064ef50567bc39152d65946286751ff747d565c", func := "interrex/interrexlaw28.TimerLeft", spec := "timerLeft", apart := false, narrowed := true }
def TimerLeftUptoSaid : Prop := timerLeftUptoRow.holds Try.pinned (OpenSpec.upto timerLeftSpec)

/-- 'interrexlaw28.TimerPlays', WHERE WHAT IT READS IS OF BULK AT MOST 1048576: true; the input reads as it did. -/
def timerPlaysUptoRow : OpenClaim := { program := "ytapnfeankeamnaa", sum := "261e5679e966ae76bea270d68064ef50567bc39152d65946286751ff747d565c", func := "interrex/interrexlaw28.TimerPlays", spec := "timerPlays", apart := false, narrowed := true }
def TimerPlaysUptoSaid : Prop := timerPlaysUptoRow.holds Try.pinned (OpenSpec.upto timerPlaysSpec)

/-- 'interrexlaw04.TallyRaises', WHERE WHAT IT READS IS OF BULK AT MOST 1048576: true; the input reads as it did. -/
def tallyRaisesUptoRow : OpenClaim := { program := "ytapnfeankeamnaa", sum := "261e5679e966ae76bea270d68064ef50567bc39152d65946286751ff747d565c", func := "interrex/interrexlaw04.TallyRaises", spec := "tallyRaises", inPlace := ["sync/atomic.AddInt64", "sync/atomic.LoadInt64", "sync/atomic.CompareAndSwapInt64"], apart := false, narrowed := true }
def TallyRaisesUptoSaid : Prop := tallyRaisesUptoRow.holds Try.pinned (OpenSpec.upto tallyRaisesSpec)

/-- 'interrexlaw30.NetOrder', WHERE WHAT IT READS IS OF BULK AT MOST 1048576: true; the input reads as it did. -/
def netOrderUptoRow : OpenClaim := { program := "ytapnfeankeamnaa", sum := "261e5679e966ae76bea270d68064ef50567bc39152d65946286751ff747d565c", func := "interrex/interrexlaw30.NetOrder", spec := "netOrder", apart := false, narrowed := true }
def NetOrderUptoSaid : Prop := netOrderUptoRow.holds Try.pinned (OpenSpec.upto netOrderSpec)

/-- 'interrexlaw04.TallySwaps', WHERE WHAT IT READS IS OF BULK AT MOST 1048576: true; the input reads as it did. -/
def tallySwapsUptoRow : OpenClaim := { program := "ytapnfeankeamnaa", sum := "261e5679e966ae76bea270d68064ef50567bc39152d65946286751ff747d565c", func := "interrex/interrexlaw04.TallySwaps", spec := "tallySwaps", inPlace := ["sync/atomic.AddInt64", "sync/atomic.LoadInt64", "sync/atomic.CompareAndSwapInt64"], apart := false, narrowed := true }
def TallySwapsUptoSaid : Prop := tallySwapsUptoRow.holds Try.pinned (OpenSpec.upto tallySwapsSpec)

/-- 'interrexlaw04.TallyPlays', WHERE WHAT IT READS IS OF BULK AT MOST 1048576: true; the input reads as it did. -/
def tallyPlaysUptoRow : OpenClaim := { program := "ytapnfeankeamnaa", sum := "261e5679e966ae76bea270d68064ef50567bc39152d65946286751ff747d565c", func := "interrex/interrexlaw04.TallyPlays", spec := "tallyPlays", inPlace := ["sync/atomic.AddInt64", "sync/atomic.LoadInt64", "sync/atomic.CompareAndSwapInt64", "sync/atomic.StoreInt64"], apart := false, narrowed := true }
def TallyPlaysUptoSaid : Prop := tallyPlaysUptoRow.holds Try.pinned (OpenSpec.upto tallyPlaysSpec)

/-- 'interrexlaw30.NetSpoils', WHERE WHAT IT READS IS OF BULK AT MOST 1048576: true; the input reads as it did. -/
def netSpoilsUptoRow : OpenClaim := { program := "ytapnfeankeamnaa", sum := "261e5679e966ae76bea270d68064ef50567bc39152d65946286751ff747d565c", func := "interrex/interrexlaw30.NetSpoils", spec := "netSpoils", apart := false, narrowed := true }
def NetSpoilsUptoSaid : Prop := netSpoilsUptoRow.holds Try.pinned (OpenSpec.upto netSpoilsSpec)

/-- 'interrexlaw30.NetHonest', WHERE WHAT IT READS IS OF BULK AT MOST 1048576: true; the input reads as it did. -/
def netHonestUptoRow : OpenClaim := { program := "ytapnfeankeamnaa", sum := "261e5679e966ae76bea270d68064ef50567bc39152d65946286751ff747d565c", func := "interrex/interrexlaw30.NetHonest", spec := "netHonest", apart := false, narrowed := true }
def NetHonestUptoSaid : Prop := netHonestUptoRow.holds Try.pinned (OpenSpec.upto netHonestSpec)

/-- 'interrexlaw30.NetPlays', WHERE WHAT IT READS IS OF BULK AT MOST 1048576: true; the input reads as it did. -/
def netPlaysUptoRow : OpenClaim := { program := "ytapnfeankeamnaa", sum := "261e5679e966ae76bea270d68064ef50567bc39152d65946286751ff747d565c", func := "interrex/interrexlaw30.NetPlays", spec := "netPlays", apart := false, narrowed := true }
def NetPlaysUptoSaid : Prop := netPlaysUptoRow.holds Try.pinned (OpenSpec.upto netPlaysSpec)

/-- 'interrexlaw21.BlockFuses', WHERE WHAT IT READS IS OF BULK AT MOST 1048576: true; the input reads as it did. -/
def blockFusesUptoRow : OpenClaim := { program := "ytapnfeankeamnaa", sum := "261e5679e966ae76bea270d68064ef50567bc39152d65946286751ff747d565c", func := "interrex/interrexlaw21.BlockFuses", spec := "blockFuses", unfollowed := true, recurses := true, apart := false, narrowed := true }
def BlockFusesUptoSaid : Prop := blockFusesUptoRow.holds Try.pinned (OpenSpec.upto blockFusesSpec)

/-- 'interrexlaw21.BlockKeeps', WHERE WHAT IT READS IS OF BULK AT MOST 1048576: true; the input reads as it did. -/
def blockKeepsUptoRow : OpenClaim := { program := "ytapnfeankeamnaa", sum := "261e5679e966ae76bea270d68064ef50567bc39152d65946286751ff747d565c", func := "interrex/interrexlaw21.BlockKeeps", spec := "blockKeeps", unfollowed := true, recurses := true, apart := false, narrowed := true }
def BlockKeepsUptoSaid : Prop := blockKeepsUptoRow.holds Try.pinned (OpenSpec.upto blockKeepsSpec)

/-- 'interrexlaw21.BlockPlays', WHERE WHAT IT READS IS OF BULK AT MOST 1048576: true; the input reads as it did. -/
def blockPlaysUptoRow : OpenClaim := { program := "ytapnfeankeamnaa", sum := "261e5679e966ae76bea270d68064ef50567bc39152d65946286751ff747d565c", func := "interrex/interrexlaw21.BlockPlays", spec := "blockPlays", unfollowed := true, recurses := true, apart := false, narrowed := true }
def BlockPlaysUptoSaid : Prop := blockPlaysUptoRow.holds Try.pinned (OpenSpec.upto blockPlaysSpec)

/-- 'interrexlaw27.QuorumTurns', WHERE WHAT IT READS IS OF BULK AT MOST 1048576: true; the input reads as it did. -/
def quorumTurnsUptoRow : OpenClaim := { program := "ytapnfeankeamnaa", sum := "261e5679e966ae76bea270d68064ef50567bc39152d65946286751ff747d565c", func := "interrex/interrexlaw27.QuorumTurns", spec := "quorumTurns", unfollowed := true, recurses := true, apart := false, narrowed := true }
def QuorumTurnsUptoSaid : Prop := quorumTurnsUptoRow.holds Try.pinned (OpenSpec.upto quorumTurnsSpec)

/-- 'interrexlaw27.QuorumMarks', WHERE WHAT IT READS IS OF BULK AT MOST 1048576: true; the input reads as it did. -/
def quorumMarksUptoRow : OpenClaim := { program := "ytapnfeankeamnaa", sum := "261e5679e966ae76bea270d68064ef50567bc39152d65946286751ff747d565c", func := "interrex/interrexlaw27.QuorumMarks", spec := "quorumMarks", unfollowed := true, recurses := true, apart := false, narrowed := true }
def QuorumMarksUptoSaid : Prop := quorumMarksUptoRow.holds Try.pinned (OpenSpec.upto quorumMarksSpec)

/-- 'interrexlaw27.QuorumSets', WHERE WHAT IT READS IS OF BULK AT MOST 1048576: true; the input reads as it did. -/
def quorumSetsUptoRow : OpenClaim := { program := "ytapnfeankeamnaa", sum := "261e5679e966ae76bea270d68064ef50567bc39152d65946286751ff747d565c", func := "interrex/interrexlaw27.QuorumSets", spec := "quorumSets", unfollowed := true, recurses := true, apart := false, narrowed := true }
def QuorumSetsUptoSaid : Prop := quorumSetsUptoRow.holds Try.pinned (OpenSpec.upto quorumSetsSpec)

/-- 'interrexlaw27.QuorumMeets', WHERE WHAT IT READS IS OF BULK AT MOST 1048576: true; the input reads as it did. -/
def quorumMeetsUptoRow : OpenClaim := { program := "ytapnfeankeamnaa", sum := "261e5679e966ae76bea270d68064ef50567bc39152d65946286751ff747d565c", func := "interrex/interrexlaw27.QuorumMeets", spec := "quorumMeets", unfollowed := true, recurses := true, apart := false, narrowed := true }
def QuorumMeetsUptoSaid : Prop := quorumMeetsUptoRow.holds Try.pinned (OpenSpec.upto quorumMeetsSpec)

end Rows
end Go.Proofs.Ytapnfeankeamnaa
