/-
  DERIVED. GIVEN WITH THE SEED: THE CARDS: each row of YtlpibiaokpbhbaaGreatDoorRows.lean that lists a variable, with what it lists TIED to the program's text (the seventh form; the later family's looks); each row that meets fmt, with fmt's text TOLD by the authors' own Lean function (tested against real Go, not proved from fmt's source: count such statements apart). THE CARD IS WHAT COUNTS. Prove the row's statement (the work); the ties are given (YtlpibiaokpbhbaaGreatDoorTie.lean); close each card by the builder's one call (the guide's Derived/Test/ToyasCard.lean, 'card_holds'). Laid BY PROGRAM, IN A SANDBOX (cutbox-door.mjs). By AI agents, Wed Nov 11 2026. No macro, syntax, notation, axiom, sorry.
-/
import Derived.Test.YtlpibiaokpbhbaaGreatDoorRows
import GoSem.ClaimSeven
namespace Go.Proofs.YtlpibiaokpbhbaaGreatDoor
namespace Rows

/-- THE TIED CARD OF 'interrexlaw08.ShotReads'. -/
def shotReadsCard : Claim7 := { stood := { row := shotReadsRow, standIns := [], harness := (true, "aba626f75e24b21f3a8b2ce2b444704f11c23cc5f5a057208c941893d3f30729"), looks := false }, kinds := [], alts := [], laidByText := true, laidKinds := [.data, .pinned], laidTests := true, laidLooks := .later }
def ShotReadsCardSaid : Prop := Claim7.holds Tryz.pinned (.plain (OpenSpec.ofChange shotReadsSpec)) shotReadsCard

/-- THE TIED CARD OF 'interrexlaw08.ShotBytes'. -/
def shotBytesCard : Claim7 := { stood := { row := shotBytesRow, standIns := [], harness := (true, "aba626f75e24b21f3a8b2ce2b444704f11c23cc5f5a057208c941893d3f30729"), looks := false }, kinds := [], alts := [], laidByText := true, laidKinds := [.data, .pinned], laidTests := true, laidLooks := .later }
def ShotBytesCardSaid : Prop := Claim7.holds Tryz.pinned (.plain (OpenSpec.ofChange shotBytesSpec)) shotBytesCard

/-- THE TIED CARD OF 'interrexlaw12.FolioMost'. -/
def folioMostCard : Claim7 := { stood := { row := folioMostRow, standIns := [], harness := (true, "aba626f75e24b21f3a8b2ce2b444704f11c23cc5f5a057208c941893d3f30729"), looks := false }, kinds := [], alts := [], laidByText := true, laidKinds := [.data, .pinned], laidTests := true, laidLooks := .later }
def FolioMostCardSaid : Prop := Claim7.holds Tryz.pinned (.plain (OpenSpec.ofChange folioMostSpec)) folioMostCard

/-- THE SECOND FORM's CARD OF 'interrexlaw08.ShotReads'. -/
def shotReadsUptoCard : Claim7 := { stood := { row := shotReadsUptoRow, standIns := [], harness := (true, "aba626f75e24b21f3a8b2ce2b444704f11c23cc5f5a057208c941893d3f30729"), looks := false }, kinds := [], alts := [], laidByText := true, laidKinds := [.data, .pinned], laidTests := true, laidLooks := .later }
def ShotReadsUptoCardSaid : Prop := Claim7.holds Tryz.pinned (.plain (OpenSpec.upto shotReadsSpec)) shotReadsUptoCard

/-- THE SECOND FORM's CARD OF 'interrexlaw08.ShotBytes'. -/
def shotBytesUptoCard : Claim7 := { stood := { row := shotBytesUptoRow, standIns := [], harness := (true, "aba626f75e24b21f3a8b2ce2b444704f11c23cc5f5a057208c941893d3f30729"), looks := false }, kinds := [], alts := [], laidByText := true, laidKinds := [.data, .pinned], laidTests := true, laidLooks := .later }
def ShotBytesUptoCardSaid : Prop := Claim7.holds Tryz.pinned (.plain (OpenSpec.upto shotBytesSpec)) shotBytesUptoCard

/-- THE SECOND FORM's CARD OF 'interrexlaw12.FolioMost'. -/
def folioMostUptoCard : Claim7 := { stood := { row := folioMostUptoRow, standIns := [], harness := (true, "aba626f75e24b21f3a8b2ce2b444704f11c23cc5f5a057208c941893d3f30729"), looks := false }, kinds := [], alts := [], laidByText := true, laidKinds := [.data, .pinned], laidTests := true, laidLooks := .later }
def FolioMostUptoCardSaid : Prop := Claim7.holds Tryz.pinned (.plain (OpenSpec.upto folioMostSpec)) folioMostUptoCard
end Rows
end Go.Proofs.YtlpibiaokpbhbaaGreatDoor
