/-
  DERIVED. GIVEN WITH THE SEED: THE CARDS: each row of YtedkoimihknggaaGreatDoorRows.lean that lists a variable, with what it lists TIED to the program's text (the seventh form; the later family's looks); each row that meets fmt, with fmt's text TOLD by the authors' own Lean function (tested against real Go, not proved from fmt's source: count such statements apart). THE CARD IS WHAT COUNTS. Prove the row's statement (the work); the ties are given (YtedkoimihknggaaGreatDoorTie.lean); close each card by the builder's one call (the guide's Derived/Test/ToyasCard.lean, 'card_holds'). Laid BY PROGRAM, IN A SANDBOX (cutbox-door.mjs). By AI agents, Wed Nov 11 2026. No macro, syntax, notation, axiom, sorry.
-/
import Derived.Test.YtedkoimihknggaaGreatDoorRows
import GoSem.ClaimSeven
namespace Go.Proofs.YtedkoimihknggaaGreatDoor
namespace Rows

/-- THE TIED CARD OF 'interrexlaw12.FolioMost'. -/
def folioMostCard : Claim7 := { stood := { row := folioMostRow, standIns := [], harness := (true, "d6d9c60763bf8bc0123e028da6cb2a07e463b74728570edff625c18f6e259766"), looks := true }, kinds := [], alts := [], laidByText := true, laidKinds := [.data, .pinned], laidTests := true, laidLooks := .later }
def FolioMostCardSaid : Prop := Claim7.holds Tryz.pinned (.plain (OpenSpec.ofChange folioMostSpec)) folioMostCard

/-- THE TIED CARD OF 'interrexlaw12.FolioReads'. -/
def folioReadsCard : Claim7 := { stood := { row := folioReadsRow, standIns := [], harness := (true, "d6d9c60763bf8bc0123e028da6cb2a07e463b74728570edff625c18f6e259766"), looks := true }, kinds := [], alts := [], laidByText := true, laidKinds := [.data, .pinned], laidTests := true, laidLooks := .later }
def FolioReadsCardSaid : Prop := Claim7.holds Tryz.pinned (.plain (OpenSpec.ofChange folioReadsSpec)) folioReadsCard

/-- THE TIED CARD OF 'interrexlaw12.FolioApart'. -/
def folioApartCard : Claim7 := { stood := { row := folioApartRow, standIns := [], harness := (true, "d6d9c60763bf8bc0123e028da6cb2a07e463b74728570edff625c18f6e259766"), looks := true }, kinds := [], alts := [], laidByText := true, laidKinds := [.data, .pinned], laidTests := true, laidLooks := .later }
def FolioApartCardSaid : Prop := Claim7.holds Tryz.pinned (.plain (OpenSpec.ofChange folioApartSpec)) folioApartCard

/-- THE TIED CARD OF 'interrexlaw12.FolioBytes'. -/
def folioBytesCard : Claim7 := { stood := { row := folioBytesRow, standIns := [], harness := (true, "d6d9c60763bf8bc0123e028da6cb2a07e463b74728570edff625c18f6e259766"), looks := true }, kinds := [], alts := [], laidByText := true, laidKinds := [.data, .pinned], laidTests := true, laidLooks := .later }
def FolioBytesCardSaid : Prop := Claim7.holds Tryz.pinned (.plain (OpenSpec.ofChange folioBytesSpec)) folioBytesCard

/-- THE TIED CARD OF 'interrexlaw13.MigrateBytes'. -/
def migrateBytesCard : Claim7 := { stood := { row := migrateBytesRow, standIns := [], harness := (true, "d6d9c60763bf8bc0123e028da6cb2a07e463b74728570edff625c18f6e259766"), looks := true }, kinds := [], alts := [], laidByText := true, laidKinds := [.data, .pinned], laidTests := true, laidLooks := .later }
def MigrateBytesCardSaid : Prop := Claim7.holds Tryz.pinned (.plain (OpenSpec.ofChange migrateBytesSpec)) migrateBytesCard

/-- THE TIED CARD OF 'interrexlaw13.MigrateGoes'. -/
def migrateGoesCard : Claim7 := { stood := { row := migrateGoesRow, standIns := [], harness := (true, "d6d9c60763bf8bc0123e028da6cb2a07e463b74728570edff625c18f6e259766"), looks := true }, kinds := [], alts := [], laidByText := true, laidKinds := [.data, .pinned], laidTests := true, laidLooks := .later }
def MigrateGoesCardSaid : Prop := Claim7.holds Tryz.pinned (.plain (OpenSpec.ofChange migrateGoesSpec)) migrateGoesCard

/-- THE TIED CARD OF 'interrexlaw13.MigrateDown'. -/
def migrateDownCard : Claim7 := { stood := { row := migrateDownRow, standIns := [], harness := (true, "d6d9c60763bf8bc0123e028da6cb2a07e463b74728570edff625c18f6e259766"), looks := true }, kinds := [], alts := [], laidByText := true, laidKinds := [.data, .pinned], laidTests := true, laidLooks := .later }
def MigrateDownCardSaid : Prop := Claim7.holds Tryz.pinned (.plain (OpenSpec.ofChange migrateDownSpec)) migrateDownCard

/-- THE SECOND FORM's CARD OF 'interrexlaw12.FolioMost'. -/
def folioMostUptoCard : Claim7 := { stood := { row := folioMostUptoRow, standIns := [], harness := (true, "d6d9c60763bf8bc0123e028da6cb2a07e463b74728570edff625c18f6e259766"), looks := true }, kinds := [], alts := [], laidByText := true, laidKinds := [.data, .pinned], laidTests := true, laidLooks := .later }
def FolioMostUptoCardSaid : Prop := Claim7.holds Tryz.pinned (.plain (OpenSpec.upto folioMostSpec)) folioMostUptoCard

/-- THE SECOND FORM's CARD OF 'interrexlaw12.FolioReads'. -/
def folioReadsUptoCard : Claim7 := { stood := { row := folioReadsUptoRow, standIns := [], harness := (true, "d6d9c60763bf8bc0123e028da6cb2a07e463b74728570edff625c18f6e259766"), looks := true }, kinds := [], alts := [], laidByText := true, laidKinds := [.data, .pinned], laidTests := true, laidLooks := .later }
def FolioReadsUptoCardSaid : Prop := Claim7.holds Tryz.pinned (.plain (OpenSpec.upto folioReadsSpec)) folioReadsUptoCard

/-- THE SECOND FORM's CARD OF 'interrexlaw12.FolioApart'. -/
def folioApartUptoCard : Claim7 := { stood := { row := folioApartUptoRow, standIns := [], harness := (true, "d6d9c60763bf8bc0123e028da6cb2a07e463b74728570edff625c18f6e259766"), looks := true }, kinds := [], alts := [], laidByText := true, laidKinds := [.data, .pinned], laidTests := true, laidLooks := .later }
def FolioApartUptoCardSaid : Prop := Claim7.holds Tryz.pinned (.plain (OpenSpec.upto folioApartSpec)) folioApartUptoCard

/-- THE SECOND FORM's CARD OF 'interrexlaw12.FolioBytes'. -/
def folioBytesUptoCard : Claim7 := { stood := { row := folioBytesUptoRow, standIns := [], harness := (true, "d6d9c60763bf8bc0123e028da6cb2a07e463b74728570edff625c18f6e259766"), looks := true }, kinds := [], alts := [], laidByText := true, laidKinds := [.data, .pinned], laidTests := true, laidLooks := .later }
def FolioBytesUptoCardSaid : Prop := Claim7.holds Tryz.pinned (.plain (OpenSpec.upto folioBytesSpec)) folioBytesUptoCard

/-- THE SECOND FORM's CARD OF 'interrexlaw13.MigrateBytes'. -/
def migrateBytesUptoCard : Claim7 := { stood := { row := migrateBytesUptoRow, standIns := [], harness := (true, "d6d9c60763bf8bc0123e028da6cb2a07e463b74728570edff625c18f6e259766"), looks := true }, kinds := [], alts := [], laidByText := true, laidKinds := [.data, .pinned], laidTests := true, laidLooks := .later }
def MigrateBytesUptoCardSaid : Prop := Claim7.holds Tryz.pinned (.plain (OpenSpec.upto migrateBytesSpec)) migrateBytesUptoCard

/-- THE SECOND FORM's CARD OF 'interrexlaw13.MigrateGoes'. -/
def migrateGoesUptoCard : Claim7 := { stood := { row := migrateGoesUptoRow, standIns := [], harness := (true, "d6d9c60763bf8bc0123e028da6cb2a07e463b74728570edff625c18f6e259766"), looks := true }, kinds := [], alts := [], laidByText := true, laidKinds := [.data, .pinned], laidTests := true, laidLooks := .later }
def MigrateGoesUptoCardSaid : Prop := Claim7.holds Tryz.pinned (.plain (OpenSpec.upto migrateGoesSpec)) migrateGoesUptoCard

/-- THE SECOND FORM's CARD OF 'interrexlaw13.MigrateDown'. -/
def migrateDownUptoCard : Claim7 := { stood := { row := migrateDownUptoRow, standIns := [], harness := (true, "d6d9c60763bf8bc0123e028da6cb2a07e463b74728570edff625c18f6e259766"), looks := true }, kinds := [], alts := [], laidByText := true, laidKinds := [.data, .pinned], laidTests := true, laidLooks := .later }
def MigrateDownUptoCardSaid : Prop := Claim7.holds Tryz.pinned (.plain (OpenSpec.upto migrateDownSpec)) migrateDownUptoCard
end Rows
end Go.Proofs.YtedkoimihknggaaGreatDoor
