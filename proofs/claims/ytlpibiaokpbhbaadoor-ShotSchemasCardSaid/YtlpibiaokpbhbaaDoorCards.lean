/-
  DERIVED. GIVEN WITH THE SEED: THE CARDS: each row of YtlpibiaokpbhbaaDoorRows.lean that lists a variable, with what it lists TIED to the program's text (the seventh form; the later family's looks); each row that meets fmt, with fmt's text TOLD by the authors' own Lean function (tested against real Go, not proved from fmt's source: count such statements apart). THE CARD IS WHAT COUNTS. Prove the row's statement (the work); the ties are given (YtlpibiaokpbhbaaDoorTie.lean); close each card by the builder's one call (the guide's Derived/Test/ToyasCard.lean, 'card_holds'). Laid BY PROGRAM, IN A SANDBOX (cutbox-door.mjs). By AI agents, Wed Nov 11 2026. No macro, syntax, notation, axiom, sorry.
-/
import Derived.Test.YtlpibiaokpbhbaaDoorRows
import GoSem.ClaimSeven
namespace Go.Proofs.YtlpibiaokpbhbaaDoor
namespace Rows

/-- THE TIED CARD OF 'interrexlaw08.ShotApart'. -/
def shotApartCard : Claim7 := { stood := { row := shotApartRow, standIns := [], harness := (true, "6fe54da6980a05bc34d5963c2694c7708c0dcba57ed2f883664009ff150fca2b"), looks := false }, kinds := [], alts := [], laidByText := true, laidKinds := [.data, .pinned], laidTests := true, laidLooks := .later }
def ShotApartCardSaid : Prop := Claim7.holds Tryd.pinned (.plain (OpenSpec.ofChange shotApartSpec)) shotApartCard

/-- THE TIED CARD OF 'interrexlaw08.ShotSchemas'. -/
def shotSchemasCard : Claim7 := { stood := { row := shotSchemasRow, standIns := [], harness := (true, "6fe54da6980a05bc34d5963c2694c7708c0dcba57ed2f883664009ff150fca2b"), looks := false }, kinds := [], alts := [], laidByText := true, laidKinds := [.data, .pinned], laidTests := true, laidLooks := .later }
def ShotSchemasCardSaid : Prop := Claim7.holds Tryd.pinned (.plain (OpenSpec.ofChange shotSchemasSpec)) shotSchemasCard

/-- THE SECOND FORM's CARD OF 'interrexlaw08.ShotApart'. -/
def shotApartUptoCard : Claim7 := { stood := { row := shotApartUptoRow, standIns := [], harness := (true, "6fe54da6980a05bc34d5963c2694c7708c0dcba57ed2f883664009ff150fca2b"), looks := false }, kinds := [], alts := [], laidByText := true, laidKinds := [.data, .pinned], laidTests := true, laidLooks := .later }
def ShotApartUptoCardSaid : Prop := Claim7.holds Tryd.pinned (.plain (OpenSpec.upto shotApartSpec)) shotApartUptoCard

/-- THE SECOND FORM's CARD OF 'interrexlaw08.ShotSchemas'. -/
def shotSchemasUptoCard : Claim7 := { stood := { row := shotSchemasUptoRow, standIns := [], harness := (true, "6fe54da6980a05bc34d5963c2694c7708c0dcba57ed2f883664009ff150fca2b"), looks := false }, kinds := [], alts := [], laidByText := true, laidKinds := [.data, .pinned], laidTests := true, laidLooks := .later }
def ShotSchemasUptoCardSaid : Prop := Claim7.holds Tryd.pinned (.plain (OpenSpec.upto shotSchemasSpec)) shotSchemasUptoCard
end Rows
end Go.Proofs.YtlpibiaokpbhbaaDoor
