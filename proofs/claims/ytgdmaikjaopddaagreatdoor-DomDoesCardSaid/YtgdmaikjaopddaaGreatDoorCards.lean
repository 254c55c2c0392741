/-
  DERIVED. GIVEN WITH THE SEED: THE CARDS: each row of YtgdmaikjaopddaaGreatDoorRows.lean that lists a variable, with what it lists TIED to the program's text (the seventh form; the later family's looks); each row that meets fmt, with fmt's text TOLD by the authors' own Lean function (tested against real Go, not proved from fmt's source: count such statements apart). THE CARD IS WHAT COUNTS. Prove the row's statement (the work); the ties are given (YtgdmaikjaopddaaGreatDoorTie.lean); close each card by the builder's one call (the guide's Derived/Test/ToyasCard.lean, 'card_holds'). Laid BY PROGRAM, IN A SANDBOX (cutbox-door.mjs). By AI agents, Wed Nov 11 2026. No macro, syntax, notation, axiom, sorry.
-/
import Derived.Test.YtgdmaikjaopddaaGreatDoorRows
import GoSem.ClaimSeven
namespace Go.Proofs.YtgdmaikjaopddaaGreatDoor
namespace Rows

/-- THE TIED CARD OF 'portierelaw08.DomPlaces'. -/
def domPlacesCard : Claim7 := { stood := { row := domPlacesRow, standIns := [], harness := (true, "8bb8b8ab0f63712ec64bcde43168483e043170e4a6488768ec543d2c00fad678"), looks := false }, kinds := [], alts := [], laidByText := true, laidKinds := [.listed, .data], laidTests := true, laidLooks := .later }
def DomPlacesCardSaid : Prop := Claim7.holds Tryz.pinned (.plain (OpenSpec.ofChange domPlacesSpec)) domPlacesCard

/-- THE TIED CARD OF 'portierelaw08.DomInserts'. -/
def domInsertsCard : Claim7 := { stood := { row := domInsertsRow, standIns := [], harness := (true, "8bb8b8ab0f63712ec64bcde43168483e043170e4a6488768ec543d2c00fad678"), looks := false }, kinds := [], alts := [], laidByText := true, laidKinds := [.listed, .data], laidTests := true, laidLooks := .later }
def DomInsertsCardSaid : Prop := Claim7.holds Tryz.pinned (.plain (OpenSpec.ofChange domInsertsSpec)) domInsertsCard

/-- THE TIED CARD OF 'portierelaw08.DomDoes'. -/
def domDoesCard : Claim7 := { stood := { row := domDoesRow, standIns := [], harness := (true, "8bb8b8ab0f63712ec64bcde43168483e043170e4a6488768ec543d2c00fad678"), looks := false }, kinds := [], alts := [], laidByText := true, laidKinds := [.listed, .data], laidTests := true, laidLooks := .later }
def DomDoesCardSaid : Prop := Claim7.holds Tryz.pinned (.plain (OpenSpec.ofChange domDoesSpec)) domDoesCard

/-- THE TIED CARD OF 'portierelaw08.DomRefuses'. -/
def domRefusesCard : Claim7 := { stood := { row := domRefusesRow, standIns := [], harness := (true, "8bb8b8ab0f63712ec64bcde43168483e043170e4a6488768ec543d2c00fad678"), looks := false }, kinds := [], alts := [], laidByText := true, laidKinds := [.listed, .data], laidTests := true, laidLooks := .later }
def DomRefusesCardSaid : Prop := Claim7.holds Tryz.pinned (.plain (OpenSpec.ofChange domRefusesSpec)) domRefusesCard

/-- THE TIED CARD OF 'portierelaw08.DomCopies'. -/
def domCopiesCard : Claim7 := { stood := { row := domCopiesRow, standIns := [], harness := (true, "8bb8b8ab0f63712ec64bcde43168483e043170e4a6488768ec543d2c00fad678"), looks := false }, kinds := [], alts := [], laidByText := true, laidKinds := [.listed, .data], laidTests := true, laidLooks := .later }
def DomCopiesCardSaid : Prop := Claim7.holds Tryz.pinned (.plain (OpenSpec.ofChange domCopiesSpec)) domCopiesCard

/-- THE SECOND FORM's CARD OF 'portierelaw08.DomPlaces'. -/
def domPlacesUptoCard : Claim7 := { stood := { row := domPlacesUptoRow, standIns := [], harness := (true, "8bb8b8ab0f63712ec64bcde43168483e043170e4a6488768ec543d2c00fad678"), looks := false }, kinds := [], alts := [], laidByText := true, laidKinds := [.listed, .data], laidTests := true, laidLooks := .later }
def DomPlacesUptoCardSaid : Prop := Claim7.holds Tryz.pinned (.plain (OpenSpec.upto domPlacesSpec)) domPlacesUptoCard

/-- THE SECOND FORM's CARD OF 'portierelaw08.DomInserts'. -/
def domInsertsUptoCard : Claim7 := { stood := { row := domInsertsUptoRow, standIns := [], harness := (true, "8bb8b8ab0f63712ec64bcde43168483e043170e4a6488768ec543d2c00fad678"), looks := false }, kinds := [], alts := [], laidByText := true, laidKinds := [.listed, .data], laidTests := true, laidLooks := .later }
def DomInsertsUptoCardSaid : Prop := Claim7.holds Tryz.pinned (.plain (OpenSpec.upto domInsertsSpec)) domInsertsUptoCard

/-- THE SECOND FORM's CARD OF 'portierelaw08.DomDoes'. -/
def domDoesUptoCard : Claim7 := { stood := { row := domDoesUptoRow, standIns := [], harness := (true, "8bb8b8ab0f63712ec64bcde43168483e043170e4a6488768ec543d2c00fad678"), looks := false }, kinds := [], alts := [], laidByText := true, laidKinds := [.listed, .data], laidTests := true, laidLooks := .later }
def DomDoesUptoCardSaid : Prop := Claim7.holds Tryz.pinned (.plain (OpenSpec.upto domDoesSpec)) domDoesUptoCard

/-- THE SECOND FORM's CARD OF 'portierelaw08.DomRefuses'. -/
def domRefusesUptoCard : Claim7 := { stood := { row := domRefusesUptoRow, standIns := [], harness := (true, "8bb8b8ab0f63712ec64bcde43168483e043170e4a6488768ec543d2c00fad678"), looks := false }, kinds := [], alts := [], laidByText := true, laidKinds := [.listed, .data], laidTests := true, laidLooks := .later }
def DomRefusesUptoCardSaid : Prop := Claim7.holds Tryz.pinned (.plain (OpenSpec.upto domRefusesSpec)) domRefusesUptoCard

/-- THE SECOND FORM's CARD OF 'portierelaw08.DomCopies'. -/
def domCopiesUptoCard : Claim7 := { stood := { row := domCopiesUptoRow, standIns := [], harness := (true, "8bb8b8ab0f63712ec64bcde43168483e043170e4a6488768ec543d2c00fad678"), looks := false }, kinds := [], alts := [], laidByText := true, laidKinds := [.listed, .data], laidTests := true, laidLooks := .later }
def DomCopiesUptoCardSaid : Prop := Claim7.holds Tryz.pinned (.plain (OpenSpec.upto domCopiesSpec)) domCopiesUptoCard
end Rows
end Go.Proofs.YtgdmaikjaopddaaGreatDoor
