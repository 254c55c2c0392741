/-
  DERIVED. GIVEN WITH THE SEED: THE CARDS: each row of YtehjhigaebpfkaaDoorRows.lean that lists a variable, with what it lists TIED to the program's text (the seventh form; the later family's looks); each row that meets fmt, with fmt's text TOLD by the authors' own Lean function (tested against real Go, not proved from fmt's source: count such statements apart). THE CARD IS WHAT COUNTS. Prove the row's statement (the work); the ties are given (YtehjhigaebpfkaaDoorTie.lean); close each card by the builder's one call (the guide's Derived/Test/ToyasCard.lean, 'card_holds'). Laid BY PROGRAM, IN A SANDBOX (cutbox-door.mjs). By AI agents, Wed Nov 11 2026. No macro, syntax, notation, axiom, sorry.
-/
import Derived.Test.YtehjhigaebpfkaaDoorRows
import GoSem.ClaimSeven
namespace Go.Proofs.YtehjhigaebpfkaaDoor
namespace Rows

/-- THE TIED CARD OF 'portierelaw08.DomFragments'. -/
def domFragmentsCard : Claim7 := { stood := { row := domFragmentsRow, standIns := [], harness := (true, "23d96f17249fa3ba9907d8e8c8be62a4ce06765352d25bf2addcdef49b7884dc"), looks := false }, kinds := [], alts := [], laidByText := true, laidKinds := [.listed, .data], laidTests := true, laidLooks := .later }
def DomFragmentsCardSaid : Prop := Claim7.holds Tryd.pinned (.plain (OpenSpec.ofChange domFragmentsSpec)) domFragmentsCard

/-- THE TIED CARD OF 'portierelaw08.DomLimit'. -/
def domLimitCard : Claim7 := { stood := { row := domLimitRow, standIns := [], harness := (true, "23d96f17249fa3ba9907d8e8c8be62a4ce06765352d25bf2addcdef49b7884dc"), looks := false }, kinds := [], alts := [], laidByText := true, laidKinds := [.listed, .data], laidTests := true, laidLooks := .later }
def DomLimitCardSaid : Prop := Claim7.holds Tryd.pinned (.plain (OpenSpec.ofChange domLimitSpec)) domLimitCard

/-- THE TIED CARD OF 'portierelaw08.DomOnce'. -/
def domOnceCard : Claim7 := { stood := { row := domOnceRow, standIns := [], harness := (true, "23d96f17249fa3ba9907d8e8c8be62a4ce06765352d25bf2addcdef49b7884dc"), looks := false }, kinds := [], alts := [], laidByText := true, laidKinds := [.listed, .data], laidTests := true, laidLooks := .later }
def DomOnceCardSaid : Prop := Claim7.holds Tryd.pinned (.plain (OpenSpec.ofChange domOnceSpec)) domOnceCard

/-- THE TIED CARD OF 'portierelaw08.DomSets'. -/
def domSetsCard : Claim7 := { stood := { row := domSetsRow, standIns := [], harness := (true, "23d96f17249fa3ba9907d8e8c8be62a4ce06765352d25bf2addcdef49b7884dc"), looks := false }, kinds := [], alts := [], laidByText := true, laidKinds := [.listed, .data], laidTests := true, laidLooks := .later }
def DomSetsCardSaid : Prop := Claim7.holds Tryd.pinned (.plain (OpenSpec.ofChange domSetsSpec)) domSetsCard

/-- THE TIED CARD OF 'portierelaw18.QueryClosest'. -/
def queryClosestCard : Claim7 := { stood := { row := queryClosestRow, standIns := [], harness := (true, "23d96f17249fa3ba9907d8e8c8be62a4ce06765352d25bf2addcdef49b7884dc"), looks := false }, kinds := [], alts := [], laidByText := true, laidKinds := [.listed, .data], laidTests := true, laidLooks := .later }
def QueryClosestCardSaid : Prop := Claim7.holds Tryd.pinned (.plain (OpenSpec.ofChange queryClosestSpec)) queryClosestCard

/-- THE TIED CARD OF 'portierelaw08.DomGiven'. -/
def domGivenCard : Claim7 := { stood := { row := domGivenRow, standIns := [], harness := (true, "23d96f17249fa3ba9907d8e8c8be62a4ce06765352d25bf2addcdef49b7884dc"), looks := false }, kinds := [], alts := [], laidByText := true, laidKinds := [.listed, .data], laidTests := true, laidLooks := .later }
def DomGivenCardSaid : Prop := Claim7.holds Tryd.pinned (.plain (OpenSpec.ofChange domGivenSpec)) domGivenCard

/-- THE TIED CARD OF 'portierelaw10.ShadowHosts'. -/
def shadowHostsCard : Claim7 := { stood := { row := shadowHostsRow, standIns := [], harness := (true, "23d96f17249fa3ba9907d8e8c8be62a4ce06765352d25bf2addcdef49b7884dc"), looks := false }, kinds := [], alts := [], laidByText := true, laidKinds := [.listed, .data], laidTests := true, laidLooks := .later }
def ShadowHostsCardSaid : Prop := Claim7.holds Tryd.pinned (.plain (OpenSpec.ofChange shadowHostsSpec)) shadowHostsCard

/-- THE TIED CARD OF 'portierelaw15.CloneRoots'. -/
def cloneRootsCard : Claim7 := { stood := { row := cloneRootsRow, standIns := [], harness := (true, "23d96f17249fa3ba9907d8e8c8be62a4ce06765352d25bf2addcdef49b7884dc"), looks := false }, kinds := [], alts := [], laidByText := true, laidKinds := [.listed, .data], laidTests := true, laidLooks := .later }
def CloneRootsCardSaid : Prop := Claim7.holds Tryd.pinned (.plain (OpenSpec.ofChange cloneRootsSpec)) cloneRootsCard

/-- THE TIED CARD OF 'portierelaw18.QueryFirst'. -/
def queryFirstCard : Claim7 := { stood := { row := queryFirstRow, standIns := [], harness := (true, "23d96f17249fa3ba9907d8e8c8be62a4ce06765352d25bf2addcdef49b7884dc"), looks := false }, kinds := [], alts := [], laidByText := true, laidKinds := [.listed, .data], laidTests := true, laidLooks := .later }
def QueryFirstCardSaid : Prop := Claim7.holds Tryd.pinned (.plain (OpenSpec.ofChange queryFirstSpec)) queryFirstCard

/-- THE TIED CARD OF 'portierelaw10.ShadowNested'. -/
def shadowNestedCard : Claim7 := { stood := { row := shadowNestedRow, standIns := [], harness := (true, "23d96f17249fa3ba9907d8e8c8be62a4ce06765352d25bf2addcdef49b7884dc"), looks := false }, kinds := [], alts := [], laidByText := true, laidKinds := [.listed, .data], laidTests := true, laidLooks := .later }
def ShadowNestedCardSaid : Prop := Claim7.holds Tryd.pinned (.plain (OpenSpec.ofChange shadowNestedSpec)) shadowNestedCard

/-- THE SECOND FORM's CARD OF 'portierelaw08.DomFragments'. -/
def domFragmentsUptoCard : Claim7 := { stood := { row := domFragmentsUptoRow, standIns := [], harness := (true, "23d96f17249fa3ba9907d8e8c8be62a4ce06765352d25bf2addcdef49b7884dc"), looks := false }, kinds := [], alts := [], laidByText := true, laidKinds := [.listed, .data], laidTests := true, laidLooks := .later }
def DomFragmentsUptoCardSaid : Prop := Claim7.holds Tryd.pinned (.plain (OpenSpec.upto domFragmentsSpec)) domFragmentsUptoCard

/-- THE SECOND FORM's CARD OF 'portierelaw08.DomLimit'. -/
def domLimitUptoCard : Claim7 := { stood := { row := domLimitUptoRow, standIns := [], harness := (true, "23d96f17249fa3ba9907d8e8c8be62a4ce06765352d25bf2addcdef49b7884dc"), looks := false }, kinds := [], alts := [], laidByText := true, laidKinds := [.listed, .data], laidTests := true, laidLooks := .later }
def DomLimitUptoCardSaid : Prop := Claim7.holds Tryd.pinned (.plain (OpenSpec.upto domLimitSpec)) domLimitUptoCard

/-- THE SECOND FORM's CARD OF 'portierelaw08.DomOnce'. -/
def domOnceUptoCard : Claim7 := { stood := { row := domOnceUptoRow, standIns := [], harness := (true, "23d96f17249fa3ba9907d8e8c8be62a4ce06765352d25bf2addcdef49b7884dc"), looks := false }, kinds := [], alts := [], laidByText := true, laidKinds := [.listed, .data], laidTests := true, laidLooks := .later }
def DomOnceUptoCardSaid : Prop := Claim7.holds Tryd.pinned (.plain (OpenSpec.upto domOnceSpec)) domOnceUptoCard

/-- THE SECOND FORM's CARD OF 'portierelaw08.DomSets'. -/
def domSetsUptoCard : Claim7 := { stood := { row := domSetsUptoRow, standIns := [], harness := (true, "23d96f17249fa3ba9907d8e8c8be62a4ce06765352d25bf2addcdef49b7884dc"), looks := false }, kinds := [], alts := [], laidByText := true, laidKinds := [.listed, .data], laidTests := true, laidLooks := .later }
def DomSetsUptoCardSaid : Prop := Claim7.holds Tryd.pinned (.plain (OpenSpec.upto domSetsSpec)) domSetsUptoCard

/-- THE SECOND FORM's CARD OF 'portierelaw18.QueryClosest'. -/
def queryClosestUptoCard : Claim7 := { stood := { row := queryClosestUptoRow, standIns := [], harness := (true, "23d96f17249fa3ba9907d8e8c8be62a4ce06765352d25bf2addcdef49b7884dc"), looks := false }, kinds := [], alts := [], laidByText := true, laidKinds := [.listed, .data], laidTests := true, laidLooks := .later }
def QueryClosestUptoCardSaid : Prop := Claim7.holds Tryd.pinned (.plain (OpenSpec.upto queryClosestSpec)) queryClosestUptoCard

/-- THE SECOND FORM's CARD OF 'portierelaw08.DomGiven'. -/
def domGivenUptoCard : Claim7 := { stood := { row := domGivenUptoRow, standIns := [], harness := (true, "23d96f17249fa3ba9907d8e8c8be62a4ce06765352d25bf2addcdef49b7884dc"), looks := false }, kinds := [], alts := [], laidByText := true, laidKinds := [.listed, .data], laidTests := true, laidLooks := .later }
def DomGivenUptoCardSaid : Prop := Claim7.holds Tryd.pinned (.plain (OpenSpec.upto domGivenSpec)) domGivenUptoCard

/-- THE SECOND FORM's CARD OF 'portierelaw10.ShadowHosts'. -/
def shadowHostsUptoCard : Claim7 := { stood := { row := shadowHostsUptoRow, standIns := [], harness := (true, "23d96f17249fa3ba9907d8e8c8be62a4ce06765352d25bf2addcdef49b7884dc"), looks := false }, kinds := [], alts := [], laidByText := true, laidKinds := [.listed, .data], laidTests := true, laidLooks := .later }
def ShadowHostsUptoCardSaid : Prop := Claim7.holds Tryd.pinned (.plain (OpenSpec.upto shadowHostsSpec)) shadowHostsUptoCard

/-- THE SECOND FORM's CARD OF 'portierelaw15.CloneRoots'. -/
def cloneRootsUptoCard : Claim7 := { stood := { row := cloneRootsUptoRow, standIns := [], harness := (true, "23d96f17249fa3ba9907d8e8c8be62a4ce06765352d25bf2addcdef49b7884dc"), looks := false }, kinds := [], alts := [], laidByText := true, laidKinds := [.listed, .data], laidTests := true, laidLooks := .later }
def CloneRootsUptoCardSaid : Prop := Claim7.holds Tryd.pinned (.plain (OpenSpec.upto cloneRootsSpec)) cloneRootsUptoCard

/-- THE SECOND FORM's CARD OF 'portierelaw18.QueryFirst'. -/
def queryFirstUptoCard : Claim7 := { stood := { row := queryFirstUptoRow, standIns := [], harness := (true, "23d96f17249fa3ba9907d8e8c8be62a4ce06765352d25bf2addcdef49b7884dc"), looks := false }, kinds := [], alts := [], laidByText := true, laidKinds := [.listed, .data], laidTests := true, laidLooks := .later }
def QueryFirstUptoCardSaid : Prop := Claim7.holds Tryd.pinned (.plain (OpenSpec.upto queryFirstSpec)) queryFirstUptoCard

/-- THE SECOND FORM's CARD OF 'portierelaw10.ShadowNested'. -/
def shadowNestedUptoCard : Claim7 := { stood := { row := shadowNestedUptoRow, standIns := [], harness := (true, "23d96f17249fa3ba9907d8e8c8be62a4ce06765352d25bf2addcdef49b7884dc"), looks := false }, kinds := [], alts := [], laidByText := true, laidKinds := [.listed, .data], laidTests := true, laidLooks := .later }
def ShadowNestedUptoCardSaid : Prop := Claim7.holds Tryd.pinned (.plain (OpenSpec.upto shadowNestedSpec)) shadowNestedUptoCard
end Rows
end Go.Proofs.YtehjhigaebpfkaaDoor
