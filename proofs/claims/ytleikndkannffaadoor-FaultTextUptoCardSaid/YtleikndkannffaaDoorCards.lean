/-
  DERIVED. GIVEN WITH THE SEED: THE CARDS: each row of YtleikndkannffaaDoorRows.lean that lists a variable, with what it lists TIED to the program's text (the seventh form; the later family's looks); each row that meets fmt, with fmt's text TOLD by the authors' own Lean function (tested against real Go, not proved from fmt's source: count such statements apart). THE CARD IS WHAT COUNTS. Prove the row's statement (the work); the ties are given (YtleikndkannffaaDoorTie.lean); close each card by the builder's one call (the guide's Derived/Test/ToyasCard.lean, 'card_holds'). Laid BY PROGRAM, IN A SANDBOX (cutbox-door.mjs). By AI agents, Wed Nov 11 2026. No macro, syntax, notation, axiom, sorry.
-/
import Derived.Test.YtleikndkannffaaDoorRows
import GoSem.ClaimSeven
namespace Go.Proofs.YtleikndkannffaaDoor
namespace Rows

/-- THE TIED CARD OF 'tegulalaw13.FaultValid'. -/
def faultValidCard : Claim7 := { stood := { row := faultValidRow, standIns := [], harness := (true, "24420304cac16cfb49c9d0f10825b9ac4268c913619df157c5cc40ff18121c36"), looks := true }, kinds := [], alts := [], laidByText := true, laidKinds := [.data, .data, .data, .data, .sentinel, .sentinel, .pinned], laidTests := true, laidLooks := .later }
def FaultValidCardSaid : Prop := Claim7.holds Tryd.pinned (.plain (OpenSpec.ofChange faultValidSpec)) faultValidCard

/-- THE TIED CARD OF 'tegulalaw13.FaultText'. -/
def faultTextCard : Claim7 := { stood := { row := faultTextRow, standIns := [], harness := (true, "24420304cac16cfb49c9d0f10825b9ac4268c913619df157c5cc40ff18121c36"), looks := true }, kinds := [], alts := [], laidByText := true, laidKinds := [.data, .data, .data, .data, .sentinel, .sentinel, .pinned], laidTests := true, laidLooks := .later }
def FaultTextCardSaid : Prop := Claim7.holds Tryd.pinned (.plain (OpenSpec.ofChange faultTextSpec)) faultTextCard

/-- THE TIED CARD OF 'tegulalaw13.FaultParse'. -/
def faultParseCard : Claim7 := { stood := { row := faultParseRow, standIns := [], harness := (true, "24420304cac16cfb49c9d0f10825b9ac4268c913619df157c5cc40ff18121c36"), looks := true }, kinds := [], alts := [], laidByText := true, laidKinds := [.data, .data, .data, .data, .sentinel, .sentinel, .pinned], laidTests := true, laidLooks := .later }
def FaultParseCardSaid : Prop := Claim7.holds Tryd.pinned (.plain (OpenSpec.ofChange faultParseSpec)) faultParseCard

/-- THE TIED CARD OF 'tegulalaw13.FaultAt'. -/
def faultAtCard : Claim7 := { stood := { row := faultAtRow, standIns := [], harness := (true, "24420304cac16cfb49c9d0f10825b9ac4268c913619df157c5cc40ff18121c36"), looks := true }, kinds := [], alts := [], laidByText := true, laidKinds := [.data, .data, .data, .data, .sentinel, .sentinel, .pinned], laidTests := true, laidLooks := .later }
def FaultAtCardSaid : Prop := Claim7.holds Tryd.pinned (.plain (OpenSpec.ofChange faultAtSpec)) faultAtCard

/-- THE TIED CARD OF 'tegulalaw13.FaultWithin'. -/
def faultWithinCard : Claim7 := { stood := { row := faultWithinRow, standIns := [], harness := (true, "24420304cac16cfb49c9d0f10825b9ac4268c913619df157c5cc40ff18121c36"), looks := true }, kinds := [], alts := [], laidByText := true, laidKinds := [.data, .data, .data, .data, .sentinel, .sentinel, .pinned], laidTests := true, laidLooks := .later }
def FaultWithinCardSaid : Prop := Claim7.holds Tryd.pinned (.plain (OpenSpec.ofChange faultWithinSpec)) faultWithinCard

/-- THE TIED CARD OF 'tegulalaw13.FaultParts'. -/
def faultPartsCard : Claim7 := { stood := { row := faultPartsRow, standIns := [], harness := (true, "24420304cac16cfb49c9d0f10825b9ac4268c913619df157c5cc40ff18121c36"), looks := true }, kinds := [], alts := [], laidByText := true, laidKinds := [.data, .data, .data, .data, .sentinel, .sentinel, .pinned], laidTests := true, laidLooks := .later }
def FaultPartsCardSaid : Prop := Claim7.holds Tryd.pinned (.plain (OpenSpec.ofChange faultPartsSpec)) faultPartsCard

/-- THE SECOND FORM's CARD OF 'tegulalaw13.FaultValid'. -/
def faultValidUptoCard : Claim7 := { stood := { row := faultValidUptoRow, standIns := [], harness := (true, "24420304cac16cfb49c9d0f10825b9ac4268c913619df157c5cc40ff18121c36"), looks := true }, kinds := [], alts := [], laidByText := true, laidKinds := [.data, .data, .data, .data, .sentinel, .sentinel, .pinned], laidTests := true, laidLooks := .later }
def FaultValidUptoCardSaid : Prop := Claim7.holds Tryd.pinned (.plain (OpenSpec.upto faultValidSpec)) faultValidUptoCard

/-- THE SECOND FORM's CARD OF 'tegulalaw13.FaultText'. -/
def faultTextUptoCard : Claim7 := { stood := { row := faultTextUptoRow, standIns := [], harness := (true, "24420304cac16cfb49c9d0f10825b9ac4268c913619df157c5cc40ff18121c36"), looks := true }, kinds := [], alts := [], laidByText := true, laidKinds := [.data, .data, .data, .data, .sentinel, .sentinel, .pinned], laidTests := true, laidLooks := .later }
def FaultTextUptoCardSaid : Prop := Claim7.holds Tryd.pinned (.plain (OpenSpec.upto faultTextSpec)) faultTextUptoCard

/-- THE SECOND FORM's CARD OF 'tegulalaw13.FaultParse'. -/
def faultParseUptoCard : Claim7 := { stood := { row := faultParseUptoRow, standIns := [], harness := (true, "24420304cac16cfb49c9d0f10825b9ac4268c913619df157c5cc40ff18121c36"), looks := true }, kinds := [], alts := [], laidByText := true, laidKinds := [.data, .data, .data, .data, .sentinel, .sentinel, .pinned], laidTests := true, laidLooks := .later }
def FaultParseUptoCardSaid : Prop := Claim7.holds Tryd.pinned (.plain (OpenSpec.upto faultParseSpec)) faultParseUptoCard

/-- THE SECOND FORM's CARD OF 'tegulalaw13.FaultAt'. -/
def faultAtUptoCard : Claim7 := { stood := { row := faultAtUptoRow, standIns := [], harness := (true, "24420304cac16cfb49c9d0f10825b9ac4268c913619df157c5cc40ff18121c36"), looks := true }, kinds := [], alts := [], laidByText := true, laidKinds := [.data, .data, .data, .data, .sentinel, .sentinel, .pinned], laidTests := true, laidLooks := .later }
def FaultAtUptoCardSaid : Prop := Claim7.holds Tryd.pinned (.plain (OpenSpec.upto faultAtSpec)) faultAtUptoCard

/-- THE SECOND FORM's CARD OF 'tegulalaw13.FaultWithin'. -/
def faultWithinUptoCard : Claim7 := { stood := { row := faultWithinUptoRow, standIns := [], harness := (true, "24420304cac16cfb49c9d0f10825b9ac4268c913619df157c5cc40ff18121c36"), looks := true }, kinds := [], alts := [], laidByText := true, laidKinds := [.data, .data, .data, .data, .sentinel, .sentinel, .pinned], laidTests := true, laidLooks := .later }
def FaultWithinUptoCardSaid : Prop := Claim7.holds Tryd.pinned (.plain (OpenSpec.upto faultWithinSpec)) faultWithinUptoCard

/-- THE SECOND FORM's CARD OF 'tegulalaw13.FaultParts'. -/
def faultPartsUptoCard : Claim7 := { stood := { row := faultPartsUptoRow, standIns := [], harness := (true, "24420304cac16cfb49c9d0f10825b9ac4268c913619df157c5cc40ff18121c36"), looks := true }, kinds := [], alts := [], laidByText := true, laidKinds := [.data, .data, .data, .data, .sentinel, .sentinel, .pinned], laidTests := true, laidLooks := .later }
def FaultPartsUptoCardSaid : Prop := Claim7.holds Tryd.pinned (.plain (OpenSpec.upto faultPartsSpec)) faultPartsUptoCard
end Rows
end Go.Proofs.YtleikndkannffaaDoor
