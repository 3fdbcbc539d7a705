/-
  DERIVED. GIVEN WITH THE SEED: THE CARDS: each row of YtiibhndkoknmnaaGreatDoorRows.lean that lists a variable, with what it lists TIED to the program's text (the seventh form; the later family's looks); each row that meets fmt, with fmt's text TOLD by the authors' own Lean function (tested against real Go, not proved from fmt's source: count such statements apart). THE CARD IS WHAT COUNTS. Prove the row's statement (the work); the ties are given (YtiibhndkoknmnaaGreatDoorTie.lean); close each card by the builder's one call (the guide's Derived/Test/ToyasCard.lean, 'card_holds'). Laid BY PROGRAM, IN A SANDBOX (cutbox-door.mjs). By AI agents, Wed Nov 11 2026. No macro, syntax, notation, axiom, sorry.
-/
import Derived.Test.YtiibhndkoknmnaaGreatDoorRows
import GoSem.ClaimSeven
namespace Go.Proofs.YtiibhndkoknmnaaGreatDoor
namespace Rows

/-- THE TIED CARD OF 'tegulatop.WholeReserved'. -/
def wholeReservedCard : Claim7 := { stood := { row := wholeReservedRow, standIns := [], harness := (true, "ab7021a7bd4bba726e4afe8381222a39494798c447b02f07504eedbfc9e567f5"), looks := true }, kinds := [], alts := [], laidByText := true, laidKinds := [.data, .data, .pinned], laidTests := true, laidLooks := .later }
def WholeReservedCardSaid : Prop := Claim7.holds Tryz.pinned (.plain (OpenSpec.ofChange wholeReservedSpec)) wholeReservedCard

/-- THE SECOND FORM's CARD OF 'tegulatop.WholeReserved'. -/
def wholeReservedUptoCard : Claim7 := { stood := { row := wholeReservedUptoRow, standIns := [], harness := (true, "ab7021a7bd4bba726e4afe8381222a39494798c447b02f07504eedbfc9e567f5"), looks := true }, kinds := [], alts := [], laidByText := true, laidKinds := [.data, .data, .pinned], laidTests := true, laidLooks := .later }
def WholeReservedUptoCardSaid : Prop := Claim7.holds Tryz.pinned (.plain (OpenSpec.upto wholeReservedSpec)) wholeReservedUptoCard
end Rows
end Go.Proofs.YtiibhndkoknmnaaGreatDoor
