/-
  DERIVED. GIVEN WITH THE SEED: THE CARDS: each row of YtkdbakhcpciacaaGreatDoorRows.lean that lists a variable, with what it lists TIED to the program's text (the seventh form; the later family's looks); each row that meets fmt, with fmt's text TOLD by the authors' own Lean function (tested against real Go, not proved from fmt's source: count such statements apart). THE CARD IS WHAT COUNTS. Prove the row's statement (the work); the ties are given (YtkdbakhcpciacaaGreatDoorTie.lean); close each card by the builder's one call (the guide's Derived/Test/ToyasCard.lean, 'card_holds'). Laid BY PROGRAM, IN A SANDBOX (cutbox-door.mjs). By AI agents, Wed Nov 11 2026. No macro, syntax, notation, axiom, sorry.
-/
import Derived.Test.YtkdbakhcpciacaaGreatDoorRows
import GoSem.ClaimSeven
namespace Go.Proofs.YtkdbakhcpciacaaGreatDoor
namespace Rows

/-- THE TIED CARD OF 'tegulatop.WholeShingles'. -/
def wholeShinglesCard : Claim7 := { stood := { row := wholeShinglesRow, standIns := [], harness := (true, "1c883a36ce1d1d517ac409032cf2294121cef6604cf9e4ba6c2bbaa5a0fcf542"), looks := false }, kinds := [], alts := [], laidByText := true, laidKinds := [.data], laidTests := true, laidLooks := .later }
def WholeShinglesCardSaid : Prop := Claim7.holds Tryz.pinned (.plain (OpenSpec.ofChange wholeShinglesSpec)) wholeShinglesCard

/-- THE SECOND FORM's CARD OF 'tegulatop.WholeShingles'. -/
def wholeShinglesUptoCard : Claim7 := { stood := { row := wholeShinglesUptoRow, standIns := [], harness := (true, "1c883a36ce1d1d517ac409032cf2294121cef6604cf9e4ba6c2bbaa5a0fcf542"), looks := false }, kinds := [], alts := [], laidByText := true, laidKinds := [.data], laidTests := true, laidLooks := .later }
def WholeShinglesUptoCardSaid : Prop := Claim7.holds Tryz.pinned (.plain (OpenSpec.upto wholeShinglesSpec)) wholeShinglesUptoCard
end Rows
end Go.Proofs.YtkdbakhcpciacaaGreatDoor
