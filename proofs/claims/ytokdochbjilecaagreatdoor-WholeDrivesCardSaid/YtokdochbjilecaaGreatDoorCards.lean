/-
  DERIVED. GIVEN WITH THE SEED: THE CARDS: each row of YtokdochbjilecaaGreatDoorRows.lean that lists a variable, with what it lists TIED to the program's text (the seventh form; the later family's looks); each row that meets fmt, with fmt's text TOLD by the authors' own Lean function (tested against real Go, not proved from fmt's source: count such statements apart). THE CARD IS WHAT COUNTS. Prove the row's statement (the work); the ties are given (YtokdochbjilecaaGreatDoorTie.lean); close each card by the builder's one call (the guide's Derived/Test/ToyasCard.lean, 'card_holds'). Laid BY PROGRAM, IN A SANDBOX (cutbox-door.mjs). By AI agents, Wed Nov 11 2026. No macro, syntax, notation, axiom, sorry.
-/
import Derived.Test.YtokdochbjilecaaGreatDoorRows
import GoSem.ClaimSeven
namespace Go.Proofs.YtokdochbjilecaaGreatDoor
namespace Rows

/-- THE TIED CARD OF 'tegulatop.WholeDrives'. -/
def wholeDrivesCard : Claim7 := { stood := { row := wholeDrivesRow, standIns := [], harness := (true, "c9408259bdd39dc951ac14dab9cb91849c81c84a0971a7fb815585740e0bf760"), looks := false }, kinds := [], alts := [], laidByText := true, laidKinds := [.data], laidTests := true, laidLooks := .later }
def WholeDrivesCardSaid : Prop := Claim7.holds Tryz.pinned (.plain (OpenSpec.ofChange wholeDrivesSpec)) wholeDrivesCard

/-- THE SECOND FORM's CARD OF 'tegulatop.WholeDrives'. -/
def wholeDrivesUptoCard : Claim7 := { stood := { row := wholeDrivesUptoRow, standIns := [], harness := (true, "c9408259bdd39dc951ac14dab9cb91849c81c84a0971a7fb815585740e0bf760"), looks := false }, kinds := [], alts := [], laidByText := true, laidKinds := [.data], laidTests := true, laidLooks := .later }
def WholeDrivesUptoCardSaid : Prop := Claim7.holds Tryz.pinned (.plain (OpenSpec.upto wholeDrivesSpec)) wholeDrivesUptoCard
end Rows
end Go.Proofs.YtokdochbjilecaaGreatDoor
