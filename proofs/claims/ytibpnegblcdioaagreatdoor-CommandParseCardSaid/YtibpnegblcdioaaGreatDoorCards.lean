/-
  DERIVED. GIVEN WITH THE SEED: THE CARDS: each row of YtibpnegblcdioaaGreatDoorRows.lean that lists a variable, with what it lists TIED to the program's text (the seventh form; the later family's looks); each row that meets fmt, with fmt's text TOLD by the authors' own Lean function (tested against real Go, not proved from fmt's source: count such statements apart). THE CARD IS WHAT COUNTS. Prove the row's statement (the work); the ties are given (YtibpnegblcdioaaGreatDoorTie.lean); close each card by the builder's one call (the guide's Derived/Test/ToyasCard.lean, 'card_holds'). Laid BY PROGRAM, IN A SANDBOX (cutbox-door.mjs). By AI agents, Wed Nov 11 2026. No macro, syntax, notation, axiom, sorry.
-/
import Derived.Test.YtibpnegblcdioaaGreatDoorRows
import GoSem.ClaimSeven
namespace Go.Proofs.YtibpnegblcdioaaGreatDoor
namespace Rows

/-- THE TIED CARD OF 'tegulalaw39.CommandParse'. -/
def commandParseCard : Claim7 := { stood := { row := commandParseRow, standIns := [], harness := (true, "a488ae7e2bd88e5cd940e9952201a7caa80b8a26e2fd4a4dbe42e2d357e27fbf"), looks := true }, kinds := [], alts := [], laidByText := true, laidKinds := [.data, .data, .data, .data, .sentinel, .sentinel, .pinned], laidTests := true, laidLooks := .later }
def CommandParseCardSaid : Prop := Claim7.holds Tryz.pinned (.plain (OpenSpec.ofChange commandParseSpec)) commandParseCard

/-- THE SECOND FORM's CARD OF 'tegulalaw39.CommandParse'. -/
def commandParseUptoCard : Claim7 := { stood := { row := commandParseUptoRow, standIns := [], harness := (true, "a488ae7e2bd88e5cd940e9952201a7caa80b8a26e2fd4a4dbe42e2d357e27fbf"), looks := true }, kinds := [], alts := [], laidByText := true, laidKinds := [.data, .data, .data, .data, .sentinel, .sentinel, .pinned], laidTests := true, laidLooks := .later }
def CommandParseUptoCardSaid : Prop := Claim7.holds Tryz.pinned (.plain (OpenSpec.upto commandParseSpec)) commandParseUptoCard
end Rows
end Go.Proofs.YtibpnegblcdioaaGreatDoor
