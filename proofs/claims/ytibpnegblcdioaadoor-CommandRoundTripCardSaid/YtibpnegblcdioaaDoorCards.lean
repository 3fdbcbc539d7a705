/-
  DERIVED. GIVEN WITH THE SEED: THE CARDS: each row of YtibpnegblcdioaaDoorRows.lean that lists a variable, with what it lists TIED to the program's text (the seventh form; the later family's looks); each row that meets fmt, with fmt's text TOLD by the authors' own Lean function (tested against real Go, not proved from fmt's source: count such statements apart). THE CARD IS WHAT COUNTS. Prove the row's statement (the work); the ties are given (YtibpnegblcdioaaDoorTie.lean); close each card by the builder's one call (the guide's Derived/Test/ToyasCard.lean, 'card_holds'). Laid BY PROGRAM, IN A SANDBOX (cutbox-door.mjs). By AI agents, Wed Nov 11 2026. No macro, syntax, notation, axiom, sorry.
-/
import Derived.Test.YtibpnegblcdioaaDoorRows
import GoSem.ClaimSeven
namespace Go.Proofs.YtibpnegblcdioaaDoor
namespace Rows

/-- THE TIED CARD OF 'tegulalaw39.CommandRoundTrip'. -/
def commandRoundTripCard : Claim7 := { stood := { row := commandRoundTripRow, standIns := [], harness := (true, "592f4b88901306a18f0417f0f9122aa621889dcbc3024460a0e2f5f8f18a8bb8"), looks := true }, kinds := [], alts := [], laidByText := true, laidKinds := [.data, .data, .data, .data, .sentinel, .sentinel, .pinned], laidTests := true, laidLooks := .later }
def CommandRoundTripCardSaid : Prop := Claim7.holds Tryd.pinned (.plain (OpenSpec.ofChange commandRoundTripSpec)) commandRoundTripCard

/-- THE TIED CARD OF 'tegulalaw39.CommandDistinct'. -/
def commandDistinctCard : Claim7 := { stood := { row := commandDistinctRow, standIns := [], harness := (true, "592f4b88901306a18f0417f0f9122aa621889dcbc3024460a0e2f5f8f18a8bb8"), looks := true }, kinds := [], alts := [], laidByText := true, laidKinds := [.data, .data, .data, .data, .sentinel, .sentinel, .pinned], laidTests := true, laidLooks := .later }
def CommandDistinctCardSaid : Prop := Claim7.holds Tryd.pinned (.plain (OpenSpec.ofChange commandDistinctSpec)) commandDistinctCard

/-- THE TIED CARD OF 'tegulalaw39.CommandValid'. -/
def commandValidCard : Claim7 := { stood := { row := commandValidRow, standIns := [], harness := (true, "592f4b88901306a18f0417f0f9122aa621889dcbc3024460a0e2f5f8f18a8bb8"), looks := true }, kinds := [], alts := [], laidByText := true, laidKinds := [.data, .data, .data, .data, .sentinel, .sentinel, .pinned], laidTests := true, laidLooks := .later }
def CommandValidCardSaid : Prop := Claim7.holds Tryd.pinned (.plain (OpenSpec.ofChange commandValidSpec)) commandValidCard

/-- THE TIED CARD OF 'tegulalaw39.CommandOverlap'. -/
def commandOverlapCard : Claim7 := { stood := { row := commandOverlapRow, standIns := [], harness := (true, "592f4b88901306a18f0417f0f9122aa621889dcbc3024460a0e2f5f8f18a8bb8"), looks := true }, kinds := [], alts := [], laidByText := true, laidKinds := [.data, .data, .data, .data, .sentinel, .sentinel, .pinned], laidTests := true, laidLooks := .later }
def CommandOverlapCardSaid : Prop := Claim7.holds Tryd.pinned (.plain (OpenSpec.ofChange commandOverlapSpec)) commandOverlapCard

/-- THE TIED CARD OF 'tegulalaw39.CommandSelf'. -/
def commandSelfCard : Claim7 := { stood := { row := commandSelfRow, standIns := [], harness := (true, "592f4b88901306a18f0417f0f9122aa621889dcbc3024460a0e2f5f8f18a8bb8"), looks := true }, kinds := [], alts := [], laidByText := true, laidKinds := [.data, .data, .data, .data, .sentinel, .sentinel, .pinned], laidTests := true, laidLooks := .later }
def CommandSelfCardSaid : Prop := Claim7.holds Tryd.pinned (.plain (OpenSpec.ofChange commandSelfSpec)) commandSelfCard

/-- THE TIED CARD OF 'tegulalaw39.CommandBlocks'. -/
def commandBlocksCard : Claim7 := { stood := { row := commandBlocksRow, standIns := [], harness := (true, "592f4b88901306a18f0417f0f9122aa621889dcbc3024460a0e2f5f8f18a8bb8"), looks := true }, kinds := [], alts := [], laidByText := true, laidKinds := [.data, .data, .data, .data, .sentinel, .sentinel, .pinned], laidTests := true, laidLooks := .later }
def CommandBlocksCardSaid : Prop := Claim7.holds Tryd.pinned (.plain (OpenSpec.ofChange commandBlocksSpec)) commandBlocksCard

/-- THE SECOND FORM's CARD OF 'tegulalaw39.CommandRoundTrip'. -/
def commandRoundTripUptoCard : Claim7 := { stood := { row := commandRoundTripUptoRow, standIns := [], harness := (true, "592f4b88901306a18f0417f0f9122aa621889dcbc3024460a0e2f5f8f18a8bb8"), looks := true }, kinds := [], alts := [], laidByText := true, laidKinds := [.data, .data, .data, .data, .sentinel, .sentinel, .pinned], laidTests := true, laidLooks := .later }
def CommandRoundTripUptoCardSaid : Prop := Claim7.holds Tryd.pinned (.plain (OpenSpec.upto commandRoundTripSpec)) commandRoundTripUptoCard

/-- THE SECOND FORM's CARD OF 'tegulalaw39.CommandDistinct'. -/
def commandDistinctUptoCard : Claim7 := { stood := { row := commandDistinctUptoRow, standIns := [], harness := (true, "592f4b88901306a18f0417f0f9122aa621889dcbc3024460a0e2f5f8f18a8bb8"), looks := true }, kinds := [], alts := [], laidByText := true, laidKinds := [.data, .data, .data, .data, .sentinel, .sentinel, .pinned], laidTests := true, laidLooks := .later }
def CommandDistinctUptoCardSaid : Prop := Claim7.holds Tryd.pinned (.plain (OpenSpec.upto commandDistinctSpec)) commandDistinctUptoCard

/-- THE SECOND FORM's CARD OF 'tegulalaw39.CommandValid'. -/
def commandValidUptoCard : Claim7 := { stood := { row := commandValidUptoRow, standIns := [], harness := (true, "592f4b88901306a18f0417f0f9122aa621889dcbc3024460a0e2f5f8f18a8bb8"), looks := true }, kinds := [], alts := [], laidByText := true, laidKinds := [.data, .data, .data, .data, .sentinel, .sentinel, .pinned], laidTests := true, laidLooks := .later }
def CommandValidUptoCardSaid : Prop := Claim7.holds Tryd.pinned (.plain (OpenSpec.upto commandValidSpec)) commandValidUptoCard

/-- THE SECOND FORM's CARD OF 'tegulalaw39.CommandOverlap'. -/
def commandOverlapUptoCard : Claim7 := { stood := { row := commandOverlapUptoRow, standIns := [], harness := (true, "592f4b88901306a18f0417f0f9122aa621889dcbc3024460a0e2f5f8f18a8bb8"), looks := true }, kinds := [], alts := [], laidByText := true, laidKinds := [.data, .data, .data, .data, .sentinel, .sentinel, .pinned], laidTests := true, laidLooks := .later }
def CommandOverlapUptoCardSaid : Prop := Claim7.holds Tryd.pinned (.plain (OpenSpec.upto commandOverlapSpec)) commandOverlapUptoCard

/-- THE SECOND FORM's CARD OF 'tegulalaw39.CommandSelf'. -/
def commandSelfUptoCard : Claim7 := { stood := { row := commandSelfUptoRow, standIns := [], harness := (true, "592f4b88901306a18f0417f0f9122aa621889dcbc3024460a0e2f5f8f18a8bb8"), looks := true }, kinds := [], alts := [], laidByText := true, laidKinds := [.data, .data, .data, .data, .sentinel, .sentinel, .pinned], laidTests := true, laidLooks := .later }
def CommandSelfUptoCardSaid : Prop := Claim7.holds Tryd.pinned (.plain (OpenSpec.upto commandSelfSpec)) commandSelfUptoCard

/-- THE SECOND FORM's CARD OF 'tegulalaw39.CommandBlocks'. -/
def commandBlocksUptoCard : Claim7 := { stood := { row := commandBlocksUptoRow, standIns := [], harness := (true, "592f4b88901306a18f0417f0f9122aa621889dcbc3024460a0e2f5f8f18a8bb8"), looks := true }, kinds := [], alts := [], laidByText := true, laidKinds := [.data, .data, .data, .data, .sentinel, .sentinel, .pinned], laidTests := true, laidLooks := .later }
def CommandBlocksUptoCardSaid : Prop := Claim7.holds Tryd.pinned (.plain (OpenSpec.upto commandBlocksSpec)) commandBlocksUptoCard
end Rows
end Go.Proofs.YtibpnegblcdioaaDoor
