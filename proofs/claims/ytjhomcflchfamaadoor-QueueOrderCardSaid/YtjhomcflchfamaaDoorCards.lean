/-
  DERIVED. GIVEN WITH THE SEED: THE CARDS: each row of YtjhomcflchfamaaDoorRows.lean that lists a variable, with what it lists TIED to the program's text (the seventh form; the later family's looks); each row that meets fmt, with fmt's text TOLD by the authors' own Lean function (tested against real Go, not proved from fmt's source: count such statements apart). THE CARD IS WHAT COUNTS. Prove the row's statement (the work); the ties are given (YtjhomcflchfamaaDoorTie.lean); close each card by the builder's one call (the guide's Derived/Test/ToyasCard.lean, 'card_holds'). Laid BY PROGRAM, IN A SANDBOX (cutbox-door.mjs). By AI agents, Wed Nov 11 2026. No macro, syntax, notation, axiom, sorry.
-/
import Derived.Test.YtjhomcflchfamaaDoorRows
import GoSem.ClaimSeven
namespace Go.Proofs.YtjhomcflchfamaaDoor
namespace Rows

/-- THE TIED CARD OF 'tegulalaw41.QueueOrder'. -/
def queueOrderCard : Claim7 := { stood := { row := queueOrderRow, standIns := [], harness := (true, "af9ec909c0bbe60e9ebd6b12f4bedb5fe9df8c446bd38ba8f2d8fb2a68995ca6"), looks := false }, kinds := [], alts := [], laidByText := true, laidKinds := [.data, .pinned], laidTests := true, laidLooks := .later }
def QueueOrderCardSaid : Prop := Claim7.holds Tryd.pinned (.plain (OpenSpec.ofChange queueOrderSpec)) queueOrderCard

/-- THE TIED CARD OF 'tegulalaw41.QueueLimit'. -/
def queueLimitCard : Claim7 := { stood := { row := queueLimitRow, standIns := [], harness := (true, "af9ec909c0bbe60e9ebd6b12f4bedb5fe9df8c446bd38ba8f2d8fb2a68995ca6"), looks := false }, kinds := [], alts := [], laidByText := true, laidKinds := [.data, .pinned], laidTests := true, laidLooks := .later }
def QueueLimitCardSaid : Prop := Claim7.holds Tryd.pinned (.plain (OpenSpec.ofChange queueLimitSpec)) queueLimitCard

/-- THE TIED CARD OF 'tegulalaw41.QueueCancel'. -/
def queueCancelCard : Claim7 := { stood := { row := queueCancelRow, standIns := [], harness := (true, "af9ec909c0bbe60e9ebd6b12f4bedb5fe9df8c446bd38ba8f2d8fb2a68995ca6"), looks := false }, kinds := [], alts := [], laidByText := true, laidKinds := [.data, .pinned], laidTests := true, laidLooks := .later }
def QueueCancelCardSaid : Prop := Claim7.holds Tryd.pinned (.plain (OpenSpec.ofChange queueCancelSpec)) queueCancelCard

/-- THE TIED CARD OF 'tegulalaw41.QueueCopy'. -/
def queueCopyCard : Claim7 := { stood := { row := queueCopyRow, standIns := [], harness := (true, "af9ec909c0bbe60e9ebd6b12f4bedb5fe9df8c446bd38ba8f2d8fb2a68995ca6"), looks := false }, kinds := [], alts := [], laidByText := true, laidKinds := [.data, .pinned], laidTests := true, laidLooks := .later }
def QueueCopyCardSaid : Prop := Claim7.holds Tryd.pinned (.plain (OpenSpec.ofChange queueCopySpec)) queueCopyCard

/-- THE TIED CARD OF 'tegulalaw41.QueueCalls'. -/
def queueCallsCard : Claim7 := { stood := { row := queueCallsRow, standIns := [], harness := (true, "af9ec909c0bbe60e9ebd6b12f4bedb5fe9df8c446bd38ba8f2d8fb2a68995ca6"), looks := false }, kinds := [], alts := [], laidByText := true, laidKinds := [.data, .pinned], laidTests := true, laidLooks := .later }
def QueueCallsCardSaid : Prop := Claim7.holds Tryd.pinned (.plain (OpenSpec.ofChange queueCallsSpec)) queueCallsCard

/-- THE TIED CARD OF 'tegulalaw41.QueueLive'. -/
def queueLiveCard : Claim7 := { stood := { row := queueLiveRow, standIns := [], harness := (true, "af9ec909c0bbe60e9ebd6b12f4bedb5fe9df8c446bd38ba8f2d8fb2a68995ca6"), looks := false }, kinds := [], alts := [], laidByText := true, laidKinds := [.data, .pinned], laidTests := true, laidLooks := .later }
def QueueLiveCardSaid : Prop := Claim7.holds Tryd.pinned (.plain (OpenSpec.ofChange queueLiveSpec)) queueLiveCard

/-- THE TIED CARD OF 'tegulalaw41.QueueNil'. -/
def queueNilCard : Claim7 := { stood := { row := queueNilRow, standIns := [], harness := (true, "af9ec909c0bbe60e9ebd6b12f4bedb5fe9df8c446bd38ba8f2d8fb2a68995ca6"), looks := false }, kinds := [], alts := [], laidByText := true, laidKinds := [.data, .pinned], laidTests := true, laidLooks := .later }
def QueueNilCardSaid : Prop := Claim7.holds Tryd.pinned (.plain (OpenSpec.ofChange queueNilSpec)) queueNilCard

/-- THE SECOND FORM's CARD OF 'tegulalaw41.QueueOrder'. -/
def queueOrderUptoCard : Claim7 := { stood := { row := queueOrderUptoRow, standIns := [], harness := (true, "af9ec909c0bbe60e9ebd6b12f4bedb5fe9df8c446bd38ba8f2d8fb2a68995ca6"), looks := false }, kinds := [], alts := [], laidByText := true, laidKinds := [.data, .pinned], laidTests := true, laidLooks := .later }
def QueueOrderUptoCardSaid : Prop := Claim7.holds Tryd.pinned (.plain (OpenSpec.upto queueOrderSpec)) queueOrderUptoCard

/-- THE SECOND FORM's CARD OF 'tegulalaw41.QueueLimit'. -/
def queueLimitUptoCard : Claim7 := { stood := { row := queueLimitUptoRow, standIns := [], harness := (true, "af9ec909c0bbe60e9ebd6b12f4bedb5fe9df8c446bd38ba8f2d8fb2a68995ca6"), looks := false }, kinds := [], alts := [], laidByText := true, laidKinds := [.data, .pinned], laidTests := true, laidLooks := .later }
def QueueLimitUptoCardSaid : Prop := Claim7.holds Tryd.pinned (.plain (OpenSpec.upto queueLimitSpec)) queueLimitUptoCard

/-- THE SECOND FORM's CARD OF 'tegulalaw41.QueueCancel'. -/
def queueCancelUptoCard : Claim7 := { stood := { row := queueCancelUptoRow, standIns := [], harness := (true, "af9ec909c0bbe60e9ebd6b12f4bedb5fe9df8c446bd38ba8f2d8fb2a68995ca6"), looks := false }, kinds := [], alts := [], laidByText := true, laidKinds := [.data, .pinned], laidTests := true, laidLooks := .later }
def QueueCancelUptoCardSaid : Prop := Claim7.holds Tryd.pinned (.plain (OpenSpec.upto queueCancelSpec)) queueCancelUptoCard

/-- THE SECOND FORM's CARD OF 'tegulalaw41.QueueCopy'. -/
def queueCopyUptoCard : Claim7 := { stood := { row := queueCopyUptoRow, standIns := [], harness := (true, "af9ec909c0bbe60e9ebd6b12f4bedb5fe9df8c446bd38ba8f2d8fb2a68995ca6"), looks := false }, kinds := [], alts := [], laidByText := true, laidKinds := [.data, .pinned], laidTests := true, laidLooks := .later }
def QueueCopyUptoCardSaid : Prop := Claim7.holds Tryd.pinned (.plain (OpenSpec.upto queueCopySpec)) queueCopyUptoCard

/-- THE SECOND FORM's CARD OF 'tegulalaw41.QueueCalls'. -/
def queueCallsUptoCard : Claim7 := { stood := { row := queueCallsUptoRow, standIns := [], harness := (true, "af9ec909c0bbe60e9ebd6b12f4bedb5fe9df8c446bd38ba8f2d8fb2a68995ca6"), looks := false }, kinds := [], alts := [], laidByText := true, laidKinds := [.data, .pinned], laidTests := true, laidLooks := .later }
def QueueCallsUptoCardSaid : Prop := Claim7.holds Tryd.pinned (.plain (OpenSpec.upto queueCallsSpec)) queueCallsUptoCard

/-- THE SECOND FORM's CARD OF 'tegulalaw41.QueueLive'. -/
def queueLiveUptoCard : Claim7 := { stood := { row := queueLiveUptoRow, standIns := [], harness := (true, "af9ec909c0bbe60e9ebd6b12f4bedb5fe9df8c446bd38ba8f2d8fb2a68995ca6"), looks := false }, kinds := [], alts := [], laidByText := true, laidKinds := [.data, .pinned], laidTests := true, laidLooks := .later }
def QueueLiveUptoCardSaid : Prop := Claim7.holds Tryd.pinned (.plain (OpenSpec.upto queueLiveSpec)) queueLiveUptoCard

/-- THE SECOND FORM's CARD OF 'tegulalaw41.QueueNil'. -/
def queueNilUptoCard : Claim7 := { stood := { row := queueNilUptoRow, standIns := [], harness := (true, "af9ec909c0bbe60e9ebd6b12f4bedb5fe9df8c446bd38ba8f2d8fb2a68995ca6"), looks := false }, kinds := [], alts := [], laidByText := true, laidKinds := [.data, .pinned], laidTests := true, laidLooks := .later }
def QueueNilUptoCardSaid : Prop := Claim7.holds Tryd.pinned (.plain (OpenSpec.upto queueNilSpec)) queueNilUptoCard
end Rows
end Go.Proofs.YtjhomcflchfamaaDoor
