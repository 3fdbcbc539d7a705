/-
  DERIVED. GIVEN WITH THE SEED: THE CARDS: each row of YtkadpnfidbgmmaaDoorRows.lean that lists a variable, with what it lists TIED to the program's text (the seventh form; the later family's looks); each row that meets fmt, with fmt's text TOLD by the authors' own Lean function (tested against real Go, not proved from fmt's source: count such statements apart). THE CARD IS WHAT COUNTS. Prove the row's statement (the work); the ties are given (YtkadpnfidbgmmaaDoorTie.lean); close each card by the builder's one call (the guide's Derived/Test/ToyasCard.lean, 'card_holds'). Laid BY PROGRAM, IN A SANDBOX (cutbox-door.mjs). By AI agents, Wed Nov 11 2026. No macro, syntax, notation, axiom, sorry.
-/
import Derived.Test.YtkadpnfidbgmmaaDoorRows
import GoSem.ClaimSeven
namespace Go.Proofs.YtkadpnfidbgmmaaDoor
namespace Rows

/-- THE TIED CARD OF 'tegulalaw40.OrderBefore'. -/
def orderBeforeCard : Claim7 := { stood := { row := orderBeforeRow, standIns := [], harness := (true, "b9e011f12f228babeebab673a9da447313ac95f5441db272b9e4e8979e25a3bc"), looks := false }, kinds := [], alts := [], laidByText := true, laidKinds := [.data, .pinned], laidTests := true, laidLooks := .later }
def OrderBeforeCardSaid : Prop := Claim7.holds Tryd.pinned (.plain (OpenSpec.ofChange orderBeforeSpec)) orderBeforeCard

/-- THE TIED CARD OF 'tegulalaw40.OrderEligible'. -/
def orderEligibleCard : Claim7 := { stood := { row := orderEligibleRow, standIns := [], harness := (true, "b9e011f12f228babeebab673a9da447313ac95f5441db272b9e4e8979e25a3bc"), looks := false }, kinds := [], alts := [], laidByText := true, laidKinds := [.data, .pinned], laidTests := true, laidLooks := .later }
def OrderEligibleCardSaid : Prop := Claim7.holds Tryd.pinned (.plain (OpenSpec.ofChange orderEligibleSpec)) orderEligibleCard

/-- THE TIED CARD OF 'tegulalaw40.OrderRespects'. -/
def orderRespectsCard : Claim7 := { stood := { row := orderRespectsRow, standIns := [], harness := (true, "b9e011f12f228babeebab673a9da447313ac95f5441db272b9e4e8979e25a3bc"), looks := false }, kinds := [], alts := [], laidByText := true, laidKinds := [.data, .pinned], laidTests := true, laidLooks := .later }
def OrderRespectsCardSaid : Prop := Claim7.holds Tryd.pinned (.plain (OpenSpec.ofChange orderRespectsSpec)) orderRespectsCard

/-- THE TIED CARD OF 'tegulalaw40.OrderLevels'. -/
def orderLevelsCard : Claim7 := { stood := { row := orderLevelsRow, standIns := [], harness := (true, "b9e011f12f228babeebab673a9da447313ac95f5441db272b9e4e8979e25a3bc"), looks := false }, kinds := [], alts := [], laidByText := true, laidKinds := [.data, .pinned], laidTests := true, laidLooks := .later }
def OrderLevelsCardSaid : Prop := Claim7.holds Tryd.pinned (.plain (OpenSpec.ofChange orderLevelsSpec)) orderLevelsCard

/-- THE TIED CARD OF 'tegulalaw40.OrderRuns'. -/
def orderRunsCard : Claim7 := { stood := { row := orderRunsRow, standIns := [], harness := (true, "b9e011f12f228babeebab673a9da447313ac95f5441db272b9e4e8979e25a3bc"), looks := false }, kinds := [], alts := [], laidByText := true, laidKinds := [.data, .pinned], laidTests := true, laidLooks := .later }
def OrderRunsCardSaid : Prop := Claim7.holds Tryd.pinned (.plain (OpenSpec.ofChange orderRunsSpec)) orderRunsCard

/-- THE TIED CARD OF 'tegulalaw40.OrderArises'. -/
def orderArisesCard : Claim7 := { stood := { row := orderArisesRow, standIns := [], harness := (true, "b9e011f12f228babeebab673a9da447313ac95f5441db272b9e4e8979e25a3bc"), looks := false }, kinds := [], alts := [], laidByText := true, laidKinds := [.data, .pinned], laidTests := true, laidLooks := .later }
def OrderArisesCardSaid : Prop := Claim7.holds Tryd.pinned (.plain (OpenSpec.ofChange orderArisesSpec)) orderArisesCard

/-- THE TIED CARD OF 'tegulalaw40.OrderFences'. -/
def orderFencesCard : Claim7 := { stood := { row := orderFencesRow, standIns := [], harness := (true, "b9e011f12f228babeebab673a9da447313ac95f5441db272b9e4e8979e25a3bc"), looks := false }, kinds := [], alts := [], laidByText := true, laidKinds := [.data, .pinned], laidTests := true, laidLooks := .later }
def OrderFencesCardSaid : Prop := Claim7.holds Tryd.pinned (.plain (OpenSpec.ofChange orderFencesSpec)) orderFencesCard

/-- THE TIED CARD OF 'tegulalaw40.OrderByLevels'. -/
def orderByLevelsCard : Claim7 := { stood := { row := orderByLevelsRow, standIns := [], harness := (true, "b9e011f12f228babeebab673a9da447313ac95f5441db272b9e4e8979e25a3bc"), looks := false }, kinds := [], alts := [], laidByText := true, laidKinds := [.data, .pinned], laidTests := true, laidLooks := .later }
def OrderByLevelsCardSaid : Prop := Claim7.holds Tryd.pinned (.plain (OpenSpec.ofChange orderByLevelsSpec)) orderByLevelsCard

/-- THE SECOND FORM's CARD OF 'tegulalaw40.OrderBefore'. -/
def orderBeforeUptoCard : Claim7 := { stood := { row := orderBeforeUptoRow, standIns := [], harness := (true, "b9e011f12f228babeebab673a9da447313ac95f5441db272b9e4e8979e25a3bc"), looks := false }, kinds := [], alts := [], laidByText := true, laidKinds := [.data, .pinned], laidTests := true, laidLooks := .later }
def OrderBeforeUptoCardSaid : Prop := Claim7.holds Tryd.pinned (.plain (OpenSpec.upto orderBeforeSpec)) orderBeforeUptoCard

/-- THE SECOND FORM's CARD OF 'tegulalaw40.OrderEligible'. -/
def orderEligibleUptoCard : Claim7 := { stood := { row := orderEligibleUptoRow, standIns := [], harness := (true, "b9e011f12f228babeebab673a9da447313ac95f5441db272b9e4e8979e25a3bc"), looks := false }, kinds := [], alts := [], laidByText := true, laidKinds := [.data, .pinned], laidTests := true, laidLooks := .later }
def OrderEligibleUptoCardSaid : Prop := Claim7.holds Tryd.pinned (.plain (OpenSpec.upto orderEligibleSpec)) orderEligibleUptoCard

/-- THE SECOND FORM's CARD OF 'tegulalaw40.OrderRespects'. -/
def orderRespectsUptoCard : Claim7 := { stood := { row := orderRespectsUptoRow, standIns := [], harness := (true, "b9e011f12f228babeebab673a9da447313ac95f5441db272b9e4e8979e25a3bc"), looks := false }, kinds := [], alts := [], laidByText := true, laidKinds := [.data, .pinned], laidTests := true, laidLooks := .later }
def OrderRespectsUptoCardSaid : Prop := Claim7.holds Tryd.pinned (.plain (OpenSpec.upto orderRespectsSpec)) orderRespectsUptoCard

/-- THE SECOND FORM's CARD OF 'tegulalaw40.OrderLevels'. -/
def orderLevelsUptoCard : Claim7 := { stood := { row := orderLevelsUptoRow, standIns := [], harness := (true, "b9e011f12f228babeebab673a9da447313ac95f5441db272b9e4e8979e25a3bc"), looks := false }, kinds := [], alts := [], laidByText := true, laidKinds := [.data, .pinned], laidTests := true, laidLooks := .later }
def OrderLevelsUptoCardSaid : Prop := Claim7.holds Tryd.pinned (.plain (OpenSpec.upto orderLevelsSpec)) orderLevelsUptoCard

/-- THE SECOND FORM's CARD OF 'tegulalaw40.OrderRuns'. -/
def orderRunsUptoCard : Claim7 := { stood := { row := orderRunsUptoRow, standIns := [], harness := (true, "b9e011f12f228babeebab673a9da447313ac95f5441db272b9e4e8979e25a3bc"), looks := false }, kinds := [], alts := [], laidByText := true, laidKinds := [.data, .pinned], laidTests := true, laidLooks := .later }
def OrderRunsUptoCardSaid : Prop := Claim7.holds Tryd.pinned (.plain (OpenSpec.upto orderRunsSpec)) orderRunsUptoCard

/-- THE SECOND FORM's CARD OF 'tegulalaw40.OrderArises'. -/
def orderArisesUptoCard : Claim7 := { stood := { row := orderArisesUptoRow, standIns := [], harness := (true, "b9e011f12f228babeebab673a9da447313ac95f5441db272b9e4e8979e25a3bc"), looks := false }, kinds := [], alts := [], laidByText := true, laidKinds := [.data, .pinned], laidTests := true, laidLooks := .later }
def OrderArisesUptoCardSaid : Prop := Claim7.holds Tryd.pinned (.plain (OpenSpec.upto orderArisesSpec)) orderArisesUptoCard

/-- THE SECOND FORM's CARD OF 'tegulalaw40.OrderFences'. -/
def orderFencesUptoCard : Claim7 := { stood := { row := orderFencesUptoRow, standIns := [], harness := (true, "b9e011f12f228babeebab673a9da447313ac95f5441db272b9e4e8979e25a3bc"), looks := false }, kinds := [], alts := [], laidByText := true, laidKinds := [.data, .pinned], laidTests := true, laidLooks := .later }
def OrderFencesUptoCardSaid : Prop := Claim7.holds Tryd.pinned (.plain (OpenSpec.upto orderFencesSpec)) orderFencesUptoCard

/-- THE SECOND FORM's CARD OF 'tegulalaw40.OrderByLevels'. -/
def orderByLevelsUptoCard : Claim7 := { stood := { row := orderByLevelsUptoRow, standIns := [], harness := (true, "b9e011f12f228babeebab673a9da447313ac95f5441db272b9e4e8979e25a3bc"), looks := false }, kinds := [], alts := [], laidByText := true, laidKinds := [.data, .pinned], laidTests := true, laidLooks := .later }
def OrderByLevelsUptoCardSaid : Prop := Claim7.holds Tryd.pinned (.plain (OpenSpec.upto orderByLevelsSpec)) orderByLevelsUptoCard
end Rows
end Go.Proofs.YtkadpnfidbgmmaaDoor
