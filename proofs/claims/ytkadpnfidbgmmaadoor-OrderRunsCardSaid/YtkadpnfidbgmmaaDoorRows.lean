/-
  NARROWER THAN 'FOR EVERY INPUT', by the rows' own cells (each row's printed sentence says how): OrderBefore: laid · OrderEligible: laid · OrderRespects: laid · OrderLevels: laid · OrderRuns: laid · OrderArises: laid · OrderFences: laid · OrderByLevels: laid.
  DERIVED. THE GIVEN ROWS OF THIS SEAT. 8 by the template 'for every input the law returns true; each argument reads behind the call as it read before'; 0 by the template 'total and deterministic' (their statements: YtkadpnfidbgmmaaDoorTotals.lean).
  GIVEN WITH THE SEED: the statements are not yours to turn. If you find one false, say at which input.
  Laid BY PROGRAM, IN A SANDBOX (cutbox-rows.mjs): the forced cells as the released guide's own fill.sh prints them over the translation 529753f592208c5e… (all of the seat's roots in one cut). By AI agents, Wed Nov 11 2026. No macro, syntax, notation, axiom, sorry.
-/
import Derived.Test.YtkadpnfidbgmmaaDoorChecked
import GoSem.PinnedTables
import GoSem.Claim
import GoSem.ClaimJoined
import GoSem.ClaimMapViews
import Derived.JoinedTies
import Derived.KernelRfl
namespace Go.Proofs.YtkadpnfidbgmmaaDoor
/- THE CELL 'sum', in the pinned program and in every row, IS THE sha256 OF THE DUMP (.gsa) THAT YtkadpnfidbgmmaaDoorProg.lean LOADS. Nothing in Lean hashes anything: it is a label: what it is worth is what the hold of that sum in a sandbox is worth. -/
noncomputable def Tryd.pinned : Pinned := { name := "ytkadpnfidbgmmaadoor", sum := "529753f592208c5e44a46d2abe1b7e00be435eeae9d7f1a4422cdf658b35a796", checked := Tryd.checked }
namespace Rows
def none {H : Type} : Left H := { results := [], args := [] }

/- WHAT THE LISTED PACKAGE-LEVEL VARIABLES READ AS WHEN THE CALL BEGINS. Each datum BY PROGRAM (the guide's laid-datum.mjs) off the statement by which the dump's own 'gosem.cut.vars' lays the variable. In a bare row this is a premise. The card (YtkadpnfidbgmmaaDoorCards.lean) ties it to the program's text. -/
def laid_unicode_utf8_acceptRanges {H : Type} : DataW H := .agg [.agg [.lit (.int .u8 128), .lit (.int .u8 191)], .agg [.lit (.int .u8 160), .lit (.int .u8 191)], .agg [.lit (.int .u8 128), .lit (.int .u8 159)], .agg [.lit (.int .u8 144), .lit (.int .u8 191)], .agg [.lit (.int .u8 128), .lit (.int .u8 143)], .agg [.lit (.int .u8 0), .lit (.int .u8 0)], .agg [.lit (.int .u8 0), .lit (.int .u8 0)], .agg [.lit (.int .u8 0), .lit (.int .u8 0)], .agg [.lit (.int .u8 0), .lit (.int .u8 0)], .agg [.lit (.int .u8 0), .lit (.int .u8 0)], .agg [.lit (.int .u8 0), .lit (.int .u8 0)], .agg [.lit (.int .u8 0), .lit (.int .u8 0)], .agg [.lit (.int .u8 0), .lit (.int .u8 0)], .agg [.lit (.int .u8 0), .lit (.int .u8 0)], .agg [.lit (.int .u8 0), .lit (.int .u8 0)], .agg [.lit (.int .u8 0), .lit (.int .u8 0)]]
/-- One of Go's own tables, pinned by name: the form's constant. -/
def laid_unicode_utf8_first : DataW Unit := Go.Pinned.utf8First

/-- 'tegulalaw40.OrderBefore': WHATEVER THE INPUT: true; the input reads as it did. -/
def orderBeforeSpec : ChangeSpec := { name := "orderBefore", fn := fun _ => fun
  | [d1, d2] => { results := [.lit (.bool true)], args := [d1, d2] }
  | _ => none }
def orderBeforeRow : OpenClaim := { program := "ytkadpnfidbgmmaadoor", sum := "529753f592208c5e44a46d2abe1b7e00be435eeae9d7f1a4422cdf658b35a796", func := "tegula/tegulalaw40.OrderBefore", spec := "orderBefore", inPlace := ["internal/bytealg.IndexByteString", "internal/bytealg.IndexString"], unfollowed := true, recurses := true, named := ["unicode/utf8.first", "unicode/utf8.acceptRanges", "internal/bytealg.MaxLen"], apart := false, laid := [("unicode/utf8.acceptRanges", laid_unicode_utf8_acceptRanges), ("unicode/utf8.first", laid_unicode_utf8_first)] }
def OrderBeforeSaid : Prop := orderBeforeRow.holds Tryd.pinned (OpenSpec.ofChange orderBeforeSpec)

/-- ITS FALSE NEIGHBOUR: 'it returns false'. Refute it at one input. -/
def orderBeforeWrong : ChangeSpec := { name := "orderBefore", fn := fun _ => fun
  | [d1, d2] => { results := [.lit (.bool false)], args := [d1, d2] }
  | _ => none }
def OrderBeforeWrongFalsely : Prop := orderBeforeRow.holds Tryd.pinned (OpenSpec.ofChange orderBeforeWrong)

/-- 'tegulalaw40.OrderEligible': WHATEVER THE INPUT: true; the input reads as it did. -/
def orderEligibleSpec : ChangeSpec := { name := "orderEligible", fn := fun _ => fun
  | [d1, d2] => { results := [.lit (.bool true)], args := [d1, d2] }
  | _ => none }
def orderEligibleRow : OpenClaim := { program := "ytkadpnfidbgmmaadoor", sum := "529753f592208c5e44a46d2abe1b7e00be435eeae9d7f1a4422cdf658b35a796", func := "tegula/tegulalaw40.OrderEligible", spec := "orderEligible", inPlace := ["internal/bytealg.IndexByteString", "internal/bytealg.IndexString"], unfollowed := true, recurses := true, named := ["unicode/utf8.first", "unicode/utf8.acceptRanges", "internal/bytealg.MaxLen"], apart := false, laid := [("unicode/utf8.acceptRanges", laid_unicode_utf8_acceptRanges), ("unicode/utf8.first", laid_unicode_utf8_first)] }
def OrderEligibleSaid : Prop := orderEligibleRow.holds Tryd.pinned (OpenSpec.ofChange orderEligibleSpec)

/-- ITS FALSE NEIGHBOUR: 'it returns false'. Refute it at one input. -/
def orderEligibleWrong : ChangeSpec := { name := "orderEligible", fn := fun _ => fun
  | [d1, d2] => { results := [.lit (.bool false)], args := [d1, d2] }
  | _ => none }
def OrderEligibleWrongFalsely : Prop := orderEligibleRow.holds Tryd.pinned (OpenSpec.ofChange orderEligibleWrong)

/-- 'tegulalaw40.OrderRespects': WHATEVER THE INPUT: true; the input reads as it did. -/
def orderRespectsSpec : ChangeSpec := { name := "orderRespects", fn := fun _ => fun
  | [d1, d2] => { results := [.lit (.bool true)], args := [d1, d2] }
  | _ => none }
def orderRespectsRow : OpenClaim := { program := "ytkadpnfidbgmmaadoor", sum := "529753f592208c5e44a46d2abe1b7e00be435eeae9d7f1a4422cdf658b35a796", func := "tegula/tegulalaw40.OrderRespects", spec := "orderRespects", inPlace := ["internal/bytealg.IndexByteString", "internal/bytealg.IndexString"], unfollowed := true, recurses := true, named := ["unicode/utf8.first", "unicode/utf8.acceptRanges", "internal/bytealg.MaxLen"], apart := false, laid := [("unicode/utf8.acceptRanges", laid_unicode_utf8_acceptRanges), ("unicode/utf8.first", laid_unicode_utf8_first)] }
def OrderRespectsSaid : Prop := orderRespectsRow.holds Tryd.pinned (OpenSpec.ofChange orderRespectsSpec)

/-- ITS FALSE NEIGHBOUR: 'it returns false'. Refute it at one input. -/
def orderRespectsWrong : ChangeSpec := { name := "orderRespects", fn := fun _ => fun
  | [d1, d2] => { results := [.lit (.bool false)], args := [d1, d2] }
  | _ => none }
def OrderRespectsWrongFalsely : Prop := orderRespectsRow.holds Tryd.pinned (OpenSpec.ofChange orderRespectsWrong)

/-- 'tegulalaw40.OrderLevels': WHATEVER THE INPUT: true; the input reads as it did. -/
def orderLevelsSpec : ChangeSpec := { name := "orderLevels", fn := fun _ => fun
  | [d] => { results := [.lit (.bool true)], args := [d] }
  | _ => none }
def orderLevelsRow : OpenClaim := { program := "ytkadpnfidbgmmaadoor", sum := "529753f592208c5e44a46d2abe1b7e00be435eeae9d7f1a4422cdf658b35a796", func := "tegula/tegulalaw40.OrderLevels", spec := "orderLevels", inPlace := ["internal/bytealg.IndexByteString", "internal/bytealg.IndexString"], unfollowed := true, recurses := true, named := ["unicode/utf8.first", "unicode/utf8.acceptRanges", "internal/bytealg.MaxLen"], apart := false, laid := [("unicode/utf8.acceptRanges", laid_unicode_utf8_acceptRanges), ("unicode/utf8.first", laid_unicode_utf8_first)] }
def OrderLevelsSaid : Prop := orderLevelsRow.holds Tryd.pinned (OpenSpec.ofChange orderLevelsSpec)

/-- ITS FALSE NEIGHBOUR: 'it returns false'. Refute it at one input. -/
def orderLevelsWrong : ChangeSpec := { name := "orderLevels", fn := fun _ => fun
  | [d] => { results := [.lit (.bool false)], args := [d] }
  | _ => none }
def OrderLevelsWrongFalsely : Prop := orderLevelsRow.holds Tryd.pinned (OpenSpec.ofChange orderLevelsWrong)

/-- 'tegulalaw40.OrderRuns': WHATEVER THE INPUT: true; the input reads as it did. -/
def orderRunsSpec : ChangeSpec := { name := "orderRuns", fn := fun _ => fun
  | [d1, d2] => { results := [.lit (.bool true)], args := [d1, d2] }
  | _ => none }
def orderRunsRow : OpenClaim := { program := "ytkadpnfidbgmmaadoor", sum := "529753f592208c5e44a46d2abe1b7e00be435eeae9d7f1a4422cdf658b35a796", func := "tegula/tegulalaw40.OrderRuns", spec := "orderRuns", inPlace := ["internal/bytealg.IndexByteString", "internal/bytealg.IndexString"], unfollowed := true, recurses := true, named := ["unicode/utf8.first", "unicode/utf8.acceptRanges", "internal/bytealg.MaxLen"], apart := false, laid := [("unicode/utf8.acceptRanges", laid_unicode_utf8_acceptRanges), ("unicode/utf8.first", laid_unicode_utf8_first)] }
def OrderRunsSaid : Prop := orderRunsRow.holds Tryd.pinned (OpenSpec.ofChange orderRunsSpec)

/-- ITS FALSE NEIGHBOUR: 'it returns false'. Refute it at one input. -/
def orderRunsWrong : ChangeSpec := { name := "orderRuns", fn := fun _ => fun
  | [d1, d2] => { results := [.lit (.bool false)], args := [d1, d2] }
  | _ => none }
def OrderRunsWrongFalsely : Prop := orderRunsRow.holds Tryd.pinned (OpenSpec.ofChange orderRunsWrong)

/-- 'tegulalaw40.OrderArises': WHATEVER THE INPUT: true; the input reads as it did. -/
def orderArisesSpec : ChangeSpec := { name := "orderArises", fn := fun _ => fun
  | [d1, d2] => { results := [.lit (.bool true)], args := [d1, d2] }
  | _ => none }
def orderArisesRow : OpenClaim := { program := "ytkadpnfidbgmmaadoor", sum := "529753f592208c5e44a46d2abe1b7e00be435eeae9d7f1a4422cdf658b35a796", func := "tegula/tegulalaw40.OrderArises", spec := "orderArises", inPlace := ["internal/bytealg.IndexByteString", "internal/bytealg.IndexString"], unfollowed := true, recurses := true, named := ["unicode/utf8.first", "unicode/utf8.acceptRanges", "internal/bytealg.MaxLen"], apart := false, laid := [("unicode/utf8.acceptRanges", laid_unicode_utf8_acceptRanges), ("unicode/utf8.first", laid_unicode_utf8_first)] }
def OrderArisesSaid : Prop := orderArisesRow.holds Tryd.pinned (OpenSpec.ofChange orderArisesSpec)

/-- ITS FALSE NEIGHBOUR: 'it returns false'. Refute it at one input. -/
def orderArisesWrong : ChangeSpec := { name := "orderArises", fn := fun _ => fun
  | [d1, d2] => { results := [.lit (.bool false)], args := [d1, d2] }
  | _ => none }
def OrderArisesWrongFalsely : Prop := orderArisesRow.holds Tryd.pinned (OpenSpec.ofChange orderArisesWrong)

/-- 'tegulalaw40.OrderFences': WHATEVER THE INPUT: true; the input reads as it did. -/
def orderFencesSpec : ChangeSpec := { name := "orderFences", fn := fun _ => fun
  | [d1, d2] => { results := [.lit (.bool true)], args := [d1, d2] }
  | _ => none }
def orderFencesRow : OpenClaim := { program := "ytkadpnfidbgmmaadoor", sum := "529753f592208c5e44a46d2abe1b7e00be435eeae9d7f1a4422cdf658b35a796", func := "tegula/tegulalaw40.OrderFences", spec := "orderFences", inPlace := ["internal/bytealg.IndexByteString", "internal/bytealg.IndexString"], unfollowed := true, recurses := true, named := ["unicode/utf8.first", "unicode/utf8.acceptRanges", "internal/bytealg.MaxLen"], apart := false, laid := [("unicode/utf8.acceptRanges", laid_unicode_utf8_acceptRanges), ("unicode/utf8.first", laid_unicode_utf8_first)] }
def OrderFencesSaid : Prop := orderFencesRow.holds Tryd.pinned (OpenSpec.ofChange orderFencesSpec)

/-- ITS FALSE NEIGHBOUR: 'it returns false'. Refute it at one input. -/
def orderFencesWrong : ChangeSpec := { name := "orderFences", fn := fun _ => fun
  | [d1, d2] => { results := [.lit (.bool false)], args := [d1, d2] }
  | _ => none }
def OrderFencesWrongFalsely : Prop := orderFencesRow.holds Tryd.pinned (OpenSpec.ofChange orderFencesWrong)

/-- 'tegulalaw40.OrderByLevels': WHATEVER THE INPUT: true; the input reads as it did. -/
def orderByLevelsSpec : ChangeSpec := { name := "orderByLevels", fn := fun _ => fun
  | [d] => { results := [.lit (.bool true)], args := [d] }
  | _ => none }
def orderByLevelsRow : OpenClaim := { program := "ytkadpnfidbgmmaadoor", sum := "529753f592208c5e44a46d2abe1b7e00be435eeae9d7f1a4422cdf658b35a796", func := "tegula/tegulalaw40.OrderByLevels", spec := "orderByLevels", inPlace := ["internal/bytealg.IndexByteString", "internal/bytealg.IndexString"], unfollowed := true, recurses := true, named := ["unicode/utf8.first", "unicode/utf8.acceptRanges", "internal/bytealg.MaxLen"], apart := false, laid := [("unicode/utf8.acceptRanges", laid_unicode_utf8_acceptRanges), ("unicode/utf8.first", laid_unicode_utf8_first)] }
def OrderByLevelsSaid : Prop := orderByLevelsRow.holds Tryd.pinned (OpenSpec.ofChange orderByLevelsSpec)

/-- ITS FALSE NEIGHBOUR: 'it returns false'. Refute it at one input. -/
def orderByLevelsWrong : ChangeSpec := { name := "orderByLevels", fn := fun _ => fun
  | [d] => { results := [.lit (.bool false)], args := [d] }
  | _ => none }
def OrderByLevelsWrongFalsely : Prop := orderByLevelsRow.holds Tryd.pinned (OpenSpec.ofChange orderByLevelsWrong)

/- THE SECOND FORM. 'bulk': how many values and letters a reading holds, each counted each time it is reached (what is shared counts as often as it is met; a slice's spare places count too). A statement '..UptoSaid' is the law's where the arguments, and the package variables that the reading takes, are together of bulk at most 1048576: NARROWER than '..Said'. Prove '..Said' where nothing that the law and all that it calls make is longer than what came in: it says more and counts as full. Else prove '..UptoSaid'. A law counts once. -/
mutual
def uptoBulk {H : Type} : DataW H → Nat
  | .lit (.string bytes) => bytes.length + 1
  | .lit _ => 1
  | .nil => 1
  | .ptr d => uptoBulk d + 1
  | .slice elems spare => uptoBulkAll elems + uptoBulkAll spare + 1
  | .agg parts => uptoBulkAll parts + 1
  | .iface _ d => uptoBulk d + 1
  | .map entries => uptoBulkEntries entries + 1
  | .held _ => 1
def uptoBulkAll {H : Type} : List (DataW H) → Nat
  | [] => 0
  | d :: r => uptoBulk d + uptoBulkAll r
def uptoBulkEntries {H : Type} : List (Lit × DataW H) → Nat
  | [] => 0
  | x :: r => uptoBulkEntry x + uptoBulkEntries r
def uptoBulkEntry {H : Type} : Lit × DataW H → Nat
  | (.string bytes, d) => bytes.length + uptoBulk d + 1
  | (_, d) => uptoBulk d + 1
 end
def uptoSmall : (H : Type) → List (DataW H) → Bool := fun _ ds => decide (uptoBulkAll ds ≤ 1048576)
def OpenSpec.upto (s : _root_.Go.ChangeSpec) : _root_.Go.OpenSpec := { _root_.Go.OpenSpec.ofChange s with cond := some uptoSmall }

/-- 'tegulalaw40.OrderBefore', WHERE WHAT IT READS IS OF BULK AT MOST 1048576: true; the input reads as it did. -/
def orderBeforeUptoRow : OpenClaim := { program := "ytkadpnfidbgmmaadoor", sum := "529753f592208c5e44a46d2abe1b7e00be435eeae9d7f1a4422cdf658b35a796", func := "tegula/tegulalaw40.OrderBefore", spec := "orderBefore", inPlace := ["internal/bytealg.IndexByteString", "internal/bytealg.IndexString"], unfollowed := true, recurses := true, named := ["unicode/utf8.first", "unicode/utf8.acceptRanges", "internal/bytealg.MaxLen"], apart := false, laid := [("unicode/utf8.acceptRanges", laid_unicode_utf8_acceptRanges), ("unicode/utf8.first", laid_unicode_utf8_first)], narrowed := true }
def OrderBeforeUptoSaid : Prop := orderBeforeUptoRow.holds Tryd.pinned (OpenSpec.upto orderBeforeSpec)

/-- 'tegulalaw40.OrderEligible', WHERE WHAT IT READS IS OF BULK AT MOST 1048576: true; the input reads as it did. -/
def orderEligibleUptoRow : OpenClaim := { program := "ytkadpnfidbgmmaadoor", sum := "529753f592208c5e44a46d2abe1b7e00be435eeae9d7f1a4422cdf658b35a796", func := "tegula/tegulalaw40.OrderEligible", spec := "orderEligible", inPlace := ["internal/bytealg.IndexByteString", "internal/bytealg.IndexString"], unfollowed := true, recurses := true, named := ["unicode/utf8.first", "unicode/utf8.acceptRanges", "internal/bytealg.MaxLen"], apart := false, laid := [("unicode/utf8.acceptRanges", laid_unicode_utf8_acceptRanges), ("unicode/utf8.first", laid_unicode_utf8_first)], narrowed := true }
def OrderEligibleUptoSaid : Prop := orderEligibleUptoRow.holds Tryd.pinned (OpenSpec.upto orderEligibleSpec)

/-- 'tegulalaw40.OrderRespects', WHERE WHAT IT READS IS OF BULK AT MOST 1048576: true; the input reads as it did. -/
def orderRespectsUptoRow : OpenClaim := { program := "ytkadpnfidbgmmaadoor", sum := "529753f592208c5e44a46d2abe1b7e00be435eeae9d7f1a4422cdf658b35a796", func := "tegula/tegulalaw40.OrderRespects", spec := "orderRespects", inPlace := ["internal/bytealg.IndexByteString", "internal/bytealg.IndexString"], unfollowed := true, recurses := true, named := ["unicode/utf8.first", "unicode/utf8.acceptRanges", "internal/bytealg.MaxLen"], apart := false, laid := [("unicode/utf8.acceptRanges", laid_unicode_utf8_acceptRanges), ("unicode/utf8.first", laid_unicode_utf8_first)], narrowed := true }
def OrderRespectsUptoSaid : Prop := orderRespectsUptoRow.holds Tryd.pinned (OpenSpec.upto orderRespectsSpec)

/-- 'tegulalaw40.OrderLevels', WHERE WHAT IT READS IS OF BULK AT MOST 1048576: true; the input reads as it did. -/
def orderLevelsUptoRow : OpenClaim := { program := "ytkadpnfidbgmmaadoor", sum := "529753f592208c5e44a46d2abe1b7e00be435eeae9d7f1a4422cdf658b35a796", func := "tegula/tegulalaw40.OrderLevels", spec := "orderLevels", inPlace := ["internal/bytealg.IndexByteString", "internal/bytealg.IndexString"], unfollowed := true, recurses := true, named := ["unicode/utf8.first", "unicode/utf8.acceptRanges", "internal/bytealg.MaxLen"], apart := false, laid := [("unicode/utf8.acceptRanges", laid_unicode_utf8_acceptRanges), ("unicode/utf8.first", laid_unicode_utf8_first)], narrowed := true }
def OrderLevelsUptoSaid : Prop := orderLevelsUptoRow.holds Tryd.pinned (OpenSpec.upto orderLevelsSpec)

/-- 'tegulalaw40.OrderRuns', WHERE WHAT IT READS IS OF BULK AT MOST 1048576: true; the input reads as it did. -/
def orderRunsUptoRow : OpenClaim := { program := "ytkadpnfidbgmmaadoor", sum := "529753f592208c5e44a46d2abe1b7e00be435eeae9d7f1a4422cdf658b35a796", func := "tegula/tegulalaw40.OrderRuns", spec := "orderRuns", inPlace := ["internal/bytealg.IndexByteString", "internal/bytealg.IndexString"], unfollowed := true, recurses := true, named := ["unicode/utf8.first", "unicode/utf8.acceptRanges", "internal/bytealg.MaxLen"], apart := false, laid := [("unicode/utf8.acceptRanges", laid_unicode_utf8_acceptRanges), ("unicode/utf8.first", laid_unicode_utf8_first)], narrowed := true }
def OrderRunsUptoSaid : Prop := orderRunsUptoRow.holds Tryd.pinned (OpenSpec.upto orderRunsSpec)

/-- 'tegulalaw40.OrderArises', WHERE WHAT IT READS IS OF BULK AT MOST 1048576: true; the input reads as it did. -/
def orderArisesUptoRow : OpenClaim := { program := "ytkadpnfidbgmmaadoor", sum := "529753f592208c5e44a46d2abe1b7e00be435eeae9d7f1a4422cdf658b35a796", func := "tegula/tegulalaw40.OrderArises", spec := "orderArises", inPlace := ["internal/bytealg.IndexByteString", "internal/bytealg.IndexString"], unfollowed := true, recurses := true, named := ["unicode/utf8.first", "unicode/utf8.acceptRanges", "internal/bytealg.MaxLen"], apart := false, laid := [("unicode/utf8.acceptRanges", laid_unicode_utf8_acceptRanges), ("unicode/utf8.first", laid_unicode_utf8_first)], narrowed := true }
def OrderArisesUptoSaid : Prop := orderArisesUptoRow.holds Tryd.pinned (OpenSpec.upto orderArisesSpec)

/-- 'tegulalaw40.OrderFences', WHERE WHAT IT READS IS OF BULK AT MOST 1048576: true; the input reads as it did. -/
def orderFencesUptoRow : OpenClaim := { program := "ytkadpnfidbgmmaadoor", sum := "529753f592208c5e44a46d2abe1b7e00be435eeae9d7f1a4422cdf658b35a796", func := "tegula/tegulalaw40.OrderFences", spec := "orderFences", inPlace := ["internal/bytealg.IndexByteString", "internal/bytealg.IndexString"], unfollowed := true, recurses := true, named := ["unicode/utf8.first", "unicode/utf8.acceptRanges", "internal/bytealg.MaxLen"], apart := false, laid := [("unicode/utf8.acceptRanges", laid_unicode_utf8_acceptRanges), ("unicode/utf8.first", laid_unicode_utf8_first)], narrowed := true }
def OrderFencesUptoSaid : Prop := orderFencesUptoRow.holds Tryd.pinned (OpenSpec.upto orderFencesSpec)

/-- 'tegulalaw40.OrderByLevels', WHERE WHAT IT READS IS OF BULK AT MOST 1048576: true; the input reads as it did. -/
def orderByLevelsUptoRow : OpenClaim := { program := "ytkadpnfidbgmmaadoor", sum := "529753f592208c5e44a46d2abe1b7e00be435eeae9d7f1a4422cdf658b35a796", func := "tegula/tegulalaw40.OrderByLevels", spec := "orderByLevels", inPlace := ["internal/bytealg.IndexByteString", "internal/bytealg.IndexString"], unfollowed := true, recurses := true, named := ["unicode/utf8.first", "unicode/utf8.acceptRanges", "internal/bytealg.MaxLen"], apart := false, laid := [("unicode/utf8.acceptRanges", laid_unicode_utf8_acceptRanges), ("unicode/utf8.first", laid_unicode_utf8_first)], narrowed := true }
def OrderByLevelsUptoSaid : Prop := orderByLevelsUptoRow.holds Tryd.pinned (OpenSpec.upto orderByLevelsSpec)

end Rows
end Go.Proofs.YtkadpnfidbgmmaaDoor
