/-
  NARROWER THAN 'FOR EVERY INPUT', by the rows' own cells (each row's printed sentence says how): QueueOrder: laid · QueueLimit: laid · QueueCancel: laid · QueueCopy: laid · QueueCalls: laid · QueueLive: laid · QueueNil: laid.
  DERIVED. THE GIVEN ROWS OF THIS SEAT. 7 by the template 'for every input the law returns true; each argument reads behind the call as it read before'; 0 by the template 'total and deterministic' (their statements: YtjhomcflchfamaaDoorTotals.lean).
  GIVEN WITH THE SEED: the statements are not yours to turn. If you find one false, say at which input.
  Laid BY PROGRAM, IN A SANDBOX (cutbox-rows.mjs): the forced cells as the released guide's own fill.sh prints them over the translation 57b601e042184233… (all of the seat's roots in one cut). By AI agents, Wed Nov 11 2026. No macro, syntax, notation, axiom, sorry.
-/
import Derived.Test.YtjhomcflchfamaaDoorChecked
import GoSem.PinnedTables
import GoSem.Claim
import GoSem.ClaimJoined
import GoSem.ClaimMapViews
import Derived.JoinedTies
import Derived.KernelRfl
namespace Go.Proofs.YtjhomcflchfamaaDoor
/- THE CELL 'sum', in the pinned program and in every row, IS THE sha256 OF THE DUMP (.gsa) THAT YtjhomcflchfamaaDoorProg.lean LOADS. Nothing in Lean hashes anything: it is a label: what it is worth is what the hold of that sum in a sandbox is worth. -/
noncomputable def Tryd.pinned : Pinned := { name := "ytjhomcflchfamaadoor", sum := "57b601e0421842339e57757891302e8a2ea8a48a8c6b89de02cc1c56ffed722a", checked := Tryd.checked }
namespace Rows
def none {H : Type} : Left H := { results := [], args := [] }

/- WHAT THE LISTED PACKAGE-LEVEL VARIABLES READ AS WHEN THE CALL BEGINS. Each datum BY PROGRAM (the guide's laid-datum.mjs) off the statement by which the dump's own 'gosem.cut.vars' lays the variable. In a bare row this is a premise. The card (YtjhomcflchfamaaDoorCards.lean) ties it to the program's text. -/
def laid_unicode_utf8_acceptRanges {H : Type} : DataW H := .agg [.agg [.lit (.int .u8 128), .lit (.int .u8 191)], .agg [.lit (.int .u8 160), .lit (.int .u8 191)], .agg [.lit (.int .u8 128), .lit (.int .u8 159)], .agg [.lit (.int .u8 144), .lit (.int .u8 191)], .agg [.lit (.int .u8 128), .lit (.int .u8 143)], .agg [.lit (.int .u8 0), .lit (.int .u8 0)], .agg [.lit (.int .u8 0), .lit (.int .u8 0)], .agg [.lit (.int .u8 0), .lit (.int .u8 0)], .agg [.lit (.int .u8 0), .lit (.int .u8 0)], .agg [.lit (.int .u8 0), .lit (.int .u8 0)], .agg [.lit (.int .u8 0), .lit (.int .u8 0)], .agg [.lit (.int .u8 0), .lit (.int .u8 0)], .agg [.lit (.int .u8 0), .lit (.int .u8 0)], .agg [.lit (.int .u8 0), .lit (.int .u8 0)], .agg [.lit (.int .u8 0), .lit (.int .u8 0)], .agg [.lit (.int .u8 0), .lit (.int .u8 0)]]
/-- One of Go's own tables, pinned by name: the form's constant. -/
def laid_unicode_utf8_first : DataW Unit := Go.Pinned.utf8First

/-- 'tegulalaw41.QueueOrder': WHATEVER THE INPUT: true; the input reads as it did. -/
def queueOrderSpec : ChangeSpec := { name := "queueOrder", fn := fun _ => fun
  | [d1, d2] => { results := [.lit (.bool true)], args := [d1, d2] }
  | _ => none }
def queueOrderRow : OpenClaim := { program := "ytjhomcflchfamaadoor", sum := "57b601e0421842339e57757891302e8a2ea8a48a8c6b89de02cc1c56ffed722a", func := "tegula/tegulalaw41.QueueOrder", spec := "queueOrder", inPlace := ["internal/bytealg.IndexByteString", "internal/bytealg.IndexString"], unfollowed := true, recurses := true, named := ["unicode/utf8.first", "unicode/utf8.acceptRanges", "internal/bytealg.MaxLen"], apart := false, laid := [("unicode/utf8.acceptRanges", laid_unicode_utf8_acceptRanges), ("unicode/utf8.first", laid_unicode_utf8_first)] }
def QueueOrderSaid : Prop := queueOrderRow.holds Tryd.pinned (OpenSpec.ofChange queueOrderSpec)

/-- ITS FALSE NEIGHBOUR: 'it returns false'. Refute it at one input. -/
def queueOrderWrong : ChangeSpec := { name := "queueOrder", fn := fun _ => fun
  | [d1, d2] => { results := [.lit (.bool false)], args := [d1, d2] }
  | _ => none }
def QueueOrderWrongFalsely : Prop := queueOrderRow.holds Tryd.pinned (OpenSpec.ofChange queueOrderWrong)

/-- 'tegulalaw41.QueueLimit': WHATEVER THE INPUT: true; the input reads as it did. -/
def queueLimitSpec : ChangeSpec := { name := "queueLimit", fn := fun _ => fun
  | [d1, d2] => { results := [.lit (.bool true)], args := [d1, d2] }
  | _ => none }
def queueLimitRow : OpenClaim := { program := "ytjhomcflchfamaadoor", sum := "57b601e0421842339e57757891302e8a2ea8a48a8c6b89de02cc1c56ffed722a", func := "tegula/tegulalaw41.QueueLimit", spec := "queueLimit", inPlace := ["internal/bytealg.IndexByteString", "internal/bytealg.IndexString"], unfollowed := true, recurses := true, named := ["unicode/utf8.first", "unicode/utf8.acceptRanges", "internal/bytealg.MaxLen"], apart := false, laid := [("unicode/utf8.acceptRanges", laid_unicode_utf8_acceptRanges), ("unicode/utf8.first", laid_unicode_utf8_first)] }
def QueueLimitSaid : Prop := queueLimitRow.holds Tryd.pinned (OpenSpec.ofChange queueLimitSpec)

/-- ITS FALSE NEIGHBOUR: 'it returns false'. Refute it at one input. -/
def queueLimitWrong : ChangeSpec := { name := "queueLimit", fn := fun _ => fun
  | [d1, d2] => { results := [.lit (.bool false)], args := [d1, d2] }
  | _ => none }
def QueueLimitWrongFalsely : Prop := queueLimitRow.holds Tryd.pinned (OpenSpec.ofChange queueLimitWrong)

/-- 'tegulalaw41.QueueCancel': WHATEVER THE INPUT: true; the input reads as it did. -/
def queueCancelSpec : ChangeSpec := { name := "queueCancel", fn := fun _ => fun
  | [d1, d2] => { results := [.lit (.bool true)], args := [d1, d2] }
  | _ => none }
def queueCancelRow : OpenClaim := { program := "ytjhomcflchfamaadoor", sum := "57b601e0421842339e57757891302e8a2ea8a48a8c6b89de02cc1c56ffed722a", func := "tegula/tegulalaw41.QueueCancel", spec := "queueCancel", inPlace := ["internal/bytealg.IndexByteString", "internal/bytealg.IndexString"], unfollowed := true, recurses := true, named := ["unicode/utf8.first", "unicode/utf8.acceptRanges", "internal/bytealg.MaxLen"], apart := false, laid := [("unicode/utf8.acceptRanges", laid_unicode_utf8_acceptRanges), ("unicode/utf8.first", laid_unicode_utf8_first)] }
def QueueCancelSaid : Prop := queueCancelRow.holds Tryd.pinned (OpenSpec.ofChange queueCancelSpec)

/-- ITS FALSE NEIGHBOUR: 'it returns false'. Refute it at one input. -/
def queueCancelWrong : ChangeSpec := { name := "queueCancel", fn := fun _ => fun
  | [d1, d2] => { results := [.lit (.bool false)], args := [d1, d2] }
  | _ => none }
def QueueCancelWrongFalsely : Prop := queueCancelRow.holds Tryd.pinned (OpenSpec.ofChange queueCancelWrong)

/-- 'tegulalaw41.QueueCopy': WHATEVER THE INPUT: true; the input reads as it did. -/
def queueCopySpec : ChangeSpec := { name := "queueCopy", fn := fun _ => fun
  | [d] => { results := [.lit (.bool true)], args := [d] }
  | _ => none }
def queueCopyRow : OpenClaim := { program := "ytjhomcflchfamaadoor", sum := "57b601e0421842339e57757891302e8a2ea8a48a8c6b89de02cc1c56ffed722a", func := "tegula/tegulalaw41.QueueCopy", spec := "queueCopy", inPlace := ["internal/bytealg.IndexByteString", "internal/bytealg.IndexString"], unfollowed := true, recurses := true, named := ["unicode/utf8.first", "unicode/utf8.acceptRanges", "internal/bytealg.MaxLen"], apart := false, laid := [("unicode/utf8.acceptRanges", laid_unicode_utf8_acceptRanges), ("unicode/utf8.first", laid_unicode_utf8_first)] }
def QueueCopySaid : Prop := queueCopyRow.holds Tryd.pinned (OpenSpec.ofChange queueCopySpec)

/-- ITS FALSE NEIGHBOUR: 'it returns false'. Refute it at one input. -/
def queueCopyWrong : ChangeSpec := { name := "queueCopy", fn := fun _ => fun
  | [d] => { results := [.lit (.bool false)], args := [d] }
  | _ => none }
def QueueCopyWrongFalsely : Prop := queueCopyRow.holds Tryd.pinned (OpenSpec.ofChange queueCopyWrong)

/-- 'tegulalaw41.QueueCalls': WHATEVER THE INPUT: true; the input reads as it did. -/
def queueCallsSpec : ChangeSpec := { name := "queueCalls", fn := fun _ => fun
  | [d] => { results := [.lit (.bool true)], args := [d] }
  | _ => none }
def queueCallsRow : OpenClaim := { program := "ytjhomcflchfamaadoor", sum := "57b601e0421842339e57757891302e8a2ea8a48a8c6b89de02cc1c56ffed722a", func := "tegula/tegulalaw41.QueueCalls", spec := "queueCalls", inPlace := ["internal/bytealg.IndexByteString", "internal/bytealg.IndexString"], unfollowed := true, recurses := true, named := ["unicode/utf8.first", "unicode/utf8.acceptRanges", "internal/bytealg.MaxLen"], apart := false, laid := [("unicode/utf8.acceptRanges", laid_unicode_utf8_acceptRanges), ("unicode/utf8.first", laid_unicode_utf8_first)] }
def QueueCallsSaid : Prop := queueCallsRow.holds Tryd.pinned (OpenSpec.ofChange queueCallsSpec)

/-- ITS FALSE NEIGHBOUR: 'it returns false'. Refute it at one input. -/
def queueCallsWrong : ChangeSpec := { name := "queueCalls", fn := fun _ => fun
  | [d] => { results := [.lit (.bool false)], args := [d] }
  | _ => none }
def QueueCallsWrongFalsely : Prop := queueCallsRow.holds Tryd.pinned (OpenSpec.ofChange queueCallsWrong)

/-- 'tegulalaw41.QueueLive': WHATEVER THE INPUT: true; the input reads as it did. -/
def queueLiveSpec : ChangeSpec := { name := "queueLive", fn := fun _ => fun
  | [d] => { results := [.lit (.bool true)], args := [d] }
  | _ => none }
def queueLiveRow : OpenClaim := { program := "ytjhomcflchfamaadoor", sum := "57b601e0421842339e57757891302e8a2ea8a48a8c6b89de02cc1c56ffed722a", func := "tegula/tegulalaw41.QueueLive", spec := "queueLive", inPlace := ["internal/bytealg.IndexByteString", "internal/bytealg.IndexString"], unfollowed := true, recurses := true, named := ["unicode/utf8.first", "unicode/utf8.acceptRanges", "internal/bytealg.MaxLen"], apart := false, laid := [("unicode/utf8.acceptRanges", laid_unicode_utf8_acceptRanges), ("unicode/utf8.first", laid_unicode_utf8_first)] }
def QueueLiveSaid : Prop := queueLiveRow.holds Tryd.pinned (OpenSpec.ofChange queueLiveSpec)

/-- ITS FALSE NEIGHBOUR: 'it returns false'. Refute it at one input. -/
def queueLiveWrong : ChangeSpec := { name := "queueLive", fn := fun _ => fun
  | [d] => { results := [.lit (.bool false)], args := [d] }
  | _ => none }
def QueueLiveWrongFalsely : Prop := queueLiveRow.holds Tryd.pinned (OpenSpec.ofChange queueLiveWrong)

/-- 'tegulalaw41.QueueNil': WHATEVER THE INPUT: true; the input reads as it did. -/
def queueNilSpec : ChangeSpec := { name := "queueNil", fn := fun _ => fun
  | [d] => { results := [.lit (.bool true)], args := [d] }
  | _ => none }
def queueNilRow : OpenClaim := { program := "ytjhomcflchfamaadoor", sum := "57b601e0421842339e57757891302e8a2ea8a48a8c6b89de02cc1c56ffed722a", func := "tegula/tegulalaw41.QueueNil", spec := "queueNil", inPlace := ["internal/bytealg.IndexByteString", "internal/bytealg.IndexString"], unfollowed := true, recurses := true, named := ["unicode/utf8.first", "unicode/utf8.acceptRanges", "internal/bytealg.MaxLen"], apart := false, laid := [("unicode/utf8.acceptRanges", laid_unicode_utf8_acceptRanges), ("unicode/utf8.first", laid_unicode_utf8_first)] }
def QueueNilSaid : Prop := queueNilRow.holds Tryd.pinned (OpenSpec.ofChange queueNilSpec)

/-- ITS FALSE NEIGHBOUR: 'it returns false'. Refute it at one input. -/
def queueNilWrong : ChangeSpec := { name := "queueNil", fn := fun _ => fun
  | [d] => { results := [.lit (.bool false)], args := [d] }
  | _ => none }
def QueueNilWrongFalsely : Prop := queueNilRow.holds Tryd.pinned (OpenSpec.ofChange queueNilWrong)

/- THE SECOND FORM. 'bulk': how many values and letters a reading holds, each counted each time it is reached (what is shared counts as often as it is met; a slice's spare places count too). A statement '..UptoSaid' is the law's where the arguments, and the package variables that the reading takes, are together of bulk at most 1048576: NARROWER than '..Said'. Prove '..Said' where nothing that the law and all that it calls make is longer than what came in: it says more and counts as full. Else prove '..UptoSaid'. A law counts once. -/
mutual
def uptoBulk {H : Type} : DataW H → Nat
  | .lit (.string bytes) => bytes.length + 1
  | .lit _ => 1
  | .nil => 1
  | .ptr d => uptoBulk d + 1
  | .slice elems spare => uptoBulkAll elems + uptoBulkAll spare + 1
  | .agg parts => uptoBulkAll parts + 1
  | .iface _ d => uptoBulk d + 1
  | .map entries => uptoBulkEntries entries + 1
  | .held _ => 1
def uptoBulkAll {H : Type} : List (DataW H) → Nat
  | [] => 0
  | d :: r => uptoBulk d + uptoBulkAll r
def uptoBulkEntries {H : Type} : List (Lit × DataW H) → Nat
  | [] => 0
  | x :: r => uptoBulkEntry x + uptoBulkEntries r
def uptoBulkEntry {H : Type} : Lit × DataW H → Nat
  | (.string bytes, d) => bytes.length + uptoBulk d + 1
  | (_, d) => uptoBulk d + 1
 end
def uptoSmall : (H : Type) → List (DataW H) → Bool := fun _ ds => decide (uptoBulkAll ds ≤ 1048576)
def OpenSpec.upto (s : _root_.Go.ChangeSpec) : _root_.Go.OpenSpec := { _root_.Go.OpenSpec.ofChange s with cond := some uptoSmall }

/-- 'tegulalaw41.QueueOrder', WHERE WHAT IT READS IS OF BULK AT MOST 1048576: true; the input reads as it did. -/
def queueOrderUptoRow : OpenClaim := { program := "ytjhomcflchfamaadoor", sum := "57b601e0421842339e57757891302e8a2ea8a48a8c6b89de02cc1c56ffed722a", func := "tegula/tegulalaw41.QueueOrder", spec := "queueOrder", inPlace := ["internal/bytealg.IndexByteString", "internal/bytealg.IndexString"], unfollowed := true, recurses := true, named := ["unicode/utf8.first", "unicode/utf8.acceptRanges", "internal/bytealg.MaxLen"], apart := false, laid := [("unicode/utf8.acceptRanges", laid_unicode_utf8_acceptRanges), ("unicode/utf8.first", laid_unicode_utf8_first)], narrowed := true }
def QueueOrderUptoSaid : Prop := queueOrderUptoRow.holds Tryd.pinned (OpenSpec.upto queueOrderSpec)

/-- 'tegulalaw41.QueueLimit', WHERE WHAT IT READS IS OF BULK AT MOST 1048576: true; the input reads as it did. -/
def queueLimitUptoRow : OpenClaim := { program := "ytjhomcflchfamaadoor", sum := "57b601e0421842339e57757891302e8a2ea8a48a8c6b89de02cc1c56ffed722a", func := "tegula/tegulalaw41.QueueLimit", spec := "queueLimit", inPlace := ["internal/bytealg.IndexByteString", "internal/bytealg.IndexString"], unfollowed := true, recurses := true, named := ["unicode/utf8.first", "unicode/utf8.acceptRanges", "internal/bytealg.MaxLen"], apart := false, laid := [("unicode/utf8.acceptRanges", laid_unicode_utf8_acceptRanges), ("unicode/utf8.first", laid_unicode_utf8_first)], narrowed := true }
def QueueLimitUptoSaid : Prop := queueLimitUptoRow.holds Tryd.pinned (OpenSpec.upto queueLimitSpec)

/-- 'tegulalaw41.QueueCancel', WHERE WHAT IT READS IS OF BULK AT MOST 1048576: true; the input reads as it did. -/
def queueCancelUptoRow : OpenClaim := { program := "ytjhomcflchfamaadoor", sum := "57b601e0421842339e57757891302e8a2ea8a48a8c6b89de02cc1c56ffed722a", func := "tegula/tegulalaw41.QueueCancel", spec := "queueCancel", inPlace := ["internal/bytealg.IndexByteString", "internal/bytealg.IndexString"], unfollowed := true, recurses := true, named := ["unicode/utf8.first", "unicode/utf8.acceptRanges", "internal/bytealg.MaxLen"], apart := false, laid := [("unicode/utf8.acceptRanges", laid_unicode_utf8_acceptRanges), ("unicode/utf8.first", laid_unicode_utf8_first)], narrowed := true }
def QueueCancelUptoSaid : Prop := queueCancelUptoRow.holds Tryd.pinned (OpenSpec.upto queueCancelSpec)

/-- 'tegulalaw41.QueueCopy', WHERE WHAT IT READS IS OF BULK AT MOST 1048576: true; the input reads as it did. -/
def queueCopyUptoRow : OpenClaim := { program := "ytjhomcflchfamaadoor", sum := "57b601e0421842339e57757891302e8a2ea8a48a8c6b89de02cc1c56ffed722a", func := "tegula/tegulalaw41.QueueCopy", spec := "queueCopy", inPlace := ["internal/bytealg.IndexByteString", "internal/bytealg.IndexString"], unfollowed := true, recurses := true, named := ["unicode/utf8.first", "unicode/utf8.acceptRanges", "internal/bytealg.MaxLen"], apart := false, laid := [("unicode/utf8.acceptRanges", laid_unicode_utf8_acceptRanges), ("unicode/utf8.first", laid_unicode_utf8_first)], narrowed := true }
def QueueCopyUptoSaid : Prop := queueCopyUptoRow.holds Tryd.pinned (OpenSpec.upto queueCopySpec)

/-- 'tegulalaw41.QueueCalls', WHERE WHAT IT READS IS OF BULK AT MOST 1048576: true; the input reads as it did. -/
def queueCallsUptoRow : OpenClaim := { program := "ytjhomcflchfamaadoor", sum := "57b601e0421842339e57757891302e8a2ea8a48a8c6b89de02cc1c56ffed722a", func := "tegula/tegulalaw41.QueueCalls", spec := "queueCalls", inPlace := ["internal/bytealg.IndexByteString", "internal/bytealg.IndexString"], unfollowed := true, recurses := true, named := ["unicode/utf8.first", "unicode/utf8.acceptRanges", "internal/bytealg.MaxLen"], apart := false, laid := [("unicode/utf8.acceptRanges", laid_unicode_utf8_acceptRanges), ("unicode/utf8.first", laid_unicode_utf8_first)], narrowed := true }
def QueueCallsUptoSaid : Prop := queueCallsUptoRow.holds Tryd.pinned (OpenSpec.upto queueCallsSpec)

/-- 'tegulalaw41.QueueLive', WHERE WHAT IT READS IS OF BULK AT MOST 1048576: true; the input reads as it did. -/
def queueLiveUptoRow : OpenClaim := { program := "ytjhomcflchfamaadoor", sum := "57b601e0421842339e57757891302e8a2ea8a48a8c6b89de02cc1c56ffed722a", func := "tegula/tegulalaw41.QueueLive", spec := "queueLive", inPlace := ["internal/bytealg.IndexByteString", "internal/bytealg.IndexString"], unfollowed := true, recurses := true, named := ["unicode/utf8.first", "unicode/utf8.acceptRanges", "internal/bytealg.MaxLen"], apart := false, laid := [("unicode/utf8.acceptRanges", laid_unicode_utf8_acceptRanges), ("unicode/utf8.first", laid_unicode_utf8_first)], narrowed := true }
def QueueLiveUptoSaid : Prop := queueLiveUptoRow.holds Tryd.pinned (OpenSpec.upto queueLiveSpec)

/-- 'tegulalaw41.QueueNil', WHERE WHAT IT READS IS OF BULK AT MOST 1048576: true; the input reads as it did. -/
def queueNilUptoRow : OpenClaim := { program := "ytjhomcflchfamaadoor", sum := "57b601e0421842339e57757891302e8a2ea8a48a8c6b89de02cc1c56ffed722a", func := "tegula/tegulalaw41.QueueNil", spec := "queueNil", inPlace := ["internal/bytealg.IndexByteString", "internal/bytealg.IndexString"], unfollowed := true, recurses := true, named := ["unicode/utf8.first", "unicode/utf8.acceptRanges", "internal/bytealg.MaxLen"], apart := false, laid := [("unicode/utf8.acceptRanges", laid_unicode_utf8_acceptRanges), ("unicode/utf8.first", laid_unicode_utf8_first)], narrowed := true }
def QueueNilUptoSaid : Prop := queueNilUptoRow.holds Tryd.pinned (OpenSpec.upto queueNilSpec)

end Rows
end Go.Proofs.YtjhomcflchfamaaDoor
