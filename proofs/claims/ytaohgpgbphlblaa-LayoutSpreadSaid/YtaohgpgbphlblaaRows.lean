/-
  No cell of these rows narrows 'for every input' (looked for: loops, veiled, ifaces, maps, wideKeys, modest, calm, conditions, laid).
  DERIVED. THE GIVEN ROWS OF THIS SEAT. 10 by the template 'for every input the law returns true; each argument reads behind the call as it read before'; 0 by the template 'total and deterministic' (their statements: YtaohgpgbphlblaaTotals.lean).
  GIVEN WITH THE SEED: the statements are not yours to turn. If you find one false, say at which input.
  Laid BY PROGRAM, IN A SANDBOX (cutbox-rows.mjs): the forced cells as the released guide's own fill.sh prints them over the translation a3f0ee68de606ad1… (all of the seat's roots in one cut). By AI agents, Wed Nov 11 2026. No macro, syntax, notation, axiom, sorry.
-/
import Derived.Test.YtaohgpgbphlblaaChecked
import GoSem.Claim
import GoSem.ClaimJoined
import GoSem.ClaimMapViews
import Derived.JoinedTies
import Derived.KernelRfl
namespace Go.Proofs.Ytaohgpgbphlblaa
/- THE CELL 'sum', in the pinned program and in every row, IS THE sha256 OF THE DUMP (.gsa) THAT YtaohgpgbphlblaaProg.lean LOADS. Nothing in Lean hashes anything: it is a label: what it is worth is what the hold of that sum in a sandbox is worth. -/
noncomputable def Try.pinned : Pinned := { name := "ytaohgpgbphlblaa", sum := "a3f0ee68de606ad1e834f4b320095d7f509b59a09905044e50e55220b9c47069", checked := Try.checked }
namespace Rows
def none {H : Type} : Left H := { results := [], args := [] }

/-- 'tegulalaw21.LayoutHome': WHATEVER THE INPUT: true; the input reads as it did. -/
def layoutHomeSpec : ChangeSpec := { name := "layoutHome", fn := fun _ => fun
  | [d1, d2, d3] => { results := [.lit (.bool true)], args := [d1, d2, d3] }
  | _ => none }
def layoutHomeRow : OpenClaim := { program := "ytaohgpgbphlblaa", sum := "a3f0ee68de606ad1e834f4b320095d7f509b59a09905044e50e55220b9c47069", func := "tegula/tegulalaw21.LayoutHome", spec := "layoutHome", apart := false }
def LayoutHomeSaid : Prop := layoutHomeRow.holds Try.pinned (OpenSpec.ofChange layoutHomeSpec)

/-- ITS FALSE NEIGHBOUR: 'it returns false'. Refute it at one input. -/
def layoutHomeWrong : ChangeSpec := { name := "layoutHome", fn := fun _ => fun
  | [d1, d2, d3] => { results := [.lit (.bool false)], args := [d1, d2, d3] }
  | _ => none }
def LayoutHomeWrongFalsely : Prop := layoutHomeRow.holds Try.pinned (OpenSpec.ofChange layoutHomeWrong)

/-- 'tegulalaw21.LayoutAt': WHATEVER THE INPUT: true; the input reads as it did. -/
def layoutAtSpec : ChangeSpec := { name := "layoutAt", fn := fun _ => fun
  | [d1, d2] => { results := [.lit (.bool true)], args := [d1, d2] }
  | _ => none }
def layoutAtRow : OpenClaim := { program := "ytaohgpgbphlblaa", sum := "a3f0ee68de606ad1e834f4b320095d7f509b59a09905044e50e55220b9c47069", func := "tegula/tegulalaw21.LayoutAt", spec := "layoutAt", apart := false }
def LayoutAtSaid : Prop := layoutAtRow.holds Try.pinned (OpenSpec.ofChange layoutAtSpec)

/-- ITS FALSE NEIGHBOUR: 'it returns false'. Refute it at one input. -/
def layoutAtWrong : ChangeSpec := { name := "layoutAt", fn := fun _ => fun
  | [d1, d2] => { results := [.lit (.bool false)], args := [d1, d2] }
  | _ => none }
def LayoutAtWrongFalsely : Prop := layoutAtRow.holds Try.pinned (OpenSpec.ofChange layoutAtWrong)

/-- 'tegulalaw21.LayoutApart': WHATEVER THE INPUT: true; the input reads as it did. -/
def layoutApartSpec : ChangeSpec := { name := "layoutApart", fn := fun _ => fun
  | [d1, d2] => { results := [.lit (.bool true)], args := [d1, d2] }
  | _ => none }
def layoutApartRow : OpenClaim := { program := "ytaohgpgbphlblaa", sum := "a3f0ee68de606ad1e834f4b320095d7f509b59a09905044e50e55220b9c47069", func := "tegula/tegulalaw21.LayoutApart", spec := "layoutApart", apart := false }
def LayoutApartSaid : Prop := layoutApartRow.holds Try.pinned (OpenSpec.ofChange layoutApartSpec)

/-- ITS FALSE NEIGHBOUR: 'it returns false'. Refute it at one input. -/
def layoutApartWrong : ChangeSpec := { name := "layoutApart", fn := fun _ => fun
  | [d1, d2] => { results := [.lit (.bool false)], args := [d1, d2] }
  | _ => none }
def LayoutApartWrongFalsely : Prop := layoutApartRow.holds Try.pinned (OpenSpec.ofChange layoutApartWrong)

/-- 'tegulalaw21.LayoutFull': WHATEVER THE INPUT: true; the input reads as it did. -/
def layoutFullSpec : ChangeSpec := { name := "layoutFull", fn := fun _ => fun
  | [d] => { results := [.lit (.bool true)], args := [d] }
  | _ => none }
def layoutFullRow : OpenClaim := { program := "ytaohgpgbphlblaa", sum := "a3f0ee68de606ad1e834f4b320095d7f509b59a09905044e50e55220b9c47069", func := "tegula/tegulalaw21.LayoutFull", spec := "layoutFull", apart := false }
def LayoutFullSaid : Prop := layoutFullRow.holds Try.pinned (OpenSpec.ofChange layoutFullSpec)

/-- ITS FALSE NEIGHBOUR: 'it returns false'. Refute it at one input. -/
def layoutFullWrong : ChangeSpec := { name := "layoutFull", fn := fun _ => fun
  | [d] => { results := [.lit (.bool false)], args := [d] }
  | _ => none }
def LayoutFullWrongFalsely : Prop := layoutFullRow.holds Try.pinned (OpenSpec.ofChange layoutFullWrong)

/-- 'tegulalaw21.LayoutValid': WHATEVER THE INPUT: true; the input reads as it did. -/
def layoutValidSpec : ChangeSpec := { name := "layoutValid", fn := fun _ => fun
  | [d] => { results := [.lit (.bool true)], args := [d] }
  | _ => none }
def layoutValidRow : OpenClaim := { program := "ytaohgpgbphlblaa", sum := "a3f0ee68de606ad1e834f4b320095d7f509b59a09905044e50e55220b9c47069", func := "tegula/tegulalaw21.LayoutValid", spec := "layoutValid", apart := false }
def LayoutValidSaid : Prop := layoutValidRow.holds Try.pinned (OpenSpec.ofChange layoutValidSpec)

/-- ITS FALSE NEIGHBOUR: 'it returns false'. Refute it at one input. -/
def layoutValidWrong : ChangeSpec := { name := "layoutValid", fn := fun _ => fun
  | [d] => { results := [.lit (.bool false)], args := [d] }
  | _ => none }
def LayoutValidWrongFalsely : Prop := layoutValidRow.holds Try.pinned (OpenSpec.ofChange layoutValidWrong)

/-- 'tegulalaw21.LayoutOnDisk': WHATEVER THE INPUT: true; the input reads as it did. -/
def layoutOnDiskSpec : ChangeSpec := { name := "layoutOnDisk", fn := fun _ => fun
  | [d1, d2] => { results := [.lit (.bool true)], args := [d1, d2] }
  | _ => none }
def layoutOnDiskRow : OpenClaim := { program := "ytaohgpgbphlblaa", sum := "a3f0ee68de606ad1e834f4b320095d7f509b59a09905044e50e55220b9c47069", func := "tegula/tegulalaw21.LayoutOnDisk", spec := "layoutOnDisk", apart := false }
def LayoutOnDiskSaid : Prop := layoutOnDiskRow.holds Try.pinned (OpenSpec.ofChange layoutOnDiskSpec)

/-- ITS FALSE NEIGHBOUR: 'it returns false'. Refute it at one input. -/
def layoutOnDiskWrong : ChangeSpec := { name := "layoutOnDisk", fn := fun _ => fun
  | [d1, d2] => { results := [.lit (.bool false)], args := [d1, d2] }
  | _ => none }
def LayoutOnDiskWrongFalsely : Prop := layoutOnDiskRow.holds Try.pinned (OpenSpec.ofChange layoutOnDiskWrong)

/-- 'tegulalaw21.LayoutBalance': WHATEVER THE INPUT: true; the input reads as it did. -/
def layoutBalanceSpec : ChangeSpec := { name := "layoutBalance", fn := fun _ => fun
  | [d1, d2, d3] => { results := [.lit (.bool true)], args := [d1, d2, d3] }
  | _ => none }
def layoutBalanceRow : OpenClaim := { program := "ytaohgpgbphlblaa", sum := "a3f0ee68de606ad1e834f4b320095d7f509b59a09905044e50e55220b9c47069", func := "tegula/tegulalaw21.LayoutBalance", spec := "layoutBalance", apart := false }
def LayoutBalanceSaid : Prop := layoutBalanceRow.holds Try.pinned (OpenSpec.ofChange layoutBalanceSpec)

/-- ITS FALSE NEIGHBOUR: 'it returns false'. Refute it at one input. -/
def layoutBalanceWrong : ChangeSpec := { name := "layoutBalance", fn := fun _ => fun
  | [d1, d2, d3] => { results := [.lit (.bool false)], args := [d1, d2, d3] }
  | _ => none }
def LayoutBalanceWrongFalsely : Prop := layoutBalanceRow.holds Try.pinned (OpenSpec.ofChange layoutBalanceWrong)

/-- 'tegulalaw21.LayoutSpread': WHATEVER THE INPUT: true; the input reads as it did. -/
def layoutSpreadSpec : ChangeSpec := { name := "layoutSpread", fn := fun _ => fun
  | [d1, d2, d3] => { results := [.lit (.bool true)], args := [d1, d2, d3] }
  | _ => none }
def layoutSpreadRow : OpenClaim := { program := "ytaohgpgbphlblaa", sum := "a3f0ee68de606ad1e834f4b320095d7f509b59a09905044e50e55220b9c47069", func := "tegula/tegulalaw21.LayoutSpread", spec := "layoutSpread", apart := false }
def LayoutSpreadSaid : Prop := layoutSpreadRow.holds Try.pinned (OpenSpec.ofChange layoutSpreadSpec)

/-- ITS FALSE NEIGHBOUR: 'it returns false'. Refute it at one input. -/
def layoutSpreadWrong : ChangeSpec := { name := "layoutSpread", fn := fun _ => fun
  | [d1, d2, d3] => { results := [.lit (.bool false)], args := [d1, d2, d3] }
  | _ => none }
def LayoutSpreadWrongFalsely : Prop := layoutSpreadRow.holds Try.pinned (OpenSpec.ofChange layoutSpreadWrong)

/-- 'tegulalaw21.LayoutSlots': WHATEVER THE INPUT: true; the input reads as it did. -/
def layoutSlotsSpec : ChangeSpec := { name := "layoutSlots", fn := fun _ => fun
  | [d1, d2] => { results := [.lit (.bool true)], args := [d1, d2] }
  | _ => none }
def layoutSlotsRow : OpenClaim := { program := "ytaohgpgbphlblaa", sum := "a3f0ee68de606ad1e834f4b320095d7f509b59a09905044e50e55220b9c47069", func := "tegula/tegulalaw21.LayoutSlots", spec := "layoutSlots", apart := false }
def LayoutSlotsSaid : Prop := layoutSlotsRow.holds Try.pinned (OpenSpec.ofChange layoutSlotsSpec)

/-- ITS FALSE NEIGHBOUR: 'it returns false'. Refute it at one input. -/
def layoutSlotsWrong : ChangeSpec := { name := "layoutSlots", fn := fun _ => fun
  | [d1, d2] => { results := [.lit (.bool false)], args := [d1, d2] }
  | _ => none }
def LayoutSlotsWrongFalsely : Prop := layoutSlotsRow.holds Try.pinned (OpenSpec.ofChange layoutSlotsWrong)

/-- 'tegulalaw21.LayoutErrors': WHATEVER THE INPUT: true; the input reads as it did. -/
def layoutErrorsSpec : ChangeSpec := { name := "layoutErrors", fn := fun _ => fun
  | [d1, d2] => { results := [.lit (.bool true)], args := [d1, d2] }
  | _ => none }
def layoutErrorsRow : OpenClaim := { program := "ytaohgpgbphlblaa", sum := "a3f0ee68de606ad1e834f4b320095d7f509b59a09905044e50e55220b9c47069", func := "tegula/tegulalaw21.LayoutErrors", spec := "layoutErrors", apart := false }
def LayoutErrorsSaid : Prop := layoutErrorsRow.holds Try.pinned (OpenSpec.ofChange layoutErrorsSpec)

/-- ITS FALSE NEIGHBOUR: 'it returns false'. Refute it at one input. -/
def layoutErrorsWrong : ChangeSpec := { name := "layoutErrors", fn := fun _ => fun
  | [d1, d2] => { results := [.lit (.bool false)], args := [d1, d2] }
  | _ => none }
def LayoutErrorsWrongFalsely : Prop := layoutErrorsRow.holds Try.pinned (OpenSpec.ofChange layoutErrorsWrong)

/- THE SECOND FORM. 'bulk': how many values and letters a reading holds, each counted each time it is reached (what is shared counts as often as it is met; a slice's spare places count too). A statement '..UptoSaid' is the law's where the arguments, and the package variables that the reading takes, are together of bulk at most 1048576: NARROWER than '..Said'. Prove '..Said' where nothing that the law and all that it calls make is longer than what came in: it says more and counts as full. Else prove '..UptoSaid'. A law counts once. -/
mutual
def uptoBulk {H : Type} : DataW H → Nat
  | .lit (.string bytes) => bytes.length + 1
  | .lit _ => 1
  | .nil => 1
  | .ptr d => uptoBulk d + 1
  | .slice elems spare => uptoBulkAll elems + uptoBulkAll spare + 1
  | .agg parts => uptoBulkAll parts + 1
  | .iface _ d => uptoBulk d + 1
  | .map entries => uptoBulkEntries entries + 1
  | .held _ => 1
def uptoBulkAll {H : Type} : List (DataW H) → Nat
  | [] => 0
  | d :: r => uptoBulk d + uptoBulkAll r
def uptoBulkEntries {H : Type} : List (Lit × DataW H) → Nat
  | [] => 0
  | x :: r => uptoBulkEntry x + uptoBulkEntries r
def uptoBulkEntry {H : Type} : Lit × DataW H → Nat
  | (.string bytes, d) => bytes.length + uptoBulk d + 1
  | (_, d) => uptoBulk d + 1
 end
def uptoSmall : (H : Type) → List (DataW H) → Bool := fun _ ds => decide (uptoBulkAll ds ≤ 1048576)
def OpenSpec.upto (s : _root_.Go.ChangeSpec) : _root_.Go.OpenSpec := { _root_.Go.OpenSpec.ofChange s with cond := some uptoSmall }

/-- 'tegulalaw21.LayoutHome', WHERE WHAT IT READS IS OF BULK AT MOST 1048576: true; the input reads as it did. -/
def layoutHomeUptoRow : OpenClaim := { program := "ytaohgpgbphlblaa", sum := "a3f0ee68de606ad1e834f4b320095d7f509b59a09905044e50e55220b9c47069", func := "tegula/tegulalaw21.LayoutHome", spec := "layoutHome", apart := false, narrowed := true }
def LayoutHomeUptoSaid : Prop := layoutHomeUptoRow.holds Try.pinned (OpenSpec.upto layoutHomeSpec)

/-- 'tegulalaw21.LayoutAt', WHERE WHAT IT READS IS OF BULK AT MOST 1048576: true; the input reads as it did. -/
def layoutAtUptoRow : OpenClaim := { program := "ytaohgpgbphlblaa", sum := "a3f0ee68de606ad1e834f4b320095d7f509b59a09905044e50e55220b9c47069", func := "tegula/tegulalaw21.LayoutAt", spec := "layoutAt", apart := false, narrowed := true }
def LayoutAtUptoSaid : Prop := layoutAtUptoRow.holds Try.pinned (OpenSpec.upto layoutAtSpec)

/-- 'tegulalaw21.LayoutApart', WHERE WHAT IT READS IS OF BULK AT MOST 1048576: true; the input reads as it did. -/
def layoutApartUptoRow : OpenClaim := { program := "ytaohgpgbphlblaa", sum := "a3f0ee68de606ad1e834f4b320095d7f509b59a09905044e50e55220b9c47069", func := "tegula/tegulalaw21.LayoutApart", spec := "layoutApart", apart := false, narrowed := true }
def LayoutApartUptoSaid : Prop := layoutApartUptoRow.holds Try.pinned (OpenSpec.upto layoutApartSpec)

/-- 'tegulalaw21.LayoutFull', WHERE WHAT IT READS IS OF BULK AT MOST 1048576: true; the input reads as it did. -/
def layoutFullUptoRow : OpenClaim := { program := "ytaohgpgbphlblaa", sum := "a3f0ee68de606ad1e834f4b320095d7f509b59a09905044e50e55220b9c47069", func := "tegula/tegulalaw21.LayoutFull", spec := "layoutFull", apart := false, narrowed := true }
def LayoutFullUptoSaid : Prop := layoutFullUptoRow.holds Try.pinned (OpenSpec.upto layoutFullSpec)

/-- 'tegulalaw21.LayoutValid', WHERE WHAT IT READS IS OF BULK AT MOST 1048576: true; the input reads as it did. -/
def layoutValidUptoRow : OpenClaim := { program := "ytaohgpgbphlblaa", sum := "a3f0ee68de606ad1e834f4b320095d7f509b59a09905044e50e55220b9c47069", func := "tegula/tegulalaw21.LayoutValid", spec := "layoutValid", apart := false, narrowed := true }
def LayoutValidUptoSaid : Prop := layoutValidUptoRow.holds Try.pinned (OpenSpec.upto layoutValidSpec)

/-- 'tegulalaw21.LayoutOnDisk', WHERE WHAT IT READS IS OF BULK AT MOST 1048576: true; the input reads as it did. -/
def layoutOnDiskUptoRow : OpenClaim := { program := "ytaohgpgbphlblaa", sum := "a3f0ee68de606ad1e834f4b320095d7f509b59a09905044e50e55220b9c47069", func := "tegula/tegulalaw21.LayoutOnDisk", spec := "layoutOnDisk", apart := false, narrowed := true }
def LayoutOnDiskUptoSaid : Prop := layoutOnDiskUptoRow.holds Try.pinned (OpenSpec.upto layoutOnDiskSpec)

/-- 'tegulalaw21.LayoutBalance', WHERE WHAT IT READS IS OF BULK AT MOST 1048576: true; the input reads as it did. -/
def layoutBalanceUptoRow : OpenClaim := { program := "ytaohgpgbphlblaa", sum := "a3f0ee68de606ad1e834f4b320095d7f509b59a09905044e50e55220b9c47069", func := "tegula/tegulalaw21.LayoutBalance", spec := "layoutBalance", apart := false, narrowed := true }
def LayoutBalanceUptoSaid : Prop := layoutBalanceUptoRow.holds Try.pinned (OpenSpec.upto layoutBalanceSpec)

/-- 'tegulalaw21.LayoutSpread', WHERE WHAT IT READS IS OF BULK AT MOST 1048576: true; the input reads as it did. -/
def layoutSpreadUptoRow : OpenClaim := { program := "ytaohgpgbphlblaa", sum := "a3f0ee68de606ad1e834f4b320095d7f509b59a09905044e50e55220b9c47069", func := "tegula/tegulalaw21.LayoutSpread", spec := "layoutSpread", apart := false, narrowed := true }
def LayoutSpreadUptoSaid : Prop := layoutSpreadUptoRow.holds Try.pinned (OpenSpec.upto layoutSpreadSpec)

/-- 'tegulalaw21.LayoutSlots', WHERE WHAT IT READS IS OF BULK AT MOST 1048576: true; the input reads as it did. -/
def layoutSlotsUptoRow : OpenClaim := { program := "ytaohgpgbphlblaa", sum := "a3f0ee68de606ad1e834f4b320095d7f509b59a09905044e50e55220b9c47069", func := "tegula/tegulalaw21.LayoutSlots", spec := "layoutSlots", apart := false, narrowed := true }
def LayoutSlotsUptoSaid : Prop := layoutSlotsUptoRow.holds Try.pinned (OpenSpec.upto layoutSlotsSpec)

/-- 'tegulalaw21.LayoutErrors', WHERE WHAT IT READS IS OF BULK AT MOST 1048576: true; the input reads as it did. -/
def layoutErrorsUptoRow : OpenClaim := { program := "ytaohgpgbphlblaa", sum := "a3f0ee68de606ad1e834f4b320095d7f509b59a09905044e50e55220b9c47069", func := "tegula/tegulalaw21.LayoutErrors", spec := "layoutErrors", apart := false, narrowed := true }
def LayoutErrorsUptoSaid : Prop := layoutErrorsUptoRow.holds Try.pinned (OpenSpec.upto layoutErrorsSpec)

end Rows
end Go.Proofs.Ytaohgpgbphlblaa
