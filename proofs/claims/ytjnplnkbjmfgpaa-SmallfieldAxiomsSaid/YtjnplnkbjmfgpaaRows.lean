/-
  No cell of these rows narrows 'for every input' (looked for: loops, veiled, ifaces, maps, wideKeys, modest, calm, conditions, laid).
  DERIVED. THE GIVEN ROWS OF THIS SEAT. 7 by the template 'for every input the law returns true; each argument reads behind the call as it read before'; 0 by the template 'total and deterministic' (their statements: YtjnplnkbjmfgpaaTotals.lean).
  GIVEN WITH THE SEED: the statements are not yours to turn. If you find one false, say at which input.
  Laid BY PROGRAM, IN A SANDBOX (cutbox-rows.mjs): the forced cells as the released guide's own fill.sh prints them over the translation e27830e415340beb… (all of the seat's roots in one cut). By AI agents, Wed Nov 11 2026. No macro, syntax, notation, axiom, sorry.
-/
import Derived.Test.YtjnplnkbjmfgpaaChecked
import GoSem.Claim
import GoSem.ClaimJoined
import GoSem.ClaimMapViews
import Derived.JoinedTies
import Derived.KernelRfl
namespace Go.Proofs.Ytjnplnkbjmfgpaa
/- THE CELL 'sum', in the pinned program and in every row, IS THE sha256 OF THE DUMP (.gsa) THAT YtjnplnkbjmfgpaaProg.lean LOADS. Nothing in Lean hashes anything: it is a label: what it is worth is what the hold of that sum in a sandbox is worth. -/
noncomputable def Try.pinned : Pinned := { name := "ytjnplnkbjmfgpaa", sum := "e27830e415340beb328d744a47ffc1bf30b14920546aa2ad2bae01d9d2f27d51", checked := Try.checked }
namespace Rows
def none {H : Type} : Left H := { results := [], args := [] }

/-- 'tegulalaw05.SmallfieldAxioms': WHATEVER THE INPUT: true; the input reads as it did. -/
def smallfieldAxiomsSpec : ChangeSpec := { name := "smallfieldAxioms", fn := fun _ => fun
  | [d1, d2] => { results := [.lit (.bool true)], args := [d1, d2] }
  | _ => none }
def smallfieldAxiomsRow : OpenClaim := { program := "ytjnplnkbjmfgpaa", sum := "e27830e415340beb328d744a47ffc1bf30b14920546aa2ad2bae01d9d2f27d51", func := "tegula/tegulalaw05.SmallfieldAxioms", spec := "smallfieldAxioms", unfollowed := true, recurses := true, apart := false }
def SmallfieldAxiomsSaid : Prop := smallfieldAxiomsRow.holds Try.pinned (OpenSpec.ofChange smallfieldAxiomsSpec)

/-- ITS FALSE NEIGHBOUR: 'it returns false'. Refute it at one input. -/
def smallfieldAxiomsWrong : ChangeSpec := { name := "smallfieldAxioms", fn := fun _ => fun
  | [d1, d2] => { results := [.lit (.bool false)], args := [d1, d2] }
  | _ => none }
def SmallfieldAxiomsWrongFalsely : Prop := smallfieldAxiomsRow.holds Try.pinned (OpenSpec.ofChange smallfieldAxiomsWrong)

/-- 'tegulalaw05.SmallfieldCyclic': WHATEVER THE INPUT: true; the input reads as it did. -/
def smallfieldCyclicSpec : ChangeSpec := { name := "smallfieldCyclic", fn := fun _ => fun
  | [d] => { results := [.lit (.bool true)], args := [d] }
  | _ => none }
def smallfieldCyclicRow : OpenClaim := { program := "ytjnplnkbjmfgpaa", sum := "e27830e415340beb328d744a47ffc1bf30b14920546aa2ad2bae01d9d2f27d51", func := "tegula/tegulalaw05.SmallfieldCyclic", spec := "smallfieldCyclic", unfollowed := true, recurses := true, apart := false }
def SmallfieldCyclicSaid : Prop := smallfieldCyclicRow.holds Try.pinned (OpenSpec.ofChange smallfieldCyclicSpec)

/-- ITS FALSE NEIGHBOUR: 'it returns false'. Refute it at one input. -/
def smallfieldCyclicWrong : ChangeSpec := { name := "smallfieldCyclic", fn := fun _ => fun
  | [d] => { results := [.lit (.bool false)], args := [d] }
  | _ => none }
def SmallfieldCyclicWrongFalsely : Prop := smallfieldCyclicRow.holds Try.pinned (OpenSpec.ofChange smallfieldCyclicWrong)

/-- 'tegulalaw05.SmallfieldTables': WHATEVER THE INPUT: true; the input reads as it did. -/
def smallfieldTablesSpec : ChangeSpec := { name := "smallfieldTables", fn := fun _ => fun
  | [d1, d2, d3] => { results := [.lit (.bool true)], args := [d1, d2, d3] }
  | _ => none }
def smallfieldTablesRow : OpenClaim := { program := "ytjnplnkbjmfgpaa", sum := "e27830e415340beb328d744a47ffc1bf30b14920546aa2ad2bae01d9d2f27d51", func := "tegula/tegulalaw05.SmallfieldTables", spec := "smallfieldTables", unfollowed := true, recurses := true, apart := false }
def SmallfieldTablesSaid : Prop := smallfieldTablesRow.holds Try.pinned (OpenSpec.ofChange smallfieldTablesSpec)

/-- ITS FALSE NEIGHBOUR: 'it returns false'. Refute it at one input. -/
def smallfieldTablesWrong : ChangeSpec := { name := "smallfieldTables", fn := fun _ => fun
  | [d1, d2, d3] => { results := [.lit (.bool false)], args := [d1, d2, d3] }
  | _ => none }
def SmallfieldTablesWrongFalsely : Prop := smallfieldTablesRow.holds Try.pinned (OpenSpec.ofChange smallfieldTablesWrong)

/-- 'tegulalaw05.SmallfieldInverses': WHATEVER THE INPUT: true; the input reads as it did. -/
def smallfieldInversesSpec : ChangeSpec := { name := "smallfieldInverses", fn := fun _ => fun
  | [d1, d2] => { results := [.lit (.bool true)], args := [d1, d2] }
  | _ => none }
def smallfieldInversesRow : OpenClaim := { program := "ytjnplnkbjmfgpaa", sum := "e27830e415340beb328d744a47ffc1bf30b14920546aa2ad2bae01d9d2f27d51", func := "tegula/tegulalaw05.SmallfieldInverses", spec := "smallfieldInverses", unfollowed := true, recurses := true, apart := false }
def SmallfieldInversesSaid : Prop := smallfieldInversesRow.holds Try.pinned (OpenSpec.ofChange smallfieldInversesSpec)

/-- ITS FALSE NEIGHBOUR: 'it returns false'. Refute it at one input. -/
def smallfieldInversesWrong : ChangeSpec := { name := "smallfieldInverses", fn := fun _ => fun
  | [d1, d2] => { results := [.lit (.bool false)], args := [d1, d2] }
  | _ => none }
def SmallfieldInversesWrongFalsely : Prop := smallfieldInversesRow.holds Try.pinned (OpenSpec.ofChange smallfieldInversesWrong)

/-- 'tegulalaw05.SmallfieldPrime': WHATEVER THE INPUT: true; the input reads as it did. -/
def smallfieldPrimeSpec : ChangeSpec := { name := "smallfieldPrime", fn := fun _ => fun
  | [d1, d2] => { results := [.lit (.bool true)], args := [d1, d2] }
  | _ => none }
def smallfieldPrimeRow : OpenClaim := { program := "ytjnplnkbjmfgpaa", sum := "e27830e415340beb328d744a47ffc1bf30b14920546aa2ad2bae01d9d2f27d51", func := "tegula/tegulalaw05.SmallfieldPrime", spec := "smallfieldPrime", unfollowed := true, recurses := true, apart := false }
def SmallfieldPrimeSaid : Prop := smallfieldPrimeRow.holds Try.pinned (OpenSpec.ofChange smallfieldPrimeSpec)

/-- ITS FALSE NEIGHBOUR: 'it returns false'. Refute it at one input. -/
def smallfieldPrimeWrong : ChangeSpec := { name := "smallfieldPrime", fn := fun _ => fun
  | [d1, d2] => { results := [.lit (.bool false)], args := [d1, d2] }
  | _ => none }
def SmallfieldPrimeWrongFalsely : Prop := smallfieldPrimeRow.holds Try.pinned (OpenSpec.ofChange smallfieldPrimeWrong)

/-- 'tegulalaw05.SmallfieldNil': WHATEVER THE INPUT: true; the input reads as it did. -/
def smallfieldNilSpec : ChangeSpec := { name := "smallfieldNil", fn := fun _ => fun
  | [d1, d2] => { results := [.lit (.bool true)], args := [d1, d2] }
  | _ => none }
def smallfieldNilRow : OpenClaim := { program := "ytjnplnkbjmfgpaa", sum := "e27830e415340beb328d744a47ffc1bf30b14920546aa2ad2bae01d9d2f27d51", func := "tegula/tegulalaw05.SmallfieldNil", spec := "smallfieldNil", unfollowed := true, recurses := true, apart := false }
def SmallfieldNilSaid : Prop := smallfieldNilRow.holds Try.pinned (OpenSpec.ofChange smallfieldNilSpec)

/-- ITS FALSE NEIGHBOUR: 'it returns false'. Refute it at one input. -/
def smallfieldNilWrong : ChangeSpec := { name := "smallfieldNil", fn := fun _ => fun
  | [d1, d2] => { results := [.lit (.bool false)], args := [d1, d2] }
  | _ => none }
def SmallfieldNilWrongFalsely : Prop := smallfieldNilRow.holds Try.pinned (OpenSpec.ofChange smallfieldNilWrong)

/-- 'tegulalaw05.SmallfieldSizes': WHATEVER THE INPUT: true; the input reads as it did. -/
def smallfieldSizesSpec : ChangeSpec := { name := "smallfieldSizes", fn := fun _ => fun
  | [d] => { results := [.lit (.bool true)], args := [d] }
  | _ => none }
def smallfieldSizesRow : OpenClaim := { program := "ytjnplnkbjmfgpaa", sum := "e27830e415340beb328d744a47ffc1bf30b14920546aa2ad2bae01d9d2f27d51", func := "tegula/tegulalaw05.SmallfieldSizes", spec := "smallfieldSizes", unfollowed := true, recurses := true, apart := false }
def SmallfieldSizesSaid : Prop := smallfieldSizesRow.holds Try.pinned (OpenSpec.ofChange smallfieldSizesSpec)

/-- ITS FALSE NEIGHBOUR: 'it returns false'. Refute it at one input. -/
def smallfieldSizesWrong : ChangeSpec := { name := "smallfieldSizes", fn := fun _ => fun
  | [d] => { results := [.lit (.bool false)], args := [d] }
  | _ => none }
def SmallfieldSizesWrongFalsely : Prop := smallfieldSizesRow.holds Try.pinned (OpenSpec.ofChange smallfieldSizesWrong)

/- THE SECOND FORM. 'bulk': how many values and letters a reading holds, each counted each time it is reached (what is shared counts as often as it is met; a slice's spare places count too). A statement '..UptoSaid' is the law's where the arguments, and the package variables that the reading takes, are together of bulk at most 1048576: NARROWER than '..Said'. Prove '..Said' where nothing that the law and all that it calls make is longer than what came in: it says more and counts as full. Else prove '..UptoSaid'. A law counts once. -/
mutual
def uptoBulk {H : Type} : DataW H → Nat
  | .lit (.string bytes) => bytes.length + 1
  | .lit _ => 1
  | .nil => 1
  | .ptr d => uptoBulk d + 1
  | .slice elems spare => uptoBulkAll elems + uptoBulkAll spare + 1
  | .agg parts => uptoBulkAll parts + 1
  | .iface _ d => uptoBulk d + 1
  | .map entries => uptoBulkEntries entries + 1
  | .held _ => 1
def uptoBulkAll {H : Type} : List (DataW H) → Nat
  | [] => 0
  | d :: r => uptoBulk d + uptoBulkAll r
def uptoBulkEntries {H : Type} : List (Lit × DataW H) → Nat
  | [] => 0
  | x :: r => uptoBulkEntry x + uptoBulkEntries r
def uptoBulkEntry {H : Type} : Lit × DataW H → Nat
  | (.string bytes, d) => bytes.length + uptoBulk d + 1
  | (_, d) => uptoBulk d + 1
 end
def uptoSmall : (H : Type) → List (DataW H) → Bool := fun _ ds => decide (uptoBulkAll ds ≤ 1048576)
def OpenSpec.upto (s : _root_.Go.ChangeSpec) : _root_.Go.OpenSpec := { _root_.Go.OpenSpec.ofChange s with cond := some uptoSmall }

/-- 'tegulalaw05.SmallfieldAxioms', WHERE WHAT IT READS IS OF BULK AT MOST 1048576: true; the input reads as it did. -/
def smallfieldAxiomsUptoRow : OpenClaim := { program := "ytjnplnkbjmfgpaa", sum := "e27830e415340beb328d744a47ffc1bf30b14920546aa2ad2bae01d9d2f27d51", func := "tegula/tegulalaw05.SmallfieldAxioms", spec := "smallfieldAxioms", unfollowed := true, recurses := true, apart := false, narrowed := true }
def SmallfieldAxiomsUptoSaid : Prop := smallfieldAxiomsUptoRow.holds Try.pinned (OpenSpec.upto smallfieldAxiomsSpec)

/-- 'tegulalaw05.SmallfieldCyclic', WHERE WHAT IT READS IS OF BULK AT MOST 1048576: true; the input reads as it did. -/
def smallfieldCyclicUptoRow : OpenClaim := { program := "ytjnplnkbjmfgpaa", sum := "e27830e415340beb328d744a47ffc1bf30b14920546aa2ad2bae01d9d2f27d51", func := "tegula/tegulalaw05.SmallfieldCyclic", spec := "smallfieldCyclic", unfollowed := true, recurses := true, apart := false, narrowed := true }
def SmallfieldCyclicUptoSaid : Prop := smallfieldCyclicUptoRow.holds Try.pinned (OpenSpec.upto smallfieldCyclicSpec)

/-- 'tegulalaw05.SmallfieldTables', WHERE WHAT IT READS IS OF BULK AT MOST 1048576: true; the input reads as it did. -/
def smallfieldTablesUptoRow : OpenClaim := { program := "ytjnplnkbjmfgpaa", sum := "e27830e415340beb328d744a47ffc1bf30b14920546aa2ad2bae01d9d2f27d51", func := "tegula/tegulalaw05.SmallfieldTables", spec := "smallfieldTables", unfollowed := true, recurses := true, apart := false, narrowed := true }
def SmallfieldTablesUptoSaid : Prop := smallfieldTablesUptoRow.holds Try.pinned (OpenSpec.upto smallfieldTablesSpec)

/-- 'tegulalaw05.SmallfieldInverses', WHERE WHAT IT READS IS OF BULK AT MOST 1048576: true; the input reads as it did. -/
def smallfieldInversesUptoRow : OpenClaim := { program := "ytjnplnkbjmfgpaa", sum := "e27830e415340beb328d744a47ffc1bf30b14920546aa2ad2bae01d9d2f27d51", func := "tegula/tegulalaw05.SmallfieldInverses", spec := "smallfieldInverses", unfollowed := true, recurses := true, apart := false, narrowed := true }
def SmallfieldInversesUptoSaid : Prop := smallfieldInversesUptoRow.holds Try.pinned (OpenSpec.upto smallfieldInversesSpec)

/-- 'tegulalaw05.SmallfieldPrime', WHERE WHAT IT READS IS OF BULK AT MOST 1048576: true; the input reads as it did. -/
def smallfieldPrimeUptoRow : OpenClaim := { program := "ytjnplnkbjmfgpaa", sum := "e27830e415340beb328d744a47ffc1bf30b14920546aa2ad2bae01d9d2f27d51", func := "tegula/tegulalaw05.SmallfieldPrime", spec := "smallfieldPrime", unfollowed := true, recurses := true, apart := false, narrowed := true }
def SmallfieldPrimeUptoSaid : Prop := smallfieldPrimeUptoRow.holds Try.pinned (OpenSpec.upto smallfieldPrimeSpec)

/-- 'tegulalaw05.SmallfieldNil', WHERE WHAT IT READS IS OF BULK AT MOST 1048576: true; the input reads as it did. -/
def smallfieldNilUptoRow : OpenClaim := { program := "ytjnplnkbjmfgpaa", sum := "e27830e415340beb328d744a47ffc1bf30b14920546aa2ad2bae01d9d2f27d51", func := "tegula/tegulalaw05.SmallfieldNil", spec := "smallfieldNil", unfollowed := true, recurses := true, apart := false, narrowed := true }
def SmallfieldNilUptoSaid : Prop := smallfieldNilUptoRow.holds Try.pinned (OpenSpec.upto smallfieldNilSpec)

/-- 'tegulalaw05.SmallfieldSizes', WHERE WHAT IT READS IS OF BULK AT MOST 1048576: true; the input reads as it did. -/
def smallfieldSizesUptoRow : OpenClaim := { program := "ytjnplnkbjmfgpaa", sum := "e27830e415340beb328d744a47ffc1bf30b14920546aa2ad2bae01d9d2f27d51", func := "tegula/tegulalaw05.SmallfieldSizes", spec := "smallfieldSizes", unfollowed := true, recurses := true, apart := false, narrowed := true }
def SmallfieldSizesUptoSaid : Prop := smallfieldSizesUptoRow.holds Try.pinned (OpenSpec.upto smallfieldSizesSpec)

end Rows
end Go.Proofs.Ytjnplnkbjmfgpaa
