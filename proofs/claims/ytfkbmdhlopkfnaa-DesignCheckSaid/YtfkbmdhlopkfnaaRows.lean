/-
  No cell of these rows narrows 'for every input' (looked for: loops, veiled, ifaces, maps, wideKeys, modest, calm, conditions, laid).
  DERIVED. THE GIVEN ROWS OF THIS SEAT. 7 by the template 'for every input the law returns true; each argument reads behind the call as it read before'; 0 by the template 'total and deterministic' (their statements: YtfkbmdhlopkfnaaTotals.lean).
  GIVEN WITH THE SEED: the statements are not yours to turn. If you find one false, say at which input.
  Laid BY PROGRAM, IN A SANDBOX (cutbox-rows.mjs): the forced cells as the released guide's own fill.sh prints them over the translation 40114c1589115a89… (all of the seat's roots in one cut). By AI agents, Wed Nov 11 2026. No macro, syntax, notation, axiom, sorry.
-/
import Derived.Test.YtfkbmdhlopkfnaaChecked
import GoSem.Claim
import GoSem.ClaimJoined
import GoSem.ClaimMapViews
import Derived.JoinedTies
import Derived.KernelRfl
namespace Go.Proofs.Ytfkbmdhlopkfnaa
/- THE CELL 'sum', in the pinned program and in every row, IS THE sha256 OF THE DUMP (.gsa) THAT YtfkbmdhlopkfnaaProg.lean LOADS. Nothing in Lean hashes anything: it is a label: what it is worth is what the hold of that sum in a sandbox is worth. -/
noncomputable def Try.pinned : Pinned := { name := "ytfkbmdhlopkfnaa", sum := "40114c1589115a89b09a11570afabb00ecef21bdb691f9894c9acf1a4ed33eda", checked := Try.checked }
namespace Rows
def none {H : Type} : Left H := { results := [], args := [] }

/-- 'tegulalaw07.DesignComplete': WHATEVER THE INPUT: true; the input reads as it did. -/
def designCompleteSpec : ChangeSpec := { name := "designComplete", fn := fun _ => fun
  | [d1, d2] => { results := [.lit (.bool true)], args := [d1, d2] }
  | _ => none }
def designCompleteRow : OpenClaim := { program := "ytfkbmdhlopkfnaa", sum := "40114c1589115a89b09a11570afabb00ecef21bdb691f9894c9acf1a4ed33eda", func := "tegula/tegulalaw07.DesignComplete", spec := "designComplete", unfollowed := true, recurses := true, plainKeys := false, apart := false }
def DesignCompleteSaid : Prop := designCompleteRow.holds Try.pinned (OpenSpec.ofChange designCompleteSpec)

/-- ITS FALSE NEIGHBOUR: 'it returns false'. Refute it at one input. -/
def designCompleteWrong : ChangeSpec := { name := "designComplete", fn := fun _ => fun
  | [d1, d2] => { results := [.lit (.bool false)], args := [d1, d2] }
  | _ => none }
def DesignCompleteWrongFalsely : Prop := designCompleteRow.holds Try.pinned (OpenSpec.ofChange designCompleteWrong)

/-- 'tegulalaw07.DesignCheck': WHATEVER THE INPUT: true; the input reads as it did. -/
def designCheckSpec : ChangeSpec := { name := "designCheck", fn := fun _ => fun
  | [d] => { results := [.lit (.bool true)], args := [d] }
  | _ => none }
def designCheckRow : OpenClaim := { program := "ytfkbmdhlopkfnaa", sum := "40114c1589115a89b09a11570afabb00ecef21bdb691f9894c9acf1a4ed33eda", func := "tegula/tegulalaw07.DesignCheck", spec := "designCheck", unfollowed := true, recurses := true, plainKeys := false, apart := false }
def DesignCheckSaid : Prop := designCheckRow.holds Try.pinned (OpenSpec.ofChange designCheckSpec)

/-- ITS FALSE NEIGHBOUR: 'it returns false'. Refute it at one input. -/
def designCheckWrong : ChangeSpec := { name := "designCheck", fn := fun _ => fun
  | [d] => { results := [.lit (.bool false)], args := [d] }
  | _ => none }
def DesignCheckWrongFalsely : Prop := designCheckRow.holds Try.pinned (OpenSpec.ofChange designCheckWrong)

/-- 'tegulalaw07.DesignChoose': WHATEVER THE INPUT: true; the input reads as it did. -/
def designChooseSpec : ChangeSpec := { name := "designChoose", fn := fun _ => fun
  | [d1, d2] => { results := [.lit (.bool true)], args := [d1, d2] }
  | _ => none }
def designChooseRow : OpenClaim := { program := "ytfkbmdhlopkfnaa", sum := "40114c1589115a89b09a11570afabb00ecef21bdb691f9894c9acf1a4ed33eda", func := "tegula/tegulalaw07.DesignChoose", spec := "designChoose", unfollowed := true, recurses := true, plainKeys := false, apart := false }
def DesignChooseSaid : Prop := designChooseRow.holds Try.pinned (OpenSpec.ofChange designChooseSpec)

/-- ITS FALSE NEIGHBOUR: 'it returns false'. Refute it at one input. -/
def designChooseWrong : ChangeSpec := { name := "designChoose", fn := fun _ => fun
  | [d1, d2] => { results := [.lit (.bool false)], args := [d1, d2] }
  | _ => none }
def DesignChooseWrongFalsely : Prop := designChooseRow.holds Try.pinned (OpenSpec.ofChange designChooseWrong)

/-- 'tegulalaw07.DesignBalanced': WHATEVER THE INPUT: true; the input reads as it did. -/
def designBalancedSpec : ChangeSpec := { name := "designBalanced", fn := fun _ => fun
  | [d1, d2] => { results := [.lit (.bool true)], args := [d1, d2] }
  | _ => none }
def designBalancedRow : OpenClaim := { program := "ytfkbmdhlopkfnaa", sum := "40114c1589115a89b09a11570afabb00ecef21bdb691f9894c9acf1a4ed33eda", func := "tegula/tegulalaw07.DesignBalanced", spec := "designBalanced", unfollowed := true, recurses := true, plainKeys := false, apart := false }
def DesignBalancedSaid : Prop := designBalancedRow.holds Try.pinned (OpenSpec.ofChange designBalancedSpec)

/-- ITS FALSE NEIGHBOUR: 'it returns false'. Refute it at one input. -/
def designBalancedWrong : ChangeSpec := { name := "designBalanced", fn := fun _ => fun
  | [d1, d2] => { results := [.lit (.bool false)], args := [d1, d2] }
  | _ => none }
def DesignBalancedWrongFalsely : Prop := designBalancedRow.holds Try.pinned (OpenSpec.ofChange designBalancedWrong)

/-- 'tegulalaw07.DesignShared': WHATEVER THE INPUT: true; the input reads as it did. -/
def designSharedSpec : ChangeSpec := { name := "designShared", fn := fun _ => fun
  | [d1, d2, d3] => { results := [.lit (.bool true)], args := [d1, d2, d3] }
  | _ => none }
def designSharedRow : OpenClaim := { program := "ytfkbmdhlopkfnaa", sum := "40114c1589115a89b09a11570afabb00ecef21bdb691f9894c9acf1a4ed33eda", func := "tegula/tegulalaw07.DesignShared", spec := "designShared", unfollowed := true, recurses := true, plainKeys := false, apart := false }
def DesignSharedSaid : Prop := designSharedRow.holds Try.pinned (OpenSpec.ofChange designSharedSpec)

/-- ITS FALSE NEIGHBOUR: 'it returns false'. Refute it at one input. -/
def designSharedWrong : ChangeSpec := { name := "designShared", fn := fun _ => fun
  | [d1, d2, d3] => { results := [.lit (.bool false)], args := [d1, d2, d3] }
  | _ => none }
def DesignSharedWrongFalsely : Prop := designSharedRow.holds Try.pinned (OpenSpec.ofChange designSharedWrong)

/-- 'tegulalaw07.DesignPairs': WHATEVER THE INPUT: true; the input reads as it did. -/
def designPairsSpec : ChangeSpec := { name := "designPairs", fn := fun _ => fun
  | [d] => { results := [.lit (.bool true)], args := [d] }
  | _ => none }
def designPairsRow : OpenClaim := { program := "ytfkbmdhlopkfnaa", sum := "40114c1589115a89b09a11570afabb00ecef21bdb691f9894c9acf1a4ed33eda", func := "tegula/tegulalaw07.DesignPairs", spec := "designPairs", unfollowed := true, recurses := true, plainKeys := false, apart := false }
def DesignPairsSaid : Prop := designPairsRow.holds Try.pinned (OpenSpec.ofChange designPairsSpec)

/-- ITS FALSE NEIGHBOUR: 'it returns false'. Refute it at one input. -/
def designPairsWrong : ChangeSpec := { name := "designPairs", fn := fun _ => fun
  | [d] => { results := [.lit (.bool false)], args := [d] }
  | _ => none }
def DesignPairsWrongFalsely : Prop := designPairsRow.holds Try.pinned (OpenSpec.ofChange designPairsWrong)

/-- 'tegulalaw07.DesignTwice': WHATEVER THE INPUT: true; the input reads as it did. -/
def designTwiceSpec : ChangeSpec := { name := "designTwice", fn := fun _ => fun
  | [d1, d2] => { results := [.lit (.bool true)], args := [d1, d2] }
  | _ => none }
def designTwiceRow : OpenClaim := { program := "ytfkbmdhlopkfnaa", sum := "40114c1589115a89b09a11570afabb00ecef21bdb691f9894c9acf1a4ed33eda", func := "tegula/tegulalaw07.DesignTwice", spec := "designTwice", unfollowed := true, recurses := true, plainKeys := false, apart := false }
def DesignTwiceSaid : Prop := designTwiceRow.holds Try.pinned (OpenSpec.ofChange designTwiceSpec)

/-- ITS FALSE NEIGHBOUR: 'it returns false'. Refute it at one input. -/
def designTwiceWrong : ChangeSpec := { name := "designTwice", fn := fun _ => fun
  | [d1, d2] => { results := [.lit (.bool false)], args := [d1, d2] }
  | _ => none }
def DesignTwiceWrongFalsely : Prop := designTwiceRow.holds Try.pinned (OpenSpec.ofChange designTwiceWrong)

/- THE SECOND FORM. 'bulk': how many values and letters a reading holds, each counted each time it is reached (what is shared counts as often as it is met; a slice's spare places count too). A statement '..UptoSaid' is the law's where the arguments, and the package variables that the reading takes, are together of bulk at most 1048576: NARROWER than '..Said'. Prove '..Said' where nothing that the law and all that it calls make is longer than what came in: it says more and counts as full. Else prove '..UptoSaid'. A law counts once. -/
mutual
def uptoBulk {H : Type} : DataW H → Nat
  | .lit (.string bytes) => bytes.length + 1
  | .lit _ => 1
  | .nil => 1
  | .ptr d => uptoBulk d + 1
  | .slice elems spare => uptoBulkAll elems + uptoBulkAll spare + 1
  | .agg parts => uptoBulkAll parts + 1
  | .iface _ d => uptoBulk d + 1
  | .map entries => uptoBulkEntries entries + 1
  | .held _ => 1
def uptoBulkAll {H : Type} : List (DataW H) → Nat
  | [] => 0
  | d :: r => uptoBulk d + uptoBulkAll r
def uptoBulkEntries {H : Type} : List (Lit × DataW H) → Nat
  | [] => 0
  | x :: r => uptoBulkEntry x + uptoBulkEntries r
def uptoBulkEntry {H : Type} : Lit × DataW H → Nat
  | (.string bytes, d) => bytes.length + uptoBulk d + 1
  | (_, d) => uptoBulk d + 1
 end
def uptoSmall : (H : Type) → List (DataW H) → Bool := fun _ ds => decide (uptoBulkAll ds ≤ 1048576)
def OpenSpec.upto (s : _root_.Go.ChangeSpec) : _root_.Go.OpenSpec := { _root_.Go.OpenSpec.ofChange s with cond := some uptoSmall }

/-- 'tegulalaw07.DesignComplete', WHERE WHAT IT READS IS OF BULK AT MOST 1048576: true; the input reads as it did. -/
def designCompleteUptoRow : OpenClaim := { program := "ytfkbmdhlopkfnaa", sum := "40114c1589115a89b09a11570afabb00ecef21bdb691f9894c9acf1a4ed33eda", func := "tegula/tegulalaw07.DesignComplete", spec := "designComplete", unfollowed := true, recurses := true, plainKeys := false, apart := false, narrowed := true }
def DesignCompleteUptoSaid : Prop := designCompleteUptoRow.holds Try.pinned (OpenSpec.upto designCompleteSpec)

/-- 'tegulalaw07.DesignCheck', WHERE WHAT IT READS IS OF BULK AT MOST 1048576: true; the input reads as it did. -/
def designCheckUptoRow : OpenClaim := { program := "ytfkbmdhlopkfnaa", sum := "40114c1589115a89b09a11570afabb00ecef21bdb691f9894c9acf1a4ed33eda", func := "tegula/tegulalaw07.DesignCheck", spec := "designCheck", unfollowed := true, recurses := true, plainKeys := false, apart := false, narrowed := true }
def DesignCheckUptoSaid : Prop := designCheckUptoRow.holds Try.pinned (OpenSpec.upto designCheckSpec)

/-- 'tegulalaw07.DesignChoose', WHERE WHAT IT READS IS OF BULK AT MOST 1048576: true; the input reads as it did. -/
def designChooseUptoRow : OpenClaim := { program := "ytfkbmdhlopkfnaa", sum := "40114c1589115a89b09a11570afabb00ecef21bdb691f9894c9acf1a4ed33eda", func := "tegula/tegulalaw07.DesignChoose", spec := "designChoose", unfollowed := true, recurses := true, plainKeys := false, apart := false, narrowed := true }
def DesignChooseUptoSaid : Prop := designChooseUptoRow.holds Try.pinned (OpenSpec.upto designChooseSpec)

/-- 'tegulalaw07.DesignBalanced', WHERE WHAT IT READS IS OF BULK AT MOST 1048576: true; the input reads as it did. -/
def designBalancedUptoRow : OpenClaim := { program := "ytfkbmdhlopkfnaa", sum := "40114c1589115a89b09a11570afabb00ecef21bdb691f9894c9acf1a4ed33eda", func := "tegula/tegulalaw07.DesignBalanced", spec := "designBalanced", unfollowed := true, recurses := true, plainKeys := false, apart := false, narrowed := true }
def DesignBalancedUptoSaid : Prop := designBalancedUptoRow.holds Try.pinned (OpenSpec.upto designBalancedSpec)

/-- 'tegulalaw07.DesignShared', WHERE WHAT IT READS IS OF BULK AT MOST 1048576: true; the input reads as it did. -/
def designSharedUptoRow : OpenClaim := { program := "ytfkbmdhlopkfnaa", sum := "40114c1589115a89b09a11570afabb00ecef21bdb691f9894c9acf1a4ed33eda", func := "tegula/tegulalaw07.DesignShared", spec := "designShared", unfollowed := true, recurses := true, plainKeys := false, apart := false, narrowed := true }
def DesignSharedUptoSaid : Prop := designSharedUptoRow.holds Try.pinned (OpenSpec.upto designSharedSpec)

/-- 'tegulalaw07.DesignPairs', WHERE WHAT IT READS IS OF BULK AT MOST 1048576: true; the input reads as it did. -/
def designPairsUptoRow : OpenClaim := { program := "ytfkbmdhlopkfnaa", sum := "40114c1589115a89b09a11570afabb00ecef21bdb691f9894c9acf1a4ed33eda", func := "tegula/tegulalaw07.DesignPairs", spec := "designPairs", unfollowed := true, recurses := true, plainKeys := false, apart := false, narrowed := true }
def DesignPairsUptoSaid : Prop := designPairsUptoRow.holds Try.pinned (OpenSpec.upto designPairsSpec)

/-- 'tegulalaw07.DesignTwice', WHERE WHAT IT READS IS OF BULK AT MOST 1048576: true; the input reads as it did. -/
def designTwiceUptoRow : OpenClaim := { program := "ytfkbmdhlopkfnaa", sum := "40114c1589115a89b09a11570afabb00ecef21bdb691f9894c9acf1a4ed33eda", func := "tegula/tegulalaw07.DesignTwice", spec := "designTwice", unfollowed := true, recurses := true, plainKeys := false, apart := false, narrowed := true }
def DesignTwiceUptoSaid : Prop := designTwiceUptoRow.holds Try.pinned (OpenSpec.upto designTwiceSpec)

end Rows
end Go.Proofs.Ytfkbmdhlopkfnaa
