/-
  No cell of these rows narrows 'for every input' (looked for: loops, veiled, ifaces, maps, wideKeys, modest, calm, conditions, laid).
  DERIVED. THE GIVEN ROWS OF THIS SEAT. 8 by the template 'for every input the law returns true; each argument reads behind the call as it read before'; 0 by the template 'total and deterministic' (their statements: YtilnoajeofjckaaTotals.lean).
  GIVEN WITH THE SEED: the statements are not yours to turn. If you find one false, say at which input.
  Laid BY PROGRAM, IN A SANDBOX (cutbox-rows.mjs): the forced cells as the released guide's own fill.sh prints them over the translation 41b566476df2fc1d… (all of the seat's roots in one cut). By AI agents, Wed Nov 11 2026. No macro, syntax, notation, axiom, sorry.
-/
import Derived.Test.YtilnoajeofjckaaChecked
import GoSem.Claim
import GoSem.ClaimJoined
import GoSem.ClaimMapViews
import Derived.JoinedTies
import Derived.KernelRfl
namespace Go.Proofs.Ytilnoajeofjckaa
/- THE CELL 'sum', in the pinned program and in every row, IS THE sha256 OF THE DUMP (.gsa) THAT YtilnoajeofjckaaProg.lean LOADS. Nothing in Lean hashes anything: it is a label: what it is worth is what the hold of that sum in a sandbox is worth. -/
noncomputable def Try.pinned : Pinned := { name := "ytilnoajeofjckaa", sum := "41b566476df2fc1d3c6a9d34ab85d67144b9492627eeee5ff1acfab86ea28575", checked := Try.checked }
namespace Rows
def none {H : Type} : Left H := { results := [], args := [] }

/-- 'tegulalaw06.PlaneProjective': WHATEVER THE INPUT: true; the input reads as it did. -/
def planeProjectiveSpec : ChangeSpec := { name := "planeProjective", fn := fun _ => fun
  | [d] => { results := [.lit (.bool true)], args := [d] }
  | _ => none }
def planeProjectiveRow : OpenClaim := { program := "ytilnoajeofjckaa", sum := "41b566476df2fc1d3c6a9d34ab85d67144b9492627eeee5ff1acfab86ea28575", func := "tegula/tegulalaw06.PlaneProjective", spec := "planeProjective", unfollowed := true, recurses := true, plainKeys := false, apart := false }
def PlaneProjectiveSaid : Prop := planeProjectiveRow.holds Try.pinned (OpenSpec.ofChange planeProjectiveSpec)

/-- ITS FALSE NEIGHBOUR: 'it returns false'. Refute it at one input. -/
def planeProjectiveWrong : ChangeSpec := { name := "planeProjective", fn := fun _ => fun
  | [d] => { results := [.lit (.bool false)], args := [d] }
  | _ => none }
def PlaneProjectiveWrongFalsely : Prop := planeProjectiveRow.holds Try.pinned (OpenSpec.ofChange planeProjectiveWrong)

/-- 'tegulalaw06.PlaneAffine': WHATEVER THE INPUT: true; the input reads as it did. -/
def planeAffineSpec : ChangeSpec := { name := "planeAffine", fn := fun _ => fun
  | [d] => { results := [.lit (.bool true)], args := [d] }
  | _ => none }
def planeAffineRow : OpenClaim := { program := "ytilnoajeofjckaa", sum := "41b566476df2fc1d3c6a9d34ab85d67144b9492627eeee5ff1acfab86ea28575", func := "tegula/tegulalaw06.PlaneAffine", spec := "planeAffine", unfollowed := true, recurses := true, plainKeys := false, apart := false }
def PlaneAffineSaid : Prop := planeAffineRow.holds Try.pinned (OpenSpec.ofChange planeAffineSpec)

/-- ITS FALSE NEIGHBOUR: 'it returns false'. Refute it at one input. -/
def planeAffineWrong : ChangeSpec := { name := "planeAffine", fn := fun _ => fun
  | [d] => { results := [.lit (.bool false)], args := [d] }
  | _ => none }
def PlaneAffineWrongFalsely : Prop := planeAffineRow.holds Try.pinned (OpenSpec.ofChange planeAffineWrong)

/-- 'tegulalaw06.PlaneMeet': WHATEVER THE INPUT: true; the input reads as it did. -/
def planeMeetSpec : ChangeSpec := { name := "planeMeet", fn := fun _ => fun
  | [d1, d2, d3] => { results := [.lit (.bool true)], args := [d1, d2, d3] }
  | _ => none }
def planeMeetRow : OpenClaim := { program := "ytilnoajeofjckaa", sum := "41b566476df2fc1d3c6a9d34ab85d67144b9492627eeee5ff1acfab86ea28575", func := "tegula/tegulalaw06.PlaneMeet", spec := "planeMeet", unfollowed := true, recurses := true, plainKeys := false, apart := false }
def PlaneMeetSaid : Prop := planeMeetRow.holds Try.pinned (OpenSpec.ofChange planeMeetSpec)

/-- ITS FALSE NEIGHBOUR: 'it returns false'. Refute it at one input. -/
def planeMeetWrong : ChangeSpec := { name := "planeMeet", fn := fun _ => fun
  | [d1, d2, d3] => { results := [.lit (.bool false)], args := [d1, d2, d3] }
  | _ => none }
def PlaneMeetWrongFalsely : Prop := planeMeetRow.holds Try.pinned (OpenSpec.ofChange planeMeetWrong)

/-- 'tegulalaw06.PlaneParallel': WHATEVER THE INPUT: true; the input reads as it did. -/
def planeParallelSpec : ChangeSpec := { name := "planeParallel", fn := fun _ => fun
  | [d1, d2] => { results := [.lit (.bool true)], args := [d1, d2] }
  | _ => none }
def planeParallelRow : OpenClaim := { program := "ytilnoajeofjckaa", sum := "41b566476df2fc1d3c6a9d34ab85d67144b9492627eeee5ff1acfab86ea28575", func := "tegula/tegulalaw06.PlaneParallel", spec := "planeParallel", unfollowed := true, recurses := true, plainKeys := false, apart := false }
def PlaneParallelSaid : Prop := planeParallelRow.holds Try.pinned (OpenSpec.ofChange planeParallelSpec)

/-- ITS FALSE NEIGHBOUR: 'it returns false'. Refute it at one input. -/
def planeParallelWrong : ChangeSpec := { name := "planeParallel", fn := fun _ => fun
  | [d1, d2] => { results := [.lit (.bool false)], args := [d1, d2] }
  | _ => none }
def PlaneParallelWrongFalsely : Prop := planeParallelRow.holds Try.pinned (OpenSpec.ofChange planeParallelWrong)

/-- 'tegulalaw06.PlaneShrinks': WHATEVER THE INPUT: true; the input reads as it did. -/
def planeShrinksSpec : ChangeSpec := { name := "planeShrinks", fn := fun _ => fun
  | [d1, d2] => { results := [.lit (.bool true)], args := [d1, d2] }
  | _ => none }
def planeShrinksRow : OpenClaim := { program := "ytilnoajeofjckaa", sum := "41b566476df2fc1d3c6a9d34ab85d67144b9492627eeee5ff1acfab86ea28575", func := "tegula/tegulalaw06.PlaneShrinks", spec := "planeShrinks", unfollowed := true, recurses := true, plainKeys := false, apart := false }
def PlaneShrinksSaid : Prop := planeShrinksRow.holds Try.pinned (OpenSpec.ofChange planeShrinksSpec)

/-- ITS FALSE NEIGHBOUR: 'it returns false'. Refute it at one input. -/
def planeShrinksWrong : ChangeSpec := { name := "planeShrinks", fn := fun _ => fun
  | [d1, d2] => { results := [.lit (.bool false)], args := [d1, d2] }
  | _ => none }
def PlaneShrinksWrongFalsely : Prop := planeShrinksRow.holds Try.pinned (OpenSpec.ofChange planeShrinksWrong)

/-- 'tegulalaw06.PlaneErrors': WHATEVER THE INPUT: true; the input reads as it did. -/
def planeErrorsSpec : ChangeSpec := { name := "planeErrors", fn := fun _ => fun
  | [d1, d2, d3] => { results := [.lit (.bool true)], args := [d1, d2, d3] }
  | _ => none }
def planeErrorsRow : OpenClaim := { program := "ytilnoajeofjckaa", sum := "41b566476df2fc1d3c6a9d34ab85d67144b9492627eeee5ff1acfab86ea28575", func := "tegula/tegulalaw06.PlaneErrors", spec := "planeErrors", unfollowed := true, recurses := true, plainKeys := false, apart := false }
def PlaneErrorsSaid : Prop := planeErrorsRow.holds Try.pinned (OpenSpec.ofChange planeErrorsSpec)

/-- ITS FALSE NEIGHBOUR: 'it returns false'. Refute it at one input. -/
def planeErrorsWrong : ChangeSpec := { name := "planeErrors", fn := fun _ => fun
  | [d1, d2, d3] => { results := [.lit (.bool false)], args := [d1, d2, d3] }
  | _ => none }
def PlaneErrorsWrongFalsely : Prop := planeErrorsRow.holds Try.pinned (OpenSpec.ofChange planeErrorsWrong)

/-- 'tegulalaw06.PlaneJoin': WHATEVER THE INPUT: true; the input reads as it did. -/
def planeJoinSpec : ChangeSpec := { name := "planeJoin", fn := fun _ => fun
  | [d1, d2, d3] => { results := [.lit (.bool true)], args := [d1, d2, d3] }
  | _ => none }
def planeJoinRow : OpenClaim := { program := "ytilnoajeofjckaa", sum := "41b566476df2fc1d3c6a9d34ab85d67144b9492627eeee5ff1acfab86ea28575", func := "tegula/tegulalaw06.PlaneJoin", spec := "planeJoin", unfollowed := true, recurses := true, plainKeys := false, apart := false }
def PlaneJoinSaid : Prop := planeJoinRow.holds Try.pinned (OpenSpec.ofChange planeJoinSpec)

/-- ITS FALSE NEIGHBOUR: 'it returns false'. Refute it at one input. -/
def planeJoinWrong : ChangeSpec := { name := "planeJoin", fn := fun _ => fun
  | [d1, d2, d3] => { results := [.lit (.bool false)], args := [d1, d2, d3] }
  | _ => none }
def PlaneJoinWrongFalsely : Prop := planeJoinRow.holds Try.pinned (OpenSpec.ofChange planeJoinWrong)

/-- 'tegulalaw06.PlaneDual': WHATEVER THE INPUT: true; the input reads as it did. -/
def planeDualSpec : ChangeSpec := { name := "planeDual", fn := fun _ => fun
  | [d1, d2, d3] => { results := [.lit (.bool true)], args := [d1, d2, d3] }
  | _ => none }
def planeDualRow : OpenClaim := { program := "ytilnoajeofjckaa", sum := "41b566476df2fc1d3c6a9d34ab85d67144b9492627eeee5ff1acfab86ea28575", func := "tegula/tegulalaw06.PlaneDual", spec := "planeDual", unfollowed := true, recurses := true, plainKeys := false, apart := false }
def PlaneDualSaid : Prop := planeDualRow.holds Try.pinned (OpenSpec.ofChange planeDualSpec)

/-- ITS FALSE NEIGHBOUR: 'it returns false'. Refute it at one input. -/
def planeDualWrong : ChangeSpec := { name := "planeDual", fn := fun _ => fun
  | [d1, d2, d3] => { results := [.lit (.bool false)], args := [d1, d2, d3] }
  | _ => none }
def PlaneDualWrongFalsely : Prop := planeDualRow.holds Try.pinned (OpenSpec.ofChange planeDualWrong)

/- THE SECOND FORM. 'bulk': how many values and letters a reading holds, each counted each time it is reached (what is shared counts as often as it is met; a slice's spare places count too). A statement '..UptoSaid' is the law's where the arguments, and the package variables that the reading takes, are together of bulk at most 1048576: NARROWER than '..Said'. Prove '..Said' where nothing that the law and all that it calls make is longer than what came in: it says more and counts as full. Else prove '..UptoSaid'. A law counts once. -/
mutual
def uptoBulk {H : Type} : DataW H → Nat
  | .lit (.string bytes) => bytes.length + 1
  | .lit _ => 1
  | .nil => 1
  | .ptr d => uptoBulk d + 1
  | .slice elems spare => uptoBulkAll elems + uptoBulkAll spare + 1
  | .agg parts => uptoBulkAll parts + 1
  | .iface _ d => uptoBulk d + 1
  | .map entries => uptoBulkEntries entries + 1
  | .held _ => 1
def uptoBulkAll {H : Type} : List (DataW H) → Nat
  | [] => 0
  | d :: r => uptoBulk d + uptoBulkAll r
def uptoBulkEntries {H : Type} : List (Lit × DataW H) → Nat
  | [] => 0
  | x :: r => uptoBulkEntry x + uptoBulkEntries r
def uptoBulkEntry {H : Type} : Lit × DataW H → Nat
  | (.string bytes, d) => bytes.length + uptoBulk d + 1
  | (_, d) => uptoBulk d + 1
 end
def uptoSmall : (H : Type) → List (DataW H) → Bool := fun _ ds => decide (uptoBulkAll ds ≤ 1048576)
def OpenSpec.upto (s : _root_.Go.ChangeSpec) : _root_.Go.OpenSpec := { _root_.Go.OpenSpec.ofChange s with cond := some uptoSmall }

/-- 'tegulalaw06.PlaneProjective', WHERE WHAT IT READS IS OF BULK AT MOST 1048576: true; the input reads as it did. -/
def planeProjectiveUptoRow : OpenClaim := { program := "ytilnoajeofjckaa", sum := "41b566476df2fc1d3c6a9d34ab85d67144b9492627eeee5ff1acfab86ea28575", func := "tegula/tegulalaw06.PlaneProjective", spec := "planeProjective", unfollowed := true, recurses := true, plainKeys := false, apart := false, narrowed := true }
def PlaneProjectiveUptoSaid : Prop := planeProjectiveUptoRow.holds Try.pinned (OpenSpec.upto planeProjectiveSpec)

/-- 'tegulalaw06.PlaneAffine', WHERE WHAT IT READS IS OF BULK AT MOST 1048576: true; the input reads as it did. -/
def planeAffineUptoRow : OpenClaim := { program := "ytilnoajeofjckaa", sum := "41b566476df2fc1d3c6a9d34ab85d67144b9492627eeee5ff1acfab86ea28575", func := "tegula/tegulalaw06.PlaneAffine", spec := "planeAffine", unfollowed := true, recurses := true, plainKeys := false, apart := false, narrowed := true }
def PlaneAffineUptoSaid : Prop := planeAffineUptoRow.holds Try.pinned (OpenSpec.upto planeAffineSpec)

/-- 'tegulalaw06.PlaneMeet', WHERE WHAT IT READS IS OF BULK AT MOST 1048576: true; the input reads as it did. -/
def planeMeetUptoRow : OpenClaim := { program := "ytilnoajeofjckaa", sum := "41b566476df2fc1d3c6a9d34ab85d67144b9492627eeee5ff1acfab86ea28575", func := "tegula/tegulalaw06.PlaneMeet", spec := "planeMeet", unfollowed := true, recurses := true, plainKeys := false, apart := false, narrowed := true }
def PlaneMeetUptoSaid : Prop := planeMeetUptoRow.holds Try.pinned (OpenSpec.upto planeMeetSpec)

/-- 'tegulalaw06.PlaneParallel', WHERE WHAT IT READS IS OF BULK AT MOST 1048576: true; the input reads as it did. -/
def planeParallelUptoRow : OpenClaim := { program := "ytilnoajeofjckaa", sum := "41b566476df2fc1d3c6a9d34ab85d67144b9492627eeee5ff1acfab86ea28575", func := "tegula/tegulalaw06.PlaneParallel", spec := "planeParallel", unfollowed := true, recurses := true, plainKeys := false, apart := false, narrowed := true }
def PlaneParallelUptoSaid : Prop := planeParallelUptoRow.holds Try.pinned (OpenSpec.upto planeParallelSpec)

/-- 'tegulalaw06.PlaneShrinks', WHERE WHAT IT READS IS OF BULK AT MOST 1048576: true; the input reads as it did. -/
def planeShrinksUptoRow : OpenClaim := { program := "ytilnoajeofjckaa", sum := "41b566476df2fc1d3c6a9d34ab85d67144b9492627eeee5ff1acfab86ea28575", func := "tegula/tegulalaw06.PlaneShrinks", spec := "planeShrinks", unfollowed := true, recurses := true, plainKeys := false, apart := false, narrowed := true }
def PlaneShrinksUptoSaid : Prop := planeShrinksUptoRow.holds Try.pinned (OpenSpec.upto planeShrinksSpec)

/-- 'tegulalaw06.PlaneErrors', WHERE WHAT IT READS IS OF BULK AT MOST 1048576: true; the input reads as it did. -/
def planeErrorsUptoRow : OpenClaim := { program := "ytilnoajeofjckaa", sum := "41b566476df2fc1d3c6a9d34ab85d67144b9492627eeee5ff1acfab86ea28575", func := "tegula/tegulalaw06.PlaneErrors", spec := "planeErrors", unfollowed := true, recurses := true, plainKeys := false, apart := false, narrowed := true }
def PlaneErrorsUptoSaid : Prop := planeErrorsUptoRow.holds Try.pinned (OpenSpec.upto planeErrorsSpec)

/-- 'tegulalaw06.PlaneJoin', WHERE WHAT IT READS IS OF BULK AT MOST 1048576: true; the input reads as it did. -/
def planeJoinUptoRow : OpenClaim := { program := "ytilnoajeofjckaa", sum := "41b566476df2fc1d3c6a9d34ab85d67144b9492627eeee5ff1acfab86ea28575", func := "tegula/tegulalaw06.PlaneJoin", spec := "planeJoin", unfollowed := true, recurses := true, plainKeys := false, apart := false, narrowed := true }
def PlaneJoinUptoSaid : Prop := planeJoinUptoRow.holds Try.pinned (OpenSpec.upto planeJoinSpec)

/-- 'tegulalaw06.PlaneDual', WHERE WHAT IT READS IS OF BULK AT MOST 1048576: true; the input reads as it did. -/
def planeDualUptoRow : OpenClaim := { program := "ytilnoajeofjckaa", sum := "41b566476df2fc1d3c6a9d34ab85d67144b9492627eeee5ff1acfab86ea28575", func := "tegula/tegulalaw06.PlaneDual", spec := "planeDual", unfollowed := true, recurses := true, plainKeys := false, apart := false, narrowed := true }
def PlaneDualUptoSaid : Prop := planeDualUptoRow.holds Try.pinned (OpenSpec.upto planeDualSpec)

end Rows
end Go.Proofs.Ytilnoajeofjckaa
