/- The machine and its runs, part Cn: Am41ogn. -/
import Derived.Test.YtjhomcflchfamaaDoorB15
import Derived.Test.YtjhomcflchfamaaDoorBn
set_option linter.unusedVariables false
set_option linter.unusedSimpArgs false
set_option linter.unusedSectionVars false
namespace Go.Am.C41
open Go Go.Am Go.Am.V Go.RowKit Go.ChangeShapes
set_option maxRecDepth 1000000
theorem queueNil_calls (w : World) (t : Int) :
    Calls Proofs.Tryd.prog 9 #[.int .i64 t] w fun e w' => e = .returned (.bool true) ∧ Below w.heap.size w w' :=
  plain_calls [.int .i64 t] (fun x hx => by obtain rfl := List.mem_singleton.1 hx; rfl) (fun m n => nilLaw hyB tqB trB (by kernel_rfl) m n t) w
end Go.Am.C41
