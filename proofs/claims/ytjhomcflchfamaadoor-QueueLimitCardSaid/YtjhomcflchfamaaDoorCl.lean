/- The machine and its runs, part Cl: Am41ogl. -/
import Derived.Test.YtjhomcflchfamaaDoorZ
import Derived.Test.YtjhomcflchfamaaDoorB15
import Derived.Test.YtjhomcflchfamaaDoorBl
set_option linter.unusedVariables false
set_option linter.unusedSimpArgs false
set_option linter.unusedSectionVars false
namespace Go.Am.C41
open Go Go.Am Go.Am.V Go.RowKit Go.ChangeShapes
set_option maxRecDepth 1000000
theorem queueLimit_calls (w : World) (z : Int) (hz : 0 ≤ z ∧ z < 256) (t : Int) :
    Calls Proofs.Tryd.prog 4 #[.int .u8 z, .int .i64 t] w fun e w' => e = .returned (.bool true) ∧ Below w.heap.size w w' :=
  plain_calls [.int .u8 z, .int .i64 t] (fun x hx => by rcases List.mem_cons.1 hx with rfl | hx; rfl; obtain rfl := List.mem_singleton.1 hx; rfl) (fun m n => limitLaw hyB tqB trB (by kernel_rfl) m n z hz t) w
end Go.Am.C41
