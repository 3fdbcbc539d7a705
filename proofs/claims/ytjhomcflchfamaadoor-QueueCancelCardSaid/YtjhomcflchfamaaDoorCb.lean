/- The machine and its runs, part Cb: Am41ogb. -/
import Derived.Test.YtjhomcflchfamaaDoorB15
import Derived.Test.YtjhomcflchfamaaDoorBb
set_option linter.unusedVariables false
set_option linter.unusedSimpArgs false
set_option linter.unusedSectionVars false
namespace Go.Am.C41
open Go Go.Am Go.Am.V Go.RowKit Go.ChangeShapes
set_option maxRecDepth 1000000
theorem queueCancel_calls (w : World) (sv : Value) (cs : List (Act × Value)) (k : Int) (hk : 0 ≤ k ∧ k < 256) (h : ActsW w sv cs) (hs : cs.length ≤ 9223372036854775807) :
    Calls Proofs.Tryd.prog 5 #[sv, .int .u8 k] w fun e w' => e = .returned (.bool true) ∧ Below w.heap.size w w' :=
  acts_calls [.int .u8 k] (fun x hx => by obtain rfl := List.mem_singleton.1 hx; rfl) (fun m n lv cs h1 h2 => cancelLaw hyB tqB trB (by kernel_rfl) m n lv k hk cs h1 h2) w sv cs h hs
end Go.Am.C41
