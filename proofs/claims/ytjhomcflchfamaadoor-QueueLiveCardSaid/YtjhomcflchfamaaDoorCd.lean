/- The machine and its runs, part Cd: Am41ogd. -/
import Derived.Test.YtjhomcflchfamaaDoorB15
import Derived.Test.YtjhomcflchfamaaDoorBd
set_option linter.unusedVariables false
set_option linter.unusedSimpArgs false
set_option linter.unusedSectionVars false
namespace Go.Am.C41
open Go Go.Am Go.Am.V Go.RowKit Go.ChangeShapes
set_option maxRecDepth 1000000
theorem queueLive_calls (w : World) (sv : Value) (cs : List (Act × Value)) (h : ActsW w sv cs) (hs : cs.length ≤ 9223372036854775807) :
    Calls Proofs.Tryd.prog 8 #[sv] w fun e w' => e = .returned (.bool true) ∧ Below w.heap.size w w' :=
  acts_calls [] (fun x hx => by cases hx) (fun m n lv cs h1 h2 => liveLaw hyB tqB trB (by kernel_rfl) m n lv cs h1 h2) w sv cs h hs
end Go.Am.C41
