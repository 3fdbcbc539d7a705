/- WholeReserved: the closed facts of the row. -/
import Derived.Test.YtiibhndkoknmnaaGreatDoorRows
import Derived.ProofKit
import Derived.Stop.Joined
namespace Go.Proofs.YtiibhndkoknmnaaGreatDoor.wholeReserved
open Go.ChangeShapes Go.WideShapes Go.ChangeAt Go.RowKit
set_option maxRecDepth 100000
set_option maxHeartbeats 40000000 in
theorem joined:joinedFacts Tryz.pinned.checked.prog 3 Tryz.f3 Rows.wholeReservedSpec Rows.wholeReservedRow=true:=by
 unfold joinedFacts;simp only[Bool.and_eq_true]
 repeat' apply And.intro
 all_goals (as_aux_lemma=>kernel_rfl)
end Go.Proofs.YtiibhndkoknmnaaGreatDoor.wholeReserved
