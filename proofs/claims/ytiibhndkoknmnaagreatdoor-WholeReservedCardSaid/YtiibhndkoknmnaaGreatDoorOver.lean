/- WholeReserved: the row holds. -/
import Derived.Test.YtiibhndkoknmnaaGreatDoorLift
import Derived.Test.YtiibhndkoknmnaaGreatDoorJoin
namespace Go.Proofs.YtiibhndkoknmnaaGreatDoor.wholeReserved
open Go.ChangeShapes Go.WideShapes Go.ChangeAt Go.RowKit
set_option linter.unusedVariables false
set_option linter.unusedSimpArgs false
theorem over:Rows.WholeReservedSaid:=
 OpenClaim.holds_of_wide 3 Tryz.f3 rfl rfl rfl rfl rfl rfl rfl ⟨rfl,rfl,rfl,rfl,rfl⟩ rfl rfl rfl rfl rfl (by as_aux_lemma=>kernel_rfl) Tryz.func3 joined
  (of_decide_eq_true (by as_aux_lemma=>kernel_rfl)) (by unfold Func.isWrapper;first|(rw[if_pos (by decide +kernel)];kernel_rfl)|(rw[if_neg (by decide +kernel)];exact⟨rfl,rfl⟩))
  (λos started H enc _=>lifted os started H enc)
end Go.Proofs.YtiibhndkoknmnaaGreatDoor.wholeReserved
