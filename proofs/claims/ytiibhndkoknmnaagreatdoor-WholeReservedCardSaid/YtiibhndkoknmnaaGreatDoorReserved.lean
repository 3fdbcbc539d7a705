/- WholeReserved returns true: whatever commands came before, a volume whose reservation is its length can be written completely, and its blocks are read back. No condition on the arguments. -/
import Derived.Test.YtiibhndkoknmnaaGreatDoorOver
import Derived.Test.YtiibhndkoknmnaaGreatDoorGoes
import Derived.Test.YtiibhndkoknmnaaGreatDoorTie
import Derived.Test.YtiibhndkoknmnaaGreatDoorCards
import Derived.SevenTiedAt
open Go.Proofs.Tryz renaming prog→SI
namespace Go.Proofs.YtiibhndkoknmnaaGreatDoor.wholeReserved
open Go.ChangeShapes Go.WideShapes Go.ChangeAt Go.RowKit
set_option linter.unusedVariables false
set_option linter.unusedSimpArgs false
theorem proved:Rows.WholeReservedCardSaid:=
 Claim7.holds_tied_plain_at .later [] [.data,.data,.pinned] true (true,"ab7021a7bd4bba726e4afe8381222a39494798c447b02f07504eedbfc9e567f5") true over (λ_ h=>by cases h) (by as_aux_lemma=>kernel_rfl) (λ_ h=>by cases h) wholeReserved_row_tie rfl ⟨rfl,rfl⟩ (by as_aux_lemma=>kernel_rfl) rfl
  (λf fn hf hfn=>by
   obtain rfl:f=3:=Option.some.inj ((show SI.funcNamed "tegula/tegulatop.WholeReserved"=some 3 by as_aux_lemma=>kernel_rfl).symm.trans hf) |>.symm;obtain rfl:fn=Tryz.f3:=(Option.some.inj (Tryz.func3.symm.trans hfn)).symm
   exact⟨by as_aux_lemma=>kernel_rfl,λj t ht=>by
    rw[Tryz.params3]at ht;have hm:t∈[22,5,24]:=by simpa using Array.mem_of_getElem? ht
    have hall:([22,5,24].all λu=>!Tryz.prog.wantsStandIn u)=true:=by as_aux_lemma=>kernel_rfl
    exact(show SI.wantsStandIn t=false by simpa using List.all_eq_true.1 hall t hm)⟩)
  noGoes
#print axioms proved
end Go.Proofs.YtiibhndkoknmnaaGreatDoor.wholeReserved
