/- WholeReserved: no goroutine is started. -/
import Derived.Test.YtiibhndkoknmnaaGreatDoorRows
import Derived.ProofKit
import Derived.SevenTiedAt
open Go.Proofs.Tryz renaming prog→SI
open List renaming any_eq_false→Yw
namespace Go.Proofs.YtiibhndkoknmnaaGreatDoor.wholeReserved
set_option maxRecDepth 100000
set_option maxHeartbeats 40000000
theorem named3:SI.funcNamed "tegula/tegulatop.WholeReserved"=some 3:=by kernel_rfl
theorem noGo:(SI.funcs.toList.all λfn=>!fn.goes)=true:=by kernel_rfl
theorem goes_none{P:Program}(h:(P.funcs.toList.all λfn=>!fn.goes)=true)(f:FuncId):P.goes f=false:=by
 have h1:∀fn∈P.funcs.toList,fn.goes=false:=λfn hf=>by simpa using List.all_eq_true.1 h fn hf
 have h2:∀g:FuncId,(P.funcs[g]?).any Func.goes=false:=λg=>by
  cases hg:P.funcs[g]? with
  |none=>rfl
  |some fn=>exact h1 fn (Array.mem_toList_iff.2 (Array.mem_of_getElem? hg))
 have h3:P.funcs.any Func.goes=false:=by rw[<-Array.any_toList,Yw];intro fn hf;rw[h1 fn hf];simp
 unfold Program.goes;rw[h3,Bool.and_false,Bool.or_false,Yw];intro g _;rw[h2 g];simp
theorem noGoes:false=Rows.wholeReservedRow.goesBy Tryz.pinned.checked.prog:=by show false=SI.goesAt .entering "tegula/tegulatop.WholeReserved";unfold Program.goesAt Program.goesFrom;rw[named3,Option.any_some,goes_none noGo];rfl
end Go.Proofs.YtiibhndkoknmnaaGreatDoor.wholeReserved
