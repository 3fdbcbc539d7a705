/- Chapter 21: awake, by a run of the fast machine. -/
import Derived.Test.YtaohgpgbphlblaaAm21
import Derived.Test.YtaohgpgbphlblaaAmMemo3
import Derived.Test.YtaohgpgbphlblaaAmEq
set_option linter.unusedVariables false
set_option linter.unusedSimpArgs false
set_option linter.unusedSectionVars false
namespace Go.Am.C21
open Go Go.Am Go.Am.V
set_option maxRecDepth 1000000
def Y0 : Nat → List Value → FM → Nat → OR FM := fun _ _ _ _ => .no
noncomputable def Yf0 : FCal := fun _ _ _ _ => .no
theorem mix : Proofs.Try.prog.follows .mixedOrders = true := by kernel_rfl
theorem env0 : Env Proofs.Try.prog tab Y0 Yf0 where
  mix := mix
  good := good
  small := by kernel_rfl
  loc := fun f args m n v m' n' r wm h => by cases h
  sim := fun f args m n v m' n' r wm h => by cases h
  fast := fun f args m n => by trivial
  apart := fun f fn h args m n => rfl
def m13 : Memo := { f := 13, args := [], rs := [.b true], bs := [], pi := [] }
theorem fit13 : fitsB m13 (fcall Proofs.Try.prog (Fast.treeOf tab) Yf0 5000 10 13 [] [] 0) = true := by kernel_rfl
theorem sim13 : CallSim Proofs.Try.prog (memoA m13) := env0.memo (M := m13) (fargs := []) rfl rfl fit13
noncomputable def tabB : List (Nat × AFn) := [(2, ac2), (3, ac3), (4, ac4), (5, ac5), (6, ac6), (7, ac7), (8, ac8), (9, ac9), (10, ac10), (11, ac11), (12, ac12), (14, ac14), (15, ac15), (16, ac16), (17, ac17), (18, ac18), (19, ac19), (20, ac20), (21, ac21), (22, ac22), (23, ac23), (24, ac24), (25, ac25), (26, ac26), (27, ac27), (28, ac28), (29, ac29), (30, ac30), (31, ac31), (32, ac32), (33, ac33), (34, ac34), (35, ac35), (36, ac36), (37, ac37), (38, ac38), (39, ac39), (40, ac40), (41, ac41), (42, ac42), (43, ac43), (44, ac44), (45, ac45), (46, ac46), (47, ac47), (48, ac48), (49, ac49), (50, ac50), (51, ac51), (52, ac52), (53, ac53), (54, ac54)]
theorem tabB_good : Good Proofs.Try.prog tabB := (.cons Proofs.Try.func2 chk2 (.cons Proofs.Try.func3 chk3 (.cons Proofs.Try.func4 chk4 (.cons Proofs.Try.func5 chk5 (.cons Proofs.Try.func6 chk6 (.cons Proofs.Try.func7 chk7 (.cons Proofs.Try.func8 chk8 (.cons Proofs.Try.func9 chk9 (.cons Proofs.Try.func10 chk10 (.cons Proofs.Try.func11 chk11 (.cons Proofs.Try.func12 chk12 (.cons Proofs.Try.func14 chk14 (.cons Proofs.Try.func15 chk15 (.cons Proofs.Try.func16 chk16 (.cons Proofs.Try.func17 chk17 (.cons Proofs.Try.func18 chk18 (.cons Proofs.Try.func19 chk19 (.cons Proofs.Try.func20 chk20 (.cons Proofs.Try.func21 chk21 (.cons Proofs.Try.func22 chk22 (.cons Proofs.Try.func23 chk23 (.cons Proofs.Try.func24 chk24 (.cons Proofs.Try.func25 chk25 (.cons Proofs.Try.func26 chk26 (.cons Proofs.Try.func27 chk27 (.cons Proofs.Try.func28 chk28 (.cons Proofs.Try.func29 chk29 (.cons Proofs.Try.func30 chk30 (.cons Proofs.Try.func31 chk31 (.cons Proofs.Try.func32 chk32 (.cons Proofs.Try.func33 chk33 (.cons Proofs.Try.func34 chk34 (.cons Proofs.Try.func35 chk35 (.cons Proofs.Try.func36 chk36 (.cons Proofs.Try.func37 chk37 (.cons Proofs.Try.func38 chk38 (.cons Proofs.Try.func39 chk39 (.cons Proofs.Try.func40 chk40 (.cons Proofs.Try.func41 chk41 (.cons Proofs.Try.func42 chk42 (.cons Proofs.Try.func43 chk43 (.cons Proofs.Try.func44 chk44 (.cons Proofs.Try.func45 chk45 (.cons Proofs.Try.func46 chk46 (.cons Proofs.Try.func47 chk47 (.cons Proofs.Try.func48 chk48 (.cons Proofs.Try.func49 chk49 (.cons Proofs.Try.func50 chk50 (.cons Proofs.Try.func51 chk51 (.cons Proofs.Try.func52 chk52 (.cons Proofs.Try.func53 chk53 (.cons Proofs.Try.func54 chk54 .nil))))))))))))))))))))))))))))))))))))))))))))))))))))
theorem envB : Env Proofs.Try.prog tabB (memosA [m13] Y0) (memosF [m13] Yf0) :=
  env0.addMemos tabB_good (by kernel_rfl) (fun f fn h args m n => rfl) (by
    intro M h
    obtain rfl := List.mem_singleton.1 h
    exact sim13) (by
    intro M h
    obtain rfl := List.mem_singleton.1 h
    kernel_rfl)
theorem awake_pure (m : FM) (n : Nat) : Pure (callW Proofs.Try.prog (look tabB) (memosA [m13] Y0) 13 [] m n) m n (.bool true) := by
  have h13 : look tabB 13 = none := by kernel_rfl
  have : callW Proofs.Try.prog (look tabB) (memosA [m13] Y0) 13 [] m n = memosA [m13] Y0 13 [] m n := by
    unfold callW callA
    rw [h13]
  rw [this]
  have hw : newW n 0 = 0 := Nat.zero_shiftLeft n
  have hm : memoA m13 13 [] m n = .ok (.bool true) m n 0 0 := by
    show OR.ok (.bool true) m n 0 (newW n 0) = _
    rw [hw]
  refine ⟨0, ?_⟩
  show altA (memoA m13) Y0 13 [] m n = _
  unfold altA
  rw [hm]
end Go.Am.C21
