/- Chapter 05: awake, and the contracts that the laws use. -/
import Derived.Test.YtjnplnkbjmfgpaaAm05m
import Derived.Test.YtjnplnkbjmfgpaaAmMemo3
set_option linter.unusedVariables false
set_option linter.unusedSimpArgs false
set_option linter.unusedSectionVars false
namespace Go.Am.C05
open Go Go.Am Go.Am.V
set_option maxRecDepth 1000000
theorem apart5 {t : List (Nat × AFn)} (h : look t 37 = none) : V.Apart t Y5 := by
  intro f fn hf args m n
  show cond (Nat.beq f 37) (elemY m n args) .no = .no
  cases hb : Nat.beq f 37
  · rfl
  · obtain rfl := Nat.eq_of_beq_eq_true hb
    rw [h] at hf; cases hf
noncomputable def tabB : List (Nat × AFn) := [(3, ac3), (4, ac4), (5, ac5), (6, ac6), (7, ac7), (8, ac8), (9, ac9), (10, ac10), (11, ac11), (12, ac12), (13, ac13), (14, ac14), (15, ac15), (16, ac16), (17, ac17), (18, ac18), (19, ac19), (20, ac20), (21, ac21), (22, ac22), (23, ac23), (25, ac25), (26, ac26), (27, ac27), (28, ac28), (29, ac29), (30, ac30), (31, ac31), (32, ac32), (33, ac33), (34, ac34), (35, ac35), (36, ac36), (38, ac38), (39, ac39)]
theorem tabB_good : Good Proofs.Try.prog tabB := (.cons Proofs.Try.func3 chk3 (.cons Proofs.Try.func4 chk4 (.cons Proofs.Try.func5 chk5 (.cons Proofs.Try.func6 chk6 (.cons Proofs.Try.func7 chk7 (.cons Proofs.Try.func8 chk8 (.cons Proofs.Try.func9 chk9 (.cons Proofs.Try.func10 chk10 (.cons Proofs.Try.func11 chk11 (.cons Proofs.Try.func12 chk12 (.cons Proofs.Try.func13 chk13 (.cons Proofs.Try.func14 chk14 (.cons Proofs.Try.func15 chk15 (.cons Proofs.Try.func16 chk16 (.cons Proofs.Try.func17 chk17 (.cons Proofs.Try.func18 chk18 (.cons Proofs.Try.func19 chk19 (.cons Proofs.Try.func20 chk20 (.cons Proofs.Try.func21 chk21 (.cons Proofs.Try.func22 chk22 (.cons Proofs.Try.func23 chk23 (.cons Proofs.Try.func25 chk25 (.cons Proofs.Try.func26 chk26 (.cons Proofs.Try.func27 chk27 (.cons Proofs.Try.func28 chk28 (.cons Proofs.Try.func29 chk29 (.cons Proofs.Try.func30 chk30 (.cons Proofs.Try.func31 chk31 (.cons Proofs.Try.func32 chk32 (.cons Proofs.Try.func33 chk33 (.cons Proofs.Try.func34 chk34 (.cons Proofs.Try.func35 chk35 (.cons Proofs.Try.func36 chk36 (.cons Proofs.Try.func38 chk38 (.cons Proofs.Try.func39 chk39 .nil)))))))))))))))))))))))))))))))))))
def news : List Memo := [m24_2, m24_3, m24_4, m24_5, m24_7, m24_8, m24_9]
theorem news_sim : ∀ M ∈ news, CallSim Proofs.Try.prog (memoA M) := by
  intro M h
  simp only [news, List.mem_cons, List.not_mem_nil, or_false] at h
  rcases h with rfl | rfl | rfl | rfl | rfl | rfl | rfl
  · exact sim2
  · exact sim3
  · exact sim4
  · exact sim5
  · exact sim7
  · exact sim8
  · exact sim9
theorem news_f {t : List (Nat × AFn)} (h : look t 24 = none) : ∀ M ∈ news, look t M.f = none := by
  intro M hM
  simp only [news, List.mem_cons, List.not_mem_nil, or_false] at hM
  rcases hM with rfl | rfl | rfl | rfl | rfl | rfl | rfl <;> exact h
theorem envB : Env Proofs.Try.prog tabB (memosA news Y5) (memosF news Yf5) := env5.addMemos tabB_good (by kernel_rfl) (apart5 (by kernel_rfl)) news_sim (news_f (by kernel_rfl))
def m10 : Memo := { f := 10, args := [], rs := [.b true], bs := [], pi := [] }
theorem fit10 : fitsB m10 (fcall Proofs.Try.prog (Fast.treeOf tabB) (memosF news Yf5) 5000 6 10 [] [] 0) = true := by kernel_rfl
theorem sim10 : CallSim Proofs.Try.prog (memoA m10) := envB.memo (M := m10) (fargs := []) rfl rfl fit10
noncomputable def tabC : List (Nat × AFn) := [(3, ac3), (4, ac4), (5, ac5), (6, ac6), (7, ac7), (8, ac8), (9, ac9), (11, ac11), (12, ac12), (13, ac13), (14, ac14), (15, ac15), (16, ac16), (17, ac17), (18, ac18), (19, ac19), (20, ac20), (21, ac21), (22, ac22), (23, ac23), (25, ac25), (26, ac26), (27, ac27), (28, ac28), (29, ac29), (30, ac30), (31, ac31), (32, ac32), (33, ac33), (34, ac34), (35, ac35), (36, ac36), (38, ac38), (39, ac39)]
theorem tabC_good : Good Proofs.Try.prog tabC := (.cons Proofs.Try.func3 chk3 (.cons Proofs.Try.func4 chk4 (.cons Proofs.Try.func5 chk5 (.cons Proofs.Try.func6 chk6 (.cons Proofs.Try.func7 chk7 (.cons Proofs.Try.func8 chk8 (.cons Proofs.Try.func9 chk9 (.cons Proofs.Try.func11 chk11 (.cons Proofs.Try.func12 chk12 (.cons Proofs.Try.func13 chk13 (.cons Proofs.Try.func14 chk14 (.cons Proofs.Try.func15 chk15 (.cons Proofs.Try.func16 chk16 (.cons Proofs.Try.func17 chk17 (.cons Proofs.Try.func18 chk18 (.cons Proofs.Try.func19 chk19 (.cons Proofs.Try.func20 chk20 (.cons Proofs.Try.func21 chk21 (.cons Proofs.Try.func22 chk22 (.cons Proofs.Try.func23 chk23 (.cons Proofs.Try.func25 chk25 (.cons Proofs.Try.func26 chk26 (.cons Proofs.Try.func27 chk27 (.cons Proofs.Try.func28 chk28 (.cons Proofs.Try.func29 chk29 (.cons Proofs.Try.func30 chk30 (.cons Proofs.Try.func31 chk31 (.cons Proofs.Try.func32 chk32 (.cons Proofs.Try.func33 chk33 (.cons Proofs.Try.func34 chk34 (.cons Proofs.Try.func35 chk35 (.cons Proofs.Try.func36 chk36 (.cons Proofs.Try.func38 chk38 (.cons Proofs.Try.func39 chk39 .nil))))))))))))))))))))))))))))))))))
def memsC : List Memo := m10 :: news
theorem envC : Env Proofs.Try.prog tabC (memosA memsC Y5) (memosF memsC Yf5) :=
  env5.addMemos tabC_good (by kernel_rfl) (apart5 (by kernel_rfl)) (by
    intro M h
    rcases List.mem_cons.1 h with rfl | h
    · exact sim10
    · exact news_sim M h) (by
    intro M h
    rcases List.mem_cons.1 h with rfl | h
    · kernel_rfl
    · exact news_f (by kernel_rfl) M h)
/-- SmallfieldNil's run -/
theorem nil_run (a b : Int) : gaveTA (callA (look tabC) (memosA memsC Y5) (exec Proofs.Try.prog (look tabC) (memosA memsC Y5) 100) 8 [.int .i64 a, .int .i64 b] FM0 0) = true := by kernel_rfl
theorem nil_calls (a b : Int) (w : World) : Calls Proofs.Try.prog 8 #[.int .i64 a, .int .i64 b] w fun e w' => e = .returned (.bool true) ∧ RowKit.Below w.heap.size w w' := envC.lawA (args := [.int .i64 a, .int .i64 b]) (free_args rfl) (nil_run a b) w
end Go.Am.C05
