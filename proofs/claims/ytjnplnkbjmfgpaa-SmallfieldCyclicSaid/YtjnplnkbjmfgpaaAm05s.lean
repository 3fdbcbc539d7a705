/- Chapter 05: New of a number that is no size; SmallfieldSizes. -/
import Derived.Test.YtjnplnkbjmfgpaaAm05n
set_option linter.unusedVariables false
set_option linter.unusedSimpArgs false
set_option linter.unusedSectionVars false
namespace Go.Am.C05
open Go Go.Am Go.Am.V Go.RowKit
set_option maxRecDepth 1000000
def notIn : Int → Bool
  | .negSucc _ => true
  | .ofNat n => Nat.rec true (fun n _ => Nat.rec true (fun n _ => Nat.rec false (fun n _ => Nat.rec false (fun n _ => Nat.rec false (fun n _ => Nat.rec false (fun n _ => Nat.rec true (fun n _ => Nat.rec false (fun n _ => Nat.rec false (fun n _ => Nat.rec false (fun _ _ => true) n) n) n) n) n) n) n) n) n) n
def errV : Value := .tuple #[.pointer none, .int .i64 (Int.ofNat 1)]
def isErr : Value → Bool
  | .tuple vs => veqL vs.toList [.pointer none, .int .i64 (Int.ofNat 1)]
  | _ => false
noncomputable def gaveErr (x : OR FM) : Bool := OR.rec (motive := fun _ => Bool) false (fun v _ _ _ _ => isErr v) x
theorem isErr_eq {v : Value} (h : isErr v = true) : v = errV := by
  unfold isErr at h
  split at h
  · rename_i vs
    have := veqL_eq h
    obtain ⟨l⟩ := vs
    replace this : l = _ := this
    rw [this]; rfl
  · cases h
noncomputable abbrev runN (q : Int) : OR FM := callA (look tab) Y5 (exec Proofs.Try.prog (look tab) Y5 300) 24 [.int .i64 q] FM0 0
theorem err_neg (x : Nat) : gaveErr (runN (Int.negSucc x)) = true := by kernel_rfl
theorem err_0 : gaveErr (runN (Int.ofNat 0)) = true := by kernel_rfl
theorem err_1 : gaveErr (runN (Int.ofNat 1)) = true := by kernel_rfl
theorem err_6 : gaveErr (runN (Int.ofNat 6)) = true := by kernel_rfl
theorem err_big (x : Nat) : gaveErr (runN (Int.ofNat (x + 10))) = true := by kernel_rfl
theorem err_run (q : Int) (h : notIn q = true) : gaveErr (runN q) = true := by
  cases q with
  | negSucc x => exact err_neg x
  | ofNat n =>
    match n, h with
    | 0, _ => exact err_0
    | 1, _ => exact err_1
    | 6, _ => exact err_6
    | n + 10, _ => exact err_big n
def mE (q : Int) : Memo := { f := 24, args := [.int .i64 q], rs := [.o (.pointer none), .i (Int.ofNat 1)], bs := [], pi := [] }
theorem simE (q : Int) (h : notIn q = true) : CallSim Proofs.Try.prog (memoA (mE q)) := by
  have hr := err_run q h
  cases hx : runN q with
  | no => rw [hx] at hr; cases hr
  | ok v m n r w =>
    rw [hx] at hr
    have hv := isErr_eq (v := v) hr
    subst hv
    exact memo_sim (M := mE q) rfl (env5.calls 300) hx ⟨rfl, rfl, rfl, List.nodup_nil, fun i b hb => by simp [mE] at hb⟩
theorem veqF_int (k : IntKind) (q : Int) : veqF (.int k q) (.int k q) = true := by simp [veqF]
def errA (f : Nat) (args : List Value) (m : FM) (n : Nat) : OR FM :=
  match args with
  | [.int .i64 q] => cond (Nat.beq f 24 && notIn q) (.ok errV m n 0 0) .no
  | _ => .no
theorem errA_memo {f : Nat} {args : List Value} {m m' : FM} {n n' r w : Nat} {v : Value} (h : errA f args m n = .ok v m' n' r w) : ∃ q, notIn q = true ∧ memoA (mE q) f args m n = .ok v m' n' r w := by
  unfold errA at h
  split at h
  · rename_i q
    cases hc : (Nat.beq f 24 && notIn q)
    · rw [hc] at h; cases h
    · rw [hc] at h
      rw [Bool.and_eq_true] at hc
      refine ⟨q, hc.2, ?_⟩
      rw [← h]
      have hv : veqL [Value.int .i64 q] [Value.int .i64 q] = true := by simp [veqL, veqF_int]
      have hw : newW n 0 = 0 := by show (2 ^ 0 - 1) <<< n = 0; simp
      show cond (Nat.beq f 24 && veqL [Value.int .i64 q] [Value.int .i64 q]) (OR.ok errV m (n + 0) 0 (newW n 0)) OR.no = OR.ok errV m n 0 0
      rw [hc.1, hv, hw]; rfl
  · cases h
theorem errA_loc : CallLoc errA := fun f args m n v m' n' r wm h => by
  obtain ⟨q, _, h⟩ := errA_memo h
  exact memo_loc (mE q) f args m n v m' n' r wm h
theorem errA_sim : CallSim Proofs.Try.prog errA := fun f args m n v m' n' r wm h => by
  obtain ⟨q, hq, h⟩ := errA_memo h
  exact simE q hq f args m n v m' n' r wm h
theorem errA_apart {t : List (Nat × AFn)} (h : look t 24 = none) : V.Apart t errA := by
  intro f fn hf args m n
  unfold errA
  split
  · cases hb : Nat.beq f 24
    · rfl
    · obtain rfl := Nat.eq_of_beq_eq_true hb
      rw [h] at hf; cases hf
  · rfl
def noF : FCal := fun _ _ _ _ => .no
theorem envE : Env Proofs.Try.prog tabC (altA errA (memosA memsC Y5)) noF :=
  ⟨mix, tabC_good, envC.small, alt_loc errA_loc envC.loc, alt_sim errA_sim envC.sim, fun _ _ _ _ => trivial, apart_alt (errA_apart (by kernel_rfl)) envC.apart⟩
noncomputable abbrev runS (q : Int) : OR FM := callA (look tabC) (altA errA (memosA memsC Y5)) (exec Proofs.Try.prog (look tabC) (altA errA (memosA memsC Y5)) 300) 9 [.int .i64 q] FM0 0
theorem s_neg (x : Nat) : gaveTA (runS (Int.negSucc x)) = true := by kernel_rfl
theorem s_big (x : Nat) : gaveTA (runS (Int.ofNat (x + 10))) = true := by kernel_rfl
theorem s_0 : gaveTA (runS (Int.ofNat 0)) = true := by kernel_rfl
theorem s_1 : gaveTA (runS (Int.ofNat 1)) = true := by kernel_rfl
theorem s_2 : gaveTA (runS (Int.ofNat 2)) = true := by kernel_rfl
theorem s_3 : gaveTA (runS (Int.ofNat 3)) = true := by kernel_rfl
theorem s_4 : gaveTA (runS (Int.ofNat 4)) = true := by kernel_rfl
theorem s_5 : gaveTA (runS (Int.ofNat 5)) = true := by kernel_rfl
theorem s_6 : gaveTA (runS (Int.ofNat 6)) = true := by kernel_rfl
theorem s_7 : gaveTA (runS (Int.ofNat 7)) = true := by kernel_rfl
theorem s_8 : gaveTA (runS (Int.ofNat 8)) = true := by kernel_rfl
theorem s_9 : gaveTA (runS (Int.ofNat 9)) = true := by kernel_rfl
theorem s_run (q : Int) : gaveTA (runS q) = true := by
  cases q with
  | negSucc x => exact s_neg x
  | ofNat n =>
    match n with
    | 0 => exact s_0
    | 1 => exact s_1
    | 2 => exact s_2
    | 3 => exact s_3
    | 4 => exact s_4
    | 5 => exact s_5
    | 6 => exact s_6
    | 7 => exact s_7
    | 8 => exact s_8
    | 9 => exact s_9
    | n + 10 => exact s_big n
theorem sizes_calls (q : Int) (w : World) : Calls Proofs.Try.prog 9 #[.int .i64 q] w fun e w' => e = .returned (.bool true) ∧ Below w.heap.size w w' := envE.lawA (args := [.int .i64 q]) (free_args rfl) (s_run q) w
end Go.Am.C05
