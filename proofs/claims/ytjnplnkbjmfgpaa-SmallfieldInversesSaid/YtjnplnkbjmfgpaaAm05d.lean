/- Chapter 05: what the laws over elements share. -/
import Derived.Test.YtjnplnkbjmfgpaaAm05c
set_option linter.unusedVariables false
set_option linter.unusedSimpArgs false
set_option linter.unusedSectionVars false
namespace Go.Am.C05
open Go Go.Am Go.Am.V Go.Am.Fast Go.RowKit
theorem tmod_u8 {y q : Nat} (hy : y < 256) : Int.tmod (wrapF .i64 (Int.ofNat y)) (Int.ofNat q) = Int.ofNat (y % q) := by
  rw [wrapF_eq, wrap_id_i64 (by show (-9223372036854775808 : Int) ≤ (y : Int); omega) (by show (y : Int) < 9223372036854775808; omega)]
  rfl
noncomputable def box1 (c : List FV) : FTr := [some ⟨c, 0, false, true⟩]
theorem absM_box (c : List FV) : absM (box1 c) 1 = AMem.put FM0 0 (some (.cells (c.map toV) 0 false true)) := by
  show absM (some ⟨c, 0, false, true⟩ :: []) (Nat.succ 0) = _
  rw [absM_new, absM_nil]; rfl
noncomputable def fe8 (y : Nat) : FV := .o (.int .u8 (Int.ofNat y))
/-- the first two parts of a law over elements -/
theorem head_u8 {c : AC} {z : Nat} {xs : List FV} (hA : RunD (lft c) [.int .u8 (Int.ofNat z), .agg (xs.map toV).toArray] FM0 0 .norm [.bool false, .pointer (some ⟨0, 0, none⟩), .int .u8 (Int.ofNat z), .agg (xs.map toV).toArray] (AMem.put FM0 0 (some (.cells (xs.map toV) 0 false true))) 1)
    (hB : ∀ m, RunD (lft (rgt c)) [.bool false, .pointer (some ⟨0, 0, none⟩), .int .u8 (Int.ofNat z), .agg (xs.map toV).toArray] m 1 .norm [.bool false, .bool false, .pointer (some ⟨0, 0, none⟩), .int .u8 (Int.ofNat z), .agg (xs.map toV).toArray] m 1)
    {R : AC} (hc : c = .seq (lft c) (.seq (lft (rgt c)) (.seq (fieldC 3) R))) (hz : z < 256) {X : AX} {e' : List Value} {m' : FM} {n' : Nat}
    (hR : RunD R (.bool true :: .int .i64 (Int.ofNat (fQ (z % 7))) :: .pointer (some ⟨1 + 0, 0, none⟩) :: [.bool false, .bool false, .pointer (some ⟨0, 0, none⟩), .int .u8 (Int.ofNat z), .agg (xs.map toV).toArray])
      (layA (fun b => 1 + b) (fB (z % 7)) 1 (absM (box1 xs) 1)) (1 + (fB (z % 7)).length) X e' m' n') :
    RunD c [.int .u8 (Int.ofNat z), .agg (xs.map toV).toArray] FM0 0 X e' m' n' := by
  rw [hc]
  refine Runs.seq hA (Runs.seq (hB _) (Runs.seq (fieldC_run 3 z hz _ _ 1 rfl) ?_))
  rw [absM_box] at hR
  exact hR
end Go.Am.C05
