/- Chapter 21: one round of each loop. -/
import Derived.Test.YtaohgpgbphlblaaAm21
import Derived.Test.YtaohgpgbphlblaaAmEq
set_option linter.unusedVariables false
set_option linter.unusedSimpArgs false
set_option linter.unusedSectionVars false
namespace Go.Am.C21
open Go Go.Am
section
variable {P : Program} {E : Nat → Option AFn} {Y : Nat → List Value → FM → Nat → OR FM} {e : List Value} {m : FM} {n : Nat}
theorem ac5L0_w : execW P E Y ac5L0 e m n = crRec (execW P E Y ac5L0b e m n) (onNorm (execW P E Y ac5L0)) := w_loop _ _
theorem ac6L0_w : execW P E Y ac6L0 e m n = crRec (execW P E Y ac6L0b e m n) (onNorm (execW P E Y ac6L0)) := w_loop _ _
theorem ac6L1_w : execW P E Y ac6L1 e m n = crRec (execW P E Y ac6L1b e m n) (onNorm (execW P E Y ac6L1)) := w_loop _ _
theorem ac6L2_w : execW P E Y ac6L2 e m n = crRec (execW P E Y ac6L2b e m n) (onNorm (execW P E Y ac6L2)) := w_loop _ _
theorem ac8L0_w : execW P E Y ac8L0 e m n = crRec (execW P E Y ac8L0b e m n) (onNorm (execW P E Y ac8L0)) := w_loop _ _
theorem ac9L0_w : execW P E Y ac9L0 e m n = crRec (execW P E Y ac9L0b e m n) (onNorm (execW P E Y ac9L0)) := w_loop _ _
theorem ac9L1_w : execW P E Y ac9L1 e m n = crRec (execW P E Y ac9L1b e m n) (onNorm (execW P E Y ac9L1)) := w_loop _ _
theorem ac10L0_w : execW P E Y ac10L0 e m n = crRec (execW P E Y ac10L0b e m n) (onNorm (execW P E Y ac10L0)) := w_loop _ _
theorem ac10L1_w : execW P E Y ac10L1 e m n = crRec (execW P E Y ac10L1b e m n) (onNorm (execW P E Y ac10L1)) := w_loop _ _
theorem ac17L0_w : execW P E Y ac17L0 e m n = crRec (execW P E Y ac17L0b e m n) (onNorm (execW P E Y ac17L0)) := w_loop _ _
theorem ac20L0_w : execW P E Y ac20L0 e m n = crRec (execW P E Y ac20L0b e m n) (onNorm (execW P E Y ac20L0)) := w_loop _ _
theorem ac20L1_w : execW P E Y ac20L1 e m n = crRec (execW P E Y ac20L1b e m n) (onNorm (execW P E Y ac20L1)) := w_loop _ _
theorem ac27L0_w : execW P E Y ac27L0 e m n = crRec (execW P E Y ac27L0b e m n) (onNorm (execW P E Y ac27L0)) := w_loop _ _
theorem ac33L0_w : execW P E Y ac33L0 e m n = crRec (execW P E Y ac33L0b e m n) (onNorm (execW P E Y ac33L0)) := w_loop _ _
theorem ac34L0_w : execW P E Y ac34L0 e m n = crRec (execW P E Y ac34L0b e m n) (onNorm (execW P E Y ac34L0)) := w_loop _ _
theorem ac34L1_w : execW P E Y ac34L1 e m n = crRec (execW P E Y ac34L1b e m n) (onNorm (execW P E Y ac34L1)) := w_loop _ _
theorem ac34L2_w : execW P E Y ac34L2 e m n = crRec (execW P E Y ac34L2b e m n) (onNorm (execW P E Y ac34L2)) := w_loop _ _
theorem ac34L3_w : execW P E Y ac34L3 e m n = crRec (execW P E Y ac34L3b e m n) (onNorm (execW P E Y ac34L3)) := w_loop _ _
theorem ac34L4_w : execW P E Y ac34L4 e m n = crRec (execW P E Y ac34L4b e m n) (onNorm (execW P E Y ac34L4)) := w_loop _ _
theorem ac37L0_w : execW P E Y ac37L0 e m n = crRec (execW P E Y ac37L0b e m n) (onNorm (execW P E Y ac37L0)) := w_loop _ _
theorem ac37L1_w : execW P E Y ac37L1 e m n = crRec (execW P E Y ac37L1b e m n) (onNorm (execW P E Y ac37L1)) := w_loop _ _
theorem ac37L2_w : execW P E Y ac37L2 e m n = crRec (execW P E Y ac37L2b e m n) (onNorm (execW P E Y ac37L2)) := w_loop _ _
theorem ac37L3_w : execW P E Y ac37L3 e m n = crRec (execW P E Y ac37L3b e m n) (onNorm (execW P E Y ac37L3)) := w_loop _ _
theorem ac38L0_w : execW P E Y ac38L0 e m n = crRec (execW P E Y ac38L0b e m n) (onNorm (execW P E Y ac38L0)) := w_loop _ _
theorem ac38L1_w : execW P E Y ac38L1 e m n = crRec (execW P E Y ac38L1b e m n) (onNorm (execW P E Y ac38L1)) := w_loop _ _
theorem ac38L2_w : execW P E Y ac38L2 e m n = crRec (execW P E Y ac38L2b e m n) (onNorm (execW P E Y ac38L2)) := w_loop _ _
theorem ac39L0_w : execW P E Y ac39L0 e m n = crRec (execW P E Y ac39L0b e m n) (onNorm (execW P E Y ac39L0)) := w_loop _ _
theorem ac39L1_w : execW P E Y ac39L1 e m n = crRec (execW P E Y ac39L1b e m n) (onNorm (execW P E Y ac39L1)) := w_loop _ _
theorem ac42L0_w : execW P E Y ac42L0 e m n = crRec (execW P E Y ac42L0b e m n) (onNorm (execW P E Y ac42L0)) := w_loop _ _
theorem ac44L0_w : execW P E Y ac44L0 e m n = crRec (execW P E Y ac44L0b e m n) (onNorm (execW P E Y ac44L0)) := w_loop _ _
theorem ac44L1_w : execW P E Y ac44L1 e m n = crRec (execW P E Y ac44L1b e m n) (onNorm (execW P E Y ac44L1)) := w_loop _ _
theorem ac44L2_w : execW P E Y ac44L2 e m n = crRec (execW P E Y ac44L2b e m n) (onNorm (execW P E Y ac44L2)) := w_loop _ _
theorem ac44L3_w : execW P E Y ac44L3 e m n = crRec (execW P E Y ac44L3b e m n) (onNorm (execW P E Y ac44L3)) := w_loop _ _
theorem ac44L4_w : execW P E Y ac44L4 e m n = crRec (execW P E Y ac44L4b e m n) (onNorm (execW P E Y ac44L4)) := w_loop _ _
theorem ac44L5_w : execW P E Y ac44L5 e m n = crRec (execW P E Y ac44L5b e m n) (onNorm (execW P E Y ac44L5)) := w_loop _ _
theorem ac47L0_w : execW P E Y ac47L0 e m n = crRec (execW P E Y ac47L0b e m n) (onNorm (execW P E Y ac47L0)) := w_loop _ _
theorem ac47L1_w : execW P E Y ac47L1 e m n = crRec (execW P E Y ac47L1b e m n) (onNorm (execW P E Y ac47L1)) := w_loop _ _
theorem ac48L0_w : execW P E Y ac48L0 e m n = crRec (execW P E Y ac48L0b e m n) (onNorm (execW P E Y ac48L0)) := w_loop _ _
theorem ac48L1_w : execW P E Y ac48L1 e m n = crRec (execW P E Y ac48L1b e m n) (onNorm (execW P E Y ac48L1)) := w_loop _ _
theorem ac48L2_w : execW P E Y ac48L2 e m n = crRec (execW P E Y ac48L2b e m n) (onNorm (execW P E Y ac48L2)) := w_loop _ _
theorem ac49L0_w : execW P E Y ac49L0 e m n = crRec (execW P E Y ac49L0b e m n) (onNorm (execW P E Y ac49L0)) := w_loop _ _
theorem ac50L0_w : execW P E Y ac50L0 e m n = crRec (execW P E Y ac50L0b e m n) (onNorm (execW P E Y ac50L0)) := w_loop _ _
theorem ac50L1_w : execW P E Y ac50L1 e m n = crRec (execW P E Y ac50L1b e m n) (onNorm (execW P E Y ac50L1)) := w_loop _ _
theorem ac50L2_w : execW P E Y ac50L2 e m n = crRec (execW P E Y ac50L2b e m n) (onNorm (execW P E Y ac50L2)) := w_loop _ _
theorem ac50L3_w : execW P E Y ac50L3 e m n = crRec (execW P E Y ac50L3b e m n) (onNorm (execW P E Y ac50L3)) := w_loop _ _
theorem ac51L0_w : execW P E Y ac51L0 e m n = crRec (execW P E Y ac51L0b e m n) (onNorm (execW P E Y ac51L0)) := w_loop _ _
theorem ac53L0_w : execW P E Y ac53L0 e m n = crRec (execW P E Y ac53L0b e m n) (onNorm (execW P E Y ac53L0)) := w_loop _ _
theorem ac54L0_w : execW P E Y ac54L0 e m n = crRec (execW P E Y ac54L0b e m n) (onNorm (execW P E Y ac54L0)) := w_loop _ _
end
noncomputable abbrev PG : Program := Proofs.Try.prog
end Go.Am.C21
