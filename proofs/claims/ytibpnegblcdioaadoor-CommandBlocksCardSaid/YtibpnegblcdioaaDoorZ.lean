/- The machine and its runs: more of the parts above. -/
import Derived.Test.YtibpnegblcdioaaDoorB11
set_option linter.unusedVariables false
set_option linter.unusedSimpArgs false
set_option linter.unusedSectionVars false
namespace Go.Am
open Go
section
variable {μ : Type} [AMem μ] {P : Program} {rec : Nat → List Value → μ → Nat → OR μ}
end
section
variable {μ : Type} [AMem μ] {P : Program} {E : Nat → Option AFn} {Y : Nat → List Value → μ → Nat → OR μ} {e : List Value} {m : μ} {n : Nat}
theorem leaveA_keep {m0 : μ} {n0 : Nat} {v : Value} {n r w : Nat} (hv : addrFree v = false) : leaveA m0 n0 v m n r w = .ok v m n r w := by
  unfold leaveA
  rw [hv]; rfl
end
end Go.Am
namespace Go.Am
open Go
end Go.Am
namespace Go.Am
open Go
end Go.Am
namespace Go.Am
open Go
section
variable {P : Program} {E : Nat → Option AFn} {Y : Nat → List Value → FM → Nat → OR FM}
variable {K : List Frm} {w0 : Nat} {Q : AX → List Value → FM → Nat → Nat → Prop} {e : List Value} {m : FM} {n r w : Nat}
theorem wr_end {x : CR FM} {Q1 : AX → List Value → FM → Nat → Nat → Prop} (h : Gv x Q1) (hk : ∀ X e m n w, Q1 X e m n w → Q X e m n (Nat.lor w0 w)) : Wr P E Y [] w0 x Q := Gv.mono h hk
variable {rec : Nat → List Value → FM → Nat → OR FM} {l : List AI} {lx : List (AI × Nat)} {x : OR FM} {v : Value} {r0 w1 : Nat}
end
section
variable {P : Program} {rec : Nat → List Value → FM → Nat → OR FM}
variable {E : Nat → Option AFn} {Y : Nat → List Value → FM → Nat → OR FM} {e : List Value} {m : FM} {n : Nat}
end
section
variable {m : FM} {n b o : Nat}
end
section
variable {P : Program} {E : Nat → Option AFn} {Y : Nat → List Value → FM → Nat → OR FM} {m : FM} {n : Nat}
end
section
variable {μ : Type} [AMem μ] {P : Program} {rec : Nat → List Value → μ → Nat → OR μ}
end
section
variable {m : FM} {n : Nat}
end
end Go.Am
