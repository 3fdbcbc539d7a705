/- The machine and its runs: more of the parts above. -/
import Derived.Test.YtibpnegblcdioaaDoorB11
set_option linter.unusedVariables false
set_option linter.unusedSimpArgs false
set_option linter.unusedSectionVars false
namespace Go.Am
open Go
section
variable {μ : Type} [AMem μ] {P : Program} {rec : Nat → List Value → μ → Nat → OR μ}
end
section
variable {μ : Type} [AMem μ] {P : Program} {E : Nat → Option AFn} {Y : Nat → List Value → μ → Nat → OR μ} {e : List Value} {m : μ} {n : Nat}
theorem leaveA_keep {m0 : μ} {n0 : Nat} {v : Value} {n r w : Nat} (hv : addrFree v = false) : leaveA m0 n0 v m n r w = .ok v m n r w := by
  unfold leaveA
  rw [hv]; rfl
end
end Go.Am
namespace Go.Am
open Go
end Go.Am
namespace Go.Am
open Go
end Go.Am
namespace Go.Am
open Go
section
variable {P : Program} {E : Nat → Option AFn} {Y : Nat → List Value → FM → Nat → OR FM}
variable {K : List Frm} {w0 : Nat} {Q : AX → List Value → FM → Nat → Nat → Prop} {e : List Value} {m : FM} {n r w : Nat}
theorem wr_end {x : CR FM} {Q1 : AX → List Value → FM → Nat → Nat → Prop} (h : Gv x Q1) (hk : ∀ X e m n w, Q1 X e m n w → Q X e m n (Nat.lor w0 w)) : Wr P E Y [] w0 x Q := Gv.mono h hk
variable {rec : Nat → List Value → FM → Nat → OR FM} {l : List AI} {lx : List (AI × Nat)} {x : OR FM} {v : Value} {r0 w1 : Nat}
theorem use_rt {R : Value → FM → Nat → Nat → Prop} (h : Rt x R) (hk : ∀ v m' n' r' w', R v m' n' w' → Wr P E Y K w0 (outS (runS P rec l (.ok (v :: e) m' n' (Nat.lor r0 r') (Nat.lor w1 w')))) Q) : Wr P E Y K w0 (outS (runS P rec l (keep e r0 w1 x))) Q := by
  obtain ⟨v, m', n', r', w', rfl, hq⟩ := h.some
  exact hk _ _ _ _ _ hq
theorem use_rtX {b k : Nat} {kv : Bool} {done : List (Nat × Nat × Nat)} {R : Value → FM → Nat → Nat → Prop} (h : Rt x R) (hk : ∀ v m' n' r' w', R v m' n' w' → Wr P E Y K w0 (outX (runX P rec lx (keepD b kv k done e r0 w1 (.ok v m' n' r' w')))) Q) : Wr P E Y K w0 (outX (runX P rec lx (keepD b kv k done e r0 w1 x))) Q := by
  obtain ⟨v, m', n', r', w', rfl, hq⟩ := h.some
  exact hk _ _ _ _ _ hq
end
section
variable {P : Program} {rec : Nat → List Value → FM → Nat → OR FM}
variable {E : Nat → Option AFn} {Y : Nat → List Value → FM → Nat → OR FM} {e : List Value} {m : FM} {n : Nat}
end
section
variable {m : FM} {n b o : Nat}
end
section
variable {P : Program} {E : Nat → Option AFn} {Y : Nat → List Value → FM → Nat → OR FM} {m : FM} {n : Nat}
end
section
variable {μ : Type} [AMem μ] {P : Program} {rec : Nat → List Value → μ → Nat → OR μ}
end
section
variable {m : FM} {n : Nat}
end
end Go.Am
