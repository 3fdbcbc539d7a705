/- What a slice shows on the model's side; what a call leaves that wrote nothing old. -/
import Derived.Test.YtaohgpgbphlblaaAmTree
set_option linter.unusedVariables false
set_option linter.unusedSimpArgs false
set_option linter.unusedSectionVars false
namespace Go.Am
open Go Go.RowKit
section
variable {μ : Type} [AMem μ] {ρ : Ren} {V : Nat → Option Blk} {w w' : World} {B : Nat}

theorem Post.of_below {n : Nat} {m : μ} (hm : MRel ρ V w B) (hb : Below w.heap.size w w') : Post ρ V w B n m n 0 ρ w' :=
  ⟨Ren.le_refl ρ, fun _ _ h => .inl h, by
    rw [upd_zero]
    exact ⟨fun b p O hp hO => (hm.blk b p O hp hO).mono (Ren.le_refl ρ) (hb.block _ (hm.fresh b p hp)), hm.excl, fun b p hp => Nat.lt_of_lt_of_le (hm.fresh b p hp) hb.size, Nat.le_trans hm.le hb.size⟩,
    hb.mono hm.le, Nat.le_refl _, fun k hk _ => hb.block k hk, fun _ _ h => .inl h, fun b h => by simp at h⟩

end
end Go.Am
