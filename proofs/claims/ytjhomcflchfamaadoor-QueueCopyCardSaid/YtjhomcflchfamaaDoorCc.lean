/- The machine and its runs, part Cc: Am41ogc. -/
import Derived.Test.YtjhomcflchfamaaDoorB15
import Derived.Test.YtjhomcflchfamaaDoorBc
set_option linter.unusedVariables false
set_option linter.unusedSimpArgs false
set_option linter.unusedSectionVars false
namespace Go.Am.C41
open Go Go.Am Go.Am.V Go.RowKit Go.ChangeShapes
set_option maxRecDepth 1000000
theorem queueCopy_calls (c : Cmd) (sa : Value) (w : World) (hF : c.Fit) (ha : DatW w sa c.data) :
    Calls Proofs.Tryd.prog 6 #[cmdV c sa] w fun e w' => e = .returned (.bool true) ∧ Below w.heap.size w w' := by
  obtain ⟨o1, v1, r1, e1, d1⟩ := dat_ent ha 0
  have h0 : ([o1] : List (Option Ent))[0]? = some o1 := rfl
  obtain ⟨hm, hf⟩ := ent_world (w := w) (L := [o1]) fun i e he => by
    match i with
    | 0 => rw [h0] at he; injection he with he; exact e1 _ e he
    | i + 1 => simp at he
  have hv := r1 (entRen [o1]) fun e he => entRen_at (by rw [h0, he])
  obtain ⟨r, hrun⟩ := copyLaw hyB tqB trB (by kernel_rfl) (entMem [o1]) 1 c v1 hF (d1 _ _ (by omega) fun e he => entMem_at (by rw [h0, he]))
  have hL : LRel (entRen [o1]) (c.cells v1) (c.cells sa) := .cons (.flat rfl) (.cons (.flat rfl) (.cons (.flat rfl) (.cons (.flat rfl) (.cons (.flat rfl) (.cons (.flat rfl) (.cons (.flat rfl) (.cons (.flat rfl) (.cons hv (.nil _)))))))))
  have hc : VRel (entRen [o1]) (cmdV c v1) (cmdV c sa) := .agg rfl fun i p q hp hq => hL.2 i p q (by simpa [Cmd.cells] using hp) (by simpa [Cmd.cells] using hq)
  exact Go.Am.Env.topW envB (args' := #[cmdV c sa]) hrun (.cons hc (.nil _)) hm hf
end Go.Am.C41
