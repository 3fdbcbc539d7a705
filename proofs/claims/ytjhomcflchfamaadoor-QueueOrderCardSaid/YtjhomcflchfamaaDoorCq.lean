/- The machine and its runs, part Cq: Am41ogq. -/
import Derived.Test.YtjhomcflchfamaaDoorZ
import Derived.Test.YtjhomcflchfamaaDoorB15
import Derived.Test.YtjhomcflchfamaaDoorBq
set_option linter.unusedVariables false
set_option linter.unusedSimpArgs false
set_option linter.unusedSectionVars false
namespace Go.Am.C41
open Go Go.Am Go.Am.V Go.RowKit Go.ChangeShapes
set_option maxRecDepth 1000000
theorem queueOrder_calls (w : World) (sv tv : Value) (cs : List (Cmd × Value)) (ps : List Int) (h : CmdsW w sv cs) (hs : cs.length ≤ 9223372036854775807) (ht : ValsW w tv (ps.map (Value.int .u8))) (hu : ∀ x ∈ ps, (Lit.int .u8 x).wf = true) (hl : ps.length ≤ 9223372036854775807) :
    Calls Proofs.Tryd.prog 3 #[sv, tv] w fun e w' => e = .returned (.bool true) ∧ Below w.heap.size w w' := by
  have hfl : ∀ x ∈ ps.map (Value.int .u8), flat x = true := fun x hx => by
    obtain ⟨b, _, rfl⟩ := List.mem_map.1 hx; rfl
  have hpu : ∀ x ∈ ps, 0 ≤ x ∧ x < 256 := fun x hx => ⟨(bounds_u8 (hu x hx)).1, by have := (bounds_u8 (hu x hx)).2; omega⟩
  obtain ⟨L, v, cs', hL, hl', hrel, hmem⟩ := cmdsw_ent h
  obtain ⟨o, x, k1, k2, k3⟩ := vals_ent ht hfl L.length
  have hat : ∀ (i : Nat) e, L[i]? = some (some e) → (L ++ [o])[i]? = some (some e) := fun i e he => by
    rw [List.getElem?_append_left (List.getElem?_eq_some_iff.1 he).1]; exact he
  have hlast : (L ++ [o])[L.length]? = some o := by simp
  obtain ⟨hv, hok⟩ := hrel (entRen (L ++ [o])) fun i e he => entRen_at (hat i e he)
  obtain ⟨hm, hf⟩ := ent_world (w := w) (L := L ++ [o]) fun i e he => by
    rcases Nat.lt_or_ge i L.length with hi | hi
    · rw [List.getElem?_append_left hi] at he; exact hok i e he
    · have : i < (L ++ [o]).length := (List.getElem?_eq_some_iff.1 he).1
      rw [List.length_append, List.length_singleton] at this
      obtain rfl : i = L.length := by omega
      rw [hlast] at he; injection he with he
      exact k2 _ e he
  have hx := k1 (entRen (L ++ [o])) fun e he => entRen_at (by rw [hlast, he])
  obtain ⟨r, hrun⟩ := orderLaw hyB tqB trB (by kernel_rfl) (entMem (L ++ [o])) (L ++ [o]).length v x cs' ps (hmem _ _ (by rw [List.length_append, List.length_singleton]; omega) fun i e he => entMem_at (hat i e he)) (by rw [hl']; exact hs)
    (k3 _ _ (by rw [List.length_append, List.length_singleton]; omega) fun e he => entMem_at (by rw [hlast, he])) hl hpu
  exact Go.Am.Env.topW envB (args' := #[sv, tv]) hrun (.cons hv (.cons hx (.nil _))) hm hf
end Go.Am.C41
