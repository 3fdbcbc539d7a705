/- SmallfieldInverses returns true: negated elements and inverses exist, and equations have unique solutions. No condition on the arguments. -/
import Derived.Test.YtjnplnkbjmfgpaaRows
import Derived.WalkKit
import Derived.Test.YtjnplnkbjmfgpaaAm05i
import Derived.Test.YtjnplnkbjmfgpaaAmArr
import Derived.ProofKit
import Derived.OpenShut
namespace Go.Proofs.Ytjnplnkbjmfgpaa.smallfieldInverses
open Go.ChangeShapes Go.WideShapes Go.ChangeAt Go.RowKit Go.Am
set_option linter.unusedVariables false      -- a walk need not use every 'w<i>' (that an integer argument fits its kind)

theorem own : ownKnob Try.prog.godebug = none := by kernel_rfl

theorem walk (a0 : Int) (x0 : Int) (x1 : Int) (w0 : (Lit.int .u8 a0).wf = true) (u0 : (Lit.int .u8 x0).wf = true) (u1 : (Lit.int .u8 x1).wf = true) (w : World) :
    Calls Try.prog 6 #[.int .u8 a0, .agg #[.int .u8 x0, .int .u8 x1]] w fun e w' => e = .returned (.bool true) ∧ Below w.heap.size w w' := by
  obtain ⟨z, hz, rfl⟩ := u8_of w0
  obtain ⟨y0, h0, rfl⟩ := u8_of u0
  obtain ⟨y1, h1, rfl⟩ := u8_of u1
  exact Am.C05.inv_calls z y0 y1 hz h0 h1 w

theorem cells5 : Try.prog.cellsOf 5 = 1 := by kernel_rfl
theorem cells33 : Try.prog.cellsOf 33 = 2 := by kernel_rfl
set_option maxRecDepth 100000 in
theorem lifted (os : Os) (started : os.Started) (H : Type) (enc : TypeId × Value → H) :
    ReturnsInHanded {} Try.checked os 6 .any (Rows.smallfieldInversesSpec.pre6 enc Try.prog Try.f6 Rows.smallfieldInversesRow.domain false) (Rows.smallfieldInversesSpec.post enc Try.prog Try.f6 false true false false) := by
  refine returnsInHanded_of_change (C := Try.checked) own started (by kernel_rfl) Try.func6
    (ChangeSpec.witness6 (enc := enc) (C := Try.checked) false ⟨#[], #[.int .u8 0, .agg #[.int .u8 0, .int .u8 0]], []⟩ 8 (by kernel_rfl) (by kernel_rfl) (by kernel_rfl) (by kernel_rfl)) ?_
  intro W base args ds gs before hval0 hW hcnd _
  have hval : ∀ (j : Nat) t v, Try.f6.params[j]? = some t → args[j]? = some v → Value.okWide Try.prog W .any base t v := hval0
  have hW' := hW
  obtain ⟨p, q, hA0, hV, rfl, hfz, hnd⟩ := hW
  have hA : DataW.TrodAll enc Try.prog W 0 (fun _ => true) true Try.f6.params.toList args.toList ds p := hA0
  rw [Try.params6] at hA hval
  obtain ⟨v0, vs0, d0, ds0, p0, q0, hargs, rfl, rfl, h0, r0⟩ := trodAll_cons hA
  obtain ⟨v1, vs1, d1, ds1, p1, q1, rfl, rfl, rfl, h1, r1⟩ := trodAll_cons r0
  obtain ⟨rfl, rfl, rfl⟩ := trodAll_nil r1
  obtain rfl : args = #[v0, v1] := by cases args; simp_all
  obtain ⟨rfl, rfl⟩ := trodVars_none hV
  obtain ⟨a0, rfl, rfl, rfl, w0⟩ := open_int Try.underlying5 (hval 0 5 v0 rfl rfl) h0
  obtain ⟨x0, x1, rfl, rfl, rfl, u0, u1⟩ := open_arr2 Try.underlying33 Try.underlying5 cells5 cells33 (hval 1 33 v1 rfl rfl) h1
  clear hA0 hval0
  simp only [List.append_nil] at hW'
  refine (walk a0 x0 x1 w0 u0 u1 W).mono fun e W' ⟨he, hg⟩ => ?_
  subst he
  exact ⟨_, rfl, post_below (pa := []) (pv := []) hW' (fun _ _ _ => (trodAll_cons_mk (shut_bool Try.underlying4 _) trodAll_mk0)) (fun sp _ => (trodAll_cons_mk (shut_int Try.underlying5 w0) (trodAll_cons_mk (shut_arr2 Try.underlying33 Try.underlying5 cells5 cells33 u0 u1) trodAll_mk0))) (fun _ _ => rfl) rfl
    hg (ok_one (by kernel_rfl) rfl (okWide_bool_mk Try.underlying4 _))⟩

theorem over : Rows.smallfieldInversesRow.holds Try.pinned (OpenSpec.ofChange Rows.smallfieldInversesSpec) :=
  OpenClaim.holds_of_wide 6 Try.f6 rfl rfl rfl rfl rfl rfl rfl ⟨rfl, rfl, rfl, rfl, rfl⟩ rfl rfl rfl rfl rfl (by kernel_rfl) Try.func6 (by kernel_rfl)
    (of_decide_eq_true (by kernel_rfl)) (by unfold Func.isWrapper; first | (rw [if_pos (by decide +kernel)]; kernel_rfl) | (rw [if_neg (by decide +kernel)]; exact ⟨rfl, rfl⟩))
    (fun os started H enc _ => lifted os started H enc)

theorem proved : Rows.SmallfieldInversesSaid :=
  over
#print axioms proved
end Go.Proofs.Ytjnplnkbjmfgpaa.smallfieldInverses
