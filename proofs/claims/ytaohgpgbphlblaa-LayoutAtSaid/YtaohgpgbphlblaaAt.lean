/- LayoutAt returns true: At returns the piece whose home a place is, or the first error that applies. No condition on the arguments. -/
import Derived.Test.YtaohgpgbphlblaaRows
import Derived.WalkKit
import Derived.Test.YtaohgpgbphlblaaB6
import Derived.ProofKit
import Derived.OpenShut
import Derived.WideKeyArgs
import Derived.ChangeSame
namespace Go.Proofs.Ytaohgpgbphlblaa.layoutAt
open Go.ChangeShapes Go.WideShapes Go.ChangeAt Go.RowKit Go.Am
set_option linter.unusedVariables false
set_option linter.unusedSimpArgs false

theorem own : ownKnob Try.prog.godebug = none := by kernel_rfl
theorem laidOut : laidOutB Try.prog = true := by kernel_rfl
theorem cP : Try.prog.cellsOf 31 = 2 := by kernel_rfl
theorem c3 : Try.prog.cellsOf 3 = 1 := by kernel_rfl
theorem open_place {H : Type} {enc : TypeId × Value → H} {W : World} {base : Nat} {v : Value} {d : DataW H} {ps : List MemPlace} (hval : Value.okWide Try.prog W .any base 31 v) (h : DataW.Trod enc Try.prog W 0 (fun _ => true) true 31 v d ps) :
    ∃ a b, v = .agg #[.int .i64 a, .int .i64 b] ∧ ps = [] := by
  obtain ⟨cs, rfl, hcs⟩ := okWide_struct Try.underlying31 hval
  rw [cP] at hcs
  obtain ⟨fuel, hf⟩ := h
  obtain ⟨l⟩ := cs
  match l, hcs with
  | [a, b], _ =>
    obtain ⟨y0, y1, n, hx, _, h0, h1⟩ := trod_struct2 Try.underlying31 hf
    simp only [Value.cells, c3, List.drop_zero, List.take_succ_cons, List.take_zero, List.drop_succ_cons] at h0 h1
    obtain ⟨p, e0, g0, _⟩ := DataW.trod_int Try.underlying3 h0
    obtain ⟨q, e1, g1, _⟩ := DataW.trod_int Try.underlying3 h1
    simp only [List.cons.injEq, and_true] at e0 e1
    subst e0; subst e1; subst g0; subst g1
    injection hx with _ hp
    exact ⟨p, q, rfl, hp⟩
theorem nat_ofu16 {a : Int} (h : (Lit.int .u16 a).wf = true) : ∃ z : Nat, z < 65536 ∧ a = (z : Int) := by
  have := bounds_u16 h
  exact ⟨a.toNat, by omega, by omega⟩

theorem walk (a0 : Int) (w0 : (Lit.int .u16 a0).wf = true) (a1 b1 : Int) (w : World) :
    Calls Try.prog 4 #[.int .u16 a0, .agg #[.int .i64 a1, .int .i64 b1]] w fun e w' => e = .returned (.bool true) ∧ Below w.heap.size w w' := by
  obtain ⟨z0, hz0, rfl⟩ := nat_ofu16 w0
  exact Am.C21.layoutAt_calls z0 hz0 a1 b1 w

set_option maxRecDepth 100000 in
theorem lifted (os : Os) (started : os.Started) (H : Type) (enc : TypeId × Value → H) :
    ReturnsInHanded {} Try.checked os 4 .any (Rows.layoutAtSpec.pre6 enc Try.prog Try.f4 Rows.layoutAtRow.domain false) (Rows.layoutAtSpec.post enc Try.prog Try.f4 false true false false) := by
  refine returnsInHanded_of_change (C := Try.checked) own started (by kernel_rfl) Try.func4
    (ChangeSpec.witness6 (enc := enc) (C := Try.checked) false ⟨#[], #[.int .u16 0, .agg #[.int .i64 0, .int .i64 0]], []⟩ 8 (by kernel_rfl) (by kernel_rfl) (by kernel_rfl) (by kernel_rfl)) ?_
  intro W base args ds gs before hval0 hW hcnd _
  have hval : ∀ (j : Nat) t v, Try.f4.params[j]? = some t → args[j]? = some v → Value.okWide Try.prog W .any base t v := hval0
  have hW' := hW
  obtain ⟨p, q, hA0, hV, rfl, hfz, hnd⟩ := hW
  have hA : DataW.TrodAll enc Try.prog W 0 (fun _ => true) true Try.f4.params.toList args.toList ds p := hA0
  rw [Try.params4] at hA hval
  obtain ⟨v0, vs0, d0, ds0, p0, q0, hargs, rfl, rfl, h0, r0⟩ := trodAll_cons hA
  obtain ⟨v1, vs1, d1, ds1, p1, q1, rfl, rfl, rfl, h1, r1⟩ := trodAll_cons r0
  obtain ⟨rfl, rfl, rfl⟩ := trodAll_nil r1
  obtain rfl : args = #[v0, v1] := by cases args; simp_all
  obtain ⟨rfl, rfl⟩ := trodVars_none hV
  obtain ⟨a0, rfl, rfl, rfl, w0⟩ := open_int Try.underlying22 (hval 0 22 v0 rfl rfl) h0
  have h1k := h1
  obtain ⟨a1, b1, rfl, rfl⟩ := open_place (hval 1 31 v1 rfl rfl) h1
  clear hA0 hval0
  simp only [List.append_nil] at hW'
  refine (walk a0 w0 a1 b1 W).mono fun e W' ⟨he, hg⟩ => ?_
  subst he
  exact ⟨_, rfl, post_below (pa := []) (pv := []) hW' (fun _ _ _ => (trodAll_cons_mk (shut_bool Try.underlying4 _) trodAll_mk0)) (fun sp _ => (trodAll_cons_mk (shut_int Try.underlying22 w0) (trodAll_cons_mk (WideElems.Trod_stays laidOut (by kernel_rfl) (of_decide_eq_true (by kernel_rfl)) h1k (W' := W') (sp' := sp) (fun x hx => by cases hx) (fun x hx => by cases hx)) trodAll_mk0))) (fun _ _ => rfl) rfl
    hg (ok_one (by kernel_rfl) rfl (okWide_bool_mk Try.underlying4 _))⟩

theorem over : Rows.layoutAtRow.holds Try.pinned (OpenSpec.ofChange Rows.layoutAtSpec) :=
  OpenClaim.holds_of_wide 4 Try.f4 rfl rfl rfl rfl rfl rfl rfl ⟨rfl, rfl, rfl, rfl, rfl⟩ rfl rfl rfl rfl rfl (by kernel_rfl) Try.func4 (by kernel_rfl)
    (of_decide_eq_true (by kernel_rfl)) (by unfold Func.isWrapper; first | (rw [if_pos (by decide +kernel)]; kernel_rfl) | (rw [if_neg (by decide +kernel)]; exact ⟨rfl, rfl⟩))
    (fun os started H enc _ => lifted os started H enc)

theorem proved : Rows.LayoutAtSaid :=
  over
#print axioms proved
end Go.Proofs.Ytaohgpgbphlblaa.layoutAt
