/- LayoutErrors returns true: for a layout that is not valid, all functions return ErrArg. No condition on the arguments. -/
import Derived.Test.YtaohgpgbphlblaaRows
import Derived.WalkKit
import Derived.Test.YtaohgpgbphlblaaAm21p
import Derived.Test.YtaohgpgbphlblaaAmPost
import Derived.ProofKit
import Derived.OpenShut
import Derived.WideKeyArgs
import Derived.ChangeSame
import Derived.Deep.Strs
namespace Go.Proofs.Ytaohgpgbphlblaa.layoutErrors
open Go.ChangeShapes Go.WideShapes Go.ChangeAt Go.RowKit Go.Am Go.Deep
set_option linter.unusedVariables false
set_option linter.unusedSimpArgs false

theorem own : ownKnob Try.prog.godebug = none := by kernel_rfl
theorem laidOut : laidOutB Try.prog = true := by kernel_rfl
theorem c28 : Try.prog.cellsOf 28 = 4 := by kernel_rfl
theorem c26 : Try.prog.cellsOf 26 = 2 := by kernel_rfl
theorem c24 : Try.prog.cellsOf 24 = 1 := by kernel_rfl
theorem c56 : Try.prog.cellsOf 56 = 1 := by kernel_rfl
theorem c3 : Try.prog.cellsOf 3 = 1 := by kernel_rfl

/-- a layout, opened -/
theorem open_layout {H : Type} {enc : TypeId × Value → H} {W : World} {base : Nat} {v : Value} {d : DataW H} {ps : List MemPlace} (hval : Value.okWide Try.prog W .any base 28 v) (h : DataW.Trod enc Try.prog W 0 (fun _ => true) true 28 v d ps) :
    ∃ disks tiles spare g gs, v = .agg #[.int .i64 disks, g, .int .i64 tiles, .int .i64 spare] ∧ RowsW W g gs := by
  obtain ⟨cs, rfl, hcs⟩ := okWide_struct Try.underlying28 hval
  rw [c28] at hcs
  obtain ⟨fuel, hf⟩ := h
  obtain ⟨l⟩ := cs
  match l, hcs with
  | [a, b, c, e], _ =>
    obtain ⟨y0, y1, y2, n, _, _, h0, h1, h2⟩ := trod_struct3 Try.underlying28 hf
    obtain ⟨z0, z1, k, _, _, k0, k1⟩ := trod_struct2 Try.underlying26 h0
    simp only [Value.cells, c26, c24, c3, List.drop_zero, List.take_succ_cons, List.take_zero, List.drop_succ_cons] at h1 h2 k0 k1
    obtain ⟨disks, e0, _, _⟩ := DataW.trod_int Try.underlying3 k0
    obtain ⟨tiles, e1, _, _⟩ := DataW.trod_int Try.underlying3 h1
    obtain ⟨spare, e2, _, _⟩ := DataW.trod_int Try.underlying3 h2
    obtain ⟨g, gs, e3, hr⟩ := rows_of_trod Try.underlying24 Try.underlying56 Try.underlying3 c56 c3 k1
    simp only [List.cons.injEq, and_true] at e0 e1 e2 e3
    subst e0; subst e1; subst e2; subst e3
    exact ⟨disks, tiles, spare, b, gs, rfl, hr⟩

set_option maxRecDepth 100000 in
theorem lifted (os : Os) (started : os.Started) (H : Type) (enc : TypeId × Value → H) :
    ReturnsInHanded {} Try.checked os 12 .any (Rows.layoutErrorsSpec.pre6 enc Try.prog Try.f12 Rows.layoutErrorsRow.domain false) (Rows.layoutErrorsSpec.post enc Try.prog Try.f12 false true false false) := by
  refine returnsInHanded_of_change (C := Try.checked) own started (by kernel_rfl) Try.func12
    (ChangeSpec.witness6 (enc := enc) (C := Try.checked) false ⟨#[], #[.agg #[.int .i64 0, .slice none 0 0, .int .i64 0, .int .i64 0], .int .i64 0], []⟩ 8 (by kernel_rfl) (by kernel_rfl) (by kernel_rfl) (by kernel_rfl)) ?_
  intro W base args ds gs before hval0 hW hcnd _
  have hval : ∀ (j : Nat) t v, Try.f12.params[j]? = some t → args[j]? = some v → Value.okWide Try.prog W .any base t v := hval0
  have hW' := hW
  obtain ⟨p, q, hA0, hV, rfl, hfz, hnd⟩ := hW
  have hA : DataW.TrodAll enc Try.prog W 0 (fun _ => true) true Try.f12.params.toList args.toList ds p := hA0
  rw [Try.params12] at hA hval
  obtain ⟨v0, vs0, d0, ds0, p0, q0, hargs, rfl, rfl, h0, r0⟩ := trodAll_cons hA
  obtain ⟨v1, vs1, d1, ds1, p1, q1, rfl, rfl, rfl, h1, r1⟩ := trodAll_cons r0
  obtain ⟨rfl, rfl, rfl⟩ := trodAll_nil r1
  obtain rfl : args = #[v0, v1] := by cases args; simp_all
  obtain ⟨rfl, rfl⟩ := trodVars_none hV
  obtain ⟨k, rfl, rfl, rfl, w1⟩ := open_int Try.underlying3 (hval 1 3 v1 rfl rfl) h1
  have h0k := h0
  obtain ⟨disks, tiles, spare, g, rows, rfl, hr⟩ := open_layout (hval 0 28 v0 rfl rfl) h0
  clear hA0 hval0
  simp only [List.append_nil] at hW'
  have hlt : ∀ x ∈ p0, x.block < W.heap.size := fun x hx => hW'.lt x (by simpa using hx)
  refine (Am.C21.layoutErrors_calls disks tiles spare k g rows W hr).mono fun e W' ⟨he, hg⟩ => ?_
  subst he
  exact ⟨_, rfl, post_below (pa := p0) (pv := []) hW' (fun _ _ _ => (trodAll_cons_mk (shut_bool Try.underlying4 _) trodAll_mk0)) (fun sp hsp => by
      have := trodAll_cons_mk (WideElems.Trod_stays laidOut (by kernel_rfl) (of_decide_eq_true (by kernel_rfl)) h0k (W' := W') (sp' := sp) (fun x hx => hg.same (hlt x hx)) (fun x hx => hsp x (by simpa using hx))) (trodAll_cons_mk (shut_int Try.underlying3 w1) trodAll_mk0)
      simp only [List.append_nil, List.nil_append] at this
      exact this) (fun _ _ => rfl) (by simp)
    hg (ok_one (by kernel_rfl) rfl (okWide_bool_mk Try.underlying4 _))⟩

theorem over : Rows.layoutErrorsRow.holds Try.pinned (OpenSpec.ofChange Rows.layoutErrorsSpec) :=
  OpenClaim.holds_of_wide 12 Try.f12 rfl rfl rfl rfl rfl rfl rfl ⟨rfl, rfl, rfl, rfl, rfl⟩ rfl rfl rfl rfl rfl (by kernel_rfl) Try.func12 (by kernel_rfl)
    (of_decide_eq_true (by kernel_rfl)) (by unfold Func.isWrapper; first | (rw [if_pos (by decide +kernel)]; kernel_rfl) | (rw [if_neg (by decide +kernel)]; exact ⟨rfl, rfl⟩))
    (fun os started H enc _ => lifted os started H enc)

theorem proved : Rows.LayoutErrorsSaid :=
  over
#print axioms proved
end Go.Proofs.Ytaohgpgbphlblaa.layoutErrors
