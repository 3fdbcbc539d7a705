/- Arguments that are arrays of two or three small integers: opened and shut. -/
import Derived.Test.YtjnplnkbjmfgpaaAmPost
import Derived.OpenShut
set_option linter.unusedVariables false
set_option linter.unusedSimpArgs false
set_option linter.unusedSectionVars false
namespace Go.Am
open Go Go.ChangeShapes Go.WideShapes Go.RowKit
section
variable {H : Type} {enc : TypeId × Value → H} {P : Program} {W : World} {base : Nat} {sp : Nat → Bool} {held : Bool} {t e : TypeId} {k : IntKind}
theorem open_arr2 {r : Reach} {b0 : Nat} {v : Value} {d : DataW H} {ps : List MemPlace} (hu : P.underlying t = some (.array 2 e)) (he : P.underlying e = some (.int k)) (h1 : P.cellsOf e = 1) (hs : P.cellsOf t = 2) (hval : Value.okWide P W r b0 t v) (hd : DataW.Trod enc P W base sp held t v d ps) :
    ∃ a b, v = .agg #[.int k a, .int k b] ∧ d = .agg [.lit (.int k a), .lit (.int k b)] ∧ ps = [] ∧ (Lit.int k a).wf = true ∧ (Lit.int k b).wf = true := by
  simp only [Value.okWide, hu] at hval
  obtain ⟨cs, rfl, hcs, _⟩ := hval
  rw [hs] at hcs
  obtain ⟨l⟩ := cs
  match l, hcs with
  | [x, y], _ =>
    obtain ⟨fuel, hf⟩ := hd
    cases fuel with
    | zero => simp [DataW.trod] at hf
    | succ m =>
      unfold DataW.trod at hf
      simp only [hu, Value.cells, h1, hs, List.length_cons, List.length_nil, if_true] at hf
      simp only [List.range_succ, List.range_zero, List.nil_append, List.cons_append, List.mapM_cons, List.mapM_nil, bind, Option.bind_eq_some_iff, Option.map_eq_some_iff, pure, Option.some.injEq] at hf
      obtain ⟨_, ⟨p1, g1, _, ⟨p2, g2, _, rfl, rfl⟩, rfl⟩, hx⟩ := hf
      obtain ⟨a, ea, rfl, wa⟩ := DataW.trod_int he g1
      obtain ⟨b, eb, rfl, wb⟩ := DataW.trod_int he g2
      simp at ea eb
      subst ea; subst eb
      simp only [Prod.mk.injEq] at hx
      exact ⟨a, b, rfl, hx.1.symm, by simpa using hx.2.symm, wa, wb⟩
theorem shut_arr2 {a b : Int} (hu : P.underlying t = some (.array 2 e)) (he : P.underlying e = some (.int k)) (h1 : P.cellsOf e = 1) (hs : P.cellsOf t = 2) (wa : (Lit.int k a).wf = true) (wb : (Lit.int k b).wf = true) :
    DataW.Trod enc P W base sp held t (.agg #[.int k a, .int k b]) (.agg [.lit (.int k a), .lit (.int k b)]) [] :=
  ⟨2, by simp [DataW.trod, Value.cells, hu, he, h1, hs, wa, wb, List.range_succ]⟩
theorem open_arr3 {r : Reach} {b0 : Nat} {v : Value} {d : DataW H} {ps : List MemPlace} (hu : P.underlying t = some (.array 3 e)) (he : P.underlying e = some (.int k)) (h1 : P.cellsOf e = 1) (hs : P.cellsOf t = 3) (hval : Value.okWide P W r b0 t v) (hd : DataW.Trod enc P W base sp held t v d ps) :
    ∃ a b c, v = .agg #[.int k a, .int k b, .int k c] ∧ d = .agg [.lit (.int k a), .lit (.int k b), .lit (.int k c)] ∧ ps = [] ∧ (Lit.int k a).wf = true ∧ (Lit.int k b).wf = true ∧ (Lit.int k c).wf = true := by
  simp only [Value.okWide, hu] at hval
  obtain ⟨cs, rfl, hcs, _⟩ := hval
  rw [hs] at hcs
  obtain ⟨l⟩ := cs
  match l, hcs with
  | [x, y, z], _ =>
    obtain ⟨fuel, hf⟩ := hd
    cases fuel with
    | zero => simp [DataW.trod] at hf
    | succ m =>
      unfold DataW.trod at hf
      simp only [hu, Value.cells, h1, hs, List.length_cons, List.length_nil, if_true] at hf
      simp only [List.range_succ, List.range_zero, List.nil_append, List.cons_append, List.mapM_cons, List.mapM_nil, bind, Option.bind_eq_some_iff, Option.map_eq_some_iff, pure, Option.some.injEq] at hf
      obtain ⟨_, ⟨p1, g1, _, ⟨p2, g2, _, ⟨p3, g3, _, rfl, rfl⟩, rfl⟩, rfl⟩, hx⟩ := hf
      obtain ⟨a, ea, rfl, wa⟩ := DataW.trod_int he g1
      obtain ⟨b, eb, rfl, wb⟩ := DataW.trod_int he g2
      obtain ⟨c, ec, rfl, wc⟩ := DataW.trod_int he g3
      simp at ea eb ec
      subst ea; subst eb; subst ec
      simp only [Prod.mk.injEq] at hx
      exact ⟨a, b, c, rfl, hx.1.symm, by simpa using hx.2.symm, wa, wb, wc⟩
theorem shut_arr3 {a b c : Int} (hu : P.underlying t = some (.array 3 e)) (he : P.underlying e = some (.int k)) (h1 : P.cellsOf e = 1) (hs : P.cellsOf t = 3) (wa : (Lit.int k a).wf = true) (wb : (Lit.int k b).wf = true) (wc : (Lit.int k c).wf = true) :
    DataW.Trod enc P W base sp held t (.agg #[.int k a, .int k b, .int k c]) (.agg [.lit (.int k a), .lit (.int k b), .lit (.int k c)]) [] :=
  ⟨2, by simp [DataW.trod, Value.cells, hu, he, h1, hs, wa, wb, wc, List.range_succ]⟩
end
theorem u8_of {a : Int} (h : (Lit.int .u8 a).wf = true) : ∃ z : Nat, z < 256 ∧ a = Int.ofNat z := by
  have := bounds_u8 h
  exact ⟨a.toNat, by omega, by show a = (a.toNat : Int); omega⟩
end Go.Am
