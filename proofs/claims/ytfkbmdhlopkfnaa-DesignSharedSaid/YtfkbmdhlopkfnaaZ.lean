/- The machine and its runs: more of the parts above. -/
import Derived.Test.YtfkbmdhlopkfnaaB16
set_option linter.unusedVariables false
set_option linter.unusedSimpArgs false
set_option linter.unusedSectionVars false
namespace Go.Am.C07
open Go Go.Am
variable {E : Nat → Option AFn} {Y : Nat → List Value → FM → Nat → OR FM}
theorem has_L0 {m : FM} {n : Nat} {lv : Value} {xs : List Int} (h : Ints m n lv xs) (hs : xs.length < 1000000) (x : Int) (y2 y3 : Value) {R : Bool} {Q : AX → List Value → FM → Nat → Nat → Prop}
    (hQ0 : R = false → ∀ e, Q (.exit 0) e m n 0) (hQ1 : R = true → ∀ e, Q (.ret (.bool true)) e m n 0) :
    ∀ d j, j + d = xs.length → ∀ y0, decide (x ∈ xs.drop j) = R → Gv (execW PG E Y ac20L0 [y0, .int .i64 (j : Int), y2, y3, lv, .int .i64 x] m n) Q := by
  intro d
  induction d with
  | zero =>
    intro j hj y0 hR
    obtain rfl : j = xs.length := by omega
    rw [List.drop_length] at hR
    refine wr_loopN (L := ac20L0) (b := ac20L0b) rfl ?_
    simp only [ac20L0b]
    simp (implicitDefEqProofs := false) (disch := omega) only [W2, opds, Nat.testBit, Nat.reduceAdd, Nat.reduceShiftRight, Nat.reduceAnd, Nat.reduceBNe, Nat.reduceMul, h.len]
    exact hQ0 hR.symm _
  | succ d ih =>
    intro j hj y0 hR
    have hjl : j < xs.length := by omega
    obtain ⟨b, o, c, p, w, i1, i2, i3, i4⟩ := h.cell hjl
    rw [List.drop_eq_getElem_cons hjl] at hR
    refine wr_loopN (L := ac20L0) (b := ac20L0b) rfl ?_
    simp only [ac20L0b]
    by_cases he : xs[j] = x
    · rw [decide_eq_true (by rw [he]; exact List.mem_cons_self ..)] at hR
      simp (implicitDefEqProofs := false) (disch := omega) only [W2, opds, Nat.testBit, Nat.reduceAdd, Nat.reduceShiftRight, Nat.reduceAnd, Nat.reduceBNe, Nat.reduceMul, h.len, i1, i3, i4, decide_eq_true he]
      exact hQ1 hR.symm _
    · have hR2 : decide (x ∈ xs.drop (j + 1)) = R := by
        rw [← hR]
        exact decide_eq_decide.2 ⟨fun h => List.mem_cons_of_mem _ h, fun h => (List.mem_cons.1 h).resolve_left fun e => he e.symm⟩
      simp (implicitDefEqProofs := false) (disch := omega) only [W2, opds, Nat.testBit, Nat.reduceAdd, Nat.reduceShiftRight, Nat.reduceAnd, Nat.reduceBNe, Nat.reduceMul, h.len, i1, i3, i4, decide_eq_false he]
      exact wr_end (ih (j + 1) (by omega) _ hR2) fun X e m n w hq => by simpa only [zero_lor'] using hq
theorem hasR_spec (hE : E 20 = some ac20) {m : FM} {n : Nat} {lv : Value} {xs : List Int} (h : Ints m n lv xs) (hs : xs.length < 1000000) (x : Int) : Pure (callW PG E Y 20 [lv, .int .i64 x] m n) m n (.bool (decide (x ∈ xs))) := by
  refine pure_spec hE rfl rfl ?_
  simp only [ac20]
  simp (implicitDefEqProofs := false) (disch := omega) only [W2, opds, Nat.testBit, Nat.reduceAdd, Nat.reduceShiftRight, Nat.reduceAnd, Nat.reduceBNe, Nat.reduceMul]
  refine wr_kont (has_L0 h hs x _ _ (R := decide (x ∈ xs)) (fun hR e rr => ?_) (fun hR e rr => ?_) xs.length 0 (by omega) _ rfl)
  · simp (implicitDefEqProofs := false) (disch := omega) only [W2, opds, Nat.testBit, Nat.reduceAdd, Nat.reduceShiftRight, Nat.reduceAnd, Nat.reduceBNe, Nat.reduceMul]
    rw [hR]
  · simp (implicitDefEqProofs := false) (disch := omega) only [W2, opds, Nat.testBit, Nat.reduceAdd, Nat.reduceShiftRight, Nat.reduceAnd, Nat.reduceBNe, Nat.reduceMul]
    rw [hR]
end Go.Am.C07
namespace Go.Am.C07
open Go Go.Am
variable {E : Nat → Option AFn} {Y : Nat → List Value → FM → Nat → OR FM}
theorem few_L0 {m : FM} {n db : Nat} {D : Int} {rv : Value} {gs : List (List Int)} (hR : Rows m n rv gs) (hdb : db < n) (hd : m db = some (.cells [.int .i64 D, rv] 0 false true)) (hs : gs.length ≤ 200) (y2 y3 y4 : Value) (ys : List Value) {Q : AX → List Value → FM → Nat → Nat → Prop}
    (hN : ∀ i (h : i < gs.length), ¬ gs[i].length ≤ 70 → ∀ e, Q (.ret (.bool false)) e m n 0) (hQ : (∀ i (h : i < gs.length), gs[i].length ≤ 70) → ∀ x0, Q (.exit 0) (x0 :: y2 :: y3 :: y4 :: .pointer (some ⟨db, 0, none⟩) :: ys) m n 0) :
    ∀ d j, j + d = gs.length → (∀ i (h : i < gs.length), i < j → gs[i].length ≤ 70) → ∀ x0, Gv (execW PG E Y ac15L0 (x0 :: .int .i64 (j : Int) :: y2 :: y3 :: y4 :: .pointer (some ⟨db, 0, none⟩) :: ys) m n) Q := by
  intro d
  have hbel := hR.bel n (Nat.le_refl _)
  induction d with
  | zero =>
    intro j hj hlo x0
    obtain rfl : j = gs.length := by omega
    refine wr_loopN (L := ac15L0) (b := ac15L0b) rfl ?_
    simp only [ac15L0b]
    simp (implicitDefEqProofs := false) (disch := omega) only [W2, opds, Nat.testBit, Nat.reduceAdd, Nat.reduceShiftRight, Nat.reduceAnd, Nat.reduceBNe, Nat.reduceMul, hR.len, hd, hbel]
    exact hQ (fun i h => hlo i h h) _
  | succ d ih =>
    intro j hj hlo x0
    have hjl : j < gs.length := by omega
    obtain ⟨b, o, c, p, w, x, i1, i2, i3, i4, i5⟩ := hR.cell hjl
    have hxl := i5.len
    have ibel := i5.bel n (Nat.le_refl _)
    refine wr_loopN (L := ac15L0) (b := ac15L0b) rfl ?_
    simp only [ac15L0b]
    by_cases hc : gs[j].length ≤ 70
    · simp (implicitDefEqProofs := false) (disch := omega) only [W2, opds, Nat.testBit, Nat.reduceAdd, Nat.reduceShiftRight, Nat.reduceAnd, Nat.reduceBNe, Nat.reduceMul, hR.len, hd, hbel, i1, i3, i4, hxl, ibel]
      exact wr_end (ih (j + 1) (by omega) (fun i h hi => by
        by_cases hij : i = j
        · subst hij; exact hc
        · exact hlo i h (by omega)) _) fun X e m n w hq => by simpa only [zero_lor'] using hq
    · have hc' : ((gs[j].length : Nat) : Int) > 70 := by omega
      simp (implicitDefEqProofs := false) (disch := omega) only [W2, opds, Nat.testBit, Nat.reduceAdd, Nat.reduceShiftRight, Nat.reduceAnd, Nat.reduceBNe, Nat.reduceMul, hR.len, hd, hbel, i1, i3, i4, hxl, ibel, decide_eq_true hc']
      exact hN j hjl hc _
theorem few_spec (hE : E 15 = some ac15) {m : FM} {n : Nat} {D : Int} {rv : Value} {gs : List (List Int)} (hR : Rows m n rv gs) : ∃ b : Bool, (b = true ↔ Few7 gs) ∧ Pure (callW PG E Y 15 [.agg #[.int .i64 D, rv]] m n) m n (.bool b) := by
  classical
  refine ⟨decide (Few7 gs), decide_eq_true_iff, ?_⟩
  refine pure_spec hE rfl rfl ?_
  simp only [ac15]
  have o1 := hR.one
  have fza : Nat.mod (bit n) (bit n) = 0 := frz_bit (Nat.le_refl _)
  simp (implicitDefEqProofs := false) (disch := omega) only [W2, opds, Nat.testBit, Nat.reduceAdd, Nat.reduceShiftRight, Nat.reduceAnd, Nat.reduceBNe, Nat.reduceMul, o1]
  generalize hM1 : (AMem.put m n (some (.cells [.int .i64 D, rv] 0 false true)) : FM) = M1
  have m1 : M1 n = some (.cells [.int .i64 D, rv] 0 false true) := by rw [← hM1]; exact fput_same _ _ _
  have k1 := hR.frame (m' := M1) (n' := n + 1) (by omega) (fun b hb => by rw [← hM1, fput_ne _ _ _ _ (by omega)])
  have hbel := k1.bel (n + 1) (Nat.le_refl _)
  by_cases h2 : gs.length ≤ 200
  · simp (implicitDefEqProofs := false) (disch := omega) only [W2, opds, Nat.testBit, Nat.reduceAdd, Nat.reduceShiftRight, Nat.reduceAnd, Nat.reduceBNe, Nat.reduceMul, m1, k1.len, hbel]
    refine wr_kont (few_L0 k1 (Nat.lt_succ_self _) m1 h2 _ _ _ _ (fun i h hc e => ?_) (fun hall x0 => ?_) gs.length 0 (by omega) (fun i h hi => by omega) _)
    · rw [decide_eq_false (p := Few7 gs) fun hh => hc (hh.2 i h)]
      intro rr
      simp (implicitDefEqProofs := false) (disch := omega) only [W2, opds, Nat.testBit, Nat.reduceAdd, Nat.reduceShiftRight, Nat.reduceAnd, Nat.reduceBNe, Nat.reduceMul, fza]
    · rw [decide_eq_true (p := Few7 gs) ⟨h2, hall⟩]
      intro rr
      simp (implicitDefEqProofs := false) (disch := omega) only [W2, opds, Nat.testBit, Nat.reduceAdd, Nat.reduceShiftRight, Nat.reduceAnd, Nat.reduceBNe, Nat.reduceMul, fza]
  · have h2' : ((gs.length : Nat) : Int) > 200 := by omega
    rw [decide_eq_false (p := Few7 gs) fun h => h2 h.1]
    simp (implicitDefEqProofs := false) (disch := omega) only [W2, opds, Nat.testBit, Nat.reduceAdd, Nat.reduceShiftRight, Nat.reduceAnd, Nat.reduceBNe, Nat.reduceMul, m1, k1.len, hbel, decide_eq_true h2']
end Go.Am.C07
namespace Go.Am.C07
open Go Go.Am
variable {E : Nat → Option AFn} {Y : Nat → List Value → FM → Nat → OR FM}
theorem lshared_L0 (h20 : E 20 = some ac20) {m : FM} {n db : Nat} {D : Int} {rv : Value} {gs : List (List Int)} (hR : Rows m n rv gs) (hdb : db < n) (hd : m db = some (.cells [.int .i64 D, rv] 0 false true)) (hs : gs.length < 1000000) (hr : ∀ r ∈ gs, r.length < 1000000) (a b : Int) (y2 y3 y4 y5 y6 y8 : Value) (ys : List Value) {Q : AX → List Value → FM → Nat → Nat → Prop}
    (hQ : Q (.exit 0) (.int .i64 (shC gs a b : Int) :: y2 :: y3 :: y4 :: y5 :: y6 :: .pointer (some ⟨db, 0, none⟩) :: y8 :: .int .i64 a :: .int .i64 b :: ys) m n 0) :
    ∀ d j, j + d = gs.length → Gv (execW PG E Y ac7L0 (.int .i64 (shC (gs.take j) a b : Int) :: .int .i64 (j : Int) :: y2 :: y3 :: y4 :: y5 :: y6 :: .pointer (some ⟨db, 0, none⟩) :: y8 :: .int .i64 a :: .int .i64 b :: ys) m n) Q := by
  intro d
  have hbel := hR.bel n (Nat.le_refl _)
  induction d with
  | zero =>
    intro j hj
    obtain rfl : j = gs.length := by omega
    refine wr_loopN (L := ac7L0) (b := ac7L0b) rfl ?_
    simp only [ac7L0b, List.take_length]
    simp (implicitDefEqProofs := false) (disch := omega) only [W2, opds, Nat.testBit, Nat.reduceAdd, Nat.reduceShiftRight, Nat.reduceAnd, Nat.reduceBNe, Nat.reduceMul, hR.len, hd, hbel]
    exact hQ
  | succ d ih =>
    intro j hj
    have hjl : j < gs.length := by omega
    have ih' := ih (j + 1) (by omega)
    rw [List.take_add_one, List.getElem?_eq_getElem hjl, Option.toList_some, shC_app] at ih'
    obtain ⟨bb, o, c, p, w, x, i1, i2, i3, i4, i5⟩ := hR.cell hjl
    have hrl := hr _ (List.getElem_mem hjl)
    have ibel := i5.bel n (Nat.le_refl _)
    have hcl := shC_le (gs.take j) a b
    have htl : (gs.take j).length ≤ 1000000 := by rw [List.length_take]; omega
    unfold shQ at ih'
    generalize gs[j] = r at *
    generalize shC (gs.take j) a b = cn at *
    refine wr_loopN (L := ac7L0) (b := ac7L0b) rfl ?_
    simp only [ac7L0b]
    simp (implicitDefEqProofs := false) (disch := omega) only [W2, opds, Nat.testBit, Nat.reduceAdd, Nat.reduceShiftRight, Nat.reduceAnd, Nat.reduceBNe, Nat.reduceMul, hR.len, hd, hbel, i1, i3, i4, ibel]
    refine use_pure (hasR_spec h20 i5 hrl a) fun _ => ?_
    by_cases hx : a ∈ r
    · rw [decide_eq_true hx] at ih'
      simp (implicitDefEqProofs := false) (disch := omega) only [W2, opds, Nat.testBit, Nat.reduceAdd, Nat.reduceShiftRight, Nat.reduceAnd, Nat.reduceBNe, Nat.reduceMul, decide_eq_true hx, hd, hbel, i1, i3, i4, ibel]
      refine use_pure (hasR_spec h20 i5 hrl b) fun _ => ?_
      by_cases hy : b ∈ r
      · rw [decide_eq_true hy] at ih'
        simp (implicitDefEqProofs := false) (disch := omega) only [W2, opds, Nat.testBit, Nat.reduceAdd, Nat.reduceShiftRight, Nat.reduceAnd, Nat.reduceBNe, Nat.reduceMul, decide_eq_true hy]
        exact wr_end ih' fun X e m n w hq => by simpa only [zero_lor'] using hq
      · rw [decide_eq_false hy] at ih'
        simp (implicitDefEqProofs := false) (disch := omega) only [W2, opds, Nat.testBit, Nat.reduceAdd, Nat.reduceShiftRight, Nat.reduceAnd, Nat.reduceBNe, Nat.reduceMul, decide_eq_false hy]
        exact wr_end ih' fun X e m n w hq => by simpa only [zero_lor'] using hq
    · rw [decide_eq_false hx] at ih'
      simp (implicitDefEqProofs := false) (disch := omega) only [W2, opds, Nat.testBit, Nat.reduceAdd, Nat.reduceShiftRight, Nat.reduceAnd, Nat.reduceBNe, Nat.reduceMul, decide_eq_false hx]
      exact wr_end ih' fun X e m n w hq => by simpa only [zero_lor'] using hq
theorem designShared_exec (e7 : E 7 = some ac7) (e15 : E 15 = some ac15) (e20 : E 20 = some ac20) (e21 : E 21 = some ac21) (e31 : E 31 = some ac31) (e42 : E 42 = some ac42) (hA : ∀ m n, Pure (callW PG E Y 10 [] m n) m n (.bool true)) {D : Int} {rv : Value} {gs : List (List Int)} (a b : Int) (m : FM) (n : Nat) (hR : Rows m n rv gs) :
    Pure (callW PG E Y 7 [.agg #[.int .i64 D, rv], .int .i64 a, .int .i64 b] m n) m n (.bool true) := by
  refine pure_spec e7 rfl rfl ?_
  simp only [ac7]
  have o1 := hR.one
  have fza : Nat.mod (bit n) (bit n) = 0 := frz_bit (Nat.le_refl _)
  simp (implicitDefEqProofs := false) (disch := omega) only [W2, opds, Nat.testBit, Nat.reduceAdd, Nat.reduceShiftRight, Nat.reduceAnd, Nat.reduceBNe, Nat.reduceMul, o1]
  generalize hM1 : (AMem.put m n (some (.cells [.int .i64 D, rv] 0 false true)) : FM) = M1
  have m1 : M1 n = some (.cells [.int .i64 D, rv] 0 false true) := by rw [← hM1]; exact fput_same _ _ _
  have k1 := hR.frame (m' := M1) (n' := n + 1) (by omega) (fun b hb => by rw [← hM1, fput_ne _ _ _ _ (by omega)])
  have hbel := k1.bel (n + 1) (Nat.le_refl _)
  have hbelF := k1.belF (n + 1) (Nat.le_refl _)
  refine use_pure (hA _ _) fun _ => ?_
  simp (implicitDefEqProofs := false) (disch := omega) only [W2, opds, Nat.testBit, Nat.reduceAdd, Nat.reduceShiftRight, Nat.reduceAnd, Nat.reduceBNe, Nat.reduceMul, m1, hbel, hbelF]
  obtain ⟨few, hfew, hP⟩ := few_spec (Y := Y) e15 (D := D) k1
  refine use_pure hP fun _ => ?_
  cases few with
  | false => simp (implicitDefEqProofs := false) (disch := omega) only [W2, opds, Nat.testBit, Nat.reduceAdd, Nat.reduceShiftRight, Nat.reduceAnd, Nat.reduceBNe, Nat.reduceMul, fza]
  | true =>
    obtain ⟨f1, f2⟩ := hfew.1 rfl
    have hr : ∀ r ∈ gs, r.length < 1000000 := fun r hr => by
      obtain ⟨i, hi, rfl⟩ := List.getElem_of_mem hr
      have := f2 i hi; omega
    have hcl := shC_le gs a b
    simp (implicitDefEqProofs := false) (disch := omega) only [W2, opds, Nat.testBit, Nat.reduceAdd, Nat.reduceShiftRight, Nat.reduceAnd, Nat.reduceBNe, Nat.reduceMul]
    refine wr_kont (lshared_L0 e20 k1 (Nat.lt_succ_self _) m1 (by omega) hr a b _ _ _ _ _ _ _ (fun rr => ?_) gs.length 0 (by omega))
    have hS1 := shared_spec (Y := Y) e21 e31 e42 (D := D) k1 (by omega) hr a b
    have hS2 := shared_spec (Y := Y) e21 e31 e42 (D := D) k1 (by omega) hr b a
    have hsw : sharedR D gs b a = sharedR D gs a b := by
      unfold sharedR
      rw [shC_comm gs b a]
      by_cases h : a < 0 ∨ b < 0 ∨ D ≤ a ∨ D ≤ b
      · rw [if_pos h, if_pos (by omega)]
      · rw [if_neg h, if_neg (by omega)]
    rw [hsw] at hS2
    unfold sharedR at hS1 hS2
    by_cases c1 : a < 0
    · rw [if_pos (.inl c1)] at hS1 hS2
      simp (implicitDefEqProofs := false) (disch := omega) only [W2, opds, Nat.testBit, Nat.reduceAdd, Nat.reduceShiftRight, Nat.reduceAnd, Nat.reduceBNe, Nat.reduceMul, decide_eq_true c1, m1, hbel, hbelF]
      refine use_pure hS1 fun _ => ?_
      simp (implicitDefEqProofs := false) (disch := omega) only [W2, opds, Nat.testBit, Nat.reduceAdd, Nat.reduceShiftRight, Nat.reduceAnd, Nat.reduceBNe, Nat.reduceMul, m1, hbel, hbelF]
      refine use_pure hS2 fun _ => ?_
      simp (implicitDefEqProofs := false) (disch := omega) only [W2, opds, Nat.testBit, Nat.reduceAdd, Nat.reduceShiftRight, Nat.reduceAnd, Nat.reduceBNe, Nat.reduceMul, fza]
    by_cases c2 : a ≥ D
    · rw [if_pos (.inr (.inr (.inl c2)))] at hS1 hS2
      simp (implicitDefEqProofs := false) (disch := omega) only [W2, opds, Nat.testBit, Nat.reduceAdd, Nat.reduceShiftRight, Nat.reduceAnd, Nat.reduceBNe, Nat.reduceMul, decide_eq_false c1, decide_eq_true c2, m1, hbel, hbelF]
      refine use_pure hS1 fun _ => ?_
      simp (implicitDefEqProofs := false) (disch := omega) only [W2, opds, Nat.testBit, Nat.reduceAdd, Nat.reduceShiftRight, Nat.reduceAnd, Nat.reduceBNe, Nat.reduceMul, m1, hbel, hbelF]
      refine use_pure hS2 fun _ => ?_
      simp (implicitDefEqProofs := false) (disch := omega) only [W2, opds, Nat.testBit, Nat.reduceAdd, Nat.reduceShiftRight, Nat.reduceAnd, Nat.reduceBNe, Nat.reduceMul, fza]
    by_cases c3 : b < 0
    · rw [if_pos (.inr (.inl c3))] at hS1 hS2
      simp (implicitDefEqProofs := false) (disch := omega) only [W2, opds, Nat.testBit, Nat.reduceAdd, Nat.reduceShiftRight, Nat.reduceAnd, Nat.reduceBNe, Nat.reduceMul, decide_eq_false c1, decide_eq_false c2, decide_eq_true c3, m1, hbel, hbelF]
      refine use_pure hS1 fun _ => ?_
      simp (implicitDefEqProofs := false) (disch := omega) only [W2, opds, Nat.testBit, Nat.reduceAdd, Nat.reduceShiftRight, Nat.reduceAnd, Nat.reduceBNe, Nat.reduceMul, m1, hbel, hbelF]
      refine use_pure hS2 fun _ => ?_
      simp (implicitDefEqProofs := false) (disch := omega) only [W2, opds, Nat.testBit, Nat.reduceAdd, Nat.reduceShiftRight, Nat.reduceAnd, Nat.reduceBNe, Nat.reduceMul, fza]
    by_cases c4 : b ≥ D
    · rw [if_pos (.inr (.inr (.inr c4)))] at hS1 hS2
      simp (implicitDefEqProofs := false) (disch := omega) only [W2, opds, Nat.testBit, Nat.reduceAdd, Nat.reduceShiftRight, Nat.reduceAnd, Nat.reduceBNe, Nat.reduceMul, decide_eq_false c1, decide_eq_false c2, decide_eq_false c3, decide_eq_true c4, m1, hbel, hbelF]
      refine use_pure hS1 fun _ => ?_
      simp (implicitDefEqProofs := false) (disch := omega) only [W2, opds, Nat.testBit, Nat.reduceAdd, Nat.reduceShiftRight, Nat.reduceAnd, Nat.reduceBNe, Nat.reduceMul, m1, hbel, hbelF]
      refine use_pure hS2 fun _ => ?_
      simp (implicitDefEqProofs := false) (disch := omega) only [W2, opds, Nat.testBit, Nat.reduceAdd, Nat.reduceShiftRight, Nat.reduceAnd, Nat.reduceBNe, Nat.reduceMul, fza]
    rw [if_neg (by omega)] at hS1 hS2
    simp (implicitDefEqProofs := false) (disch := omega) only [W2, opds, Nat.testBit, Nat.reduceAdd, Nat.reduceShiftRight, Nat.reduceAnd, Nat.reduceBNe, Nat.reduceMul, decide_eq_false c1, decide_eq_false c2, decide_eq_false c3, decide_eq_false c4, m1, hbel, hbelF]
    refine use_pure hS1 fun _ => ?_
    simp (implicitDefEqProofs := false) (disch := omega) only [W2, opds, Nat.testBit, Nat.reduceAdd, Nat.reduceShiftRight, Nat.reduceAnd, Nat.reduceBNe, Nat.reduceMul, m1, hbel, hbelF]
    refine use_pure hS2 fun _ => ?_
    simp (implicitDefEqProofs := false) (disch := omega) only [W2, opds, Nat.testBit, Nat.reduceAdd, Nat.reduceShiftRight, Nat.reduceAnd, Nat.reduceBNe, Nat.reduceMul, fza]
end Go.Am.C07
