/- The machine and its runs, part 12: Am06s Am06jc Am06jd Am06t Am06v Am06w Am06y Am06z Am06xa Am06xf Am06u Am06xd Am06xe Am06xg Am06xc Am06xh Am06je. -/
import Derived.Test.YtilnoajeofjckaaB11
set_option linter.unusedVariables false
set_option linter.unusedSimpArgs false
set_option linter.unusedSectionVars false
namespace Go.Am.C06
open Go Go.Am
variable {E : Nat → Option AFn} {Y : Nat → List Value → FM → Nat → OR FM}
def sizeN (z : Nat) : Nat := [2, 3, 4, 5, 7].getD (z % 5) 0
theorem binV_rem_nat {t a b : Nat} (hb : b ≠ 0) : binV PG .rem t (.int .i64 (a : Int)) (.int .i64 (b : Int)) = some (.int .i64 ((a % b : Nat) : Int)) := by
  show intBin .rem .i64 (a : Int) (b : Int) = _
  rw [rem_i64 (by omega), Int.tmod_eq_emod_of_nonneg (by omega)]
  rfl
def primeP (q : Int) : Int := if q = 2 then 2 else if q = 3 then 3 else if q = 5 then 5 else if q = 7 then 7 else if q = 4 then 2 else if q = 8 then 2 else if q = 9 then 3 else 0
def primeN (q : Int) : Int := if q = 2 then 1 else if q = 3 then 1 else if q = 5 then 1 else if q = 7 then 1 else if q = 4 then 2 else if q = 8 then 3 else if q = 9 then 2 else 0
theorem prime_spec (T : En E Y) (m : FM) (n : Nat) (q : Int) : Pure (callW PG E Y 25 [.int .i64 q] m n) m n (.tuple #[.int .i64 (primeP q), .int .i64 (primeN q)]) := by
  refine pure_spec T.e25 rfl rfl ?_
  simp only [ac25]
  unfold primeP primeN
  by_cases h2 : q = 2
  · rw [if_pos h2, if_pos h2]; simp (implicitDefEqProofs := false) (disch := omega) only [WPs, opds, List.all_cons, List.all_nil, List.cons_append, List.nil_append, cond_true, cond_false, eq_self, List.map_cons, List.map_nil, Nat.reduceAdd, Nat.testBit, Nat.reduceShiftRight, Nat.reduceAnd, Nat.reduceBNe, Nat.reduceMul, decide_eq_true h2, h2]
  by_cases h3 : q = 3
  · rw [if_neg h2, if_neg h2, if_pos h3, if_pos h3]; simp (implicitDefEqProofs := false) (disch := omega) only [WPs, opds, List.all_cons, List.all_nil, List.cons_append, List.nil_append, cond_true, cond_false, eq_self, List.map_cons, List.map_nil, Nat.reduceAdd, Nat.testBit, Nat.reduceShiftRight, Nat.reduceAnd, Nat.reduceBNe, Nat.reduceMul, decide_eq_false h2, decide_eq_true h3, h3]
  by_cases h5 : q = 5
  · rw [if_neg h2, if_neg h2, if_neg h3, if_neg h3, if_pos h5, if_pos h5]; simp (implicitDefEqProofs := false) (disch := omega) only [WPs, opds, List.all_cons, List.all_nil, List.cons_append, List.nil_append, cond_true, cond_false, eq_self, List.map_cons, List.map_nil, Nat.reduceAdd, Nat.testBit, Nat.reduceShiftRight, Nat.reduceAnd, Nat.reduceBNe, Nat.reduceMul, decide_eq_false h2, decide_eq_false h3, decide_eq_true h5, h5]
  by_cases h7 : q = 7
  · rw [if_neg h2, if_neg h2, if_neg h3, if_neg h3, if_neg h5, if_neg h5, if_pos h7, if_pos h7]; simp (implicitDefEqProofs := false) (disch := omega) only [WPs, opds, List.all_cons, List.all_nil, List.cons_append, List.nil_append, cond_true, cond_false, eq_self, List.map_cons, List.map_nil, Nat.reduceAdd, Nat.testBit, Nat.reduceShiftRight, Nat.reduceAnd, Nat.reduceBNe, Nat.reduceMul, decide_eq_false h2, decide_eq_false h3, decide_eq_false h5, decide_eq_true h7, h7]
  rw [if_neg h2, if_neg h2, if_neg h3, if_neg h3, if_neg h5, if_neg h5, if_neg h7, if_neg h7]
  by_cases h4 : q = 4
  · rw [if_pos h4, if_pos h4]; simp (implicitDefEqProofs := false) (disch := omega) only [WPs, opds, List.all_cons, List.all_nil, List.cons_append, List.nil_append, cond_true, cond_false, eq_self, List.map_cons, List.map_nil, Nat.reduceAdd, Nat.testBit, Nat.reduceShiftRight, Nat.reduceAnd, Nat.reduceBNe, Nat.reduceMul, decide_eq_false h2, decide_eq_false h3, decide_eq_false h5, decide_eq_false h7, decide_eq_true h4]
  by_cases h8 : q = 8
  · rw [if_neg h4, if_neg h4, if_pos h8, if_pos h8]; simp (implicitDefEqProofs := false) (disch := omega) only [WPs, opds, List.all_cons, List.all_nil, List.cons_append, List.nil_append, cond_true, cond_false, eq_self, List.map_cons, List.map_nil, Nat.reduceAdd, Nat.testBit, Nat.reduceShiftRight, Nat.reduceAnd, Nat.reduceBNe, Nat.reduceMul, decide_eq_false h2, decide_eq_false h3, decide_eq_false h5, decide_eq_false h7, decide_eq_false h4, decide_eq_true h8]
  by_cases h9 : q = 9
  · rw [if_neg h4, if_neg h4, if_neg h8, if_neg h8, if_pos h9, if_pos h9]; simp (implicitDefEqProofs := false) (disch := omega) only [WPs, opds, List.all_cons, List.all_nil, List.cons_append, List.nil_append, cond_true, cond_false, eq_self, List.map_cons, List.map_nil, Nat.reduceAdd, Nat.testBit, Nat.reduceShiftRight, Nat.reduceAnd, Nat.reduceBNe, Nat.reduceMul, decide_eq_false h2, decide_eq_false h3, decide_eq_false h5, decide_eq_false h7, decide_eq_false h4, decide_eq_false h8, decide_eq_true h9]
  rw [if_neg h4, if_neg h4, if_neg h8, if_neg h8, if_neg h9, if_neg h9]
  simp (implicitDefEqProofs := false) (disch := omega) only [WPs, opds, List.all_cons, List.all_nil, List.cons_append, List.nil_append, cond_true, cond_false, eq_self, List.map_cons, List.map_nil, Nat.reduceAdd, Nat.testBit, Nat.reduceShiftRight, Nat.reduceAnd, Nat.reduceBNe, Nat.reduceMul, decide_eq_false h2, decide_eq_false h3, decide_eq_false h5, decide_eq_false h7, decide_eq_false h4, decide_eq_false h8, decide_eq_false h9]
def wrongR (q : Int) : Int := if primeP q = 0 then 1 else if q > 7 then 7 else 0
theorem wrong_spec (T : En E Y) (m : FM) (n : Nat) (q : Int) : Pure (callW PG E Y 13 [.int .i64 q] m n) m n (.int .i64 (wrongR q)) := by
  refine pure_spec T.e13 rfl rfl ?_
  simp only [ac13]
  simp (implicitDefEqProofs := false) (disch := omega) only [WPs, opds, List.all_cons, List.all_nil, List.cons_append, List.nil_append, cond_true, cond_false, eq_self, List.map_cons, List.map_nil, Nat.reduceAdd, Nat.testBit, Nat.reduceShiftRight, Nat.reduceAnd, Nat.reduceBNe, Nat.reduceMul]
  refine use_pure (prime_spec T _ _ q) fun _ => ?_
  unfold wrongR
  by_cases hp : primeP q = 0
  · rw [if_pos hp]
    simp (implicitDefEqProofs := false) (disch := omega) only [WPs, opds, List.all_cons, List.all_nil, List.cons_append, List.nil_append, cond_true, cond_false, eq_self, List.map_cons, List.map_nil, Nat.reduceAdd, Nat.testBit, Nat.reduceShiftRight, Nat.reduceAnd, Nat.reduceBNe, Nat.reduceMul, decide_eq_true hp]
  · rw [if_neg hp]
    by_cases h7 : q > 7
    · rw [if_pos h7]
      simp (implicitDefEqProofs := false) (disch := omega) only [WPs, opds, List.all_cons, List.all_nil, List.cons_append, List.nil_append, cond_true, cond_false, eq_self, List.map_cons, List.map_nil, Nat.reduceAdd, Nat.testBit, Nat.reduceShiftRight, Nat.reduceAnd, Nat.reduceBNe, Nat.reduceMul, decide_eq_false hp, decide_eq_true h7]
    · rw [if_neg h7]
      simp (implicitDefEqProofs := false) (disch := omega) only [WPs, opds, List.all_cons, List.all_nil, List.cons_append, List.nil_append, cond_true, cond_false, eq_self, List.map_cons, List.map_nil, Nat.reduceAdd, Nat.testBit, Nat.reduceShiftRight, Nat.reduceAnd, Nat.reduceBNe, Nat.reduceMul, decide_eq_false hp, decide_eq_false h7]
theorem meet_of (T : En E Y) {q a b x y : Int} (m : FM) (n : Nat) (h : Pure (callW PG E Y 32 [.int .i64 q, .int .i64 a, .int .i64 b] m n) m n (.tuple #[.int .i64 x, .int .i64 y])) :
    Pure (callW PG E Y 20 [.int .i64 q, .int .i64 a, .int .i64 b] m n) m n (.tuple #[.int .i64 x, .int .i64 y]) := by
  refine pure_spec T.e20 rfl rfl ?_
  simp only [ac20]
  simp (implicitDefEqProofs := false) (disch := omega) only [WPs, opds, List.all_cons, List.all_nil, List.cons_append, List.nil_append, cond_true, cond_false, eq_self, List.map_cons, List.map_nil, Nat.reduceAdd, Nat.testBit, Nat.reduceShiftRight, Nat.reduceAnd, Nat.reduceBNe, Nat.reduceMul]
  refine use_pure h fun _ => ?_
  simp (implicitDefEqProofs := false) (disch := omega) only [WPs, opds, List.all_cons, List.all_nil, List.cons_append, List.nil_append, cond_true, cond_false, eq_self, List.map_cons, List.map_nil, Nat.reduceAdd, Nat.testBit, Nat.reduceShiftRight, Nat.reduceAnd, Nat.reduceBNe, Nat.reduceMul]
structure Sm (q : Nat) (A T : Tab) : Prop where
  size : Size q A T
  le : q ≤ 7
  ge : 2 ≤ q
abbrev ptsR (q : Nat) (T : Tab) : List P3 := foldX T q 2
theorem open_good (T : En E Y) {q : Nat} {A M : Tab} (h : Sm q A M) (m : FM) (n : Nat) : Rt (callW PG E Y 23 [.int .i64 (q : Int)] m n) (Kpt m n fun v M' N' => ∃ sv, v = .tuple #[sv, .int .i64 0] ∧ SpaceM M' N' sv q A M (ptsR q M)) :=
  open_spec T.F.e23 T.F.e33 T.F.e44 T.F.e45 T.F.e46 T.F.e42 T.F.e51 T.F.e31 h.ge h.le h.size.good m n (T.new h.size m n)
theorem pts_le {q : Nat} (h : q ≤ 7) (M : Tab) : (ptsR q M).length ≤ 98 := by
  have h1 := foldX_len M q 2
  have h2 : q * q ≤ 7 * 7 := Nat.mul_le_mul h h
  show (foldX M q 2).length ≤ 98
  omega
theorem proj_good (T : En E Y) {q : Nat} {A M : Tab} (h : Sm q A M) (m : FM) (n : Nat) :
    Rt (callW PG E Y 12 [.int .i64 (q : Int)] m n) (Kpt m n fun v M' N' => ∃ dv, v = .tuple #[dv, .int .i64 0] ∧ DesV M' n N' dv ((ptsR q M).length : Int) (projR A M (ptsR q M))) :=
  proj_spec T.F T.e12 h.size.good m n (by have := pts_le h.le M; omega) (open_good T h)
theorem aff_good (T : En E Y) {q : Nat} {A M : Tab} (h : Sm q A M) (m : FM) (n : Nat) :
    Rt (callW PG E Y 16 [.int .i64 (q : Int)] m n) (Kpt m n fun v M' N' => ∃ dv, v = .tuple #[dv, .int .i64 0] ∧ DesV M' n N' dv ((q * q : Nat) : Int) (affR A M q)) :=
  aff_spec T.e16 T.F.e30 T.F.e31 T.F.e42 h.le h.size.good m n (T.new h.size)
theorem cases_q (q : Int) : (∃ z A T, q = ((z : Nat) : Int) ∧ Sm z A T ∧ wrongR q = 0) ∨ (∃ z A T, q = ((z : Nat) : Int) ∧ Size z A T ∧ 8 ≤ z ∧ z ≤ 9 ∧ wrongR q = 7) ∨ (notIn q = true ∧ wrongR q = 1) := by
  by_cases h2 : q = 2
  · subst h2; exact .inl ⟨2, _, _, rfl, ⟨.s2, by omega, by omega⟩, rfl⟩
  by_cases h3 : q = 3
  · subst h3; exact .inl ⟨3, _, _, rfl, ⟨.s3, by omega, by omega⟩, rfl⟩
  by_cases h4 : q = 4
  · subst h4; exact .inl ⟨4, _, _, rfl, ⟨.s4, by omega, by omega⟩, rfl⟩
  by_cases h5 : q = 5
  · subst h5; exact .inl ⟨5, _, _, rfl, ⟨.s5, by omega, by omega⟩, rfl⟩
  by_cases h7 : q = 7
  · subst h7; exact .inl ⟨7, _, _, rfl, ⟨.s7, by omega, by omega⟩, rfl⟩
  by_cases h8 : q = 8
  · subst h8; exact .inr (.inl ⟨8, _, _, rfl, .s8, by omega, by omega, rfl⟩)
  by_cases h9 : q = 9
  · subst h9; exact .inr (.inl ⟨9, _, _, rfl, .s9, by omega, by omega, rfl⟩)
  refine .inr (.inr ⟨?_, by unfold wrongR primeP; rw [if_neg h2, if_neg h3, if_neg h5, if_neg h7, if_neg h4, if_neg h8, if_neg h9, if_pos rfl]⟩)
  cases q with
  | negSucc x => rfl
  | ofNat n =>
    match n with
    | 0 => rfl
    | 1 => rfl
    | 2 => exact absurd rfl h2
    | 3 => exact absurd rfl h3
    | 4 => exact absurd rfl h4
    | 5 => exact absurd rfl h5
    | 6 => rfl
    | 7 => exact absurd rfl h7
    | 8 => exact absurd rfl h8
    | 9 => exact absurd rfl h9
    | n + 10 => rfl
theorem open_wrong (T : En E Y) {q : Int} (h : wrongR q ≠ 0) (m : FM) (n : Nat) : Pure (callW PG E Y 23 [.int .i64 q] m n) m n (.tuple #[.pointer none, .int .i64 (wrongR q)]) := by
  rcases cases_q q with ⟨z, A, M, rfl, hs, h0⟩ | ⟨z, A, M, rfl, hs, h8, h9, hw⟩ | ⟨hn, hw⟩
  · exact absurd h0 h
  · rw [hw]; exact open_big T.F.e23 h8 h9 m n (T.new hs m n)
  · rw [hw]; exact open_bad T.F.e23 m n (T.err q hn m n)
theorem proj_wrong (T : En E Y) {q : Int} (h : wrongR q ≠ 0) (m : FM) (n : Nat) :
    Rt (callW PG E Y 12 [.int .i64 q] m n) (Kpt m n fun v M' N' => ∃ dv, v = .tuple #[dv, .int .i64 (wrongR q)] ∧ DesV M' n N' dv 0 []) :=
  proj_bad T.e12 h m n (open_wrong T h)
theorem aff_wrong (T : En E Y) {q : Int} (h : wrongR q ≠ 0) (m : FM) (n : Nat) :
    Rt (callW PG E Y 16 [.int .i64 q] m n) (Kpt m n fun v M' N' => ∃ dv, v = .tuple #[dv, .int .i64 (wrongR q)] ∧ DesV M' n N' dv 0 []) := by
  rcases cases_q q with ⟨z, A, M, rfl, hs, h0⟩ | ⟨z, A, M, rfl, hs, h8, h9, hw⟩ | ⟨hn, hw⟩
  · exact absurd h0 h
  · rw [hw]; exact aff_big T.e16 h8 h9 m n (T.new hs)
  · rw [hw]; exact aff_bad T.e16 m n (T.err q hn)
end Go.Am.C06
namespace Go.Am.C06
open Go Go.Am
variable {E : Nat → Option AFn} {Y : Nat → List Value → FM → Nat → OR FM}
structure ArR (E : Nat → Option AFn) (Y : Nat → List Value → FM → Nat → OR FM) (q : Nat) (A T : Tab) : Prop where
  add : ∀ a b, a < q → b < q → ∀ m n, Pure (callW PG E Y 27 [.int .i64 (q : Int), .int .i64 (a : Int), .int .i64 (b : Int)] m n) m n (.int .i64 (tget A a b))
  mul : ∀ a b, a < q → b < q → ∀ m n, Pure (callW PG E Y 28 [.int .i64 (q : Int), .int .i64 (a : Int), .int .i64 (b : Int)] m n) m n (.int .i64 (tget T a b))
theorem rp_L0 {q : Nat} {A T : Tab} (hg : GoodT q A T) (hR : ArR E Y q A T) {M' : FM} {N' k1 : Nat} {lv : Value} {ps : List P3} (hA : SlZ 3 M' k1 N' lv ps.length (ptCells ps)) {i k : Nat} {l r : P3} (hi : ps[i]? = some l) (hk : ps[k]? = some r) (hl : l.lt q) (hr : r.lt q)
    (y2 y3 y4 y5 y6 y8 y9 y10 y11 y13 y14 y16 : Value) (ys : List Value) {K : List Frm} {w0 : Nat} {Q : AX → List Value → FM → Nat → Nat → Prop}
    (hQ : ∀ y1, Wr PG E Y K w0 (.ok (.exit 4) (.int .i64 (dotP A T l r : Int) :: y1 :: y2 :: y3 :: y4 :: y5 :: y6 :: .int .i64 (k : Int) :: y8 :: y9 :: y10 :: y11 :: .int .i64 (i : Int) :: y13 :: y14 :: lv :: y16 :: .int .i64 (q : Int) :: ys) M' N' 0 0) Q) :
    Wr PG E Y K w0 (execW PG E Y ac15L0 (.int .i64 0 :: .int .i64 0 :: y2 :: y3 :: y4 :: y5 :: y6 :: .int .i64 (k : Int) :: y8 :: y9 :: y10 :: y11 :: .int .i64 (i : Int) :: y13 :: y14 :: lv :: y16 :: .int .i64 (q : Int) :: ys) M' N') Q := by
  obtain ⟨hil, hie⟩ := List.getElem?_eq_some_iff.1 hi
  obtain ⟨hkl, hke⟩ := List.getElem?_eq_some_iff.1 hk
  obtain ⟨b1, i1, i2, i3, i4, i5⟩ := hA.at hil
  obtain ⟨b2, j1, j2, j3, j4, j5⟩ := hA.at hkl
  have ci : ∀ c, c < 3 → cget (ptCells ps) (i * 3 + c) = l.cells[c]? := fun c hc => by rw [cget_eq, ptCells_get ps i c hc, hi]; rfl
  have ck : ∀ c, c < 3 → cget (ptCells ps) (k * 3 + c) = r.cells[c]? := fun c hc => by rw [cget_eq, ptCells_get ps k c hc, hk]; rfl
  obtain ⟨x, y, z⟩ := l
  obtain ⟨a, b, c⟩ := r
  have ci0 : cget (ptCells ps) (i * 3) = some (.int .i64 (x : Int)) := ci 0 (by omega)
  have ci1 : cget (ptCells ps) (i * 3 + 1) = some (.int .i64 (y : Int)) := ci 1 (by omega)
  have ci2 : cget (ptCells ps) (i * 3 + 2) = some (.int .i64 (z : Int)) := ci 2 (by omega)
  have ck0 : cget (ptCells ps) (k * 3) = some (.int .i64 (a : Int)) := ck 0 (by omega)
  have ck1 : cget (ptCells ps) (k * 3 + 1) = some (.int .i64 (b : Int)) := ck 1 (by omega)
  have ck2 : cget (ptCells ps) (k * 3 + 2) = some (.int .i64 (c : Int)) := ck 2 (by omega)
  obtain ⟨hx, hy, hz⟩ := hl
  obtain ⟨ha, hb, hc⟩ := hr
  simp only at hx hy hz ha hb hc
  obtain ⟨x1, x2⟩ := hg.mulE hx ha
  obtain ⟨y1, y2'⟩ := hg.mulE hy hb
  obtain ⟨z1, z2⟩ := hg.mulE hz hc
  have hq0 : 0 < q := by omega
  obtain ⟨u1, u2⟩ := hg.addE hq0 x2
  obtain ⟨v1, v2⟩ := hg.addE u2 y2'
  obtain ⟨w1, w2⟩ := hg.addE v2 z2
  have hd : dotP A T ⟨x, y, z⟩ ⟨a, b, c⟩ = addN A (addN A (addN A 0 (addN T x a)) (addN T y b)) (addN T z c) := rfl
  rw [hd] at hQ
  generalize addN A (addN A (addN A 0 (addN T x a)) (addN T y b)) (addN T z c) = t3 at *
  generalize addN A (addN A 0 (addN T x a)) (addN T y b) = t2 at *
  generalize addN A 0 (addN T x a) = t1 at *
  generalize addN T x a = e1 at *
  generalize addN T y b = e2 at *
  generalize addN T z c = e3 at *
  have i01 : (0 : Int) + 1 = 1 := rfl
  have i12 : (1 : Int) + 1 = 2 := rfl
  have i23 : (2 : Int) + 1 = 3 := rfl
  have hbl := hA.bel N' (Nat.le_refl _)
  refine wr_unroll (L := ac15L0) (b := ac15L0b) rfl ?_
  simp only [ac15L0b]
  simp (implicitDefEqProofs := false) (disch := omega) only [WPs, opds, List.all_cons, List.all_nil, List.cons_append, List.nil_append, cond_true, cond_false, eq_self, List.map_cons, List.map_nil, Nat.reduceAdd, Nat.testBit, Nat.reduceShiftRight, Nat.reduceAnd, Nat.reduceBNe, Nat.reduceMul, hbl, i1, i4, j1, j4, ci0, ck0]
  refine use_pureX (hR.mul _ _ hx ha _ _) fun _ => ?_
  rw [x1]
  simp (implicitDefEqProofs := false) (disch := omega) only [WPs, opds, List.all_cons, List.all_nil, List.cons_append, List.nil_append, cond_true, cond_false, eq_self, List.map_cons, List.map_nil, Nat.reduceAdd, Nat.testBit, Nat.reduceShiftRight, Nat.reduceAnd, Nat.reduceBNe, Nat.reduceMul]
  refine use_pureX (hR.add _ _ hq0 x2 _ _) fun _ => ?_
  rw [u1]
  simp (implicitDefEqProofs := false) (disch := omega) only [WPs, opds, List.all_cons, List.all_nil, List.cons_append, List.nil_append, cond_true, cond_false, eq_self, List.map_cons, List.map_nil, Nat.reduceAdd, Nat.testBit, Nat.reduceShiftRight, Nat.reduceAnd, Nat.reduceBNe, Nat.reduceMul, i01]
  refine wr_unroll (L := ac15L0) (b := ac15L0b) rfl ?_
  simp only [ac15L0b]
  simp (implicitDefEqProofs := false) (disch := omega) only [WPs, opds, List.all_cons, List.all_nil, List.cons_append, List.nil_append, cond_true, cond_false, eq_self, List.map_cons, List.map_nil, Nat.reduceAdd, Nat.testBit, Nat.reduceShiftRight, Nat.reduceAnd, Nat.reduceBNe, Nat.reduceMul, hbl, i1, i4, j1, j4, ci1, ck1]
  refine use_pureX (hR.mul _ _ hy hb _ _) fun _ => ?_
  rw [y1]
  simp (implicitDefEqProofs := false) (disch := omega) only [WPs, opds, List.all_cons, List.all_nil, List.cons_append, List.nil_append, cond_true, cond_false, eq_self, List.map_cons, List.map_nil, Nat.reduceAdd, Nat.testBit, Nat.reduceShiftRight, Nat.reduceAnd, Nat.reduceBNe, Nat.reduceMul]
  refine use_pureX (hR.add _ _ u2 y2' _ _) fun _ => ?_
  rw [v1]
  simp (implicitDefEqProofs := false) (disch := omega) only [WPs, opds, List.all_cons, List.all_nil, List.cons_append, List.nil_append, cond_true, cond_false, eq_self, List.map_cons, List.map_nil, Nat.reduceAdd, Nat.testBit, Nat.reduceShiftRight, Nat.reduceAnd, Nat.reduceBNe, Nat.reduceMul, i12]
  refine wr_unroll (L := ac15L0) (b := ac15L0b) rfl ?_
  simp only [ac15L0b]
  simp (implicitDefEqProofs := false) (disch := omega) only [WPs, opds, List.all_cons, List.all_nil, List.cons_append, List.nil_append, cond_true, cond_false, eq_self, List.map_cons, List.map_nil, Nat.reduceAdd, Nat.testBit, Nat.reduceShiftRight, Nat.reduceAnd, Nat.reduceBNe, Nat.reduceMul, hbl, i1, i4, j1, j4, ci2, ck2]
  refine use_pureX (hR.mul _ _ hz hc _ _) fun _ => ?_
  rw [z1]
  simp (implicitDefEqProofs := false) (disch := omega) only [WPs, opds, List.all_cons, List.all_nil, List.cons_append, List.nil_append, cond_true, cond_false, eq_self, List.map_cons, List.map_nil, Nat.reduceAdd, Nat.testBit, Nat.reduceShiftRight, Nat.reduceAnd, Nat.reduceBNe, Nat.reduceMul]
  refine use_pureX (hR.add _ _ v2 z2 _ _) fun _ => ?_
  rw [w1]
  simp (implicitDefEqProofs := false) (disch := omega) only [WPs, opds, List.all_cons, List.all_nil, List.cons_append, List.nil_append, cond_true, cond_false, eq_self, List.map_cons, List.map_nil, Nat.reduceAdd, Nat.testBit, Nat.reduceShiftRight, Nat.reduceAnd, Nat.reduceBNe, Nat.reduceMul, i23]
  refine wr_unroll (L := ac15L0) (b := ac15L0b) rfl ?_
  simp only [ac15L0b]
  simp (implicitDefEqProofs := false) (disch := omega) only [WPs, opds, List.all_cons, List.all_nil, List.cons_append, List.nil_append, cond_true, cond_false, eq_self, List.map_cons, List.map_nil, Nat.reduceAdd, Nat.testBit, Nat.reduceShiftRight, Nat.reduceAnd, Nat.reduceBNe, Nat.reduceMul]
  exact hQ _
theorem rp_L1 {q : Nat} {A T : Tab} (hg : GoodT q A T) (hR : ArR E Y q A T) {m : FM} {n1 k1 : Nat} {lv : Value} {ps : List P3} (hA : SlZ 3 m k1 n1 lv ps.length (ptCells ps)) (hpl : ps.length ≤ 100000) {i : Nat} {l : P3} (hi : ps[i]? = some l) (hps : ∀ r ∈ ps, r.lt q)
    (y2 y3 y4 y5 y7 y8 y10 : Value) (ys : List Value) {Q : AX → List Value → FM → Nat → Nat → Prop}
    (hQ : ∀ gv x1 M' N' w, n1 ≤ N' → (∀ b, b < n1 → M' b = m b) → IntZ M' n1 N' gv (lineR A T l ps 0) → (∀ j, j ≤ n1 → Nat.mod w (bit j) = 0) → Q (.exit 2) (gv :: x1 :: y2 :: y3 :: y4 :: y5 :: .int .i64 (i : Int) :: y7 :: y8 :: lv :: y10 :: .int .i64 (q : Int) :: ys) M' N' w) :
    ∀ d j, j + d = ps.length → ∀ (M' : FM) (N' w0 : Nat) (gv : Value), n1 ≤ N' → (∀ b, b < n1 → M' b = m b) → IntZ M' n1 N' gv (lineR A T l (ps.take j) 0) → (∀ j, j ≤ n1 → Nat.mod w0 (bit j) = 0) →
    Gv (execW PG E Y ac15L1 (gv :: .int .i64 (j : Int) :: y2 :: y3 :: y4 :: y5 :: .int .i64 (i : Int) :: y7 :: y8 :: lv :: y10 :: .int .i64 (q : Int) :: ys) M' N') fun X e m n w => Q X e m n (Nat.lor w0 w) := by
  intro d
  have hl := hps l (List.mem_of_getElem? hi)
  have hlen := hA.len
  induction d with
  | zero =>
    intro j hj M' N' w0 gv hN hM hZ hw
    obtain rfl : j = ps.length := by omega
    rw [List.take_length] at hZ
    refine wr_loopN (L := ac15L1) (b := ac15L1b) rfl ?_
    simp only [ac15L1b]
    simp (implicitDefEqProofs := false) (disch := omega) only [WPs, opds, List.all_cons, List.all_nil, List.cons_append, List.nil_append, cond_true, cond_false, eq_self, List.map_cons, List.map_nil, Nat.reduceAdd, Nat.testBit, Nat.reduceShiftRight, Nat.reduceAnd, Nat.reduceBNe, Nat.reduceMul, hlen]
    exact hQ _ _ _ _ _ hN hM hZ hw
  | succ d ih =>
    intro j hj M' N' w0 gv hN hM hZ hw
    have hjl : j < ps.length := by omega
    have ih' := ih (j + 1) (by omega)
    rw [List.take_add_one, List.getElem?_eq_getElem hjl, Option.toList_some, lineR_app, List.length_take, Nat.min_eq_left (by omega), Nat.zero_add] at ih'
    have hA' := SlZ.frame (M' := M') (N' := N') hA hN fun b _ hb => hM b hb
    have hr := hps _ (List.getElem_mem hjl)
    have hll := lineR_len A T l (ps.take j) 0
    rw [List.length_take] at hll
    have hjr : ps[j]? = some ps[j] := List.getElem?_eq_getElem hjl
    generalize ps[j] = r at *
    refine wr_loopN (L := ac15L1) (b := ac15L1b) rfl ?_
    simp only [ac15L1b]
    simp (implicitDefEqProofs := false) (disch := omega) only [WPs, opds, List.all_cons, List.all_nil, List.cons_append, List.nil_append, cond_true, cond_false, eq_self, List.map_cons, List.map_nil, Nat.reduceAdd, Nat.testBit, Nat.reduceShiftRight, Nat.reduceAnd, Nat.reduceBNe, Nat.reduceMul, hlen]
    refine rp_L0 hg hR hA' hi hjr hl hr _ _ _ _ _ _ _ _ _ _ _ _ _ fun y1 => ?_
    by_cases h0 : dotP A T l r = 0
    · rw [if_pos h0] at ih'
      simp (implicitDefEqProofs := false) (disch := omega) only [WPs, opds, List.all_cons, List.all_nil, List.cons_append, List.nil_append, cond_true, cond_false, eq_self, List.map_cons, List.map_nil, Nat.reduceAdd, Nat.testBit, Nat.reduceShiftRight, Nat.reduceAnd, Nat.reduceBNe, Nat.reduceMul, h0]
      refine use_rt (app_intZ (IntZ.frame hZ (by omega) fun b _ hb => by rw [fput_ne _ _ _ _ (by omega)]) (j : Int) (some ⟨N', 0, none⟩) 1 (bit N') (by omega) (by omega)) fun v5 M5 N5 r5 w5 ⟨e5, z5, l5, f5⟩ => ?_
      subst e5
      simp (implicitDefEqProofs := false) (disch := omega) only [WPs, opds, List.all_cons, List.all_nil, List.cons_append, List.nil_append, cond_true, cond_false, eq_self, List.map_cons, List.map_nil, Nat.reduceAdd, Nat.testBit, Nat.reduceShiftRight, Nat.reduceAnd, Nat.reduceBNe, Nat.reduceMul]
      refine wr_end (ih' _ (N' + 2) (Nat.lor w0 (Nat.lor (bit N') w5)) v5 (by omega) (fun b hb => by rw [l5 b hb, fput_ne _ _ _ _ (by omega)]; exact hM b hb) z5 (fun j hj => by simp only [frz_iff]; exact ⟨hw j hj, frz_bit (by omega), f5 j hj⟩)) fun X e m n w hq => ?_
      rw [← lor_assoc']; exact hq
    · rw [if_neg h0, List.append_nil] at ih'
      have h0' : ¬ ((dotP A T l r : Nat) : Int) = 0 := by omega
      simp (implicitDefEqProofs := false) (disch := omega) only [WPs, opds, List.all_cons, List.all_nil, List.cons_append, List.nil_append, cond_true, cond_false, eq_self, List.map_cons, List.map_nil, Nat.reduceAdd, Nat.testBit, Nat.reduceShiftRight, Nat.reduceAnd, Nat.reduceBNe, Nat.reduceMul, decide_eq_false h0']
      exact wr_end (ih' M' N' w0 gv hN hM hZ hw) fun X e m n w hq => by simpa only [zero_lor'] using hq
theorem rp_L2 {q : Nat} {A T : Tab} (hg : GoodT q A T) (hR : ArR E Y q A T) {m : FM} {nf n1 db k1 : Nat} {D : Int} {lv : Value} {ps : List P3} (hA : SlZ 3 m k1 nf lv ps.length (ptCells ps)) (hnf : nf ≤ db) (hdb : db < n1) (hpl : ps.length ≤ 100000) (hps : ∀ r ∈ ps, r.lt q)
    (y1 y4 : Value) (ys : List Value) {Q : AX → List Value → FM → Nat → Nat → Prop}
    (hQ : ∀ M' N' w, PrS m n1 db D M' N' (projR A T ps) → (∀ j, j ≤ nf → Nat.mod w (bit j) = 0) → Q (.exit 0) (y1 :: .pointer (some ⟨db, 0, none⟩) :: lv :: y4 :: .int .i64 (q : Int) :: ys) M' N' w) :
    ∀ d j, j + d = ps.length → ∀ (M' : FM) (N' w0 : Nat), PrS m n1 db D M' N' (projR A T ps |>.take j) → (∀ j, j ≤ nf → Nat.mod w0 (bit j) = 0) →
    Gv (execW PG E Y ac15L2 (.int .i64 (j : Int) :: y1 :: .pointer (some ⟨db, 0, none⟩) :: lv :: y4 :: .int .i64 (q : Int) :: ys) M' N') fun X e m n w => Q X e m n (Nat.lor w0 w) := by
  intro d
  have hlen := hA.len
  induction d with
  | zero =>
    intro j hj M' N' w0 hP hw
    refine wr_loopN (L := ac15L2) (b := ac15L2b) rfl ?_
    simp only [ac15L2b]
    have hpl2 : (projR A T ps).length = ps.length := List.length_map ..
    rw [show j = ps.length by omega, ← hpl2, List.take_length] at hP
    simp (implicitDefEqProofs := false) (disch := omega) only [WPs, opds, List.all_cons, List.all_nil, List.cons_append, List.nil_append, cond_true, cond_false, eq_self, List.map_cons, List.map_nil, Nat.reduceAdd, Nat.testBit, Nat.reduceShiftRight, Nat.reduceAnd, Nat.reduceBNe, Nat.reduceMul, hlen]
    exact hQ _ _ _ hP hw
  | succ d ih =>
    intro j hj M' N' w0 hP hw
    refine wr_loopN (L := ac15L2) (b := ac15L2b) rfl ?_
    simp only [ac15L2b]
    have hjl : j < ps.length := by omega
    obtain ⟨le, low, rv, d1, d2⟩ := hP
    have hA' := SlZ.frame (M' := M') (N' := N') hA (by omega) fun b _ hb => low b (by omega) (by omega)
    have hps2 : (projR A T ps).take (j + 1) = (projR A T ps).take j ++ [lineR A T ps[j] ps 0] := by
      rw [List.take_add_one, projR, List.getElem?_map, List.getElem?_eq_getElem hjl]; rfl
    have ih' := ih (j + 1) (by omega)
    rw [hps2] at ih'
    have htl : ((projR A T ps).take j).length ≤ 100000 := by rw [List.length_take]; omega
    have hjr : ps[j]? = some ps[j] := List.getElem?_eq_getElem hjl
    generalize (projR A T ps).take j = gs at *
    generalize ps[j] = l at *
    simp (implicitDefEqProofs := false) (disch := omega) only [WPs, opds, List.all_cons, List.all_nil, List.cons_append, List.nil_append, cond_true, cond_false, eq_self, List.map_cons, List.map_nil, Nat.reduceAdd, Nat.testBit, Nat.reduceShiftRight, Nat.reduceAnd, Nat.reduceBNe, Nat.reduceMul, hlen]
    refine wr_kont (rp_L1 hg hR hA' hpl hjr hps _ _ _ _ _ _ _ _ (fun gv x1 M2 N2 w2 n2 m2 z2 f2 rr => ?_) ps.length 0 (by omega) M' N' 0 _ (Nat.le_refl _) (fun _ _ => rfl) (IntZ.nil _ _ _) (fun _ _ => Nat.zero_mod _))
    have d1' : M2 db = some (.cells [.int .i64 D, rv] 0 false true) := by rw [m2 db (by omega)]; exact d1
    have hgc : gv.cells.toList = [gv] := by rcases z2 with ⟨_, _, rfl⟩ | ⟨_, _, b, rfl, _⟩ <;> rfl
    have hgo : Am.one gv = true := SlZ.one z2
    simp (implicitDefEqProofs := false) (disch := omega) only [WPs, opds, List.all_cons, List.all_nil, List.cons_append, List.nil_append, cond_true, cond_false, eq_self, List.map_cons, List.map_nil, Nat.reduceAdd, Nat.testBit, Nat.reduceShiftRight, Nat.reduceAnd, Nat.reduceBNe, Nat.reduceMul, d1', hgo, hgc]
    refine use_rt (app_rowsZ (n0 := n1) (n1 := N') (gs := gs) (g := lineR A T l ps 0) (RowsZ.frame d2 (Nat.le_refl _) fun b h1 h2 => by rw [fput_ne _ _ _ _ (by omega), m2 b (by omega)]) (IntZ.frame (SlZ.low z2 (by omega)) (by omega) fun b _ hb => by rw [fput_ne _ _ _ _ (by omega)]) (by omega) (by omega) (some ⟨N2, 0, none⟩) 1 (bit N2) (by omega)) fun v5 M5 N5 r5 w5 hA => ?_
    obtain ⟨av, an, as5, al, aw⟩ := hA
    subst an
    subst av
    have d5 : M5 db = some (.cells [.int .i64 D, rv] 0 false true) := by rw [al db hdb, fput_ne _ _ _ _ (by omega)]; exact d1'
    simp (implicitDefEqProofs := false) (disch := omega) only [WPs, opds, List.all_cons, List.all_nil, List.cons_append, List.nil_append, cond_true, cond_false, eq_self, List.map_cons, List.map_nil, Nat.reduceAdd, Nat.testBit, Nat.reduceShiftRight, Nat.reduceAnd, Nat.reduceBNe, Nat.reduceMul, d5]
    refine wr_end (ih' _ (N2 + 2) (Nat.lor w0 (Nat.lor w2 (Nat.lor (Nat.lor (bit N2) w5) (bit db)))) ⟨by omega, fun b h1 h2 => by rw [fput_ne _ _ _ _ h2, al b h1, fput_ne _ _ _ _ (by omega), m2 b (by omega)]; exact low b h1 h2, ⟨_, fput_same _ _ _, RowsZ.frame as5 (Nat.le_refl _) fun b h1 _ => fput_ne _ _ _ _ (by omega)⟩⟩ (fun j hj => by
      simp only [frz_iff]
      exact ⟨hw j hj, f2 j (by omega), ⟨frz_bit (by omega), aw j (by omega)⟩, frz_bit (by omega)⟩)) fun X e m n w hq => ?_
    rw [← lor_assoc']; exact hq
theorem refProj_spec (hE : E 15 = some ac15) {q : Nat} {A T : Tab} (hg : GoodT q A T) (hR : ArR E Y q A T) {ps : List P3} (hpl : ps.length ≤ 100000) (hp0 : 0 < ps.length) (hps : ∀ r ∈ ps, r.lt q) (m : FM) (n : Nat) (hC : ∀ m n, Rt (callW PG E Y 26 [.int .i64 (q : Int)] m n) (Kpt m n fun v M' N' => SlZ 3 M' n N' v ps.length (ptCells ps))) :
    Rt (callW PG E Y 15 [.int .i64 (q : Int)] m n) (Kpt m n fun v M' N' => DesV M' n N' v (ps.length : Int) (projR A T ps)) := by
  refine kept_specQ hE rfl fun Q hQ => ?_
  simp only [ac15]
  simp (implicitDefEqProofs := false) (disch := omega) only [WPs, opds, List.all_cons, List.all_nil, List.cons_append, List.nil_append, cond_true, cond_false, eq_self, List.map_cons, List.map_nil, Nat.reduceAdd, Nat.testBit, Nat.reduceShiftRight, Nat.reduceAnd, Nat.reduceBNe, Nat.reduceMul]
  refine use_rt (hC _ _) fun v M1 N1 r1 w1 ⟨n1, m1, f1, hA⟩ => ?_
  have hlen := hA.len
  simp (implicitDefEqProofs := false) (disch := omega) only [WPs, opds, List.all_cons, List.all_nil, List.cons_append, List.nil_append, cond_true, cond_false, eq_self, List.map_cons, List.map_nil, Nat.reduceAdd, Nat.testBit, Nat.reduceShiftRight, Nat.reduceAnd, Nat.reduceBNe, Nat.reduceMul, hlen]
  generalize hM2 : (AMem.put M1 N1 (some (.cells [.int .i64 (ps.length : Int), .slice none 0 0] 0 false true)) : FM) = M2
  have l2 : ∀ b, b < N1 → M2 b = M1 b := fun b hb => by rw [← hM2, fput_ne _ _ _ _ (by omega)]
  have d2 : M2 N1 = some (.cells [.int .i64 (ps.length : Int), .slice none 0 0] 0 false true) := by rw [← hM2]; exact fput_same _ _ _
  have hm1 : M1 n = some (.cells [.int .i64 0, .slice none 0 0] 0 false true) := (m1 n (by omega)).trans (fput_same _ _ _)
  have fzn := f1 n (by omega)
  have fza : Nat.mod (bit N1) (bit n) = 0 := frz_bit (by omega)
  have fzb : Nat.mod (bit n) (bit n) = 0 := frz_bit (Nat.le_refl _)
  refine wr_kont (rp_L2 hg hR (m := M2) (nf := N1) (n1 := N1 + 1) (db := N1) (D := (ps.length : Int)) (SlZ.frame hA (Nat.le_refl _) fun b _ hb => l2 b hb) (Nat.le_refl _) (Nat.lt_succ_self _) hpl hps _ _ _ (fun M3 N3 w3 hP f3 rr => ?_) ps.length 0 (by omega) M2 (N1 + 1) 0 ⟨Nat.le_refl _, fun _ _ _ => rfl, ⟨_, d2, RowsZ.nil _ _ _⟩⟩ (fun _ _ => Nat.zero_mod _))
  obtain ⟨le3, low3, rv, e3, g3⟩ := hP
  have hm3 : M3 n = some (.cells [.int .i64 0, .slice none 0 0] 0 false true) := by rw [low3 n (by omega) (by omega), l2 n (by omega)]; exact hm1
  have hrb : Am.one rv = true := g3.one
  have hpl2 : (projR A T ps).length = ps.length := List.length_map ..
  have ha : addrFree (.agg #[.int .i64 (ps.length : Int), rv]) = false := by
    rcases g3 with ⟨h, e⟩ | ⟨h, vs, b, rfl, _⟩
    · rw [h] at hpl2
      exact absurd hpl2 (by show ¬ 0 = _; omega)
    · rfl
  have fz3 := f3 n (by omega)
  simp (implicitDefEqProofs := false) (disch := omega) only [WPs, opds, List.all_cons, List.all_nil, List.cons_append, List.nil_append, cond_true, cond_false, eq_self, List.map_cons, List.map_nil, Nat.reduceAdd, Nat.testBit, Nat.reduceShiftRight, Nat.reduceAnd, Nat.reduceBNe, Nat.reduceMul, e3, hm3, hrb]
  refine hQ _ _ _ _ _ (by omega) (fun b hb => by rw [fput_ne _ _ _ _ (by omega), low3 b (by omega) (by omega), l2 b (by omega), m1 b (by omega), fput_ne _ _ _ _ (by omega)]) ?_ (by rw [ha]) ⟨rv, rfl, RowsZ.low (RowsZ.frame g3 (Nat.le_refl _) fun b h1 _ => fput_ne _ _ _ _ (by omega)) (by omega)⟩
  simp only [frz_iff]
  exact ⟨⟨⟨⟨fzb, fzn⟩, fza, fza⟩, fz3⟩, fzb⟩
end Go.Am.C06
namespace Go.Am.C06
open Go Go.Am
variable {E : Nat → Option AFn} {Y : Nat → List Value → FM → Nat → OR FM}
def afQ (A T : Tab) (q n p : Nat) : Bool := cond (Nat.blt n (q * q)) (decide (p % q = addN A (addN T (n / q) (p / q)) (n % q))) (decide (p / q = n - q * q))
def afRow (A T : Tab) (q n j : Nat) : List Int := ((List.range j).filter (afQ A T q n)).map fun p => ((p : Nat) : Int)
theorem afRow_succ (A T : Tab) (q n j : Nat) : afRow A T q n (j + 1) = afRow A T q n j ++ (if afQ A T q n j = true then [(j : Int)] else []) := by
  unfold afRow
  rw [List.range_succ, List.filter_append, List.map_append, List.filter_cons]
  cases afQ A T q n j <;> rfl
theorem afRow_len (A T : Tab) (q n j : Nat) : (afRow A T q n j).length ≤ j := by
  unfold afRow
  rw [List.length_map]
  exact Nat.le_trans (List.length_filter_le _ _) (Nat.le_of_eq List.length_range)
def refAff (A T : Tab) (q : Nat) : List (List Int) := (List.range (q * q + q)).map fun n => afRow A T q n (q * q)
theorem binV_quo_nat {t a b : Nat} (ha : a < 1000000) (hb : b ≠ 0) : binV PG .quo t (.int .i64 (a : Int)) (.int .i64 (b : Int)) = some (.int .i64 ((a / b : Nat) : Int)) := by
  show intBin .quo .i64 (a : Int) (b : Int) = _
  rw [quo_i64 (by omega), Int.tdiv_eq_ediv_of_nonneg (by omega)]
  have h1 : (a : Int) / (b : Int) = ((a / b : Nat) : Int) := rfl
  have h2 : a / b ≤ a := Nat.div_le_self _ _
  generalize a / b = c at *
  rw [h1, wrap_i64 (by omega) (by omega)]
theorem ra_L0 {q : Nat} {A T : Tab} (hg : GoodT q A T) (hR : ArR E Y q A T) (hq2 : 2 ≤ q) (hq7 : q ≤ 7) {m : FM} {n1 n : Nat} (hn : n < q * q + q)
    (y2 y3 y4 y5 y6 y8 y9 y10 : Value) (ys : List Value) {Q : AX → List Value → FM → Nat → Nat → Prop}
    (hQ : ∀ gv x1 M' N' w, n1 ≤ N' → (∀ b, b < n1 → M' b = m b) → IntZ M' n1 N' gv (afRow A T q n (q * q)) → (∀ j, j ≤ n1 → Nat.mod w (bit j) = 0) → Q (.exit 2) (gv :: x1 :: y2 :: y3 :: y4 :: y5 :: y6 :: .int .i64 (n : Int) :: y8 :: y9 :: y10 :: .int .i64 (q : Int) :: ys) M' N' w) :
    ∀ d j, j + d = q * q → ∀ (M' : FM) (N' w0 : Nat) (gv : Value), n1 ≤ N' → (∀ b, b < n1 → M' b = m b) → IntZ M' n1 N' gv (afRow A T q n j) → (∀ j, j ≤ n1 → Nat.mod w0 (bit j) = 0) →
    Gv (execW PG E Y ac17L0 (gv :: .int .i64 (j : Int) :: y2 :: y3 :: y4 :: y5 :: y6 :: .int .i64 (n : Int) :: y8 :: y9 :: y10 :: .int .i64 (q : Int) :: ys) M' N') fun X e m n w => Q X e m n (Nat.lor w0 w) := by
  intro d
  have hqq : q * q ≤ 7 * 7 := Nat.mul_le_mul hq7 hq7
  induction d with
  | zero =>
    intro j hj M' N' w0 gv hN hM hZ hw
    obtain rfl : j = q * q := by omega
    refine wr_loopN (L := ac17L0) (b := ac17L0b) rfl ?_
    simp only [ac17L0b]
    simp (implicitDefEqProofs := false) (disch := omega) only [WPs, opds, List.all_cons, List.all_nil, List.cons_append, List.nil_append, cond_true, cond_false, eq_self, List.map_cons, List.map_nil, Nat.reduceAdd, Nat.testBit, Nat.reduceShiftRight, Nat.reduceAnd, Nat.reduceBNe, Nat.reduceMul]
    exact hQ _ _ _ _ _ hN hM hZ hw
  | succ d ih =>
    intro j hj M' N' w0 gv hN hM hZ hw
    have hjl : j < q * q := by omega
    have ih' := ih (j + 1) (by omega)
    rw [afRow_succ] at ih'
    have hll := afRow_len A T q n j
    have hx : j / q < q := (Nat.div_lt_iff_lt_mul (by omega)).2 hjl
    have hy : j % q < q := Nat.mod_lt _ (by omega)
    have hz : n % q < q := Nat.mod_lt _ (by omega)
    have hb1 : binV PG .quo 3 (.int .i64 (j : Int)) (.int .i64 (q : Int)) = some (.int .i64 ((j / q : Nat) : Int)) := binV_quo_nat (by omega) (by omega)
    have hb2 : binV PG .rem 3 (.int .i64 (j : Int)) (.int .i64 (q : Int)) = some (.int .i64 ((j % q : Nat) : Int)) := binV_rem_nat (by omega)
    have hb3 : binV PG .quo 3 (.int .i64 (n : Int)) (.int .i64 (q : Int)) = some (.int .i64 ((n / q : Nat) : Int)) := binV_quo_nat (by omega) (by omega)
    have hb4 : binV PG .rem 3 (.int .i64 (n : Int)) (.int .i64 (q : Int)) = some (.int .i64 ((n % q : Nat) : Int)) := binV_rem_nat (by omega)
    refine wr_loopN (L := ac17L0) (b := ac17L0b) rfl ?_
    simp only [ac17L0b]
    by_cases hc : n < q * q
    · have hw' : n / q < q := (Nat.div_lt_iff_lt_mul (by omega)).2 hc
      obtain ⟨x1, x2⟩ := hg.mulE hw' hx
      obtain ⟨u1, u2⟩ := hg.addE x2 hz
      have e1 : afQ A T q n j = decide (j % q = addN A (addN T (n / q) (j / q)) (n % q)) := by
        unfold afQ
        rw [show Nat.blt n (q * q) = true from Nat.ble_eq_true_of_le hc]; rfl
      rw [e1] at ih'
      generalize addN A (addN T (n / q) (j / q)) (n % q) = s at *
      generalize addN T (n / q) (j / q) = t at *
      generalize j / q = x at *
      generalize j % q = y at *
      generalize n / q = nx at *
      generalize n % q = nz at *
      simp (implicitDefEqProofs := false) (disch := omega) only [WPs, opds, List.all_cons, List.all_nil, List.cons_append, List.nil_append, cond_true, cond_false, eq_self, List.map_cons, List.map_nil, Nat.reduceAdd, Nat.testBit, Nat.reduceShiftRight, Nat.reduceAnd, Nat.reduceBNe, Nat.reduceMul, hb1, hb2, hb3, hb4]
      refine use_pureX (hR.mul _ _ hw' hx _ _) fun _ => ?_
      rw [x1]
      simp (implicitDefEqProofs := false) (disch := omega) only [WPs, opds, List.all_cons, List.all_nil, List.cons_append, List.nil_append, cond_true, cond_false, eq_self, List.map_cons, List.map_nil, Nat.reduceAdd, Nat.testBit, Nat.reduceShiftRight, Nat.reduceAnd, Nat.reduceBNe, Nat.reduceMul, hb4]
      refine use_pureX (hR.add _ _ x2 hz _ _) fun _ => ?_
      rw [u1]
      by_cases hs : y = s
      · rw [decide_eq_true hs, if_pos rfl] at ih'
        have hs' : (y : Int) = (s : Int) := by omega
        simp (implicitDefEqProofs := false) (disch := omega) only [WPs, opds, List.all_cons, List.all_nil, List.cons_append, List.nil_append, cond_true, cond_false, eq_self, List.map_cons, List.map_nil, Nat.reduceAdd, Nat.testBit, Nat.reduceShiftRight, Nat.reduceAnd, Nat.reduceBNe, Nat.reduceMul, decide_eq_true hs']
        refine use_rt (app_intZ (IntZ.frame hZ (by omega) fun b _ hb => by rw [fput_ne _ _ _ _ (by omega)]) (j : Int) (some ⟨N', 0, none⟩) 1 (bit N') (by omega) (by omega)) fun v5 M5 N5 r5 w5 ⟨e5, z5, l5, f5⟩ => ?_
        subst e5
        simp (implicitDefEqProofs := false) (disch := omega) only [WPs, opds, List.all_cons, List.all_nil, List.cons_append, List.nil_append, cond_true, cond_false, eq_self, List.map_cons, List.map_nil, Nat.reduceAdd, Nat.testBit, Nat.reduceShiftRight, Nat.reduceAnd, Nat.reduceBNe, Nat.reduceMul]
        refine wr_end (ih' _ (N' + 2) (Nat.lor w0 (Nat.lor (bit N') w5)) v5 (by omega) (fun b hb => by rw [l5 b hb, fput_ne _ _ _ _ (by omega)]; exact hM b hb) z5 (fun j hj => by simp only [frz_iff]; exact ⟨hw j hj, frz_bit (by omega), f5 j hj⟩)) fun X e m n w hq => ?_
        rw [← lor_assoc']; exact hq
      · rw [decide_eq_false hs, if_neg (by decide), List.append_nil] at ih'
        have hs' : ¬ (y : Int) = (s : Int) := by omega
        simp (implicitDefEqProofs := false) (disch := omega) only [WPs, opds, List.all_cons, List.all_nil, List.cons_append, List.nil_append, cond_true, cond_false, eq_self, List.map_cons, List.map_nil, Nat.reduceAdd, Nat.testBit, Nat.reduceShiftRight, Nat.reduceAnd, Nat.reduceBNe, Nat.reduceMul, decide_eq_false hs']
        exact wr_end (ih' M' N' w0 gv hN hM hZ hw) fun X e m n w hq => by simpa only [zero_lor'] using hq
    · have e1 : afQ A T q n j = decide (j / q = n - q * q) := by
        unfold afQ
        rw [show Nat.blt n (q * q) = false from Bool.eq_false_iff.2 fun e => hc (Nat.le_of_ble_eq_true e)]; rfl
      rw [e1] at ih'
      generalize j / q = x at *
      by_cases hs : x = n - q * q
      · rw [decide_eq_true hs, if_pos rfl] at ih'
        have hs' : (x : Int) = ((n - q * q : Nat) : Int) := by omega
        simp (implicitDefEqProofs := false) (disch := omega) only [WPs, opds, List.all_cons, List.all_nil, List.cons_append, List.nil_append, cond_true, cond_false, eq_self, List.map_cons, List.map_nil, Nat.reduceAdd, Nat.testBit, Nat.reduceShiftRight, Nat.reduceAnd, Nat.reduceBNe, Nat.reduceMul, hb1, hb2, decide_eq_true hs']
        refine use_rt (app_intZ (IntZ.frame hZ (by omega) fun b _ hb => by rw [fput_ne _ _ _ _ (by omega)]) (j : Int) (some ⟨N', 0, none⟩) 1 (bit N') (by omega) (by omega)) fun v5 M5 N5 r5 w5 ⟨e5, z5, l5, f5⟩ => ?_
        subst e5
        simp (implicitDefEqProofs := false) (disch := omega) only [WPs, opds, List.all_cons, List.all_nil, List.cons_append, List.nil_append, cond_true, cond_false, eq_self, List.map_cons, List.map_nil, Nat.reduceAdd, Nat.testBit, Nat.reduceShiftRight, Nat.reduceAnd, Nat.reduceBNe, Nat.reduceMul]
        refine wr_end (ih' _ (N' + 2) (Nat.lor w0 (Nat.lor (bit N') w5)) v5 (by omega) (fun b hb => by rw [l5 b hb, fput_ne _ _ _ _ (by omega)]; exact hM b hb) z5 (fun j hj => by simp only [frz_iff]; exact ⟨hw j hj, frz_bit (by omega), f5 j hj⟩)) fun X e m n w hq => ?_
        rw [← lor_assoc']; exact hq
      · rw [decide_eq_false hs, if_neg (by decide), List.append_nil] at ih'
        have hs' : ¬ (x : Int) = ((n - q * q : Nat) : Int) := by omega
        simp (implicitDefEqProofs := false) (disch := omega) only [WPs, opds, List.all_cons, List.all_nil, List.cons_append, List.nil_append, cond_true, cond_false, eq_self, List.map_cons, List.map_nil, Nat.reduceAdd, Nat.testBit, Nat.reduceShiftRight, Nat.reduceAnd, Nat.reduceBNe, Nat.reduceMul, hb1, hb2, decide_eq_false hs']
        exact wr_end (ih' M' N' w0 gv hN hM hZ hw) fun X e m n w hq => by simpa only [zero_lor'] using hq
theorem ra_L1 {q : Nat} {A T : Tab} (hg : GoodT q A T) (hR : ArR E Y q A T) (hq2 : 2 ≤ q) (hq7 : q ≤ 7) {m : FM} {n1 db : Nat} {D : Int} (hdb : db < n1)
    (y1 y3 : Value) (ys : List Value) {Q : AX → List Value → FM → Nat → Nat → Prop}
    (hQ : ∀ M' N' w, PrS m n1 db D M' N' (refAff A T q) → (∀ j, j ≤ db → Nat.mod w (bit j) = 0) → Q (.exit 0) (y1 :: .pointer (some ⟨db, 0, none⟩) :: y3 :: .int .i64 (q : Int) :: ys) M' N' w) :
    ∀ d j, j + d = q * q + q → ∀ (M' : FM) (N' w0 : Nat), PrS m n1 db D M' N' (refAff A T q |>.take j) → (∀ j, j ≤ db → Nat.mod w0 (bit j) = 0) →
    Gv (execW PG E Y ac17L1 (.int .i64 (j : Int) :: y1 :: .pointer (some ⟨db, 0, none⟩) :: y3 :: .int .i64 (q : Int) :: ys) M' N') fun X e m n w => Q X e m n (Nat.lor w0 w) := by
  intro d
  have hqq : q * q ≤ 7 * 7 := Nat.mul_le_mul hq7 hq7
  have hln : (refAff A T q).length = q * q + q := by rw [refAff, List.length_map, List.length_range]
  induction d with
  | zero =>
    intro j hj M' N' w0 hP hw
    refine wr_loopN (L := ac17L1) (b := ac17L1b) rfl ?_
    simp only [ac17L1b]
    rw [show j = q * q + q by omega, ← hln, List.take_length] at hP
    simp (implicitDefEqProofs := false) (disch := omega) only [WPs, opds, List.all_cons, List.all_nil, List.cons_append, List.nil_append, cond_true, cond_false, eq_self, List.map_cons, List.map_nil, Nat.reduceAdd, Nat.testBit, Nat.reduceShiftRight, Nat.reduceAnd, Nat.reduceBNe, Nat.reduceMul]
    exact hQ _ _ _ hP hw
  | succ d ih =>
    intro j hj M' N' w0 hP hw
    refine wr_loopN (L := ac17L1) (b := ac17L1b) rfl ?_
    simp only [ac17L1b]
    obtain ⟨le, low, rv, d1, d2⟩ := hP
    have hjl : j < q * q + q := by omega
    have hps2 : (refAff A T q).take (j + 1) = (refAff A T q).take j ++ [afRow A T q j (q * q)] := by
      rw [List.take_add_one, refAff, List.getElem?_map, List.getElem?_range hjl]; rfl
    have ih' := ih (j + 1) (by omega)
    rw [hps2] at ih'
    have htl : ((refAff A T q).take j).length ≤ 100000 := by rw [List.length_take]; omega
    generalize (refAff A T q).take j = gs at *
    simp (implicitDefEqProofs := false) (disch := omega) only [WPs, opds, List.all_cons, List.all_nil, List.cons_append, List.nil_append, cond_true, cond_false, eq_self, List.map_cons, List.map_nil, Nat.reduceAdd, Nat.testBit, Nat.reduceShiftRight, Nat.reduceAnd, Nat.reduceBNe, Nat.reduceMul]
    refine wr_kont (ra_L0 hg hR hq2 hq7 (m := M') (n1 := N') hjl _ _ _ _ _ _ _ _ _ (fun gv x1 M2 N2 w2 n2 m2 z2 f2 rr => ?_) (q * q) 0 (by omega) M' N' 0 _ (Nat.le_refl _) (fun _ _ => rfl) (IntZ.nil _ _ _) (fun _ _ => Nat.zero_mod _))
    have d1' : M2 db = some (.cells [.int .i64 D, rv] 0 false true) := by rw [m2 db (by omega)]; exact d1
    have hgc : gv.cells.toList = [gv] := by rcases z2 with ⟨_, _, rfl⟩ | ⟨_, _, b, rfl, _⟩ <;> rfl
    have hgo : Am.one gv = true := SlZ.one z2
    simp (implicitDefEqProofs := false) (disch := omega) only [WPs, opds, List.all_cons, List.all_nil, List.cons_append, List.nil_append, cond_true, cond_false, eq_self, List.map_cons, List.map_nil, Nat.reduceAdd, Nat.testBit, Nat.reduceShiftRight, Nat.reduceAnd, Nat.reduceBNe, Nat.reduceMul, d1', hgo, hgc]
    refine use_rt (app_rowsZ (n0 := n1) (n1 := N') (gs := gs) (g := afRow A T q j (q * q)) (RowsZ.frame d2 (Nat.le_refl _) fun b h1 h2 => by rw [fput_ne _ _ _ _ (by omega), m2 b (by omega)]) (IntZ.frame (SlZ.low z2 (by omega)) (by omega) fun b _ hb => by rw [fput_ne _ _ _ _ (by omega)]) (by omega) (by omega) (some ⟨N2, 0, none⟩) 1 (bit N2) (by omega)) fun v5 M5 N5 r5 w5 hA => ?_
    obtain ⟨av, an, as5, al, aw⟩ := hA
    subst an
    subst av
    have d5 : M5 db = some (.cells [.int .i64 D, rv] 0 false true) := by rw [al db hdb, fput_ne _ _ _ _ (by omega)]; exact d1'
    simp (implicitDefEqProofs := false) (disch := omega) only [WPs, opds, List.all_cons, List.all_nil, List.cons_append, List.nil_append, cond_true, cond_false, eq_self, List.map_cons, List.map_nil, Nat.reduceAdd, Nat.testBit, Nat.reduceShiftRight, Nat.reduceAnd, Nat.reduceBNe, Nat.reduceMul, d5]
    refine wr_end (ih' _ (N2 + 2) (Nat.lor w0 (Nat.lor w2 (Nat.lor (Nat.lor (bit N2) w5) (bit db)))) ⟨by omega, fun b h1 h2 => by rw [fput_ne _ _ _ _ h2, al b h1, fput_ne _ _ _ _ (by omega), m2 b (by omega)]; exact low b h1 h2, ⟨_, fput_same _ _ _, RowsZ.frame as5 (Nat.le_refl _) fun b h1 _ => fput_ne _ _ _ _ (by omega)⟩⟩ (fun j hj => by
      simp only [frz_iff]
      exact ⟨hw j hj, f2 j (by omega), ⟨frz_bit (by omega), aw j (by omega)⟩, frz_bit (by omega)⟩)) fun X e m n w hq => ?_
    rw [← lor_assoc']; exact hq
theorem refAff_spec (hE : E 17 = some ac17) {q : Nat} {A T : Tab} (hg : GoodT q A T) (hR : ArR E Y q A T) (hq2 : 2 ≤ q) (hq7 : q ≤ 7) (m : FM) (n : Nat) :
    Rt (callW PG E Y 17 [.int .i64 (q : Int)] m n) (Kpt m n fun v M' N' => DesV M' n N' v ((q * q : Nat) : Int) (refAff A T q)) := by
  refine kept_specQ hE rfl fun Q hQ => ?_
  simp only [ac17]
  have hqq : q * q ≤ 7 * 7 := Nat.mul_le_mul hq7 hq7
  simp (implicitDefEqProofs := false) (disch := omega) only [WPs, opds, List.all_cons, List.all_nil, List.cons_append, List.nil_append, cond_true, cond_false, eq_self, List.map_cons, List.map_nil, Nat.reduceAdd, Nat.testBit, Nat.reduceShiftRight, Nat.reduceAnd, Nat.reduceBNe, Nat.reduceMul]
  generalize hM2 : (AMem.put (AMem.put m n (some (.cells [.int .i64 0, .slice none 0 0] 0 false true))) (n + 1) (some (.cells [.int .i64 ((q * q : Nat) : Int), .slice none 0 0] 0 false true)) : FM) = M2
  have l2 : ∀ b, b < n → M2 b = m b := fun b hb => by rw [← hM2, fput_ne _ _ _ _ (by omega), fput_ne _ _ _ _ (by omega)]
  have d2 : M2 (n + 1) = some (.cells [.int .i64 ((q * q : Nat) : Int), .slice none 0 0] 0 false true) := by rw [← hM2]; exact fput_same _ _ _
  have hm1 : M2 n = some (.cells [.int .i64 0, .slice none 0 0] 0 false true) := by rw [← hM2, fput_ne _ _ _ _ (by omega)]; exact fput_same _ _ _
  have fza : Nat.mod (bit (n + 1)) (bit n) = 0 := frz_bit (by omega)
  have fzb : Nat.mod (bit n) (bit n) = 0 := frz_bit (Nat.le_refl _)
  refine wr_kont (ra_L1 hg hR hq2 hq7 (m := M2) (n1 := n + 2) (db := n + 1) (D := ((q * q : Nat) : Int)) (Nat.lt_succ_self _) _ _ _ (fun M3 N3 w3 hP f3 rr => ?_) (q * q + q) 0 (by omega) M2 (n + 2) 0 ⟨Nat.le_refl _, fun _ _ _ => rfl, ⟨_, d2, RowsZ.nil _ _ _⟩⟩ (fun _ _ => Nat.zero_mod _))
  obtain ⟨le3, low3, rv, e3, g3⟩ := hP
  have hm3 : M3 n = some (.cells [.int .i64 0, .slice none 0 0] 0 false true) := by rw [low3 n (by omega) (by omega)]; exact hm1
  have hrb : Am.one rv = true := g3.one
  have ha : addrFree (.agg #[.int .i64 ((q * q : Nat) : Int), rv]) = false := by
    rcases g3 with ⟨h, e⟩ | ⟨h, vs, b, rfl, _⟩
    · have hln : (refAff A T q).length = q * q + q := by rw [refAff, List.length_map, List.length_range]
      rw [h] at hln
      exact absurd hln (by show ¬ 0 = _; omega)
    · rfl
  have fz3 := f3 n (by omega)
  simp (implicitDefEqProofs := false) (disch := omega) only [WPs, opds, List.all_cons, List.all_nil, List.cons_append, List.nil_append, cond_true, cond_false, eq_self, List.map_cons, List.map_nil, Nat.reduceAdd, Nat.testBit, Nat.reduceShiftRight, Nat.reduceAnd, Nat.reduceBNe, Nat.reduceMul, e3, hm3, hrb]
  refine hQ _ _ _ _ _ (by omega) (fun b hb => by rw [fput_ne _ _ _ _ (by omega), low3 b (by omega) (by omega), l2 b (by omega)]) ?_ (by rw [ha]) ⟨rv, rfl, RowsZ.low (RowsZ.frame g3 (Nat.le_refl _) fun b h1 _ => fput_ne _ _ _ _ (by omega)) (by omega)⟩
  simp only [frz_iff, fza, fzb, fz3, and_self]
end Go.Am.C06
namespace Go.Am.C06
open Go Go.Am
set_option maxRecDepth 1000000
noncomputable def okP (q N : Nat) (A T : Tab) (ps : List P3) (L : List (List Int)) : Bool :=
  (List.range N).all fun a => decide ((L.getD a []).length = q + 1) && ((L.getD a []).all fun x => decide (0 ≤ x) && decide (x < (N : Int))) && (List.range N).all fun b =>
    (decide (((b : Nat) : Int) ∈ L.getD a []) == decide (((a : Nat) : Int) ∈ L.getD b [])) && (Nat.beq a b || decide (comR (L.getD a []) (L.getD b []) = [(comE A T ps ((a : Nat) : Int) ((b : Nat) : Int)).1]))
noncomputable def okF (N : Nat) (L : List (List Int)) : Bool :=
  (List.range N).all fun a => decide (((List.range N).map fun g => ((g : Nat) : Int)).filter (fun g => decide (g ∈ L.getD a [])) = L.getD a [])
def Pt2 : List P3 := [⟨0, 0, 1⟩, ⟨0, 1, 0⟩, ⟨0, 1, 1⟩, ⟨1, 0, 0⟩, ⟨1, 0, 1⟩, ⟨1, 1, 0⟩, ⟨1, 1, 1⟩]
def L2 : List (List Int) := [[1, 3, 5], [0, 3, 4], [2, 3, 6], [0, 1, 2], [1, 4, 6], [0, 5, 6], [2, 4, 5]]
theorem pts2 : ptsR 2 T2 = Pt2 := by decide +kernel
theorem proj2 : projR A2 T2 Pt2 = L2 := by decide +kernel
theorem ok2 : okP 2 7 A2 T2 Pt2 L2 = true := by kernel_rfl
def Pt3 : List P3 := [⟨0, 0, 1⟩, ⟨0, 1, 0⟩, ⟨0, 1, 1⟩, ⟨0, 1, 2⟩, ⟨1, 0, 0⟩, ⟨1, 0, 1⟩, ⟨1, 0, 2⟩, ⟨1, 1, 0⟩, ⟨1, 1, 1⟩, ⟨1, 1, 2⟩, ⟨1, 2, 0⟩, ⟨1, 2, 1⟩, ⟨1, 2, 2⟩]
def L3 : List (List Int) := [[1, 4, 7, 10], [0, 4, 5, 6], [3, 4, 9, 11], [2, 4, 8, 12], [0, 1, 2, 3], [1, 6, 9, 12], [1, 5, 8, 11], [0, 10, 11, 12], [3, 6, 8, 10], [2, 5, 9, 10], [0, 7, 8, 9], [2, 6, 7, 11], [3, 5, 7, 12]]
theorem pts3 : ptsR 3 T3 = Pt3 := by decide +kernel
theorem proj3 : projR A3 T3 Pt3 = L3 := by decide +kernel
theorem ok3 : okP 3 13 A3 T3 Pt3 L3 = true := by kernel_rfl
def Pt4 : List P3 := [⟨0, 0, 1⟩, ⟨0, 1, 0⟩, ⟨0, 1, 1⟩, ⟨0, 1, 2⟩, ⟨0, 1, 3⟩, ⟨1, 0, 0⟩, ⟨1, 0, 1⟩, ⟨1, 0, 2⟩, ⟨1, 0, 3⟩, ⟨1, 1, 0⟩, ⟨1, 1, 1⟩, ⟨1, 1, 2⟩, ⟨1, 1, 3⟩, ⟨1, 2, 0⟩, ⟨1, 2, 1⟩, ⟨1, 2, 2⟩, ⟨1, 2, 3⟩, ⟨1, 3, 0⟩, ⟨1, 3, 1⟩, ⟨1, 3, 2⟩, ⟨1, 3, 3⟩]
def L4 : List (List Int) := [[1, 5, 9, 13, 17], [0, 5, 6, 7, 8], [2, 5, 10, 15, 20], [4, 5, 12, 14, 19], [3, 5, 11, 16, 18], [0, 1, 2, 3, 4], [1, 6, 10, 14, 18], [1, 8, 12, 16, 20], [1, 7, 11, 15, 19], [0, 9, 10, 11, 12], [2, 6, 9, 16, 19], [4, 8, 9, 15, 18], [3, 7, 9, 14, 20], [0, 17, 18, 19, 20], [3, 6, 12, 15, 17], [2, 8, 11, 14, 17], [4, 7, 10, 16, 17], [0, 13, 14, 15, 16], [4, 6, 11, 13, 20], [3, 8, 10, 13, 19], [2, 7, 12, 13, 18]]
theorem pts4 : ptsR 4 T4 = Pt4 := by decide +kernel
theorem proj4 : projR A4 T4 Pt4 = L4 := by decide +kernel
theorem ok4 : okP 4 21 A4 T4 Pt4 L4 = true := by kernel_rfl
def Pt5 : List P3 := [⟨0, 0, 1⟩, ⟨0, 1, 0⟩, ⟨0, 1, 1⟩, ⟨0, 1, 2⟩, ⟨0, 1, 3⟩, ⟨0, 1, 4⟩, ⟨1, 0, 0⟩, ⟨1, 0, 1⟩, ⟨1, 0, 2⟩, ⟨1, 0, 3⟩, ⟨1, 0, 4⟩, ⟨1, 1, 0⟩, ⟨1, 1, 1⟩, ⟨1, 1, 2⟩, ⟨1, 1, 3⟩, ⟨1, 1, 4⟩, ⟨1, 2, 0⟩, ⟨1, 2, 1⟩, ⟨1, 2, 2⟩, ⟨1, 2, 3⟩, ⟨1, 2, 4⟩, ⟨1, 3, 0⟩, ⟨1, 3, 1⟩, ⟨1, 3, 2⟩, ⟨1, 3, 3⟩, ⟨1, 3, 4⟩, ⟨1, 4, 0⟩, ⟨1, 4, 1⟩, ⟨1, 4, 2⟩, ⟨1, 4, 3⟩, ⟨1, 4, 4⟩]
def L5 : List (List Int) := [[1, 6, 11, 16, 21, 26], [0, 6, 7, 8, 9, 10], [5, 6, 15, 19, 23, 27], [3, 6, 13, 20, 22, 29], [4, 6, 14, 17, 25, 28], [2, 6, 12, 18, 24, 30], [0, 1, 2, 3, 4, 5], [1, 10, 15, 20, 25, 30], [1, 8, 13, 18, 23, 28], [1, 9, 14, 19, 24, 29], [1, 7, 12, 17, 22, 27], [0, 26, 27, 28, 29, 30], [5, 10, 14, 18, 22, 26], [3, 8, 15, 17, 24, 26], [4, 9, 12, 20, 23, 26], [2, 7, 13, 19, 25, 26], [0, 16, 17, 18, 19, 20], [4, 10, 13, 16, 24, 27], [5, 8, 12, 16, 25, 29], [2, 9, 15, 16, 22, 28], [3, 7, 14, 16, 23, 30], [0, 21, 22, 23, 24, 25], [3, 10, 12, 19, 21, 28], [2, 8, 14, 20, 21, 27], [5, 9, 13, 17, 21, 30], [4, 7, 15, 18, 21, 29], [0, 11, 12, 13, 14, 15], [2, 10, 11, 17, 23, 29], [4, 8, 11, 19, 22, 30], [3, 9, 11, 18, 25, 27], [5, 7, 11, 20, 24, 28]]
theorem pts5 : ptsR 5 T5 = Pt5 := by decide +kernel
theorem proj5 : projR A5 T5 Pt5 = L5 := by decide +kernel
theorem ok5 : okP 5 31 A5 T5 Pt5 L5 = true := by kernel_rfl
def Pt7 : List P3 := [⟨0, 0, 1⟩, ⟨0, 1, 0⟩, ⟨0, 1, 1⟩, ⟨0, 1, 2⟩, ⟨0, 1, 3⟩, ⟨0, 1, 4⟩, ⟨0, 1, 5⟩, ⟨0, 1, 6⟩, ⟨1, 0, 0⟩, ⟨1, 0, 1⟩, ⟨1, 0, 2⟩, ⟨1, 0, 3⟩, ⟨1, 0, 4⟩, ⟨1, 0, 5⟩, ⟨1, 0, 6⟩, ⟨1, 1, 0⟩, ⟨1, 1, 1⟩, ⟨1, 1, 2⟩, ⟨1, 1, 3⟩, ⟨1, 1, 4⟩, ⟨1, 1, 5⟩, ⟨1, 1, 6⟩, ⟨1, 2, 0⟩, ⟨1, 2, 1⟩, ⟨1, 2, 2⟩, ⟨1, 2, 3⟩, ⟨1, 2, 4⟩, ⟨1, 2, 5⟩, ⟨1, 2, 6⟩, ⟨1, 3, 0⟩, ⟨1, 3, 1⟩, ⟨1, 3, 2⟩, ⟨1, 3, 3⟩, ⟨1, 3, 4⟩, ⟨1, 3, 5⟩, ⟨1, 3, 6⟩, ⟨1, 4, 0⟩, ⟨1, 4, 1⟩, ⟨1, 4, 2⟩, ⟨1, 4, 3⟩, ⟨1, 4, 4⟩, ⟨1, 4, 5⟩, ⟨1, 4, 6⟩, ⟨1, 5, 0⟩, ⟨1, 5, 1⟩, ⟨1, 5, 2⟩, ⟨1, 5, 3⟩, ⟨1, 5, 4⟩, ⟨1, 5, 5⟩, ⟨1, 5, 6⟩, ⟨1, 6, 0⟩, ⟨1, 6, 1⟩, ⟨1, 6, 2⟩, ⟨1, 6, 3⟩, ⟨1, 6, 4⟩, ⟨1, 6, 5⟩, ⟨1, 6, 6⟩]
def L7 : List (List Int) := [[1, 8, 15, 22, 29, 36, 43, 50], [0, 8, 9, 10, 11, 12, 13, 14], [7, 8, 21, 27, 33, 39, 45, 51], [4, 8, 18, 28, 31, 41, 44, 54], [3, 8, 17, 26, 35, 37, 46, 55], [6, 8, 20, 25, 30, 42, 47, 52], [5, 8, 19, 23, 34, 38, 49, 53], [2, 8, 16, 24, 32, 40, 48, 56], [0, 1, 2, 3, 4, 5, 6, 7], [1, 14, 21, 28, 35, 42, 49, 56], [1, 11, 18, 25, 32, 39, 46, 53], [1, 10, 17, 24, 31, 38, 45, 52], [1, 13, 20, 27, 34, 41, 48, 55], [1, 12, 19, 26, 33, 40, 47, 54], [1, 9, 16, 23, 30, 37, 44, 51], [0, 50, 51, 52, 53, 54, 55, 56], [7, 14, 20, 26, 32, 38, 44, 50], [4, 11, 21, 24, 34, 37, 47, 50], [3, 10, 19, 28, 30, 39, 48, 50], [6, 13, 18, 23, 35, 40, 45, 50], [5, 12, 16, 27, 31, 42, 46, 50], [2, 9, 17, 25, 33, 41, 49, 50], [0, 29, 30, 31, 32, 33, 34, 35], [6, 14, 19, 24, 29, 41, 46, 51], [7, 11, 17, 23, 29, 42, 48, 54], [5, 10, 21, 25, 29, 40, 44, 55], [4, 13, 16, 26, 29, 39, 49, 52], [2, 12, 20, 28, 29, 37, 45, 53], [3, 9, 18, 27, 29, 38, 47, 56], [0, 22, 23, 24, 25, 26, 27, 28], [5, 14, 18, 22, 33, 37, 48, 52], [3, 11, 20, 22, 31, 40, 49, 51], [7, 10, 16, 22, 35, 41, 47, 53], [2, 13, 21, 22, 30, 38, 46, 54], [6, 12, 17, 22, 34, 39, 44, 56], [4, 9, 19, 22, 32, 42, 45, 55], [0, 43, 44, 45, 46, 47, 48, 49], [4, 14, 17, 27, 30, 40, 43, 53], [6, 11, 16, 28, 33, 38, 43, 55], [2, 10, 18, 26, 34, 42, 43, 51], [7, 13, 19, 25, 31, 37, 43, 56], [3, 12, 21, 23, 32, 41, 43, 52], [5, 9, 20, 24, 35, 39, 43, 54], [0, 36, 37, 38, 39, 40, 41, 42], [3, 14, 16, 25, 34, 36, 45, 54], [2, 11, 19, 27, 35, 36, 44, 52], [4, 10, 20, 23, 33, 36, 46, 56], [5, 13, 17, 28, 32, 36, 47, 51], [7, 12, 18, 24, 30, 36, 49, 55], [6, 9, 21, 26, 31, 36, 48, 53], [0, 15, 16, 17, 18, 19, 20, 21], [2, 14, 15, 23, 31, 39, 47, 55], [5, 11, 15, 26, 30, 41, 45, 56], [6, 10, 15, 27, 32, 37, 49, 54], [3, 13, 15, 24, 33, 42, 44, 53], [4, 12, 15, 25, 35, 38, 48, 51], [7, 9, 15, 28, 34, 40, 46, 52]]
theorem pts7 : ptsR 7 T7 = Pt7 := by decide +kernel
theorem proj7 : projR A7 T7 Pt7 = L7 := by decide +kernel
theorem ok7 : okP 7 57 A7 T7 Pt7 L7 = true := by kernel_rfl
end Go.Am.C06
namespace Go.Am.C06
open Go Go.Am
variable {E : Nat → Option AFn} {Y : Nat → List Value → FM → Nat → OR FM}
structure Pl (q N : Nat) (A M : Tab) (L : List (List Int)) : Prop where
  sm : Sm q A M
  n : N = q * q + q + 1
  ln : (ptsR q M).length = N
  lN : L.length = N
  pr : projR A M (ptsR q M) = L
  row : ∀ a, a < N → ∃ r, L[a]? = some r ∧ r.length = q + 1 ∧ ∀ x ∈ r, 0 ≤ x ∧ x < (N : Int)
  sym : ∀ a b, a < N → b < N → (((b : Nat) : Int) ∈ L.getD a [] ↔ ((a : Nat) : Int) ∈ L.getD b [])
  meet : ∀ a b, a < N → b < N → a ≠ b → comR (L.getD a []) (L.getD b []) = [(comE A M (ptsR q M) (a : Int) (b : Int)).1]
theorem Pl.small {q N : Nat} {A M : Tab} {L : List (List Int)} (h : Pl q N A M L) : N ≤ 57 ∧ 0 < N := by
  have h1 : q * q ≤ 7 * 7 := Nat.mul_le_mul h.sm.le h.sm.le
  have := h.n; have := h.sm.le
  omega
theorem rt_imp {x : OR FM} {R R' : Value → FM → Nat → Nat → Prop} (h : Rt x fun v m n w => R v m n w) (hi : ∀ v m n w, R v m n w → R' v m n w) : Rt x fun v m n w => R' v m n w := by
  cases x with
  | no => exact h
  | ok v m n r w => exact hi v m n w h
theorem Pl.proj {q N : Nat} {A M : Tab} {L : List (List Int)} (h : Pl q N A M L) (T : En E Y) (m : FM) (n : Nat) :
    Rt (callW PG E Y 12 [.int .i64 (q : Int)] m n) (Kpt m n fun v M' N' => ∃ rv, v = .tuple #[.agg #[.int .i64 (N : Int), rv], .int .i64 0] ∧ RowsZ M' n N' rv L) := by
  have h1 := proj_good T h.sm m n
  rw [h.pr, h.ln] at h1
  refine rt_imp h1 fun v m' n' w ⟨a1, a2, a3, dv, e1, rv, e2, hr⟩ => ⟨a1, a2, a3, rv, ?_, hr⟩
  rw [e1, e2]
end Go.Am.C06
namespace Go.Am.C06
open Go Go.Am
set_option maxRecDepth 1000000
theorem pl_of {q N : Nat} {A M : Tab} {ps : List P3} {L : List (List Int)} (sm : Sm q A M) (hn : N = q * q + q + 1) (h1 : ptsR q M = ps) (h2 : projR A M ps = L) (hl : ps.length = N) (h : okP q N A M ps L = true) : Pl q N A M L := by
  have hL : L.length = N := by rw [← h2, ← hl]; exact List.length_map _
  unfold okP at h
  simp only [List.all_eq_true, List.mem_range, Bool.and_eq_true, Bool.or_eq_true, decide_eq_true_eq, beq_iff_eq] at h
  refine ⟨sm, hn, by rw [h1, hl], hL, by rw [h1, h2], fun a ha => ?_, fun a b ha hb => ?_, fun a b ha hb hab => ?_⟩
  · have hg : L[a]? = some (L.getD a []) := by rw [List.getD_eq_getElem?_getD, List.getElem?_eq_getElem (by omega)]; rfl
    exact ⟨_, hg, (h a ha).1.1, (h a ha).1.2⟩
  · have h3 := ((h a ha).2 b hb).1
    exact decide_eq_decide.1 h3
  · rcases ((h a ha).2 b hb).2 with h3 | h3
    · exact absurd (Nat.eq_of_beq_eq_true h3) hab
    · rw [h1]; exact h3
theorem pl2 : Pl 2 7 A2 T2 L2 := pl_of ⟨.s2, by omega, by omega⟩ rfl pts2 proj2 rfl ok2
theorem pl3 : Pl 3 13 A3 T3 L3 := pl_of ⟨.s3, by omega, by omega⟩ rfl pts3 proj3 rfl ok3
theorem pl4 : Pl 4 21 A4 T4 L4 := pl_of ⟨.s4, by omega, by omega⟩ rfl pts4 proj4 rfl ok4
theorem pl5 : Pl 5 31 A5 T5 L5 := pl_of ⟨.s5, by omega, by omega⟩ rfl pts5 proj5 rfl ok5
theorem pl7 : Pl 7 57 A7 T7 L7 := pl_of ⟨.s7, by omega, by omega⟩ rfl pts7 proj7 rfl ok7
end Go.Am.C06
namespace Go.Am.C06
open Go Go.Am
variable {E : Nat → Option AFn} {Y : Nat → List Value → FM → Nat → OR FM}
end Go.Am.C06
namespace Go.Am.C06
open Go Go.Am
variable {E : Nat → Option AFn} {Y : Nat → List Value → FM → Nat → OR FM}
theorem sm_pl {q : Nat} {A M : Tab} (h : Sm q A M) : ∃ N L, Pl q N A M L := by
  obtain ⟨hs, h7, h2⟩ := h
  cases hs
  · exact ⟨_, _, pl2⟩
  · exact ⟨_, _, pl3⟩
  · exact ⟨_, _, pl4⟩
  · exact ⟨_, _, pl5⟩
  · exact ⟨_, _, pl7⟩
  · omega
  · omega
theorem plane_q (q : Int) : (∃ z N A M L, q = ((z : Nat) : Int) ∧ Pl z N A M L ∧ wrongR q = 0) ∨ wrongR q ≠ 0 := by
  rcases cases_q q with ⟨z, A, M, h, hs, h0⟩ | ⟨z, A, M, rfl, hs, h8, h9, hw⟩ | ⟨hn, hw⟩
  · obtain ⟨N, L, hP⟩ := sm_pl hs
    exact .inl ⟨z, N, A, M, L, h, hP, h0⟩
  · exact .inr (by rw [hw]; omega)
  · exact .inr (by rw [hw]; omega)
end Go.Am.C06
namespace Go.Am.C06
open Go Go.Am
variable {E : Nat → Option AFn} {Y : Nat → List Value → FM → Nat → OR FM}
def jnL (L : List (List Int)) (a b : Int) (j : Nat) : List Int := ((List.range j).filter fun g => decide (a ∈ L.getD g []) && decide (b ∈ L.getD g [])).map fun g => ((g : Nat) : Int)
end Go.Am.C06
namespace Go.Am.C06
open Go Go.Am
variable {E : Nat → Option AFn} {Y : Nat → List Value → FM → Nat → OR FM}
def cellsC (f : Nat → Nat) (N : Nat) : List Value := (List.range N).map fun p => Value.int .i64 ((f p : Nat) : Int)
def leftC (lg r : List Int) : Nat := (r.filter fun x => !decide (x ∈ lg)).length
def rowC (lg r : List Int) (p : Nat) : Nat := (r.filter fun x => decide (x = (p : Int)) && !decide (x ∈ lg)).length
def totC (L : List (List Int)) (lg : List Int) (g : Nat) : Nat → Nat → Nat
  | 0, _ => 0
  | j + 1, p => totC L lg g j p + cond (Nat.beq j g) 0 (rowC lg (L.getD j []) p)
end Go.Am.C06
namespace Go.Am.C06
open Go Go.Am
set_option maxRecDepth 1000000
noncomputable def okA1 (q D N : Nat) (G : List (List Int)) (Th : List (List Nat)) : Bool :=
  ((List.range N).all fun h => decide ((G.getD h []).length = q)) && (List.range D).all fun a => decide ((List.range N).filter (fun h => decide (((a : Nat) : Int) ∈ G.getD h [])) = Th.getD a [])
noncomputable def okA2 (N : Nat) (G : List (List Int)) (Pa : List (List Nat)) : Bool :=
  (List.range N).all fun g => (List.range N).all fun h => decide (comR (G.getD h []) (G.getD g []) = []) == (Pa.getD g []).elem h
noncomputable def parN (Th Pa : List (List Nat)) (a g : Nat) : Nat := ((Th.getD a []).filter fun h => (Pa.getD g []).elem h).length
noncomputable def joinN (G : List (List Int)) (Th : List (List Nat)) (a b : Nat) : Nat := ((Th.getD a []).filter fun h => decide (((b : Nat) : Int) ∈ G.getD h [])).length
noncomputable def okA3 (q D N : Nat) (G : List (List Int)) (Th Pa : List (List Nat)) : Bool :=
  (List.range D).all fun a => ((List.range N).all fun g => (decide (((a : Nat) : Int) ∈ G.getD g []) == Nat.beq (parN Th Pa a g) 0) && Nat.ble (parN Th Pa a g) 1) && (List.range D).all fun b => Nat.beq (joinN G Th a b) (cond (Nat.beq a b) (q + 1) 1)
def G2 : List (List Int) := [[0, 2], [1, 3], [0, 3], [1, 2], [0, 1], [2, 3]]
def Th2 : List (List Nat) := [[0, 2, 4], [1, 3, 4], [0, 3, 5], [1, 2, 5]]
def Pa2 : List (List Nat) := [[1], [0], [3], [2], [5], [4]]
theorem aff2 : affR A2 T2 2 = G2 := by decide +kernel
theorem oka2 : okA1 2 4 6 G2 Th2 = true := by kernel_rfl
theorem okb2 : okA2 6 G2 Pa2 = true := by kernel_rfl
theorem okc2 : okA3 2 4 6 G2 Th2 Pa2 = true := by kernel_rfl
def G3 : List (List Int) := [[0, 3, 6], [1, 4, 7], [2, 5, 8], [0, 4, 8], [1, 5, 6], [2, 3, 7], [0, 5, 7], [1, 3, 8], [2, 4, 6], [0, 1, 2], [3, 4, 5], [6, 7, 8]]
def Th3 : List (List Nat) := [[0, 3, 6, 9], [1, 4, 7, 9], [2, 5, 8, 9], [0, 5, 7, 10], [1, 3, 8, 10], [2, 4, 6, 10], [0, 4, 8, 11], [1, 5, 6, 11], [2, 3, 7, 11]]
def Pa3 : List (List Nat) := [[1, 2], [0, 2], [0, 1], [4, 5], [3, 5], [3, 4], [7, 8], [6, 8], [6, 7], [10, 11], [9, 11], [9, 10]]
theorem aff3 : affR A3 T3 3 = G3 := by decide +kernel
theorem oka3 : okA1 3 9 12 G3 Th3 = true := by kernel_rfl
theorem okb3 : okA2 12 G3 Pa3 = true := by kernel_rfl
theorem okc3 : okA3 3 9 12 G3 Th3 Pa3 = true := by kernel_rfl
def G4 : List (List Int) := [[0, 4, 8, 12], [1, 5, 9, 13], [2, 6, 10, 14], [3, 7, 11, 15], [0, 5, 10, 15], [1, 4, 11, 14], [2, 7, 8, 13], [3, 6, 9, 12], [0, 6, 11, 13], [1, 7, 10, 12], [2, 4, 9, 15], [3, 5, 8, 14], [0, 7, 9, 14], [1, 6, 8, 15], [2, 5, 11, 12], [3, 4, 10, 13], [0, 1, 2, 3], [4, 5, 6, 7], [8, 9, 10, 11], [12, 13, 14, 15]]
def Th4 : List (List Nat) := [[0, 4, 8, 12, 16], [1, 5, 9, 13, 16], [2, 6, 10, 14, 16], [3, 7, 11, 15, 16], [0, 5, 10, 15, 17], [1, 4, 11, 14, 17], [2, 7, 8, 13, 17], [3, 6, 9, 12, 17], [0, 6, 11, 13, 18], [1, 7, 10, 12, 18], [2, 4, 9, 15, 18], [3, 5, 8, 14, 18], [0, 7, 9, 14, 19], [1, 6, 8, 15, 19], [2, 5, 11, 12, 19], [3, 4, 10, 13, 19]]
def Pa4 : List (List Nat) := [[1, 2, 3], [0, 2, 3], [0, 1, 3], [0, 1, 2], [5, 6, 7], [4, 6, 7], [4, 5, 7], [4, 5, 6], [9, 10, 11], [8, 10, 11], [8, 9, 11], [8, 9, 10], [13, 14, 15], [12, 14, 15], [12, 13, 15], [12, 13, 14], [17, 18, 19], [16, 18, 19], [16, 17, 19], [16, 17, 18]]
theorem aff4 : affR A4 T4 4 = G4 := by decide +kernel
theorem oka4 : okA1 4 16 20 G4 Th4 = true := by kernel_rfl
theorem okb4 : okA2 20 G4 Pa4 = true := by kernel_rfl
theorem okc4 : okA3 4 16 20 G4 Th4 Pa4 = true := by kernel_rfl
def G5 : List (List Int) := [[0, 5, 10, 15, 20], [1, 6, 11, 16, 21], [2, 7, 12, 17, 22], [3, 8, 13, 18, 23], [4, 9, 14, 19, 24], [0, 6, 12, 18, 24], [1, 7, 13, 19, 20], [2, 8, 14, 15, 21], [3, 9, 10, 16, 22], [4, 5, 11, 17, 23], [0, 7, 14, 16, 23], [1, 8, 10, 17, 24], [2, 9, 11, 18, 20], [3, 5, 12, 19, 21], [4, 6, 13, 15, 22], [0, 8, 11, 19, 22], [1, 9, 12, 15, 23], [2, 5, 13, 16, 24], [3, 6, 14, 17, 20], [4, 7, 10, 18, 21], [0, 9, 13, 17, 21], [1, 5, 14, 18, 22], [2, 6, 10, 19, 23], [3, 7, 11, 15, 24], [4, 8, 12, 16, 20], [0, 1, 2, 3, 4], [5, 6, 7, 8, 9], [10, 11, 12, 13, 14], [15, 16, 17, 18, 19], [20, 21, 22, 23, 24]]
def Th5 : List (List Nat) := [[0, 5, 10, 15, 20, 25], [1, 6, 11, 16, 21, 25], [2, 7, 12, 17, 22, 25], [3, 8, 13, 18, 23, 25], [4, 9, 14, 19, 24, 25], [0, 9, 13, 17, 21, 26], [1, 5, 14, 18, 22, 26], [2, 6, 10, 19, 23, 26], [3, 7, 11, 15, 24, 26], [4, 8, 12, 16, 20, 26], [0, 8, 11, 19, 22, 27], [1, 9, 12, 15, 23, 27], [2, 5, 13, 16, 24, 27], [3, 6, 14, 17, 20, 27], [4, 7, 10, 18, 21, 27], [0, 7, 14, 16, 23, 28], [1, 8, 10, 17, 24, 28], [2, 9, 11, 18, 20, 28], [3, 5, 12, 19, 21, 28], [4, 6, 13, 15, 22, 28], [0, 6, 12, 18, 24, 29], [1, 7, 13, 19, 20, 29], [2, 8, 14, 15, 21, 29], [3, 9, 10, 16, 22, 29], [4, 5, 11, 17, 23, 29]]
def Pa5 : List (List Nat) := [[1, 2, 3, 4], [0, 2, 3, 4], [0, 1, 3, 4], [0, 1, 2, 4], [0, 1, 2, 3], [6, 7, 8, 9], [5, 7, 8, 9], [5, 6, 8, 9], [5, 6, 7, 9], [5, 6, 7, 8], [11, 12, 13, 14], [10, 12, 13, 14], [10, 11, 13, 14], [10, 11, 12, 14], [10, 11, 12, 13], [16, 17, 18, 19], [15, 17, 18, 19], [15, 16, 18, 19], [15, 16, 17, 19], [15, 16, 17, 18], [21, 22, 23, 24], [20, 22, 23, 24], [20, 21, 23, 24], [20, 21, 22, 24], [20, 21, 22, 23], [26, 27, 28, 29], [25, 27, 28, 29], [25, 26, 28, 29], [25, 26, 27, 29], [25, 26, 27, 28]]
theorem aff5 : affR A5 T5 5 = G5 := by decide +kernel
theorem oka5 : okA1 5 25 30 G5 Th5 = true := by kernel_rfl
theorem okb5 : okA2 30 G5 Pa5 = true := by kernel_rfl
theorem okc5 : okA3 5 25 30 G5 Th5 Pa5 = true := by kernel_rfl
def G7 : List (List Int) := [[0, 7, 14, 21, 28, 35, 42], [1, 8, 15, 22, 29, 36, 43], [2, 9, 16, 23, 30, 37, 44], [3, 10, 17, 24, 31, 38, 45], [4, 11, 18, 25, 32, 39, 46], [5, 12, 19, 26, 33, 40, 47], [6, 13, 20, 27, 34, 41, 48], [0, 8, 16, 24, 32, 40, 48], [1, 9, 17, 25, 33, 41, 42], [2, 10, 18, 26, 34, 35, 43], [3, 11, 19, 27, 28, 36, 44], [4, 12, 20, 21, 29, 37, 45], [5, 13, 14, 22, 30, 38, 46], [6, 7, 15, 23, 31, 39, 47], [0, 9, 18, 27, 29, 38, 47], [1, 10, 19, 21, 30, 39, 48], [2, 11, 20, 22, 31, 40, 42], [3, 12, 14, 23, 32, 41, 43], [4, 13, 15, 24, 33, 35, 44], [5, 7, 16, 25, 34, 36, 45], [6, 8, 17, 26, 28, 37, 46], [0, 10, 20, 23, 33, 36, 46], [1, 11, 14, 24, 34, 37, 47], [2, 12, 15, 25, 28, 38, 48], [3, 13, 16, 26, 29, 39, 42], [4, 7, 17, 27, 30, 40, 43], [5, 8, 18, 21, 31, 41, 44], [6, 9, 19, 22, 32, 35, 45], [0, 11, 15, 26, 30, 41, 45], [1, 12, 16, 27, 31, 35, 46], [2, 13, 17, 21, 32, 36, 47], [3, 7, 18, 22, 33, 37, 48], [4, 8, 19, 23, 34, 38, 42], [5, 9, 20, 24, 28, 39, 43], [6, 10, 14, 25, 29, 40, 44], [0, 12, 17, 22, 34, 39, 44], [1, 13, 18, 23, 28, 40, 45], [2, 7, 19, 24, 29, 41, 46], [3, 8, 20, 25, 30, 35, 47], [4, 9, 14, 26, 31, 36, 48], [5, 10, 15, 27, 32, 37, 42], [6, 11, 16, 21, 33, 38, 43], [0, 13, 19, 25, 31, 37, 43], [1, 7, 20, 26, 32, 38, 44], [2, 8, 14, 27, 33, 39, 45], [3, 9, 15, 21, 34, 40, 46], [4, 10, 16, 22, 28, 41, 47], [5, 11, 17, 23, 29, 35, 48], [6, 12, 18, 24, 30, 36, 42], [0, 1, 2, 3, 4, 5, 6], [7, 8, 9, 10, 11, 12, 13], [14, 15, 16, 17, 18, 19, 20], [21, 22, 23, 24, 25, 26, 27], [28, 29, 30, 31, 32, 33, 34], [35, 36, 37, 38, 39, 40, 41], [42, 43, 44, 45, 46, 47, 48]]
def Th7 : List (List Nat) := [[0, 7, 14, 21, 28, 35, 42, 49], [1, 8, 15, 22, 29, 36, 43, 49], [2, 9, 16, 23, 30, 37, 44, 49], [3, 10, 17, 24, 31, 38, 45, 49], [4, 11, 18, 25, 32, 39, 46, 49], [5, 12, 19, 26, 33, 40, 47, 49], [6, 13, 20, 27, 34, 41, 48, 49], [0, 13, 19, 25, 31, 37, 43, 50], [1, 7, 20, 26, 32, 38, 44, 50], [2, 8, 14, 27, 33, 39, 45, 50], [3, 9, 15, 21, 34, 40, 46, 50], [4, 10, 16, 22, 28, 41, 47, 50], [5, 11, 17, 23, 29, 35, 48, 50], [6, 12, 18, 24, 30, 36, 42, 50], [0, 12, 17, 22, 34, 39, 44, 51], [1, 13, 18, 23, 28, 40, 45, 51], [2, 7, 19, 24, 29, 41, 46, 51], [3, 8, 20, 25, 30, 35, 47, 51], [4, 9, 14, 26, 31, 36, 48, 51], [5, 10, 15, 27, 32, 37, 42, 51], [6, 11, 16, 21, 33, 38, 43, 51], [0, 11, 15, 26, 30, 41, 45, 52], [1, 12, 16, 27, 31, 35, 46, 52], [2, 13, 17, 21, 32, 36, 47, 52], [3, 7, 18, 22, 33, 37, 48, 52], [4, 8, 19, 23, 34, 38, 42, 52], [5, 9, 20, 24, 28, 39, 43, 52], [6, 10, 14, 25, 29, 40, 44, 52], [0, 10, 20, 23, 33, 36, 46, 53], [1, 11, 14, 24, 34, 37, 47, 53], [2, 12, 15, 25, 28, 38, 48, 53], [3, 13, 16, 26, 29, 39, 42, 53], [4, 7, 17, 27, 30, 40, 43, 53], [5, 8, 18, 21, 31, 41, 44, 53], [6, 9, 19, 22, 32, 35, 45, 53], [0, 9, 18, 27, 29, 38, 47, 54], [1, 10, 19, 21, 30, 39, 48, 54], [2, 11, 20, 22, 31, 40, 42, 54], [3, 12, 14, 23, 32, 41, 43, 54], [4, 13, 15, 24, 33, 35, 44, 54], [5, 7, 16, 25, 34, 36, 45, 54], [6, 8, 17, 26, 28, 37, 46, 54], [0, 8, 16, 24, 32, 40, 48, 55], [1, 9, 17, 25, 33, 41, 42, 55], [2, 10, 18, 26, 34, 35, 43, 55], [3, 11, 19, 27, 28, 36, 44, 55], [4, 12, 20, 21, 29, 37, 45, 55], [5, 13, 14, 22, 30, 38, 46, 55], [6, 7, 15, 23, 31, 39, 47, 55]]
def Pa7 : List (List Nat) := [[1, 2, 3, 4, 5, 6], [0, 2, 3, 4, 5, 6], [0, 1, 3, 4, 5, 6], [0, 1, 2, 4, 5, 6], [0, 1, 2, 3, 5, 6], [0, 1, 2, 3, 4, 6], [0, 1, 2, 3, 4, 5], [8, 9, 10, 11, 12, 13], [7, 9, 10, 11, 12, 13], [7, 8, 10, 11, 12, 13], [7, 8, 9, 11, 12, 13], [7, 8, 9, 10, 12, 13], [7, 8, 9, 10, 11, 13], [7, 8, 9, 10, 11, 12], [15, 16, 17, 18, 19, 20], [14, 16, 17, 18, 19, 20], [14, 15, 17, 18, 19, 20], [14, 15, 16, 18, 19, 20], [14, 15, 16, 17, 19, 20], [14, 15, 16, 17, 18, 20], [14, 15, 16, 17, 18, 19], [22, 23, 24, 25, 26, 27], [21, 23, 24, 25, 26, 27], [21, 22, 24, 25, 26, 27], [21, 22, 23, 25, 26, 27], [21, 22, 23, 24, 26, 27], [21, 22, 23, 24, 25, 27], [21, 22, 23, 24, 25, 26], [29, 30, 31, 32, 33, 34], [28, 30, 31, 32, 33, 34], [28, 29, 31, 32, 33, 34], [28, 29, 30, 32, 33, 34], [28, 29, 30, 31, 33, 34], [28, 29, 30, 31, 32, 34], [28, 29, 30, 31, 32, 33], [36, 37, 38, 39, 40, 41], [35, 37, 38, 39, 40, 41], [35, 36, 38, 39, 40, 41], [35, 36, 37, 39, 40, 41], [35, 36, 37, 38, 40, 41], [35, 36, 37, 38, 39, 41], [35, 36, 37, 38, 39, 40], [43, 44, 45, 46, 47, 48], [42, 44, 45, 46, 47, 48], [42, 43, 45, 46, 47, 48], [42, 43, 44, 46, 47, 48], [42, 43, 44, 45, 47, 48], [42, 43, 44, 45, 46, 48], [42, 43, 44, 45, 46, 47], [50, 51, 52, 53, 54, 55], [49, 51, 52, 53, 54, 55], [49, 50, 52, 53, 54, 55], [49, 50, 51, 53, 54, 55], [49, 50, 51, 52, 54, 55], [49, 50, 51, 52, 53, 55], [49, 50, 51, 52, 53, 54]]
theorem aff7 : affR A7 T7 7 = G7 := by decide +kernel
theorem oka7 : okA1 7 49 56 G7 Th7 = true := by kernel_rfl
theorem okb7 : okA2 56 G7 Pa7 = true := by kernel_rfl
theorem okc7 : okA3 7 49 56 G7 Th7 Pa7 = true := by kernel_rfl
end Go.Am.C06
namespace Go.Am.C06
open Go Go.Am
variable {E : Nat → Option AFn} {Y : Nat → List Value → FM → Nat → OR FM}
def parQ (L : List (List Int)) (a : Int) (g h : Nat) : Bool := decide (a ∈ L.getD h []) && decide (comR (L.getD h []) (L.getD g []) = [])
def joQ (L : List (List Int)) (a b : Int) (h : Nat) : Bool := decide (a ∈ L.getD h []) && decide (b ∈ L.getD h [])
def cntN (p : Nat → Bool) (j : Nat) : Nat := ((List.range j).filter p).length
end Go.Am.C06
namespace Go.Am.C06
open Go Go.Am
set_option maxRecDepth 1000000
variable {E : Nat → Option AFn} {Y : Nat → List Value → FM → Nat → OR FM}
structure Af (q N : Nat) (A M : Tab) (G : List (List Int)) : Prop where
  sm : Sm q A M
  n : N = q * q + q
  lN : G.length = N
  pr : affR A M q = G
  row : ∀ g, g < N → (G.getD g []).length = q
  par : ∀ a g, a < q * q → g < N → decide ((a : Int) ∈ G.getD g []) = Nat.beq (cntN (parQ G (a : Int) g) N) 0 ∧ cntN (parQ G (a : Int) g) N ≤ 1
  jo : ∀ a b, a < q * q → b < q * q → cntN (joQ G (a : Int) (b : Int)) N = cond (Nat.beq a b) (q + 1) 1
theorem af_of {q D N : Nat} {A M : Tab} {G : List (List Int)} {Th Pa : List (List Nat)} (sm : Sm q A M) (hD : D = q * q) (hn : N = q * q + q) (h1 : affR A M q = G) (hl : G.length = N) (ha : okA1 q D N G Th = true) (hb : okA2 N G Pa = true) (hc : okA3 q D N G Th Pa = true) : Af q N A M G := by
  subst hD
  unfold okA1 at ha
  unfold okA2 at hb
  unfold okA3 at hc
  simp only [List.all_eq_true, List.mem_range, Bool.and_eq_true, decide_eq_true_eq, beq_iff_eq] at ha hb hc
  have th : ∀ a, a < q * q → (List.range N).filter (fun h => decide (((a : Nat) : Int) ∈ G.getD h [])) = Th.getD a [] := fun a h => ha.2 a h
  have inN : ∀ a, a < q * q → ∀ h ∈ Th.getD a [], h < N := fun a h1 h h2 => by
    rw [← th a h1] at h2
    exact List.mem_range.1 (List.mem_filter.1 h2).1
  have ep : ∀ a g, a < q * q → g < N → cntN (parQ G (a : Int) g) N = parN Th Pa a g := fun a g h1 h2 => by
    unfold cntN parN
    rw [show parQ G (a : Int) g = (fun h => decide (comR (G.getD h []) (G.getD g []) = []) && decide (((a : Nat) : Int) ∈ G.getD h [])) from funext fun h => Bool.and_comm _ _, ← List.filter_filter, th a h1]
    congr 1
    exact List.filter_congr fun h hh => hb g h2 h (inN a h1 h hh)
  have ej : ∀ a b, a < q * q → b < q * q → cntN (joQ G (a : Int) (b : Int)) N = joinN G Th a b := fun a b h1 h2 => by
    unfold cntN joinN
    rw [show joQ G (a : Int) (b : Int) = (fun h => decide (((b : Nat) : Int) ∈ G.getD h []) && decide (((a : Nat) : Int) ∈ G.getD h [])) from funext fun h => Bool.and_comm _ _, ← List.filter_filter, th a h1]
  refine ⟨sm, hn, hl, h1, fun g hg => ha.1 g hg, fun a g h1 h2 => ?_, fun a b h1 h2 => ?_⟩
  · rw [ep a g h1 h2]
    exact ⟨((hc a h1).1 g h2).1, Nat.le_of_ble_eq_true ((hc a h1).1 g h2).2⟩
  · rw [ej a b h1 h2]
    exact Nat.eq_of_beq_eq_true ((hc a h1).2 b h2)
theorem af2 : Af 2 6 A2 T2 G2 := af_of (D := 4) ⟨.s2, by omega, by omega⟩ rfl rfl aff2 rfl oka2 okb2 okc2
theorem af3 : Af 3 12 A3 T3 G3 := af_of (D := 9) ⟨.s3, by omega, by omega⟩ rfl rfl aff3 rfl oka3 okb3 okc3
theorem af4 : Af 4 20 A4 T4 G4 := af_of (D := 16) ⟨.s4, by omega, by omega⟩ rfl rfl aff4 rfl oka4 okb4 okc4
theorem af5 : Af 5 30 A5 T5 G5 := af_of (D := 25) ⟨.s5, by omega, by omega⟩ rfl rfl aff5 rfl oka5 okb5 okc5
theorem af7 : Af 7 56 A7 T7 G7 := af_of (D := 49) ⟨.s7, by omega, by omega⟩ rfl rfl aff7 rfl oka7 okb7 okc7
theorem Af.aff {q N : Nat} {A M : Tab} {G : List (List Int)} (h : Af q N A M G) (T : En E Y) (m : FM) (n : Nat) :
    Rt (callW PG E Y 16 [.int .i64 (q : Int)] m n) (Kpt m n fun v M' N' => ∃ rv, v = .tuple #[.agg #[.int .i64 ((q * q : Nat) : Int), rv], .int .i64 0] ∧ RowsZ M' n N' rv G) := by
  have h1 := aff_good T h.sm m n
  rw [h.pr] at h1
  refine rt_imp h1 fun v m' n' w ⟨a1, a2, a3, dv, e1, rv, e2, hr⟩ => ⟨a1, a2, a3, rv, ?_, hr⟩
  rw [e1, e2]
end Go.Am.C06
namespace Go.Am.C06
open Go Go.Am
variable {E : Nat → Option AFn} {Y : Nat → List Value → FM → Nat → OR FM}
theorem filt_split (p : Int → Bool) : ∀ l : List Int, l.length = (l.filter p).length + (l.filter fun x => !p x).length
  | [] => rfl
  | x :: l => by
    have := filt_split p l
    rw [List.filter_cons, List.filter_cons, List.length_cons]
    cases p x
    · show _ = (l.filter p).length + ((l.filter fun x => !p x).length + 1)
      omega
    · show _ = ((l.filter p).length + 1) + (l.filter fun x => !p x).length
      omega
noncomputable def okN (N : Nat) (L : List (List Int)) : Bool :=
  (List.range N).all fun j => (List.range N).all fun p => decide (((L.getD j []).filter fun x => decide (x = ((p : Nat) : Int))).length = cond (decide (((p : Nat) : Int) ∈ L.getD j [])) 1 0)
theorem Pl.left {q N : Nat} {A M : Tab} {L : List (List Int)} (h : Pl q N A M L) {j g : Nat} (hj : j < N) (hg : g < N) (hjg : j ≠ g) : leftC (L.getD g []) (L.getD j []) = q := by
  have h1 := h.meet j g hj hg hjg
  obtain ⟨r, r1, r2, _⟩ := h.row j hj
  have hr : L.getD j [] = r := by rw [List.getD_eq_getElem?_getD, r1]; rfl
  rw [hr] at h1 ⊢
  have h2 := filt_split (fun x => decide (x ∈ L.getD g [])) r
  have h3 : (r.filter fun x => decide (x ∈ L.getD g [])).length = 1 := by
    show (comR r (L.getD g [])).length = 1
    rw [h1]; rfl
  show (r.filter fun x => !decide (x ∈ L.getD g [])).length = q
  omega
end Go.Am.C06
namespace Go.Am.C06
open Go Go.Am Go.Am.V
set_option maxRecDepth 1000000
end Go.Am.C06
namespace Go.Am.C06
open Go Go.Am Go.Am.V
set_option maxRecDepth 1000000
end Go.Am.C06
namespace Go.Am.C06
open Go Go.Am
set_option maxRecDepth 1000000
variable {E : Nat → Option AFn} {Y : Nat → List Value → FM → Nat → OR FM}
structure En2 (E : Nat → Option AFn) (Y : Nat → List Value → FM → Nat → OR FM) : Prop where
  ar : ∀ {q A T}, Sm q A T → ArR E Y q A T
  co : ∀ {q A T}, Sm q A T → ∀ m n, Rt (callW PG E Y 26 [.int .i64 (q : Int)] m n) (Kpt m n fun v M' N' => SlZ 3 M' n N' v (ptsR q T).length (ptCells (ptsR q T)))
def allLtP (q : Nat) (ps : List P3) : Bool := ps.all fun r => decide (r.x < q) && (decide (r.y < q) && decide (r.z < q))
theorem lt_of_all {q : Nat} {ps : List P3} (h : allLtP q ps = true) : ∀ r ∈ ps, r.lt q := by
  unfold allLtP at h
  simp only [List.all_eq_true, Bool.and_eq_true, decide_eq_true_eq] at h
  exact h
theorem pts_lt {q : Nat} {A T : Tab} (h : Sm q A T) : ∀ r ∈ ptsR q T, r.lt q := by
  obtain ⟨hs, h7, h2⟩ := h
  cases hs
  · rw [pts2]; exact lt_of_all (by kernel_rfl)
  · rw [pts3]; exact lt_of_all (by kernel_rfl)
  · rw [pts4]; exact lt_of_all (by kernel_rfl)
  · rw [pts5]; exact lt_of_all (by kernel_rfl)
  · rw [pts7]; exact lt_of_all (by kernel_rfl)
  · omega
  · omega
theorem land_frz {w k b : Nat} (h : Nat.mod w (bit k) = 0) (hb : b < k) : Nat.land w (bit b) = 0 := by
  apply Nat.eq_of_testBit_eq
  intro i
  show (w &&& bit b).testBit i = _
  rw [Nat.testBit_and, bit_test, Nat.zero_testBit]
  by_cases hi : b = i
  · subst hi; rw [mod_bit h b hb]; rfl
  · simp [hi]
theorem planeProjective_exec (T : En E Y) (T2 : En2 E Y) (q : Int) (m : FM) (n : Nat) :
    Pure (callW PG E Y 3 [.int .i64 q] m n) m n (.bool true) := by
  refine pure_spec T.e3 rfl rfl ?_
  simp only [ac3]
  simp (implicitDefEqProofs := false) (disch := omega) only [WPs, opds, List.all_cons, List.all_nil, List.cons_append, List.nil_append, cond_true, cond_false, eq_self, List.map_cons, List.map_nil, Nat.reduceAdd, Nat.testBit, Nat.reduceShiftRight, Nat.reduceAnd, Nat.reduceBNe, Nat.reduceMul]
  refine use_pure (T.aw _ _) fun _ => ?_
  rcases plane_q q with ⟨z, N, A, M, L, rfl, hP, h0⟩ | hw
  · have hqq : z * z ≤ 7 * 7 := Nat.mul_le_mul hP.sm.le hP.sm.le
    have hz7 := hP.sm.le
    have hn := hP.n
    simp (implicitDefEqProofs := false) (disch := omega) only [WPs, opds, List.all_cons, List.all_nil, List.cons_append, List.nil_append, cond_true, cond_false, eq_self, List.map_cons, List.map_nil, Nat.reduceAdd, Nat.testBit, Nat.reduceShiftRight, Nat.reduceAnd, Nat.reduceBNe, Nat.reduceMul]
    refine use_rt (hP.proj T _ _) fun v M1 N1 r1 w1 ⟨n1, m1, f1, rv, hv, hR⟩ => ?_
    subst hv
    have hone := hR.one
    simp (implicitDefEqProofs := false) (disch := omega) only [WPs, opds, List.all_cons, List.all_nil, List.cons_append, List.nil_append, cond_true, cond_false, eq_self, List.map_cons, List.map_nil, Nat.reduceAdd, Nat.testBit, Nat.reduceShiftRight, Nat.reduceAnd, Nat.reduceBNe, Nat.reduceMul, hone]
    generalize hM2 : (AMem.put M1 N1 (some (.cells [.int .i64 (N : Int), rv] 0 false true)) : FM) = M2
    have d2 : M2 N1 = some (.cells [.int .i64 (N : Int), rv] 0 false true) := by rw [← hM2]; exact fput_same _ _ _
    have hR2 : Rows M2 (N1 + 1) rv L := hR.rows.frame (by omega) fun b hb => by rw [← hM2, fput_ne _ _ _ _ (by omega)]
    have hbel := hR2.bel (N1 + 1) (Nat.le_refl _)
    have fzn := f1 n (Nat.le_refl _)
    have fza : Nat.mod (bit N1) (bit n) = 0 := frz_bit (by omega)
    refine use_pure (wrong_spec T _ _ _) fun _ => ?_
    rw [h0]
    simp (implicitDefEqProofs := false) (disch := omega) only [WPs, opds, List.all_cons, List.all_nil, List.cons_append, List.nil_append, cond_true, cond_false, eq_self, List.map_cons, List.map_nil, Nat.reduceAdd, Nat.testBit, Nat.reduceShiftRight, Nat.reduceAnd, Nat.reduceBNe, Nat.reduceMul, d2, hbel]
    have h15 := refProj_spec (Y := Y) T.e15 hP.sm.size.good (T2.ar hP.sm) (ps := ptsR z M) (by have := hP.ln; omega) (by have := hP.ln; omega) (pts_lt hP.sm) M2 (N1 + 1) (T2.co hP.sm)
    rw [hP.pr, hP.ln] at h15
    refine use_rtX h15 fun v2 M3 N3 r3 w3 ⟨n3, m3, f3, rv2, hv2, hS⟩ => ?_
    have hR3 := hR2.frame n3 m3
    have hS3 := hS.rows
    have fz3 := f3 n (by omega)
    have hbel3 := hR3.bel N3 (Nat.le_refl _)
    have hbel4 := hS3.bel N3 (Nat.le_refl _)
    have hLN := hP.lN
    have hrl : ∀ r ∈ L, r.length < 1000000 := fun r hr => by
      obtain ⟨i', hi', rfl⟩ := List.getElem_of_mem hr
      obtain ⟨r', h1, h2, _⟩ := hP.row i' (by omega)
      rw [(List.getElem?_eq_some_iff.1 h1).2]; omega
    subst hv2
    have hld : (w3.land (bit N1)).beq 0 = true := by rw [land_frz (f3 (N1 + 1) (Nat.le_refl _)) (Nat.lt_succ_self _)]; rfl
    simp (implicitDefEqProofs := false) (disch := omega) only [WPs, opds, List.all_cons, List.all_nil, List.cons_append, List.nil_append, cond_true, cond_false, eq_self, List.map_cons, List.map_nil, Nat.reduceAdd, Nat.testBit, Nat.reduceShiftRight, Nat.reduceAnd, Nat.reduceBNe, Nat.reduceMul, hbel3, hbel4, hld, hR3.belF N3 (Nat.le_refl _), hS3.belF N3 (Nat.le_refl _)]
    refine use_pureX (same_spec T.e14 hR3 hS3 (by omega) (by omega) (fun r hr => hrl r hr) (fun r hr => hrl r hr)) fun _ => ?_
    simp (implicitDefEqProofs := false) (disch := omega) only [WPs, opds, List.all_cons, List.all_nil, List.cons_append, List.nil_append, cond_true, cond_false, eq_self, List.map_cons, List.map_nil, Nat.reduceAdd, Nat.testBit, Nat.reduceShiftRight, Nat.reduceAnd, Nat.reduceBNe, Nat.reduceMul, decide_eq_true]
    simp only [frz_iff, fzn, fza, fz3, and_self]
  · simp (implicitDefEqProofs := false) (disch := omega) only [WPs, opds, List.all_cons, List.all_nil, List.cons_append, List.nil_append, cond_true, cond_false, eq_self, List.map_cons, List.map_nil, Nat.reduceAdd, Nat.testBit, Nat.reduceShiftRight, Nat.reduceAnd, Nat.reduceBNe, Nat.reduceMul]
    refine use_rt (proj_wrong T hw _ _) fun v M1 N1 r1 w1 ⟨n1, m1, f1, dv, hv, rv, hd, hR⟩ => ?_
    subst hv
    subst hd
    have hone := hR.one
    have hlen := hR.len
    have fzn := f1 n (Nat.le_refl _)
    have fza : Nat.mod (bit N1) (bit n) = 0 := frz_bit (by omega)
    have hbel := hR.bel (N1 + 1) (by omega)
    have hlen' : lenV false rv = some (.int .i64 0) := hlen
    simp (implicitDefEqProofs := false) (disch := omega) only [WPs, opds, List.all_cons, List.all_nil, List.cons_append, List.nil_append, cond_true, cond_false, eq_self, List.map_cons, List.map_nil, Nat.reduceAdd, Nat.testBit, Nat.reduceShiftRight, Nat.reduceAnd, Nat.reduceBNe, Nat.reduceMul, hone]
    refine use_pure (wrong_spec T _ _ _) fun _ => ?_
    simp (implicitDefEqProofs := false) (disch := omega) only [WPs, opds, List.all_cons, List.all_nil, List.cons_append, List.nil_append, cond_true, cond_false, eq_self, List.map_cons, List.map_nil, Nat.reduceAdd, Nat.testBit, Nat.reduceShiftRight, Nat.reduceAnd, Nat.reduceBNe, Nat.reduceMul, decide_eq_false hw]
    refine use_pure (wrong_spec T _ _ _) fun _ => ?_
    generalize wrongR q = er at *
    simp (implicitDefEqProofs := false) (disch := omega) only [WPs, opds, List.all_cons, List.all_nil, List.cons_append, List.nil_append, cond_true, cond_false, eq_self, List.map_cons, List.map_nil, Nat.reduceAdd, Nat.testBit, Nat.reduceShiftRight, Nat.reduceAnd, Nat.reduceBNe, Nat.reduceMul, hlen', hbel]
    simp only [frz_iff, fzn, fza, and_self]
theorem sm_af {q : Nat} {A M : Tab} (h : Sm q A M) : ∃ N G, Af q N A M G := by
  obtain ⟨hs, h7, h2⟩ := h
  cases hs
  · exact ⟨_, _, af2⟩
  · exact ⟨_, _, af3⟩
  · exact ⟨_, _, af4⟩
  · exact ⟨_, _, af5⟩
  · exact ⟨_, _, af7⟩
  · omega
  · omega
theorem affine_q (q : Int) : (∃ z N A M L, q = ((z : Nat) : Int) ∧ Af z N A M L ∧ wrongR q = 0) ∨ wrongR q ≠ 0 := by
  rcases cases_q q with ⟨z, A, M, h, hs, h0⟩ | ⟨z, A, M, rfl, hs, h8, h9, hw⟩ | ⟨hn, hw⟩
  · obtain ⟨N, L, hP⟩ := sm_af hs
    exact .inl ⟨z, N, A, M, L, h, hP, h0⟩
  · exact .inr (by rw [hw]; omega)
  · exact .inr (by rw [hw]; omega)
theorem raf2 : refAff A2 T2 2 = G2 := by decide +kernel
theorem raf3 : refAff A3 T3 3 = G3 := by decide +kernel
theorem raf4 : refAff A4 T4 4 = G4 := by decide +kernel
theorem raf5 : refAff A5 T5 5 = G5 := by decide +kernel
theorem raf7 : refAff A7 T7 7 = G7 := by decide +kernel
theorem refAff_eq {q : Nat} {A M : Tab} (h : Sm q A M) : refAff A M q = affR A M q := by
  obtain ⟨hs, h7, h2⟩ := h
  cases hs
  · exact raf2.trans aff2.symm
  · exact raf3.trans aff3.symm
  · exact raf4.trans aff4.symm
  · exact raf5.trans aff5.symm
  · exact raf7.trans aff7.symm
  · omega
  · omega
theorem planeAffine_exec (T : En E Y) (T2 : En2 E Y) (q : Int) (m : FM) (n : Nat) :
    Pure (callW PG E Y 4 [.int .i64 q] m n) m n (.bool true) := by
  refine pure_spec T.e4 rfl rfl ?_
  simp only [ac4]
  simp (implicitDefEqProofs := false) (disch := omega) only [WPs, opds, List.all_cons, List.all_nil, List.cons_append, List.nil_append, cond_true, cond_false, eq_self, List.map_cons, List.map_nil, Nat.reduceAdd, Nat.testBit, Nat.reduceShiftRight, Nat.reduceAnd, Nat.reduceBNe, Nat.reduceMul]
  refine use_pure (T.aw _ _) fun _ => ?_
  rcases affine_q q with ⟨z, N, A, M, L, rfl, hP, h0⟩ | hw
  · have hqq : z * z ≤ 7 * 7 := Nat.mul_le_mul hP.sm.le hP.sm.le
    have hz7 := hP.sm.le
    have hn := hP.n
    simp (implicitDefEqProofs := false) (disch := omega) only [WPs, opds, List.all_cons, List.all_nil, List.cons_append, List.nil_append, cond_true, cond_false, eq_self, List.map_cons, List.map_nil, Nat.reduceAdd, Nat.testBit, Nat.reduceShiftRight, Nat.reduceAnd, Nat.reduceBNe, Nat.reduceMul]
    refine use_rt (hP.aff T _ _) fun v M1 N1 r1 w1 ⟨n1, m1, f1, rv, hv, hR⟩ => ?_
    subst hv
    have hone := hR.one
    simp (implicitDefEqProofs := false) (disch := omega) only [WPs, opds, List.all_cons, List.all_nil, List.cons_append, List.nil_append, cond_true, cond_false, eq_self, List.map_cons, List.map_nil, Nat.reduceAdd, Nat.testBit, Nat.reduceShiftRight, Nat.reduceAnd, Nat.reduceBNe, Nat.reduceMul, hone]
    generalize hM2 : (AMem.put M1 N1 (some (.cells [.int .i64 ((z * z : Nat) : Int), rv] 0 false true)) : FM) = M2
    have d2 : M2 N1 = some (.cells [.int .i64 ((z * z : Nat) : Int), rv] 0 false true) := by rw [← hM2]; exact fput_same _ _ _
    have hR2 : Rows M2 (N1 + 1) rv L := hR.rows.frame (by omega) fun b hb => by rw [← hM2, fput_ne _ _ _ _ (by omega)]
    have hbel := hR2.bel (N1 + 1) (Nat.le_refl _)
    have fzn := f1 n (Nat.le_refl _)
    have fza : Nat.mod (bit N1) (bit n) = 0 := frz_bit (by omega)
    refine use_pure (wrong_spec T _ _ _) fun _ => ?_
    rw [h0]
    simp (implicitDefEqProofs := false) (disch := omega) only [WPs, opds, List.all_cons, List.all_nil, List.cons_append, List.nil_append, cond_true, cond_false, eq_self, List.map_cons, List.map_nil, Nat.reduceAdd, Nat.testBit, Nat.reduceShiftRight, Nat.reduceAnd, Nat.reduceBNe, Nat.reduceMul, d2, hbel]
    have hge := hP.sm.ge
    have h15 := refAff_spec (Y := Y) T.e17 hP.sm.size.good (T2.ar hP.sm) hP.sm.ge hP.sm.le M2 (N1 + 1)
    rw [refAff_eq hP.sm, hP.pr] at h15
    refine use_rtX h15 fun v2 M3 N3 r3 w3 ⟨n3, m3, f3, rv2, hv2, hS⟩ => ?_
    have hR3 := hR2.frame n3 m3
    have hS3 := hS.rows
    have fz3 := f3 n (by omega)
    have hbel3 := hR3.bel N3 (Nat.le_refl _)
    have hbel4 := hS3.bel N3 (Nat.le_refl _)
    have hLN := hP.lN
    have hrl : ∀ r ∈ L, r.length < 1000000 := fun r hr => by
      obtain ⟨i', hi', rfl⟩ := List.getElem_of_mem hr
      have := hP.row i' (by omega)
      rw [List.getD_eq_getElem?_getD, List.getElem?_eq_getElem hi'] at this
      replace this : L[i'].length = z := this
      omega
    subst hv2
    have hld : (w3.land (bit N1)).beq 0 = true := by rw [land_frz (f3 (N1 + 1) (Nat.le_refl _)) (Nat.lt_succ_self _)]; rfl
    simp (implicitDefEqProofs := false) (disch := omega) only [WPs, opds, List.all_cons, List.all_nil, List.cons_append, List.nil_append, cond_true, cond_false, eq_self, List.map_cons, List.map_nil, Nat.reduceAdd, Nat.testBit, Nat.reduceShiftRight, Nat.reduceAnd, Nat.reduceBNe, Nat.reduceMul, hbel3, hbel4, hld, hR3.belF N3 (Nat.le_refl _), hS3.belF N3 (Nat.le_refl _)]
    refine use_pureX (same_spec T.e14 hR3 hS3 (by omega) (by omega) (fun r hr => hrl r hr) (fun r hr => hrl r hr)) fun _ => ?_
    simp (implicitDefEqProofs := false) (disch := omega) only [WPs, opds, List.all_cons, List.all_nil, List.cons_append, List.nil_append, cond_true, cond_false, eq_self, List.map_cons, List.map_nil, Nat.reduceAdd, Nat.testBit, Nat.reduceShiftRight, Nat.reduceAnd, Nat.reduceBNe, Nat.reduceMul, decide_eq_true]
    simp only [frz_iff, fzn, fza, fz3, and_self]
  · simp (implicitDefEqProofs := false) (disch := omega) only [WPs, opds, List.all_cons, List.all_nil, List.cons_append, List.nil_append, cond_true, cond_false, eq_self, List.map_cons, List.map_nil, Nat.reduceAdd, Nat.testBit, Nat.reduceShiftRight, Nat.reduceAnd, Nat.reduceBNe, Nat.reduceMul]
    refine use_rt (aff_wrong T hw _ _) fun v M1 N1 r1 w1 ⟨n1, m1, f1, dv, hv, rv, hd, hR⟩ => ?_
    subst hv
    subst hd
    have hone := hR.one
    have hlen := hR.len
    have fzn := f1 n (Nat.le_refl _)
    have fza : Nat.mod (bit N1) (bit n) = 0 := frz_bit (by omega)
    have hbel := hR.bel (N1 + 1) (by omega)
    have hlen' : lenV false rv = some (.int .i64 0) := hlen
    simp (implicitDefEqProofs := false) (disch := omega) only [WPs, opds, List.all_cons, List.all_nil, List.cons_append, List.nil_append, cond_true, cond_false, eq_self, List.map_cons, List.map_nil, Nat.reduceAdd, Nat.testBit, Nat.reduceShiftRight, Nat.reduceAnd, Nat.reduceBNe, Nat.reduceMul, hone]
    refine use_pure (wrong_spec T _ _ _) fun _ => ?_
    simp (implicitDefEqProofs := false) (disch := omega) only [WPs, opds, List.all_cons, List.all_nil, List.cons_append, List.nil_append, cond_true, cond_false, eq_self, List.map_cons, List.map_nil, Nat.reduceAdd, Nat.testBit, Nat.reduceShiftRight, Nat.reduceAnd, Nat.reduceBNe, Nat.reduceMul, decide_eq_false hw]
    refine use_pure (wrong_spec T _ _ _) fun _ => ?_
    generalize wrongR q = er at *
    simp (implicitDefEqProofs := false) (disch := omega) only [WPs, opds, List.all_cons, List.all_nil, List.cons_append, List.nil_append, cond_true, cond_false, eq_self, List.map_cons, List.map_nil, Nat.reduceAdd, Nat.testBit, Nat.reduceShiftRight, Nat.reduceAnd, Nat.reduceBNe, Nat.reduceMul, hlen', hbel]
    simp only [frz_iff, fzn, fza, and_self]
end Go.Am.C06
