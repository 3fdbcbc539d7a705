/- The machine and its runs, part 12: Am06t Am06v Am06w Am06y Am06z Am06xa Am06xc AmPost. -/
import Derived.ProofKit
import Derived.Test.YtilnoajeofjckaaB11
set_option linter.unusedVariables false
set_option linter.unusedSimpArgs false
set_option linter.unusedSectionVars false
namespace Go.Am.C06
open Go Go.Am
set_option maxRecDepth 1000000
noncomputable def okP (q N : Nat) (A T : Tab) (ps : List P3) (L : List (List Int)) : Bool :=
  (List.range N).all fun a => decide ((L.getD a []).length = q + 1) && ((L.getD a []).all fun x => decide (0 ≤ x) && decide (x < (N : Int))) && (List.range N).all fun b =>
    (decide (((b : Nat) : Int) ∈ L.getD a []) == decide (((a : Nat) : Int) ∈ L.getD b [])) && (Nat.beq a b || decide (comR (L.getD a []) (L.getD b []) = [(comE A T ps ((a : Nat) : Int) ((b : Nat) : Int)).1]))
noncomputable def okF (N : Nat) (L : List (List Int)) : Bool :=
  (List.range N).all fun a => decide (((List.range N).map fun g => ((g : Nat) : Int)).filter (fun g => decide (g ∈ L.getD a [])) = L.getD a [])
def Pt2 : List P3 := [⟨0, 0, 1⟩, ⟨0, 1, 0⟩, ⟨0, 1, 1⟩, ⟨1, 0, 0⟩, ⟨1, 0, 1⟩, ⟨1, 1, 0⟩, ⟨1, 1, 1⟩]
def L2 : List (List Int) := [[1, 3, 5], [0, 3, 4], [2, 3, 6], [0, 1, 2], [1, 4, 6], [0, 5, 6], [2, 4, 5]]
theorem pts2 : ptsR 2 T2 = Pt2 := by decide +kernel
theorem proj2 : projR A2 T2 Pt2 = L2 := by decide +kernel
theorem ok2 : okP 2 7 A2 T2 Pt2 L2 = true := by kernel_rfl
theorem okf2 : okF 7 L2 = true := by kernel_rfl
def Pt3 : List P3 := [⟨0, 0, 1⟩, ⟨0, 1, 0⟩, ⟨0, 1, 1⟩, ⟨0, 1, 2⟩, ⟨1, 0, 0⟩, ⟨1, 0, 1⟩, ⟨1, 0, 2⟩, ⟨1, 1, 0⟩, ⟨1, 1, 1⟩, ⟨1, 1, 2⟩, ⟨1, 2, 0⟩, ⟨1, 2, 1⟩, ⟨1, 2, 2⟩]
def L3 : List (List Int) := [[1, 4, 7, 10], [0, 4, 5, 6], [3, 4, 9, 11], [2, 4, 8, 12], [0, 1, 2, 3], [1, 6, 9, 12], [1, 5, 8, 11], [0, 10, 11, 12], [3, 6, 8, 10], [2, 5, 9, 10], [0, 7, 8, 9], [2, 6, 7, 11], [3, 5, 7, 12]]
theorem pts3 : ptsR 3 T3 = Pt3 := by decide +kernel
theorem proj3 : projR A3 T3 Pt3 = L3 := by decide +kernel
theorem ok3 : okP 3 13 A3 T3 Pt3 L3 = true := by kernel_rfl
theorem okf3 : okF 13 L3 = true := by kernel_rfl
def Pt4 : List P3 := [⟨0, 0, 1⟩, ⟨0, 1, 0⟩, ⟨0, 1, 1⟩, ⟨0, 1, 2⟩, ⟨0, 1, 3⟩, ⟨1, 0, 0⟩, ⟨1, 0, 1⟩, ⟨1, 0, 2⟩, ⟨1, 0, 3⟩, ⟨1, 1, 0⟩, ⟨1, 1, 1⟩, ⟨1, 1, 2⟩, ⟨1, 1, 3⟩, ⟨1, 2, 0⟩, ⟨1, 2, 1⟩, ⟨1, 2, 2⟩, ⟨1, 2, 3⟩, ⟨1, 3, 0⟩, ⟨1, 3, 1⟩, ⟨1, 3, 2⟩, ⟨1, 3, 3⟩]
def L4 : List (List Int) := [[1, 5, 9, 13, 17], [0, 5, 6, 7, 8], [2, 5, 10, 15, 20], [4, 5, 12, 14, 19], [3, 5, 11, 16, 18], [0, 1, 2, 3, 4], [1, 6, 10, 14, 18], [1, 8, 12, 16, 20], [1, 7, 11, 15, 19], [0, 9, 10, 11, 12], [2, 6, 9, 16, 19], [4, 8, 9, 15, 18], [3, 7, 9, 14, 20], [0, 17, 18, 19, 20], [3, 6, 12, 15, 17], [2, 8, 11, 14, 17], [4, 7, 10, 16, 17], [0, 13, 14, 15, 16], [4, 6, 11, 13, 20], [3, 8, 10, 13, 19], [2, 7, 12, 13, 18]]
theorem pts4 : ptsR 4 T4 = Pt4 := by decide +kernel
theorem proj4 : projR A4 T4 Pt4 = L4 := by decide +kernel
theorem ok4 : okP 4 21 A4 T4 Pt4 L4 = true := by kernel_rfl
theorem okf4 : okF 21 L4 = true := by kernel_rfl
def Pt5 : List P3 := [⟨0, 0, 1⟩, ⟨0, 1, 0⟩, ⟨0, 1, 1⟩, ⟨0, 1, 2⟩, ⟨0, 1, 3⟩, ⟨0, 1, 4⟩, ⟨1, 0, 0⟩, ⟨1, 0, 1⟩, ⟨1, 0, 2⟩, ⟨1, 0, 3⟩, ⟨1, 0, 4⟩, ⟨1, 1, 0⟩, ⟨1, 1, 1⟩, ⟨1, 1, 2⟩, ⟨1, 1, 3⟩, ⟨1, 1, 4⟩, ⟨1, 2, 0⟩, ⟨1, 2, 1⟩, ⟨1, 2, 2⟩, ⟨1, 2, 3⟩, ⟨1, 2, 4⟩, ⟨1, 3, 0⟩, ⟨1, 3, 1⟩, ⟨1, 3, 2⟩, ⟨1, 3, 3⟩, ⟨1, 3, 4⟩, ⟨1, 4, 0⟩, ⟨1, 4, 1⟩, ⟨1, 4, 2⟩, ⟨1, 4, 3⟩, ⟨1, 4, 4⟩]
def L5 : List (List Int) := [[1, 6, 11, 16, 21, 26], [0, 6, 7, 8, 9, 10], [5, 6, 15, 19, 23, 27], [3, 6, 13, 20, 22, 29], [4, 6, 14, 17, 25, 28], [2, 6, 12, 18, 24, 30], [0, 1, 2, 3, 4, 5], [1, 10, 15, 20, 25, 30], [1, 8, 13, 18, 23, 28], [1, 9, 14, 19, 24, 29], [1, 7, 12, 17, 22, 27], [0, 26, 27, 28, 29, 30], [5, 10, 14, 18, 22, 26], [3, 8, 15, 17, 24, 26], [4, 9, 12, 20, 23, 26], [2, 7, 13, 19, 25, 26], [0, 16, 17, 18, 19, 20], [4, 10, 13, 16, 24, 27], [5, 8, 12, 16, 25, 29], [2, 9, 15, 16, 22, 28], [3, 7, 14, 16, 23, 30], [0, 21, 22, 23, 24, 25], [3, 10, 12, 19, 21, 28], [2, 8, 14, 20, 21, 27], [5, 9, 13, 17, 21, 30], [4, 7, 15, 18, 21, 29], [0, 11, 12, 13, 14, 15], [2, 10, 11, 17, 23, 29], [4, 8, 11, 19, 22, 30], [3, 9, 11, 18, 25, 27], [5, 7, 11, 20, 24, 28]]
theorem pts5 : ptsR 5 T5 = Pt5 := by decide +kernel
theorem proj5 : projR A5 T5 Pt5 = L5 := by decide +kernel
theorem ok5 : okP 5 31 A5 T5 Pt5 L5 = true := by kernel_rfl
theorem okf5 : okF 31 L5 = true := by kernel_rfl
def Pt7 : List P3 := [⟨0, 0, 1⟩, ⟨0, 1, 0⟩, ⟨0, 1, 1⟩, ⟨0, 1, 2⟩, ⟨0, 1, 3⟩, ⟨0, 1, 4⟩, ⟨0, 1, 5⟩, ⟨0, 1, 6⟩, ⟨1, 0, 0⟩, ⟨1, 0, 1⟩, ⟨1, 0, 2⟩, ⟨1, 0, 3⟩, ⟨1, 0, 4⟩, ⟨1, 0, 5⟩, ⟨1, 0, 6⟩, ⟨1, 1, 0⟩, ⟨1, 1, 1⟩, ⟨1, 1, 2⟩, ⟨1, 1, 3⟩, ⟨1, 1, 4⟩, ⟨1, 1, 5⟩, ⟨1, 1, 6⟩, ⟨1, 2, 0⟩, ⟨1, 2, 1⟩, ⟨1, 2, 2⟩, ⟨1, 2, 3⟩, ⟨1, 2, 4⟩, ⟨1, 2, 5⟩, ⟨1, 2, 6⟩, ⟨1, 3, 0⟩, ⟨1, 3, 1⟩, ⟨1, 3, 2⟩, ⟨1, 3, 3⟩, ⟨1, 3, 4⟩, ⟨1, 3, 5⟩, ⟨1, 3, 6⟩, ⟨1, 4, 0⟩, ⟨1, 4, 1⟩, ⟨1, 4, 2⟩, ⟨1, 4, 3⟩, ⟨1, 4, 4⟩, ⟨1, 4, 5⟩, ⟨1, 4, 6⟩, ⟨1, 5, 0⟩, ⟨1, 5, 1⟩, ⟨1, 5, 2⟩, ⟨1, 5, 3⟩, ⟨1, 5, 4⟩, ⟨1, 5, 5⟩, ⟨1, 5, 6⟩, ⟨1, 6, 0⟩, ⟨1, 6, 1⟩, ⟨1, 6, 2⟩, ⟨1, 6, 3⟩, ⟨1, 6, 4⟩, ⟨1, 6, 5⟩, ⟨1, 6, 6⟩]
def L7 : List (List Int) := [[1, 8, 15, 22, 29, 36, 43, 50], [0, 8, 9, 10, 11, 12, 13, 14], [7, 8, 21, 27, 33, 39, 45, 51], [4, 8, 18, 28, 31, 41, 44, 54], [3, 8, 17, 26, 35, 37, 46, 55], [6, 8, 20, 25, 30, 42, 47, 52], [5, 8, 19, 23, 34, 38, 49, 53], [2, 8, 16, 24, 32, 40, 48, 56], [0, 1, 2, 3, 4, 5, 6, 7], [1, 14, 21, 28, 35, 42, 49, 56], [1, 11, 18, 25, 32, 39, 46, 53], [1, 10, 17, 24, 31, 38, 45, 52], [1, 13, 20, 27, 34, 41, 48, 55], [1, 12, 19, 26, 33, 40, 47, 54], [1, 9, 16, 23, 30, 37, 44, 51], [0, 50, 51, 52, 53, 54, 55, 56], [7, 14, 20, 26, 32, 38, 44, 50], [4, 11, 21, 24, 34, 37, 47, 50], [3, 10, 19, 28, 30, 39, 48, 50], [6, 13, 18, 23, 35, 40, 45, 50], [5, 12, 16, 27, 31, 42, 46, 50], [2, 9, 17, 25, 33, 41, 49, 50], [0, 29, 30, 31, 32, 33, 34, 35], [6, 14, 19, 24, 29, 41, 46, 51], [7, 11, 17, 23, 29, 42, 48, 54], [5, 10, 21, 25, 29, 40, 44, 55], [4, 13, 16, 26, 29, 39, 49, 52], [2, 12, 20, 28, 29, 37, 45, 53], [3, 9, 18, 27, 29, 38, 47, 56], [0, 22, 23, 24, 25, 26, 27, 28], [5, 14, 18, 22, 33, 37, 48, 52], [3, 11, 20, 22, 31, 40, 49, 51], [7, 10, 16, 22, 35, 41, 47, 53], [2, 13, 21, 22, 30, 38, 46, 54], [6, 12, 17, 22, 34, 39, 44, 56], [4, 9, 19, 22, 32, 42, 45, 55], [0, 43, 44, 45, 46, 47, 48, 49], [4, 14, 17, 27, 30, 40, 43, 53], [6, 11, 16, 28, 33, 38, 43, 55], [2, 10, 18, 26, 34, 42, 43, 51], [7, 13, 19, 25, 31, 37, 43, 56], [3, 12, 21, 23, 32, 41, 43, 52], [5, 9, 20, 24, 35, 39, 43, 54], [0, 36, 37, 38, 39, 40, 41, 42], [3, 14, 16, 25, 34, 36, 45, 54], [2, 11, 19, 27, 35, 36, 44, 52], [4, 10, 20, 23, 33, 36, 46, 56], [5, 13, 17, 28, 32, 36, 47, 51], [7, 12, 18, 24, 30, 36, 49, 55], [6, 9, 21, 26, 31, 36, 48, 53], [0, 15, 16, 17, 18, 19, 20, 21], [2, 14, 15, 23, 31, 39, 47, 55], [5, 11, 15, 26, 30, 41, 45, 56], [6, 10, 15, 27, 32, 37, 49, 54], [3, 13, 15, 24, 33, 42, 44, 53], [4, 12, 15, 25, 35, 38, 48, 51], [7, 9, 15, 28, 34, 40, 46, 52]]
theorem pts7 : ptsR 7 T7 = Pt7 := by decide +kernel
theorem proj7 : projR A7 T7 Pt7 = L7 := by decide +kernel
theorem ok7 : okP 7 57 A7 T7 Pt7 L7 = true := by kernel_rfl
theorem okf7 : okF 57 L7 = true := by kernel_rfl
end Go.Am.C06
namespace Go.Am.C06
open Go Go.Am
variable {E : Nat → Option AFn} {Y : Nat → List Value → FM → Nat → OR FM}
structure Pl (q N : Nat) (A M : Tab) (L : List (List Int)) : Prop where
  sm : Sm q A M
  n : N = q * q + q + 1
  ln : (ptsR q M).length = N
  lN : L.length = N
  pr : projR A M (ptsR q M) = L
  row : ∀ a, a < N → ∃ r, L[a]? = some r ∧ r.length = q + 1 ∧ ∀ x ∈ r, 0 ≤ x ∧ x < (N : Int)
  sym : ∀ a b, a < N → b < N → (((b : Nat) : Int) ∈ L.getD a [] ↔ ((a : Nat) : Int) ∈ L.getD b [])
  meet : ∀ a b, a < N → b < N → a ≠ b → comR (L.getD a []) (L.getD b []) = [(comE A M (ptsR q M) (a : Int) (b : Int)).1]
theorem Pl.small {q N : Nat} {A M : Tab} {L : List (List Int)} (h : Pl q N A M L) : N ≤ 57 ∧ 0 < N := by
  have h1 : q * q ≤ 7 * 7 := Nat.mul_le_mul h.sm.le h.sm.le
  have := h.n; have := h.sm.le
  omega
theorem Pl.com {q N : Nat} {A M : Tab} {L : List (List Int)} (h : Pl q N A M L) {a b : Nat} (ha : a < N) (hb : b < N) (hab : a ≠ b) : (comE A M (ptsR q M) (a : Int) (b : Int)).2 = 0 := by
  unfold comE
  rw [h.ln, if_neg (by omega), if_neg (by omega)]
theorem rt_imp {x : OR FM} {R R' : Value → FM → Nat → Nat → Prop} (h : Rt x fun v m n w => R v m n w) (hi : ∀ v m n w, R v m n w → R' v m n w) : Rt x fun v m n w => R' v m n w := by
  cases x with
  | no => exact h
  | ok v m n r w => exact hi v m n w h
theorem Pl.proj {q N : Nat} {A M : Tab} {L : List (List Int)} (h : Pl q N A M L) (T : En E Y) (m : FM) (n : Nat) :
    Rt (callW PG E Y 12 [.int .i64 (q : Int)] m n) (Kpt m n fun v M' N' => ∃ rv, v = .tuple #[.agg #[.int .i64 (N : Int), rv], .int .i64 0] ∧ RowsZ M' n N' rv L) := by
  have h1 := proj_good T h.sm m n
  rw [h.pr, h.ln] at h1
  refine rt_imp h1 fun v m' n' w ⟨a1, a2, a3, dv, e1, rv, e2, hr⟩ => ⟨a1, a2, a3, rv, ?_, hr⟩
  rw [e1, e2]
theorem planeMeet_exec (T : En E Y) {z i k q N : Nat} {A M : Tab} {L : List (List Int)} (hz : z < 256) (hi : i < 256) (hk : k < 256) (hq : sizeN z = q) (hP : Pl q N A M L) (m : FM) (n : Nat) :
    Pure (callW PG E Y 5 [.int .u8 (z : Int), .int .u8 (i : Int), .int .u8 (k : Int)] m n) m n (.bool true) := by
  refine pure_spec T.e5 rfl rfl ?_
  simp only [ac5]
  obtain ⟨hN57, hN0⟩ := hP.small
  simp (implicitDefEqProofs := false) (disch := omega) only [WPs, opds, List.all_cons, List.all_nil, List.cons_append, List.nil_append, cond_true, cond_false, eq_self, List.map_cons, List.map_nil, Nat.reduceAdd, Nat.testBit, Nat.reduceShiftRight, Nat.reduceAnd, Nat.reduceBNe, Nat.reduceMul]
  refine use_pure (T.aw _ _) fun _ => ?_
  simp (implicitDefEqProofs := false) (disch := omega) only [WPs, opds, List.all_cons, List.all_nil, List.cons_append, List.nil_append, cond_true, cond_false, eq_self, List.map_cons, List.map_nil, Nat.reduceAdd, Nat.testBit, Nat.reduceShiftRight, Nat.reduceAnd, Nat.reduceBNe, Nat.reduceMul]
  refine use_pure (size_spec T _ _ hz) fun _ => ?_
  rw [hq]
  simp (implicitDefEqProofs := false) (disch := omega) only [WPs, opds, List.all_cons, List.all_nil, List.cons_append, List.nil_append, cond_true, cond_false, eq_self, List.map_cons, List.map_nil, Nat.reduceAdd, Nat.testBit, Nat.reduceShiftRight, Nat.reduceAnd, Nat.reduceBNe, Nat.reduceMul]
  refine use_rt (hP.proj T _ _) fun v M1 N1 r1 w1 ⟨n1, m1, f1, rv, hv, hR⟩ => ?_
  subst hv
  have hone := hR.one
  simp (implicitDefEqProofs := false) (disch := omega) only [WPs, opds, List.all_cons, List.all_nil, List.cons_append, List.nil_append, cond_true, cond_false, eq_self, List.map_cons, List.map_nil, Nat.reduceAdd, Nat.testBit, Nat.reduceShiftRight, Nat.reduceAnd, Nat.reduceBNe, Nat.reduceMul, hone]
  generalize hM2 : (AMem.put M1 N1 (some (.cells [.int .i64 (N : Int), rv] 0 false true)) : FM) = M2
  have d2 : M2 N1 = some (.cells [.int .i64 (N : Int), rv] 0 false true) := by rw [← hM2]; exact fput_same _ _ _
  have hR2 : Rows M2 (N1 + 1) rv L := hR.rows.frame (by omega) fun b hb => by rw [← hM2, fput_ne _ _ _ _ (by omega)]
  have hlen := hR2.len
  rw [hP.lN] at hlen
  have hLN := hP.lN
  have hqq : q * q ≤ 7 * 7 := Nat.mul_le_mul hP.sm.le hP.sm.le
  have hq7 := hP.sm.le
  have hn := hP.n
  have hn' : (q : Int) * (q : Int) + (q : Int) + 1 = (N : Int) := by rw [hn]; push_cast; rfl
  have fzn := f1 n (Nat.le_refl _)
  have fza : Nat.mod (bit N1) (bit n) = 0 := frz_bit (by omega)
  have ha : i % N < N := Nat.mod_lt _ hN0
  have hb : k % N < N := Nat.mod_lt _ hN0
  have hri : binV PG .rem 3 (.int .i64 (i : Int)) (.int .i64 (N : Int)) = some (.int .i64 ((i % N : Nat) : Int)) := binV_rem_nat (by omega)
  have hrk : binV PG .rem 3 (.int .i64 (k : Int)) (.int .i64 (N : Int)) = some (.int .i64 ((k % N : Nat) : Int)) := binV_rem_nat (by omega)
  generalize i % N = a at *
  generalize k % N = b at *
  obtain ⟨ra, la1, la2, la3⟩ := hP.row a ha
  obtain ⟨rb, lb1, lb2, lb3⟩ := hP.row b hb
  have ga : L.getD a [] = ra := by rw [List.getD_eq_getElem?_getD, la1]; rfl
  have gb : L.getD b [] = rb := by rw [List.getD_eq_getElem?_getD, lb1]; rfl
  obtain ⟨ba, oa, ca, opa, wra, xa, ia1, ia2, ia3, ia4, ia5⟩ := hR2.cell (i := a) (by omega)
  obtain ⟨bb, ob, cb, opb, wrb, xb, ib1, ib2, ib3, ib4, ib5⟩ := hR2.cell (i := b) (by omega)
  rw [(List.getElem?_eq_some_iff.1 la1).2] at ia5
  rw [(List.getElem?_eq_some_iff.1 lb1).2] at ib5
  have hla := ia5.len
  rw [la2] at hla
  have hbel := hR2.bel (N1 + 1) (Nat.le_refl _)
  simp (implicitDefEqProofs := false) (disch := omega) only [WPs, opds, List.all_cons, List.all_nil, List.cons_append, List.nil_append, cond_true, cond_false, eq_self, List.map_cons, List.map_nil, Nat.reduceAdd, Nat.testBit, Nat.reduceShiftRight, Nat.reduceAnd, Nat.reduceBNe, Nat.reduceMul, d2, hlen, hbel, conv_u8 hi, conv_u8 hk, hri, hrk]
  by_cases hab : a = b
  · subst hab
    simp (implicitDefEqProofs := false) (disch := omega) only [WPs, opds, List.all_cons, List.all_nil, List.cons_append, List.nil_append, cond_true, cond_false, eq_self, List.map_cons, List.map_nil, Nat.reduceAdd, Nat.testBit, Nat.reduceShiftRight, Nat.reduceAnd, Nat.reduceBNe, Nat.reduceMul, d2, hbel, ia1, ia3, ia4, hla]
    simp only [frz_iff, fzn, fza, and_self]
  have hab' : ¬ (a : Int) = (b : Int) := by omega
  simp (implicitDefEqProofs := false) (disch := omega) only [WPs, opds, List.all_cons, List.all_nil, List.cons_append, List.nil_append, cond_true, cond_false, eq_self, List.map_cons, List.map_nil, Nat.reduceAdd, Nat.testBit, Nat.reduceShiftRight, Nat.reduceAnd, Nat.reduceBNe, Nat.reduceMul, decide_eq_false hab', d2, hbel, ia1, ia3, ia4, ib1, ib3, ib4, ia5.bel (N1 + 1) (Nat.le_refl _), ib5.bel (N1 + 1) (Nat.le_refl _)]
  have hm := hP.meet a b ha hb (by omega)
  rw [ga, gb] at hm
  refine use_rtX (com_spec T.e19 T.e21 ia5 ib5 (by omega) (by omega)) fun v M3 N3 r3 w3 ⟨n3, m3, f3, hI⟩ => ?_
  rw [hm] at hI
  have hc2 := hP.com ha hb (by omega)
  simp (implicitDefEqProofs := false) (disch := omega) only [WPs, opds, List.all_cons, List.all_nil, List.cons_append, List.nil_append, cond_true, cond_false, eq_self, List.map_cons, List.map_nil, Nat.reduceAdd, Nat.testBit, Nat.reduceShiftRight, Nat.reduceAnd, Nat.reduceBNe, Nat.reduceMul]
  refine use_pure (meet_good T hP.sm _ _ _ _) fun _ => ?_
  rw [hc2]
  have hIs := hI.ints
  have hl1 := hIs.len
  obtain ⟨bx, ox, cx, opx, wrx, ix1, ix2, ix3, ix4⟩ := hIs.cell (i := 0) (by show 0 < 1; omega)
  generalize (comE A M (ptsR q M) (a : Int) (b : Int)).1 = c at *
  have hl1' : lenV false v = some (.int .i64 1) := hl1
  have ix4' : cget cx ox = some (.int .i64 c) := ix4
  have fz3 := f3 n (by omega)
  simp (implicitDefEqProofs := false) (disch := omega) only [WPs, opds, List.all_cons, List.all_nil, List.cons_append, List.nil_append, cond_true, cond_false, eq_self, List.map_cons, List.map_nil, Nat.reduceAdd, Nat.testBit, Nat.reduceShiftRight, Nat.reduceAnd, Nat.reduceBNe, Nat.reduceMul, hl1', ix1, ix3, ix4']
  simp only [frz_iff, fzn, fza, fz3, and_self]
end Go.Am.C06
namespace Go.Am.C06
open Go Go.Am
set_option maxRecDepth 1000000
theorem pl_of {q N : Nat} {A M : Tab} {ps : List P3} {L : List (List Int)} (sm : Sm q A M) (hn : N = q * q + q + 1) (h1 : ptsR q M = ps) (h2 : projR A M ps = L) (hl : ps.length = N) (h : okP q N A M ps L = true) : Pl q N A M L := by
  have hL : L.length = N := by rw [← h2, ← hl]; exact List.length_map _
  unfold okP at h
  simp only [List.all_eq_true, List.mem_range, Bool.and_eq_true, Bool.or_eq_true, decide_eq_true_eq, beq_iff_eq] at h
  refine ⟨sm, hn, by rw [h1, hl], hL, by rw [h1, h2], fun a ha => ?_, fun a b ha hb => ?_, fun a b ha hb hab => ?_⟩
  · have hg : L[a]? = some (L.getD a []) := by rw [List.getD_eq_getElem?_getD, List.getElem?_eq_getElem (by omega)]; rfl
    exact ⟨_, hg, (h a ha).1.1, (h a ha).1.2⟩
  · have h3 := ((h a ha).2 b hb).1
    exact decide_eq_decide.1 h3
  · rcases ((h a ha).2 b hb).2 with h3 | h3
    · exact absurd (Nat.eq_of_beq_eq_true h3) hab
    · rw [h1]; exact h3
theorem pl2 : Pl 2 7 A2 T2 L2 := pl_of ⟨.s2, by omega, by omega⟩ rfl pts2 proj2 rfl ok2
theorem pl3 : Pl 3 13 A3 T3 L3 := pl_of ⟨.s3, by omega, by omega⟩ rfl pts3 proj3 rfl ok3
theorem pl4 : Pl 4 21 A4 T4 L4 := pl_of ⟨.s4, by omega, by omega⟩ rfl pts4 proj4 rfl ok4
theorem pl5 : Pl 5 31 A5 T5 L5 := pl_of ⟨.s5, by omega, by omega⟩ rfl pts5 proj5 rfl ok5
theorem pl7 : Pl 7 57 A7 T7 L7 := pl_of ⟨.s7, by omega, by omega⟩ rfl pts7 proj7 rfl ok7
theorem size_pl (z : Nat) : ∃ q N A M L, sizeN z = q ∧ Pl q N A M L := by
  have h5 : z % 5 < 5 := Nat.mod_lt _ (by omega)
  unfold sizeN
  generalize z % 5 = k at *
  match k, h5 with
  | 0, _ => exact ⟨_, _, _, _, _, rfl, pl2⟩
  | 1, _ => exact ⟨_, _, _, _, _, rfl, pl3⟩
  | 2, _ => exact ⟨_, _, _, _, _, rfl, pl4⟩
  | 3, _ => exact ⟨_, _, _, _, _, rfl, pl5⟩
  | 4, _ => exact ⟨_, _, _, _, _, rfl, pl7⟩
theorem filt_of {q N : Nat} {A M : Tab} {L : List (List Int)} (h : okF N L = true) {a : Nat} (ha : a < N) : ((List.range N).map fun g => ((g : Nat) : Int)).filter (fun g => decide (g ∈ L.getD a [])) = L.getD a [] := by
  unfold okF at h
  simp only [List.all_eq_true, List.mem_range, decide_eq_true_eq] at h
  exact h a ha
end Go.Am.C06
namespace Go.Am.C06
open Go Go.Am
variable {E : Nat → Option AFn} {Y : Nat → List Value → FM → Nat → OR FM}
theorem comR_mem {a b : List Int} {x : Int} (h : x ∈ comR a b) : x ∈ a ∧ x ∈ b := by
  unfold comR at h
  rw [List.mem_filter, decide_eq_true_eq] at h
  exact h
theorem mem_comR {a b : List Int} {x : Int} (h : x ∈ a) (h2 : x ∈ b) : x ∈ comR a b := by
  unfold comR
  rw [List.mem_filter, decide_eq_true_eq]
  exact ⟨h, h2⟩
theorem Pl.comm {q N : Nat} {A M : Tab} {L : List (List Int)} (h : Pl q N A M L) {a b : Nat} (ha : a < N) (hb : b < N) : comE A M (ptsR q M) (a : Int) (b : Int) = comE A M (ptsR q M) (b : Int) (a : Int) := by
  by_cases hab : a = b
  · rw [hab]
  · refine Prod.ext ?_ ((h.com ha hb hab).trans (h.com hb ha (Ne.symm hab)).symm)
    have h1 := h.meet a b ha hb hab
    have h2 := h.meet b a hb ha (Ne.symm hab)
    have hm : (comE A M (ptsR q M) (a : Int) (b : Int)).1 ∈ comR (L.getD a []) (L.getD b []) := by rw [h1]; exact List.mem_singleton_self _
    have h3 := comR_mem hm
    have h4 := mem_comR h3.2 h3.1
    rw [h2, List.mem_singleton] at h4
    exact h4
theorem planeDual_exec (T : En E Y) {z i k q N : Nat} {A M : Tab} {L : List (List Int)} (hz : z < 256) (hi : i < 256) (hk : k < 256) (hq : sizeN z = q) (hP : Pl q N A M L) (m : FM) (n : Nat) :
    Pure (callW PG E Y 10 [.int .u8 (z : Int), .int .u8 (i : Int), .int .u8 (k : Int)] m n) m n (.bool true) := by
  refine pure_spec T.e10 rfl rfl ?_
  simp only [ac10]
  obtain ⟨hN57, hN0⟩ := hP.small
  simp (implicitDefEqProofs := false) (disch := omega) only [WPs, opds, List.all_cons, List.all_nil, List.cons_append, List.nil_append, cond_true, cond_false, eq_self, List.map_cons, List.map_nil, Nat.reduceAdd, Nat.testBit, Nat.reduceShiftRight, Nat.reduceAnd, Nat.reduceBNe, Nat.reduceMul]
  refine use_pure (T.aw _ _) fun _ => ?_
  simp (implicitDefEqProofs := false) (disch := omega) only [WPs, opds, List.all_cons, List.all_nil, List.cons_append, List.nil_append, cond_true, cond_false, eq_self, List.map_cons, List.map_nil, Nat.reduceAdd, Nat.testBit, Nat.reduceShiftRight, Nat.reduceAnd, Nat.reduceBNe, Nat.reduceMul]
  refine use_pure (size_spec T _ _ hz) fun _ => ?_
  rw [hq]
  simp (implicitDefEqProofs := false) (disch := omega) only [WPs, opds, List.all_cons, List.all_nil, List.cons_append, List.nil_append, cond_true, cond_false, eq_self, List.map_cons, List.map_nil, Nat.reduceAdd, Nat.testBit, Nat.reduceShiftRight, Nat.reduceAnd, Nat.reduceBNe, Nat.reduceMul]
  refine use_rt (hP.proj T _ _) fun v M1 N1 r1 w1 ⟨n1, m1, f1, rv, hv, hR⟩ => ?_
  subst hv
  have hone := hR.one
  simp (implicitDefEqProofs := false) (disch := omega) only [WPs, opds, List.all_cons, List.all_nil, List.cons_append, List.nil_append, cond_true, cond_false, eq_self, List.map_cons, List.map_nil, Nat.reduceAdd, Nat.testBit, Nat.reduceShiftRight, Nat.reduceAnd, Nat.reduceBNe, Nat.reduceMul, hone]
  generalize hM2 : (AMem.put M1 N1 (some (.cells [.int .i64 (N : Int), rv] 0 false true)) : FM) = M2
  have d2 : M2 N1 = some (.cells [.int .i64 (N : Int), rv] 0 false true) := by rw [← hM2]; exact fput_same _ _ _
  have hR2 : Rows M2 (N1 + 1) rv L := hR.rows.frame (by omega) fun b hb => by rw [← hM2, fput_ne _ _ _ _ (by omega)]
  have hlen := hR2.len
  rw [hP.lN] at hlen
  have hLN := hP.lN
  have hqq : q * q ≤ 7 * 7 := Nat.mul_le_mul hP.sm.le hP.sm.le
  have hq7 := hP.sm.le
  have hn := hP.n
  have hn' : (q : Int) * (q : Int) + (q : Int) + 1 = (N : Int) := by rw [hn]; push_cast; rfl
  have fzn := f1 n (Nat.le_refl _)
  have fza : Nat.mod (bit N1) (bit n) = 0 := frz_bit (by omega)
  have ha : i % N < N := Nat.mod_lt _ hN0
  have hb : k % N < N := Nat.mod_lt _ hN0
  have hri : binV PG .rem 3 (.int .i64 (i : Int)) (.int .i64 (N : Int)) = some (.int .i64 ((i % N : Nat) : Int)) := binV_rem_nat (by omega)
  have hrk : binV PG .rem 3 (.int .i64 (k : Int)) (.int .i64 (N : Int)) = some (.int .i64 ((k % N : Nat) : Int)) := binV_rem_nat (by omega)
  generalize i % N = a at *
  generalize k % N = b at *
  obtain ⟨ra, la1, la2, la3⟩ := hP.row a ha
  obtain ⟨rb, lb1, lb2, lb3⟩ := hP.row b hb
  have ga : L.getD a [] = ra := by rw [List.getD_eq_getElem?_getD, la1]; rfl
  have gb : L.getD b [] = rb := by rw [List.getD_eq_getElem?_getD, lb1]; rfl
  obtain ⟨ba, oa, ca, opa, wra, xa, ia1, ia2, ia3, ia4, ia5⟩ := hR2.cell (i := a) (by omega)
  obtain ⟨bb, ob, cb, opb, wrb, xb, ib1, ib2, ib3, ib4, ib5⟩ := hR2.cell (i := b) (by omega)
  rw [(List.getElem?_eq_some_iff.1 la1).2] at ia5
  rw [(List.getElem?_eq_some_iff.1 lb1).2] at ib5
  have hla := ia5.len
  rw [la2] at hla
  have hbel := hR2.bel (N1 + 1) (Nat.le_refl _)
  have hcm := hP.comm ha hb
  have hsy := hP.sym a b ha hb
  rw [ga, gb] at hsy
  have hsy' : decide (((b : Nat) : Int) ∈ ra) = decide (((a : Nat) : Int) ∈ rb) := decide_eq_decide.2 hsy
  simp (implicitDefEqProofs := false) (disch := omega) only [WPs, opds, List.all_cons, List.all_nil, List.cons_append, List.nil_append, cond_true, cond_false, eq_self, List.map_cons, List.map_nil, Nat.reduceAdd, Nat.testBit, Nat.reduceShiftRight, Nat.reduceAnd, Nat.reduceBNe, Nat.reduceMul, d2, hlen, hbel, conv_u8 hi, conv_u8 hk, hri, hrk]
  refine use_pure (meet_good T hP.sm _ _ _ _) fun _ => ?_
  simp (implicitDefEqProofs := false) (disch := omega) only [WPs, opds, List.all_cons, List.all_nil, List.cons_append, List.nil_append, cond_true, cond_false, eq_self, List.map_cons, List.map_nil, Nat.reduceAdd, Nat.testBit, Nat.reduceShiftRight, Nat.reduceAnd, Nat.reduceBNe, Nat.reduceMul]
  refine use_pure (join_good T hP.sm _ _ _ _) fun _ => ?_
  rw [← hcm]
  simp (implicitDefEqProofs := false) (disch := omega) only [WPs, opds, List.all_cons, List.all_nil, List.cons_append, List.nil_append, cond_true, cond_false, eq_self, List.map_cons, List.map_nil, Nat.reduceAdd, Nat.testBit, Nat.reduceShiftRight, Nat.reduceAnd, Nat.reduceBNe, Nat.reduceMul, d2, hbel, ia1, ia3, ia4, ib1, ib3, ib4, ia5.bel (N1 + 1) (Nat.le_refl _), ib5.bel (N1 + 1) (Nat.le_refl _)]
  refine use_pureX (hasR_spec T.e21 ia5 (by omega) _) fun _ => ?_
  simp (implicitDefEqProofs := false) (disch := omega) only [WPs, opds, List.all_cons, List.all_nil, List.cons_append, List.nil_append, cond_true, cond_false, eq_self, List.map_cons, List.map_nil, Nat.reduceAdd, Nat.testBit, Nat.reduceShiftRight, Nat.reduceAnd, Nat.reduceBNe, Nat.reduceMul, d2, hbel, ia1, ia3, ia4, ib1, ib3, ib4, ia5.bel (N1 + 1) (Nat.le_refl _), ib5.bel (N1 + 1) (Nat.le_refl _)]
  refine use_pureX (hasR_spec T.e21 ib5 (by omega) _) fun _ => ?_
  rw [hsy']
  generalize decide (((a : Nat) : Int) ∈ rb) = B at *
  have hBB : binV PG .eql 4 (.bool B) (.bool B) = some (.bool true) := by cases B <;> rfl
  simp (implicitDefEqProofs := false) (disch := omega) only [WPs, opds, List.all_cons, List.all_nil, List.cons_append, List.nil_append, cond_true, cond_false, eq_self, List.map_cons, List.map_nil, Nat.reduceAdd, Nat.testBit, Nat.reduceShiftRight, Nat.reduceAnd, Nat.reduceBNe, Nat.reduceMul, hBB]
  simp only [frz_iff, fzn, fza, and_self]
end Go.Am.C06
namespace Go.Am.C06
open Go Go.Am
variable {E : Nat → Option AFn} {Y : Nat → List Value → FM → Nat → OR FM}
theorem posP_lt (p : P3) : ∀ (l : List P3) (i : Nat), 0 ≤ posP p l i ∧ (posP p l i < ((i + l.length : Nat) : Int) ∨ posP p l i = 0)
  | [], i => ⟨Int.le_refl 0, .inr rfl⟩
  | r :: l, i => by
    unfold posP
    split
    · exact ⟨by omega, .inl (by rw [List.length_cons]; omega)⟩
    · obtain ⟨h1, h2⟩ := posP_lt p l (i + 1)
      refine ⟨h1, h2.imp (fun h => ?_) id⟩
      rw [List.length_cons]; omega
theorem sm_pl {q : Nat} {A M : Tab} (h : Sm q A M) : ∃ N L, Pl q N A M L := by
  obtain ⟨hs, h7, h2⟩ := h
  cases hs
  · exact ⟨_, _, pl2⟩
  · exact ⟨_, _, pl3⟩
  · exact ⟨_, _, pl4⟩
  · exact ⟨_, _, pl5⟩
  · exact ⟨_, _, pl7⟩
  · omega
  · omega
theorem plane_q (q : Int) : (∃ z N A M L, q = ((z : Nat) : Int) ∧ Pl z N A M L ∧ wrongR q = 0) ∨ wrongR q ≠ 0 := by
  rcases cases_q q with ⟨z, A, M, h, hs, h0⟩ | ⟨z, A, M, rfl, hs, h8, h9, hw⟩ | ⟨hn, hw⟩
  · obtain ⟨N, L, hP⟩ := sm_pl hs
    exact .inl ⟨z, N, A, M, L, h, hP, h0⟩
  · exact .inr (by rw [hw]; omega)
  · exact .inr (by rw [hw]; omega)
theorem planeErrors_exec (T : En E Y) (q a b : Int) (m : FM) (n : Nat) :
    Pure (callW PG E Y 8 [.int .i64 q, .int .i64 a, .int .i64 b] m n) m n (.bool true) := by
  refine pure_spec T.e8 rfl rfl ?_
  simp only [ac8]
  simp (implicitDefEqProofs := false) (disch := omega) only [WPs, opds, List.all_cons, List.all_nil, List.cons_append, List.nil_append, cond_true, cond_false, eq_self, List.map_cons, List.map_nil, Nat.reduceAdd, Nat.testBit, Nat.reduceShiftRight, Nat.reduceAnd, Nat.reduceBNe, Nat.reduceMul]
  refine use_pure (T.aw _ _) fun _ => ?_
  rcases plane_q q with ⟨z, N, A, M, L, rfl, hP, h0⟩ | hw
  · have hqq : z * z ≤ 7 * 7 := Nat.mul_le_mul hP.sm.le hP.sm.le
    have hz7 := hP.sm.le
    have hn := hP.n
    have hln := hP.ln
    simp (implicitDefEqProofs := false) (disch := omega) only [WPs, opds, List.all_cons, List.all_nil, List.cons_append, List.nil_append, cond_true, cond_false, eq_self, List.map_cons, List.map_nil, Nat.reduceAdd, Nat.testBit, Nat.reduceShiftRight, Nat.reduceAnd, Nat.reduceBNe, Nat.reduceMul]
    refine use_pure (meet_good T hP.sm _ _ _ _) fun _ => ?_
    simp (implicitDefEqProofs := false) (disch := omega) only [WPs, opds, List.all_cons, List.all_nil, List.cons_append, List.nil_append, cond_true, cond_false, eq_self, List.map_cons, List.map_nil, Nat.reduceAdd, Nat.testBit, Nat.reduceShiftRight, Nat.reduceAnd, Nat.reduceBNe, Nat.reduceMul]
    refine use_pure (join_good T hP.sm _ _ _ _) fun _ => ?_
    simp (implicitDefEqProofs := false) (disch := omega) only [WPs, opds, List.all_cons, List.all_nil, List.cons_append, List.nil_append, cond_true, cond_false, eq_self, List.map_cons, List.map_nil, Nat.reduceAdd, Nat.testBit, Nat.reduceShiftRight, Nat.reduceAnd, Nat.reduceBNe, Nat.reduceMul]
    refine use_pure (wrong_spec T _ _ _) fun _ => ?_
    rw [h0]
    unfold comE
    rw [hln]
    by_cases ca : a < 0
    · rw [if_pos (.inl ca)]
      simp (implicitDefEqProofs := false) (disch := omega) only [WPs, opds, List.all_cons, List.all_nil, List.cons_append, List.nil_append, cond_true, cond_false, eq_self, List.map_cons, List.map_nil, Nat.reduceAdd, Nat.testBit, Nat.reduceShiftRight, Nat.reduceAnd, Nat.reduceBNe, Nat.reduceMul, decide_eq_true ca]
    by_cases ca2 : a > ((z * z + z : Nat) : Int)
    · rw [if_pos (.inr (.inl (by omega)))]
      simp (implicitDefEqProofs := false) (disch := omega) only [WPs, opds, List.all_cons, List.all_nil, List.cons_append, List.nil_append, cond_true, cond_false, eq_self, List.map_cons, List.map_nil, Nat.reduceAdd, Nat.testBit, Nat.reduceShiftRight, Nat.reduceAnd, Nat.reduceBNe, Nat.reduceMul, decide_eq_false ca, decide_eq_true ca2]
    by_cases cb : b < 0
    · rw [if_pos (.inr (.inr (.inl cb)))]
      simp (implicitDefEqProofs := false) (disch := omega) only [WPs, opds, List.all_cons, List.all_nil, List.cons_append, List.nil_append, cond_true, cond_false, eq_self, List.map_cons, List.map_nil, Nat.reduceAdd, Nat.testBit, Nat.reduceShiftRight, Nat.reduceAnd, Nat.reduceBNe, Nat.reduceMul, decide_eq_false ca, decide_eq_false ca2, decide_eq_true cb]
    by_cases cb2 : b > ((z * z + z : Nat) : Int)
    · rw [if_pos (.inr (.inr (.inr (by omega))))]
      simp (implicitDefEqProofs := false) (disch := omega) only [WPs, opds, List.all_cons, List.all_nil, List.cons_append, List.nil_append, cond_true, cond_false, eq_self, List.map_cons, List.map_nil, Nat.reduceAdd, Nat.testBit, Nat.reduceShiftRight, Nat.reduceAnd, Nat.reduceBNe, Nat.reduceMul, decide_eq_false ca, decide_eq_false ca2, decide_eq_false cb, decide_eq_true cb2]
    rw [if_neg (by omega)]
    by_cases hab : a = b
    · rw [if_pos hab]
      simp (implicitDefEqProofs := false) (disch := omega) only [WPs, opds, List.all_cons, List.all_nil, List.cons_append, List.nil_append, cond_true, cond_false, eq_self, List.map_cons, List.map_nil, Nat.reduceAdd, Nat.testBit, Nat.reduceShiftRight, Nat.reduceAnd, Nat.reduceBNe, Nat.reduceMul, decide_eq_false ca, decide_eq_false ca2, decide_eq_false cb, decide_eq_false cb2, decide_eq_true hab]
    rw [if_neg hab]
    obtain ⟨p1, p2⟩ := posP_lt (crossP A M ((ptsR z M).getD a.toNat p0) ((ptsR z M).getD b.toNat p0)) (ptsR z M) 0
    rw [hln] at p2
    generalize posP (crossP A M ((ptsR z M).getD a.toNat p0) ((ptsR z M).getD b.toNat p0)) (ptsR z M) 0 = c at *
    obtain ⟨c, rfl⟩ := Int.eq_ofNat_of_zero_le p1
    simp (implicitDefEqProofs := false) (disch := omega) only [WPs, opds, List.all_cons, List.all_nil, List.cons_append, List.nil_append, cond_true, cond_false, eq_self, List.map_cons, List.map_nil, Nat.reduceAdd, Nat.testBit, Nat.reduceShiftRight, Nat.reduceAnd, Nat.reduceBNe, Nat.reduceMul, decide_eq_false ca, decide_eq_false ca2, decide_eq_false cb, decide_eq_false cb2, decide_eq_false hab]
  · simp (implicitDefEqProofs := false) (disch := omega) only [WPs, opds, List.all_cons, List.all_nil, List.cons_append, List.nil_append, cond_true, cond_false, eq_self, List.map_cons, List.map_nil, Nat.reduceAdd, Nat.testBit, Nat.reduceShiftRight, Nat.reduceAnd, Nat.reduceBNe, Nat.reduceMul]
    refine use_pure (meet_wrong T hw _ _ _ _) fun _ => ?_
    simp (implicitDefEqProofs := false) (disch := omega) only [WPs, opds, List.all_cons, List.all_nil, List.cons_append, List.nil_append, cond_true, cond_false, eq_self, List.map_cons, List.map_nil, Nat.reduceAdd, Nat.testBit, Nat.reduceShiftRight, Nat.reduceAnd, Nat.reduceBNe, Nat.reduceMul]
    refine use_pure (join_wrong T hw _ _ _ _) fun _ => ?_
    simp (implicitDefEqProofs := false) (disch := omega) only [WPs, opds, List.all_cons, List.all_nil, List.cons_append, List.nil_append, cond_true, cond_false, eq_self, List.map_cons, List.map_nil, Nat.reduceAdd, Nat.testBit, Nat.reduceShiftRight, Nat.reduceAnd, Nat.reduceBNe, Nat.reduceMul]
    refine use_pure (wrong_spec T _ _ _) fun _ => ?_
    generalize wrongR q = er at *
    simp (implicitDefEqProofs := false) (disch := omega) only [WPs, opds, List.all_cons, List.all_nil, List.cons_append, List.nil_append, cond_true, cond_false, eq_self, List.map_cons, List.map_nil, Nat.reduceAdd, Nat.testBit, Nat.reduceShiftRight, Nat.reduceAnd, Nat.reduceBNe, Nat.reduceMul, decide_eq_false hw]
end Go.Am.C06
namespace Go.Am.C06
open Go Go.Am
variable {E : Nat → Option AFn} {Y : Nat → List Value → FM → Nat → OR FM}
def jnL (L : List (List Int)) (a b : Int) (j : Nat) : List Int := ((List.range j).filter fun g => decide (a ∈ L.getD g []) && decide (b ∈ L.getD g [])).map fun g => ((g : Nat) : Int)
theorem jnL_succ (L : List (List Int)) (a b : Int) (j : Nat) : jnL L a b (j + 1) = jnL L a b j ++ (if a ∈ L.getD j [] ∧ b ∈ L.getD j [] then [(j : Int)] else []) := by
  unfold jnL
  rw [List.range_succ, List.filter_append, List.map_append]
  congr 1
  by_cases h1 : a ∈ L.getD j []
  · by_cases h2 : b ∈ L.getD j []
    · rw [if_pos ⟨h1, h2⟩, List.filter_cons, decide_eq_true h1, decide_eq_true h2]; rfl
    · rw [if_neg fun h => h2 h.2, List.filter_cons, decide_eq_true h1, decide_eq_false h2]; rfl
  · rw [if_neg fun h => h1 h.1, List.filter_cons, decide_eq_false h1]; rfl
theorem jnL_len (L : List (List Int)) (a b : Int) (j : Nat) : (jnL L a b j).length ≤ j := by
  unfold jnL
  rw [List.length_map]
  exact Nat.le_trans (List.length_filter_le _ _) (Nat.le_of_eq List.length_range)
theorem join_L0 (h21 : E 21 = some ac21) {m : FM} {n db : Nat} {D : Int} {rv : Value} {L : List (List Int)} (hR : Rows m n rv L) (hdb : db < n) (hd : m db = some (.cells [.int .i64 D, rv] 0 false true)) (hs : L.length < 1000000) (hs2 : ∀ r ∈ L, r.length < 1000000) (a b : Int) (y2 y3 y6 : Value) (ys : List Value) {Q : AX → List Value → FM → Nat → Nat → Prop}
    (hQ : ∀ gv M' N' w, n ≤ N' → (∀ b, b < n → M' b = m b) → IntZ M' n N' gv (jnL L a b L.length) → (∀ j, j ≤ n → Nat.mod w (bit j) = 0) → Q (.exit 0) (gv :: y2 :: y3 :: .int .i64 b :: .int .i64 a :: y6 :: .pointer (some ⟨db, 0, none⟩) :: ys) M' N' w) :
    ∀ d j, j + d = L.length → ∀ (M' : FM) (N' w0 : Nat) (gv : Value), n ≤ N' → (∀ b, b < n → M' b = m b) → IntZ M' n N' gv (jnL L a b j) → (∀ j, j ≤ n → Nat.mod w0 (bit j) = 0) →
    Gv (execW PG E Y ac9L0 (gv :: .int .i64 (j : Int) :: y2 :: y3 :: .int .i64 b :: .int .i64 a :: y6 :: .pointer (some ⟨db, 0, none⟩) :: ys) M' N') fun X e m n w => Q X e m n (Nat.lor w0 w) := by
  intro d
  induction d with
  | zero =>
    intro j hj M' N' w0 gv hN hM hZ hw
    obtain rfl : j = L.length := by omega
    have hR' := hR.frame hN hM
    have hd' : M' db = some (.cells [.int .i64 D, rv] 0 false true) := (hM db hdb).trans hd
    refine wr_loopN (L := ac9L0) (b := ac9L0b) rfl ?_
    simp only [ac9L0b]
    simp (implicitDefEqProofs := false) (disch := omega) only [WPs, opds, List.all_cons, List.all_nil, List.cons_append, List.nil_append, cond_true, cond_false, eq_self, List.map_cons, List.map_nil, Nat.reduceAdd, Nat.testBit, Nat.reduceShiftRight, Nat.reduceAnd, Nat.reduceBNe, Nat.reduceMul, hR.len, hd', hR.bel N' hN]
    exact hQ _ _ _ _ hN hM hZ hw
  | succ d ih =>
    intro j hj M' N' w0 gv hN hM hZ hw
    have hjl : j < L.length := by omega
    have ih' := ih (j + 1) (by omega)
    have hR' := hR.frame hN hM
    have hd' : M' db = some (.cells [.int .i64 D, rv] 0 false true) := (hM db hdb).trans hd
    obtain ⟨bx, o, c, p, w, x, i1, i2, i3, i4, i5⟩ := hR'.cell hjl
    have hll := jnL_len L a b j
    rw [jnL_succ] at ih'
    have hg : L.getD j [] = L[j] := by rw [List.getD_eq_getElem?_getD, List.getElem?_eq_getElem hjl]; rfl
    rw [hg] at ih'
    have hrl := hs2 _ (List.getElem_mem hjl)
    refine wr_loopN (L := ac9L0) (b := ac9L0b) rfl ?_
    simp only [ac9L0b]
    generalize L[j] = r at *
    have hbel := hR.bel N' hN
    have ibel := i5.bel N' (Nat.le_refl _)
    simp (implicitDefEqProofs := false) (disch := omega) only [WPs, opds, List.all_cons, List.all_nil, List.cons_append, List.nil_append, cond_true, cond_false, eq_self, List.map_cons, List.map_nil, Nat.reduceAdd, Nat.testBit, Nat.reduceShiftRight, Nat.reduceAnd, Nat.reduceBNe, Nat.reduceMul, hR.len, hd', hbel, i1, i3, i4, ibel]
    refine use_pure (hasR_spec h21 i5 hrl a) fun _ => ?_
    by_cases hx : a ∈ r
    · simp (implicitDefEqProofs := false) (disch := omega) only [WPs, opds, List.all_cons, List.all_nil, List.cons_append, List.nil_append, cond_true, cond_false, eq_self, List.map_cons, List.map_nil, Nat.reduceAdd, Nat.testBit, Nat.reduceShiftRight, Nat.reduceAnd, Nat.reduceBNe, Nat.reduceMul, decide_eq_true hx, hd', hbel, i1, i3, i4, ibel]
      refine use_pure (hasR_spec h21 i5 hrl b) fun _ => ?_
      by_cases hy : b ∈ r
      · rw [if_pos ⟨hx, hy⟩] at ih'
        simp (implicitDefEqProofs := false) (disch := omega) only [WPs, opds, List.all_cons, List.all_nil, List.cons_append, List.nil_append, cond_true, cond_false, eq_self, List.map_cons, List.map_nil, Nat.reduceAdd, Nat.testBit, Nat.reduceShiftRight, Nat.reduceAnd, Nat.reduceBNe, Nat.reduceMul, decide_eq_true hy, hd', hbel, i1, i3, i4, ibel]
        refine use_rt (app_intZ (IntZ.frame hZ (by omega) fun b _ hb => by rw [fput_ne _ _ _ _ (by omega)]) (j : Int) (some ⟨N', 0, none⟩) 1 (bit N') (by omega) (by omega)) fun v5 M5 N5 r5 w5 ⟨e5, z5, l5, f5⟩ => ?_
        subst e5
        simp (implicitDefEqProofs := false) (disch := omega) only [WPs, opds, List.all_cons, List.all_nil, List.cons_append, List.nil_append, cond_true, cond_false, eq_self, List.map_cons, List.map_nil, Nat.reduceAdd, Nat.testBit, Nat.reduceShiftRight, Nat.reduceAnd, Nat.reduceBNe, Nat.reduceMul]
        refine wr_end (ih' _ (N' + 2) (Nat.lor w0 (Nat.lor (bit N') w5)) v5 (by omega) (fun b hb => by rw [l5 b hb, fput_ne _ _ _ _ (by omega)]; exact hM b hb) z5 (fun j hj => by simp only [frz_iff]; exact ⟨hw j hj, frz_bit (by omega), f5 j hj⟩)) fun X e m n w hq => ?_
        rw [← lor_assoc']; exact hq
      · rw [if_neg fun h => hy h.2, List.append_nil] at ih'
        simp (implicitDefEqProofs := false) (disch := omega) only [WPs, opds, List.all_cons, List.all_nil, List.cons_append, List.nil_append, cond_true, cond_false, eq_self, List.map_cons, List.map_nil, Nat.reduceAdd, Nat.testBit, Nat.reduceShiftRight, Nat.reduceAnd, Nat.reduceBNe, Nat.reduceMul, decide_eq_false hy]
        exact wr_end (ih' M' N' w0 gv hN hM hZ hw) fun X e m n w hq => by simpa only [zero_lor'] using hq
    · rw [if_neg fun h => hx h.1, List.append_nil] at ih'
      simp (implicitDefEqProofs := false) (disch := omega) only [WPs, opds, List.all_cons, List.all_nil, List.cons_append, List.nil_append, cond_true, cond_false, eq_self, List.map_cons, List.map_nil, Nat.reduceAdd, Nat.testBit, Nat.reduceShiftRight, Nat.reduceAnd, Nat.reduceBNe, Nat.reduceMul, decide_eq_false hx]
      exact wr_end (ih' M' N' w0 gv hN hM hZ hw) fun X e m n w hq => by simpa only [zero_lor'] using hq
theorem Pl.jn {q N : Nat} {A M : Tab} {L : List (List Int)} (h : Pl q N A M L) (hF : okF N L = true) {a b : Nat} (ha : a < N) (hb : b < N) : jnL L a b N = comR (L.getD a []) (L.getD b []) := by
  have hf := filt_of (q := q) (A := A) (M := M) hF ha
  unfold jnL comR
  conv => rhs; rw [← hf, List.filter_map, List.filter_map, List.filter_filter]
  congr 1
  apply List.filter_congr
  intro g hg
  rw [List.mem_range] at hg
  show _ = (decide (((g : Nat) : Int) ∈ L.getD b []) && decide (((g : Nat) : Int) ∈ L.getD a []))
  rw [Bool.and_comm, decide_eq_decide.2 (h.sym g a hg ha), decide_eq_decide.2 (h.sym g b hg hb)]
theorem comR_self (a : List Int) : comR a a = a := by
  unfold comR
  exact List.filter_eq_self.2 fun x hx => decide_eq_true hx
theorem planeJoin_exec (T : En E Y) {z i k q N : Nat} {A M : Tab} {L : List (List Int)} (hz : z < 256) (hi : i < 256) (hk : k < 256) (hq : sizeN z = q) (hP : Pl q N A M L) (hF : okF N L = true) (m : FM) (n : Nat) :
    Pure (callW PG E Y 9 [.int .u8 (z : Int), .int .u8 (i : Int), .int .u8 (k : Int)] m n) m n (.bool true) := by
  refine pure_spec T.e9 rfl rfl ?_
  simp only [ac9]
  obtain ⟨hN57, hN0⟩ := hP.small
  simp (implicitDefEqProofs := false) (disch := omega) only [WPs, opds, List.all_cons, List.all_nil, List.cons_append, List.nil_append, cond_true, cond_false, eq_self, List.map_cons, List.map_nil, Nat.reduceAdd, Nat.testBit, Nat.reduceShiftRight, Nat.reduceAnd, Nat.reduceBNe, Nat.reduceMul]
  refine use_pure (T.aw _ _) fun _ => ?_
  simp (implicitDefEqProofs := false) (disch := omega) only [WPs, opds, List.all_cons, List.all_nil, List.cons_append, List.nil_append, cond_true, cond_false, eq_self, List.map_cons, List.map_nil, Nat.reduceAdd, Nat.testBit, Nat.reduceShiftRight, Nat.reduceAnd, Nat.reduceBNe, Nat.reduceMul]
  refine use_pure (size_spec T _ _ hz) fun _ => ?_
  rw [hq]
  simp (implicitDefEqProofs := false) (disch := omega) only [WPs, opds, List.all_cons, List.all_nil, List.cons_append, List.nil_append, cond_true, cond_false, eq_self, List.map_cons, List.map_nil, Nat.reduceAdd, Nat.testBit, Nat.reduceShiftRight, Nat.reduceAnd, Nat.reduceBNe, Nat.reduceMul]
  refine use_rt (hP.proj T _ _) fun v M1 N1 r1 w1 ⟨n1, m1, f1, rv, hv, hR⟩ => ?_
  subst hv
  have hone := hR.one
  simp (implicitDefEqProofs := false) (disch := omega) only [WPs, opds, List.all_cons, List.all_nil, List.cons_append, List.nil_append, cond_true, cond_false, eq_self, List.map_cons, List.map_nil, Nat.reduceAdd, Nat.testBit, Nat.reduceShiftRight, Nat.reduceAnd, Nat.reduceBNe, Nat.reduceMul, hone]
  generalize hM2 : (AMem.put M1 N1 (some (.cells [.int .i64 (N : Int), rv] 0 false true)) : FM) = M2
  have d2 : M2 N1 = some (.cells [.int .i64 (N : Int), rv] 0 false true) := by rw [← hM2]; exact fput_same _ _ _
  have hR2 : Rows M2 (N1 + 1) rv L := hR.rows.frame (by omega) fun b hb => by rw [← hM2, fput_ne _ _ _ _ (by omega)]
  have hlen := hR2.len
  rw [hP.lN] at hlen
  have hLN := hP.lN
  have hqq : q * q ≤ 7 * 7 := Nat.mul_le_mul hP.sm.le hP.sm.le
  have hq7 := hP.sm.le
  have hn := hP.n
  have hn' : (q : Int) * (q : Int) + (q : Int) + 1 = (N : Int) := by rw [hn]; push_cast; rfl
  have fzn := f1 n (Nat.le_refl _)
  have fza : Nat.mod (bit N1) (bit n) = 0 := frz_bit (by omega)
  have ha : i % N < N := Nat.mod_lt _ hN0
  have hb : k % N < N := Nat.mod_lt _ hN0
  have hri : binV PG .rem 3 (.int .i64 (i : Int)) (.int .i64 (N : Int)) = some (.int .i64 ((i % N : Nat) : Int)) := binV_rem_nat (by omega)
  have hrk : binV PG .rem 3 (.int .i64 (k : Int)) (.int .i64 (N : Int)) = some (.int .i64 ((k % N : Nat) : Int)) := binV_rem_nat (by omega)
  generalize i % N = a at *
  generalize k % N = b at *
  obtain ⟨ra, la1, la2, la3⟩ := hP.row a ha
  have ga : L.getD a [] = ra := by rw [List.getD_eq_getElem?_getD, la1]; rfl
  have hbel := hR2.bel (N1 + 1) (Nat.le_refl _)
  have hjn := hP.jn hF ha hb
  rw [← hLN] at hjn
  simp (implicitDefEqProofs := false) (disch := omega) only [WPs, opds, List.all_cons, List.all_nil, List.cons_append, List.nil_append, cond_true, cond_false, eq_self, List.map_cons, List.map_nil, Nat.reduceAdd, Nat.testBit, Nat.reduceShiftRight, Nat.reduceAnd, Nat.reduceBNe, Nat.reduceMul, d2, hlen, hbel, conv_u8 hi, conv_u8 hk, hri, hrk]
  refine wr_kont (join_L0 T.e21 hR2 (Nat.lt_succ_self _) d2 (by omega) (fun r hr => ?_) (a : Int) (b : Int) _ _ _ _ (fun gv M3 N3 w3 hN hM hZ hw rr => ?_) L.length 0 (by omega) M2 (N1 + 1) 0 _ (Nat.le_refl _) (fun _ _ => rfl) (IntZ.nil _ _ _) (fun _ _ => Nat.zero_mod _))
  · obtain ⟨i', hi', rfl⟩ := List.getElem_of_mem hr
    obtain ⟨r', h1, h2, _⟩ := hP.row i' (by omega)
    rw [(List.getElem?_eq_some_iff.1 h1).2]; omega
  rw [hjn] at hZ
  have hl := hZ.ints.len
  have fz3 := hw n (by omega)
  by_cases hab : a = b
  · subst hab
    rw [comR_self, ga, la2] at hl
    simp (implicitDefEqProofs := false) (disch := omega) only [WPs, opds, List.all_cons, List.all_nil, List.cons_append, List.nil_append, cond_true, cond_false, eq_self, List.map_cons, List.map_nil, Nat.reduceAdd, Nat.testBit, Nat.reduceShiftRight, Nat.reduceAnd, Nat.reduceBNe, Nat.reduceMul, hl]
    simp only [frz_iff, fzn, fza, fz3, and_self]
  have hab' : ¬ (a : Int) = (b : Int) := by omega
  have hm := hP.meet a b ha hb hab
  have hc2 := hP.com ha hb hab
  rw [hm] at hZ
  simp (implicitDefEqProofs := false) (disch := omega) only [WPs, opds, List.all_cons, List.all_nil, List.cons_append, List.nil_append, cond_true, cond_false, eq_self, List.map_cons, List.map_nil, Nat.reduceAdd, Nat.testBit, Nat.reduceShiftRight, Nat.reduceAnd, Nat.reduceBNe, Nat.reduceMul, decide_eq_false hab']
  refine use_pure (join_good T hP.sm _ _ _ _) fun _ => ?_
  rw [hc2]
  have hIs := hZ.ints
  have hl1 := hIs.len
  obtain ⟨bx, ox, cx, opx, wrx, ix1, ix2, ix3, ix4⟩ := hIs.cell (i := 0) (by show 0 < 1; omega)
  generalize (comE A M (ptsR q M) (a : Int) (b : Int)).1 = c at *
  have hl1' : lenV false gv = some (.int .i64 1) := hl1
  have ix4' : cget cx ox = some (.int .i64 c) := ix4
  simp (implicitDefEqProofs := false) (disch := omega) only [WPs, opds, List.all_cons, List.all_nil, List.cons_append, List.nil_append, cond_true, cond_false, eq_self, List.map_cons, List.map_nil, Nat.reduceAdd, Nat.testBit, Nat.reduceShiftRight, Nat.reduceAnd, Nat.reduceBNe, Nat.reduceMul, hl1', ix1, ix3, ix4']
  simp only [frz_iff, fzn, fza, fz3, and_self]
end Go.Am.C06
namespace Go.Am.C06
open Go Go.Am Go.Am.V
set_option maxRecDepth 1000000
theorem calls_of {f : Nat} {args : List Value} (hrun : ∀ m n, Pure (callW PG (look tabC) YC f args m n) m n (.bool true)) (hf : args.all addrFree = true) (w : World) :
    Calls Proofs.Try.prog f args.toArray w fun e w' => e = .returned (.bool true) ∧ RowKit.Below w.heap.size w w' := by
  obtain ⟨r, hr⟩ := hrun FM0 0
  obtain ⟨k, hk⟩ := callW_some hr
  exact envC.topA (free_args hf) hk w
theorem planeMeet_calls (z : Nat) (hz : z < 256) (i : Nat) (hi : i < 256) (k : Nat) (hk : k < 256) (w : World) : Calls Proofs.Try.prog 5 #[.int .u8 z, .int .u8 i, .int .u8 k] w fun e w' => e = .returned (.bool true) ∧ RowKit.Below w.heap.size w w' := by
  obtain ⟨q, N, A, M, L, hq, hP⟩ := size_pl z
  exact calls_of (args := [.int .u8 z, .int .u8 i, .int .u8 k]) (fun m n => planeMeet_exec enC hz hi hk hq hP m n) rfl w
theorem planeDual_calls (z : Nat) (hz : z < 256) (i : Nat) (hi : i < 256) (k : Nat) (hk : k < 256) (w : World) : Calls Proofs.Try.prog 10 #[.int .u8 z, .int .u8 i, .int .u8 k] w fun e w' => e = .returned (.bool true) ∧ RowKit.Below w.heap.size w w' := by
  obtain ⟨q, N, A, M, L, hq, hP⟩ := size_pl z
  exact calls_of (args := [.int .u8 z, .int .u8 i, .int .u8 k]) (fun m n => planeDual_exec enC hz hi hk hq hP m n) rfl w
theorem size_okf {z q N : Nat} {A M : Tab} {L : List (List Int)} (hP : Pl q N A M L) : okF N L = true := by
  have hsm := hP.sm.size
  have h7 := hP.sm.le
  have h1 := hP.pr
  have h2 := hP.n
  cases hsm
  · rw [pts2, proj2] at h1; subst h1; subst h2; exact okf2
  · rw [pts3, proj3] at h1; subst h1; subst h2; exact okf3
  · rw [pts4, proj4] at h1; subst h1; subst h2; exact okf4
  · rw [pts5, proj5] at h1; subst h1; subst h2; exact okf5
  · rw [pts7, proj7] at h1; subst h1; subst h2; exact okf7
  · omega
  · omega
theorem planeJoin_calls (z : Nat) (hz : z < 256) (i : Nat) (hi : i < 256) (k : Nat) (hk : k < 256) (w : World) : Calls Proofs.Try.prog 9 #[.int .u8 z, .int .u8 i, .int .u8 k] w fun e w' => e = .returned (.bool true) ∧ RowKit.Below w.heap.size w w' := by
  obtain ⟨q, N, A, M, L, hq, hP⟩ := size_pl z
  exact calls_of (args := [.int .u8 z, .int .u8 i, .int .u8 k]) (fun m n => planeJoin_exec enC hz hi hk hq hP (size_okf (z := z) hP) m n) rfl w
theorem planeErrors_calls (q a b : Int) (w : World) : Calls Proofs.Try.prog 8 #[.int .i64 q, .int .i64 a, .int .i64 b] w fun e w' => e = .returned (.bool true) ∧ RowKit.Below w.heap.size w w' :=
  calls_of (args := [.int .i64 q, .int .i64 a, .int .i64 b]) (fun m n => planeErrors_exec enC q a b m n) rfl w
end Go.Am.C06
namespace Go.Am
open Go Go.RowKit Go.ChangeShapes
theorem post_below {H : Type} {enc : TypeId × Value → H} {P : Program} {f : Func} {s : ChangeSpec} {apart fresh handsOn again : Bool} {W W' : World} {args : Array Value} {v : Value} {ds gs : List (DataW H)} {before pa pv : List MemPlace}
    (hW : DataW.Whole enc P f.params.toList s.vars apart W args.toList ds gs before)
    (hres : ∀ (b : Nat) (sp : Nat → Bool) (hd : Bool), DataW.TrodAll enc P W' b sp hd f.resultTypes.toList (v.resultList f.resultTypes.size) (s.fn H (ds ++ gs)).results [])
    (hargs : ∀ sp : Nat → Bool, (∀ p ∈ before, sp p.block = true) → DataW.TrodAll enc P W' 0 sp true f.params.toList args.toList (s.fn H (ds ++ gs)).args pa)
    (hvars : ∀ sp : Nat → Bool, (∀ p ∈ before, sp p.block = true) → DataW.TrodVars enc P W' sp s.vars (s.fn H (ds ++ gs)).vars pv)
    (hps : before = pa ++ pv) (hb : Below W.heap.size W W')
    (hok : ∀ (j : Nat) (t : TypeId) (r : Value), f.resultTypes[j]? = some t → (v.resultList f.resultTypes.size)[j]? = some r → Value.okWide P W' .any 0 t r) :
    s.post enc P f apart fresh handsOn again W args v W' := by
  have hlt := hW.lt
  obtain ⟨_, _, _, _, _, hz, hn⟩ := id hW
  refine ⟨ds, gs, before, [], pa, pv, hW, hres _ _ _, hargs _ fun p hp => by simpa using hlt p hp, hvars _ fun p hp => by simpa using hlt p hp, World.keptBut_mono (fun p hp => ⟨hp, ?_⟩) (hb.frame (· ∈ before)), fun _ => ⟨hok, _, _, ([] ++ pa) ++ pv, ⟨[] ++ pa, pv, trodAll_append (hargs _ fun _ _ => rfl) (hres _ _ _), hvars _ fun _ _ => rfl, rfl, fun b off hp => ?_, fun ha => ?_⟩, fun p hp _ => ?_⟩⟩
  · rw [hps, List.mem_append] at hp; exact .inr hp
  · have hm : MemPlace.cell b off ∈ before := by rw [hps]; simpa using hp
    rw [hb.frozen (p := ⟨b, off, none⟩) (hlt _ hm)]
    exact hz b off hm
  · have := hn ha
    rw [hps] at this
    simpa using this
  · rw [hps]; simpa using hp
end Go.Am
