/- The machine and its runs, part 16: Am07sl Am07sn Am07so AmPost. -/
import Derived.ProofKit
import Derived.Test.YtfkbmdhlopkfnaaB15
set_option linter.unusedVariables false
set_option linter.unusedSimpArgs false
set_option linter.unusedSectionVars false
namespace Go.Am.C07
open Go Go.Am
set_option maxRecDepth 1000000
def smallL (gs : List (List Int)) : Bool := decide (gs.length < 1000) && gs.all fun g => decide (g.length < 1000)
theorem smallL_out {gs : List (List Int)} (h : smallL gs = true) : gs.length < 1000000 ∧ ∀ g ∈ gs, g.length < 1000000 := by
  unfold smallL at h
  simp only [Bool.and_eq_true, List.all_eq_true, decide_eq_true_eq] at h
  exact ⟨by omega, fun g hg => by have := h.2 g hg; omega⟩
theorem proj_small {q : Nat} {A M : Tab} (hs : Sm q A M) : smallL (projR A M (ptsR q M)) = true := by
  obtain ⟨hs, h7, h2⟩ := hs
  cases hs
  · decide +kernel
  · decide +kernel
  · decide +kernel
  · decide +kernel
  · decide +kernel
  · omega
  · omega
theorem aff_small {q : Nat} {A M : Tab} (hs : Sm q A M) : smallL (affR A M q) = true := by
  obtain ⟨hs, h7, h2⟩ := hs
  cases hs
  · decide +kernel
  · decide +kernel
  · decide +kernel
  · decide +kernel
  · decide +kernel
  · omega
  · omega
theorem sm3 : Sm 3 A3 T3 := ⟨.s3, by omega, by omega⟩
theorem sm4 : Sm 4 A4 T4 := ⟨.s4, by omega, by omega⟩
theorem sm5 : Sm 5 A5 T5 := ⟨.s5, by omega, by omega⟩
theorem sm7 : Sm 7 A7 T7 := ⟨.s7, by omega, by omega⟩
def hasN (a : Nat) (g : List Nat) : Bool := g.any fun x => Nat.beq a x
def incN (D : Nat) : Nat → List Nat → Bool
  | _, [] => true
  | lo, a :: s => Nat.ble lo a && Nat.blt a D && incN D (a + 1) s
def balL (D w r : Nat) (gs : List (List Nat)) : Bool :=
  gs.all (fun g => Nat.beq g.length w && incN D 0 g) && (List.range D).all fun a => (fun sub : List (List Nat) => Nat.beq sub.length r && (List.range D).all fun b => Nat.beq a b || Nat.beq (sub.filter (hasN b)).length 1) (gs.filter (hasN a))
def toI (g : List Nat) : List Int := g.map fun (x : Nat) => (x : Int)
theorem toI_len (g : List Nat) : (toI g).length = g.length := List.length_map _
theorem hasN_mem (a : Nat) (g : List Nat) : hasN a g = decide ((a : Int) ∈ toI g) := by
  rw [Bool.eq_iff_iff]
  unfold hasN toI
  simp only [List.any_eq_true, decide_eq_true_eq, List.mem_map]
  constructor
  · rintro ⟨x, h1, h2⟩
    exact ⟨x, h1, by rw [Nat.eq_of_beq_eq_true h2]⟩
  · rintro ⟨x, h1, h2⟩
    exact ⟨x, h1, by rw [show x = a by omega]; exact Nat.beq_refl a⟩
theorem incN_inc {D : Nat} : ∀ {lo : Nat} {g : List Nat}, incN D lo g = true → Inc (D : Int) (lo : Int) (toI g)
  | _, [], _ => trivial
  | lo, a :: s, h => by
    simp only [incN, Bool.and_eq_true] at h
    obtain ⟨⟨h1, h2⟩, h3⟩ := h
    have k1 := Nat.le_of_ble_eq_true h1
    have k2 : a < D := Nat.le_of_ble_eq_true h2
    refine ⟨?_, ?_, incN_inc h3⟩
    · show (lo : Int) ≤ (a : Int); omega
    · show (a : Int) < (D : Int); omega
theorem shC_toI (gs : List (List Nat)) (a b : Nat) : shC (gs.map toI) a b = ((gs.filter (hasN a)).filter (hasN b)).length := by
  unfold shC
  rw [List.filter_map, List.length_map, List.filter_filter]
  congr 1
  apply List.filter_congr
  intro x _
  show shQ a b (toI x) = _
  unfold shQ
  rw [hasN_mem, hasN_mem, Bool.and_comm]
theorem balL_out {D w r : Nat} {gs : List (List Nat)} (h : balL D w r gs = true) :
    Fm D w (gs.map toI) ∧ (∀ a : Nat, a < D → shC (gs.map toI) a a = r) ∧ (∀ a b : Nat, a < D → b < D → a ≠ b → shC (gs.map toI) a b = 1) := by
  unfold balL at h
  rw [Bool.and_eq_true, List.all_eq_true, List.all_eq_true] at h
  obtain ⟨h1, h2⟩ := h
  refine ⟨fun g hg => ?_, fun a ha => ?_, fun a b ha hb hab => ?_⟩
  · obtain ⟨x, hx, rfl⟩ := List.mem_map.1 hg
    have := h1 x hx
    rw [Bool.and_eq_true] at this
    exact ⟨by rw [toI_len]; exact Nat.eq_of_beq_eq_true this.1, incN_inc this.2⟩
  · have := h2 a (List.mem_range.2 ha)
    rw [Bool.and_eq_true] at this
    rw [shC_toI, List.filter_filter]
    have e : (List.filter (fun x => hasN a x && hasN a x) gs) = gs.filter (hasN a) := List.filter_congr fun x _ => Bool.and_self _
    rw [e]
    exact Nat.eq_of_beq_eq_true this.1
  · have := h2 a (List.mem_range.2 ha)
    rw [Bool.and_eq_true, List.all_eq_true] at this
    have := this.2 b (List.mem_range.2 hb)
    rw [Bool.or_eq_true] at this
    rw [shC_toI]
    rcases this with hh | hh
    · exact absurd (Nat.eq_of_beq_eq_true hh) hab
    · exact Nat.eq_of_beq_eq_true hh
structure BalD (D w : Nat) (gs : List (List Int)) : Prop where
  v : ∃ r lam : Nat, K.checkV D gs = .tuple #[.int .i64 (r : Int), .int .i64 (lam : Int), .int .i64 0] ∧ gs.length * w = D * r ∧ r * (w - 1) = lam * (D - 1) ∧ 1 ≤ lam ∧ r ≤ 20000 ∧ lam ≤ 20000
  b : w = D ∨ D ≤ gs.length
  p : 0 < gs.length
  u : gs.length ≤ 4096
  l : ∀ g ∈ gs, g.length = w
theorem bal_plane {D w r : Nat} {L : List (List Nat)} {gs : List (List Int)} (e : gs = L.map toI) (hb : balL D w r L = true) (hD : 2 ≤ D) (hD2 : D ≤ 60) (hw : 2 ≤ w) (h0 : D ≤ L.length) (h1 : L.length ≤ 4096) (hr : r ≤ 20000) (e1 : L.length * w = D * r) (e2 : r * (w - 1) = 1 * (D - 1)) : BalD D w gs := by
  subst e
  obtain ⟨f1, f2, f3⟩ := balL_out hb
  have hl : (L.map toI).length = L.length := List.length_map _
  exact ⟨⟨r, 1, (check_bal f1 hD hD2 (by omega) (by omega) hw f2 f3 (by omega)).2, by rw [hl]; exact e1, e2, by omega, hr, by omega⟩, .inr (by omega), by omega, by omega, fun g hg => (f1 g hg).1⟩
def lP3 : List (List Nat) := [[1, 4, 7, 10], [0, 4, 5, 6], [3, 4, 9, 11], [2, 4, 8, 12], [0, 1, 2, 3], [1, 6, 9, 12], [1, 5, 8, 11], [0, 10, 11, 12], [3, 6, 8, 10], [2, 5, 9, 10], [0, 7, 8, 9], [2, 6, 7, 11], [3, 5, 7, 12]]
theorem eP3 : projR A3 T3 (ptsR 3 T3) = lP3.map toI := by decide +kernel
theorem bP3 : BalD 13 4 (projR A3 T3 (ptsR 3 T3)) := bal_plane eP3 (r := 4) (by decide +kernel) (by omega) (by omega) (by omega) (by decide) (by decide) (by omega) (by decide) (by decide)
def lF4 : List (List Nat) := [[0, 4, 8, 12], [1, 5, 9, 13], [2, 6, 10, 14], [3, 7, 11, 15], [0, 5, 10, 15], [1, 4, 11, 14], [2, 7, 8, 13], [3, 6, 9, 12], [0, 6, 11, 13], [1, 7, 10, 12], [2, 4, 9, 15], [3, 5, 8, 14], [0, 7, 9, 14], [1, 6, 8, 15], [2, 5, 11, 12], [3, 4, 10, 13], [0, 1, 2, 3], [4, 5, 6, 7], [8, 9, 10, 11], [12, 13, 14, 15]]
theorem eF4 : affR A4 T4 4 = lF4.map toI := by decide +kernel
theorem bF4 : BalD 16 4 (affR A4 T4 4) := bal_plane eF4 (r := 5) (by decide +kernel) (by omega) (by omega) (by omega) (by decide) (by decide) (by omega) (by decide) (by decide)
def lP4 : List (List Nat) := [[1, 5, 9, 13, 17], [0, 5, 6, 7, 8], [2, 5, 10, 15, 20], [4, 5, 12, 14, 19], [3, 5, 11, 16, 18], [0, 1, 2, 3, 4], [1, 6, 10, 14, 18], [1, 8, 12, 16, 20], [1, 7, 11, 15, 19], [0, 9, 10, 11, 12], [2, 6, 9, 16, 19], [4, 8, 9, 15, 18], [3, 7, 9, 14, 20], [0, 17, 18, 19, 20], [3, 6, 12, 15, 17], [2, 8, 11, 14, 17], [4, 7, 10, 16, 17], [0, 13, 14, 15, 16], [4, 6, 11, 13, 20], [3, 8, 10, 13, 19], [2, 7, 12, 13, 18]]
theorem eP4 : projR A4 T4 (ptsR 4 T4) = lP4.map toI := by decide +kernel
theorem bP4 : BalD 21 5 (projR A4 T4 (ptsR 4 T4)) := bal_plane eP4 (r := 5) (by decide +kernel) (by omega) (by omega) (by omega) (by decide) (by decide) (by omega) (by decide) (by decide)
def lF5 : List (List Nat) := [[0, 5, 10, 15, 20], [1, 6, 11, 16, 21], [2, 7, 12, 17, 22], [3, 8, 13, 18, 23], [4, 9, 14, 19, 24], [0, 6, 12, 18, 24], [1, 7, 13, 19, 20], [2, 8, 14, 15, 21], [3, 9, 10, 16, 22], [4, 5, 11, 17, 23], [0, 7, 14, 16, 23], [1, 8, 10, 17, 24], [2, 9, 11, 18, 20], [3, 5, 12, 19, 21], [4, 6, 13, 15, 22], [0, 8, 11, 19, 22], [1, 9, 12, 15, 23], [2, 5, 13, 16, 24], [3, 6, 14, 17, 20], [4, 7, 10, 18, 21], [0, 9, 13, 17, 21], [1, 5, 14, 18, 22], [2, 6, 10, 19, 23], [3, 7, 11, 15, 24], [4, 8, 12, 16, 20], [0, 1, 2, 3, 4], [5, 6, 7, 8, 9], [10, 11, 12, 13, 14], [15, 16, 17, 18, 19], [20, 21, 22, 23, 24]]
theorem eF5 : affR A5 T5 5 = lF5.map toI := by decide +kernel
theorem bF5 : BalD 25 5 (affR A5 T5 5) := bal_plane eF5 (r := 6) (by decide +kernel) (by omega) (by omega) (by omega) (by decide) (by decide) (by omega) (by decide) (by decide)
def lP5 : List (List Nat) := [[1, 6, 11, 16, 21, 26], [0, 6, 7, 8, 9, 10], [5, 6, 15, 19, 23, 27], [3, 6, 13, 20, 22, 29], [4, 6, 14, 17, 25, 28], [2, 6, 12, 18, 24, 30], [0, 1, 2, 3, 4, 5], [1, 10, 15, 20, 25, 30], [1, 8, 13, 18, 23, 28], [1, 9, 14, 19, 24, 29], [1, 7, 12, 17, 22, 27], [0, 26, 27, 28, 29, 30], [5, 10, 14, 18, 22, 26], [3, 8, 15, 17, 24, 26], [4, 9, 12, 20, 23, 26], [2, 7, 13, 19, 25, 26], [0, 16, 17, 18, 19, 20], [4, 10, 13, 16, 24, 27], [5, 8, 12, 16, 25, 29], [2, 9, 15, 16, 22, 28], [3, 7, 14, 16, 23, 30], [0, 21, 22, 23, 24, 25], [3, 10, 12, 19, 21, 28], [2, 8, 14, 20, 21, 27], [5, 9, 13, 17, 21, 30], [4, 7, 15, 18, 21, 29], [0, 11, 12, 13, 14, 15], [2, 10, 11, 17, 23, 29], [4, 8, 11, 19, 22, 30], [3, 9, 11, 18, 25, 27], [5, 7, 11, 20, 24, 28]]
theorem eP5 : projR A5 T5 (ptsR 5 T5) = lP5.map toI := by decide +kernel
theorem bP5 : BalD 31 6 (projR A5 T5 (ptsR 5 T5)) := bal_plane eP5 (r := 6) (by decide +kernel) (by omega) (by omega) (by omega) (by decide) (by decide) (by omega) (by decide) (by decide)
def lF7 : List (List Nat) := [[0, 7, 14, 21, 28, 35, 42], [1, 8, 15, 22, 29, 36, 43], [2, 9, 16, 23, 30, 37, 44], [3, 10, 17, 24, 31, 38, 45], [4, 11, 18, 25, 32, 39, 46], [5, 12, 19, 26, 33, 40, 47], [6, 13, 20, 27, 34, 41, 48], [0, 8, 16, 24, 32, 40, 48], [1, 9, 17, 25, 33, 41, 42], [2, 10, 18, 26, 34, 35, 43], [3, 11, 19, 27, 28, 36, 44], [4, 12, 20, 21, 29, 37, 45], [5, 13, 14, 22, 30, 38, 46], [6, 7, 15, 23, 31, 39, 47], [0, 9, 18, 27, 29, 38, 47], [1, 10, 19, 21, 30, 39, 48], [2, 11, 20, 22, 31, 40, 42], [3, 12, 14, 23, 32, 41, 43], [4, 13, 15, 24, 33, 35, 44], [5, 7, 16, 25, 34, 36, 45], [6, 8, 17, 26, 28, 37, 46], [0, 10, 20, 23, 33, 36, 46], [1, 11, 14, 24, 34, 37, 47], [2, 12, 15, 25, 28, 38, 48], [3, 13, 16, 26, 29, 39, 42], [4, 7, 17, 27, 30, 40, 43], [5, 8, 18, 21, 31, 41, 44], [6, 9, 19, 22, 32, 35, 45], [0, 11, 15, 26, 30, 41, 45], [1, 12, 16, 27, 31, 35, 46], [2, 13, 17, 21, 32, 36, 47], [3, 7, 18, 22, 33, 37, 48], [4, 8, 19, 23, 34, 38, 42], [5, 9, 20, 24, 28, 39, 43], [6, 10, 14, 25, 29, 40, 44], [0, 12, 17, 22, 34, 39, 44], [1, 13, 18, 23, 28, 40, 45], [2, 7, 19, 24, 29, 41, 46], [3, 8, 20, 25, 30, 35, 47], [4, 9, 14, 26, 31, 36, 48], [5, 10, 15, 27, 32, 37, 42], [6, 11, 16, 21, 33, 38, 43], [0, 13, 19, 25, 31, 37, 43], [1, 7, 20, 26, 32, 38, 44], [2, 8, 14, 27, 33, 39, 45], [3, 9, 15, 21, 34, 40, 46], [4, 10, 16, 22, 28, 41, 47], [5, 11, 17, 23, 29, 35, 48], [6, 12, 18, 24, 30, 36, 42], [0, 1, 2, 3, 4, 5, 6], [7, 8, 9, 10, 11, 12, 13], [14, 15, 16, 17, 18, 19, 20], [21, 22, 23, 24, 25, 26, 27], [28, 29, 30, 31, 32, 33, 34], [35, 36, 37, 38, 39, 40, 41], [42, 43, 44, 45, 46, 47, 48]]
theorem eF7 : affR A7 T7 7 = lF7.map toI := by decide +kernel
theorem bF7 : BalD 49 7 (affR A7 T7 7) := bal_plane eF7 (r := 8) (by decide +kernel) (by omega) (by omega) (by omega) (by decide) (by decide) (by omega) (by decide) (by decide)
def lP7 : List (List Nat) := [[1, 8, 15, 22, 29, 36, 43, 50], [0, 8, 9, 10, 11, 12, 13, 14], [7, 8, 21, 27, 33, 39, 45, 51], [4, 8, 18, 28, 31, 41, 44, 54], [3, 8, 17, 26, 35, 37, 46, 55], [6, 8, 20, 25, 30, 42, 47, 52], [5, 8, 19, 23, 34, 38, 49, 53], [2, 8, 16, 24, 32, 40, 48, 56], [0, 1, 2, 3, 4, 5, 6, 7], [1, 14, 21, 28, 35, 42, 49, 56], [1, 11, 18, 25, 32, 39, 46, 53], [1, 10, 17, 24, 31, 38, 45, 52], [1, 13, 20, 27, 34, 41, 48, 55], [1, 12, 19, 26, 33, 40, 47, 54], [1, 9, 16, 23, 30, 37, 44, 51], [0, 50, 51, 52, 53, 54, 55, 56], [7, 14, 20, 26, 32, 38, 44, 50], [4, 11, 21, 24, 34, 37, 47, 50], [3, 10, 19, 28, 30, 39, 48, 50], [6, 13, 18, 23, 35, 40, 45, 50], [5, 12, 16, 27, 31, 42, 46, 50], [2, 9, 17, 25, 33, 41, 49, 50], [0, 29, 30, 31, 32, 33, 34, 35], [6, 14, 19, 24, 29, 41, 46, 51], [7, 11, 17, 23, 29, 42, 48, 54], [5, 10, 21, 25, 29, 40, 44, 55], [4, 13, 16, 26, 29, 39, 49, 52], [2, 12, 20, 28, 29, 37, 45, 53], [3, 9, 18, 27, 29, 38, 47, 56], [0, 22, 23, 24, 25, 26, 27, 28], [5, 14, 18, 22, 33, 37, 48, 52], [3, 11, 20, 22, 31, 40, 49, 51], [7, 10, 16, 22, 35, 41, 47, 53], [2, 13, 21, 22, 30, 38, 46, 54], [6, 12, 17, 22, 34, 39, 44, 56], [4, 9, 19, 22, 32, 42, 45, 55], [0, 43, 44, 45, 46, 47, 48, 49], [4, 14, 17, 27, 30, 40, 43, 53], [6, 11, 16, 28, 33, 38, 43, 55], [2, 10, 18, 26, 34, 42, 43, 51], [7, 13, 19, 25, 31, 37, 43, 56], [3, 12, 21, 23, 32, 41, 43, 52], [5, 9, 20, 24, 35, 39, 43, 54], [0, 36, 37, 38, 39, 40, 41, 42], [3, 14, 16, 25, 34, 36, 45, 54], [2, 11, 19, 27, 35, 36, 44, 52], [4, 10, 20, 23, 33, 36, 46, 56], [5, 13, 17, 28, 32, 36, 47, 51], [7, 12, 18, 24, 30, 36, 49, 55], [6, 9, 21, 26, 31, 36, 48, 53], [0, 15, 16, 17, 18, 19, 20, 21], [2, 14, 15, 23, 31, 39, 47, 55], [5, 11, 15, 26, 30, 41, 45, 56], [6, 10, 15, 27, 32, 37, 49, 54], [3, 13, 15, 24, 33, 42, 44, 53], [4, 12, 15, 25, 35, 38, 48, 51], [7, 9, 15, 28, 34, 40, 46, 52]]
theorem eP7 : projR A7 T7 (ptsR 7 T7) = lP7.map toI := by decide +kernel
theorem bP7 : BalD 57 8 (projR A7 T7 (ptsR 7 T7)) := bal_plane eP7 (r := 8) (by decide +kernel) (by omega) (by omega) (by omega) (by decide) (by decide) (by omega) (by decide) (by decide)
end Go.Am.C07
namespace Go.Am.C07
open Go Go.Am
variable {E : Nat → Option AFn} {Y : Nat → List Value → FM → Nat → OR FM}
def six : List (List Int) := [[0, 1], [0, 2], [0, 3], [1, 2], [1, 3], [2, 3]]
theorem cls_40 : Cls 40 8 7 0 [] := .lim (fun q A M hs => by
  have h7 := hs.le
  refine ⟨fun ⟨h1, h2⟩ => ?_, fun ⟨h1, h2⟩ => by omega⟩
  obtain rfl : q = 7 := by omega
  omega) (by decide +kernel)
theorem six_len : ∀ g ∈ six, g.length < 1000000 := by decide
theorem p13_len : ∀ g ∈ projR A3 T3 (ptsR 3 T3), g.length < 1000000 := (smallL_out (proj_small sm3)).2
theorem p13_ln : (projR A3 T3 (ptsR 3 T3)).length < 1000000 := (smallL_out (proj_small sm3)).1
theorem ok_40 : ChOk ((40 : Nat) : Int) ((8 : Nat) : Int) := by unfold ChOk; omega
theorem ok_13 : ChOk ((13 : Nat) : Int) ((4 : Nat) : Int) := by unfold ChOk; omega
theorem cls_13 : Cls 13 4 0 13 (projR A3 T3 (ptsR 3 T3)) := .proj 3 _ _ sm3 rfl rfl
theorem cpl_six : cplL ((4 : Nat) : Int) ((2 : Nat) : Int) = six := by decide +kernel
theorem chk_six : K.checkV ((4 : Nat) : Int) six = .tuple #[.int .i64 3, .int .i64 1, .int .i64 0] := by
  have h := (cpl_check (D := 4) (k := 2) (by omega) (by omega) (by omega) (by decide)).2
  rw [← cpl_six]
  exact h
theorem chk_13 : K.checkV ((13 : Nat) : Int) (projR A3 T3 (ptsR 3 T3)) = .tuple #[.int .i64 4, .int .i64 1, .int .i64 0] := by
  obtain ⟨f1, f2, f3⟩ := balL_out (show balL 13 4 4 lP3 = true by decide +kernel)
  rw [eP3]
  exact (check_bal f1 (by omega) (by omega) (by decide) (by decide) (by omega) f2 f3 (by omega)).2
theorem shC_13 : shC (projR A3 T3 (ptsR 3 T3)) 0 1 = 1 := by
  obtain ⟨f1, f2, f3⟩ := balL_out (show balL 13 4 4 lP3 = true by decide +kernel)
  rw [eP3]
  exact f3 0 1 (by omega) (by omega) (by omega)
theorem row2 {M : FM} {N b : Nat} {x y : Int} (hb : b < N) (h : M b = some (.cells [.int .i64 x, .int .i64 y] 1 false true)) : Ints M N (.slice (some ⟨b, 0, none⟩) 2 2) [x, y] :=
  .inr (.inl ⟨b, 0, 2, _, _, _, rfl, hb, h, fun i z hz => by rw [Nat.zero_add]; exact hz⟩)
theorem six_rows {M : FM} {N p : Nat} (hp : p + 7 < N) (k1 : M (p + 1) = some (.cells [.int .i64 0, .int .i64 1] 1 false true)) (k2 : M (p + 2) = some (.cells [.int .i64 0, .int .i64 2] 1 false true)) (k3 : M (p + 3) = some (.cells [.int .i64 0, .int .i64 3] 1 false true)) (k4 : M (p + 4) = some (.cells [.int .i64 1, .int .i64 2] 1 false true)) (k5 : M (p + 5) = some (.cells [.int .i64 1, .int .i64 3] 1 false true)) (k6 : M (p + 6) = some (.cells [.int .i64 2, .int .i64 3] 1 false true))
    (k7 : M (p + 7) = some (.cells [.slice (some ⟨p + 1, 0, none⟩) 2 2, .slice (some ⟨p + 2, 0, none⟩) 2 2, .slice (some ⟨p + 3, 0, none⟩) 2 2, .slice (some ⟨p + 4, 0, none⟩) 2 2, .slice (some ⟨p + 5, 0, none⟩) 2 2, .slice (some ⟨p + 6, 0, none⟩) 2 2] 1 false true)) :
    Rows M N (.slice (some ⟨p + 7, 0, none⟩) 6 6) six := by
  refine ⟨_, .inr (.inl ⟨p + 7, 0, 6, _, _, _, rfl, by omega, k7, fun i z hz => by rw [Nat.zero_add]; exact hz⟩), rfl, fun i x g hx hg => ?_⟩
  have hi : i < 6 := (List.getElem?_eq_some_iff.1 hx).1
  unfold six at hg
  match i, hi with
  | 0, _ => cases hx; cases hg; exact row2 (by omega) k1
  | 1, _ => cases hx; cases hg; exact row2 (by omega) k2
  | 2, _ => cases hx; cases hg; exact row2 (by omega) k3
  | 3, _ => cases hx; cases hg; exact row2 (by omega) k4
  | 4, _ => cases hx; cases hg; exact row2 (by omega) k5
  | 5, _ => cases hx; cases hg; exact row2 (by omega) k6
theorem sh_13 : sharedR ((13 : Nat) : Int) (projR A3 T3 (ptsR 3 T3)) 0 1 = 1 := by
  unfold sharedR
  rw [if_neg (by omega), shC_13]
  rfl
theorem awake_exec (T : En E Y) (m : FM) (n : Nat) : Pure (callW PG E Y 10 [] m n) m n (.bool true) := by
  refine pure_spec T.e10 rfl rfl ?_
  simp only [ac10]
  simp (implicitDefEqProofs := false) (disch := omega) only [W2, opds, Nat.testBit, Nat.reduceAdd, Nat.reduceShiftRight, Nat.reduceAnd, Nat.reduceBNe, Nat.reduceMul]
  have hb : ¬ cplBad ((4 : Nat) : Int) ((2 : Nat) : Int) := by unfold cplBad; omega
  have hl : ¬ 4096 < cplN ((4 : Nat) : Int) ((2 : Nat) : Int) := by decide +kernel
  refine use_rt (cpl_ok T hb hl _ _) fun v M1 N1 r1 w1 ⟨n1, m1, f1, rv, hv, hRU⟩ => ?_
  rw [cpl_six] at hRU
  have hR := hRU.rows
  subst hv
  have o1 := hR.one
  simp (implicitDefEqProofs := false) (disch := omega) only [W2, opds, Nat.testBit, Nat.reduceAdd, Nat.reduceShiftRight, Nat.reduceAnd, Nat.reduceBNe, Nat.reduceMul, o1]
  generalize hM2 : (AMem.put M1 N1 (some (.cells [.int .i64 ((4 : Nat) : Int), rv] 0 false true)) : FM) = M2
  have d2 : M2 N1 = some (.cells [.int .i64 4, rv] 0 false true) := by rw [← hM2]; exact fput_same _ _ _
  have hR2 : Rows M2 (N1 + 1) rv six := hR.frame (by omega) fun b hb => by rw [← hM2, fput_ne _ _ _ _ (by omega)]
  clear hM2
  have hbel := hR2.bel (N1 + 1) (Nat.le_refl _)
  have hS := K.check_spec (E := E) (Y := Y) T.e16 T.e26 M2 (N1 + 1) ((4 : Nat) : Int) rv six hR2 (by decide) (fun g hg => by have := six_len g hg; omega)
  rw [chk_six] at hS
  refine use_pure hS fun _ => ?_
  simp (implicitDefEqProofs := false) (disch := omega) only [W2, opds, Nat.testBit, Nat.reduceAdd, Nat.reduceShiftRight, Nat.reduceAnd, Nat.reduceBNe, Nat.reduceMul, d2, hbel]
  refine use_rt (choose_spec T ok_13 cls_13 _ _) fun v M3 N3 r3 w3 ⟨n3, m3, f3, dv, hv, rv3, hd, hR3⟩ => ?_
  subst hv
  subst hd
  have o3 := hR3.one
  simp (implicitDefEqProofs := false) (disch := omega) only [W2, opds, Nat.testBit, Nat.reduceAdd, Nat.reduceShiftRight, Nat.reduceAnd, Nat.reduceBNe, Nat.reduceMul, o3]
  generalize hM4 : (AMem.put M3 N3 (some (.cells [.int .i64 ((13 : Nat) : Int), rv3] 0 false true)) : FM) = M4
  have d4 : M4 N3 = some (.cells [.int .i64 13, rv3] 0 false true) := by rw [← hM4]; exact fput_same _ _ _
  have lo4 : ∀ b, b < N1 + 1 → M4 b = M2 b := fun b hb => by rw [← hM4, fput_ne _ _ _ _ (by omega)]; exact m3 b hb
  have hR4 : Rows M4 (N3 + 1) rv3 (projR A3 T3 (ptsR 3 T3)) := hR3.frame (by omega) fun b hb => by rw [← hM4, fput_ne _ _ _ _ (by omega)]
  clear hM4
  have hbel3 := hR4.bel (N3 + 1) (Nat.le_refl _)
  have hS3 := K.check_spec (E := E) (Y := Y) T.e16 T.e26 M4 (N3 + 1) ((13 : Nat) : Int) rv3 _ hR4 (by have := p13_ln; omega) (fun g hg => by have := p13_len g hg; omega)
  rw [chk_13] at hS3
  refine use_pure hS3 fun _ => ?_
  simp (implicitDefEqProofs := false) (disch := omega) only [W2, opds, Nat.testBit, Nat.reduceAdd, Nat.reduceShiftRight, Nat.reduceAnd, Nat.reduceBNe, Nat.reduceMul, d4, hbel3]
  refine use_rt (choose_spec T ok_40 cls_40 _ _) fun v M5 N5 r5 w5 ⟨n5, m5, f5, dv, hv, rv5, hd, hR5⟩ => ?_
  subst hv
  subst hd
  have o5 := hR5.one
  have d6 : M5 N3 = _ := (m5 N3 (by omega)).trans d4
  have d7 : M5 N1 = _ := (m5 N1 (by omega)).trans ((lo4 N1 (by omega)).trans d2)
  have q1 := hR2.bel
  have q3 := hR4.bel
  simp (implicitDefEqProofs := false) (disch := omega) only [W2, opds, Nat.testBit, Nat.reduceAdd, Nat.reduceShiftRight, Nat.reduceAnd, Nat.reduceBNe, Nat.reduceMul, o5, d6, d7, q1, q3]
  generalize hM7 : (AMem.put
              (AMem.put
                (AMem.put
                  (AMem.put
                    (AMem.put
                      (AMem.put
                        (AMem.put (AMem.put M5 N5 (some (.cells [.int .i64 0, rv5] 0 false true)))
                          (N5 + 1) (some (.cells [.int .i64 0, .int .i64 1] 1 false true)))
                        (N5 + 2) (some (.cells [.int .i64 0, .int .i64 2] 1 false true)))
                      (N5 + 3) (some (.cells [.int .i64 0, .int .i64 3] 1 false true)))
                    (N5 + 4) (some (.cells [.int .i64 1, .int .i64 2] 1 false true)))
                  (N5 + 5) (some (.cells [.int .i64 1, .int .i64 3] 1 false true)))
                (N5 + 6) (some (.cells [.int .i64 2, .int .i64 3] 1 false true)))
              (N5 + 7)
              (some
                (.cells
                  [.slice (some ⟨N5 + 1, 0, none⟩) 2 2, .slice (some ⟨N5 + 2, 0, none⟩) 2 2, .slice (some ⟨N5 + 3, 0, none⟩) 2 2, .slice (some ⟨N5 + 4, 0, none⟩) 2 2, .slice (some ⟨N5 + 5, 0, none⟩) 2 2, .slice (some ⟨N5 + 6, 0, none⟩) 2 2]
                  1 false true)) : FM) = M7
  have k1 : M7 (N5 + 1) = some (.cells [.int .i64 0, .int .i64 1] 1 false true) := by rw [← hM7, fput_ne _ _ _ _ (by omega), fput_ne _ _ _ _ (by omega), fput_ne _ _ _ _ (by omega), fput_ne _ _ _ _ (by omega), fput_ne _ _ _ _ (by omega), fput_ne _ _ _ _ (by omega), fput_same]
  have k2 : M7 (N5 + 2) = some (.cells [.int .i64 0, .int .i64 2] 1 false true) := by rw [← hM7, fput_ne _ _ _ _ (by omega), fput_ne _ _ _ _ (by omega), fput_ne _ _ _ _ (by omega), fput_ne _ _ _ _ (by omega), fput_ne _ _ _ _ (by omega), fput_same]
  have k3 : M7 (N5 + 3) = some (.cells [.int .i64 0, .int .i64 3] 1 false true) := by rw [← hM7, fput_ne _ _ _ _ (by omega), fput_ne _ _ _ _ (by omega), fput_ne _ _ _ _ (by omega), fput_ne _ _ _ _ (by omega), fput_same]
  have k4 : M7 (N5 + 4) = some (.cells [.int .i64 1, .int .i64 2] 1 false true) := by rw [← hM7, fput_ne _ _ _ _ (by omega), fput_ne _ _ _ _ (by omega), fput_ne _ _ _ _ (by omega), fput_same]
  have k5 : M7 (N5 + 5) = some (.cells [.int .i64 1, .int .i64 3] 1 false true) := by rw [← hM7, fput_ne _ _ _ _ (by omega), fput_ne _ _ _ _ (by omega), fput_same]
  have k6 : M7 (N5 + 6) = some (.cells [.int .i64 2, .int .i64 3] 1 false true) := by rw [← hM7, fput_ne _ _ _ _ (by omega), fput_same]
  have k7 : M7 (N5 + 7) = some (.cells [.slice (some ⟨N5 + 1, 0, none⟩) 2 2, .slice (some ⟨N5 + 2, 0, none⟩) 2 2, .slice (some ⟨N5 + 3, 0, none⟩) 2 2, .slice (some ⟨N5 + 4, 0, none⟩) 2 2, .slice (some ⟨N5 + 5, 0, none⟩) 2 2, .slice (some ⟨N5 + 6, 0, none⟩) 2 2] 1 false true) := by rw [← hM7, fput_same]
  have lo7 : ∀ b, b < N5 → M7 b = M5 b := fun b hb => by rw [← hM7, fput_ne _ _ _ _ (by omega), fput_ne _ _ _ _ (by omega), fput_ne _ _ _ _ (by omega), fput_ne _ _ _ _ (by omega), fput_ne _ _ _ _ (by omega), fput_ne _ _ _ _ (by omega), fput_ne _ _ _ _ (by omega), fput_ne _ _ _ _ (by omega)]
  clear hM7
  have hL : Rows M7 (N5 + 8) (.slice (some ⟨N5 + 7, 0, none⟩) 6 6) six := six_rows (by omega) k1 k2 k3 k4 k5 k6 k7
  have hA7 : Rows M7 (N5 + 8) rv six := hR2.frame (by omega) fun b hb => (lo7 b (by omega)).trans ((m5 b (by omega)).trans (lo4 b hb))
  have hB7 : Rows M7 (N5 + 8) rv3 (projR A3 T3 (ptsR 3 T3)) := hR4.frame (by omega) fun b hb => (lo7 b (by omega)).trans (m5 b hb)
  have hSm := same_spec (E := E) (Y := Y) T.e13 (D1 := ((4 : Nat) : Int)) (D2 := ((4 : Nat) : Int)) hA7 hL (by decide) (by decide) six_len six_len
  rw [decide_eq_true (show ((4 : Nat) : Int) = ((4 : Nat) : Int) ∧ six = six from ⟨rfl, rfl⟩)] at hSm
  refine use_pure hSm fun _ => ?_
  have d8 : M7 N3 = _ := (lo7 N3 (by omega)).trans d6
  have hSh := shared_spec (E := E) (Y := Y) T.e21 T.e31 T.F.e51 (D := ((13 : Nat) : Int)) hB7 p13_ln p13_len 0 1
  rw [sh_13] at hSh
  simp (implicitDefEqProofs := false) (disch := omega) only [W2, opds, Nat.testBit, Nat.reduceAdd, Nat.reduceShiftRight, Nat.reduceAnd, Nat.reduceBNe, Nat.reduceMul, d8, q3]
  refine use_pure hSh fun _ => ?_
  have fz1 := f1 n (Nat.le_refl _)
  have fz3 := f3 n (by omega)
  have fz5 := f5 n (by omega)
  have fza : ∀ k, n ≤ k → Nat.mod (bit k) (bit n) = 0 := fun k hk => frz_bit hk
  simp (implicitDefEqProofs := false) (disch := omega) only [W2, opds, Nat.testBit, Nat.reduceAdd, Nat.reduceShiftRight, Nat.reduceAnd, Nat.reduceBNe, Nat.reduceMul, fz1, fz3, fz5, fza]
end Go.Am.C07
namespace Go.Am.C07
open Go Go.Am Go.Am.V
set_option maxRecDepth 1000000
theorem callsD_of {f : Nat} {args : List Value} (hrun : ∀ m n, Pure (callW PG (look tabD) YD f args m n) m n (.bool true)) (hf : args.all addrFree = true) (w : World) :
    Calls Proofs.Try.prog f args.toArray w fun e w' => e = .returned (.bool true) ∧ RowKit.Below w.heap.size w w' := by
  obtain ⟨r, hr⟩ := hrun FM0 0
  obtain ⟨k, hk⟩ := callW_some hr
  exact envD.topA (free_args hf) hk w
theorem awakeD (m : FM) (n : Nat) : Pure (callW PG (look tabD) YD 10 [] m n) m n (.bool true) := awake_exec enD m n
end Go.Am.C07
namespace Go.Am
open Go Go.RowKit Go.ChangeShapes
theorem post_below {H : Type} {enc : TypeId × Value → H} {P : Program} {f : Func} {s : ChangeSpec} {apart fresh handsOn again : Bool} {W W' : World} {args : Array Value} {v : Value} {ds gs : List (DataW H)} {before pa pv : List MemPlace}
    (hW : DataW.Whole enc P f.params.toList s.vars apart W args.toList ds gs before)
    (hres : ∀ (b : Nat) (sp : Nat → Bool) (hd : Bool), DataW.TrodAll enc P W' b sp hd f.resultTypes.toList (v.resultList f.resultTypes.size) (s.fn H (ds ++ gs)).results [])
    (hargs : ∀ sp : Nat → Bool, (∀ p ∈ before, sp p.block = true) → DataW.TrodAll enc P W' 0 sp true f.params.toList args.toList (s.fn H (ds ++ gs)).args pa)
    (hvars : ∀ sp : Nat → Bool, (∀ p ∈ before, sp p.block = true) → DataW.TrodVars enc P W' sp s.vars (s.fn H (ds ++ gs)).vars pv)
    (hps : before = pa ++ pv) (hb : Below W.heap.size W W')
    (hok : ∀ (j : Nat) (t : TypeId) (r : Value), f.resultTypes[j]? = some t → (v.resultList f.resultTypes.size)[j]? = some r → Value.okWide P W' .any 0 t r) :
    s.post enc P f apart fresh handsOn again W args v W' := by
  have hlt := hW.lt
  obtain ⟨_, _, _, _, _, hz, hn⟩ := id hW
  refine ⟨ds, gs, before, [], pa, pv, hW, hres _ _ _, hargs _ fun p hp => by simpa using hlt p hp, hvars _ fun p hp => by simpa using hlt p hp, World.keptBut_mono (fun p hp => ⟨hp, ?_⟩) (hb.frame (· ∈ before)), fun _ => ⟨hok, _, _, ([] ++ pa) ++ pv, ⟨[] ++ pa, pv, trodAll_append (hargs _ fun _ _ => rfl) (hres _ _ _), hvars _ fun _ _ => rfl, rfl, fun b off hp => ?_, fun ha => ?_⟩, fun p hp _ => ?_⟩⟩
  · rw [hps, List.mem_append] at hp; exact .inr hp
  · have hm : MemPlace.cell b off ∈ before := by rw [hps]; simpa using hp
    rw [hb.frozen (p := ⟨b, off, none⟩) (hlt _ hm)]
    exact hz b off hm
  · have := hn ha
    rw [hps] at this
    simpa using this
  · rw [hps]; simpa using hp
end Go.Am
