/- The machine and its runs, part G: Am07sg Am07sog. -/
import Derived.Test.YtfkbmdhlopkfnaaB16
set_option linter.unusedVariables false
set_option linter.unusedSimpArgs false
set_option linter.unusedSectionVars false
namespace Go.Am.C07
open Go Go.Am
variable {E : Nat → Option AFn} {Y : Nat → List Value → FM → Nat → OR FM}
structure Sml (v k : Nat) : Prop where
  v2 : 2 ≤ v
  v8 : v ≤ 8
  k2 : 2 ≤ k
  kv : k ≤ v
theorem sml_of (z : Nat) : Sml (2 + (z / 256) % 7) (2 + (z % 256) % (1 + (z / 256) % 7)) := by
  have h3 : z / 256 % 7 < 7 := Nat.mod_lt _ (by omega)
  have h5 : z % 256 % (1 + z / 256 % 7) < 1 + z / 256 % 7 := Nat.mod_lt _ (by omega)
  exact ⟨by omega, by omega, by omega, by omega⟩
theorem pairs_L0 (T : En E Y) {m : FM} {n db v k r lam : Nat} {rv : Value} {gs : List (List Int)} (hR : Rows m n rv gs) (hdb : db < n) (hd : m db = some (.cells [.int .i64 (v : Int), rv] 0 false true)) (hv : v ≤ 8)
    (h1 : ∀ a b : Nat, a < v → b < v → shC gs a b = if a = b then r else lam) (hs : gs.length < 1000000) (hr : ∀ g ∈ gs, g.length < 1000000) {a : Nat} (ha : a < v) (y0 x2 x3 x4 y2 y3 y4 y8 y9 : Value) (ys : List Value) {Q : AX → List Value → FM → Nat → Nat → Prop}
    (hQ : Q (.exit 2) (y0 :: .int .i64 (v : Int) :: x2 :: x3 :: x4 :: .int .i64 (a : Int) :: y2 :: y3 :: y4 :: .int .i64 (lam : Int) :: .int .i64 (r : Int) :: .pointer (some ⟨db, 0, none⟩) :: y8 :: y9 :: .int .i64 (v : Int) :: ys) m n 0) :
    ∀ d b, b + d = v → Gv (execW PG E Y ac8L0 (y0 :: .int .i64 (b : Int) :: x2 :: x3 :: x4 :: .int .i64 (a : Int) :: y2 :: y3 :: y4 :: .int .i64 (lam : Int) :: .int .i64 (r : Int) :: .pointer (some ⟨db, 0, none⟩) :: y8 :: y9 :: .int .i64 (v : Int) :: ys) m n) Q := by
  intro d
  have hbel := hR.bel n (Nat.le_refl _)
  induction d with
  | zero =>
    intro b hb
    obtain rfl : b = v := by omega
    refine wr_loopN (L := ac8L0) (b := ac8L0b) rfl ?_
    simp only [ac8L0b]
    simp (implicitDefEqProofs := false) (disch := omega) only [W2, opds, Nat.testBit, Nat.reduceAdd, Nat.reduceShiftRight, Nat.reduceAnd, Nat.reduceBNe, Nat.reduceMul]
    exact hQ
  | succ d ih =>
    intro b hb
    have hbv : b < v := by omega
    have hS := shared_spec (E := E) (Y := Y) T.e21 T.e31 T.F.e51 (D := (v : Int)) hR hs hr (a : Int) (b : Int)
    have hsv : sharedR (v : Int) gs (a : Int) (b : Int) = ((if a = b then r else lam : Nat) : Int) := by
      unfold sharedR
      rw [if_neg (by omega), h1 a b ha hbv]
    rw [hsv] at hS
    refine wr_loopN (L := ac8L0) (b := ac8L0b) rfl ?_
    simp only [ac8L0b]
    by_cases hab : a = b
    · subst hab
      rw [if_pos rfl] at hS
      simp (implicitDefEqProofs := false) (disch := omega) only [W2, opds, Nat.testBit, Nat.reduceAdd, Nat.reduceShiftRight, Nat.reduceAnd, Nat.reduceBNe, Nat.reduceMul, hd, hbel]
      refine use_pure hS fun _ => ?_
      simp (implicitDefEqProofs := false) (disch := omega) only [W2, opds, Nat.testBit, Nat.reduceAdd, Nat.reduceShiftRight, Nat.reduceAnd, Nat.reduceBNe, Nat.reduceMul, hd, hbel]
      exact wr_end (ih (a + 1) (by omega)) fun X e m n w hq => by simpa only [zero_lor'] using hq
    · rw [if_neg hab] at hS
      simp (implicitDefEqProofs := false) (disch := omega) only [W2, opds, Nat.testBit, Nat.reduceAdd, Nat.reduceShiftRight, Nat.reduceAnd, Nat.reduceBNe, Nat.reduceMul, hd, hbel]
      refine use_pure hS fun _ => ?_
      simp (implicitDefEqProofs := false) (disch := omega) only [W2, opds, Nat.testBit, Nat.reduceAdd, Nat.reduceShiftRight, Nat.reduceAnd, Nat.reduceBNe, Nat.reduceMul, hd, hbel]
      exact wr_end (ih (b + 1) (by omega)) fun X e m n w hq => by simpa only [zero_lor'] using hq
theorem pairs_L1 (T : En E Y) {m : FM} {n db v k r lam : Nat} {rv : Value} {gs : List (List Int)} (hR : Rows m n rv gs) (hdb : db < n) (hd : m db = some (.cells [.int .i64 (v : Int), rv] 0 false true)) (hv : v ≤ 8)
    (h1 : ∀ a b : Nat, a < v → b < v → shC gs a b = if a = b then r else lam) (hs : gs.length < 1000000) (hr : ∀ g ∈ gs, g.length < 1000000) (y0 y2 y3 y4 y8 y9 : Value) (ys : List Value) {Q : AX → List Value → FM → Nat → Nat → Prop}
    (hQ : Q (.exit 0) (y0 :: y2 :: y3 :: y4 :: .int .i64 (lam : Int) :: .int .i64 (r : Int) :: .pointer (some ⟨db, 0, none⟩) :: y8 :: y9 :: .int .i64 (v : Int) :: ys) m n 0) :
    ∀ d a, a + d = v → Gv (execW PG E Y ac8L1 (y0 :: .int .i64 (a : Int) :: y2 :: y3 :: y4 :: .int .i64 (lam : Int) :: .int .i64 (r : Int) :: .pointer (some ⟨db, 0, none⟩) :: y8 :: y9 :: .int .i64 (v : Int) :: ys) m n) Q := by
  intro d
  induction d with
  | zero =>
    intro a ha
    obtain rfl : a = v := by omega
    refine wr_loopN (L := ac8L1) (b := ac8L1b) rfl ?_
    simp only [ac8L1b]
    simp (implicitDefEqProofs := false) (disch := omega) only [W2, opds, Nat.testBit, Nat.reduceAdd, Nat.reduceShiftRight, Nat.reduceAnd, Nat.reduceBNe, Nat.reduceMul]
    exact hQ
  | succ d ih =>
    intro a ha
    have hav : a < v := by omega
    refine wr_loopN (L := ac8L1) (b := ac8L1b) rfl ?_
    simp only [ac8L1b]
    simp (implicitDefEqProofs := false) (disch := omega) only [W2, opds, Nat.testBit, Nat.reduceAdd, Nat.reduceShiftRight, Nat.reduceAnd, Nat.reduceBNe, Nat.reduceMul]
    refine wr_kont (pairs_L0 T (k := k) hR hdb hd hv h1 hs hr hav _ _ _ _ _ _ _ _ _ ys ?_ v 0 (by omega))
    intro rr
    simp (implicitDefEqProofs := false) (disch := omega) only [W2, opds, Nat.testBit, Nat.reduceAdd, Nat.reduceShiftRight, Nat.reduceAnd, Nat.reduceBNe, Nat.reduceMul]
    exact wr_end (ih (a + 1) (by omega)) fun X e m n w hq => by simpa only [zero_lor'] using hq
theorem designPairs_exec (T : En E Y) (hA : ∀ m n, Pure (callW PG E Y 10 [] m n) m n (.bool true)) (z : Nat) (hz : z < 65536) (m : FM) (n : Nat) : Pure (callW PG E Y 8 [.int .u16 (z : Int)] m n) m n (.bool true) := by
  refine pure_spec T.e8 rfl rfl ?_
  simp only [ac8]
  simp (implicitDefEqProofs := false) (disch := omega) only [W2, opds, Nat.testBit, Nat.reduceAdd, Nat.reduceShiftRight, Nat.reduceAnd, Nat.reduceBNe, Nat.reduceMul]
  refine use_pure (hA _ _) fun _ => ?_
  simp (implicitDefEqProofs := false) (disch := omega) only [W2, opds, Nat.testBit, Nat.reduceAdd, Nat.reduceShiftRight, Nat.reduceAnd, Nat.reduceBNe, Nat.reduceMul]
  refine use_pure (small_spec T.e22 _ _ z hz) fun _ => ?_
  have hs := sml_of z
  generalize 2 + (z / 256) % 7 = v at *
  generalize 2 + (z % 256) % _ = k at *
  obtain ⟨v2, v8, k2, kv⟩ := hs
  simp (implicitDefEqProofs := false) (disch := omega) only [W2, opds, Nat.testBit, Nat.reduceAdd, Nat.reduceShiftRight, Nat.reduceAnd, Nat.reduceBNe, Nat.reduceMul]
  have hb : ¬ cplBad (v : Int) (k : Int) := by unfold cplBad; omega
  have hl : ¬ 4096 < cplN (v : Int) (k : Int) := by have := cplN_small v (by omega) k (by omega) kv; omega
  have hch := ch_small v (by omega) k (by omega)
  refine use_rt (cpl_ok T hb hl _ _) fun v' M1 N1 r1 w1 ⟨n1, m1, f1, rv, hv, hRU⟩ => ?_
  have hR := hRU.rows
  subst hv
  have o1 := hR.one
  simp (implicitDefEqProofs := false) (disch := omega) only [W2, opds, Nat.testBit, Nat.reduceAdd, Nat.reduceShiftRight, Nat.reduceAnd, Nat.reduceBNe, Nat.reduceMul, o1]
  generalize hM2 : (AMem.put M1 N1 (some (.cells [.int .i64 (v : Int), rv] 0 false true)) : FM) = M2
  have d2 : M2 N1 = some (.cells [.int .i64 (v : Int), rv] 0 false true) := by rw [← hM2]; exact fput_same _ _ _
  have hR2 : Rows M2 (N1 + 1) rv (cplL v k) := hR.frame (by omega) fun b hb => by rw [← hM2, fput_ne _ _ _ _ (by omega)]
  have hbel := hR2.bel (N1 + 1) (Nat.le_refl _)
  have hlen : (cplL v k).length = ch v k := cpl_len v k
  have hrow : ∀ g ∈ cplL (v : Int) (k : Int), g.length = k := fun g hg => (cpl_fm (D := v) (k := k) g hg).1
  have hS := K.check_spec (E := E) (Y := Y) T.e16 T.e26 M2 (N1 + 1) (v : Int) rv (cplL v k) hR2 (by omega) (fun g hg => by rw [hrow g hg]; omega)
  rw [show K.checkV (v : Int) (cplL v k) = _ from (cpl_check (D := v) (k := k) (by omega) k2 kv (by omega)).2] at hS
  have hrl := hR2.len
  rw [hlen] at hrl
  have fzn := f1 n (Nat.le_refl _)
  have fza : Nat.mod (bit N1) (bit n) = 0 := frz_bit (by omega)
  refine use_pure hS fun _ => ?_
  simp (implicitDefEqProofs := false) (disch := omega) only [W2, opds, Nat.testBit, Nat.reduceAdd, Nat.reduceShiftRight, Nat.reduceAnd, Nat.reduceBNe, Nat.reduceMul, d2, hbel]
  have hpairs : ∀ a b : Nat, a < v → b < v → shC (cplL (v : Int) (k : Int)) a b = if a = b then ch (v - 1) (k - 1) else ch (v - 2) (k - 2) := fun a b ha' hb' => by
    obtain ⟨j, rfl⟩ : ∃ j, k = j + 2 := ⟨k - 2, by omega⟩
    by_cases hab : a = b
    · subst hab; rw [if_pos rfl]; exact cpl_one ha'
    · rw [if_neg hab]; exact cpl_two ha' hb' hab
  have hbk := ch_bk (v := v) (k := k) (by omega) (by omega)
  have hrk := ch_rk (v := v) (k := k) k2 v2
  have hr70 := ch_small (v - 1) (by omega) (k - 1) (by omega)
  have hl70 := ch_small (v - 2) (by omega) (k - 2) (by omega)
  generalize ch v k = B at *
  generalize ch (v - 1) (k - 1) = r at *
  generalize ch (v - 2) (k - 2) = lam at *
  refine wr_kont (pairs_L1 T (k := k) hR2 (Nat.lt_succ_self _) d2 v8 hpairs (by omega) (fun g hg => by rw [hrow g hg]; omega) _ _ _ _ _ _ _ ?_ v 0 (by omega))
  intro rr
  have hp1 : v * r ≤ 8 * 70 := Nat.mul_le_mul v8 hr70
  have hp2 : lam * (v - 1) ≤ 70 * 8 := Nat.mul_le_mul hl70 (by omega)
  generalize e1 : v * r = P1 at *
  generalize e2 : lam * (v - 1) = P2 at *
  simp (implicitDefEqProofs := false) (disch := omega) only [W2, opds, Nat.testBit, Nat.reduceAdd, Nat.reduceShiftRight, Nat.reduceAnd, Nat.reduceBNe, Nat.reduceMul, d2, hbel, hrl, hbk, hrk, e1, e2, fzn, fza]
end Go.Am.C07
namespace Go.Am.C07
open Go Go.Am Go.Am.V
set_option maxRecDepth 1000000
theorem designPairs_calls (z : Nat) (hz : z < 65536) (w : World) : Calls Proofs.Try.prog 8 #[.int .u16 z] w fun e w' => e = .returned (.bool true) ∧ RowKit.Below w.heap.size w w' :=
  callsD_of (args := [.int .u16 z]) (fun m n => designPairs_exec enD awakeD z hz m n) rfl w
end Go.Am.C07
