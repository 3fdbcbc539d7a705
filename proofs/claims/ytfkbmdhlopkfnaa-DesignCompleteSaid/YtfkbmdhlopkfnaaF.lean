/- The machine and its runs, part F: Am07sf Am07sof. -/
import Derived.Test.YtfkbmdhlopkfnaaE
import Derived.Test.YtfkbmdhlopkfnaaB16
set_option linter.unusedVariables false
set_option linter.unusedSimpArgs false
set_option linter.unusedSectionVars false
namespace Go.Am.C07
open Go Go.Am
variable {E : Nat → Option AFn} {Y : Nat → List Value → FM → Nat → OR FM}
theorem designComplete_exec (T : En E Y) (hA : ∀ m n, Pure (callW PG E Y 10 [] m n) m n (.bool true)) (D K : Int) (m : FM) (n : Nat) : Pure (callW PG E Y 3 [.int .i64 D, .int .i64 K] m n) m n (.bool true) := by
  refine pure_spec T.e3 rfl rfl ?_
  simp only [ac3]
  simp (implicitDefEqProofs := false) (disch := omega) only [W2, opds, Nat.testBit, Nat.reduceAdd, Nat.reduceShiftRight, Nat.reduceAnd, Nat.reduceBNe, Nat.reduceMul]
  refine use_pure (hA _ _) fun _ => ?_
  simp (implicitDefEqProofs := false) (disch := omega) only [W2, opds, Nat.testBit, Nat.reduceAdd, Nat.reduceShiftRight, Nat.reduceAnd, Nat.reduceBNe, Nat.reduceMul]
  have fza : Nat.mod (bit n) (bit n) = 0 := frz_bit (Nat.le_refl _)
  by_cases hb : cplBad D K
  · refine use_pure (cpl_bad T hb _ _) fun _ => ?_
    unfold cplBad at hb
    by_cases h1 : D < 2
    · simp (implicitDefEqProofs := false) (disch := omega) only [W2, opds, Nat.testBit, Nat.reduceAdd, Nat.reduceShiftRight, Nat.reduceAnd, Nat.reduceBNe, Nat.reduceMul, fza, fput_same]
    by_cases h2 : 60 < D
    · simp (implicitDefEqProofs := false) (disch := omega) only [W2, opds, Nat.testBit, Nat.reduceAdd, Nat.reduceShiftRight, Nat.reduceAnd, Nat.reduceBNe, Nat.reduceMul, fza, fput_same]
    by_cases h3 : K < 2
    · simp (implicitDefEqProofs := false) (disch := omega) only [W2, opds, Nat.testBit, Nat.reduceAdd, Nat.reduceShiftRight, Nat.reduceAnd, Nat.reduceBNe, Nat.reduceMul, fza, fput_same]
    have h4 : D < K := by omega
    simp (implicitDefEqProofs := false) (disch := omega) only [W2, opds, Nat.testBit, Nat.reduceAdd, Nat.reduceShiftRight, Nat.reduceAnd, Nat.reduceBNe, Nat.reduceMul, fza, fput_same]
  · have hb' := hb
    unfold cplBad at hb'
    have hC := rCount_spec (E := E) (Y := Y) T.e12 T.e25
    by_cases hl : 4096 < cplN D K
    · refine use_pure (cpl_lim T hb hl _ _) fun _ => ?_
      simp (implicitDefEqProofs := false) (disch := omega) only [W2, opds, Nat.testBit, Nat.reduceAdd, Nat.reduceShiftRight, Nat.reduceAnd, Nat.reduceBNe, Nat.reduceMul]
      refine use_pure (hC _ _ D K (by omega) (by omega) (by omega)) fun _ => ?_
      have hl' : cplN D K > 4096 := hl
      simp (implicitDefEqProofs := false) (disch := omega) only [W2, opds, Nat.testBit, Nat.reduceAdd, Nat.reduceShiftRight, Nat.reduceAnd, Nat.reduceBNe, Nat.reduceMul, fza, decide_eq_true hl', fput_same]
    · obtain ⟨d, rfl⟩ : ∃ d : Nat, D = (d : Int) := ⟨D.toNat, by omega⟩
      obtain ⟨k, rfl⟩ : ∃ k : Nat, K = (k : Int) := ⟨K.toNat, by omega⟩
      refine use_rt (cpl_ok T hb hl _ _) fun v M1 N1 r1 w1 ⟨n1, m1, f1, rv, hv, hRU⟩ => ?_
      have hR := hRU.rows
      subst hv
      have o1 := hR.one
      simp (implicitDefEqProofs := false) (disch := omega) only [W2, opds, Nat.testBit, Nat.reduceAdd, Nat.reduceShiftRight, Nat.reduceAnd, Nat.reduceBNe, Nat.reduceMul, o1]
      generalize hM2 : (AMem.put M1 N1 (some (.cells [.int .i64 (d : Int), rv] 0 false true)) : FM) = M2
      have d2 : M2 N1 = some (.cells [.int .i64 (d : Int), rv] 0 false true) := by rw [← hM2]; exact fput_same _ _ _
      have hR2 : Rows M2 (N1 + 1) rv (cplL d k) := hR.frame (by omega) fun b hb => by rw [← hM2, fput_ne _ _ _ _ (by omega)]
      have hbel := hR2.bel (N1 + 1) (Nat.le_refl _)
      have hN : cplN d k = (ch d k : Int) := cplN_ch (by omega) (by omega)
      have hlen : (cplL d k).length = ch d k := cpl_len d k
      have hc4 : ch d k ≤ 4096 := by omega
      refine use_pure (hC _ _ (d : Int) (k : Int) (by omega) (by omega) (by omega)) fun _ => ?_
      rw [hN]
      have fzn := f1 n (Nat.le_refl _)
      have fza : Nat.mod (bit N1) (bit n) = 0 := frz_bit (by omega)
      have hrl := hR2.len
      rw [hlen] at hrl
      by_cases hbig : 1000 < ch d k
      · have hb1 : ((ch d k : Nat) : Int) > 1000 := by omega
        simp (implicitDefEqProofs := false) (disch := omega) only [W2, opds, Nat.testBit, Nat.reduceAdd, Nat.reduceShiftRight, Nat.reduceAnd, Nat.reduceBNe, Nat.reduceMul, d2, hbel, hrl, fzn, fza]
      · simp (implicitDefEqProofs := false) (disch := omega) only [W2, opds, Nat.testBit, Nat.reduceAdd, Nat.reduceShiftRight, Nat.reduceAnd, Nat.reduceBNe, Nat.reduceMul, d2, hbel, hrl, fzn, fza]
        refine use_rtX (refCpl_spec T.e14 (by omega) (by omega) (by omega) (by omega) _ _) fun v M3 N3 r3 w3 ⟨n3, m3, f3, rv2, hv, hZ⟩ => ?_
        subst hv
        have o2 := hZ.one
        have hR3 : Rows M3 N3 rv (cplL d k) := hR2.frame n3 m3
        have hbel3 := hR3.bel N3 (Nat.le_refl _)
        have hbel4 := hZ.rows.bel N3 (Nat.le_refl _)
        have hbelF3 := hR3.belF N3 (Nat.le_refl _)
        have hbelF4 := hZ.rows.belF N3 (Nat.le_refl _)
        have hrow : ∀ g ∈ cplL (d : Int) (k : Int), g.length < 1000000 := fun g hg => by
          rw [(cpl_fm (D := d) (k := k) g hg).1]; omega
        have hS := same_spec (E := E) (Y := Y) T.e13 (D1 := (d : Int)) (D2 := (d : Int)) hR3 (show Rows M3 N3 rv2 (cplL d k) from hZ.rows) (by omega) (by omega) hrow hrow
        rw [decide_eq_true (show (d : Int) = (d : Int) ∧ cplL (d : Int) (k : Int) = cplL (d : Int) (k : Int) from ⟨rfl, rfl⟩)] at hS
        have fz3 := f3 n (by omega)
        have hld := land_frz (f3 (N1 + 1) (Nat.le_refl _)) (Nat.lt_succ_self N1)
        simp (implicitDefEqProofs := false) (disch := omega) only [W2, opds, Nat.testBit, Nat.reduceAdd, Nat.reduceShiftRight, Nat.reduceAnd, Nat.reduceBNe, Nat.reduceMul, d2, hbel3, hbel4, hbelF3, hbelF4, o2, hld]
        refine use_pureX (hS) fun _ => ?_
        simp (implicitDefEqProofs := false) (disch := omega) only [W2, opds, Nat.testBit, Nat.reduceAdd, Nat.reduceShiftRight, Nat.reduceAnd, Nat.reduceBNe, Nat.reduceMul, d2, hbel3, hbel4, hbelF3, hbelF4, o2, hld, fzn, fza, fz3]
end Go.Am.C07
namespace Go.Am.C07
open Go Go.Am Go.Am.V
set_option maxRecDepth 1000000
theorem designComplete_calls (D K : Int) (w : World) : Calls Proofs.Try.prog 3 #[.int .i64 D, .int .i64 K] w fun e w' => e = .returned (.bool true) ∧ RowKit.Below w.heap.size w w' :=
  callsD_of (args := [.int .i64 D, .int .i64 K]) (fun m n => designComplete_exec enD awakeD D K m n) rfl w
end Go.Am.C07
