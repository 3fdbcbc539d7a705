/- The machine and its runs, part M: Am07sm Am07som. -/
import Derived.Test.YtfkbmdhlopkfnaaB16
set_option linter.unusedVariables false
set_option linter.unusedSimpArgs false
set_option linter.unusedSectionVars false
namespace Go.Am.C07
open Go Go.Am
variable {E : Nat → Option AFn} {Y : Nat → List Value → FM → Nat → OR FM}
theorem ch_big : ∀ v, v < 17 → ∀ k, k < v → 1 ≤ k → v ≤ ch v k := by decide +kernel
theorem ch_16 : ∀ v, v < 17 → ∀ k, k < 17 → ch v k ≤ 12870 := by decide +kernel
inductive BalArg : Nat → Nat → Prop
  | small (v k : Nat) (hv : v ≤ 16) (hk : 4 ≤ k) (hkv : k ≤ v) (hn : cplN (v : Int) (k : Int) ≤ 300) : BalArg v k
  | p3 : BalArg 13 4
  | a4 : BalArg 16 4
  | p4 : BalArg 21 5
  | a5 : BalArg 25 5
  | p5 : BalArg 31 6
  | a7 : BalArg 49 7
  | p7 : BalArg 57 8
theorem bal_cls {v k : Nat} (h : BalArg v k) : ChOk v k ∧ ∃ gs, Cls v k 0 v gs ∧ BalD v k gs := by
  unfold ChOk
  cases h with
  | small v k hv hk hkv hn =>
    refine ⟨by omega, cplL v k, .ok (fun q A M hs => ⟨fun hh => ?_, fun hh => ?_⟩) (by omega), ?_⟩
    · obtain ⟨h1, h2⟩ := hh
      obtain ⟨hs, h7, hh⟩ := hs
      have e3 : cplN ((13 : Nat) : Int) ((4 : Nat) : Int) = 715 := by decide +kernel
      cases hs <;> first
        | omega
        | (obtain rfl : v = 13 := by omega
           obtain rfl : k = 4 := by omega
           omega)
    · obtain ⟨h1, h2⟩ := hh
      obtain ⟨hs, h7, hh⟩ := hs
      have e3 : cplN ((16 : Nat) : Int) ((4 : Nat) : Int) = 1820 := by decide +kernel
      cases hs <;> first
        | omega
        | (obtain rfl : v = 16 := by omega
           obtain rfl : k = 4 := by omega
           omega)
    · have hN : cplN v k = (ch v k : Int) := cplN_ch (by omega) (by omega)
      have hlen : (cplL v k).length = ch v k := cpl_len v k
      have hrow : ∀ g ∈ cplL (v : Int) (k : Int), g.length = k := fun g hg => (cpl_fm (D := v) (k := k) g hg).1
      have hp := ch_pos hkv
      have hp2 := ch_pos (show k - 2 ≤ v - 2 by omega)
      have hbk := ch_bk (v := v) (k := k) (by omega) (by omega)
      have hrk := ch_rk (v := v) (k := k) (by omega) (by omega)
      have hr := ch_16 (v - 1) (by omega) (k - 1) (by omega)
      have hl := ch_16 (v - 2) (by omega) (k - 2) (by omega)
      refine ⟨⟨ch (v - 1) (k - 1), ch (v - 2) (k - 2), (cpl_check (D := v) (k := k) (by omega) (by omega) hkv (by omega)).2, by rw [hlen]; exact hbk, hrk, hp2, by omega, by omega⟩, ?_, by omega, by omega, hrow⟩
      by_cases e : k = v
      · exact .inl e
      · exact .inr (by rw [hlen]; exact ch_big v (by omega) k (by omega) (by omega))
  | p3 => exact ⟨by omega, _, .proj 3 _ _ sm3 rfl rfl, bP3⟩
  | a4 => exact ⟨by omega, _, .aff 4 _ _ sm4 rfl rfl, bF4⟩
  | p4 => exact ⟨by omega, _, .proj 4 _ _ sm4 rfl rfl, bP4⟩
  | a5 => exact ⟨by omega, _, .aff 5 _ _ sm5 rfl rfl, bF5⟩
  | p5 => exact ⟨by omega, _, .proj 5 _ _ sm5 rfl rfl, bP5⟩
  | a7 => exact ⟨by omega, _, .aff 7 _ _ sm7 rfl rfl, bF7⟩
  | p7 => exact ⟨by omega, _, .proj 7 _ _ sm7 rfl rfl, bP7⟩
theorem designBalanced_exec (T : En E Y) (hA : ∀ m n, Pure (callW PG E Y 10 [] m n) m n (.bool true)) (x w : Nat) (hx : x < 256) (hw : w < 256) (m : FM) (n : Nat) : Pure (callW PG E Y 6 [.int .u8 (x : Int), .int .u8 (w : Int)] m n) m n (.bool true) := by
  refine pure_spec T.e6 rfl rfl ?_
  simp only [ac6]
  simp (implicitDefEqProofs := false) (disch := omega) only [W2, opds, Nat.testBit, Nat.reduceAdd, Nat.reduceShiftRight, Nat.reduceAnd, Nat.reduceBNe, Nat.reduceMul]
  refine use_pure (hA _ _) fun _ => ?_
  have cx := conv_u8 hx
  have cw := conv_u8 hw
  have r1 := fun (t : Nat) => binV_rem_nat (t := t) (a := x) (b := 13) (by omega)
  have r2 := fun (t : Nat) => binV_rem_nat (t := t) (a := w) (b := 4 + x % 13 - 3) (by omega)
  have r3 := fun (t : Nat) => binV_rem_nat (t := t) (a := w) (b := 7) (by omega)
  simp (implicitDefEqProofs := false) (disch := omega) only [W2, opds, Nat.testBit, Nat.reduceAdd, Nat.reduceShiftRight, Nat.reduceAnd, Nat.reduceBNe, Nat.reduceMul, cx, cw, r1, r2]
  have h13 : x % 13 < 13 := Nat.mod_lt _ (by omega)
  have hwm : w % (4 + x % 13 - 3) < 4 + x % 13 - 3 := Nat.mod_lt _ (by omega)
  have hw7 : w % 7 < 7 := Nat.mod_lt _ (by omega)
  have hC := rCount_spec (E := E) (Y := Y) T.e12 T.e25
  clear r1 r2
  generalize w % (4 + x % 13 - 3) = kk at hwm
  generalize x % 13 = vv at hwm h13
  obtain ⟨k, hk⟩ : ∃ k, k = 4 + kk := ⟨_, rfl⟩
  obtain ⟨v, hv⟩ : ∃ v, v = 4 + vv := ⟨_, rfl⟩
  rw [wrap_small (by omega) (by omega), ← hk, ← hv]
  have fza : Nat.mod (bit n) (bit n) = 0 := frz_bit (Nat.le_refl _)
  by_cases hx2 : 200 ≤ x
  · generalize w % 7 = i at *
    rcases (show i = 0 ∨ i = 1 ∨ i = 2 ∨ i = 3 ∨ i = 4 ∨ i = 5 ∨ i = 6 by omega) with rfl | rfl | rfl | rfl | rfl | rfl | rfl
    · simp (implicitDefEqProofs := false) (disch := omega) only [W2, opds, Nat.testBit, Nat.reduceAdd, Nat.reduceShiftRight, Nat.reduceAnd, Nat.reduceBNe, Nat.reduceMul, cw, r3]
      have hbig : 300 < cplN (13 : Int) (4 : Int) := by decide +kernel
      refine use_pure (hC _ _ (13 : Int) (4 : Int) (by omega) (by omega) (by omega)) fun _ => ?_
      generalize cplN (13 : Int) (4 : Int) = Z at hbig
      simp (implicitDefEqProofs := false) (disch := omega) only [W2, opds, Nat.testBit, Nat.reduceAdd, Nat.reduceShiftRight, Nat.reduceAnd, Nat.reduceBNe, Nat.reduceMul]
      obtain ⟨hok, gs, hcls, hB⟩ := bal_cls .p3
      refine use_rt (choose_spec T hok hcls _ _) fun v' M1 N1 r1 w1 ⟨n1, m1, f1, dv, hv, rv, hd, hR⟩ => ?_
      subst hv
      subst hd
      have o1 := hR.one
      simp (implicitDefEqProofs := false) (disch := omega) only [W2, opds, Nat.testBit, Nat.reduceAdd, Nat.reduceShiftRight, Nat.reduceAnd, Nat.reduceBNe, Nat.reduceMul, o1]
      generalize hM2 : (AMem.put M1 N1 (some (.cells [.int .i64 (13 : Int), rv] 0 false true)) : FM) = M2
      have d2 : M2 N1 = some (.cells [.int .i64 (13 : Int), rv] 0 false true) := by rw [← hM2]; exact fput_same _ _ _
      have hR2 : Rows M2 (N1 + 1) rv gs := hR.frame (by omega) fun b hb => by rw [← hM2, fput_ne _ _ _ _ (by omega)]
      obtain ⟨⟨r, lam, hv1, hv2, hv3, hv4, hv5, hv6⟩, hb2, hp, hu, hl⟩ := hB
      have hbel := hR2.bel (N1 + 1) (Nat.le_refl _)
      have hS := K.check_spec (E := E) (Y := Y) T.e16 T.e26 M2 (N1 + 1) ((13 : Nat) : Int) rv gs hR2 (by omega) (fun g hg => by rw [hl g hg]; omega)
      rw [hv1] at hS
      have hrl := hR2.len
      have fzn := f1 n (Nat.le_succ n)
      have fzb : Nat.mod (bit N1) (bit n) = 0 := frz_bit (by omega)
      refine use_pure hS fun _ => ?_
      clear hM2
      obtain ⟨gb, go, gc, gop, gwr, gx, hi, hgb, hgm, hgc, hgI⟩ := hR2.cell (i := 0) hp
      have hi' : idxV 1 0 rv = _ := hi
      have hgl := hgI.len
      rw [hl _ (List.getElem_mem hp)] at hgl
      have hgl' : lenV false gx = some (.int .i64 (4 : Int)) := hgl
      have frg : Nat.mod 0 (bit n) = 0 := Nat.zero_mod _
      simp (implicitDefEqProofs := false) (disch := omega) only [W2, opds, Nat.testBit, Nat.reduceAdd, Nat.reduceShiftRight, Nat.reduceAnd, Nat.reduceBNe, Nat.reduceMul, d2, hbel, hrl, hi', hgm, hgc, hgl']
      exact fzn
    · simp (implicitDefEqProofs := false) (disch := omega) only [W2, opds, Nat.testBit, Nat.reduceAdd, Nat.reduceShiftRight, Nat.reduceAnd, Nat.reduceBNe, Nat.reduceMul, cw, r3]
      have hbig : 300 < cplN (16 : Int) (4 : Int) := by decide +kernel
      refine use_pure (hC _ _ (16 : Int) (4 : Int) (by omega) (by omega) (by omega)) fun _ => ?_
      generalize cplN (16 : Int) (4 : Int) = Z at hbig
      simp (implicitDefEqProofs := false) (disch := omega) only [W2, opds, Nat.testBit, Nat.reduceAdd, Nat.reduceShiftRight, Nat.reduceAnd, Nat.reduceBNe, Nat.reduceMul]
      obtain ⟨hok, gs, hcls, hB⟩ := bal_cls .a4
      refine use_rt (choose_spec T hok hcls _ _) fun v' M1 N1 r1 w1 ⟨n1, m1, f1, dv, hv, rv, hd, hR⟩ => ?_
      subst hv
      subst hd
      have o1 := hR.one
      simp (implicitDefEqProofs := false) (disch := omega) only [W2, opds, Nat.testBit, Nat.reduceAdd, Nat.reduceShiftRight, Nat.reduceAnd, Nat.reduceBNe, Nat.reduceMul, o1]
      generalize hM2 : (AMem.put M1 N1 (some (.cells [.int .i64 (16 : Int), rv] 0 false true)) : FM) = M2
      have d2 : M2 N1 = some (.cells [.int .i64 (16 : Int), rv] 0 false true) := by rw [← hM2]; exact fput_same _ _ _
      have hR2 : Rows M2 (N1 + 1) rv gs := hR.frame (by omega) fun b hb => by rw [← hM2, fput_ne _ _ _ _ (by omega)]
      obtain ⟨⟨r, lam, hv1, hv2, hv3, hv4, hv5, hv6⟩, hb2, hp, hu, hl⟩ := hB
      have hbel := hR2.bel (N1 + 1) (Nat.le_refl _)
      have hS := K.check_spec (E := E) (Y := Y) T.e16 T.e26 M2 (N1 + 1) ((16 : Nat) : Int) rv gs hR2 (by omega) (fun g hg => by rw [hl g hg]; omega)
      rw [hv1] at hS
      have hrl := hR2.len
      have fzn := f1 n (Nat.le_succ n)
      have fzb : Nat.mod (bit N1) (bit n) = 0 := frz_bit (by omega)
      refine use_pure hS fun _ => ?_
      clear hM2
      obtain ⟨gb, go, gc, gop, gwr, gx, hi, hgb, hgm, hgc, hgI⟩ := hR2.cell (i := 0) hp
      have hi' : idxV 1 0 rv = _ := hi
      have hgl := hgI.len
      rw [hl _ (List.getElem_mem hp)] at hgl
      have hgl' : lenV false gx = some (.int .i64 (4 : Int)) := hgl
      have frg : Nat.mod 0 (bit n) = 0 := Nat.zero_mod _
      simp (implicitDefEqProofs := false) (disch := omega) only [W2, opds, Nat.testBit, Nat.reduceAdd, Nat.reduceShiftRight, Nat.reduceAnd, Nat.reduceBNe, Nat.reduceMul, d2, hbel, hrl, hi', hgm, hgc, hgl']
      exact fzn
    · simp (implicitDefEqProofs := false) (disch := omega) only [W2, opds, Nat.testBit, Nat.reduceAdd, Nat.reduceShiftRight, Nat.reduceAnd, Nat.reduceBNe, Nat.reduceMul, cw, r3]
      have hbig : 300 < cplN (21 : Int) (5 : Int) := by decide +kernel
      refine use_pure (hC _ _ (21 : Int) (5 : Int) (by omega) (by omega) (by omega)) fun _ => ?_
      generalize cplN (21 : Int) (5 : Int) = Z at hbig
      simp (implicitDefEqProofs := false) (disch := omega) only [W2, opds, Nat.testBit, Nat.reduceAdd, Nat.reduceShiftRight, Nat.reduceAnd, Nat.reduceBNe, Nat.reduceMul]
      obtain ⟨hok, gs, hcls, hB⟩ := bal_cls .p4
      refine use_rt (choose_spec T hok hcls _ _) fun v' M1 N1 r1 w1 ⟨n1, m1, f1, dv, hv, rv, hd, hR⟩ => ?_
      subst hv
      subst hd
      have o1 := hR.one
      simp (implicitDefEqProofs := false) (disch := omega) only [W2, opds, Nat.testBit, Nat.reduceAdd, Nat.reduceShiftRight, Nat.reduceAnd, Nat.reduceBNe, Nat.reduceMul, o1]
      generalize hM2 : (AMem.put M1 N1 (some (.cells [.int .i64 (21 : Int), rv] 0 false true)) : FM) = M2
      have d2 : M2 N1 = some (.cells [.int .i64 (21 : Int), rv] 0 false true) := by rw [← hM2]; exact fput_same _ _ _
      have hR2 : Rows M2 (N1 + 1) rv gs := hR.frame (by omega) fun b hb => by rw [← hM2, fput_ne _ _ _ _ (by omega)]
      obtain ⟨⟨r, lam, hv1, hv2, hv3, hv4, hv5, hv6⟩, hb2, hp, hu, hl⟩ := hB
      have hbel := hR2.bel (N1 + 1) (Nat.le_refl _)
      have hS := K.check_spec (E := E) (Y := Y) T.e16 T.e26 M2 (N1 + 1) ((21 : Nat) : Int) rv gs hR2 (by omega) (fun g hg => by rw [hl g hg]; omega)
      rw [hv1] at hS
      have hrl := hR2.len
      have fzn := f1 n (Nat.le_succ n)
      have fzb : Nat.mod (bit N1) (bit n) = 0 := frz_bit (by omega)
      refine use_pure hS fun _ => ?_
      clear hM2
      obtain ⟨gb, go, gc, gop, gwr, gx, hi, hgb, hgm, hgc, hgI⟩ := hR2.cell (i := 0) hp
      have hi' : idxV 1 0 rv = _ := hi
      have hgl := hgI.len
      rw [hl _ (List.getElem_mem hp)] at hgl
      have hgl' : lenV false gx = some (.int .i64 (5 : Int)) := hgl
      have frg : Nat.mod 0 (bit n) = 0 := Nat.zero_mod _
      simp (implicitDefEqProofs := false) (disch := omega) only [W2, opds, Nat.testBit, Nat.reduceAdd, Nat.reduceShiftRight, Nat.reduceAnd, Nat.reduceBNe, Nat.reduceMul, d2, hbel, hrl, hi', hgm, hgc, hgl']
      exact fzn
    · simp (implicitDefEqProofs := false) (disch := omega) only [W2, opds, Nat.testBit, Nat.reduceAdd, Nat.reduceShiftRight, Nat.reduceAnd, Nat.reduceBNe, Nat.reduceMul, cw, r3]
      have hbig : 300 < cplN (25 : Int) (5 : Int) := by decide +kernel
      refine use_pure (hC _ _ (25 : Int) (5 : Int) (by omega) (by omega) (by omega)) fun _ => ?_
      generalize cplN (25 : Int) (5 : Int) = Z at hbig
      simp (implicitDefEqProofs := false) (disch := omega) only [W2, opds, Nat.testBit, Nat.reduceAdd, Nat.reduceShiftRight, Nat.reduceAnd, Nat.reduceBNe, Nat.reduceMul]
      obtain ⟨hok, gs, hcls, hB⟩ := bal_cls .a5
      refine use_rt (choose_spec T hok hcls _ _) fun v' M1 N1 r1 w1 ⟨n1, m1, f1, dv, hv, rv, hd, hR⟩ => ?_
      subst hv
      subst hd
      have o1 := hR.one
      simp (implicitDefEqProofs := false) (disch := omega) only [W2, opds, Nat.testBit, Nat.reduceAdd, Nat.reduceShiftRight, Nat.reduceAnd, Nat.reduceBNe, Nat.reduceMul, o1]
      generalize hM2 : (AMem.put M1 N1 (some (.cells [.int .i64 (25 : Int), rv] 0 false true)) : FM) = M2
      have d2 : M2 N1 = some (.cells [.int .i64 (25 : Int), rv] 0 false true) := by rw [← hM2]; exact fput_same _ _ _
      have hR2 : Rows M2 (N1 + 1) rv gs := hR.frame (by omega) fun b hb => by rw [← hM2, fput_ne _ _ _ _ (by omega)]
      obtain ⟨⟨r, lam, hv1, hv2, hv3, hv4, hv5, hv6⟩, hb2, hp, hu, hl⟩ := hB
      have hbel := hR2.bel (N1 + 1) (Nat.le_refl _)
      have hS := K.check_spec (E := E) (Y := Y) T.e16 T.e26 M2 (N1 + 1) ((25 : Nat) : Int) rv gs hR2 (by omega) (fun g hg => by rw [hl g hg]; omega)
      rw [hv1] at hS
      have hrl := hR2.len
      have fzn := f1 n (Nat.le_succ n)
      have fzb : Nat.mod (bit N1) (bit n) = 0 := frz_bit (by omega)
      refine use_pure hS fun _ => ?_
      clear hM2
      obtain ⟨gb, go, gc, gop, gwr, gx, hi, hgb, hgm, hgc, hgI⟩ := hR2.cell (i := 0) hp
      have hi' : idxV 1 0 rv = _ := hi
      have hgl := hgI.len
      rw [hl _ (List.getElem_mem hp)] at hgl
      have hgl' : lenV false gx = some (.int .i64 (5 : Int)) := hgl
      have frg : Nat.mod 0 (bit n) = 0 := Nat.zero_mod _
      simp (implicitDefEqProofs := false) (disch := omega) only [W2, opds, Nat.testBit, Nat.reduceAdd, Nat.reduceShiftRight, Nat.reduceAnd, Nat.reduceBNe, Nat.reduceMul, d2, hbel, hrl, hi', hgm, hgc, hgl']
      exact fzn
    · simp (implicitDefEqProofs := false) (disch := omega) only [W2, opds, Nat.testBit, Nat.reduceAdd, Nat.reduceShiftRight, Nat.reduceAnd, Nat.reduceBNe, Nat.reduceMul, cw, r3]
      have hbig : 300 < cplN (31 : Int) (6 : Int) := by decide +kernel
      refine use_pure (hC _ _ (31 : Int) (6 : Int) (by omega) (by omega) (by omega)) fun _ => ?_
      generalize cplN (31 : Int) (6 : Int) = Z at hbig
      simp (implicitDefEqProofs := false) (disch := omega) only [W2, opds, Nat.testBit, Nat.reduceAdd, Nat.reduceShiftRight, Nat.reduceAnd, Nat.reduceBNe, Nat.reduceMul]
      obtain ⟨hok, gs, hcls, hB⟩ := bal_cls .p5
      refine use_rt (choose_spec T hok hcls _ _) fun v' M1 N1 r1 w1 ⟨n1, m1, f1, dv, hv, rv, hd, hR⟩ => ?_
      subst hv
      subst hd
      have o1 := hR.one
      simp (implicitDefEqProofs := false) (disch := omega) only [W2, opds, Nat.testBit, Nat.reduceAdd, Nat.reduceShiftRight, Nat.reduceAnd, Nat.reduceBNe, Nat.reduceMul, o1]
      generalize hM2 : (AMem.put M1 N1 (some (.cells [.int .i64 (31 : Int), rv] 0 false true)) : FM) = M2
      have d2 : M2 N1 = some (.cells [.int .i64 (31 : Int), rv] 0 false true) := by rw [← hM2]; exact fput_same _ _ _
      have hR2 : Rows M2 (N1 + 1) rv gs := hR.frame (by omega) fun b hb => by rw [← hM2, fput_ne _ _ _ _ (by omega)]
      obtain ⟨⟨r, lam, hv1, hv2, hv3, hv4, hv5, hv6⟩, hb2, hp, hu, hl⟩ := hB
      have hbel := hR2.bel (N1 + 1) (Nat.le_refl _)
      have hS := K.check_spec (E := E) (Y := Y) T.e16 T.e26 M2 (N1 + 1) ((31 : Nat) : Int) rv gs hR2 (by omega) (fun g hg => by rw [hl g hg]; omega)
      rw [hv1] at hS
      have hrl := hR2.len
      have fzn := f1 n (Nat.le_succ n)
      have fzb : Nat.mod (bit N1) (bit n) = 0 := frz_bit (by omega)
      refine use_pure hS fun _ => ?_
      clear hM2
      obtain ⟨gb, go, gc, gop, gwr, gx, hi, hgb, hgm, hgc, hgI⟩ := hR2.cell (i := 0) hp
      have hi' : idxV 1 0 rv = _ := hi
      have hgl := hgI.len
      rw [hl _ (List.getElem_mem hp)] at hgl
      have hgl' : lenV false gx = some (.int .i64 (6 : Int)) := hgl
      have frg : Nat.mod 0 (bit n) = 0 := Nat.zero_mod _
      simp (implicitDefEqProofs := false) (disch := omega) only [W2, opds, Nat.testBit, Nat.reduceAdd, Nat.reduceShiftRight, Nat.reduceAnd, Nat.reduceBNe, Nat.reduceMul, d2, hbel, hrl, hi', hgm, hgc, hgl']
      exact fzn
    · simp (implicitDefEqProofs := false) (disch := omega) only [W2, opds, Nat.testBit, Nat.reduceAdd, Nat.reduceShiftRight, Nat.reduceAnd, Nat.reduceBNe, Nat.reduceMul, cw, r3]
      have hbig : 300 < cplN (49 : Int) (7 : Int) := by decide +kernel
      refine use_pure (hC _ _ (49 : Int) (7 : Int) (by omega) (by omega) (by omega)) fun _ => ?_
      generalize cplN (49 : Int) (7 : Int) = Z at hbig
      simp (implicitDefEqProofs := false) (disch := omega) only [W2, opds, Nat.testBit, Nat.reduceAdd, Nat.reduceShiftRight, Nat.reduceAnd, Nat.reduceBNe, Nat.reduceMul]
      obtain ⟨hok, gs, hcls, hB⟩ := bal_cls .a7
      refine use_rt (choose_spec T hok hcls _ _) fun v' M1 N1 r1 w1 ⟨n1, m1, f1, dv, hv, rv, hd, hR⟩ => ?_
      subst hv
      subst hd
      have o1 := hR.one
      simp (implicitDefEqProofs := false) (disch := omega) only [W2, opds, Nat.testBit, Nat.reduceAdd, Nat.reduceShiftRight, Nat.reduceAnd, Nat.reduceBNe, Nat.reduceMul, o1]
      generalize hM2 : (AMem.put M1 N1 (some (.cells [.int .i64 (49 : Int), rv] 0 false true)) : FM) = M2
      have d2 : M2 N1 = some (.cells [.int .i64 (49 : Int), rv] 0 false true) := by rw [← hM2]; exact fput_same _ _ _
      have hR2 : Rows M2 (N1 + 1) rv gs := hR.frame (by omega) fun b hb => by rw [← hM2, fput_ne _ _ _ _ (by omega)]
      obtain ⟨⟨r, lam, hv1, hv2, hv3, hv4, hv5, hv6⟩, hb2, hp, hu, hl⟩ := hB
      have hbel := hR2.bel (N1 + 1) (Nat.le_refl _)
      have hS := K.check_spec (E := E) (Y := Y) T.e16 T.e26 M2 (N1 + 1) ((49 : Nat) : Int) rv gs hR2 (by omega) (fun g hg => by rw [hl g hg]; omega)
      rw [hv1] at hS
      have hrl := hR2.len
      have fzn := f1 n (Nat.le_succ n)
      have fzb : Nat.mod (bit N1) (bit n) = 0 := frz_bit (by omega)
      refine use_pure hS fun _ => ?_
      clear hM2
      obtain ⟨gb, go, gc, gop, gwr, gx, hi, hgb, hgm, hgc, hgI⟩ := hR2.cell (i := 0) hp
      have hi' : idxV 1 0 rv = _ := hi
      have hgl := hgI.len
      rw [hl _ (List.getElem_mem hp)] at hgl
      have hgl' : lenV false gx = some (.int .i64 (7 : Int)) := hgl
      have frg : Nat.mod 0 (bit n) = 0 := Nat.zero_mod _
      simp (implicitDefEqProofs := false) (disch := omega) only [W2, opds, Nat.testBit, Nat.reduceAdd, Nat.reduceShiftRight, Nat.reduceAnd, Nat.reduceBNe, Nat.reduceMul, d2, hbel, hrl, hi', hgm, hgc, hgl']
      exact fzn
    · simp (implicitDefEqProofs := false) (disch := omega) only [W2, opds, Nat.testBit, Nat.reduceAdd, Nat.reduceShiftRight, Nat.reduceAnd, Nat.reduceBNe, Nat.reduceMul, cw, r3]
      have hbig : 300 < cplN (57 : Int) (8 : Int) := by decide +kernel
      refine use_pure (hC _ _ (57 : Int) (8 : Int) (by omega) (by omega) (by omega)) fun _ => ?_
      generalize cplN (57 : Int) (8 : Int) = Z at hbig
      simp (implicitDefEqProofs := false) (disch := omega) only [W2, opds, Nat.testBit, Nat.reduceAdd, Nat.reduceShiftRight, Nat.reduceAnd, Nat.reduceBNe, Nat.reduceMul]
      obtain ⟨hok, gs, hcls, hB⟩ := bal_cls .p7
      refine use_rt (choose_spec T hok hcls _ _) fun v' M1 N1 r1 w1 ⟨n1, m1, f1, dv, hv, rv, hd, hR⟩ => ?_
      subst hv
      subst hd
      have o1 := hR.one
      simp (implicitDefEqProofs := false) (disch := omega) only [W2, opds, Nat.testBit, Nat.reduceAdd, Nat.reduceShiftRight, Nat.reduceAnd, Nat.reduceBNe, Nat.reduceMul, o1]
      generalize hM2 : (AMem.put M1 N1 (some (.cells [.int .i64 (57 : Int), rv] 0 false true)) : FM) = M2
      have d2 : M2 N1 = some (.cells [.int .i64 (57 : Int), rv] 0 false true) := by rw [← hM2]; exact fput_same _ _ _
      have hR2 : Rows M2 (N1 + 1) rv gs := hR.frame (by omega) fun b hb => by rw [← hM2, fput_ne _ _ _ _ (by omega)]
      obtain ⟨⟨r, lam, hv1, hv2, hv3, hv4, hv5, hv6⟩, hb2, hp, hu, hl⟩ := hB
      have hbel := hR2.bel (N1 + 1) (Nat.le_refl _)
      have hS := K.check_spec (E := E) (Y := Y) T.e16 T.e26 M2 (N1 + 1) ((57 : Nat) : Int) rv gs hR2 (by omega) (fun g hg => by rw [hl g hg]; omega)
      rw [hv1] at hS
      have hrl := hR2.len
      have fzn := f1 n (Nat.le_succ n)
      have fzb : Nat.mod (bit N1) (bit n) = 0 := frz_bit (by omega)
      refine use_pure hS fun _ => ?_
      clear hM2
      obtain ⟨gb, go, gc, gop, gwr, gx, hi, hgb, hgm, hgc, hgI⟩ := hR2.cell (i := 0) hp
      have hi' : idxV 1 0 rv = _ := hi
      have hgl := hgI.len
      rw [hl _ (List.getElem_mem hp)] at hgl
      have hgl' : lenV false gx = some (.int .i64 (8 : Int)) := hgl
      have frg : Nat.mod 0 (bit n) = 0 := Nat.zero_mod _
      simp (implicitDefEqProofs := false) (disch := omega) only [W2, opds, Nat.testBit, Nat.reduceAdd, Nat.reduceShiftRight, Nat.reduceAnd, Nat.reduceBNe, Nat.reduceMul, d2, hbel, hrl, hi', hgm, hgc, hgl']
      exact fzn
  · simp (implicitDefEqProofs := false) (disch := omega) only [W2, opds, Nat.testBit, Nat.reduceAdd, Nat.reduceShiftRight, Nat.reduceAnd, Nat.reduceBNe, Nat.reduceMul]
    refine use_pure (hC _ _ (v : Int) (k : Int) (by omega) (by omega) (by omega)) fun _ => ?_
    generalize hZ : cplN (v : Int) (k : Int) = Z
    by_cases hbig : 300 < Z
    · simp (implicitDefEqProofs := false) (disch := omega) only [W2, opds, Nat.testBit, Nat.reduceAdd, Nat.reduceShiftRight, Nat.reduceAnd, Nat.reduceBNe, Nat.reduceMul]
    · simp (implicitDefEqProofs := false) (disch := omega) only [W2, opds, Nat.testBit, Nat.reduceAdd, Nat.reduceShiftRight, Nat.reduceAnd, Nat.reduceBNe, Nat.reduceMul]
      obtain ⟨hok, gs, hcls, hB⟩ := bal_cls (.small v k (by omega) (by omega) (by omega) (by omega))
      refine use_rt (choose_spec T hok hcls _ _) fun v' M1 N1 r1 w1 ⟨n1, m1, f1, dv, hv, rv, hd, hR⟩ => ?_
      subst hv
      subst hd
      have o1 := hR.one
      simp (implicitDefEqProofs := false) (disch := omega) only [W2, opds, Nat.testBit, Nat.reduceAdd, Nat.reduceShiftRight, Nat.reduceAnd, Nat.reduceBNe, Nat.reduceMul, o1]
      generalize hM2 : (AMem.put M1 N1 (some (.cells [.int .i64 (v : Int), rv] 0 false true)) : FM) = M2
      have d2 : M2 N1 = some (.cells [.int .i64 (v : Int), rv] 0 false true) := by rw [← hM2]; exact fput_same _ _ _
      have hR2 : Rows M2 (N1 + 1) rv gs := hR.frame (by omega) fun b hb => by rw [← hM2, fput_ne _ _ _ _ (by omega)]
      obtain ⟨⟨r, lam, hv1, hv2, hv3, hv4, hv5, hv6⟩, hb2, hp, hu, hl⟩ := hB
      have hbel := hR2.bel (N1 + 1) (Nat.le_refl _)
      have hS := K.check_spec (E := E) (Y := Y) T.e16 T.e26 M2 (N1 + 1) ((v : Nat) : Int) rv gs hR2 (by omega) (fun g hg => by rw [hl g hg]; omega)
      rw [hv1] at hS
      have hrl := hR2.len
      have fzn := f1 n (Nat.le_succ n)
      have fzb : Nat.mod (bit N1) (bit n) = 0 := frz_bit (by omega)
      refine use_pure hS fun _ => ?_
      clear hM2
      obtain ⟨gb, go, gc, gop, gwr, gx, hi, hgb, hgm, hgc, hgI⟩ := hR2.cell (i := 0) hp
      have hi' : idxV 1 0 rv = _ := hi
      have hgl := hgI.len
      rw [hl _ (List.getElem_mem hp)] at hgl
      have hgl' : lenV false gx = some (.int .i64 (k : Int)) := hgl
      have frg : Nat.mod 0 (bit n) = 0 := Nat.zero_mod _
      have hp1 : v * r ≤ 16 * 20000 := Nat.mul_le_mul (by omega) hv5
      have hp2 : lam * (v - 1) ≤ 20000 * 16 := Nat.mul_le_mul hv6 (by omega)
      generalize e1 : v * r = P1 at *
      generalize e2 : lam * (v - 1) = P2 at *
      simp (implicitDefEqProofs := false) (disch := omega) only [W2, opds, Nat.testBit, Nat.reduceAdd, Nat.reduceShiftRight, Nat.reduceAnd, Nat.reduceBNe, Nat.reduceMul, d2, hbel, hrl, hi', hgm, hgc, hgl', hv2, hv3, e1, e2]
      by_cases e : k = v
      · simp (implicitDefEqProofs := false) (disch := omega) only [W2, opds, Nat.testBit, Nat.reduceAdd, Nat.reduceShiftRight, Nat.reduceAnd, Nat.reduceBNe, Nat.reduceMul, decide_eq_true e]
        exact fzn
      · have hb3 : v ≤ gs.length := hb2.resolve_left e
        simp (implicitDefEqProofs := false) (disch := omega) only [W2, opds, Nat.testBit, Nat.reduceAdd, Nat.reduceShiftRight, Nat.reduceAnd, Nat.reduceBNe, Nat.reduceMul, decide_eq_false e]
        exact fzn
end Go.Am.C07
namespace Go.Am.C07
open Go Go.Am Go.Am.V
set_option maxRecDepth 1000000
theorem designBalanced_calls (x : Nat) (hx : x < 256) (y : Nat) (hy : y < 256) (w : World) : Calls Proofs.Try.prog 6 #[.int .u8 x, .int .u8 y] w fun e w' => e = .returned (.bool true) ∧ RowKit.Below w.heap.size w w' :=
  callsD_of (args := [.int .u8 x, .int .u8 y]) (fun m n => designBalanced_exec enD awakeD x y hx hy m n) rfl w
end Go.Am.C07
