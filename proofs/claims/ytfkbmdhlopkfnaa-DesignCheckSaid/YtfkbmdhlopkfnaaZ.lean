/- The machine and its runs: more of the parts above. -/
import Derived.Test.YtfkbmdhlopkfnaaB16
set_option linter.unusedVariables false
set_option linter.unusedSimpArgs false
set_option linter.unusedSectionVars false
namespace Go.Am.C07
open Go Go.Am
section
variable {P : Program} {E : Nat → Option AFn} {Y : Nat → List Value → FM → Nat → OR FM} {e : List Value} {m : FM} {n : Nat}
theorem ac17L0_w : execW P E Y ac17L0 e m n = crRec (execW P E Y ac17L0b e m n) (onNorm (execW P E Y ac17L0)) := w_loop _ _
theorem ac17L1_w : execW P E Y ac17L1 e m n = crRec (execW P E Y ac17L1b e m n) (onNorm (execW P E Y ac17L1)) := w_loop _ _
theorem ac17L2_w : execW P E Y ac17L2 e m n = crRec (execW P E Y ac17L2b e m n) (onNorm (execW P E Y ac17L2)) := w_loop _ _
theorem ac17L3_w : execW P E Y ac17L3 e m n = crRec (execW P E Y ac17L3b e m n) (onNorm (execW P E Y ac17L3)) := w_loop _ _
theorem ac17L4_w : execW P E Y ac17L4 e m n = crRec (execW P E Y ac17L4b e m n) (onNorm (execW P E Y ac17L4)) := w_loop _ _
theorem ac17L5_w : execW P E Y ac17L5 e m n = crRec (execW P E Y ac17L5b e m n) (onNorm (execW P E Y ac17L5)) := w_loop _ _
end
end Go.Am.C07
namespace Go.Am
open Go
section
variable {μ : Type} [AMem μ] {P : Program} {rec : Nat → List Value → μ → Nat → OR μ}
variable (k : Nat) (done : List (Nat × Nat × Nat)) (e : List Value) (m : μ) (n r w b : Nat)
end
section
variable {P : Program} {E : Nat → Option AFn} {Y : Nat → List Value → FM → Nat → OR FM} {e : List Value} {m : FM} {n : Nat}
end
end Go.Am
namespace Go.Am
open Go
end Go.Am
namespace Go.Am
open Go
section
variable {P : Program} {E : Nat → Option AFn} {Y : Nat → List Value → FM → Nat → OR FM} {e : List Value} {m : FM} {n : Nat}
end
end Go.Am
namespace Go.Am
open Go
end Go.Am
namespace Go.Am
open Go
theorem idx_block {i : Nat} {v : Value} {a : Addr} {n : Nat} (h : idxV 1 i v = some (.pointer (some a))) (hb : belowV n v = true) : Nat.blt a.block n = true := by
  cases v with
  | slice q l c =>
    cases q with
    | none => cases l <;> simp [idxV] at h
    | some q =>
      obtain ⟨b, o, sp⟩ := q
      cases sp with
      | some s => cases h
      | none =>
        replace h : cond (Nat.blt i l) (some (Value.pointer (some ⟨b, Nat.add o (Nat.mul i 1), none⟩))) none = some (.pointer (some a)) := h
        cases hc : Nat.blt i l
        · rw [hc] at h; cases h
        · rw [hc] at h
          injection h with h; injection h with h; injection h with h
          subst h
          exact hb
  | _ => cases h
end Go.Am
namespace Go.Am.C07
open Go Go.Am
variable {E : Nat → Option AFn} {Y : Nat → List Value → FM → Nat → OR FM}
theorem few_L0 {m : FM} {n db : Nat} {D : Int} {rv : Value} {gs : List (List Int)} (hR : Rows m n rv gs) (hdb : db < n) (hd : m db = some (.cells [.int .i64 D, rv] 0 false true)) (hs : gs.length ≤ 200) (y2 y3 y4 : Value) (ys : List Value) {Q : AX → List Value → FM → Nat → Nat → Prop}
    (hN : ∀ i (h : i < gs.length), ¬ gs[i].length ≤ 70 → ∀ e, Q (.ret (.bool false)) e m n 0) (hQ : (∀ i (h : i < gs.length), gs[i].length ≤ 70) → ∀ x0, Q (.exit 0) (x0 :: y2 :: y3 :: y4 :: .pointer (some ⟨db, 0, none⟩) :: ys) m n 0) :
    ∀ d j, j + d = gs.length → (∀ i (h : i < gs.length), i < j → gs[i].length ≤ 70) → ∀ x0, Gv (execW PG E Y ac15L0 (x0 :: .int .i64 (j : Int) :: y2 :: y3 :: y4 :: .pointer (some ⟨db, 0, none⟩) :: ys) m n) Q := by
  intro d
  have hbel := hR.bel n (Nat.le_refl _)
  induction d with
  | zero =>
    intro j hj hlo x0
    obtain rfl : j = gs.length := by omega
    refine wr_loopN (L := ac15L0) (b := ac15L0b) rfl ?_
    simp only [ac15L0b]
    simp (implicitDefEqProofs := false) (disch := omega) only [W2, opds, Nat.testBit, Nat.reduceAdd, Nat.reduceShiftRight, Nat.reduceAnd, Nat.reduceBNe, Nat.reduceMul, hR.len, hd, hbel]
    exact hQ (fun i h => hlo i h h) _
  | succ d ih =>
    intro j hj hlo x0
    have hjl : j < gs.length := by omega
    obtain ⟨b, o, c, p, w, x, i1, i2, i3, i4, i5⟩ := hR.cell hjl
    have hxl := i5.len
    have ibel := i5.bel n (Nat.le_refl _)
    refine wr_loopN (L := ac15L0) (b := ac15L0b) rfl ?_
    simp only [ac15L0b]
    by_cases hc : gs[j].length ≤ 70
    · simp (implicitDefEqProofs := false) (disch := omega) only [W2, opds, Nat.testBit, Nat.reduceAdd, Nat.reduceShiftRight, Nat.reduceAnd, Nat.reduceBNe, Nat.reduceMul, hR.len, hd, hbel, i1, i3, i4, hxl, ibel]
      exact wr_end (ih (j + 1) (by omega) (fun i h hi => by
        by_cases hij : i = j
        · subst hij; exact hc
        · exact hlo i h (by omega)) _) fun X e m n w hq => by simpa only [zero_lor'] using hq
    · have hc' : ((gs[j].length : Nat) : Int) > 70 := by omega
      simp (implicitDefEqProofs := false) (disch := omega) only [W2, opds, Nat.testBit, Nat.reduceAdd, Nat.reduceShiftRight, Nat.reduceAnd, Nat.reduceBNe, Nat.reduceMul, hR.len, hd, hbel, i1, i3, i4, hxl, ibel, decide_eq_true hc']
      exact hN j hjl hc _
theorem few_spec (hE : E 15 = some ac15) {m : FM} {n : Nat} {D : Int} {rv : Value} {gs : List (List Int)} (hR : Rows m n rv gs) : ∃ b : Bool, (b = true ↔ Few7 gs) ∧ Pure (callW PG E Y 15 [.agg #[.int .i64 D, rv]] m n) m n (.bool b) := by
  classical
  refine ⟨decide (Few7 gs), decide_eq_true_iff, ?_⟩
  refine pure_spec hE rfl rfl ?_
  simp only [ac15]
  have o1 := hR.one
  have fza : Nat.mod (bit n) (bit n) = 0 := frz_bit (Nat.le_refl _)
  simp (implicitDefEqProofs := false) (disch := omega) only [W2, opds, Nat.testBit, Nat.reduceAdd, Nat.reduceShiftRight, Nat.reduceAnd, Nat.reduceBNe, Nat.reduceMul, o1]
  generalize hM1 : (AMem.put m n (some (.cells [.int .i64 D, rv] 0 false true)) : FM) = M1
  have m1 : M1 n = some (.cells [.int .i64 D, rv] 0 false true) := by rw [← hM1]; exact fput_same _ _ _
  have k1 := hR.frame (m' := M1) (n' := n + 1) (by omega) (fun b hb => by rw [← hM1, fput_ne _ _ _ _ (by omega)])
  have hbel := k1.bel (n + 1) (Nat.le_refl _)
  by_cases h2 : gs.length ≤ 200
  · simp (implicitDefEqProofs := false) (disch := omega) only [W2, opds, Nat.testBit, Nat.reduceAdd, Nat.reduceShiftRight, Nat.reduceAnd, Nat.reduceBNe, Nat.reduceMul, m1, k1.len, hbel]
    refine wr_kont (few_L0 k1 (Nat.lt_succ_self _) m1 h2 _ _ _ _ (fun i h hc e => ?_) (fun hall x0 => ?_) gs.length 0 (by omega) (fun i h hi => by omega) _)
    · rw [decide_eq_false (p := Few7 gs) fun hh => hc (hh.2 i h)]
      intro rr
      simp (implicitDefEqProofs := false) (disch := omega) only [W2, opds, Nat.testBit, Nat.reduceAdd, Nat.reduceShiftRight, Nat.reduceAnd, Nat.reduceBNe, Nat.reduceMul, fza]
    · rw [decide_eq_true (p := Few7 gs) ⟨h2, hall⟩]
      intro rr
      simp (implicitDefEqProofs := false) (disch := omega) only [W2, opds, Nat.testBit, Nat.reduceAdd, Nat.reduceShiftRight, Nat.reduceAnd, Nat.reduceBNe, Nat.reduceMul, fza]
  · have h2' : ((gs.length : Nat) : Int) > 200 := by omega
    rw [decide_eq_false (p := Few7 gs) fun h => h2 h.1]
    simp (implicitDefEqProofs := false) (disch := omega) only [W2, opds, Nat.testBit, Nat.reduceAdd, Nat.reduceShiftRight, Nat.reduceAnd, Nat.reduceBNe, Nat.reduceMul, m1, k1.len, hbel, decide_eq_true h2']
end Go.Am.C07
namespace Go.Am.C07.K
open Go Go.Am
variable {E : Nat → Option AFn} {Y : Nat → List Value → FM → Nat → OR FM}
theorem ref_L0 (M : FM) (N q : Nat) (hqN : q < N) (g : List Int) (gval : Value) (hg : Ints M N gval g) (hl : g.length < 4611686018427387904) (p : Nat) (disks : Int) (hpN : p < N) (hpd : ld1V M N (.pointer (some ⟨p, 0 + 0, none⟩)) = .ok (.int .i64 disks) M N (bit p) 0)
    (x0 x1 x2 x4 x5 x6 x7 x8 x9 x10 x11 x12 x13 x14 x15 x17 x18 x19 x20 x21 x22 x23 x24 x25 x26 x27 x28 x30 x31 x32 x33 x35 : Value) (hb27 : belowV N x27 = true) : ∀ d j, j + d = g.length →
    Gv (execW PG E Y ac17L0 [x0, x1, x2, .int .i64 (j : Int), x4, x5, x6, x7, x8, x9, x10, x11, x12, x13, x14, x15, gval, x17, x18, x19, x20, x21, x22, x23, x24, x25, x26, x27, x28, .pointer (some ⟨q, 0, none⟩), x30, x31, x32, x33, .pointer (some ⟨p, 0, none⟩), x35] M N) fun X e' m' n' w => m' = M ∧ n' = N ∧ w = 0 ∧
      ((RowFrom disks g j ∧ X = .exit 2 ∧ e' = [x0, x1, x2, .int .i64 (g.length : Int), x4, x5, x6, x7, x8, x9, x10, x11, x12, x13, x14, x15, gval, x17, x18, x19, x20, x21, x22, x23, x24, x25, x26, x27, x28, .pointer (some ⟨q, 0, none⟩), x30, x31, x32, x33, .pointer (some ⟨p, 0, none⟩), x35]) ∨ (¬ RowFrom disks g j ∧ X = .ret errF)) := by
  intro d
  have hbg : belowV N gval = true := Sl.below hg
  have hbp := blt_true hpN
  induction d with
  | zero =>
    intro j hj
    have hjl : (j : Int) = (g.length : Int) := by omega
    have hlt : ¬ ((g.length : Int) < (g.length : Int)) := by omega
    rw [ac17L0_w, hjl]
    simp only [ac17L0b, Gv_add, w_seq, v_reg, q_cons, q_nil, q_nop, q_op, q_eff, q_opg, q_effg, keep_ok, drop1_ok, out_ok, crRec_mk, onNorm_norm, onNorm_exit, onNorm_ret, addRW_mk, w_cond, onCond_mk, w_block, onBlock_norm, onBlock_ret, onBlock_exit, w_pre, w_post, onPost_norm, onPost_exit, onPost_ret, w_exit, w_ret, onRet_mk, res_nil, res_cons, resO_v, retV_one, fixE_mk, lmap_nil, lmap_cons, ldrop_z, ldrop_s, ev_v, ev_c, lget_z, lget_s, evs_nil, evs_cons, s_mov, s_pick, s_bin, s_una, s_conv, s_fld, s_idx, s_ida, s_build, s_extr, s_nilck, s_len, s_mx, s_ld1, s_ldn, s_st, s_call, s_new, s_box, s_make, s_app, bin_int, i_add, i_sub, i_mul, i_eql, i_neq, i_lss, i_gtr, i_leq, i_geq, pick_mk, wantB_mk, una_not, fld_mk, nilck_mk, valO_some, lor_zero', zero_lor', cond_true, cond_false, Nat.beq_refl, natOf_mk, natOf_zero, natOf_one, obind_some, w_skip, Bool.not_true, Bool.not_false, wantB_undef, newb_fm, ptrP_mk, slcP_mk, cells_agg, hg.len, hlt, decide_false]
    exact ⟨rfl, rfl, rfl, .inl ⟨rowFrom_end (by omega), rfl, rfl⟩⟩
  | succ d ih =>
    intro j hj
    have hlt : (j : Int) < (g.length : Int) := by omega
    have hjl : j < g.length := by omega
    obtain ⟨a, b, hix, hld, hb⟩ := hg.at hjl
    have hba := idx_block hix hbg
    have hw : IntKind.i64.wrap ((j : Int) + 1) = ((j + 1 : Nat) : Int) := by rw [wrap_small (by omega) (by omega)]; omega
    have hiff := placeOk_iff (disks := disks) hjl
    have hstep := rowFrom_step (disks := disks) hjl
    rw [ac17L0_w]
    by_cases h1 : g[j] < 0
    · simp (implicitDefEqProofs := false) only [ac17L0b, Gv_add, w_seq, v_reg, q_cons, q_nil, q_nop, q_op, q_eff, q_opg, q_effg, keep_ok, drop1_ok, out_ok, crRec_mk, onNorm_norm, onNorm_exit, onNorm_ret, addRW_mk, w_cond, onCond_mk, w_block, onBlock_norm, onBlock_ret, onBlock_exit, w_pre, w_post, onPost_norm, onPost_exit, onPost_ret, w_exit, w_ret, onRet_mk, res_nil, res_cons, resO_v, retV_one, fixE_mk, lmap_nil, lmap_cons, ldrop_z, ldrop_s, ev_v, ev_c, lget_z, lget_s, evs_nil, evs_cons, s_mov, s_pick, s_bin, s_una, s_conv, s_fld, s_idx, s_ida, s_build, s_extr, s_nilck, s_len, s_mx, s_ld1, s_ldn, s_st, s_call, s_new, s_box, s_make, s_app, bin_int, i_add, i_sub, i_mul, i_eql, i_neq, i_lss, i_gtr, i_leq, i_geq, pick_mk, wantB_mk, una_not, fld_mk, nilck_mk, valO_some, lor_zero', zero_lor', cond_true, cond_false, Nat.beq_refl, natOf_mk, natOf_zero, natOf_one, obind_some, w_skip, Bool.not_true, Bool.not_false, wantB_undef, newb_fm, ptrP_mk, slcP_mk, cells_agg, u_regD, isOkC_ok, belowV_undef, belowV_addr, z_nil, z_cons, y_nil, y_cons, y_nop, y_op, y_eff, y_opg, y_effg, keepD_ok, outX_ok, apart_nil, apart_cons, zero_land', land_zero', stepD_ok', below_all, opds, List.all_cons, List.all_nil, belowV_int, belowV_bool, belowV_ptr, belowV_nils, Bool.and_self, Bool.and_true, Bool.true_and, Bool.or_true, Bool.true_or, Bool.false_or, Nat.reduceAdd, Nat.testBit, Nat.reduceShiftRight, Nat.reduceAnd, Nat.reduceBNe, belowV_addr, hg.len, hlt, decide_true, hix, hld, hba, hbg, hb27, h1, retV_three]
      exact ⟨rfl, rfl, rfl, .inr ⟨fun h => by have := (hiff.1 (hstep.1 h).1).1; omega, rfl⟩⟩
    · by_cases h2 : disks ≤ g[j]
      · simp (implicitDefEqProofs := false) only [ac17L0b, Gv_add, w_seq, v_reg, q_cons, q_nil, q_nop, q_op, q_eff, q_opg, q_effg, keep_ok, drop1_ok, out_ok, crRec_mk, onNorm_norm, onNorm_exit, onNorm_ret, addRW_mk, w_cond, onCond_mk, w_block, onBlock_norm, onBlock_ret, onBlock_exit, w_pre, w_post, onPost_norm, onPost_exit, onPost_ret, w_exit, w_ret, onRet_mk, res_nil, res_cons, resO_v, retV_one, fixE_mk, lmap_nil, lmap_cons, ldrop_z, ldrop_s, ev_v, ev_c, lget_z, lget_s, evs_nil, evs_cons, s_mov, s_pick, s_bin, s_una, s_conv, s_fld, s_idx, s_ida, s_build, s_extr, s_nilck, s_len, s_mx, s_ld1, s_ldn, s_st, s_call, s_new, s_box, s_make, s_app, bin_int, i_add, i_sub, i_mul, i_eql, i_neq, i_lss, i_gtr, i_leq, i_geq, pick_mk, wantB_mk, una_not, fld_mk, nilck_mk, valO_some, lor_zero', zero_lor', cond_true, cond_false, Nat.beq_refl, natOf_mk, natOf_zero, natOf_one, obind_some, w_skip, Bool.not_true, Bool.not_false, wantB_undef, newb_fm, ptrP_mk, slcP_mk, cells_agg, u_regD, isOkC_ok, belowV_undef, belowV_addr, z_nil, z_cons, y_nil, y_cons, y_nop, y_op, y_eff, y_opg, y_effg, keepD_ok, outX_ok, apart_nil, apart_cons, zero_land', land_zero', stepD_ok', below_all, opds, List.all_cons, List.all_nil, belowV_int, belowV_bool, belowV_ptr, belowV_nils, Bool.and_self, Bool.and_true, Bool.true_and, Bool.or_true, Bool.true_or, Bool.false_or, Nat.reduceAdd, Nat.testBit, Nat.reduceShiftRight, Nat.reduceAnd, Nat.reduceBNe, belowV_addr, hg.len, hlt, decide_true, decide_false, hix, hld, hba, hbg, hb27, hbp, hpd, h1, h2, retV_three]
        exact ⟨rfl, rfl, rfl, .inr ⟨fun h => by have := (hiff.1 (hstep.1 h).1).2.1; omega, rfl⟩⟩
      · by_cases h3 : 0 < (j : Int)
        · obtain ⟨a2, b2, hix2, hld2, hb2⟩ := hg.at (i := j - 1) (by omega)
          have hba2 := idx_block hix2 hbg
          have hw2 : IntKind.i64.wrap ((j : Int) - 1) = ((j - 1 : Nat) : Int) := by rw [wrap_small (by omega) (by omega)]; omega
          by_cases h4 : g[j] ≤ g[j - 1]
          · simp (implicitDefEqProofs := false) only [ac17L0b, Gv_add, w_seq, v_reg, q_cons, q_nil, q_nop, q_op, q_eff, q_opg, q_effg, keep_ok, drop1_ok, out_ok, crRec_mk, onNorm_norm, onNorm_exit, onNorm_ret, addRW_mk, w_cond, onCond_mk, w_block, onBlock_norm, onBlock_ret, onBlock_exit, w_pre, w_post, onPost_norm, onPost_exit, onPost_ret, w_exit, w_ret, onRet_mk, res_nil, res_cons, resO_v, retV_one, fixE_mk, lmap_nil, lmap_cons, ldrop_z, ldrop_s, ev_v, ev_c, lget_z, lget_s, evs_nil, evs_cons, s_mov, s_pick, s_bin, s_una, s_conv, s_fld, s_idx, s_ida, s_build, s_extr, s_nilck, s_len, s_mx, s_ld1, s_ldn, s_st, s_call, s_new, s_box, s_make, s_app, bin_int, i_add, i_sub, i_mul, i_eql, i_neq, i_lss, i_gtr, i_leq, i_geq, pick_mk, wantB_mk, una_not, fld_mk, nilck_mk, valO_some, lor_zero', zero_lor', cond_true, cond_false, Nat.beq_refl, natOf_mk, natOf_zero, natOf_one, obind_some, w_skip, Bool.not_true, Bool.not_false, wantB_undef, newb_fm, ptrP_mk, slcP_mk, cells_agg, u_regD, isOkC_ok, belowV_undef, belowV_addr, z_nil, z_cons, y_nil, y_cons, y_nop, y_op, y_eff, y_opg, y_effg, keepD_ok, outX_ok, apart_nil, apart_cons, zero_land', land_zero', stepD_ok', below_all, opds, List.all_cons, List.all_nil, belowV_int, belowV_bool, belowV_ptr, belowV_nils, Bool.and_self, Bool.and_true, Bool.true_and, Bool.or_true, Bool.true_or, Bool.false_or, Nat.reduceAdd, Nat.testBit, Nat.reduceShiftRight, Nat.reduceAnd, Nat.reduceBNe, belowV_addr, hg.len, hlt, decide_true, decide_false, hix, hld, hba, hbg, hb27, hbp, hpd, h1, h2, h3, hw2, hix2, hld2, hba2, h4, retV_three]
            exact ⟨rfl, rfl, rfl, .inr ⟨fun h => by have := (hiff.1 (hstep.1 h).1).2.2 (by omega); omega, rfl⟩⟩
          · simp (implicitDefEqProofs := false) only [ac17L0b, Gv_add, w_seq, v_reg, q_cons, q_nil, q_nop, q_op, q_eff, q_opg, q_effg, keep_ok, drop1_ok, out_ok, crRec_mk, onNorm_norm, onNorm_exit, onNorm_ret, addRW_mk, w_cond, onCond_mk, w_block, onBlock_norm, onBlock_ret, onBlock_exit, w_pre, w_post, onPost_norm, onPost_exit, onPost_ret, w_exit, w_ret, onRet_mk, res_nil, res_cons, resO_v, retV_one, fixE_mk, lmap_nil, lmap_cons, ldrop_z, ldrop_s, ev_v, ev_c, lget_z, lget_s, evs_nil, evs_cons, s_mov, s_pick, s_bin, s_una, s_conv, s_fld, s_idx, s_ida, s_build, s_extr, s_nilck, s_len, s_mx, s_ld1, s_ldn, s_st, s_call, s_new, s_box, s_make, s_app, bin_int, i_add, i_sub, i_mul, i_eql, i_neq, i_lss, i_gtr, i_leq, i_geq, pick_mk, wantB_mk, una_not, fld_mk, nilck_mk, valO_some, lor_zero', zero_lor', cond_true, cond_false, Nat.beq_refl, natOf_mk, natOf_zero, natOf_one, obind_some, w_skip, Bool.not_true, Bool.not_false, wantB_undef, newb_fm, ptrP_mk, slcP_mk, cells_agg, u_regD, isOkC_ok, belowV_undef, belowV_addr, z_nil, z_cons, y_nil, y_cons, y_nop, y_op, y_eff, y_opg, y_effg, keepD_ok, outX_ok, apart_nil, apart_cons, zero_land', land_zero', stepD_ok', below_all, opds, List.all_cons, List.all_nil, belowV_int, belowV_bool, belowV_ptr, belowV_nils, Bool.and_self, Bool.and_true, Bool.true_and, Bool.or_true, Bool.true_or, Bool.false_or, Nat.reduceAdd, Nat.testBit, Nat.reduceShiftRight, Nat.reduceAnd, Nat.reduceBNe, belowV_addr, hg.len, hlt, decide_true, decide_false, hix, hld, hba, hbg, hb27, hbp, hpd, h1, h2, h3, hw2, hix2, hld2, hba2, h4, retV_three, hw]
            refine Gv.mono (ih (j + 1) (by omega)) fun X e' m' n' w h => ?_
            have : (0 ≤ g[j] ∧ g[j] < disks ∧ (0 < j → g[j - 1] < g[j])) := ⟨by omega, by omega, fun _ => by omega⟩
            have hr : RowFrom disks g j ↔ RowFrom disks g (j + 1) := by rw [hstep, hiff]; exact ⟨fun h => h.2, fun h => ⟨this, h⟩⟩
            rw [hr]
            simpa only [zero_lor'] using h
        · simp (implicitDefEqProofs := false) only [ac17L0b, Gv_add, w_seq, v_reg, q_cons, q_nil, q_nop, q_op, q_eff, q_opg, q_effg, keep_ok, drop1_ok, out_ok, crRec_mk, onNorm_norm, onNorm_exit, onNorm_ret, addRW_mk, w_cond, onCond_mk, w_block, onBlock_norm, onBlock_ret, onBlock_exit, w_pre, w_post, onPost_norm, onPost_exit, onPost_ret, w_exit, w_ret, onRet_mk, res_nil, res_cons, resO_v, retV_one, fixE_mk, lmap_nil, lmap_cons, ldrop_z, ldrop_s, ev_v, ev_c, lget_z, lget_s, evs_nil, evs_cons, s_mov, s_pick, s_bin, s_una, s_conv, s_fld, s_idx, s_ida, s_build, s_extr, s_nilck, s_len, s_mx, s_ld1, s_ldn, s_st, s_call, s_new, s_box, s_make, s_app, bin_int, i_add, i_sub, i_mul, i_eql, i_neq, i_lss, i_gtr, i_leq, i_geq, pick_mk, wantB_mk, una_not, fld_mk, nilck_mk, valO_some, lor_zero', zero_lor', cond_true, cond_false, Nat.beq_refl, natOf_mk, natOf_zero, natOf_one, obind_some, w_skip, Bool.not_true, Bool.not_false, wantB_undef, newb_fm, ptrP_mk, slcP_mk, cells_agg, u_regD, isOkC_ok, belowV_undef, belowV_addr, z_nil, z_cons, y_nil, y_cons, y_nop, y_op, y_eff, y_opg, y_effg, keepD_ok, outX_ok, apart_nil, apart_cons, zero_land', land_zero', stepD_ok', below_all, opds, List.all_cons, List.all_nil, belowV_int, belowV_bool, belowV_ptr, belowV_nils, Bool.and_self, Bool.and_true, Bool.true_and, Bool.or_true, Bool.true_or, Bool.false_or, Nat.reduceAdd, Nat.testBit, Nat.reduceShiftRight, Nat.reduceAnd, Nat.reduceBNe, belowV_addr, hg.len, hlt, decide_true, decide_false, hix, hld, hba, hbg, hb27, hbp, hpd, h1, h2, h3, retV_three, hw]
          refine Gv.mono (ih (j + 1) (by omega)) fun X e' m' n' w h => ?_
          have : (0 ≤ g[j] ∧ g[j] < disks ∧ (0 < j → g[j - 1] < g[j])) := ⟨by omega, by omega, fun _ => by omega⟩
          have hr : RowFrom disks g j ↔ RowFrom disks g (j + 1) := by rw [hstep, hiff]; exact ⟨fun h => h.2, fun h => ⟨this, h⟩⟩
          rw [hr]
          simpa only [zero_lor'] using h
end Go.Am.C07.K
namespace Go.Am.C07.K
open Go Go.Am
variable {E : Nat → Option AFn} {Y : Nat → List Value → FM → Nat → OR FM}
theorem ref_L1 (M : FM) (N q n0 : Nat) (hqN : q < N) (hn0 : n0 ≤ q) (g : List Int) (gval : Value) (hg : ∀ A, Ints (arr M q A) N gval g) (hl : g.length < 4611686018427387904) (hin : ∀ (i : Nat) (x : Int), g[i]? = some x → 0 ≤ x ∧ x < 60) (a : Nat) (ha : a < 60) (i : Nat) (hi : i < g.length) (hai : g[i] = (a : Int))
    (x1 x2 x3 x5 x6 x7 x8 x9 x10 x11 x12 x13 x14 x15 x16 x17 x18 x19 x20 x21 x23 x24 x25 x26 x27 x28 x29 x30 x31 x32 x33 x34 x36 x37 x38 x39 x40 x41 : Value) : ∀ d j, j + d = g.length → ∀ A : List Int, A.length = 3600 →
    Gv (execW PG E Y ac17L1 [.int .i64 (j : Int), x1, x2, x3, .int .i64 (i : Int), x5, x6, x7, x8, x9, x10, x11, x12, x13, x14, x15, x16, x17, x18, x19, x20, x21, gval, x23, x24, x25, x26, x27, x28, x29, x30, x31, x32, x33, x34, .pointer (some ⟨q, 0, none⟩), x36, x37, x38, x39, x40, x41] (arr M q A) N) fun X e' m' n' w =>
      X = .exit 6 ∧ e' = [.int .i64 (g.length : Int), x1, x2, x3, .int .i64 (i : Int), x5, x6, x7, x8, x9, x10, x11, x12, x13, x14, x15, x16, x17, x18, x19, x20, x21, gval, x23, x24, x25, x26, x27, x28, x29, x30, x31, x32, x33, x34, .pointer (some ⟨q, 0, none⟩), x36, x37, x38, x39, x40, x41] ∧ m' = arr M q (bumpRow A a (g.drop j)) ∧ n' = N ∧ Nat.mod w (bit n0) = 0 := by
  intro d
  induction d with
  | zero =>
    intro j hj A hA
    have hjl : (j : Int) = (g.length : Int) := by omega
    have hlt : ¬ ((g.length : Int) < (g.length : Int)) := by omega
    rw [ac17L1_w, hjl]
    simp only [ac17L1b, Gv_add, w_seq, v_reg, q_cons, q_nil, q_nop, q_op, q_eff, q_opg, q_effg, keep_ok, drop1_ok, out_ok, crRec_mk, onNorm_norm, onNorm_exit, onNorm_ret, addRW_mk, w_cond, onCond_mk, w_block, onBlock_norm, onBlock_ret, onBlock_exit, w_pre, w_post, onPost_norm, onPost_exit, onPost_ret, w_exit, w_ret, onRet_mk, res_nil, res_cons, resO_v, retV_one, fixE_mk, lmap_nil, lmap_cons, ldrop_z, ldrop_s, ev_v, ev_c, lget_z, lget_s, evs_nil, evs_cons, s_mov, s_pick, s_bin, s_una, s_conv, s_fld, s_idx, s_ida, s_build, s_extr, s_nilck, s_len, s_mx, s_ld1, s_ldn, s_st, s_call, s_new, s_box, s_make, s_app, bin_int, i_add, i_sub, i_mul, i_eql, i_neq, i_lss, i_gtr, i_leq, i_geq, pick_mk, wantB_mk, una_not, fld_mk, nilck_mk, valO_some, lor_zero', zero_lor', cond_true, cond_false, Nat.beq_refl, natOf_mk, natOf_zero, natOf_one, obind_some, w_skip, Bool.not_true, Bool.not_false, wantB_undef, newb_fm, ptrP_mk, slcP_mk, cells_agg, (hg A).len, hlt, decide_false]
    exact ⟨rfl, rfl, by rw [List.drop_eq_nil_of_le (by omega)]; rfl, rfl, mod_zero _⟩
  | succ d ih =>
    intro j hj A hA
    have hlt : (j : Int) < (g.length : Int) := by omega
    have hjl : j < g.length := by omega
    have hbg : belowV N gval = true := Sl.below (hg A)
    obtain ⟨p0, b0, hix0, hld0, hb0⟩ := (hg A).at hi
    have hba0 := idx_block hix0 hbg
    rw [hai] at hld0
    obtain ⟨p1, b1, hix, hld, hb⟩ := (hg A).at hjl
    have hba := idx_block hix hbg
    obtain ⟨hx0, hx60⟩ := hin j g[j] (List.getElem?_eq_getElem hjl)
    obtain ⟨b, hbx⟩ : ∃ b : Nat, g[j] = (b : Int) := ⟨g[j].toNat, by omega⟩
    have hb60 : b < 60 := by omega
    rw [hbx] at hld
    have hw : IntKind.i64.wrap ((j : Int) + 1) = ((j + 1 : Nat) : Int) := by rw [wrap_small (by omega) (by omega)]; omega
    have hk : 0 + a * 60 + b * 1 < A.length := by omega
    have hcell : ((A.map (Value.int .i64)))[0 + a * 60 + b * 1]? = some (.int .i64 A[0 + a * 60 + b * 1]) := by simp [List.getElem?_eq_getElem hk]
    have hl1 : ld1V (arr M q A) N (.pointer (some ⟨q, 0 + a * 60 + b * 1, none⟩)) = .ok (.int .i64 A[0 + a * 60 + b * 1]) (arr M q A) N (bit q) 0 := ld1_at hqN (fput_same M q _) hcell
    have hs1 := fun z => st1_at (m := arr M q A) (n := N) (b := q) (o := 0 + a * 60 + b * 1) (x := .int .i64 z) hqN (fput_same M q _) (by simpa using hk) rfl
    have hda : idaV 60 60 a (.pointer (some ⟨q, 0, none⟩)) = _ := ida_ok ha
    have hdb : idaV 60 1 b (.pointer (some ⟨q, 0 + a * 60, none⟩)) = _ := ida_ok hb60
    have hq := blt_true hqN
    rw [ac17L1_w]
    simp (implicitDefEqProofs := false) only [ac17L1b, Gv_add, w_seq, v_reg, q_cons, q_nil, q_nop, q_op, q_eff, q_opg, q_effg, keep_ok, drop1_ok, out_ok, crRec_mk, onNorm_norm, onNorm_exit, onNorm_ret, addRW_mk, w_cond, onCond_mk, w_block, onBlock_norm, onBlock_ret, onBlock_exit, w_pre, w_post, onPost_norm, onPost_exit, onPost_ret, w_exit, w_ret, onRet_mk, res_nil, res_cons, resO_v, retV_one, fixE_mk, lmap_nil, lmap_cons, ldrop_z, ldrop_s, ev_v, ev_c, lget_z, lget_s, evs_nil, evs_cons, s_mov, s_pick, s_bin, s_una, s_conv, s_fld, s_idx, s_ida, s_build, s_extr, s_nilck, s_len, s_mx, s_ld1, s_ldn, s_st, s_call, s_new, s_box, s_make, s_app, bin_int, i_add, i_sub, i_mul, i_eql, i_neq, i_lss, i_gtr, i_leq, i_geq, pick_mk, wantB_mk, una_not, fld_mk, nilck_mk, valO_some, lor_zero', zero_lor', cond_true, cond_false, Nat.beq_refl, natOf_mk, natOf_zero, natOf_one, obind_some, w_skip, Bool.not_true, Bool.not_false, wantB_undef, newb_fm, ptrP_mk, slcP_mk, cells_agg, u_regD, isOkC_ok, belowV_undef, belowV_addr, z_nil, z_cons, y_nil, y_cons, y_nop, y_op, y_eff, y_opg, y_effg, keepD_ok, outX_ok, apart_nil, apart_cons, zero_land', land_zero', stepD_ok', below_all, opds, List.all_cons, List.all_nil, belowV_int, belowV_bool, belowV_ptr, belowV_nils, Bool.and_self, Bool.and_true, Bool.true_and, Bool.or_true, Bool.true_or, Bool.false_or, Nat.reduceAdd, Nat.testBit, Nat.reduceShiftRight, Nat.reduceAnd, Nat.reduceBNe, (hg A).len, hlt, decide_true, hix0, hld0, hba0, hix, hld, hba, hbg, hda, hdb, hl1, cells_int, hs1, hq, hw]
    have hmem : AMem.put (arr M q A) q (some (.cells ((A.map (Value.int .i64)).set (0 + a * 60 + b * 1) (.int .i64 (IntKind.i64.wrap (A[0 + a * 60 + b * 1] + 1)))) 0 false true)) = arr M q (bump A (60 * a + b)) := by
      have e : 60 * a + b = 0 + a * 60 + b * 1 := by omega
      have hset : (A.map (Value.int .i64)).set (0 + a * 60 + b * 1) (.int .i64 (IntKind.i64.wrap (A[0 + a * 60 + b * 1] + 1))) = (A.set (0 + a * 60 + b * 1) (IntKind.i64.wrap (A[0 + a * 60 + b * 1] + 1))).map (Value.int .i64) := List.map_set.symm
      rw [hset, arr_arr, bump, e, List.getElem?_eq_getElem hk]; rfl
    rw [hmem]
    refine Gv.mono (ih (j + 1) (by omega) _ (by rw [bump_length, hA])) fun X e' m' n' w h => ?_
    obtain ⟨h1, h2, h3, h4, h5⟩ := h
    refine ⟨h1, h2, ?_, h4, mod_lor' (mod_bit_ge hn0) h5⟩
    rw [h3, List.drop_eq_getElem_cons hjl]
    show _ = arr M q ((g.drop (j + 1)).foldl _ (bump A (60 * a + g[j].toNat)))
    rw [hbx]; rfl
theorem ref_L1_eq (M : FM) (N q n0 : Nat) (hqN : q < N) (hn0 : n0 ≤ q) (g : List Int) (gval : Value) (hg : ∀ A, Ints (arr M q A) N gval g) (hl : g.length < 4611686018427387904) (hin : ∀ (i : Nat) (x : Int), g[i]? = some x → 0 ≤ x ∧ x < 60) (a : Nat) (ha : a < 60) (i : Nat) (hi : i < g.length) (hai : g[i] = (a : Int)) (A : List Int) (hA : A.length = 3600) :
    ∃ rf wf : List Value → Nat, ∀ x1 x2 x3 x5 x6 x7 x8 x9 x10 x11 x12 x13 x14 x15 x16 x17 x18 x19 x20 x21 x23 x24 x25 x26 x27 x28 x29 x30 x31 x32 x33 x34 x36 x37 x38 x39 x40 x41, execW PG E Y ac17L1 [.int .i64 0, x1, x2, x3, .int .i64 (i : Int), x5, x6, x7, x8, x9, x10, x11, x12, x13, x14, x15, x16, x17, x18, x19, x20, x21, gval, x23, x24, x25, x26, x27, x28, x29, x30, x31, x32, x33, x34, .pointer (some ⟨q, 0, none⟩), x36, x37, x38, x39, x40, x41] (arr M q A) N = .ok (.exit 6) [.int .i64 (g.length : Int), x1, x2, x3, .int .i64 (i : Int), x5, x6, x7, x8, x9, x10, x11, x12, x13, x14, x15, x16, x17, x18, x19, x20, x21, gval, x23, x24, x25, x26, x27, x28, x29, x30, x31, x32, x33, x34, .pointer (some ⟨q, 0, none⟩), x36, x37, x38, x39, x40, x41] (arr M q (bumpRow A a g)) N (rf [.int .i64 0, x1, x2, x3, .int .i64 (i : Int), x5, x6, x7, x8, x9, x10, x11, x12, x13, x14, x15, x16, x17, x18, x19, x20, x21, gval, x23, x24, x25, x26, x27, x28, x29, x30, x31, x32, x33, x34, .pointer (some ⟨q, 0, none⟩), x36, x37, x38, x39, x40, x41]) (wf [.int .i64 0, x1, x2, x3, .int .i64 (i : Int), x5, x6, x7, x8, x9, x10, x11, x12, x13, x14, x15, x16, x17, x18, x19, x20, x21, gval, x23, x24, x25, x26, x27, x28, x29, x30, x31, x32, x33, x34, .pointer (some ⟨q, 0, none⟩), x36, x37, x38, x39, x40, x41]) ∧ Nat.mod (wf [.int .i64 0, x1, x2, x3, .int .i64 (i : Int), x5, x6, x7, x8, x9, x10, x11, x12, x13, x14, x15, x16, x17, x18, x19, x20, x21, gval, x23, x24, x25, x26, x27, x28, x29, x30, x31, x32, x33, x34, .pointer (some ⟨q, 0, none⟩), x36, x37, x38, x39, x40, x41]) (bit n0) = 0 := by
  obtain ⟨rf, wf, h⟩ := named_w (fun l => execW PG E Y ac17L1 l (arr M q A) N)
  refine ⟨rf, wf, fun x1 x2 x3 x5 x6 x7 x8 x9 x10 x11 x12 x13 x14 x15 x16 x17 x18 x19 x20 x21 x23 x24 x25 x26 x27 x28 x29 x30 x31 x32 x33 x34 x36 x37 x38 x39 x40 x41 => ?_⟩
  obtain ⟨X, e', m', n', r, w, hx, h1, h2, h3, h4, h5⟩ := Gv_some (ref_L1 (E := E) (Y := Y) M N q n0 hqN hn0 g gval hg hl hin a ha i hi hai x1 x2 x3 x5 x6 x7 x8 x9 x10 x11 x12 x13 x14 x15 x16 x17 x18 x19 x20 x21 x23 x24 x25 x26 x27 x28 x29 x30 x31 x32 x33 x34 x36 x37 x38 x39 x40 x41 g.length 0 (by omega) A hA)
  obtain ⟨hr, hw⟩ := h _ _ _ _ _ _ _ hx
  have hr' : rf [.int .i64 0, x1, x2, x3, .int .i64 (i : Int), x5, x6, x7, x8, x9, x10, x11, x12, x13, x14, x15, x16, x17, x18, x19, x20, x21, gval, x23, x24, x25, x26, x27, x28, x29, x30, x31, x32, x33, x34, .pointer (some ⟨q, 0, none⟩), x36, x37, x38, x39, x40, x41] = r := hr
  have hw' : wf [.int .i64 0, x1, x2, x3, .int .i64 (i : Int), x5, x6, x7, x8, x9, x10, x11, x12, x13, x14, x15, x16, x17, x18, x19, x20, x21, gval, x23, x24, x25, x26, x27, x28, x29, x30, x31, x32, x33, x34, .pointer (some ⟨q, 0, none⟩), x36, x37, x38, x39, x40, x41] = w := hw
  rw [hr', hw']
  subst h1; subst h2; subst h3; subst h4
  exact ⟨hx, h5⟩

theorem ref_L2 (M : FM) (N q n0 : Nat) (hqN : q < N) (hn0 : n0 ≤ q) (g : List Int) (gval : Value) (hg : ∀ A, Ints (arr M q A) N gval g) (hl : g.length < 4611686018427387904) (hin : ∀ (i : Nat) (x : Int), g[i]? = some x → 0 ≤ x ∧ x < 60) (x1 x2 x3 x4 x5 x6 x7 x8 x9 x10 x11 x12 x13 x14 x15 x16 x17 x19 x20 x21 x22 x23 x24 x25 x26 x27 x28 x29 x30 x32 x33 x34 x35 x36 x37 : Value) : ∀ d i, i + d = g.length → ∀ A : List Int, A.length = 3600 →
    Gv (execW PG E Y ac17L2 [.int .i64 (i : Int), x1, x2, x3, x4, x5, x6, x7, x8, x9, x10, x11, x12, x13, x14, x15, x16, x17, gval, x19, x20, x21, x22, x23, x24, x25, x26, x27, x28, x29, x30, .pointer (some ⟨q, 0, none⟩), x32, x33, x34, x35, x36, x37] (arr M q A) N) fun X e' m' n' w =>
      X = .exit 4 ∧ e' = [.int .i64 (g.length : Int), x1, x2, x3, x4, x5, x6, x7, x8, x9, x10, x11, x12, x13, x14, x15, x16, x17, gval, x19, x20, x21, x22, x23, x24, x25, x26, x27, x28, x29, x30, .pointer (some ⟨q, 0, none⟩), x32, x33, x34, x35, x36, x37] ∧ m' = arr M q (bumpGroup A g (g.drop i)) ∧ n' = N ∧ Nat.mod w (bit n0) = 0 := by
  intro d
  induction d with
  | zero =>
    intro j hj A hA
    have hjl : (j : Int) = (g.length : Int) := by omega
    have hlt : ¬ ((g.length : Int) < (g.length : Int)) := by omega
    rw [ac17L2_w, hjl]
    simp only [ac17L2b, Gv_add, w_seq, v_reg, q_cons, q_nil, q_nop, q_op, q_eff, q_opg, q_effg, keep_ok, drop1_ok, out_ok, crRec_mk, onNorm_norm, onNorm_exit, onNorm_ret, addRW_mk, w_cond, onCond_mk, w_block, onBlock_norm, onBlock_ret, onBlock_exit, w_pre, w_post, onPost_norm, onPost_exit, onPost_ret, w_exit, w_ret, onRet_mk, res_nil, res_cons, resO_v, retV_one, fixE_mk, lmap_nil, lmap_cons, ldrop_z, ldrop_s, ev_v, ev_c, lget_z, lget_s, evs_nil, evs_cons, s_mov, s_pick, s_bin, s_una, s_conv, s_fld, s_idx, s_ida, s_build, s_extr, s_nilck, s_len, s_mx, s_ld1, s_ldn, s_st, s_call, s_new, s_box, s_make, s_app, bin_int, i_add, i_sub, i_mul, i_eql, i_neq, i_lss, i_gtr, i_leq, i_geq, pick_mk, wantB_mk, una_not, fld_mk, nilck_mk, valO_some, lor_zero', zero_lor', cond_true, cond_false, Nat.beq_refl, natOf_mk, natOf_zero, natOf_one, obind_some, w_skip, Bool.not_true, Bool.not_false, wantB_undef, newb_fm, ptrP_mk, slcP_mk, cells_agg, (hg A).len, hlt, decide_false]
    exact ⟨rfl, rfl, by rw [List.drop_eq_nil_of_le (by omega)]; rfl, rfl, mod_zero _⟩
  | succ d ih =>
    intro j hj A hA
    have hlt : (j : Int) < (g.length : Int) := by omega
    have hjl : j < g.length := by omega
    obtain ⟨hx0, hx60⟩ := hin j g[j] (List.getElem?_eq_getElem hjl)
    obtain ⟨a, hax⟩ : ∃ a : Nat, g[j] = (a : Int) := ⟨g[j].toNat, by omega⟩
    have ha60 : a < 60 := by omega
    have hw : IntKind.i64.wrap ((j : Int) + 1) = ((j + 1 : Nat) : Int) := by rw [wrap_small (by omega) (by omega)]; omega
    obtain ⟨rf, wf, hin2⟩ := ref_L1_eq (E := E) (Y := Y) M N q n0 hqN hn0 g gval hg hl hin a ha60 j hjl hax A hA
    have heq := fun x1 x2 x3 x5 x6 x7 x8 x9 x10 x11 x12 x13 x14 x15 x16 x17 x18 x19 x20 x21 x23 x24 x25 x26 x27 x28 x29 x30 x31 x32 x33 x34 x36 x37 x38 x39 x40 x41 => (hin2 x1 x2 x3 x5 x6 x7 x8 x9 x10 x11 x12 x13 x14 x15 x16 x17 x18 x19 x20 x21 x23 x24 x25 x26 x27 x28 x29 x30 x31 x32 x33 x34 x36 x37 x38 x39 x40 x41).1
    have hmod := fun x1 x2 x3 x5 x6 x7 x8 x9 x10 x11 x12 x13 x14 x15 x16 x17 x18 x19 x20 x21 x23 x24 x25 x26 x27 x28 x29 x30 x31 x32 x33 x34 x36 x37 x38 x39 x40 x41 => (hin2 x1 x2 x3 x5 x6 x7 x8 x9 x10 x11 x12 x13 x14 x15 x16 x17 x18 x19 x20 x21 x23 x24 x25 x26 x27 x28 x29 x30 x31 x32 x33 x34 x36 x37 x38 x39 x40 x41).2
    rw [ac17L2_w]
    simp only [ac17L2b, Gv_add, w_seq, v_reg, q_cons, q_nil, q_nop, q_op, q_eff, q_opg, q_effg, keep_ok, drop1_ok, out_ok, crRec_mk, onNorm_norm, onNorm_exit, onNorm_ret, addRW_mk, w_cond, onCond_mk, w_block, onBlock_norm, onBlock_ret, onBlock_exit, w_pre, w_post, onPost_norm, onPost_exit, onPost_ret, w_exit, w_ret, onRet_mk, res_nil, res_cons, resO_v, retV_one, fixE_mk, lmap_nil, lmap_cons, ldrop_z, ldrop_s, ev_v, ev_c, lget_z, lget_s, evs_nil, evs_cons, s_mov, s_pick, s_bin, s_una, s_conv, s_fld, s_idx, s_ida, s_build, s_extr, s_nilck, s_len, s_mx, s_ld1, s_ldn, s_st, s_call, s_new, s_box, s_make, s_app, bin_int, i_add, i_sub, i_mul, i_eql, i_neq, i_lss, i_gtr, i_leq, i_geq, pick_mk, wantB_mk, una_not, fld_mk, nilck_mk, valO_some, lor_zero', zero_lor', cond_true, cond_false, Nat.beq_refl, natOf_mk, natOf_zero, natOf_one, obind_some, w_skip, Bool.not_true, Bool.not_false, wantB_undef, newb_fm, ptrP_mk, slcP_mk, cells_agg, (hg A).len, hlt, decide_true, hw, heq]
    refine Gv.mono (ih (j + 1) (by omega) _ (by rw [bumpRow_length, hA])) fun X e' m' n' w h => ?_
    obtain ⟨h1, h2, h3, h4, h5⟩ := h
    refine ⟨h1, h2, ?_, h4, mod_lor' (hmod ..) h5⟩
    rw [h3, List.drop_eq_getElem_cons hjl]
    show _ = arr M q (bumpGroup (bumpRow A g[j].toNat g) g (g.drop (j + 1)))
    rw [hax]; rfl
theorem ref_L2_eq (M : FM) (N q n0 : Nat) (hqN : q < N) (hn0 : n0 ≤ q) (g : List Int) (gval : Value) (hg : ∀ A, Ints (arr M q A) N gval g) (hl : g.length < 4611686018427387904) (hin : ∀ (i : Nat) (x : Int), g[i]? = some x → 0 ≤ x ∧ x < 60) (A : List Int) (hA : A.length = 3600) :
    ∃ rf wf : List Value → Nat, ∀ x1 x2 x3 x4 x5 x6 x7 x8 x9 x10 x11 x12 x13 x14 x15 x16 x17 x19 x20 x21 x22 x23 x24 x25 x26 x27 x28 x29 x30 x32 x33 x34 x35 x36 x37, execW PG E Y ac17L2 [.int .i64 0, x1, x2, x3, x4, x5, x6, x7, x8, x9, x10, x11, x12, x13, x14, x15, x16, x17, gval, x19, x20, x21, x22, x23, x24, x25, x26, x27, x28, x29, x30, .pointer (some ⟨q, 0, none⟩), x32, x33, x34, x35, x36, x37] (arr M q A) N = .ok (.exit 4) [.int .i64 (g.length : Int), x1, x2, x3, x4, x5, x6, x7, x8, x9, x10, x11, x12, x13, x14, x15, x16, x17, gval, x19, x20, x21, x22, x23, x24, x25, x26, x27, x28, x29, x30, .pointer (some ⟨q, 0, none⟩), x32, x33, x34, x35, x36, x37] (arr M q (bumpGroup A g g)) N (rf [.int .i64 0, x1, x2, x3, x4, x5, x6, x7, x8, x9, x10, x11, x12, x13, x14, x15, x16, x17, gval, x19, x20, x21, x22, x23, x24, x25, x26, x27, x28, x29, x30, .pointer (some ⟨q, 0, none⟩), x32, x33, x34, x35, x36, x37]) (wf [.int .i64 0, x1, x2, x3, x4, x5, x6, x7, x8, x9, x10, x11, x12, x13, x14, x15, x16, x17, gval, x19, x20, x21, x22, x23, x24, x25, x26, x27, x28, x29, x30, .pointer (some ⟨q, 0, none⟩), x32, x33, x34, x35, x36, x37]) ∧ Nat.mod (wf [.int .i64 0, x1, x2, x3, x4, x5, x6, x7, x8, x9, x10, x11, x12, x13, x14, x15, x16, x17, gval, x19, x20, x21, x22, x23, x24, x25, x26, x27, x28, x29, x30, .pointer (some ⟨q, 0, none⟩), x32, x33, x34, x35, x36, x37]) (bit n0) = 0 := by
  obtain ⟨rf, wf, h⟩ := named_w (fun l => execW PG E Y ac17L2 l (arr M q A) N)
  refine ⟨rf, wf, fun x1 x2 x3 x4 x5 x6 x7 x8 x9 x10 x11 x12 x13 x14 x15 x16 x17 x19 x20 x21 x22 x23 x24 x25 x26 x27 x28 x29 x30 x32 x33 x34 x35 x36 x37 => ?_⟩
  obtain ⟨X, e', m', n', r, w, hx, h1, h2, h3, h4, h5⟩ := Gv_some (ref_L2 (E := E) (Y := Y) M N q n0 hqN hn0 g gval hg hl hin x1 x2 x3 x4 x5 x6 x7 x8 x9 x10 x11 x12 x13 x14 x15 x16 x17 x19 x20 x21 x22 x23 x24 x25 x26 x27 x28 x29 x30 x32 x33 x34 x35 x36 x37 g.length 0 (by omega) A hA)
  obtain ⟨hr, hw⟩ := h _ _ _ _ _ _ _ hx
  have hr' : rf [.int .i64 0, x1, x2, x3, x4, x5, x6, x7, x8, x9, x10, x11, x12, x13, x14, x15, x16, x17, gval, x19, x20, x21, x22, x23, x24, x25, x26, x27, x28, x29, x30, .pointer (some ⟨q, 0, none⟩), x32, x33, x34, x35, x36, x37] = r := hr
  have hw' : wf [.int .i64 0, x1, x2, x3, x4, x5, x6, x7, x8, x9, x10, x11, x12, x13, x14, x15, x16, x17, gval, x19, x20, x21, x22, x23, x24, x25, x26, x27, x28, x29, x30, .pointer (some ⟨q, 0, none⟩), x32, x33, x34, x35, x36, x37] = w := hw
  rw [hr', hw']
  subst h1; subst h2; subst h3; subst h4
  exact ⟨hx, h5⟩

end Go.Am.C07.K
namespace Go.Am.C07.K
open Go Go.Am
variable {E : Nat → Option AFn} {Y : Nat → List Value → FM → Nat → OR FM}
theorem ref_L0_yes (M : FM) (N q : Nat) (hqN : q < N) (g : List Int) (gval : Value) (hg : Ints M N gval g) (hl : g.length < 4611686018427387904) (p : Nat) (disks : Int) (hpN : p < N) (hpd : ld1V M N (.pointer (some ⟨p, 0 + 0, none⟩)) = .ok (.int .i64 disks) M N (bit p) 0) (hr : RowFrom disks g 0) :
    ∃ rf : List Value → Nat, ∀ (t : Int) x0 x1 x2 x4 x5 x6 x7 x8 x9 x10 x11 x12 x13 x14 x15 x17 x18 x19 x20 x21 x22 x23 x24 x25 x26 x28 x30 x31 x32 x33 x35, execW PG E Y ac17L0 [x0, x1, x2, .int .i64 0, x4, x5, x6, x7, x8, x9, x10, x11, x12, x13, x14, x15, gval, x17, x18, x19, x20, x21, x22, x23, x24, x25, x26, .int .i64 t, x28, .pointer (some ⟨q, 0, none⟩), x30, x31, x32, x33, .pointer (some ⟨p, 0, none⟩), x35] M N = .ok (.exit 2) [x0, x1, x2, .int .i64 (g.length : Int), x4, x5, x6, x7, x8, x9, x10, x11, x12, x13, x14, x15, gval, x17, x18, x19, x20, x21, x22, x23, x24, x25, x26, .int .i64 t, x28, .pointer (some ⟨q, 0, none⟩), x30, x31, x32, x33, .pointer (some ⟨p, 0, none⟩), x35] M N (rf [x0, x1, x2, .int .i64 0, x4, x5, x6, x7, x8, x9, x10, x11, x12, x13, x14, x15, gval, x17, x18, x19, x20, x21, x22, x23, x24, x25, x26, .int .i64 t, x28, .pointer (some ⟨q, 0, none⟩), x30, x31, x32, x33, .pointer (some ⟨p, 0, none⟩), x35]) 0 := by
  obtain ⟨rf, ef, h⟩ := named_r (fun l => execW PG E Y ac17L0 l M N)
  refine ⟨rf, fun t x0 x1 x2 x4 x5 x6 x7 x8 x9 x10 x11 x12 x13 x14 x15 x17 x18 x19 x20 x21 x22 x23 x24 x25 x26 x28 x30 x31 x32 x33 x35 => ?_⟩
  rw [(h _).1]
  refine gv_norm (Gv.mono (ref_L0 (E := E) (Y := Y) M N q hqN g gval hg hl p disks hpN hpd x0 x1 x2 x4 x5 x6 x7 x8 x9 x10 x11 x12 x13 x14 x15 x17 x18 x19 x20 x21 x22 x23 x24 x25 x26 (.int .i64 t) x28 x30 x31 x32 x33 x35 rfl g.length 0 (by omega)) fun X e' m' n' w hh => ?_)
  obtain ⟨h1, h2, h3, h4⟩ := hh
  rcases h4 with ⟨_, h5, h6⟩ | ⟨h5, _⟩
  · exact ⟨h5, h6, h1, h2, h3⟩
  · exact absurd hr h5
theorem ref_L0_no (M : FM) (N q : Nat) (hqN : q < N) (g : List Int) (gval : Value) (hg : Ints M N gval g) (hl : g.length < 4611686018427387904) (p : Nat) (disks : Int) (hpN : p < N) (hpd : ld1V M N (.pointer (some ⟨p, 0 + 0, none⟩)) = .ok (.int .i64 disks) M N (bit p) 0) (hr : ¬ RowFrom disks g 0) :
    ∃ (rf : List Value → Nat) (ef : List Value → List Value), ∀ (t : Int) x0 x1 x2 x4 x5 x6 x7 x8 x9 x10 x11 x12 x13 x14 x15 x17 x18 x19 x20 x21 x22 x23 x24 x25 x26 x28 x30 x31 x32 x33 x35, execW PG E Y ac17L0 [x0, x1, x2, .int .i64 0, x4, x5, x6, x7, x8, x9, x10, x11, x12, x13, x14, x15, gval, x17, x18, x19, x20, x21, x22, x23, x24, x25, x26, .int .i64 t, x28, .pointer (some ⟨q, 0, none⟩), x30, x31, x32, x33, .pointer (some ⟨p, 0, none⟩), x35] M N = .ok (.ret errF) (ef [x0, x1, x2, .int .i64 0, x4, x5, x6, x7, x8, x9, x10, x11, x12, x13, x14, x15, gval, x17, x18, x19, x20, x21, x22, x23, x24, x25, x26, .int .i64 t, x28, .pointer (some ⟨q, 0, none⟩), x30, x31, x32, x33, .pointer (some ⟨p, 0, none⟩), x35]) M N (rf [x0, x1, x2, .int .i64 0, x4, x5, x6, x7, x8, x9, x10, x11, x12, x13, x14, x15, gval, x17, x18, x19, x20, x21, x22, x23, x24, x25, x26, .int .i64 t, x28, .pointer (some ⟨q, 0, none⟩), x30, x31, x32, x33, .pointer (some ⟨p, 0, none⟩), x35]) 0 := by
  obtain ⟨rf, ef, h⟩ := named_r (fun l => execW PG E Y ac17L0 l M N)
  refine ⟨rf, ef, fun t x0 x1 x2 x4 x5 x6 x7 x8 x9 x10 x11 x12 x13 x14 x15 x17 x18 x19 x20 x21 x22 x23 x24 x25 x26 x28 x30 x31 x32 x33 x35 => ?_⟩
  rw [(h _).1, (h _).2]
  refine gv_ret (Gv.mono (ref_L0 (E := E) (Y := Y) M N q hqN g gval hg hl p disks hpN hpd x0 x1 x2 x4 x5 x6 x7 x8 x9 x10 x11 x12 x13 x14 x15 x17 x18 x19 x20 x21 x22 x23 x24 x25 x26 (.int .i64 t) x28 x30 x31 x32 x33 x35 rfl g.length 0 (by omega)) fun X e' m' n' w hh => ?_)
  obtain ⟨h1, h2, h3, h4⟩ := hh
  rcases h4 with ⟨h5, _, _⟩ | ⟨_, h5⟩
  · exact absurd h5 hr
  · exact ⟨h5, h1, h2, h3⟩
theorem groupsR_end {disks : Int} {w : Nat} {gs : List (List Int)} {j : Nat} (h : gs.length ≤ j) : GroupsR disks w gs j := fun i g h1 h2 => by
  have := (List.getElem?_eq_some_iff.1 h2).1; omega
theorem groupsR_step {disks : Int} {w : Nat} {gs : List (List Int)} {j : Nat} (h : j < gs.length) : GroupsR disks w gs j ↔ ((2 ≤ gs[j].length ∧ gs[j].length = w) ∧ RowFrom disks gs[j] 0) ∧ GroupsR disks w gs (j + 1) :=
  ⟨fun hr => ⟨hr j _ (Nat.le_refl _) (List.getElem?_eq_getElem h), fun i g h1 h2 => hr i g (by omega) h2⟩, fun ⟨h1, h2⟩ i g h3 h4 => by
    rcases Nat.eq_or_lt_of_le h3 with rfl | h5
    · rw [List.getElem?_eq_getElem h] at h4; injection h4 with h4; subst h4; exact h1
    · exact h2 i g h5 h4⟩
theorem ref_L3 (M : FM) (N q n0 : Nat) (hqN : q < N) (hn0 : n0 ≤ q) (p : Nat) (hpq : p < q) (disks : Int) (hd : disks ≤ 60) (gv : Value) (hp : M p = some (.cells [.int .i64 disks, gv] 0 false true)) (gs : List (List Int)) (hgs : Rows M q gv gs) (hl : gs.length < 4611686018427387904) (hrow : ∀ g ∈ gs, g.length < 4611686018427387904) (h0 : 0 < gs.length)
    (x0 x1 x2 x4 x6 x7 x8 x9 x11 : Value) : ∀ d j, j + d = gs.length → ∀ A : List Int, A.length = 3600 →
    Gv (execW PG E Y ac17L3 [x0, x1, x2, .int .i64 (j : Int), x4, .pointer (some ⟨q, 0, none⟩), x6, x7, x8, x9, .pointer (some ⟨p, 0, none⟩), x11] (arr M q A) N) fun X e' m' n' w => n' = N ∧ Nat.mod w (bit n0) = 0 ∧
      ((GroupsR disks gs[0].length gs j ∧ X = .exit 0 ∧ e' = [x0, x1, x2, x4, .pointer (some ⟨q, 0, none⟩), x6, x7, x8, x9, .pointer (some ⟨p, 0, none⟩), x11] ∧ m' = arr M q (counts A (gs.drop j))) ∨ (¬ GroupsR disks gs[0].length gs j ∧ X = .ret errF)) := by
  intro d
  have hfr : ∀ A b, b < q → arr M q A b = M b := fun A b hb => fput_ne M q b _ (by omega)
  have hpA : ∀ A, arr M q A p = some (.cells [.int .i64 disks, gv] 0 false true) := fun A => (hfr A p hpq).trans hp
  have hgv : ∀ A, ld1V (arr M q A) N (.pointer (some ⟨p, 0 + 1, none⟩)) = .ok gv (arr M q A) N (bit p) 0 := fun A => ld1_at (by omega) (hpA A) rfl
  have hpd : ∀ A, ld1V (arr M q A) N (.pointer (some ⟨p, 0 + 0, none⟩)) = .ok (.int .i64 disks) (arr M q A) N (bit p) 0 := fun A => ld1_at (by omega) (hpA A) rfl
  induction d with
  | zero =>
    intro j hj A hA
    have hjl : (j : Int) = (gs.length : Int) := by omega
    have hlt : ¬ ((gs.length : Int) < (gs.length : Int)) := by omega
    have hgvA := hgv A
    rw [ac17L3_w, hjl]
    simp only [ac17L3b, Gv_add, w_seq, v_reg, q_cons, q_nil, q_nop, q_op, q_eff, q_opg, q_effg, keep_ok, drop1_ok, out_ok, crRec_mk, onNorm_norm, onNorm_exit, onNorm_ret, addRW_mk, w_cond, onCond_mk, w_block, onBlock_norm, onBlock_ret, onBlock_exit, w_pre, w_post, onPost_norm, onPost_exit, onPost_ret, w_exit, w_ret, onRet_mk, res_nil, res_cons, resO_v, retV_one, fixE_mk, lmap_nil, lmap_cons, ldrop_z, ldrop_s, ev_v, ev_c, lget_z, lget_s, evs_nil, evs_cons, s_mov, s_pick, s_bin, s_una, s_conv, s_fld, s_idx, s_ida, s_build, s_extr, s_nilck, s_len, s_mx, s_ld1, s_ldn, s_st, s_call, s_new, s_box, s_make, s_app, bin_int, i_add, i_sub, i_mul, i_eql, i_neq, i_lss, i_gtr, i_leq, i_geq, pick_mk, wantB_mk, una_not, fld_mk, nilck_mk, valO_some, lor_zero', zero_lor', cond_true, cond_false, Nat.beq_refl, natOf_mk, natOf_zero, natOf_one, obind_some, w_skip, Bool.not_true, Bool.not_false, wantB_undef, newb_fm, ptrP_mk, slcP_mk, cells_agg, hgvA, hgs.len, hlt, decide_false]
    exact ⟨rfl, mod_zero _, .inl ⟨groupsR_end (by omega), rfl, rfl, by rw [List.drop_eq_nil_of_le (by omega)]; rfl⟩⟩
  | succ d ih =>
    intro j hj A hA
    have hlt : (j : Int) < (gs.length : Int) := by omega
    have hjl : j < gs.length := by omega
    have hgvA := hgv A
    obtain ⟨a0, b0, g0v, hix0, hld0, hg0'⟩ := hgs.at2 h0 (m' := arr M q A) (n' := N) (by omega) (hfr A)
    have hg0 : Ints (arr M q A) N g0v gs[0] := hg0'.frame (by omega) (hfr A)
    replace hix0 : idxV 1 0 gv = some (.pointer (some a0)) := hix0
    obtain ⟨p1, b1, gval, hix, hld, hgj⟩ := hgs.at2 hjl (m' := arr M q A) (n' := N) (by omega) (hfr A)
    have hg : Ints (arr M q A) N gval gs[j] := hgj.frame (by omega) (hfr A)
    have hlj := hrow gs[j] (List.getElem_mem hjl)
    have hw : IntKind.i64.wrap ((j : Int) + 1) = ((j + 1 : Nat) : Int) := by rw [wrap_small (by omega) (by omega)]; omega
    have hstep := groupsR_step (disks := disks) (w := gs[0].length) hjl
    rw [ac17L3_w]
    by_cases h2 : (gs[j].length : Int) < 2
    · have h2' : decide ((gs[j].length : Int) < 2) = true := decide_eq_true h2
      simp only [ac17L3b, Gv_add, w_seq, v_reg, q_cons, q_nil, q_nop, q_op, q_eff, q_opg, q_effg, keep_ok, drop1_ok, out_ok, crRec_mk, onNorm_norm, onNorm_exit, onNorm_ret, addRW_mk, w_cond, onCond_mk, w_block, onBlock_norm, onBlock_ret, onBlock_exit, w_pre, w_post, onPost_norm, onPost_exit, onPost_ret, w_exit, w_ret, onRet_mk, res_nil, res_cons, resO_v, retV_one, fixE_mk, lmap_nil, lmap_cons, ldrop_z, ldrop_s, ev_v, ev_c, lget_z, lget_s, evs_nil, evs_cons, s_mov, s_pick, s_bin, s_una, s_conv, s_fld, s_idx, s_ida, s_build, s_extr, s_nilck, s_len, s_mx, s_ld1, s_ldn, s_st, s_call, s_new, s_box, s_make, s_app, bin_int, i_add, i_sub, i_mul, i_eql, i_neq, i_lss, i_gtr, i_leq, i_geq, pick_mk, wantB_mk, una_not, fld_mk, nilck_mk, valO_some, lor_zero', zero_lor', cond_true, cond_false, Nat.beq_refl, natOf_mk, natOf_zero, natOf_one, obind_some, w_skip, Bool.not_true, Bool.not_false, wantB_undef, newb_fm, ptrP_mk, slcP_mk, cells_agg, hgvA, hgs.len, hlt, decide_true, decide_false, hix, hld, hg.len, h2', retV_three]
      exact ⟨rfl, mod_zero _, .inr ⟨fun h => by have := (hstep.1 h).1.1.1; omega, rfl⟩⟩
    · have h2' : decide ((gs[j].length : Int) < 2) = false := decide_eq_false h2
      by_cases h1 : (gs[j].length : Int) = (gs[0].length : Int)
      · have h1' : decide ((gs[j].length : Int) = (gs[0].length : Int)) = true := decide_eq_true h1
        by_cases hr : RowFrom disks gs[j] 0
        · obtain ⟨rf, hrf⟩ := ref_L0_yes (E := E) (Y := Y) (arr M q A) N q hqN gs[j] gval hg hlj p disks (by omega) (hpd A) hr
          obtain ⟨rf2, wf2, hrf2⟩ := ref_L2_eq (E := E) (Y := Y) M N q n0 hqN hn0 gs[j] gval (fun B => hgj.frame (by omega) (hfr B)) hlj (rowFrom_in hd hr) A hA
          have heq := fun x1 x2 x3 x4 x5 x6 x7 x8 x9 x10 x11 x12 x13 x14 x15 x16 x17 x19 x20 x21 x22 x23 x24 x25 x26 x27 x28 x29 x30 x32 x33 x34 x35 x36 x37 => (hrf2 x1 x2 x3 x4 x5 x6 x7 x8 x9 x10 x11 x12 x13 x14 x15 x16 x17 x19 x20 x21 x22 x23 x24 x25 x26 x27 x28 x29 x30 x32 x33 x34 x35 x36 x37).1
          have hmod := fun x1 x2 x3 x4 x5 x6 x7 x8 x9 x10 x11 x12 x13 x14 x15 x16 x17 x19 x20 x21 x22 x23 x24 x25 x26 x27 x28 x29 x30 x32 x33 x34 x35 x36 x37 => (hrf2 x1 x2 x3 x4 x5 x6 x7 x8 x9 x10 x11 x12 x13 x14 x15 x16 x17 x19 x20 x21 x22 x23 x24 x25 x26 x27 x28 x29 x30 x32 x33 x34 x35 x36 x37).2
          simp only [ac17L3b, Gv_add, w_seq, v_reg, q_cons, q_nil, q_nop, q_op, q_eff, q_opg, q_effg, keep_ok, drop1_ok, out_ok, crRec_mk, onNorm_norm, onNorm_exit, onNorm_ret, addRW_mk, w_cond, onCond_mk, w_block, onBlock_norm, onBlock_ret, onBlock_exit, w_pre, w_post, onPost_norm, onPost_exit, onPost_ret, w_exit, w_ret, onRet_mk, res_nil, res_cons, resO_v, retV_one, fixE_mk, lmap_nil, lmap_cons, ldrop_z, ldrop_s, ev_v, ev_c, lget_z, lget_s, evs_nil, evs_cons, s_mov, s_pick, s_bin, s_una, s_conv, s_fld, s_idx, s_ida, s_build, s_extr, s_nilck, s_len, s_mx, s_ld1, s_ldn, s_st, s_call, s_new, s_box, s_make, s_app, bin_int, i_add, i_sub, i_mul, i_eql, i_neq, i_lss, i_gtr, i_leq, i_geq, pick_mk, wantB_mk, una_not, fld_mk, nilck_mk, valO_some, lor_zero', zero_lor', cond_true, cond_false, Nat.beq_refl, natOf_mk, natOf_zero, natOf_one, obind_some, w_skip, Bool.not_true, Bool.not_false, wantB_undef, newb_fm, ptrP_mk, slcP_mk, cells_agg, hgvA, hgs.len, hlt, decide_true, decide_false, hix, hld, hix0, hld0, hg.len, hg0.len, h2', h1', hrf, heq, hw]
          refine Gv.mono (ih (j + 1) (by omega) _ (by rw [bumpGroup_length, hA])) fun X e' m' n' w h => ?_
          have hiff : GroupsR disks gs[0].length gs j ↔ GroupsR disks gs[0].length gs (j + 1) := by rw [hstep]; exact ⟨fun h => h.2, fun h => ⟨⟨⟨by omega, by omega⟩, hr⟩, h⟩⟩
          have hc : counts A (gs.drop j) = counts (bumpGroup A gs[j] gs[j]) (gs.drop (j + 1)) := by rw [List.drop_eq_getElem_cons hjl]; rfl
          rw [hiff, hc]
          obtain ⟨k1, k2, k3⟩ := h
          exact ⟨k1, mod_lor' (hmod ..) k2, k3⟩
        · obtain ⟨rf, ef, hrf⟩ := ref_L0_no (E := E) (Y := Y) (arr M q A) N q hqN gs[j] gval hg hlj p disks (by omega) (hpd A) hr
          simp only [ac17L3b, Gv_add, w_seq, v_reg, q_cons, q_nil, q_nop, q_op, q_eff, q_opg, q_effg, keep_ok, drop1_ok, out_ok, crRec_mk, onNorm_norm, onNorm_exit, onNorm_ret, addRW_mk, w_cond, onCond_mk, w_block, onBlock_norm, onBlock_ret, onBlock_exit, w_pre, w_post, onPost_norm, onPost_exit, onPost_ret, w_exit, w_ret, onRet_mk, res_nil, res_cons, resO_v, retV_one, fixE_mk, lmap_nil, lmap_cons, ldrop_z, ldrop_s, ev_v, ev_c, lget_z, lget_s, evs_nil, evs_cons, s_mov, s_pick, s_bin, s_una, s_conv, s_fld, s_idx, s_ida, s_build, s_extr, s_nilck, s_len, s_mx, s_ld1, s_ldn, s_st, s_call, s_new, s_box, s_make, s_app, bin_int, i_add, i_sub, i_mul, i_eql, i_neq, i_lss, i_gtr, i_leq, i_geq, pick_mk, wantB_mk, una_not, fld_mk, nilck_mk, valO_some, lor_zero', zero_lor', cond_true, cond_false, Nat.beq_refl, natOf_mk, natOf_zero, natOf_one, obind_some, w_skip, Bool.not_true, Bool.not_false, wantB_undef, newb_fm, ptrP_mk, slcP_mk, cells_agg, hgvA, hgs.len, hlt, decide_true, decide_false, hix, hld, hix0, hld0, hg.len, hg0.len, h2', h1', hrf]
          exact ⟨rfl, mod_zero _, .inr ⟨fun h => hr (hstep.1 h).1.2, rfl⟩⟩
      · have h1' : decide ((gs[j].length : Int) = (gs[0].length : Int)) = false := decide_eq_false h1
        simp only [ac17L3b, Gv_add, w_seq, v_reg, q_cons, q_nil, q_nop, q_op, q_eff, q_opg, q_effg, keep_ok, drop1_ok, out_ok, crRec_mk, onNorm_norm, onNorm_exit, onNorm_ret, addRW_mk, w_cond, onCond_mk, w_block, onBlock_norm, onBlock_ret, onBlock_exit, w_pre, w_post, onPost_norm, onPost_exit, onPost_ret, w_exit, w_ret, onRet_mk, res_nil, res_cons, resO_v, retV_one, fixE_mk, lmap_nil, lmap_cons, ldrop_z, ldrop_s, ev_v, ev_c, lget_z, lget_s, evs_nil, evs_cons, s_mov, s_pick, s_bin, s_una, s_conv, s_fld, s_idx, s_ida, s_build, s_extr, s_nilck, s_len, s_mx, s_ld1, s_ldn, s_st, s_call, s_new, s_box, s_make, s_app, bin_int, i_add, i_sub, i_mul, i_eql, i_neq, i_lss, i_gtr, i_leq, i_geq, pick_mk, wantB_mk, una_not, fld_mk, nilck_mk, valO_some, lor_zero', zero_lor', cond_true, cond_false, Nat.beq_refl, natOf_mk, natOf_zero, natOf_one, obind_some, w_skip, Bool.not_true, Bool.not_false, wantB_undef, newb_fm, ptrP_mk, slcP_mk, cells_agg, hgvA, hgs.len, hlt, decide_true, decide_false, hix, hld, hix0, hld0, hg.len, hg0.len, h2', h1', retV_three]
        exact ⟨rfl, mod_zero _, .inr ⟨fun h => by have := (hstep.1 h).1.1.2; omega, rfl⟩⟩
end Go.Am.C07.K
namespace Go.Am.C07.K
open Go Go.Am
variable {E : Nat → Option AFn} {Y : Nat → List Value → FM → Nat → OR FM}
theorem ref_L4 (M : FM) (N q : Nat) (hqN : q < N) (A : List Int) (hA : A.length = 3600) (D : Nat) (hD : D ≤ 60) (p : Nat) (hpN : p < N) (hpd : ld1V (arr M q A) N (.pointer (some ⟨p, 0 + 0, none⟩)) = .ok (.int .i64 (D : Int)) (arr M q A) N (bit p) 0) (a : Nat) (ha : a < D) (x0 x1 x2 x4 x5 x6 x7 x8 x9 x10 x12 x13 x14 x15 x16 x18 x19 x20 x21 x23 : Value) : ∀ d j, j + d = D →
    Gv (execW PG E Y ac17L4 [x0, x1, x2, .int .i64 (j : Int), x4, x5, x6, x7, x8, x9, x10, .int .i64 (a : Int), x12, x13, x14, x15, x16, .pointer (some ⟨q, 0, none⟩), x18, x19, x20, x21, .pointer (some ⟨p, 0, none⟩), x23] (arr M q A) N) fun X e' m' n' w => m' = arr M q A ∧ n' = N ∧ w = 0 ∧
      ((BalRow A D A[0]! A[1]! a j ∧ X = .exit 10 ∧ e' = [x0, x1, x2, .int .i64 (D : Int), x4, x5, x6, x7, x8, x9, x10, .int .i64 (a : Int), x12, x13, x14, x15, x16, .pointer (some ⟨q, 0, none⟩), x18, x19, x20, x21, .pointer (some ⟨p, 0, none⟩), x23]) ∨ (¬ BalRow A D A[0]! A[1]! a j ∧ X = .ret errF)) := by
  intro d
  have hc0 : (A.map (Value.int .i64))[0 + 0 * 60 + 0 * 1]? = some (.int .i64 A[0]!) := by simp [List.getElem?_eq_getElem (show 0 < A.length by omega)]
  have hc1 : (A.map (Value.int .i64))[0 + 0 * 60 + 1 * 1]? = some (.int .i64 A[1]!) := by simp [List.getElem?_eq_getElem (show 1 < A.length by omega)]
  have hl0 : ld1V (arr M q A) N (.pointer (some ⟨q, 0 + 0 * 60 + 0 * 1, none⟩)) = .ok (.int .i64 A[0]!) (arr M q A) N (bit q) 0 := ld1_at (by omega) (fput_same M q _) hc0
  have hl01 : ld1V (arr M q A) N (.pointer (some ⟨q, 0 + 0 * 60 + 1 * 1, none⟩)) = .ok (.int .i64 A[1]!) (arr M q A) N (bit q) 0 := ld1_at (by omega) (fput_same M q _) hc1
  have hd0 : idaV 60 60 0 (.pointer (some ⟨q, 0, none⟩)) = some (.pointer (some ⟨q, 0 + 0 * 60, none⟩)) := ida_ok (by omega)
  have hd00 : idaV 60 1 0 (.pointer (some ⟨q, 0 + 0 * 60, none⟩)) = some (.pointer (some ⟨q, 0 + 0 * 60 + 0 * 1, none⟩)) := ida_ok (by omega)
  have hd01 : idaV 60 1 1 (.pointer (some ⟨q, 0 + 0 * 60, none⟩)) = some (.pointer (some ⟨q, 0 + 0 * 60 + 1 * 1, none⟩)) := ida_ok (by omega)
  obtain ⟨r, hr⟩ : ∃ r, A[0]! = r := ⟨_, rfl⟩
  obtain ⟨lam, hlam⟩ : ∃ lam, A[1]! = lam := ⟨_, rfl⟩
  rw [hr] at hl0
  rw [hlam] at hl01
  rw [hr, hlam]
  have hq := blt_true hqN
  induction d with
  | zero =>
    intro j hj
    have hjl : (j : Int) = (D : Int) := by omega
    have hlt : ¬ ((D : Int) < (D : Int)) := by omega
    rw [ac17L4_w, hjl]
    simp only [ac17L4b, Gv_add, w_seq, v_reg, q_cons, q_nil, q_nop, q_op, q_eff, q_opg, q_effg, keep_ok, drop1_ok, out_ok, crRec_mk, onNorm_norm, onNorm_exit, onNorm_ret, addRW_mk, w_cond, onCond_mk, w_block, onBlock_norm, onBlock_ret, onBlock_exit, w_pre, w_post, onPost_norm, onPost_exit, onPost_ret, w_exit, w_ret, onRet_mk, res_nil, res_cons, resO_v, retV_one, fixE_mk, lmap_nil, lmap_cons, ldrop_z, ldrop_s, ev_v, ev_c, lget_z, lget_s, evs_nil, evs_cons, s_mov, s_pick, s_bin, s_una, s_conv, s_fld, s_idx, s_ida, s_build, s_extr, s_nilck, s_len, s_mx, s_ld1, s_ldn, s_st, s_call, s_new, s_box, s_make, s_app, bin_int, i_add, i_sub, i_mul, i_eql, i_neq, i_lss, i_gtr, i_leq, i_geq, pick_mk, wantB_mk, una_not, fld_mk, nilck_mk, valO_some, lor_zero', zero_lor', cond_true, cond_false, Nat.beq_refl, natOf_mk, natOf_zero, natOf_one, obind_some, w_skip, Bool.not_true, Bool.not_false, wantB_undef, newb_fm, ptrP_mk, slcP_mk, cells_agg, hpd, hlt, decide_false]
    exact ⟨rfl, rfl, rfl, .inl ⟨fun b h1 h2 => by omega, rfl, rfl⟩⟩
  | succ d ih =>
    intro j hj
    have hlt : (j : Int) < (D : Int) := by omega
    have hjl : j < D := by omega
    have hw : IntKind.i64.wrap ((j : Int) + 1) = ((j + 1 : Nat) : Int) := by rw [wrap_small (by omega) (by omega)]; omega
    have hstep := balRow_step (A := A) (r := r) (lam := lam) (a := a) hjl
    rw [ac17L4_w]
    by_cases hab0 : (a : Int) = (j : Int)
    · have hab : decide ((a : Int) = (j : Int)) = true := decide_eq_true hab0
      have hab' : a = j := by omega
      have hk : 0 + a * 60 + a * 1 < A.length := by omega
      have hcell : ((A.map (Value.int .i64)))[0 + a * 60 + a * 1]? = some (.int .i64 A[0 + a * 60 + a * 1]) := by simp [List.getElem?_eq_getElem hk]
      have hl1 : ld1V (arr M q A) N (.pointer (some ⟨q, 0 + a * 60 + a * 1, none⟩)) = .ok (.int .i64 A[0 + a * 60 + a * 1]) (arr M q A) N (bit q) 0 := ld1_at hqN (fput_same M q _) hcell
      have hda : idaV 60 60 a (.pointer (some ⟨q, 0, none⟩)) = some (.pointer (some ⟨q, 0 + a * 60, none⟩)) := ida_ok (by omega)
      have hdb : idaV 60 1 a (.pointer (some ⟨q, 0 + a * 60, none⟩)) = some (.pointer (some ⟨q, 0 + a * 60 + a * 1, none⟩)) := ida_ok (by omega)
      have hAe : A[60 * a + j]?.getD 0 = A[0 + a * 60 + a * 1] := by
        have e : 60 * a + j = 0 + a * 60 + a * 1 := by omega
        rw [e, List.getElem?_eq_getElem hk]; rfl
      rw [hAe, if_pos hab'] at hstep
      obtain ⟨z, hz⟩ : ∃ z, A[0 + a * 60 + a * 1] = z := ⟨_, rfl⟩
      rw [hz] at hl1 hstep
      by_cases hv0 : z = r
      · have hv : decide (z = r) = true := decide_eq_true hv0
        simp (implicitDefEqProofs := false) only [ac17L4b, Gv_add, w_seq, v_reg, q_cons, q_nil, q_nop, q_op, q_eff, q_opg, q_effg, keep_ok, drop1_ok, out_ok, crRec_mk, onNorm_norm, onNorm_exit, onNorm_ret, addRW_mk, w_cond, onCond_mk, w_block, onBlock_norm, onBlock_ret, onBlock_exit, w_pre, w_post, onPost_norm, onPost_exit, onPost_ret, w_exit, w_ret, onRet_mk, res_nil, res_cons, resO_v, retV_one, fixE_mk, lmap_nil, lmap_cons, ldrop_z, ldrop_s, ev_v, ev_c, lget_z, lget_s, evs_nil, evs_cons, s_mov, s_pick, s_bin, s_una, s_conv, s_fld, s_idx, s_ida, s_build, s_extr, s_nilck, s_len, s_mx, s_ld1, s_ldn, s_st, s_call, s_new, s_box, s_make, s_app, bin_int, i_add, i_sub, i_mul, i_eql, i_neq, i_lss, i_gtr, i_leq, i_geq, pick_mk, wantB_mk, una_not, fld_mk, nilck_mk, valO_some, lor_zero', zero_lor', cond_true, cond_false, Nat.beq_refl, natOf_mk, natOf_zero, natOf_one, obind_some, w_skip, Bool.not_true, Bool.not_false, wantB_undef, newb_fm, ptrP_mk, slcP_mk, cells_agg, u_regD, isOkC_ok, belowV_undef, belowV_addr, z_nil, z_cons, y_nil, y_cons, y_nop, y_op, y_eff, y_opg, y_effg, keepD_ok, outX_ok, apart_nil, apart_cons, zero_land', land_zero', stepD_ok', below_all, opds, List.all_cons, List.all_nil, belowV_int, belowV_bool, belowV_ptr, belowV_nils, Bool.and_self, Bool.and_true, Bool.true_and, Bool.or_true, Bool.true_or, Bool.false_or, Nat.reduceAdd, Nat.testBit, Nat.reduceShiftRight, Nat.reduceAnd, Nat.reduceBNe, hpd, hlt, decide_true, decide_false, hda, hdb, hd0, hd00, hd01, hl0, hl01, hl1, hq, hab, hv, retV_three, hw]
        refine Gv.mono (ih (j + 1) (by omega)) fun X e' m' n' w h => ?_
        have hiff : BalRow A D r lam a j ↔ BalRow A D r lam a (j + 1) := by rw [hstep]; exact ⟨fun h => h.2, fun h => ⟨hv0, h⟩⟩
        rw [hiff]
        simpa only [zero_lor'] using h
      · have hv : decide (z = r) = false := decide_eq_false hv0
        simp (implicitDefEqProofs := false) only [ac17L4b, Gv_add, w_seq, v_reg, q_cons, q_nil, q_nop, q_op, q_eff, q_opg, q_effg, keep_ok, drop1_ok, out_ok, crRec_mk, onNorm_norm, onNorm_exit, onNorm_ret, addRW_mk, w_cond, onCond_mk, w_block, onBlock_norm, onBlock_ret, onBlock_exit, w_pre, w_post, onPost_norm, onPost_exit, onPost_ret, w_exit, w_ret, onRet_mk, res_nil, res_cons, resO_v, retV_one, fixE_mk, lmap_nil, lmap_cons, ldrop_z, ldrop_s, ev_v, ev_c, lget_z, lget_s, evs_nil, evs_cons, s_mov, s_pick, s_bin, s_una, s_conv, s_fld, s_idx, s_ida, s_build, s_extr, s_nilck, s_len, s_mx, s_ld1, s_ldn, s_st, s_call, s_new, s_box, s_make, s_app, bin_int, i_add, i_sub, i_mul, i_eql, i_neq, i_lss, i_gtr, i_leq, i_geq, pick_mk, wantB_mk, una_not, fld_mk, nilck_mk, valO_some, lor_zero', zero_lor', cond_true, cond_false, Nat.beq_refl, natOf_mk, natOf_zero, natOf_one, obind_some, w_skip, Bool.not_true, Bool.not_false, wantB_undef, newb_fm, ptrP_mk, slcP_mk, cells_agg, u_regD, isOkC_ok, belowV_undef, belowV_addr, z_nil, z_cons, y_nil, y_cons, y_nop, y_op, y_eff, y_opg, y_effg, keepD_ok, outX_ok, apart_nil, apart_cons, zero_land', land_zero', stepD_ok', below_all, opds, List.all_cons, List.all_nil, belowV_int, belowV_bool, belowV_ptr, belowV_nils, Bool.and_self, Bool.and_true, Bool.true_and, Bool.or_true, Bool.true_or, Bool.false_or, Nat.reduceAdd, Nat.testBit, Nat.reduceShiftRight, Nat.reduceAnd, Nat.reduceBNe, hpd, hlt, decide_true, decide_false, hda, hdb, hd0, hd00, hd01, hl0, hl01, hl1, hq, hab, hv, retV_three]
        exact ⟨rfl, rfl, rfl, .inr ⟨fun h => hv0 (hstep.1 h).1, rfl⟩⟩
    · have hab : decide ((a : Int) = (j : Int)) = false := decide_eq_false hab0
      have hab' : ¬ a = j := by omega
      have hk : 0 + a * 60 + j * 1 < A.length := by omega
      have hcell : ((A.map (Value.int .i64)))[0 + a * 60 + j * 1]? = some (.int .i64 A[0 + a * 60 + j * 1]) := by simp [List.getElem?_eq_getElem hk]
      have hl1 : ld1V (arr M q A) N (.pointer (some ⟨q, 0 + a * 60 + j * 1, none⟩)) = .ok (.int .i64 A[0 + a * 60 + j * 1]) (arr M q A) N (bit q) 0 := ld1_at hqN (fput_same M q _) hcell
      have hda : idaV 60 60 a (.pointer (some ⟨q, 0, none⟩)) = some (.pointer (some ⟨q, 0 + a * 60, none⟩)) := ida_ok (by omega)
      have hdb : idaV 60 1 j (.pointer (some ⟨q, 0 + a * 60, none⟩)) = some (.pointer (some ⟨q, 0 + a * 60 + j * 1, none⟩)) := ida_ok (by omega)
      have hAe : A[60 * a + j]?.getD 0 = A[0 + a * 60 + j * 1] := by
        have e : 60 * a + j = 0 + a * 60 + j * 1 := by omega
        rw [e, List.getElem?_eq_getElem hk]; rfl
      rw [hAe, if_neg hab'] at hstep
      obtain ⟨z, hz⟩ : ∃ z, A[0 + a * 60 + j * 1] = z := ⟨_, rfl⟩
      rw [hz] at hl1 hstep
      by_cases hv0 : z = lam
      · have hv : decide (z = lam) = true := decide_eq_true hv0
        simp (implicitDefEqProofs := false) only [ac17L4b, Gv_add, w_seq, v_reg, q_cons, q_nil, q_nop, q_op, q_eff, q_opg, q_effg, keep_ok, drop1_ok, out_ok, crRec_mk, onNorm_norm, onNorm_exit, onNorm_ret, addRW_mk, w_cond, onCond_mk, w_block, onBlock_norm, onBlock_ret, onBlock_exit, w_pre, w_post, onPost_norm, onPost_exit, onPost_ret, w_exit, w_ret, onRet_mk, res_nil, res_cons, resO_v, retV_one, fixE_mk, lmap_nil, lmap_cons, ldrop_z, ldrop_s, ev_v, ev_c, lget_z, lget_s, evs_nil, evs_cons, s_mov, s_pick, s_bin, s_una, s_conv, s_fld, s_idx, s_ida, s_build, s_extr, s_nilck, s_len, s_mx, s_ld1, s_ldn, s_st, s_call, s_new, s_box, s_make, s_app, bin_int, i_add, i_sub, i_mul, i_eql, i_neq, i_lss, i_gtr, i_leq, i_geq, pick_mk, wantB_mk, una_not, fld_mk, nilck_mk, valO_some, lor_zero', zero_lor', cond_true, cond_false, Nat.beq_refl, natOf_mk, natOf_zero, natOf_one, obind_some, w_skip, Bool.not_true, Bool.not_false, wantB_undef, newb_fm, ptrP_mk, slcP_mk, cells_agg, u_regD, isOkC_ok, belowV_undef, belowV_addr, z_nil, z_cons, y_nil, y_cons, y_nop, y_op, y_eff, y_opg, y_effg, keepD_ok, outX_ok, apart_nil, apart_cons, zero_land', land_zero', stepD_ok', below_all, opds, List.all_cons, List.all_nil, belowV_int, belowV_bool, belowV_ptr, belowV_nils, Bool.and_self, Bool.and_true, Bool.true_and, Bool.or_true, Bool.true_or, Bool.false_or, Nat.reduceAdd, Nat.testBit, Nat.reduceShiftRight, Nat.reduceAnd, Nat.reduceBNe, hpd, hlt, decide_true, decide_false, hda, hdb, hd0, hd00, hd01, hl0, hl01, hl1, hq, hab, hv, retV_three, hw]
        refine Gv.mono (ih (j + 1) (by omega)) fun X e' m' n' w h => ?_
        have hiff : BalRow A D r lam a j ↔ BalRow A D r lam a (j + 1) := by rw [hstep]; exact ⟨fun h => h.2, fun h => ⟨hv0, h⟩⟩
        rw [hiff]
        simpa only [zero_lor'] using h
      · have hv : decide (z = lam) = false := decide_eq_false hv0
        simp (implicitDefEqProofs := false) only [ac17L4b, Gv_add, w_seq, v_reg, q_cons, q_nil, q_nop, q_op, q_eff, q_opg, q_effg, keep_ok, drop1_ok, out_ok, crRec_mk, onNorm_norm, onNorm_exit, onNorm_ret, addRW_mk, w_cond, onCond_mk, w_block, onBlock_norm, onBlock_ret, onBlock_exit, w_pre, w_post, onPost_norm, onPost_exit, onPost_ret, w_exit, w_ret, onRet_mk, res_nil, res_cons, resO_v, retV_one, fixE_mk, lmap_nil, lmap_cons, ldrop_z, ldrop_s, ev_v, ev_c, lget_z, lget_s, evs_nil, evs_cons, s_mov, s_pick, s_bin, s_una, s_conv, s_fld, s_idx, s_ida, s_build, s_extr, s_nilck, s_len, s_mx, s_ld1, s_ldn, s_st, s_call, s_new, s_box, s_make, s_app, bin_int, i_add, i_sub, i_mul, i_eql, i_neq, i_lss, i_gtr, i_leq, i_geq, pick_mk, wantB_mk, una_not, fld_mk, nilck_mk, valO_some, lor_zero', zero_lor', cond_true, cond_false, Nat.beq_refl, natOf_mk, natOf_zero, natOf_one, obind_some, w_skip, Bool.not_true, Bool.not_false, wantB_undef, newb_fm, ptrP_mk, slcP_mk, cells_agg, u_regD, isOkC_ok, belowV_undef, belowV_addr, z_nil, z_cons, y_nil, y_cons, y_nop, y_op, y_eff, y_opg, y_effg, keepD_ok, outX_ok, apart_nil, apart_cons, zero_land', land_zero', stepD_ok', below_all, opds, List.all_cons, List.all_nil, belowV_int, belowV_bool, belowV_ptr, belowV_nils, Bool.and_self, Bool.and_true, Bool.true_and, Bool.or_true, Bool.true_or, Bool.false_or, Nat.reduceAdd, Nat.testBit, Nat.reduceShiftRight, Nat.reduceAnd, Nat.reduceBNe, hpd, hlt, decide_true, decide_false, hda, hdb, hd0, hd00, hd01, hl0, hl01, hl1, hq, hab, hv, retV_three]
        exact ⟨rfl, rfl, rfl, .inr ⟨fun h => hv0 (hstep.1 h).1, rfl⟩⟩
theorem ref_L4_yes (M : FM) (N q : Nat) (hqN : q < N) (A : List Int) (hA : A.length = 3600) (D : Nat) (hD : D ≤ 60) (p : Nat) (hpN : p < N) (hpd : ld1V (arr M q A) N (.pointer (some ⟨p, 0 + 0, none⟩)) = .ok (.int .i64 (D : Int)) (arr M q A) N (bit p) 0) (a : Nat) (ha : a < D) (hb : BalRow A D A[0]! A[1]! a 0) : ∃ rf : List Value → Nat, ∀ x0 x1 x2 x4 x5 x6 x7 x8 x9 x10 x12 x13 x14 x15 x16 x18 x19 x20 x21 x23, execW PG E Y ac17L4 [x0, x1, x2, .int .i64 0, x4, x5, x6, x7, x8, x9, x10, .int .i64 (a : Int), x12, x13, x14, x15, x16, .pointer (some ⟨q, 0, none⟩), x18, x19, x20, x21, .pointer (some ⟨p, 0, none⟩), x23] (arr M q A) N = .ok (.exit 10) [x0, x1, x2, .int .i64 (D : Int), x4, x5, x6, x7, x8, x9, x10, .int .i64 (a : Int), x12, x13, x14, x15, x16, .pointer (some ⟨q, 0, none⟩), x18, x19, x20, x21, .pointer (some ⟨p, 0, none⟩), x23] (arr M q A) N (rf [x0, x1, x2, .int .i64 0, x4, x5, x6, x7, x8, x9, x10, .int .i64 (a : Int), x12, x13, x14, x15, x16, .pointer (some ⟨q, 0, none⟩), x18, x19, x20, x21, .pointer (some ⟨p, 0, none⟩), x23]) 0 := by
  obtain ⟨rf, ef, h⟩ := named_r (fun l => execW PG E Y ac17L4 l (arr M q A) N)
  refine ⟨rf, fun x0 x1 x2 x4 x5 x6 x7 x8 x9 x10 x12 x13 x14 x15 x16 x18 x19 x20 x21 x23 => ?_⟩
  rw [(h _).1]
  refine gv_norm (Gv.mono (ref_L4 (E := E) (Y := Y) M N q hqN A hA D hD p hpN hpd a ha x0 x1 x2 x4 x5 x6 x7 x8 x9 x10 x12 x13 x14 x15 x16 x18 x19 x20 x21 x23 D 0 (by omega)) fun X e' m' n' w hh => ?_)
  obtain ⟨h1, h2, h3, h4⟩ := hh
  rcases h4 with ⟨_, h5, h6⟩ | ⟨h5, _⟩
  · exact ⟨h5, h6, h1, h2, h3⟩
  · exact absurd hb h5
theorem ref_L4_no (M : FM) (N q : Nat) (hqN : q < N) (A : List Int) (hA : A.length = 3600) (D : Nat) (hD : D ≤ 60) (p : Nat) (hpN : p < N) (hpd : ld1V (arr M q A) N (.pointer (some ⟨p, 0 + 0, none⟩)) = .ok (.int .i64 (D : Int)) (arr M q A) N (bit p) 0) (a : Nat) (ha : a < D) (hb : ¬ BalRow A D A[0]! A[1]! a 0) : ∃ (rf : List Value → Nat) (ef : List Value → List Value), ∀ x0 x1 x2 x4 x5 x6 x7 x8 x9 x10 x12 x13 x14 x15 x16 x18 x19 x20 x21 x23, execW PG E Y ac17L4 [x0, x1, x2, .int .i64 0, x4, x5, x6, x7, x8, x9, x10, .int .i64 (a : Int), x12, x13, x14, x15, x16, .pointer (some ⟨q, 0, none⟩), x18, x19, x20, x21, .pointer (some ⟨p, 0, none⟩), x23] (arr M q A) N = .ok (.ret errF) (ef [x0, x1, x2, .int .i64 0, x4, x5, x6, x7, x8, x9, x10, .int .i64 (a : Int), x12, x13, x14, x15, x16, .pointer (some ⟨q, 0, none⟩), x18, x19, x20, x21, .pointer (some ⟨p, 0, none⟩), x23]) (arr M q A) N (rf [x0, x1, x2, .int .i64 0, x4, x5, x6, x7, x8, x9, x10, .int .i64 (a : Int), x12, x13, x14, x15, x16, .pointer (some ⟨q, 0, none⟩), x18, x19, x20, x21, .pointer (some ⟨p, 0, none⟩), x23]) 0 := by
  obtain ⟨rf, ef, h⟩ := named_r (fun l => execW PG E Y ac17L4 l (arr M q A) N)
  refine ⟨rf, ef, fun x0 x1 x2 x4 x5 x6 x7 x8 x9 x10 x12 x13 x14 x15 x16 x18 x19 x20 x21 x23 => ?_⟩
  rw [(h _).1, (h _).2]
  refine gv_ret (Gv.mono (ref_L4 (E := E) (Y := Y) M N q hqN A hA D hD p hpN hpd a ha x0 x1 x2 x4 x5 x6 x7 x8 x9 x10 x12 x13 x14 x15 x16 x18 x19 x20 x21 x23 D 0 (by omega)) fun X e' m' n' w hh => ?_)
  obtain ⟨h1, h2, h3, h4⟩ := hh
  rcases h4 with ⟨h5, _, _⟩ | ⟨_, h5⟩
  · exact absurd h5 hb
  · exact ⟨h5, h1, h2, h3⟩
theorem ref_L5 (M : FM) (N q : Nat) (hqN : q < N) (A : List Int) (hA : A.length = 3600) (D : Nat) (hD : D ≤ 60) (p : Nat) (hpN : p < N) (hpd : ld1V (arr M q A) N (.pointer (some ⟨p, 0 + 0, none⟩)) = .ok (.int .i64 (D : Int)) (arr M q A) N (bit p) 0) (x0 x1 x2 x4 x5 x6 x7 x8 x10 x11 x12 x13 x15 : Value) : ∀ d j, j + d = D →
    Gv (execW PG E Y ac17L5 [x0, x1, x2, .int .i64 (j : Int), x4, x5, x6, x7, x8, .pointer (some ⟨q, 0, none⟩), x10, x11, x12, x13, .pointer (some ⟨p, 0, none⟩), x15] (arr M q A) N) fun X e' m' n' w => m' = arr M q A ∧ n' = N ∧ w = 0 ∧
      ((Bal A D A[0]! A[1]! j ∧ X = .exit 8 ∧ e' = [x0, x1, x2, x4, x5, x6, x7, x8, .pointer (some ⟨q, 0, none⟩), x10, x11, x12, x13, .pointer (some ⟨p, 0, none⟩), x15]) ∨ (¬ Bal A D A[0]! A[1]! j ∧ X = .ret errF)) := by
  intro d
  induction d with
  | zero =>
    intro j hj
    have hjl : (j : Int) = (D : Int) := by omega
    have hlt : ¬ ((D : Int) < (D : Int)) := by omega
    rw [ac17L5_w, hjl]
    simp only [ac17L5b, Gv_add, w_seq, v_reg, q_cons, q_nil, q_nop, q_op, q_eff, q_opg, q_effg, keep_ok, drop1_ok, out_ok, crRec_mk, onNorm_norm, onNorm_exit, onNorm_ret, addRW_mk, w_cond, onCond_mk, w_block, onBlock_norm, onBlock_ret, onBlock_exit, w_pre, w_post, onPost_norm, onPost_exit, onPost_ret, w_exit, w_ret, onRet_mk, res_nil, res_cons, resO_v, retV_one, fixE_mk, lmap_nil, lmap_cons, ldrop_z, ldrop_s, ev_v, ev_c, lget_z, lget_s, evs_nil, evs_cons, s_mov, s_pick, s_bin, s_una, s_conv, s_fld, s_idx, s_ida, s_build, s_extr, s_nilck, s_len, s_mx, s_ld1, s_ldn, s_st, s_call, s_new, s_box, s_make, s_app, bin_int, i_add, i_sub, i_mul, i_eql, i_neq, i_lss, i_gtr, i_leq, i_geq, pick_mk, wantB_mk, una_not, fld_mk, nilck_mk, valO_some, lor_zero', zero_lor', cond_true, cond_false, Nat.beq_refl, natOf_mk, natOf_zero, natOf_one, obind_some, w_skip, Bool.not_true, Bool.not_false, wantB_undef, newb_fm, ptrP_mk, slcP_mk, cells_agg, hpd, hlt, decide_false]
    exact ⟨rfl, rfl, rfl, .inl ⟨fun b h1 h2 => by omega, rfl, rfl⟩⟩
  | succ d ih =>
    intro j hj
    have hlt : (j : Int) < (D : Int) := by omega
    have hjl : j < D := by omega
    have hw : IntKind.i64.wrap ((j : Int) + 1) = ((j + 1 : Nat) : Int) := by rw [wrap_small (by omega) (by omega)]; omega
    have hstep := bal_step (A := A) (r := A[0]!) (lam := A[1]!) hjl
    rw [ac17L5_w]
    by_cases hb : BalRow A D A[0]! A[1]! j 0
    · obtain ⟨rf, hrf⟩ := ref_L4_yes (E := E) (Y := Y) M N q hqN A hA D hD p hpN hpd j hjl hb
      simp only [ac17L5b, Gv_add, w_seq, v_reg, q_cons, q_nil, q_nop, q_op, q_eff, q_opg, q_effg, keep_ok, drop1_ok, out_ok, crRec_mk, onNorm_norm, onNorm_exit, onNorm_ret, addRW_mk, w_cond, onCond_mk, w_block, onBlock_norm, onBlock_ret, onBlock_exit, w_pre, w_post, onPost_norm, onPost_exit, onPost_ret, w_exit, w_ret, onRet_mk, res_nil, res_cons, resO_v, retV_one, fixE_mk, lmap_nil, lmap_cons, ldrop_z, ldrop_s, ev_v, ev_c, lget_z, lget_s, evs_nil, evs_cons, s_mov, s_pick, s_bin, s_una, s_conv, s_fld, s_idx, s_ida, s_build, s_extr, s_nilck, s_len, s_mx, s_ld1, s_ldn, s_st, s_call, s_new, s_box, s_make, s_app, bin_int, i_add, i_sub, i_mul, i_eql, i_neq, i_lss, i_gtr, i_leq, i_geq, pick_mk, wantB_mk, una_not, fld_mk, nilck_mk, valO_some, lor_zero', zero_lor', cond_true, cond_false, Nat.beq_refl, natOf_mk, natOf_zero, natOf_one, obind_some, w_skip, Bool.not_true, Bool.not_false, wantB_undef, newb_fm, ptrP_mk, slcP_mk, cells_agg, hlt, decide_true, hpd, hrf, hw]
      refine Gv.mono (ih (j + 1) (by omega)) fun X e' m' n' w h => ?_
      have hiff : Bal A D A[0]! A[1]! j ↔ Bal A D A[0]! A[1]! (j + 1) := by rw [hstep]; exact ⟨fun h => h.2, fun h => ⟨hb, h⟩⟩
      rw [hiff]
      simpa only [zero_lor'] using h
    · obtain ⟨rf, ef, hrf⟩ := ref_L4_no (E := E) (Y := Y) M N q hqN A hA D hD p hpN hpd j hjl hb
      simp only [ac17L5b, Gv_add, w_seq, v_reg, q_cons, q_nil, q_nop, q_op, q_eff, q_opg, q_effg, keep_ok, drop1_ok, out_ok, crRec_mk, onNorm_norm, onNorm_exit, onNorm_ret, addRW_mk, w_cond, onCond_mk, w_block, onBlock_norm, onBlock_ret, onBlock_exit, w_pre, w_post, onPost_norm, onPost_exit, onPost_ret, w_exit, w_ret, onRet_mk, res_nil, res_cons, resO_v, retV_one, fixE_mk, lmap_nil, lmap_cons, ldrop_z, ldrop_s, ev_v, ev_c, lget_z, lget_s, evs_nil, evs_cons, s_mov, s_pick, s_bin, s_una, s_conv, s_fld, s_idx, s_ida, s_build, s_extr, s_nilck, s_len, s_mx, s_ld1, s_ldn, s_st, s_call, s_new, s_box, s_make, s_app, bin_int, i_add, i_sub, i_mul, i_eql, i_neq, i_lss, i_gtr, i_leq, i_geq, pick_mk, wantB_mk, una_not, fld_mk, nilck_mk, valO_some, lor_zero', zero_lor', cond_true, cond_false, Nat.beq_refl, natOf_mk, natOf_zero, natOf_one, obind_some, w_skip, Bool.not_true, Bool.not_false, wantB_undef, newb_fm, ptrP_mk, slcP_mk, cells_agg, hlt, decide_true, hpd, hrf, hw]
      exact ⟨rfl, rfl, rfl, .inr ⟨fun h => hb (hstep.1 h).1, rfl⟩⟩
end Go.Am.C07.K
namespace Go.Am.C07.K
open Go Go.Am
variable {E : Nat → Option AFn} {Y : Nat → List Value → FM → Nat → OR FM}
theorem named_all (f : List Value → CR FM) : ∃ (ef : List Value → List Value) (mf : List Value → FM) (rf wf : List Value → Nat), ∀ l X e m n r w, f l = .ok X e m n r w → ef l = e ∧ mf l = m ∧ rf l = r ∧ wf l = w :=
  ⟨fun l => eOf (f l), fun l => match f l with | .no => fun _ => none | .ok _ _ m _ _ _ => m, fun l => rOf (f l), fun l => match f l with | .no => 0 | .ok _ _ _ _ _ w => w, fun l X e m n r w h => by refine ⟨?_, ?_, ?_, ?_⟩ <;> simp [h, rOf, eOf]⟩
theorem groupsR_iff {disks : Int} {gs : List (List Int)} (h : 0 < gs.length) : GroupsR disks gs[0].length gs 0 ↔ 2 ≤ gs[0].length ∧ GroupsFrom disks gs[0].length gs 0 :=
  ⟨fun hr => ⟨(hr 0 _ (Nat.le_refl _) (List.getElem?_eq_getElem h)).1.1, fun i g h1 h2 => ⟨(hr i g h1 h2).1.2, (hr i g h1 h2).2⟩⟩, fun ⟨h1, h2⟩ i g h3 h4 => by
    obtain ⟨k1, k2⟩ := h2 i g h3 h4
    exact ⟨⟨by omega, k1⟩, k2⟩⟩
theorem formed_iffR {disks : Int} {gs : List (List Int)} (h : 0 < gs.length) : Formed disks gs ↔ 2 ≤ disks ∧ disks ≤ 60 ∧ gs.length ≤ 4096 ∧ GroupsR disks gs[0].length gs 0 := by
  unfold Formed
  rw [groupsR_iff h, List.getElem?_eq_getElem h]
  constructor
  · rintro ⟨h1, h2, h3, g0, h4, h5, h6⟩
    injection h4 with h4; subst h4
    exact ⟨h1, h2, h3, h5, h6⟩
  · rintro ⟨h1, h2, h3, h5, h6⟩
    exact ⟨h1, h2, h3, _, rfl, h5, h6⟩
theorem ref_spec (hE : E 17 = some ac17) (m : FM) (n : Nat) (disks : Int) (gv : Value) (gs : List (List Int)) (hgs : Rows m n gv gs) (hl : gs.length < 4611686018427387904) (hrow : ∀ g ∈ gs, g.length < 4611686018427387904) :
    Pure (callW PG E Y 17 [.agg #[.int .i64 disks, gv]] m n) m n (refV disks gs) := by
  classical
  rw [callW_fn hE rfl]
  have hfree : addrFree (refV disks gs) = true := by unfold refV; split <;> (try split) <;> rfl
  refine pure_of hfree ?_
  have hfr : ∀ b, b < n → (AMem.put m n (some (.cells [.int .i64 disks, gv] 0 false true)) : FM) b = m b := fun b hb => fput_ne m n b _ (by omega)
  have hgs' := hgs.frame (n' := n + 1) (by omega) hfr
  have hp : (AMem.put m n (some (.cells [.int .i64 disks, gv] 0 false true)) : FM) n = some (.cells [.int .i64 disks, gv] 0 false true) := fput_same m n _
  obtain ⟨M, hM⟩ : ∃ M : FM, AMem.put m n (some (.cells [.int .i64 disks, gv] 0 false true)) = M := ⟨_, rfl⟩
  rw [hM] at hgs' hp
  have hbn : Nat.mod (bit n) (bit n) = 0 := mod_bit_ge (Nat.le_refl n)
  have hbn1 : Nat.mod (bit (n + 1)) (bit n) = 0 := mod_bit_ge (by omega)
  have hpd : ld1V M (n + 1) (.pointer (some ⟨n, 0 + 0, none⟩)) = .ok (.int .i64 disks) M (n + 1) (bit n) 0 := ld1_at (by omega) hp rfl
  have hpg : ld1V M (n + 1) (.pointer (some ⟨n, 0 + 1, none⟩)) = .ok gv M (n + 1) (bit n) 0 := ld1_at (by omega) hp rfl
  rw [ac17]
  by_cases c1 : disks < 2
  · have hV : refV disks gs = errF := by unfold refV; rw [if_neg (fun h => by have := h.1; omega)]
    simp only [Gv_add, w_seq, v_reg, q_cons, q_nil, q_nop, q_op, q_eff, q_opg, q_effg, keep_ok, drop1_ok, out_ok, crRec_mk, onNorm_norm, onNorm_exit, onNorm_ret, addRW_mk, w_cond, onCond_mk, w_block, onBlock_norm, onBlock_ret, onBlock_exit, w_pre, w_post, onPost_norm, onPost_exit, onPost_ret, w_exit, w_ret, onRet_mk, res_nil, res_cons, resO_v, retV_one, fixE_mk, lmap_nil, lmap_cons, ldrop_z, ldrop_s, ev_v, ev_c, lget_z, lget_s, evs_nil, evs_cons, s_mov, s_pick, s_bin, s_una, s_conv, s_fld, s_idx, s_ida, s_build, s_extr, s_nilck, s_len, s_mx, s_ld1, s_ldn, s_st, s_call, s_new, s_box, s_make, s_app, bin_int, i_add, i_sub, i_mul, i_eql, i_neq, i_lss, i_gtr, i_leq, i_geq, pick_mk, wantB_mk, una_not, fld_mk, nilck_mk, valO_some, lor_zero', zero_lor', cond_true, cond_false, Nat.beq_refl, natOf_mk, natOf_zero, natOf_one, obind_some, w_skip, Bool.not_true, Bool.not_false, wantB_undef, newb_fm, ptrP_mk, slcP_mk, cells_agg, hM, hpd, hpg, hgs'.len, c1, decide_true, retV_three]
    exact ⟨by rw [hV]; rfl, hbn⟩
  by_cases c2 : 60 < disks
  · have hV : refV disks gs = errF := by unfold refV; rw [if_neg (fun h => by have := h.2.1; omega)]
    simp only [Gv_add, w_seq, v_reg, q_cons, q_nil, q_nop, q_op, q_eff, q_opg, q_effg, keep_ok, drop1_ok, out_ok, crRec_mk, onNorm_norm, onNorm_exit, onNorm_ret, addRW_mk, w_cond, onCond_mk, w_block, onBlock_norm, onBlock_ret, onBlock_exit, w_pre, w_post, onPost_norm, onPost_exit, onPost_ret, w_exit, w_ret, onRet_mk, res_nil, res_cons, resO_v, retV_one, fixE_mk, lmap_nil, lmap_cons, ldrop_z, ldrop_s, ev_v, ev_c, lget_z, lget_s, evs_nil, evs_cons, s_mov, s_pick, s_bin, s_una, s_conv, s_fld, s_idx, s_ida, s_build, s_extr, s_nilck, s_len, s_mx, s_ld1, s_ldn, s_st, s_call, s_new, s_box, s_make, s_app, bin_int, i_add, i_sub, i_mul, i_eql, i_neq, i_lss, i_gtr, i_leq, i_geq, pick_mk, wantB_mk, una_not, fld_mk, nilck_mk, valO_some, lor_zero', zero_lor', cond_true, cond_false, Nat.beq_refl, natOf_mk, natOf_zero, natOf_one, obind_some, w_skip, Bool.not_true, Bool.not_false, wantB_undef, newb_fm, ptrP_mk, slcP_mk, cells_agg, hM, hpd, hpg, hgs'.len, c1, c2, decide_true, decide_false, retV_three]
    exact ⟨by rw [hV]; rfl, hbn⟩
  by_cases c3 : (gs.length : Int) < 1
  · have hV : refV disks gs = errF := by
      unfold refV; rw [if_neg (fun h => ?_)]
      obtain ⟨_, _, _, g0, hg0, _⟩ := h
      have := (List.getElem?_eq_some_iff.1 hg0).1; omega
    simp only [Gv_add, w_seq, v_reg, q_cons, q_nil, q_nop, q_op, q_eff, q_opg, q_effg, keep_ok, drop1_ok, out_ok, crRec_mk, onNorm_norm, onNorm_exit, onNorm_ret, addRW_mk, w_cond, onCond_mk, w_block, onBlock_norm, onBlock_ret, onBlock_exit, w_pre, w_post, onPost_norm, onPost_exit, onPost_ret, w_exit, w_ret, onRet_mk, res_nil, res_cons, resO_v, retV_one, fixE_mk, lmap_nil, lmap_cons, ldrop_z, ldrop_s, ev_v, ev_c, lget_z, lget_s, evs_nil, evs_cons, s_mov, s_pick, s_bin, s_una, s_conv, s_fld, s_idx, s_ida, s_build, s_extr, s_nilck, s_len, s_mx, s_ld1, s_ldn, s_st, s_call, s_new, s_box, s_make, s_app, bin_int, i_add, i_sub, i_mul, i_eql, i_neq, i_lss, i_gtr, i_leq, i_geq, pick_mk, wantB_mk, una_not, fld_mk, nilck_mk, valO_some, lor_zero', zero_lor', cond_true, cond_false, Nat.beq_refl, natOf_mk, natOf_zero, natOf_one, obind_some, w_skip, Bool.not_true, Bool.not_false, wantB_undef, newb_fm, ptrP_mk, slcP_mk, cells_agg, hM, hpd, hpg, hgs'.len, c1, c2, c3, decide_true, decide_false, retV_three]
    exact ⟨by rw [hV]; rfl, hbn⟩
  by_cases c4 : 4096 < (gs.length : Int)
  · have hV : refV disks gs = errF := by unfold refV; rw [if_neg (fun h => by have := h.2.2.1; omega)]
    simp only [Gv_add, w_seq, v_reg, q_cons, q_nil, q_nop, q_op, q_eff, q_opg, q_effg, keep_ok, drop1_ok, out_ok, crRec_mk, onNorm_norm, onNorm_exit, onNorm_ret, addRW_mk, w_cond, onCond_mk, w_block, onBlock_norm, onBlock_ret, onBlock_exit, w_pre, w_post, onPost_norm, onPost_exit, onPost_ret, w_exit, w_ret, onRet_mk, res_nil, res_cons, resO_v, retV_one, fixE_mk, lmap_nil, lmap_cons, ldrop_z, ldrop_s, ev_v, ev_c, lget_z, lget_s, evs_nil, evs_cons, s_mov, s_pick, s_bin, s_una, s_conv, s_fld, s_idx, s_ida, s_build, s_extr, s_nilck, s_len, s_mx, s_ld1, s_ldn, s_st, s_call, s_new, s_box, s_make, s_app, bin_int, i_add, i_sub, i_mul, i_eql, i_neq, i_lss, i_gtr, i_leq, i_geq, pick_mk, wantB_mk, una_not, fld_mk, nilck_mk, valO_some, lor_zero', zero_lor', cond_true, cond_false, Nat.beq_refl, natOf_mk, natOf_zero, natOf_one, obind_some, w_skip, Bool.not_true, Bool.not_false, wantB_undef, newb_fm, ptrP_mk, slcP_mk, cells_agg, hM, hpd, hpg, hgs'.len, c1, c2, c3, c4, decide_true, decide_false, retV_three]
    exact ⟨by rw [hV]; rfl, hbn⟩
  have h0 : 0 < gs.length := by omega
  obtain ⟨D, hD⟩ : ∃ D : Nat, disks = (D : Int) := ⟨disks.toNat, by omega⟩
  have hz : (List.replicate 3600 (Value.int .i64 0)) = zeros.map (Value.int .i64) := by rw [zeros, List.map_replicate]
  have hmem : AMem.put M (n + 1) (some (.cells (List.replicate 3600 (Value.int .i64 0)) 0 false true)) = arr M (n + 1) zeros := by rw [hz]; rfl
  have hzl : zeros.length = 3600 := List.length_replicate
  have hAl : (counts zeros gs).length = 3600 := by rw [counts_length, hzl]
  have hL3 := fun x0 x1 x2 x4 x6 x7 x8 x9 x11 => ref_L3 (E := E) (Y := Y) M (n + 2) (n + 1) n (by omega) (by omega) n (by omega) disks (by omega) gv hp gs hgs' hl hrow h0 x0 x1 x2 x4 x6 x7 x8 x9 x11 gs.length 0 (by omega) zeros hzl
  by_cases hg : GroupsR disks gs[0].length gs 0
  · have hf : Formed disks gs := (formed_iffR h0).2 ⟨by omega, by omega, by omega, hg⟩
    obtain ⟨rf, wf, hnm⟩ := named_w (fun l => execW PG E Y ac17L3 l (arr M (n + 1) zeros) (n + 2))
    have hL3b : ∀ x0 x1 x2 x4 x6 x7 x8 x9 x11, execW PG E Y ac17L3 [x0, x1, x2, .int .i64 0, x4, .pointer (some ⟨n + 1, 0, none⟩), x6, x7, x8, x9, .pointer (some ⟨n, 0, none⟩), x11] (arr M (n + 1) zeros) (n + 2) = .ok (.exit 0) [x0, x1, x2, x4, .pointer (some ⟨n + 1, 0, none⟩), x6, x7, x8, x9, .pointer (some ⟨n, 0, none⟩), x11] (arr M (n + 1) (counts zeros gs)) (n + 2) (rf [x0, x1, x2, .int .i64 0, x4, .pointer (some ⟨n + 1, 0, none⟩), x6, x7, x8, x9, .pointer (some ⟨n, 0, none⟩), x11]) (wf [x0, x1, x2, .int .i64 0, x4, .pointer (some ⟨n + 1, 0, none⟩), x6, x7, x8, x9, .pointer (some ⟨n, 0, none⟩), x11]) ∧ Nat.mod (wf [x0, x1, x2, .int .i64 0, x4, .pointer (some ⟨n + 1, 0, none⟩), x6, x7, x8, x9, .pointer (some ⟨n, 0, none⟩), x11]) (bit n) = 0 := fun x0 x1 x2 x4 x6 x7 x8 x9 x11 => by
      obtain ⟨X, e', m', n', r, w, hx, h1, h2, h3⟩ := Gv_some (hL3 x0 x1 x2 x4 x6 x7 x8 x9 x11)
      rcases h3 with ⟨_, h4, h5, h6⟩ | ⟨h4, _⟩
      · obtain ⟨hr, hw⟩ := hnm _ _ _ _ _ _ _ hx
        have hr' : rf [x0, x1, x2, .int .i64 0, x4, .pointer (some ⟨n + 1, 0, none⟩), x6, x7, x8, x9, .pointer (some ⟨n, 0, none⟩), x11] = r := hr
        have hw' : wf [x0, x1, x2, .int .i64 0, x4, .pointer (some ⟨n + 1, 0, none⟩), x6, x7, x8, x9, .pointer (some ⟨n, 0, none⟩), x11] = w := hw
        rw [hr', hw']
        subst h1; subst h4; subst h5; subst h6
        exact ⟨hx, h2⟩
      · exact absurd hg h4
    have hL3e := fun x0 x1 x2 x4 x6 x7 x8 x9 x11 => (hL3b x0 x1 x2 x4 x6 x7 x8 x9 x11).1
    have hL3w := fun x0 x1 x2 x4 x6 x7 x8 x9 x11 => (hL3b x0 x1 x2 x4 x6 x7 x8 x9 x11).2
    obtain ⟨A, hA⟩ : ∃ A, counts zeros gs = A := ⟨_, rfl⟩
    rw [hA] at hAl
    rw [hA] at hL3e
    have hdlA : ld1V (arr M (n + 1) A) (n + 2) (.pointer (some ⟨n, 0 + 0, none⟩)) = .ok (.int .i64 disks) (arr M (n + 1) A) (n + 2) (bit n) 0 := ld1_at (by omega) ((fput_ne M (n + 1) n _ (by omega)).trans hp) rfl
    have hc0 : (A.map (Value.int .i64))[0 + 0 * 60 + 0 * 1]? = some (.int .i64 A[0]!) := by simp [List.getElem?_eq_getElem (show 0 < A.length by omega)]
    have hc1 : (A.map (Value.int .i64))[0 + 0 * 60 + 1 * 1]? = some (.int .i64 A[1]!) := by simp [List.getElem?_eq_getElem (show 1 < A.length by omega)]
    have hl0 : ld1V (arr M (n + 1) A) (n + 2) (.pointer (some ⟨n + 1, 0 + 0 * 60 + 0 * 1, none⟩)) = .ok (.int .i64 A[0]!) (arr M (n + 1) A) (n + 2) (bit (n + 1)) 0 := ld1_at (by omega) (fput_same M (n + 1) _) hc0
    have hl1 : ld1V (arr M (n + 1) A) (n + 2) (.pointer (some ⟨n + 1, 0 + 0 * 60 + 1 * 1, none⟩)) = .ok (.int .i64 A[1]!) (arr M (n + 1) A) (n + 2) (bit (n + 1)) 0 := ld1_at (by omega) (fput_same M (n + 1) _) hc1
    have hda : idaV 60 60 0 (.pointer (some ⟨n + 1, 0, none⟩)) = some (.pointer (some ⟨n + 1, 0 + 0 * 60, none⟩)) := ida_ok (by omega)
    have hd0 : idaV 60 1 0 (.pointer (some ⟨n + 1, 0 + 0 * 60, none⟩)) = some (.pointer (some ⟨n + 1, 0 + 0 * 60 + 0 * 1, none⟩)) := ida_ok (by omega)
    have hd1 : idaV 60 1 1 (.pointer (some ⟨n + 1, 0 + 0 * 60, none⟩)) = some (.pointer (some ⟨n + 1, 0 + 0 * 60 + 1 * 1, none⟩)) := ida_ok (by omega)
    have hq := blt_true (show n + 1 < n + 2 by omega)
    subst hD
    have hL5 := fun x0 x1 x2 x4 x5 x6 x7 x8 x10 x11 x12 x13 x15 => ref_L5 (E := E) (Y := Y) M (n + 2) (n + 1) (by omega) A hAl D (by omega) n (by omega) hdlA x0 x1 x2 x4 x5 x6 x7 x8 x10 x11 x12 x13 x15 D 0 (by omega)
    obtain ⟨rf4, ef4, hnm4⟩ := named_r (fun l => execW PG E Y ac17L5 l (arr M (n + 1) A) (n + 2))
    by_cases hb : Bal A D A[0]! A[1]! 0
    · have hL5e : ∀ x0 x1 x2 x4 x5 x6 x7 x8 x10 x11 x12 x13 x15, execW PG E Y ac17L5 [x0, x1, x2, .int .i64 0, x4, x5, x6, x7, x8, .pointer (some ⟨n + 1, 0, none⟩), x10, x11, x12, x13, .pointer (some ⟨n, 0, none⟩), x15] (arr M (n + 1) A) (n + 2) = .ok (.exit 8) [x0, x1, x2, x4, x5, x6, x7, x8, .pointer (some ⟨n + 1, 0, none⟩), x10, x11, x12, x13, .pointer (some ⟨n, 0, none⟩), x15] (arr M (n + 1) A) (n + 2) (rf4 [x0, x1, x2, .int .i64 0, x4, x5, x6, x7, x8, .pointer (some ⟨n + 1, 0, none⟩), x10, x11, x12, x13, .pointer (some ⟨n, 0, none⟩), x15]) 0 := fun x0 x1 x2 x4 x5 x6 x7 x8 x10 x11 x12 x13 x15 => by
        rw [(hnm4 _).1]
        refine gv_norm ((hL5 x0 x1 x2 x4 x5 x6 x7 x8 x10 x11 x12 x13 x15).mono fun X e' m' n' w hh => ?_)
        obtain ⟨h1, h2, h3, h4⟩ := hh
        rcases h4 with ⟨_, h5, h6⟩ | ⟨h5, _⟩
        · exact ⟨h5, h6, h1, h2, h3⟩
        · exact absurd hb h5
      have hV : refV (D : Int) gs = .tuple #[.int .i64 A[0]!, .int .i64 A[1]!, .bool (decide ((0 : Int) < A[1]!))] := by
        unfold refV; rw [if_pos hf, hA, Int.toNat_natCast, if_pos hb]
      simp (implicitDefEqProofs := false) only [Gv_add, w_seq, v_reg, q_cons, q_nil, q_nop, q_op, q_eff, q_opg, q_effg, keep_ok, drop1_ok, out_ok, crRec_mk, onNorm_norm, onNorm_exit, onNorm_ret, addRW_mk, w_cond, onCond_mk, w_block, onBlock_norm, onBlock_ret, onBlock_exit, w_pre, w_post, onPost_norm, onPost_exit, onPost_ret, w_exit, w_ret, onRet_mk, res_nil, res_cons, resO_v, retV_one, fixE_mk, lmap_nil, lmap_cons, ldrop_z, ldrop_s, ev_v, ev_c, lget_z, lget_s, evs_nil, evs_cons, s_mov, s_pick, s_bin, s_una, s_conv, s_fld, s_idx, s_ida, s_build, s_extr, s_nilck, s_len, s_mx, s_ld1, s_ldn, s_st, s_call, s_new, s_box, s_make, s_app, bin_int, i_add, i_sub, i_mul, i_eql, i_neq, i_lss, i_gtr, i_leq, i_geq, pick_mk, wantB_mk, una_not, fld_mk, nilck_mk, valO_some, lor_zero', zero_lor', cond_true, cond_false, Nat.beq_refl, natOf_mk, natOf_zero, natOf_one, obind_some, w_skip, Bool.not_true, Bool.not_false, wantB_undef, newb_fm, ptrP_mk, slcP_mk, cells_agg, u_regD, isOkC_ok, belowV_undef, belowV_addr, z_nil, z_cons, y_nil, y_cons, y_nop, y_op, y_eff, y_opg, y_effg, keepD_ok, outX_ok, apart_nil, apart_cons, zero_land', land_zero', stepD_ok', below_all, opds, List.all_cons, List.all_nil, belowV_int, belowV_bool, belowV_ptr, belowV_nils, Bool.and_self, Bool.and_true, Bool.true_and, Bool.or_true, Bool.true_or, Bool.false_or, Nat.reduceAdd, Nat.testBit, Nat.reduceShiftRight, Nat.reduceAnd, Nat.reduceBNe, hM, hpd, hpg, hgs'.len, c1, c2, c3, c4, hmem, hL3e, hL5e, hda, hd0, hd1, hl0, hl1, hq, decide_true, decide_false, retV_three]
      exact ⟨by rw [hV], mod_lor' hbn (mod_lor' hbn1 (hL3w ..))⟩
    · have hL5e : ∀ x0 x1 x2 x4 x5 x6 x7 x8 x10 x11 x12 x13 x15, execW PG E Y ac17L5 [x0, x1, x2, .int .i64 0, x4, x5, x6, x7, x8, .pointer (some ⟨n + 1, 0, none⟩), x10, x11, x12, x13, .pointer (some ⟨n, 0, none⟩), x15] (arr M (n + 1) A) (n + 2) = .ok (.ret errF) (ef4 [x0, x1, x2, .int .i64 0, x4, x5, x6, x7, x8, .pointer (some ⟨n + 1, 0, none⟩), x10, x11, x12, x13, .pointer (some ⟨n, 0, none⟩), x15]) (arr M (n + 1) A) (n + 2) (rf4 [x0, x1, x2, .int .i64 0, x4, x5, x6, x7, x8, .pointer (some ⟨n + 1, 0, none⟩), x10, x11, x12, x13, .pointer (some ⟨n, 0, none⟩), x15]) 0 := fun x0 x1 x2 x4 x5 x6 x7 x8 x10 x11 x12 x13 x15 => by
        rw [(hnm4 _).1, (hnm4 _).2]
        refine gv_ret ((hL5 x0 x1 x2 x4 x5 x6 x7 x8 x10 x11 x12 x13 x15).mono fun X e' m' n' w hh => ?_)
        obtain ⟨h1, h2, h3, h4⟩ := hh
        rcases h4 with ⟨h5, _, _⟩ | ⟨_, h5⟩
        · exact absurd h5 hb
        · exact ⟨h5, h1, h2, h3⟩
      have hV : refV (D : Int) gs = errF := by unfold refV; rw [if_pos hf, hA, Int.toNat_natCast, if_neg hb]
      simp (implicitDefEqProofs := false) only [Gv_add, w_seq, v_reg, q_cons, q_nil, q_nop, q_op, q_eff, q_opg, q_effg, keep_ok, drop1_ok, out_ok, crRec_mk, onNorm_norm, onNorm_exit, onNorm_ret, addRW_mk, w_cond, onCond_mk, w_block, onBlock_norm, onBlock_ret, onBlock_exit, w_pre, w_post, onPost_norm, onPost_exit, onPost_ret, w_exit, w_ret, onRet_mk, res_nil, res_cons, resO_v, retV_one, fixE_mk, lmap_nil, lmap_cons, ldrop_z, ldrop_s, ev_v, ev_c, lget_z, lget_s, evs_nil, evs_cons, s_mov, s_pick, s_bin, s_una, s_conv, s_fld, s_idx, s_ida, s_build, s_extr, s_nilck, s_len, s_mx, s_ld1, s_ldn, s_st, s_call, s_new, s_box, s_make, s_app, bin_int, i_add, i_sub, i_mul, i_eql, i_neq, i_lss, i_gtr, i_leq, i_geq, pick_mk, wantB_mk, una_not, fld_mk, nilck_mk, valO_some, lor_zero', zero_lor', cond_true, cond_false, Nat.beq_refl, natOf_mk, natOf_zero, natOf_one, obind_some, w_skip, Bool.not_true, Bool.not_false, wantB_undef, newb_fm, ptrP_mk, slcP_mk, cells_agg, u_regD, isOkC_ok, belowV_undef, belowV_addr, z_nil, z_cons, y_nil, y_cons, y_nop, y_op, y_eff, y_opg, y_effg, keepD_ok, outX_ok, apart_nil, apart_cons, zero_land', land_zero', stepD_ok', below_all, opds, List.all_cons, List.all_nil, belowV_int, belowV_bool, belowV_ptr, belowV_nils, Bool.and_self, Bool.and_true, Bool.true_and, Bool.or_true, Bool.true_or, Bool.false_or, Nat.reduceAdd, Nat.testBit, Nat.reduceShiftRight, Nat.reduceAnd, Nat.reduceBNe, hM, hpd, hpg, hgs'.len, c1, c2, c3, c4, hmem, hL3e, hL5e, hda, hd0, hd1, hl0, hl1, hq, decide_true, decide_false, retV_three]
      exact ⟨by rw [hV], mod_lor' hbn (mod_lor' hbn1 (hL3w ..))⟩
  · have hf : ¬ Formed disks gs := fun h => hg ((formed_iffR h0).1 h).2.2.2
    have hV : refV disks gs = errF := by unfold refV; rw [if_neg hf]
    obtain ⟨ef, mf, rf, wf, hnm⟩ := named_all (fun l => execW PG E Y ac17L3 l (arr M (n + 1) zeros) (n + 2))
    have hL3b : ∀ x0 x1 x2 x4 x6 x7 x8 x9 x11, execW PG E Y ac17L3 [x0, x1, x2, .int .i64 0, x4, .pointer (some ⟨n + 1, 0, none⟩), x6, x7, x8, x9, .pointer (some ⟨n, 0, none⟩), x11] (arr M (n + 1) zeros) (n + 2) = .ok (.ret errF) (ef [x0, x1, x2, .int .i64 0, x4, .pointer (some ⟨n + 1, 0, none⟩), x6, x7, x8, x9, .pointer (some ⟨n, 0, none⟩), x11]) (mf [x0, x1, x2, .int .i64 0, x4, .pointer (some ⟨n + 1, 0, none⟩), x6, x7, x8, x9, .pointer (some ⟨n, 0, none⟩), x11]) (n + 2) (rf [x0, x1, x2, .int .i64 0, x4, .pointer (some ⟨n + 1, 0, none⟩), x6, x7, x8, x9, .pointer (some ⟨n, 0, none⟩), x11]) (wf [x0, x1, x2, .int .i64 0, x4, .pointer (some ⟨n + 1, 0, none⟩), x6, x7, x8, x9, .pointer (some ⟨n, 0, none⟩), x11]) ∧ Nat.mod (wf [x0, x1, x2, .int .i64 0, x4, .pointer (some ⟨n + 1, 0, none⟩), x6, x7, x8, x9, .pointer (some ⟨n, 0, none⟩), x11]) (bit n) = 0 := fun x0 x1 x2 x4 x6 x7 x8 x9 x11 => by
      obtain ⟨X, e', m', n', r, w, hx, h1, h2, h3⟩ := Gv_some (hL3 x0 x1 x2 x4 x6 x7 x8 x9 x11)
      rcases h3 with ⟨h4, _⟩ | ⟨_, h4⟩
      · exact absurd h4 hg
      · obtain ⟨he, hm, hr, hw⟩ := hnm _ _ _ _ _ _ _ hx
        have he' : ef [x0, x1, x2, .int .i64 0, x4, .pointer (some ⟨n + 1, 0, none⟩), x6, x7, x8, x9, .pointer (some ⟨n, 0, none⟩), x11] = e' := he
        have hm' : mf [x0, x1, x2, .int .i64 0, x4, .pointer (some ⟨n + 1, 0, none⟩), x6, x7, x8, x9, .pointer (some ⟨n, 0, none⟩), x11] = m' := hm
        have hr' : rf [x0, x1, x2, .int .i64 0, x4, .pointer (some ⟨n + 1, 0, none⟩), x6, x7, x8, x9, .pointer (some ⟨n, 0, none⟩), x11] = r := hr
        have hw' : wf [x0, x1, x2, .int .i64 0, x4, .pointer (some ⟨n + 1, 0, none⟩), x6, x7, x8, x9, .pointer (some ⟨n, 0, none⟩), x11] = w := hw
        rw [he', hm', hr', hw']
        subst h1; subst h4
        exact ⟨hx, h2⟩
    have hL3e := fun x0 x1 x2 x4 x6 x7 x8 x9 x11 => (hL3b x0 x1 x2 x4 x6 x7 x8 x9 x11).1
    have hL3w := fun x0 x1 x2 x4 x6 x7 x8 x9 x11 => (hL3b x0 x1 x2 x4 x6 x7 x8 x9 x11).2
    simp (implicitDefEqProofs := false) only [Gv_add, w_seq, v_reg, q_cons, q_nil, q_nop, q_op, q_eff, q_opg, q_effg, keep_ok, drop1_ok, out_ok, crRec_mk, onNorm_norm, onNorm_exit, onNorm_ret, addRW_mk, w_cond, onCond_mk, w_block, onBlock_norm, onBlock_ret, onBlock_exit, w_pre, w_post, onPost_norm, onPost_exit, onPost_ret, w_exit, w_ret, onRet_mk, res_nil, res_cons, resO_v, retV_one, fixE_mk, lmap_nil, lmap_cons, ldrop_z, ldrop_s, ev_v, ev_c, lget_z, lget_s, evs_nil, evs_cons, s_mov, s_pick, s_bin, s_una, s_conv, s_fld, s_idx, s_ida, s_build, s_extr, s_nilck, s_len, s_mx, s_ld1, s_ldn, s_st, s_call, s_new, s_box, s_make, s_app, bin_int, i_add, i_sub, i_mul, i_eql, i_neq, i_lss, i_gtr, i_leq, i_geq, pick_mk, wantB_mk, una_not, fld_mk, nilck_mk, valO_some, lor_zero', zero_lor', cond_true, cond_false, Nat.beq_refl, natOf_mk, natOf_zero, natOf_one, obind_some, w_skip, Bool.not_true, Bool.not_false, wantB_undef, newb_fm, ptrP_mk, slcP_mk, cells_agg, u_regD, isOkC_ok, belowV_undef, belowV_addr, z_nil, z_cons, y_nil, y_cons, y_nop, y_op, y_eff, y_opg, y_effg, keepD_ok, outX_ok, apart_nil, apart_cons, zero_land', land_zero', stepD_ok', below_all, opds, List.all_cons, List.all_nil, belowV_int, belowV_bool, belowV_ptr, belowV_nils, Bool.and_self, Bool.and_true, Bool.true_and, Bool.or_true, Bool.true_or, Bool.false_or, Nat.reduceAdd, Nat.testBit, Nat.reduceShiftRight, Nat.reduceAnd, Nat.reduceBNe, hM, hpd, hpg, hgs'.len, c1, c2, c3, c4, hmem, hL3e, decide_true, decide_false, retV_three]
    exact ⟨by rw [hV], mod_lor' hbn (mod_lor' hbn1 (hL3w ..))⟩
end Go.Am.C07.K
namespace Go.Am.C07
open Go Go.Am Go.Am.C07.K
variable {E : Nat → Option AFn} {Y : Nat → List Value → FM → Nat → OR FM}
theorem refV_good {disks : Int} {gs : List (List Int)} (h : GoodR disks gs) : refV disks gs = .tuple #[.int .i64 (counts zeros gs)[0]!, .int .i64 (counts zeros gs)[1]!, .bool true] := by
  unfold refV; rw [if_pos h.1, if_pos h.2.1, decide_eq_true h.2.2]
theorem refV_bad {disks : Int} {gs : List (List Int)} (h : ¬ GoodR disks gs) : ∃ r l, refV disks gs = .tuple #[.int .i64 r, .int .i64 l, .bool false] := by
  unfold refV
  by_cases h1 : Formed disks gs
  · rw [if_pos h1]
    by_cases h2 : Bal (counts zeros gs) disks.toNat (counts zeros gs)[0]! (counts zeros gs)[1]! 0
    · rw [if_pos h2]
      exact ⟨_, _, by rw [decide_eq_false (fun h3 => h ⟨h1, h2, h3⟩)]⟩
    · rw [if_neg h2]; exact ⟨0, 0, rfl⟩
  · rw [if_neg h1]; exact ⟨0, 0, rfl⟩
theorem designCheck_exec (e4 : E 4 = some ac4) (e15 : E 15 = some ac15) (e16 : E 16 = some ac16) (e17 : E 17 = some ac17) (e26 : E 26 = some ac26) (hA : ∀ m n, Pure (callW PG E Y 10 [] m n) m n (.bool true)) {D : Int} {rv : Value} {gs : List (List Int)} (m : FM) (n : Nat) (hR : Rows m n rv gs) :
    Pure (callW PG E Y 4 [.agg #[.int .i64 D, rv]] m n) m n (.bool true) := by
  refine pure_spec e4 rfl rfl ?_
  simp only [ac4]
  have o1 := hR.one
  have fza : Nat.mod (bit n) (bit n) = 0 := frz_bit (Nat.le_refl _)
  simp (implicitDefEqProofs := false) (disch := omega) only [W2, opds, Nat.testBit, Nat.reduceAdd, Nat.reduceShiftRight, Nat.reduceAnd, Nat.reduceBNe, Nat.reduceMul, o1]
  generalize hM1 : (AMem.put m n (some (.cells [.int .i64 D, rv] 0 false true)) : FM) = M1
  have m1 : M1 n = some (.cells [.int .i64 D, rv] 0 false true) := by rw [← hM1]; exact fput_same _ _ _
  have k1 := hR.frame (m' := M1) (n' := n + 1) (by omega) (fun b hb => by rw [← hM1, fput_ne _ _ _ _ (by omega)])
  have hbel := k1.bel (n + 1) (Nat.le_refl _)
  have hbelF := k1.belF (n + 1) (Nat.le_refl _)
  refine use_pure (hA _ _) fun _ => ?_
  simp (implicitDefEqProofs := false) (disch := omega) only [W2, opds, Nat.testBit, Nat.reduceAdd, Nat.reduceShiftRight, Nat.reduceAnd, Nat.reduceBNe, Nat.reduceMul, m1, hbel, hbelF]
  obtain ⟨few, hfew, hP⟩ := few_spec (Y := Y) e15 (D := D) k1
  refine use_pure hP fun _ => ?_
  cases few with
  | false => simp (implicitDefEqProofs := false) (disch := omega) only [W2, opds, Nat.testBit, Nat.reduceAdd, Nat.reduceShiftRight, Nat.reduceAnd, Nat.reduceBNe, Nat.reduceMul, fza]
  | true =>
    obtain ⟨f1, f2⟩ := hfew.1 rfl
    have hr : ∀ r ∈ gs, r.length < 4611686018427387904 := fun r hr => by
      obtain ⟨i, hi, rfl⟩ := List.getElem_of_mem hr
      have := f2 i hi; omega
    have hS1 := check_spec (E := E) (Y := Y) e16 e26 M1 (n + 1) D rv gs k1 (by omega) hr
    have hS2 := ref_spec (E := E) (Y := Y) e17 M1 (n + 1) D rv gs k1 (by omega) hr
    simp (implicitDefEqProofs := false) (disch := omega) only [W2, opds, Nat.testBit, Nat.reduceAdd, Nat.reduceShiftRight, Nat.reduceAnd, Nat.reduceBNe, Nat.reduceMul, m1, hbel, hbelF]
    by_cases hg : GoodR D gs
    · rw [checkV_good hg] at hS1
      rw [refV_good hg] at hS2
      refine use_pure hS1 fun _ => ?_
      simp (implicitDefEqProofs := false) (disch := omega) only [W2, opds, Nat.testBit, Nat.reduceAdd, Nat.reduceShiftRight, Nat.reduceAnd, Nat.reduceBNe, Nat.reduceMul, m1, hbel, hbelF]
      refine use_pure hS2 fun _ => ?_
      simp (implicitDefEqProofs := false) (disch := omega) only [W2, opds, Nat.testBit, Nat.reduceAdd, Nat.reduceShiftRight, Nat.reduceAnd, Nat.reduceBNe, Nat.reduceMul, fza]
    · rw [checkV_bad hg] at hS1
      obtain ⟨r, l, hb⟩ := refV_bad hg
      rw [hb] at hS2
      refine use_pure hS1 fun _ => ?_
      simp (implicitDefEqProofs := false) (disch := omega) only [W2, opds, Nat.testBit, Nat.reduceAdd, Nat.reduceShiftRight, Nat.reduceAnd, Nat.reduceBNe, Nat.reduceMul, m1, hbel, hbelF, errT]
      refine use_pure hS2 fun _ => ?_
      simp (implicitDefEqProofs := false) (disch := omega) only [W2, opds, Nat.testBit, Nat.reduceAdd, Nat.reduceShiftRight, Nat.reduceAnd, Nat.reduceBNe, Nat.reduceMul, fza]
end Go.Am.C07
