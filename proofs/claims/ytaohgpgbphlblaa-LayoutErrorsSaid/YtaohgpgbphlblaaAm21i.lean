/- Chapter 21: tegularef07.Check, the balance. -/
import Derived.Test.YtaohgpgbphlblaaAm21h
set_option linter.unusedVariables false
set_option linter.unusedSimpArgs false
set_option linter.unusedSectionVars false
namespace Go.Am.C21
open Go Go.Am
set_option linter.unusedVariables false
variable {E : Nat → Option AFn} {Y : Nat → List Value → FM → Nat → OR FM}
theorem ref_L4 (M : FM) (N q : Nat) (hqN : q < N) (A : List Int) (hA : A.length = 3600) (D : Nat) (hD : D ≤ 60) (p : Nat) (hpN : p < N) (hpd : ld1V (arr M q A) N (.pointer (some ⟨p, 0 + 0, none⟩)) = .ok (.int .i64 (D : Int)) (arr M q A) N (bit p) 0) (a : Nat) (ha : a < D) (x0 x1 x2 x4 x5 x6 x7 x8 x9 x10 x12 x13 x14 x15 x16 x18 x19 x20 x21 x23 : Value) : ∀ d j, j + d = D →
    Gv (execW PG E Y ac44L4 [x0, x1, x2, .int .i64 (j : Int), x4, x5, x6, x7, x8, x9, x10, .int .i64 (a : Int), x12, x13, x14, x15, x16, .pointer (some ⟨q, 0, none⟩), x18, x19, x20, x21, .pointer (some ⟨p, 0, none⟩), x23] (arr M q A) N) fun X e' m' n' w => m' = arr M q A ∧ n' = N ∧ w = 0 ∧
      ((BalRow A D A[0]! A[1]! a j ∧ X = .exit 10 ∧ e' = [x0, x1, x2, .int .i64 (D : Int), x4, x5, x6, x7, x8, x9, x10, .int .i64 (a : Int), x12, x13, x14, x15, x16, .pointer (some ⟨q, 0, none⟩), x18, x19, x20, x21, .pointer (some ⟨p, 0, none⟩), x23]) ∨ (¬ BalRow A D A[0]! A[1]! a j ∧ X = .ret errF)) := by
  intro d
  have hc0 : (A.map (Value.int .i64))[0 + 0 * 60 + 0 * 1]? = some (.int .i64 A[0]!) := by simp [List.getElem?_eq_getElem (show 0 < A.length by omega)]
  have hc1 : (A.map (Value.int .i64))[0 + 0 * 60 + 1 * 1]? = some (.int .i64 A[1]!) := by simp [List.getElem?_eq_getElem (show 1 < A.length by omega)]
  have hl0 : ld1V (arr M q A) N (.pointer (some ⟨q, 0 + 0 * 60 + 0 * 1, none⟩)) = .ok (.int .i64 A[0]!) (arr M q A) N (bit q) 0 := ld1_at (by omega) (fput_same M q _) hc0
  have hl01 : ld1V (arr M q A) N (.pointer (some ⟨q, 0 + 0 * 60 + 1 * 1, none⟩)) = .ok (.int .i64 A[1]!) (arr M q A) N (bit q) 0 := ld1_at (by omega) (fput_same M q _) hc1
  have hd0 : idaV 60 60 0 (.pointer (some ⟨q, 0, none⟩)) = some (.pointer (some ⟨q, 0 + 0 * 60, none⟩)) := ida_ok (by omega)
  have hd00 : idaV 60 1 0 (.pointer (some ⟨q, 0 + 0 * 60, none⟩)) = some (.pointer (some ⟨q, 0 + 0 * 60 + 0 * 1, none⟩)) := ida_ok (by omega)
  have hd01 : idaV 60 1 1 (.pointer (some ⟨q, 0 + 0 * 60, none⟩)) = some (.pointer (some ⟨q, 0 + 0 * 60 + 1 * 1, none⟩)) := ida_ok (by omega)
  obtain ⟨r, hr⟩ : ∃ r, A[0]! = r := ⟨_, rfl⟩
  obtain ⟨lam, hlam⟩ : ∃ lam, A[1]! = lam := ⟨_, rfl⟩
  rw [hr] at hl0
  rw [hlam] at hl01
  rw [hr, hlam]
  have hq := blt_true hqN
  induction d with
  | zero =>
    intro j hj
    have hjl : (j : Int) = (D : Int) := by omega
    have hlt : ¬ ((D : Int) < (D : Int)) := by omega
    rw [ac44L4_w, hjl]
    simp only [ac44L4b, Gv_add, w_seq, v_reg, q_cons, q_nil, q_nop, q_op, q_eff, q_opg, q_effg, keep_ok, drop1_ok, out_ok, crRec_mk, onNorm_norm, onNorm_exit, onNorm_ret, addRW_mk, w_cond, onCond_mk, w_block, onBlock_norm, onBlock_ret, onBlock_exit, w_pre, w_post, onPost_norm, onPost_exit, onPost_ret, w_exit, w_ret, onRet_mk, res_nil, res_cons, resO_v, retV_one, fixE_mk, lmap_nil, lmap_cons, ldrop_z, ldrop_s, ev_v, ev_c, lget_z, lget_s, evs_nil, evs_cons, s_mov, s_pick, s_bin, s_una, s_conv, s_fld, s_idx, s_ida, s_build, s_extr, s_nilck, s_len, s_mx, s_ld1, s_ldn, s_st, s_call, s_new, s_box, s_make, s_app, bin_int, i_add, i_sub, i_mul, i_eql, i_neq, i_lss, i_gtr, i_leq, i_geq, pick_mk, wantB_mk, una_not, fld_mk, nilck_mk, valO_some, lor_zero', zero_lor', cond_true, cond_false, Nat.beq_refl, natOf_mk, natOf_zero, natOf_one, obind_some, w_skip, Bool.not_true, Bool.not_false, wantB_undef, newb_fm, ptrP_mk, slcP_mk, cells_agg, hpd, hlt, decide_false]
    exact ⟨rfl, rfl, rfl, .inl ⟨fun b h1 h2 => by omega, rfl, rfl⟩⟩
  | succ d ih =>
    intro j hj
    have hlt : (j : Int) < (D : Int) := by omega
    have hjl : j < D := by omega
    have hw : IntKind.i64.wrap ((j : Int) + 1) = ((j + 1 : Nat) : Int) := by rw [wrap_small (by omega) (by omega)]; omega
    have hstep := balRow_step (A := A) (r := r) (lam := lam) (a := a) hjl
    rw [ac44L4_w]
    by_cases hab0 : (a : Int) = (j : Int)
    · have hab : decide ((a : Int) = (j : Int)) = true := decide_eq_true hab0
      have hab' : a = j := by omega
      have hk : 0 + a * 60 + a * 1 < A.length := by omega
      have hcell : ((A.map (Value.int .i64)))[0 + a * 60 + a * 1]? = some (.int .i64 A[0 + a * 60 + a * 1]) := by simp [List.getElem?_eq_getElem hk]
      have hl1 : ld1V (arr M q A) N (.pointer (some ⟨q, 0 + a * 60 + a * 1, none⟩)) = .ok (.int .i64 A[0 + a * 60 + a * 1]) (arr M q A) N (bit q) 0 := ld1_at hqN (fput_same M q _) hcell
      have hda : idaV 60 60 a (.pointer (some ⟨q, 0, none⟩)) = some (.pointer (some ⟨q, 0 + a * 60, none⟩)) := ida_ok (by omega)
      have hdb : idaV 60 1 a (.pointer (some ⟨q, 0 + a * 60, none⟩)) = some (.pointer (some ⟨q, 0 + a * 60 + a * 1, none⟩)) := ida_ok (by omega)
      have hAe : A[60 * a + j]?.getD 0 = A[0 + a * 60 + a * 1] := by
        have e : 60 * a + j = 0 + a * 60 + a * 1 := by omega
        rw [e, List.getElem?_eq_getElem hk]; rfl
      rw [hAe, if_pos hab'] at hstep
      obtain ⟨z, hz⟩ : ∃ z, A[0 + a * 60 + a * 1] = z := ⟨_, rfl⟩
      rw [hz] at hl1 hstep
      by_cases hv0 : z = r
      · have hv : decide (z = r) = true := decide_eq_true hv0
        simp (implicitDefEqProofs := false) only [ac44L4b, Gv_add, w_seq, v_reg, q_cons, q_nil, q_nop, q_op, q_eff, q_opg, q_effg, keep_ok, drop1_ok, out_ok, crRec_mk, onNorm_norm, onNorm_exit, onNorm_ret, addRW_mk, w_cond, onCond_mk, w_block, onBlock_norm, onBlock_ret, onBlock_exit, w_pre, w_post, onPost_norm, onPost_exit, onPost_ret, w_exit, w_ret, onRet_mk, res_nil, res_cons, resO_v, retV_one, fixE_mk, lmap_nil, lmap_cons, ldrop_z, ldrop_s, ev_v, ev_c, lget_z, lget_s, evs_nil, evs_cons, s_mov, s_pick, s_bin, s_una, s_conv, s_fld, s_idx, s_ida, s_build, s_extr, s_nilck, s_len, s_mx, s_ld1, s_ldn, s_st, s_call, s_new, s_box, s_make, s_app, bin_int, i_add, i_sub, i_mul, i_eql, i_neq, i_lss, i_gtr, i_leq, i_geq, pick_mk, wantB_mk, una_not, fld_mk, nilck_mk, valO_some, lor_zero', zero_lor', cond_true, cond_false, Nat.beq_refl, natOf_mk, natOf_zero, natOf_one, obind_some, w_skip, Bool.not_true, Bool.not_false, wantB_undef, newb_fm, ptrP_mk, slcP_mk, cells_agg, u_regD, isOkC_ok, belowV_undef, belowV_addr, z_nil, z_cons, y_nil, y_cons, y_nop, y_op, y_eff, y_opg, y_effg, keepD_ok, outX_ok, apart_nil, apart_cons, zero_land', land_zero', stepD_ok', below_all, opds, List.all_cons, List.all_nil, belowV_int, belowV_bool, belowV_ptr, belowV_nils, Bool.and_self, Bool.and_true, Bool.true_and, Bool.or_true, Bool.true_or, Bool.false_or, Nat.reduceAdd, Nat.testBit, Nat.reduceShiftRight, Nat.reduceAnd, Nat.reduceBNe, hpd, hlt, decide_true, decide_false, hda, hdb, hd0, hd00, hd01, hl0, hl01, hl1, hq, hab, hv, retV_three, hw]
        refine Gv.mono (ih (j + 1) (by omega)) fun X e' m' n' w h => ?_
        have hiff : BalRow A D r lam a j ↔ BalRow A D r lam a (j + 1) := by rw [hstep]; exact ⟨fun h => h.2, fun h => ⟨hv0, h⟩⟩
        rw [hiff]
        simpa only [zero_lor'] using h
      · have hv : decide (z = r) = false := decide_eq_false hv0
        simp (implicitDefEqProofs := false) only [ac44L4b, Gv_add, w_seq, v_reg, q_cons, q_nil, q_nop, q_op, q_eff, q_opg, q_effg, keep_ok, drop1_ok, out_ok, crRec_mk, onNorm_norm, onNorm_exit, onNorm_ret, addRW_mk, w_cond, onCond_mk, w_block, onBlock_norm, onBlock_ret, onBlock_exit, w_pre, w_post, onPost_norm, onPost_exit, onPost_ret, w_exit, w_ret, onRet_mk, res_nil, res_cons, resO_v, retV_one, fixE_mk, lmap_nil, lmap_cons, ldrop_z, ldrop_s, ev_v, ev_c, lget_z, lget_s, evs_nil, evs_cons, s_mov, s_pick, s_bin, s_una, s_conv, s_fld, s_idx, s_ida, s_build, s_extr, s_nilck, s_len, s_mx, s_ld1, s_ldn, s_st, s_call, s_new, s_box, s_make, s_app, bin_int, i_add, i_sub, i_mul, i_eql, i_neq, i_lss, i_gtr, i_leq, i_geq, pick_mk, wantB_mk, una_not, fld_mk, nilck_mk, valO_some, lor_zero', zero_lor', cond_true, cond_false, Nat.beq_refl, natOf_mk, natOf_zero, natOf_one, obind_some, w_skip, Bool.not_true, Bool.not_false, wantB_undef, newb_fm, ptrP_mk, slcP_mk, cells_agg, u_regD, isOkC_ok, belowV_undef, belowV_addr, z_nil, z_cons, y_nil, y_cons, y_nop, y_op, y_eff, y_opg, y_effg, keepD_ok, outX_ok, apart_nil, apart_cons, zero_land', land_zero', stepD_ok', below_all, opds, List.all_cons, List.all_nil, belowV_int, belowV_bool, belowV_ptr, belowV_nils, Bool.and_self, Bool.and_true, Bool.true_and, Bool.or_true, Bool.true_or, Bool.false_or, Nat.reduceAdd, Nat.testBit, Nat.reduceShiftRight, Nat.reduceAnd, Nat.reduceBNe, hpd, hlt, decide_true, decide_false, hda, hdb, hd0, hd00, hd01, hl0, hl01, hl1, hq, hab, hv, retV_three]
        exact ⟨rfl, rfl, rfl, .inr ⟨fun h => hv0 (hstep.1 h).1, rfl⟩⟩
    · have hab : decide ((a : Int) = (j : Int)) = false := decide_eq_false hab0
      have hab' : ¬ a = j := by omega
      have hk : 0 + a * 60 + j * 1 < A.length := by omega
      have hcell : ((A.map (Value.int .i64)))[0 + a * 60 + j * 1]? = some (.int .i64 A[0 + a * 60 + j * 1]) := by simp [List.getElem?_eq_getElem hk]
      have hl1 : ld1V (arr M q A) N (.pointer (some ⟨q, 0 + a * 60 + j * 1, none⟩)) = .ok (.int .i64 A[0 + a * 60 + j * 1]) (arr M q A) N (bit q) 0 := ld1_at hqN (fput_same M q _) hcell
      have hda : idaV 60 60 a (.pointer (some ⟨q, 0, none⟩)) = some (.pointer (some ⟨q, 0 + a * 60, none⟩)) := ida_ok (by omega)
      have hdb : idaV 60 1 j (.pointer (some ⟨q, 0 + a * 60, none⟩)) = some (.pointer (some ⟨q, 0 + a * 60 + j * 1, none⟩)) := ida_ok (by omega)
      have hAe : A[60 * a + j]?.getD 0 = A[0 + a * 60 + j * 1] := by
        have e : 60 * a + j = 0 + a * 60 + j * 1 := by omega
        rw [e, List.getElem?_eq_getElem hk]; rfl
      rw [hAe, if_neg hab'] at hstep
      obtain ⟨z, hz⟩ : ∃ z, A[0 + a * 60 + j * 1] = z := ⟨_, rfl⟩
      rw [hz] at hl1 hstep
      by_cases hv0 : z = lam
      · have hv : decide (z = lam) = true := decide_eq_true hv0
        simp (implicitDefEqProofs := false) only [ac44L4b, Gv_add, w_seq, v_reg, q_cons, q_nil, q_nop, q_op, q_eff, q_opg, q_effg, keep_ok, drop1_ok, out_ok, crRec_mk, onNorm_norm, onNorm_exit, onNorm_ret, addRW_mk, w_cond, onCond_mk, w_block, onBlock_norm, onBlock_ret, onBlock_exit, w_pre, w_post, onPost_norm, onPost_exit, onPost_ret, w_exit, w_ret, onRet_mk, res_nil, res_cons, resO_v, retV_one, fixE_mk, lmap_nil, lmap_cons, ldrop_z, ldrop_s, ev_v, ev_c, lget_z, lget_s, evs_nil, evs_cons, s_mov, s_pick, s_bin, s_una, s_conv, s_fld, s_idx, s_ida, s_build, s_extr, s_nilck, s_len, s_mx, s_ld1, s_ldn, s_st, s_call, s_new, s_box, s_make, s_app, bin_int, i_add, i_sub, i_mul, i_eql, i_neq, i_lss, i_gtr, i_leq, i_geq, pick_mk, wantB_mk, una_not, fld_mk, nilck_mk, valO_some, lor_zero', zero_lor', cond_true, cond_false, Nat.beq_refl, natOf_mk, natOf_zero, natOf_one, obind_some, w_skip, Bool.not_true, Bool.not_false, wantB_undef, newb_fm, ptrP_mk, slcP_mk, cells_agg, u_regD, isOkC_ok, belowV_undef, belowV_addr, z_nil, z_cons, y_nil, y_cons, y_nop, y_op, y_eff, y_opg, y_effg, keepD_ok, outX_ok, apart_nil, apart_cons, zero_land', land_zero', stepD_ok', below_all, opds, List.all_cons, List.all_nil, belowV_int, belowV_bool, belowV_ptr, belowV_nils, Bool.and_self, Bool.and_true, Bool.true_and, Bool.or_true, Bool.true_or, Bool.false_or, Nat.reduceAdd, Nat.testBit, Nat.reduceShiftRight, Nat.reduceAnd, Nat.reduceBNe, hpd, hlt, decide_true, decide_false, hda, hdb, hd0, hd00, hd01, hl0, hl01, hl1, hq, hab, hv, retV_three, hw]
        refine Gv.mono (ih (j + 1) (by omega)) fun X e' m' n' w h => ?_
        have hiff : BalRow A D r lam a j ↔ BalRow A D r lam a (j + 1) := by rw [hstep]; exact ⟨fun h => h.2, fun h => ⟨hv0, h⟩⟩
        rw [hiff]
        simpa only [zero_lor'] using h
      · have hv : decide (z = lam) = false := decide_eq_false hv0
        simp (implicitDefEqProofs := false) only [ac44L4b, Gv_add, w_seq, v_reg, q_cons, q_nil, q_nop, q_op, q_eff, q_opg, q_effg, keep_ok, drop1_ok, out_ok, crRec_mk, onNorm_norm, onNorm_exit, onNorm_ret, addRW_mk, w_cond, onCond_mk, w_block, onBlock_norm, onBlock_ret, onBlock_exit, w_pre, w_post, onPost_norm, onPost_exit, onPost_ret, w_exit, w_ret, onRet_mk, res_nil, res_cons, resO_v, retV_one, fixE_mk, lmap_nil, lmap_cons, ldrop_z, ldrop_s, ev_v, ev_c, lget_z, lget_s, evs_nil, evs_cons, s_mov, s_pick, s_bin, s_una, s_conv, s_fld, s_idx, s_ida, s_build, s_extr, s_nilck, s_len, s_mx, s_ld1, s_ldn, s_st, s_call, s_new, s_box, s_make, s_app, bin_int, i_add, i_sub, i_mul, i_eql, i_neq, i_lss, i_gtr, i_leq, i_geq, pick_mk, wantB_mk, una_not, fld_mk, nilck_mk, valO_some, lor_zero', zero_lor', cond_true, cond_false, Nat.beq_refl, natOf_mk, natOf_zero, natOf_one, obind_some, w_skip, Bool.not_true, Bool.not_false, wantB_undef, newb_fm, ptrP_mk, slcP_mk, cells_agg, u_regD, isOkC_ok, belowV_undef, belowV_addr, z_nil, z_cons, y_nil, y_cons, y_nop, y_op, y_eff, y_opg, y_effg, keepD_ok, outX_ok, apart_nil, apart_cons, zero_land', land_zero', stepD_ok', below_all, opds, List.all_cons, List.all_nil, belowV_int, belowV_bool, belowV_ptr, belowV_nils, Bool.and_self, Bool.and_true, Bool.true_and, Bool.or_true, Bool.true_or, Bool.false_or, Nat.reduceAdd, Nat.testBit, Nat.reduceShiftRight, Nat.reduceAnd, Nat.reduceBNe, hpd, hlt, decide_true, decide_false, hda, hdb, hd0, hd00, hd01, hl0, hl01, hl1, hq, hab, hv, retV_three]
        exact ⟨rfl, rfl, rfl, .inr ⟨fun h => hv0 (hstep.1 h).1, rfl⟩⟩
theorem ref_L4_yes (M : FM) (N q : Nat) (hqN : q < N) (A : List Int) (hA : A.length = 3600) (D : Nat) (hD : D ≤ 60) (p : Nat) (hpN : p < N) (hpd : ld1V (arr M q A) N (.pointer (some ⟨p, 0 + 0, none⟩)) = .ok (.int .i64 (D : Int)) (arr M q A) N (bit p) 0) (a : Nat) (ha : a < D) (hb : BalRow A D A[0]! A[1]! a 0) : ∃ rf : List Value → Nat, ∀ x0 x1 x2 x4 x5 x6 x7 x8 x9 x10 x12 x13 x14 x15 x16 x18 x19 x20 x21 x23, execW PG E Y ac44L4 [x0, x1, x2, .int .i64 0, x4, x5, x6, x7, x8, x9, x10, .int .i64 (a : Int), x12, x13, x14, x15, x16, .pointer (some ⟨q, 0, none⟩), x18, x19, x20, x21, .pointer (some ⟨p, 0, none⟩), x23] (arr M q A) N = .ok (.exit 10) [x0, x1, x2, .int .i64 (D : Int), x4, x5, x6, x7, x8, x9, x10, .int .i64 (a : Int), x12, x13, x14, x15, x16, .pointer (some ⟨q, 0, none⟩), x18, x19, x20, x21, .pointer (some ⟨p, 0, none⟩), x23] (arr M q A) N (rf [x0, x1, x2, .int .i64 0, x4, x5, x6, x7, x8, x9, x10, .int .i64 (a : Int), x12, x13, x14, x15, x16, .pointer (some ⟨q, 0, none⟩), x18, x19, x20, x21, .pointer (some ⟨p, 0, none⟩), x23]) 0 := by
  obtain ⟨rf, ef, h⟩ := named_r (fun l => execW PG E Y ac44L4 l (arr M q A) N)
  refine ⟨rf, fun x0 x1 x2 x4 x5 x6 x7 x8 x9 x10 x12 x13 x14 x15 x16 x18 x19 x20 x21 x23 => ?_⟩
  rw [(h _).1]
  refine gv_norm (Gv.mono (ref_L4 (E := E) (Y := Y) M N q hqN A hA D hD p hpN hpd a ha x0 x1 x2 x4 x5 x6 x7 x8 x9 x10 x12 x13 x14 x15 x16 x18 x19 x20 x21 x23 D 0 (by omega)) fun X e' m' n' w hh => ?_)
  obtain ⟨h1, h2, h3, h4⟩ := hh
  rcases h4 with ⟨_, h5, h6⟩ | ⟨h5, _⟩
  · exact ⟨h5, h6, h1, h2, h3⟩
  · exact absurd hb h5
theorem ref_L4_no (M : FM) (N q : Nat) (hqN : q < N) (A : List Int) (hA : A.length = 3600) (D : Nat) (hD : D ≤ 60) (p : Nat) (hpN : p < N) (hpd : ld1V (arr M q A) N (.pointer (some ⟨p, 0 + 0, none⟩)) = .ok (.int .i64 (D : Int)) (arr M q A) N (bit p) 0) (a : Nat) (ha : a < D) (hb : ¬ BalRow A D A[0]! A[1]! a 0) : ∃ (rf : List Value → Nat) (ef : List Value → List Value), ∀ x0 x1 x2 x4 x5 x6 x7 x8 x9 x10 x12 x13 x14 x15 x16 x18 x19 x20 x21 x23, execW PG E Y ac44L4 [x0, x1, x2, .int .i64 0, x4, x5, x6, x7, x8, x9, x10, .int .i64 (a : Int), x12, x13, x14, x15, x16, .pointer (some ⟨q, 0, none⟩), x18, x19, x20, x21, .pointer (some ⟨p, 0, none⟩), x23] (arr M q A) N = .ok (.ret errF) (ef [x0, x1, x2, .int .i64 0, x4, x5, x6, x7, x8, x9, x10, .int .i64 (a : Int), x12, x13, x14, x15, x16, .pointer (some ⟨q, 0, none⟩), x18, x19, x20, x21, .pointer (some ⟨p, 0, none⟩), x23]) (arr M q A) N (rf [x0, x1, x2, .int .i64 0, x4, x5, x6, x7, x8, x9, x10, .int .i64 (a : Int), x12, x13, x14, x15, x16, .pointer (some ⟨q, 0, none⟩), x18, x19, x20, x21, .pointer (some ⟨p, 0, none⟩), x23]) 0 := by
  obtain ⟨rf, ef, h⟩ := named_r (fun l => execW PG E Y ac44L4 l (arr M q A) N)
  refine ⟨rf, ef, fun x0 x1 x2 x4 x5 x6 x7 x8 x9 x10 x12 x13 x14 x15 x16 x18 x19 x20 x21 x23 => ?_⟩
  rw [(h _).1, (h _).2]
  refine gv_ret (Gv.mono (ref_L4 (E := E) (Y := Y) M N q hqN A hA D hD p hpN hpd a ha x0 x1 x2 x4 x5 x6 x7 x8 x9 x10 x12 x13 x14 x15 x16 x18 x19 x20 x21 x23 D 0 (by omega)) fun X e' m' n' w hh => ?_)
  obtain ⟨h1, h2, h3, h4⟩ := hh
  rcases h4 with ⟨h5, _, _⟩ | ⟨_, h5⟩
  · exact absurd h5 hb
  · exact ⟨h5, h1, h2, h3⟩
theorem ref_L5 (M : FM) (N q : Nat) (hqN : q < N) (A : List Int) (hA : A.length = 3600) (D : Nat) (hD : D ≤ 60) (p : Nat) (hpN : p < N) (hpd : ld1V (arr M q A) N (.pointer (some ⟨p, 0 + 0, none⟩)) = .ok (.int .i64 (D : Int)) (arr M q A) N (bit p) 0) (x0 x1 x2 x4 x5 x6 x7 x8 x10 x11 x12 x13 x15 : Value) : ∀ d j, j + d = D →
    Gv (execW PG E Y ac44L5 [x0, x1, x2, .int .i64 (j : Int), x4, x5, x6, x7, x8, .pointer (some ⟨q, 0, none⟩), x10, x11, x12, x13, .pointer (some ⟨p, 0, none⟩), x15] (arr M q A) N) fun X e' m' n' w => m' = arr M q A ∧ n' = N ∧ w = 0 ∧
      ((Bal A D A[0]! A[1]! j ∧ X = .exit 8 ∧ e' = [x0, x1, x2, x4, x5, x6, x7, x8, .pointer (some ⟨q, 0, none⟩), x10, x11, x12, x13, .pointer (some ⟨p, 0, none⟩), x15]) ∨ (¬ Bal A D A[0]! A[1]! j ∧ X = .ret errF)) := by
  intro d
  induction d with
  | zero =>
    intro j hj
    have hjl : (j : Int) = (D : Int) := by omega
    have hlt : ¬ ((D : Int) < (D : Int)) := by omega
    rw [ac44L5_w, hjl]
    simp only [ac44L5b, Gv_add, w_seq, v_reg, q_cons, q_nil, q_nop, q_op, q_eff, q_opg, q_effg, keep_ok, drop1_ok, out_ok, crRec_mk, onNorm_norm, onNorm_exit, onNorm_ret, addRW_mk, w_cond, onCond_mk, w_block, onBlock_norm, onBlock_ret, onBlock_exit, w_pre, w_post, onPost_norm, onPost_exit, onPost_ret, w_exit, w_ret, onRet_mk, res_nil, res_cons, resO_v, retV_one, fixE_mk, lmap_nil, lmap_cons, ldrop_z, ldrop_s, ev_v, ev_c, lget_z, lget_s, evs_nil, evs_cons, s_mov, s_pick, s_bin, s_una, s_conv, s_fld, s_idx, s_ida, s_build, s_extr, s_nilck, s_len, s_mx, s_ld1, s_ldn, s_st, s_call, s_new, s_box, s_make, s_app, bin_int, i_add, i_sub, i_mul, i_eql, i_neq, i_lss, i_gtr, i_leq, i_geq, pick_mk, wantB_mk, una_not, fld_mk, nilck_mk, valO_some, lor_zero', zero_lor', cond_true, cond_false, Nat.beq_refl, natOf_mk, natOf_zero, natOf_one, obind_some, w_skip, Bool.not_true, Bool.not_false, wantB_undef, newb_fm, ptrP_mk, slcP_mk, cells_agg, hpd, hlt, decide_false]
    exact ⟨rfl, rfl, rfl, .inl ⟨fun b h1 h2 => by omega, rfl, rfl⟩⟩
  | succ d ih =>
    intro j hj
    have hlt : (j : Int) < (D : Int) := by omega
    have hjl : j < D := by omega
    have hw : IntKind.i64.wrap ((j : Int) + 1) = ((j + 1 : Nat) : Int) := by rw [wrap_small (by omega) (by omega)]; omega
    have hstep := bal_step (A := A) (r := A[0]!) (lam := A[1]!) hjl
    rw [ac44L5_w]
    by_cases hb : BalRow A D A[0]! A[1]! j 0
    · obtain ⟨rf, hrf⟩ := ref_L4_yes (E := E) (Y := Y) M N q hqN A hA D hD p hpN hpd j hjl hb
      simp only [ac44L5b, Gv_add, w_seq, v_reg, q_cons, q_nil, q_nop, q_op, q_eff, q_opg, q_effg, keep_ok, drop1_ok, out_ok, crRec_mk, onNorm_norm, onNorm_exit, onNorm_ret, addRW_mk, w_cond, onCond_mk, w_block, onBlock_norm, onBlock_ret, onBlock_exit, w_pre, w_post, onPost_norm, onPost_exit, onPost_ret, w_exit, w_ret, onRet_mk, res_nil, res_cons, resO_v, retV_one, fixE_mk, lmap_nil, lmap_cons, ldrop_z, ldrop_s, ev_v, ev_c, lget_z, lget_s, evs_nil, evs_cons, s_mov, s_pick, s_bin, s_una, s_conv, s_fld, s_idx, s_ida, s_build, s_extr, s_nilck, s_len, s_mx, s_ld1, s_ldn, s_st, s_call, s_new, s_box, s_make, s_app, bin_int, i_add, i_sub, i_mul, i_eql, i_neq, i_lss, i_gtr, i_leq, i_geq, pick_mk, wantB_mk, una_not, fld_mk, nilck_mk, valO_some, lor_zero', zero_lor', cond_true, cond_false, Nat.beq_refl, natOf_mk, natOf_zero, natOf_one, obind_some, w_skip, Bool.not_true, Bool.not_false, wantB_undef, newb_fm, ptrP_mk, slcP_mk, cells_agg, hlt, decide_true, hpd, hrf, hw]
      refine Gv.mono (ih (j + 1) (by omega)) fun X e' m' n' w h => ?_
      have hiff : Bal A D A[0]! A[1]! j ↔ Bal A D A[0]! A[1]! (j + 1) := by rw [hstep]; exact ⟨fun h => h.2, fun h => ⟨hb, h⟩⟩
      rw [hiff]
      simpa only [zero_lor'] using h
    · obtain ⟨rf, ef, hrf⟩ := ref_L4_no (E := E) (Y := Y) M N q hqN A hA D hD p hpN hpd j hjl hb
      simp only [ac44L5b, Gv_add, w_seq, v_reg, q_cons, q_nil, q_nop, q_op, q_eff, q_opg, q_effg, keep_ok, drop1_ok, out_ok, crRec_mk, onNorm_norm, onNorm_exit, onNorm_ret, addRW_mk, w_cond, onCond_mk, w_block, onBlock_norm, onBlock_ret, onBlock_exit, w_pre, w_post, onPost_norm, onPost_exit, onPost_ret, w_exit, w_ret, onRet_mk, res_nil, res_cons, resO_v, retV_one, fixE_mk, lmap_nil, lmap_cons, ldrop_z, ldrop_s, ev_v, ev_c, lget_z, lget_s, evs_nil, evs_cons, s_mov, s_pick, s_bin, s_una, s_conv, s_fld, s_idx, s_ida, s_build, s_extr, s_nilck, s_len, s_mx, s_ld1, s_ldn, s_st, s_call, s_new, s_box, s_make, s_app, bin_int, i_add, i_sub, i_mul, i_eql, i_neq, i_lss, i_gtr, i_leq, i_geq, pick_mk, wantB_mk, una_not, fld_mk, nilck_mk, valO_some, lor_zero', zero_lor', cond_true, cond_false, Nat.beq_refl, natOf_mk, natOf_zero, natOf_one, obind_some, w_skip, Bool.not_true, Bool.not_false, wantB_undef, newb_fm, ptrP_mk, slcP_mk, cells_agg, hlt, decide_true, hpd, hrf, hw]
      exact ⟨rfl, rfl, rfl, .inr ⟨fun h => hb (hstep.1 h).1, rfl⟩⟩
end Go.Am.C21
