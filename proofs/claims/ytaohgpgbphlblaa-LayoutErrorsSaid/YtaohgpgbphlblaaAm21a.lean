/- Chapter 21: Has. -/
import Derived.Test.YtaohgpgbphlblaaAm21l
import Derived.Test.YtaohgpgbphlblaaAmEqD
set_option linter.unusedVariables false
set_option linter.unusedSimpArgs false
set_option linter.unusedSectionVars false
namespace Go.Am.C21
open Go Go.Am
set_option linter.unusedVariables false
variable {E : Nat → Option AFn} {Y : Nat → List Value → FM → Nat → OR FM}
theorem has_loop (m : FM) (n : Nat) (v : Value) (xs : List Int) (k : Int) (hs : Ints m n v xs) (hl : xs.length < 9223372036854775807) : ∀ d j, j + d = xs.length →
    Gv (execW PG E Y ac42L0 [.bool false, .int .i64 (j : Int), .int .i64 0, .bool false, v, .int .i64 k] m n) fun X e' m' n' w => m' = m ∧ n' = n ∧ w = 0 ∧
      ((k ∈ xs.drop j ∧ X = .ret (.bool true)) ∨ (k ∉ xs.drop j ∧ X = .exit 0 ∧ e' = [.bool false, .int .i64 0, .bool false, v, .int .i64 k])) := by
  intro d
  induction d with
  | zero =>
    intro j hj
    have hlt : ¬ ((j : Int) < (xs.length : Int)) := by omega
    rw [ac42L0_w]
    simp only [ac42L0b, Gv_add, w_seq, v_reg, q_cons, q_nil, q_nop, q_op, q_eff, q_opg, q_effg, keep_ok, drop1_ok, out_ok, crRec_mk, onNorm_norm, onNorm_exit, onNorm_ret, addRW_mk, w_cond, onCond_mk, w_block, onBlock_norm, onBlock_ret, onBlock_exit, w_pre, w_post, onPost_norm, onPost_exit, onPost_ret, w_exit, w_ret, onRet_mk, res_nil, res_cons, resO_v, retV_one, fixE_mk, lmap_nil, lmap_cons, ldrop_z, ldrop_s, ev_v, ev_c, lget_z, lget_s, evs_nil, evs_cons, s_mov, s_pick, s_bin, s_una, s_conv, s_fld, s_idx, s_ida, s_build, s_extr, s_nilck, s_len, s_mx, s_ld1, s_ldn, s_st, s_call, s_new, s_box, s_make, s_app, bin_int, i_add, i_sub, i_mul, i_eql, i_neq, i_lss, i_gtr, i_leq, i_geq, pick_mk, wantB_mk, una_not, fld_mk, nilck_mk, valO_some, lor_zero', zero_lor', cond_true, cond_false, Nat.beq_refl, natOf_mk, natOf_zero, natOf_one, obind_some, w_skip, Bool.not_true, Bool.not_false, wantB_undef, newb_fm, ptrP_mk, slcP_mk, cells_agg, hs.len, hlt, decide_false]
    exact ⟨rfl, rfl, rfl, .inr ⟨by rw [List.drop_eq_nil_of_le (by omega)]; simp, rfl, rfl⟩⟩
  | succ d ih =>
    intro j hj
    have hlt : (j : Int) < (xs.length : Int) := by omega
    obtain ⟨a, b, hix, hld, hb⟩ := hs.at (i := j) (by omega)
    have hw : IntKind.i64.wrap ((j : Int) + 1) = ((j + 1 : Nat) : Int) := by rw [wrap_small (by omega) (by omega)]; omega
    rw [ac42L0_w]
    by_cases hx : xs[j] = k
    · simp only [ac42L0b, Gv_add, w_seq, v_reg, q_cons, q_nil, q_nop, q_op, q_eff, q_opg, q_effg, keep_ok, drop1_ok, out_ok, crRec_mk, onNorm_norm, onNorm_exit, onNorm_ret, addRW_mk, w_cond, onCond_mk, w_block, onBlock_norm, onBlock_ret, onBlock_exit, w_pre, w_post, onPost_norm, onPost_exit, onPost_ret, w_exit, w_ret, onRet_mk, res_nil, res_cons, resO_v, retV_one, fixE_mk, lmap_nil, lmap_cons, ldrop_z, ldrop_s, ev_v, ev_c, lget_z, lget_s, evs_nil, evs_cons, s_mov, s_pick, s_bin, s_una, s_conv, s_fld, s_idx, s_ida, s_build, s_extr, s_nilck, s_len, s_mx, s_ld1, s_ldn, s_st, s_call, s_new, s_box, s_make, s_app, bin_int, i_add, i_sub, i_mul, i_eql, i_neq, i_lss, i_gtr, i_leq, i_geq, pick_mk, wantB_mk, una_not, fld_mk, nilck_mk, valO_some, lor_zero', zero_lor', cond_true, cond_false, Nat.beq_refl, natOf_mk, natOf_zero, natOf_one, obind_some, w_skip, Bool.not_true, Bool.not_false, wantB_undef, newb_fm, ptrP_mk, slcP_mk, cells_agg, hs.len, hlt, decide_true, hix, hld, hx]
      exact ⟨rfl, rfl, rfl, .inl ⟨by rw [List.drop_eq_getElem_cons (by omega), hx]; simp, rfl⟩⟩
    · simp only [ac42L0b, Gv_add, w_seq, v_reg, q_cons, q_nil, q_nop, q_op, q_eff, q_opg, q_effg, keep_ok, drop1_ok, out_ok, crRec_mk, onNorm_norm, onNorm_exit, onNorm_ret, addRW_mk, w_cond, onCond_mk, w_block, onBlock_norm, onBlock_ret, onBlock_exit, w_pre, w_post, onPost_norm, onPost_exit, onPost_ret, w_exit, w_ret, onRet_mk, res_nil, res_cons, resO_v, retV_one, fixE_mk, lmap_nil, lmap_cons, ldrop_z, ldrop_s, ev_v, ev_c, lget_z, lget_s, evs_nil, evs_cons, s_mov, s_pick, s_bin, s_una, s_conv, s_fld, s_idx, s_ida, s_build, s_extr, s_nilck, s_len, s_mx, s_ld1, s_ldn, s_st, s_call, s_new, s_box, s_make, s_app, bin_int, i_add, i_sub, i_mul, i_eql, i_neq, i_lss, i_gtr, i_leq, i_geq, pick_mk, wantB_mk, una_not, fld_mk, nilck_mk, valO_some, lor_zero', zero_lor', cond_true, cond_false, Nat.beq_refl, natOf_mk, natOf_zero, natOf_one, obind_some, w_skip, Bool.not_true, Bool.not_false, wantB_undef, newb_fm, ptrP_mk, slcP_mk, cells_agg, hs.len, hlt, decide_true, decide_false, hix, hld, hx, hw]
      refine Gv.mono (ih (j + 1) (by omega)) fun X e' m' n' w h => ?_
      have hm : k ∈ xs.drop j ↔ k ∈ xs.drop (j + 1) := by
        rw [List.drop_eq_getElem_cons (by omega)]
        exact ⟨fun h => (List.mem_cons.1 h).resolve_left (Ne.symm hx), fun h => List.mem_cons.2 (.inr h)⟩
      rw [hm]
      simpa only [zero_lor'] using h
theorem has_spec (hE : E 42 = some ac42) (m : FM) (n : Nat) (v : Value) (xs : List Int) (k : Int) (hs : Ints m n v xs) (hl : xs.length < 9223372036854775807) :
    Pure (callW PG E Y 42 [v, .int .i64 k] m n) m n (.bool (decide (k ∈ xs))) := by
  rw [callW_fn hE rfl]
  refine pure_of rfl ?_
  obtain ⟨X, e', m', n', r, w, hx, rfl, rfl, rfl, h⟩ := Gv_some (has_loop (E := E) (Y := Y) m n v xs k hs hl xs.length 0 (by omega))
  replace hx : execW PG E Y ac42L0 [.bool false, .int .i64 0, .int .i64 0, .bool false, v, .int .i64 k] m' n' = _ := hx
  rcases h with ⟨h, rfl⟩ | ⟨h, rfl, rfl⟩
  · simp only [ac42, Gv_add, w_seq, v_reg, q_cons, q_nil, q_nop, q_op, q_eff, q_opg, q_effg, keep_ok, drop1_ok, out_ok, crRec_mk, onNorm_norm, onNorm_exit, onNorm_ret, addRW_mk, w_cond, onCond_mk, w_block, onBlock_norm, onBlock_ret, onBlock_exit, w_pre, w_post, onPost_norm, onPost_exit, onPost_ret, w_exit, w_ret, onRet_mk, res_nil, res_cons, resO_v, retV_one, fixE_mk, lmap_nil, lmap_cons, ldrop_z, ldrop_s, ev_v, ev_c, lget_z, lget_s, evs_nil, evs_cons, s_mov, s_pick, s_bin, s_una, s_conv, s_fld, s_idx, s_ida, s_build, s_extr, s_nilck, s_len, s_mx, s_ld1, s_ldn, s_st, s_call, s_new, s_box, s_make, s_app, bin_int, i_add, i_sub, i_mul, i_eql, i_neq, i_lss, i_gtr, i_leq, i_geq, pick_mk, wantB_mk, una_not, fld_mk, nilck_mk, valO_some, lor_zero', zero_lor', cond_true, cond_false, Nat.beq_refl, natOf_mk, natOf_zero, natOf_one, obind_some, w_skip, Bool.not_true, Bool.not_false, wantB_undef, newb_fm, ptrP_mk, slcP_mk, cells_agg, hx]
    exact ⟨by simp at h; simp [h], mod_zero _⟩
  · simp only [ac42, Gv_add, w_seq, v_reg, q_cons, q_nil, q_nop, q_op, q_eff, q_opg, q_effg, keep_ok, drop1_ok, out_ok, crRec_mk, onNorm_norm, onNorm_exit, onNorm_ret, addRW_mk, w_cond, onCond_mk, w_block, onBlock_norm, onBlock_ret, onBlock_exit, w_pre, w_post, onPost_norm, onPost_exit, onPost_ret, w_exit, w_ret, onRet_mk, res_nil, res_cons, resO_v, retV_one, fixE_mk, lmap_nil, lmap_cons, ldrop_z, ldrop_s, ev_v, ev_c, lget_z, lget_s, evs_nil, evs_cons, s_mov, s_pick, s_bin, s_una, s_conv, s_fld, s_idx, s_ida, s_build, s_extr, s_nilck, s_len, s_mx, s_ld1, s_ldn, s_st, s_call, s_new, s_box, s_make, s_app, bin_int, i_add, i_sub, i_mul, i_eql, i_neq, i_lss, i_gtr, i_leq, i_geq, pick_mk, wantB_mk, una_not, fld_mk, nilck_mk, valO_some, lor_zero', zero_lor', cond_true, cond_false, Nat.beq_refl, natOf_mk, natOf_zero, natOf_one, obind_some, w_skip, Bool.not_true, Bool.not_false, wantB_undef, newb_fm, ptrP_mk, slcP_mk, cells_agg, hx]
    exact ⟨by simp at h; simp [h], mod_zero _⟩
end Go.Am.C21
