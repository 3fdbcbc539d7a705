/- Chapter 21: what layout's functions answer where the layout is not valid. -/
import Derived.Test.YtaohgpgbphlblaaAm21n
set_option linter.unusedVariables false
set_option linter.unusedSimpArgs false
set_option linter.unusedSectionVars false
namespace Go.Am.C21
open Go Go.Am
set_option linter.unusedVariables false
variable {E : Nat → Option AFn} {Y : Nat → List Value → FM → Nat → OR FM}
theorem mod_down {x j k : Nat} (h : j ≤ k) (hx : Nat.mod x (bit k) = 0) : Nat.mod x (bit j) = 0 := by
  rw [bit_pow] at hx ⊢
  exact Nat.mod_eq_zero_of_dvd (Nat.dvd_trans (Nat.pow_dvd_pow 2 h) (Nat.dvd_of_mod_eq_zero hx))
theorem home_bad (hE : E 15 = some ac15) (hE2 : E 34 = some ac34) (hE3 : E 47 = some ac47) (hE4 : E 46 = some ac46) (hE5 : E 39 = some ac39) (m : FM) (n : Nat) (disks tiles spare : Int) (gv : Value) (gs : List (List Int)) (hgs : Rows m n gv gs) (hl : gs.length < 4611686018427387904) (hrow : ∀ g ∈ gs, g.length < 4611686018427387904) (hV : ¬ VR disks gs tiles spare) (a b : Value) :
    Kept (callW PG E Y 15 [.agg #[.int .i64 disks, gv, .int .i64 tiles, .int .i64 spare], a, b] m n) m n (.tuple #[.agg #[.int .i64 0, .int .i64 0], .int .i64 1]) := by
  rw [callW_fn hE rfl]
  refine kept_of ?_
  obtain ⟨M1, hM1⟩ : ∃ M1 : FM, AMem.put m n (some (.cells [.int .i64 disks, gv, .int .i64 tiles, .int .i64 spare] 0 false true)) = M1 := ⟨_, rfl⟩
  obtain ⟨M2, hM2⟩ : ∃ M2 : FM, AMem.put M1 (n + 1) (some (.cells [.int .i64 0, .int .i64 0] 0 false true)) = M2 := ⟨_, rfl⟩
  have hp : M2 n = (some (.cells [.int .i64 disks, gv, .int .i64 tiles, .int .i64 spare] 0 false true)) := by rw [← hM2, fput_ne _ _ _ _ (by omega), ← hM1, fput_same]
  have hq : M2 (n + 1) = (some (.cells [.int .i64 0, .int .i64 0] 0 false true)) := by rw [← hM2, fput_same]
  have hfr : ∀ b, b < n → M2 b = m b := fun b hb => by rw [← hM2, fput_ne _ _ _ _ (by omega), ← hM1, fput_ne _ _ _ _ (by omega)]
  have hd4 : ldnV 4 M2 (n + 2) (.pointer (some ⟨n, 0, none⟩)) = .ok (.agg #[.int .i64 disks, gv, .int .i64 tiles, .int .i64 spare]) M2 (n + 2) (bit n) 0 := ldn_at (by omega) hp rfl
  obtain ⟨m', n', r39, w39, h39, hn', hf', hw'⟩ := measure_bad (E := E) (Y := Y) hE5 hE2 hE3 hE4 M2 (n + 2) disks tiles spare gv gs (hgs.frame (by omega) hfr) hl hrow hV
  have hw39 : Nat.mod w39 (bit n) = 0 := mod_down (by omega) hw'
  obtain ⟨M3, hM3⟩ : ∃ M3 : FM, AMem.put m' n' (some (.cells [.int .i64 0, .slice none 0 0, .int .i64 0, .int .i64 0, .int .i64 0, .int .i64 0, .int .i64 0, .slice none 0 0, .slice none 0 0, .int .i64 0, .int .i64 0] 0 false true)) = M3 := ⟨_, rfl⟩
  have hx3 : M3 n' = (some (.cells [.int .i64 0, .slice none 0 0, .int .i64 0, .int .i64 0, .int .i64 0, .int .i64 0, .int .i64 0, .slice none 0 0, .slice none 0 0, .int .i64 0, .int .i64 0] 0 false true)) := by rw [← hM3, fput_same]
  have hf3 : ∀ b, b < n + 2 → M3 b = M2 b := fun b hb => by rw [← hM3, fput_ne _ _ _ _ (by omega), hf' b hb]
  have hs3 : stV 11 [.int .i64 0, .slice none 0 0, .int .i64 0, .int .i64 0, .int .i64 0, .int .i64 0, .int .i64 0, .slice none 0 0, .slice none 0 0, .int .i64 0, .int .i64 0] M3 (n' + 1) (.pointer (some ⟨n', 0, none⟩)) = .ok undef M3 (n' + 1) (bit n') (bit n') := by
    rw [stn_at (k := 11) (by omega) hx3 rfl rfl rfl, fput_self hx3]
  have y0 : ∀ a b : Value, extrV 0 (.tuple #[a, b]) = some a := fun _ _ => rfl
  have y1 : ∀ a b : Value, extrV 1 (.tuple #[a, b]) = some b := fun _ _ => rfl
  have hq3 : M3 (n + 1) = (some (.cells [.int .i64 0, .int .i64 0] 0 false true)) := (hf3 (n + 1) (by omega)).trans hq
  have hs2 : stV 2 [.int .i64 0, .int .i64 0] M3 (n' + 1) (.pointer (some ⟨n + 1, 0, none⟩)) = .ok undef M3 (n' + 1) (bit (n + 1)) (bit (n + 1)) := by
    rw [stn_at (k := 2) (by omega) hq3 rfl rfl rfl, fput_self hq3]
  have hr2 : ∀ vs r, resP M3 (n' + 1) vs r (fun o c => aggO (cellsAt c o 2)) (.pointer (some ⟨n + 1, 0, none⟩)) = some (.agg #[.int .i64 0, .int .i64 0] :: vs, Nat.lor r (bit (n + 1))) := fun vs r => resP_at (by omega) hq3 vs r _ rfl
  rw [ac15]
  simp only [Gv_add, w_seq, v_reg, q_cons, q_nil, q_nop, q_op, q_eff, q_opg, q_effg, keep_ok, drop1_ok, out_ok, crRec_mk, onNorm_norm, onNorm_exit, onNorm_ret, addRW_mk, w_cond, onCond_mk, w_block, onBlock_norm, onBlock_ret, onBlock_exit, w_pre, w_post, onPost_norm, onPost_exit, onPost_ret, w_exit, w_ret, onRet_mk, res_nil, res_cons, resO_v, retV_one, fixE_mk, lmap_nil, lmap_cons, ldrop_z, ldrop_s, ev_v, ev_c, lget_z, lget_s, evs_nil, evs_cons, s_mov, s_pick, s_bin, s_una, s_conv, s_fld, s_idx, s_ida, s_build, s_extr, s_nilck, s_len, s_mx, s_ld1, s_ldn, s_st, s_call, s_new, s_box, s_make, s_app, bin_int, i_add, i_sub, i_mul, i_eql, i_neq, i_lss, i_gtr, i_leq, i_geq, pick_mk, wantB_mk, una_not, fld_mk, nilck_mk, valO_some, lor_zero', zero_lor', cond_true, cond_false, Nat.beq_refl, natOf_mk, natOf_zero, natOf_one, obind_some, w_skip, Bool.not_true, Bool.not_false, wantB_undef, newb_fm, ptrP_mk, slcP_mk, cells_agg, hM1, hM2, resO_cells, aggO_some, parts3_nil, fill_nil, hd4, h39, num0, y0, y1, hM3, hs3, retV_two, retV_three, hs2, hr2]
  exact ⟨rfl, by omega, fun b hb => (hf3 b (by omega)).trans (hfr b hb), by (repeat (first | exact mod_zero _ | assumption | exact mod_bit_ge (by omega) | refine mod_lor' ?_ ?_))⟩
theorem at_bad (hE : E 18 = some ac18) (hE2 : E 34 = some ac34) (hE3 : E 47 = some ac47) (hE4 : E 46 = some ac46) (hE5 : E 39 = some ac39) (m : FM) (n : Nat) (disks tiles spare : Int) (gv : Value) (gs : List (List Int)) (hgs : Rows m n gv gs) (hl : gs.length < 4611686018427387904) (hrow : ∀ g ∈ gs, g.length < 4611686018427387904) (hV : ¬ VR disks gs tiles spare) (a b : Value) :
    Pure (callW PG E Y 18 [.agg #[.int .i64 disks, gv, .int .i64 tiles, .int .i64 spare], .agg #[a, b]] m n) m n (.tuple #[.int .i64 0, .int .i64 0, .int .i64 1]) := by
  rw [callW_fn hE rfl]
  refine pure_of rfl ?_
  obtain ⟨M1, hM1⟩ : ∃ M1 : FM, AMem.put m n (some (.cells [.int .i64 disks, gv, .int .i64 tiles, .int .i64 spare] 0 false true)) = M1 := ⟨_, rfl⟩
  obtain ⟨M2, hM2⟩ : ∃ M2 : FM, AMem.put M1 (n + 1) (some (.cells [a, b] 0 false true)) = M2 := ⟨_, rfl⟩
  have hp : M2 n = (some (.cells [.int .i64 disks, gv, .int .i64 tiles, .int .i64 spare] 0 false true)) := by rw [← hM2, fput_ne _ _ _ _ (by omega), ← hM1, fput_same]
  have hq : M2 (n + 1) = (some (.cells [a, b] 0 false true)) := by rw [← hM2, fput_same]
  have hfr : ∀ b, b < n → M2 b = m b := fun b hb => by rw [← hM2, fput_ne _ _ _ _ (by omega), ← hM1, fput_ne _ _ _ _ (by omega)]
  have hd4 : ldnV 4 M2 (n + 2) (.pointer (some ⟨n, 0, none⟩)) = .ok (.agg #[.int .i64 disks, gv, .int .i64 tiles, .int .i64 spare]) M2 (n + 2) (bit n) 0 := ldn_at (by omega) hp rfl
  obtain ⟨m', n', r39, w39, h39, hn', hf', hw'⟩ := measure_bad (E := E) (Y := Y) hE5 hE2 hE3 hE4 M2 (n + 2) disks tiles spare gv gs (hgs.frame (by omega) hfr) hl hrow hV
  have hw39 : Nat.mod w39 (bit n) = 0 := mod_down (by omega) hw'
  obtain ⟨M3, hM3⟩ : ∃ M3 : FM, AMem.put m' n' (some (.cells [.int .i64 0, .slice none 0 0, .int .i64 0, .int .i64 0, .int .i64 0, .int .i64 0, .int .i64 0, .slice none 0 0, .slice none 0 0, .int .i64 0, .int .i64 0] 0 false true)) = M3 := ⟨_, rfl⟩
  have hx3 : M3 n' = (some (.cells [.int .i64 0, .slice none 0 0, .int .i64 0, .int .i64 0, .int .i64 0, .int .i64 0, .int .i64 0, .slice none 0 0, .slice none 0 0, .int .i64 0, .int .i64 0] 0 false true)) := by rw [← hM3, fput_same]
  have hf3 : ∀ b, b < n + 2 → M3 b = M2 b := fun b hb => by rw [← hM3, fput_ne _ _ _ _ (by omega), hf' b hb]
  have hs3 : stV 11 [.int .i64 0, .slice none 0 0, .int .i64 0, .int .i64 0, .int .i64 0, .int .i64 0, .int .i64 0, .slice none 0 0, .slice none 0 0, .int .i64 0, .int .i64 0] M3 (n' + 1) (.pointer (some ⟨n', 0, none⟩)) = .ok undef M3 (n' + 1) (bit n') (bit n') := by
    rw [stn_at (k := 11) (by omega) hx3 rfl rfl rfl, fput_self hx3]
  have y0 : ∀ a b : Value, extrV 0 (.tuple #[a, b]) = some a := fun _ _ => rfl
  have y1 : ∀ a b : Value, extrV 1 (.tuple #[a, b]) = some b := fun _ _ => rfl
  rw [ac18]
  simp only [Gv_add, w_seq, v_reg, q_cons, q_nil, q_nop, q_op, q_eff, q_opg, q_effg, keep_ok, drop1_ok, out_ok, crRec_mk, onNorm_norm, onNorm_exit, onNorm_ret, addRW_mk, w_cond, onCond_mk, w_block, onBlock_norm, onBlock_ret, onBlock_exit, w_pre, w_post, onPost_norm, onPost_exit, onPost_ret, w_exit, w_ret, onRet_mk, res_nil, res_cons, resO_v, retV_one, fixE_mk, lmap_nil, lmap_cons, ldrop_z, ldrop_s, ev_v, ev_c, lget_z, lget_s, evs_nil, evs_cons, s_mov, s_pick, s_bin, s_una, s_conv, s_fld, s_idx, s_ida, s_build, s_extr, s_nilck, s_len, s_mx, s_ld1, s_ldn, s_st, s_call, s_new, s_box, s_make, s_app, bin_int, i_add, i_sub, i_mul, i_eql, i_neq, i_lss, i_gtr, i_leq, i_geq, pick_mk, wantB_mk, una_not, fld_mk, nilck_mk, valO_some, lor_zero', zero_lor', cond_true, cond_false, Nat.beq_refl, natOf_mk, natOf_zero, natOf_one, obind_some, w_skip, Bool.not_true, Bool.not_false, wantB_undef, newb_fm, ptrP_mk, slcP_mk, cells_agg, hM1, hM2, resO_cells, aggO_some, parts3_nil, fill_nil, hd4, h39, num0, y0, y1, hM3, hs3, retV_two, retV_three]
  exact ⟨rfl, by (repeat (first | exact mod_zero _ | assumption | exact mod_bit_ge (by omega) | refine mod_lor' ?_ ?_))⟩
theorem slot_bad (hE : E 35 = some ac35) (hE2 : E 34 = some ac34) (hE3 : E 47 = some ac47) (hE4 : E 46 = some ac46) (hE5 : E 39 = some ac39) (m : FM) (n : Nat) (disks tiles spare : Int) (gv : Value) (gs : List (List Int)) (hgs : Rows m n gv gs) (hl : gs.length < 4611686018427387904) (hrow : ∀ g ∈ gs, g.length < 4611686018427387904) (hV : ¬ VR disks gs tiles spare) (a : Value) :
    Pure (callW PG E Y 35 [.agg #[.int .i64 disks, gv, .int .i64 tiles, .int .i64 spare], a] m n) m n (.tuple #[.int .i64 0, .int .i64 0, .int .i64 1]) := by
  rw [callW_fn hE rfl]
  refine pure_of rfl ?_
  obtain ⟨M1, hM1⟩ : ∃ M1 : FM, AMem.put m n (some (.cells [.int .i64 disks, gv, .int .i64 tiles, .int .i64 spare] 0 false true)) = M1 := ⟨_, rfl⟩
  have hp : M1 n = (some (.cells [.int .i64 disks, gv, .int .i64 tiles, .int .i64 spare] 0 false true)) := by rw [← hM1, fput_same]
  have hfr : ∀ b, b < n → M1 b = m b := fun b hb => by rw [← hM1, fput_ne _ _ _ _ (by omega)]
  have hd4 : ldnV 4 M1 (n + 1) (.pointer (some ⟨n, 0, none⟩)) = .ok (.agg #[.int .i64 disks, gv, .int .i64 tiles, .int .i64 spare]) M1 (n + 1) (bit n) 0 := ldn_at (by omega) hp rfl
  obtain ⟨m', n', r39, w39, h39, hn', hf', hw'⟩ := measure_bad (E := E) (Y := Y) hE5 hE2 hE3 hE4 M1 (n + 1) disks tiles spare gv gs (hgs.frame (by omega) hfr) hl hrow hV
  have hw39 : Nat.mod w39 (bit n) = 0 := mod_down (by omega) hw'
  obtain ⟨M3, hM3⟩ : ∃ M3 : FM, AMem.put m' n' (some (.cells [.int .i64 0, .slice none 0 0, .int .i64 0, .int .i64 0, .int .i64 0, .int .i64 0, .int .i64 0, .slice none 0 0, .slice none 0 0, .int .i64 0, .int .i64 0] 0 false true)) = M3 := ⟨_, rfl⟩
  have hx3 : M3 n' = (some (.cells [.int .i64 0, .slice none 0 0, .int .i64 0, .int .i64 0, .int .i64 0, .int .i64 0, .int .i64 0, .slice none 0 0, .slice none 0 0, .int .i64 0, .int .i64 0] 0 false true)) := by rw [← hM3, fput_same]
  have hf3 : ∀ b, b < n + 1 → M3 b = M1 b := fun b hb => by rw [← hM3, fput_ne _ _ _ _ (by omega), hf' b hb]
  have hs3 : stV 11 [.int .i64 0, .slice none 0 0, .int .i64 0, .int .i64 0, .int .i64 0, .int .i64 0, .int .i64 0, .slice none 0 0, .slice none 0 0, .int .i64 0, .int .i64 0] M3 (n' + 1) (.pointer (some ⟨n', 0, none⟩)) = .ok undef M3 (n' + 1) (bit n') (bit n') := by
    rw [stn_at (k := 11) (by omega) hx3 rfl rfl rfl, fput_self hx3]
  have y0 : ∀ a b : Value, extrV 0 (.tuple #[a, b]) = some a := fun _ _ => rfl
  have y1 : ∀ a b : Value, extrV 1 (.tuple #[a, b]) = some b := fun _ _ => rfl
  rw [ac35]
  simp only [Gv_add, w_seq, v_reg, q_cons, q_nil, q_nop, q_op, q_eff, q_opg, q_effg, keep_ok, drop1_ok, out_ok, crRec_mk, onNorm_norm, onNorm_exit, onNorm_ret, addRW_mk, w_cond, onCond_mk, w_block, onBlock_norm, onBlock_ret, onBlock_exit, w_pre, w_post, onPost_norm, onPost_exit, onPost_ret, w_exit, w_ret, onRet_mk, res_nil, res_cons, resO_v, retV_one, fixE_mk, lmap_nil, lmap_cons, ldrop_z, ldrop_s, ev_v, ev_c, lget_z, lget_s, evs_nil, evs_cons, s_mov, s_pick, s_bin, s_una, s_conv, s_fld, s_idx, s_ida, s_build, s_extr, s_nilck, s_len, s_mx, s_ld1, s_ldn, s_st, s_call, s_new, s_box, s_make, s_app, bin_int, i_add, i_sub, i_mul, i_eql, i_neq, i_lss, i_gtr, i_leq, i_geq, pick_mk, wantB_mk, una_not, fld_mk, nilck_mk, valO_some, lor_zero', zero_lor', cond_true, cond_false, Nat.beq_refl, natOf_mk, natOf_zero, natOf_one, obind_some, w_skip, Bool.not_true, Bool.not_false, wantB_undef, newb_fm, ptrP_mk, slcP_mk, cells_agg, hM1, resO_cells, aggO_some, parts3_nil, fill_nil, hd4, h39, num0, y0, y1, hM3, hs3, retV_two, retV_three]
  exact ⟨rfl, by (repeat (first | exact mod_zero _ | assumption | exact mod_bit_ge (by omega) | refine mod_lor' ?_ ?_))⟩
theorem number_bad (hE : E 36 = some ac36) (hE2 : E 34 = some ac34) (hE3 : E 47 = some ac47) (hE4 : E 46 = some ac46) (hE5 : E 39 = some ac39) (m : FM) (n : Nat) (disks tiles spare : Int) (gv : Value) (gs : List (List Int)) (hgs : Rows m n gv gs) (hl : gs.length < 4611686018427387904) (hrow : ∀ g ∈ gs, g.length < 4611686018427387904) (hV : ¬ VR disks gs tiles spare) (a b : Value) :
    Pure (callW PG E Y 36 [.agg #[.int .i64 disks, gv, .int .i64 tiles, .int .i64 spare], a, b] m n) m n (.tuple #[.int .i64 0, .int .i64 1]) := by
  rw [callW_fn hE rfl]
  refine pure_of rfl ?_
  obtain ⟨M1, hM1⟩ : ∃ M1 : FM, AMem.put m n (some (.cells [.int .i64 disks, gv, .int .i64 tiles, .int .i64 spare] 0 false true)) = M1 := ⟨_, rfl⟩
  have hp : M1 n = (some (.cells [.int .i64 disks, gv, .int .i64 tiles, .int .i64 spare] 0 false true)) := by rw [← hM1, fput_same]
  have hfr : ∀ b, b < n → M1 b = m b := fun b hb => by rw [← hM1, fput_ne _ _ _ _ (by omega)]
  have hd4 : ldnV 4 M1 (n + 1) (.pointer (some ⟨n, 0, none⟩)) = .ok (.agg #[.int .i64 disks, gv, .int .i64 tiles, .int .i64 spare]) M1 (n + 1) (bit n) 0 := ldn_at (by omega) hp rfl
  obtain ⟨m', n', r39, w39, h39, hn', hf', hw'⟩ := measure_bad (E := E) (Y := Y) hE5 hE2 hE3 hE4 M1 (n + 1) disks tiles spare gv gs (hgs.frame (by omega) hfr) hl hrow hV
  have hw39 : Nat.mod w39 (bit n) = 0 := mod_down (by omega) hw'
  obtain ⟨M3, hM3⟩ : ∃ M3 : FM, AMem.put m' n' (some (.cells [.int .i64 0, .slice none 0 0, .int .i64 0, .int .i64 0, .int .i64 0, .int .i64 0, .int .i64 0, .slice none 0 0, .slice none 0 0, .int .i64 0, .int .i64 0] 0 false true)) = M3 := ⟨_, rfl⟩
  have hx3 : M3 n' = (some (.cells [.int .i64 0, .slice none 0 0, .int .i64 0, .int .i64 0, .int .i64 0, .int .i64 0, .int .i64 0, .slice none 0 0, .slice none 0 0, .int .i64 0, .int .i64 0] 0 false true)) := by rw [← hM3, fput_same]
  have hf3 : ∀ b, b < n + 1 → M3 b = M1 b := fun b hb => by rw [← hM3, fput_ne _ _ _ _ (by omega), hf' b hb]
  have hs3 : stV 11 [.int .i64 0, .slice none 0 0, .int .i64 0, .int .i64 0, .int .i64 0, .int .i64 0, .int .i64 0, .slice none 0 0, .slice none 0 0, .int .i64 0, .int .i64 0] M3 (n' + 1) (.pointer (some ⟨n', 0, none⟩)) = .ok undef M3 (n' + 1) (bit n') (bit n') := by
    rw [stn_at (k := 11) (by omega) hx3 rfl rfl rfl, fput_self hx3]
  have y0 : ∀ a b : Value, extrV 0 (.tuple #[a, b]) = some a := fun _ _ => rfl
  have y1 : ∀ a b : Value, extrV 1 (.tuple #[a, b]) = some b := fun _ _ => rfl
  rw [ac36]
  simp only [Gv_add, w_seq, v_reg, q_cons, q_nil, q_nop, q_op, q_eff, q_opg, q_effg, keep_ok, drop1_ok, out_ok, crRec_mk, onNorm_norm, onNorm_exit, onNorm_ret, addRW_mk, w_cond, onCond_mk, w_block, onBlock_norm, onBlock_ret, onBlock_exit, w_pre, w_post, onPost_norm, onPost_exit, onPost_ret, w_exit, w_ret, onRet_mk, res_nil, res_cons, resO_v, retV_one, fixE_mk, lmap_nil, lmap_cons, ldrop_z, ldrop_s, ev_v, ev_c, lget_z, lget_s, evs_nil, evs_cons, s_mov, s_pick, s_bin, s_una, s_conv, s_fld, s_idx, s_ida, s_build, s_extr, s_nilck, s_len, s_mx, s_ld1, s_ldn, s_st, s_call, s_new, s_box, s_make, s_app, bin_int, i_add, i_sub, i_mul, i_eql, i_neq, i_lss, i_gtr, i_leq, i_geq, pick_mk, wantB_mk, una_not, fld_mk, nilck_mk, valO_some, lor_zero', zero_lor', cond_true, cond_false, Nat.beq_refl, natOf_mk, natOf_zero, natOf_one, obind_some, w_skip, Bool.not_true, Bool.not_false, wantB_undef, newb_fm, ptrP_mk, slcP_mk, cells_agg, hM1, resO_cells, aggO_some, parts3_nil, fill_nil, hd4, h39, num0, y0, y1, hM3, hs3, retV_two, retV_three]
  exact ⟨rfl, by (repeat (first | exact mod_zero _ | assumption | exact mod_bit_ge (by omega) | refine mod_lor' ?_ ?_))⟩
theorem onDisk_bad (hE : E 33 = some ac33) (hE2 : E 34 = some ac34) (hE3 : E 47 = some ac47) (hE4 : E 46 = some ac46) (hE5 : E 39 = some ac39) (m : FM) (n : Nat) (disks tiles spare : Int) (gv : Value) (gs : List (List Int)) (hgs : Rows m n gv gs) (hl : gs.length < 4611686018427387904) (hrow : ∀ g ∈ gs, g.length < 4611686018427387904) (hV : ¬ VR disks gs tiles spare) (a : Value) :
    Pure (callW PG E Y 33 [.agg #[.int .i64 disks, gv, .int .i64 tiles, .int .i64 spare], a] m n) m n (.tuple #[.slice none 0 0, .int .i64 1]) := by
  rw [callW_fn hE rfl]
  refine pure_of rfl ?_
  obtain ⟨M1, hM1⟩ : ∃ M1 : FM, AMem.put m n (some (.cells [.int .i64 disks, gv, .int .i64 tiles, .int .i64 spare] 0 false true)) = M1 := ⟨_, rfl⟩
  have hp : M1 n = (some (.cells [.int .i64 disks, gv, .int .i64 tiles, .int .i64 spare] 0 false true)) := by rw [← hM1, fput_same]
  have hfr : ∀ b, b < n → M1 b = m b := fun b hb => by rw [← hM1, fput_ne _ _ _ _ (by omega)]
  have hd4 : ldnV 4 M1 (n + 1) (.pointer (some ⟨n, 0, none⟩)) = .ok (.agg #[.int .i64 disks, gv, .int .i64 tiles, .int .i64 spare]) M1 (n + 1) (bit n) 0 := ldn_at (by omega) hp rfl
  obtain ⟨m', n', r39, w39, h39, hn', hf', hw'⟩ := measure_bad (E := E) (Y := Y) hE5 hE2 hE3 hE4 M1 (n + 1) disks tiles spare gv gs (hgs.frame (by omega) hfr) hl hrow hV
  have hw39 : Nat.mod w39 (bit n) = 0 := mod_down (by omega) hw'
  obtain ⟨M3, hM3⟩ : ∃ M3 : FM, AMem.put m' n' (some (.cells [.int .i64 0, .slice none 0 0, .int .i64 0, .int .i64 0, .int .i64 0, .int .i64 0, .int .i64 0, .slice none 0 0, .slice none 0 0, .int .i64 0, .int .i64 0] 0 false true)) = M3 := ⟨_, rfl⟩
  have hx3 : M3 n' = (some (.cells [.int .i64 0, .slice none 0 0, .int .i64 0, .int .i64 0, .int .i64 0, .int .i64 0, .int .i64 0, .slice none 0 0, .slice none 0 0, .int .i64 0, .int .i64 0] 0 false true)) := by rw [← hM3, fput_same]
  have hf3 : ∀ b, b < n + 1 → M3 b = M1 b := fun b hb => by rw [← hM3, fput_ne _ _ _ _ (by omega), hf' b hb]
  have hs3 : stV 11 [.int .i64 0, .slice none 0 0, .int .i64 0, .int .i64 0, .int .i64 0, .int .i64 0, .int .i64 0, .slice none 0 0, .slice none 0 0, .int .i64 0, .int .i64 0] M3 (n' + 1) (.pointer (some ⟨n', 0, none⟩)) = .ok undef M3 (n' + 1) (bit n') (bit n') := by
    rw [stn_at (k := 11) (by omega) hx3 rfl rfl rfl, fput_self hx3]
  have y0 : ∀ a b : Value, extrV 0 (.tuple #[a, b]) = some a := fun _ _ => rfl
  have y1 : ∀ a b : Value, extrV 1 (.tuple #[a, b]) = some b := fun _ _ => rfl
  rw [ac33]
  simp only [Gv_add, w_seq, v_reg, q_cons, q_nil, q_nop, q_op, q_eff, q_opg, q_effg, keep_ok, drop1_ok, out_ok, crRec_mk, onNorm_norm, onNorm_exit, onNorm_ret, addRW_mk, w_cond, onCond_mk, w_block, onBlock_norm, onBlock_ret, onBlock_exit, w_pre, w_post, onPost_norm, onPost_exit, onPost_ret, w_exit, w_ret, onRet_mk, res_nil, res_cons, resO_v, retV_one, fixE_mk, lmap_nil, lmap_cons, ldrop_z, ldrop_s, ev_v, ev_c, lget_z, lget_s, evs_nil, evs_cons, s_mov, s_pick, s_bin, s_una, s_conv, s_fld, s_idx, s_ida, s_build, s_extr, s_nilck, s_len, s_mx, s_ld1, s_ldn, s_st, s_call, s_new, s_box, s_make, s_app, bin_int, i_add, i_sub, i_mul, i_eql, i_neq, i_lss, i_gtr, i_leq, i_geq, pick_mk, wantB_mk, una_not, fld_mk, nilck_mk, valO_some, lor_zero', zero_lor', cond_true, cond_false, Nat.beq_refl, natOf_mk, natOf_zero, natOf_one, obind_some, w_skip, Bool.not_true, Bool.not_false, wantB_undef, newb_fm, ptrP_mk, slcP_mk, cells_agg, hM1, resO_cells, aggO_some, parts3_nil, fill_nil, hd4, h39, num0, y0, y1, hM3, hs3, retV_two, retV_three]
  exact ⟨rfl, by (repeat (first | exact mod_zero _ | assumption | exact mod_bit_ge (by omega) | refine mod_lor' ?_ ?_))⟩
end Go.Am.C21
