/- Chapter 21: the law LayoutErrors, on the machine. -/
import Derived.Test.YtaohgpgbphlblaaAm21o
import Derived.Test.YtaohgpgbphlblaaAm21w
import Derived.Test.YtaohgpgbphlblaaAmArgs
set_option linter.unusedVariables false
set_option linter.unusedSimpArgs false
set_option linter.unusedSectionVars false
namespace Go.Am.C21
open Go Go.Am
set_option linter.unusedVariables false
variable {E : Nat → Option AFn} {Y : Nat → List Value → FM → Nat → OR FM}
theorem few_len {gs : List (List Int)} (h : Few gs) : gs.length < 4611686018427387904 ∧ ∀ g ∈ gs, g.length < 4611686018427387904 := by
  refine ⟨by have := h.1; omega, fun g hg => ?_⟩
  obtain ⟨i, hi, rfl⟩ := List.getElem_of_mem hg
  have := h.2 i _ (Nat.zero_le _) (List.getElem?_eq_getElem hi)
  omega
theorem layoutErrors_exec (hE : E 12 = some ac12) (e15 : E 15 = some ac15) (e18 : E 18 = some ac18) (e27 : E 27 = some ac27) (e29 : E 29 = some ac29) (e33 : E 33 = some ac33) (e34 : E 34 = some ac34) (e35 : E 35 = some ac35) (e36 : E 36 = some ac36) (e39 : E 39 = some ac39) (e44 : E 44 = some ac44) (e46 : E 46 = some ac46) (e47 : E 47 = some ac47)
    (hAwake : ∀ m n, Pure (callW PG E Y 13 [] m n) m n (.bool true))
    (m : FM) (n : Nat) (disks tiles spare k : Int) (gv : Value) (gs : List (List Int)) (hgs : Rows m n gv gs) :
    Pure (callW PG E Y 12 [.agg #[.int .i64 disks, gv, .int .i64 tiles, .int .i64 spare], .int .i64 k] m n) m n (.bool true) := by
  classical
  rw [callW_fn hE rfl]
  refine pure_of rfl ?_
  obtain ⟨M1, hM1⟩ : ∃ M1 : FM, AMem.put m n (some (.cells [.int .i64 disks, gv, .int .i64 tiles, .int .i64 spare] 0 false true)) = M1 := ⟨_, rfl⟩
  have hp : M1 n = (some (.cells [.int .i64 disks, gv, .int .i64 tiles, .int .i64 spare] 0 false true)) := by rw [← hM1, fput_same]
  have hfr : ∀ b, b < n → M1 b = m b := fun b hb => by rw [← hM1, fput_ne _ _ _ _ (by omega)]
  have hgs1 : Rows M1 (n + 1) gv gs := hgs.frame (by omega) hfr
  have hd4 : ldnV 4 M1 (n + 1) (.pointer (some ⟨n, 0, none⟩)) = .ok (.agg #[.int .i64 disks, gv, .int .i64 tiles, .int .i64 spare]) M1 (n + 1) (bit n) 0 := ldn_at (by omega) hp rfl
  obtain ⟨r13, h13⟩ := hAwake M1 (n + 1)
  obtain ⟨r27, h27⟩ := few_spec (E := E) (Y := Y) e27 M1 (n + 1) disks tiles spare gv gs hgs1
  rw [ac12]
  by_cases hF : Few gs
  · obtain ⟨hl, hrow⟩ := few_len hF
    obtain ⟨r29, h29⟩ := refValid_spec (E := E) (Y := Y) e29 e44 M1 (n + 1) disks tiles spare gv gs hgs1 hl hrow
    rw [decide_eq_true hF] at h27
    by_cases hV : VR disks gs tiles spare
    · rw [decide_eq_true hV] at h29
      simp only [Gv_add, w_seq, v_reg, q_cons, q_nil, q_nop, q_op, q_eff, q_opg, q_effg, keep_ok, drop1_ok, out_ok, crRec_mk, onNorm_norm, onNorm_exit, onNorm_ret, addRW_mk, w_cond, onCond_mk, w_block, onBlock_norm, onBlock_ret, onBlock_exit, w_pre, w_post, onPost_norm, onPost_exit, onPost_ret, w_exit, w_ret, onRet_mk, res_nil, res_cons, resO_v, retV_one, fixE_mk, lmap_nil, lmap_cons, ldrop_z, ldrop_s, ev_v, ev_c, lget_z, lget_s, evs_nil, evs_cons, s_mov, s_pick, s_bin, s_una, s_conv, s_fld, s_idx, s_ida, s_build, s_extr, s_nilck, s_len, s_mx, s_ld1, s_ldn, s_st, s_call, s_new, s_box, s_make, s_app, bin_int, i_add, i_sub, i_mul, i_eql, i_neq, i_lss, i_gtr, i_leq, i_geq, pick_mk, wantB_mk, una_not, fld_mk, nilck_mk, valO_some, lor_zero', zero_lor', cond_true, cond_false, Nat.beq_refl, natOf_mk, natOf_zero, natOf_one, obind_some, w_skip, Bool.not_true, Bool.not_false, wantB_undef, newb_fm, ptrP_mk, slcP_mk, cells_agg, hM1, hd4, h13, h27, h29]
      exact ⟨rfl, by (repeat (first | exact mod_zero _ | assumption | exact mod_bit_ge (by omega) | refine mod_lor' ?_ ?_))⟩
    · rw [decide_eq_false hV] at h29
      obtain ⟨m', n', r15, w15, h15, hn', hf', hw'⟩ := home_bad (E := E) (Y := Y) e15 e34 e47 e46 e39 M1 (n + 1) disks tiles spare gv gs hgs1 hl hrow hV (.int .i64 k) (.int .i64 k)
      have hw15 : Nat.mod w15 (bit n) = 0 := mod_down (by omega) hw'
      obtain ⟨M3, hM3⟩ : ∃ M3 : FM, AMem.put m' n' (some (.cells [.int .i64 0, .int .i64 0] 0 false true)) = M3 := ⟨_, rfl⟩
      have hx3 : M3 n' = (some (.cells [.int .i64 0, .int .i64 0] 0 false true)) := by rw [← hM3, fput_same]
      have hf3 : ∀ b, b < n + 1 → M3 b = M1 b := fun b hb => by rw [← hM3, fput_ne _ _ _ _ (by omega), hf' b hb]
      have hs3 : stV 2 [.int .i64 0, .int .i64 0] M3 (n' + 1) (.pointer (some ⟨n', 0, none⟩)) = .ok undef M3 (n' + 1) (bit n') (bit n') := by
        rw [stn_at (k := 2) (by omega) hx3 rfl rfl rfl, fput_self hx3]
      have hgs3 : Rows M3 (n' + 1) gv gs := hgs1.frame (by omega) hf3
      have hd3 : ldnV 4 M3 (n' + 1) (.pointer (some ⟨n, 0, none⟩)) = .ok (.agg #[.int .i64 disks, gv, .int .i64 tiles, .int .i64 spare]) M3 (n' + 1) (bit n) 0 := ldn_at (by omega) ((hf3 n (by omega)).trans hp) rfl
      obtain ⟨r18, h18⟩ := at_bad (E := E) (Y := Y) e18 e34 e47 e46 e39 M3 (n' + 1) disks tiles spare gv gs hgs3 hl hrow hV (.int .i64 k) (.int .i64 k)
      obtain ⟨r35, h35⟩ := slot_bad (E := E) (Y := Y) e35 e34 e47 e46 e39 M3 (n' + 1) disks tiles spare gv gs hgs3 hl hrow hV (.int .i64 k)
      obtain ⟨r36, h36⟩ := number_bad (E := E) (Y := Y) e36 e34 e47 e46 e39 M3 (n' + 1) disks tiles spare gv gs hgs3 hl hrow hV (.int .i64 k) (.int .i64 k)
      obtain ⟨r33, h33⟩ := onDisk_bad (E := E) (Y := Y) e33 e34 e47 e46 e39 M3 (n' + 1) disks tiles spare gv gs hgs3 hl hrow hV (.int .i64 k)
      have y0 : ∀ a b : Value, extrV 0 (.tuple #[a, b]) = some a := fun _ _ => rfl
      have y1 : ∀ a b : Value, extrV 1 (.tuple #[a, b]) = some b := fun _ _ => rfl
      have x0 : ∀ a b c : Value, extrV 0 (.tuple #[a, b, c]) = some a := fun _ _ _ => rfl
      have x1 : ∀ a b c : Value, extrV 1 (.tuple #[a, b, c]) = some b := fun _ _ _ => rfl
      have x2 : ∀ a b c : Value, extrV 2 (.tuple #[a, b, c]) = some c := fun _ _ _ => rfl
      have hfill : fillA [(0, 1, .int .i64 k), (1, 1, .int .i64 k)] [.int .i64 0, .int .i64 0] = some [.int .i64 k, .int .i64 k] := rfl
      have hlen0 : lenV false (.slice none 0 0) = some (.int .i64 0) := rfl
      have h11 : decide ((1 : Int) = 1) = true := rfl
      have h00 : decide ((0 : Int) = 0) = true := rfl
      simp only [Gv_add, w_seq, v_reg, q_cons, q_nil, q_nop, q_op, q_eff, q_opg, q_effg, keep_ok, drop1_ok, out_ok, crRec_mk, onNorm_norm, onNorm_exit, onNorm_ret, addRW_mk, w_cond, onCond_mk, w_block, onBlock_norm, onBlock_ret, onBlock_exit, w_pre, w_post, onPost_norm, onPost_exit, onPost_ret, w_exit, w_ret, onRet_mk, res_nil, res_cons, resO_v, retV_one, fixE_mk, lmap_nil, lmap_cons, ldrop_z, ldrop_s, ev_v, ev_c, lget_z, lget_s, evs_nil, evs_cons, s_mov, s_pick, s_bin, s_una, s_conv, s_fld, s_idx, s_ida, s_build, s_extr, s_nilck, s_len, s_mx, s_ld1, s_ldn, s_st, s_call, s_new, s_box, s_make, s_app, bin_int, i_add, i_sub, i_mul, i_eql, i_neq, i_lss, i_gtr, i_leq, i_geq, pick_mk, wantB_mk, una_not, fld_mk, nilck_mk, valO_some, lor_zero', zero_lor', cond_true, cond_false, Nat.beq_refl, natOf_mk, natOf_zero, natOf_one, obind_some, w_skip, Bool.not_true, Bool.not_false, wantB_undef, newb_fm, ptrP_mk, slcP_mk, cells_agg, hM1, hd4, h13, h27, h29, h15, y0, y1, x0, x1, x2, hM3, hs3, hd3, h18, h35, h36, h33, aggO_some, parts3_nil, parts3_cons, hfill, hlen0, decide_true]
      exact ⟨rfl, by (repeat (first | exact mod_zero _ | assumption | exact mod_bit_ge (by omega) | refine mod_lor' ?_ ?_))⟩
  · rw [decide_eq_false hF] at h27
    simp only [Gv_add, w_seq, v_reg, q_cons, q_nil, q_nop, q_op, q_eff, q_opg, q_effg, keep_ok, drop1_ok, out_ok, crRec_mk, onNorm_norm, onNorm_exit, onNorm_ret, addRW_mk, w_cond, onCond_mk, w_block, onBlock_norm, onBlock_ret, onBlock_exit, w_pre, w_post, onPost_norm, onPost_exit, onPost_ret, w_exit, w_ret, onRet_mk, res_nil, res_cons, resO_v, retV_one, fixE_mk, lmap_nil, lmap_cons, ldrop_z, ldrop_s, ev_v, ev_c, lget_z, lget_s, evs_nil, evs_cons, s_mov, s_pick, s_bin, s_una, s_conv, s_fld, s_idx, s_ida, s_build, s_extr, s_nilck, s_len, s_mx, s_ld1, s_ldn, s_st, s_call, s_new, s_box, s_make, s_app, bin_int, i_add, i_sub, i_mul, i_eql, i_neq, i_lss, i_gtr, i_leq, i_geq, pick_mk, wantB_mk, una_not, fld_mk, nilck_mk, valO_some, lor_zero', zero_lor', cond_true, cond_false, Nat.beq_refl, natOf_mk, natOf_zero, natOf_one, obind_some, w_skip, Bool.not_true, Bool.not_false, wantB_undef, newb_fm, ptrP_mk, slcP_mk, cells_agg, hM1, hd4, h13, h27]
    exact ⟨rfl, by (repeat (first | exact mod_zero _ | assumption | exact mod_bit_ge (by omega) | refine mod_lor' ?_ ?_))⟩
end Go.Am.C21
namespace Go.Am.C21
open Go Go.Am Go.Am.V
theorem layoutErrors_calls (disks tiles spare k : Int) (v : Value) (gs : List (List Int)) (w : World) (h : RowsW w v gs) :
    Calls Proofs.Try.prog 12 #[.agg #[.int .i64 disks, v, .int .i64 tiles, .int .i64 spare], .int .i64 k] w fun e w' => e = .returned (.bool true) ∧ RowKit.Below w.heap.size w w' := by
  obtain ⟨ρ, m0, n0, gv, hr, hv, hm, hf⟩ := rows_world h
  obtain ⟨r, hrun⟩ := layoutErrors_exec (E := look tabB) (Y := memosA [m13] Y0) (by kernel_rfl) (by kernel_rfl) (by kernel_rfl) (by kernel_rfl) (by kernel_rfl) (by kernel_rfl) (by kernel_rfl) (by kernel_rfl) (by kernel_rfl) (by kernel_rfl) (by kernel_rfl) (by kernel_rfl) (by kernel_rfl)
    awake_pure m0 n0 disks tiles spare k gv gs hr
  have hL : LRel ρ [.int .i64 disks, gv, .int .i64 tiles, .int .i64 spare] [.int .i64 disks, v, .int .i64 tiles, .int .i64 spare] :=
    .cons (.flat rfl) (.cons hv (.cons (.flat rfl) (.cons (.flat rfl) (.nil ρ))))
  refine Go.Am.Env.topW envB (args' := #[.agg #[.int .i64 disks, v, .int .i64 tiles, .int .i64 spare], .int .i64 k]) hrun (.cons (.agg rfl fun i x y hx hy => hL.2 i x y (by simpa using hx) (by simpa using hy)) (.cons (.flat rfl) (.nil ρ))) hm hf
end Go.Am.C21
