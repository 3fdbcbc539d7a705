/- Chapter 21: design.Check. -/
import Derived.Test.YtaohgpgbphlblaaAm21d
set_option linter.unusedVariables false
set_option linter.unusedSimpArgs false
set_option linter.unusedSectionVars false
namespace Go.Am.C21
open Go Go.Am
set_option linter.unusedVariables false
variable {E : Nat → Option AFn} {Y : Nat → List Value → FM → Nat → OR FM}
def zeros : List Int := List.replicate 3600 0
open Classical in
/-- what Check says of a design -/
noncomputable def checkV (disks : Int) (gs : List (List Int)) : Value :=
  if Formed disks gs then
    if Bal (counts zeros gs) disks.toNat (counts zeros gs)[0]! (counts zeros gs)[1]! 0 ∧ 1 ≤ (counts zeros gs)[1]! then .tuple #[.int .i64 (counts zeros gs)[0]!, .int .i64 (counts zeros gs)[1]!, .int .i64 0] else errT
  else errT
theorem rowFrom_in {disks : Int} {g : List Int} (hd : disks ≤ 60) (h : RowFrom disks g 0) : ∀ (i : Nat) (x : Int), g[i]? = some x → 0 ≤ x ∧ x < 60 := fun i x hx => by
  obtain ⟨h1, h2, _⟩ := h i (Nat.zero_le _) (List.getElem?_eq_some_iff.1 hx).1 x hx
  exact ⟨h1, by omega⟩
theorem check_spec (hE : E 34 = some ac34) (hE2 : E 47 = some ac47) (m : FM) (n : Nat) (disks : Int) (gv : Value) (gs : List (List Int)) (hgs : Rows m n gv gs) (hl : gs.length < 4611686018427387904) (hrow : ∀ g ∈ gs, g.length < 4611686018427387904) :
    Pure (callW PG E Y 34 [.agg #[.int .i64 disks, gv]] m n) m n (checkV disks gs) := by
  classical
  rw [callW_fn hE rfl]
  have hfree : addrFree (checkV disks gs) = true := by unfold checkV; split <;> (try split) <;> rfl
  refine pure_of hfree ?_
  have hfr : ∀ b, b < n → (AMem.put m n (some (.cells [.int .i64 disks, gv] 0 false true)) : FM) b = m b := fun b hb => fput_ne m n b _ (by omega)
  have hgs' := hgs.frame (n' := n + 1) (by omega) hfr
  have hp : (AMem.put m n (some (.cells [.int .i64 disks, gv] 0 false true)) : FM) n = some (.cells [.int .i64 disks, gv] 0 false true) := fput_same m n _
  obtain ⟨M, hM⟩ : ∃ M : FM, AMem.put m n (some (.cells [.int .i64 disks, gv] 0 false true)) = M := ⟨_, rfl⟩
  rw [hM] at hgs' hp
  have hdn : ldnV 2 M (n + 1) (.pointer (some ⟨n, 0, none⟩)) = .ok (.agg #[.int .i64 disks, gv]) M (n + 1) (bit n) 0 := ldn_at (by omega) hp rfl
  have hbn : Nat.mod (bit n) (bit n) = 0 := mod_bit_ge (Nat.le_refl n)
  have hbn1 : Nat.mod (bit (n + 1)) (bit n) = 0 := mod_bit_ge (by omega)
  obtain ⟨r1, hform⟩ := formed_spec (E := E) (Y := Y) hE2 M (n + 1) disks gv gs hgs' hl hrow
  rw [ac34]
  by_cases hf : Formed disks gs
  · rw [decide_eq_true hf] at hform
    have hd60 : disks ≤ 60 := hf.2.1
    have hd2 : 2 ≤ disks := hf.1
    obtain ⟨D, hD⟩ : ∃ D : Nat, disks = (D : Int) := ⟨disks.toNat, by omega⟩
    have hz : (List.replicate 3600 (Value.int .i64 0)) = zeros.map (Value.int .i64) := by rw [zeros, List.map_replicate]
    have hmem : AMem.put M (n + 1) (some (.cells (List.replicate 3600 (Value.int .i64 0)) 0 false true)) = arr M (n + 1) zeros := by rw [hz]; rfl
    have hzl : zeros.length = 3600 := List.length_replicate
    have hAl : (counts zeros gs).length = 3600 := by rw [counts_length, hzl]
    have hall : ∀ g ∈ gs, g.length < 4611686018427387904 ∧ ∀ (i : Nat) (x : Int), g[i]? = some x → 0 ≤ x ∧ x < 60 := fun g hg => by
      obtain ⟨i, hi, rfl⟩ := List.getElem_of_mem hg
      obtain ⟨_, _, _, g0, _, _, hgr⟩ := hf
      exact ⟨hrow _ hg, rowFrom_in hd60 (hgr i _ (Nat.zero_le _) (List.getElem?_eq_getElem hi)).2⟩
    have hgl : ∀ A, ld1V (arr M (n + 1) A) (n + 2) (.pointer (some ⟨n, 0 + 1, none⟩)) = .ok gv (arr M (n + 1) A) (n + 2) (bit n) 0 := fun A => ld1_at (by omega) ((fput_ne M (n + 1) n _ (by omega)).trans hp) rfl
    have hdl : ∀ A, ld1V (arr M (n + 1) A) (n + 2) (.pointer (some ⟨n, 0 + 0, none⟩)) = .ok (.int .i64 disks) (arr M (n + 1) A) (n + 2) (bit n) 0 := fun A => ld1_at (by omega) ((fput_ne M (n + 1) n _ (by omega)).trans hp) rfl
    obtain ⟨rf, wf, hnm⟩ := named_w (fun l => execW PG E Y ac34L2 l (arr M (n + 1) zeros) (n + 2))
    have hL2 : ∀ x1 x5 x6 x7 x8 x9 x10, execW PG E Y ac34L2 [.int .i64 0, x1, .int .i64 (gs.length : Int), gv, .pointer (some ⟨n + 1, 0, none⟩), x5, x6, x7, x8, x9, x10] (arr M (n + 1) zeros) (n + 2) = .ok (.exit 0) [x1, .int .i64 (gs.length : Int), gv, .pointer (some ⟨n + 1, 0, none⟩), x5, x6, x7, x8, x9, x10] (arr M (n + 1) (counts zeros gs)) (n + 2) (rf [.int .i64 0, x1, .int .i64 (gs.length : Int), gv, .pointer (some ⟨n + 1, 0, none⟩), x5, x6, x7, x8, x9, x10]) (wf [.int .i64 0, x1, .int .i64 (gs.length : Int), gv, .pointer (some ⟨n + 1, 0, none⟩), x5, x6, x7, x8, x9, x10]) ∧ Nat.mod (wf [.int .i64 0, x1, .int .i64 (gs.length : Int), gv, .pointer (some ⟨n + 1, 0, none⟩), x5, x6, x7, x8, x9, x10]) (bit n) = 0 := fun x1 x5 x6 x7 x8 x9 x10 => by
      obtain ⟨X, e', m', n', r, w, hx, h1, h2, h3, h4, h5⟩ := Gv_some (check_L2 (E := E) (Y := Y) M (n + 2) (n + 1) n (by omega) (by omega) (n + 1) (by omega) gs gv hgs' hl hall x1 x5 x6 x7 x8 x9 x10 gs.length 0 (by omega) zeros hzl)
      obtain ⟨hr, hw⟩ := hnm _ _ _ _ _ _ _ hx
      have hr' : rf [.int .i64 0, x1, .int .i64 (gs.length : Int), gv, .pointer (some ⟨n + 1, 0, none⟩), x5, x6, x7, x8, x9, x10] = r := hr
      have hw' : wf [.int .i64 0, x1, .int .i64 (gs.length : Int), gv, .pointer (some ⟨n + 1, 0, none⟩), x5, x6, x7, x8, x9, x10] = w := hw
      rw [hr', hw']
      subst h1; subst h2; subst h3; subst h4
      exact ⟨hx, h5⟩
    have hL2e := fun x1 x5 x6 x7 x8 x9 x10 => (hL2 x1 x5 x6 x7 x8 x9 x10).1
    have hL2w := fun x1 x5 x6 x7 x8 x9 x10 => (hL2 x1 x5 x6 x7 x8 x9 x10).2
    obtain ⟨A, hA⟩ : ∃ A, counts zeros gs = A := ⟨_, rfl⟩
    rw [hA] at hAl
    rw [hA] at hL2e
    have hc0 : (A.map (Value.int .i64))[0 + 0 * 60 + 0 * 1]? = some (.int .i64 A[0]!) := by simp [List.getElem?_eq_getElem (show 0 < A.length by omega)]
    have hc1 : (A.map (Value.int .i64))[0 + 0 * 60 + 1 * 1]? = some (.int .i64 A[1]!) := by simp [List.getElem?_eq_getElem (show 1 < A.length by omega)]
    have hl0 : ld1V (arr M (n + 1) A) (n + 2) (.pointer (some ⟨n + 1, 0 + 0 * 60 + 0 * 1, none⟩)) = .ok (.int .i64 A[0]!) (arr M (n + 1) A) (n + 2) (bit (n + 1)) 0 := ld1_at (by omega) (fput_same M (n + 1) _) hc0
    have hl1 : ld1V (arr M (n + 1) A) (n + 2) (.pointer (some ⟨n + 1, 0 + 0 * 60 + 1 * 1, none⟩)) = .ok (.int .i64 A[1]!) (arr M (n + 1) A) (n + 2) (bit (n + 1)) 0 := ld1_at (by omega) (fput_same M (n + 1) _) hc1
    have hda : idaV 60 60 0 (.pointer (some ⟨n + 1, 0, none⟩)) = some (.pointer (some ⟨n + 1, 0 + 0 * 60, none⟩)) := ida_ok (by omega)
    have hd0 : idaV 60 1 0 (.pointer (some ⟨n + 1, 0 + 0 * 60, none⟩)) = some (.pointer (some ⟨n + 1, 0 + 0 * 60 + 0 * 1, none⟩)) := ida_ok (by omega)
    have hd1 : idaV 60 1 1 (.pointer (some ⟨n + 1, 0 + 0 * 60, none⟩)) = some (.pointer (some ⟨n + 1, 0 + 0 * 60 + 1 * 1, none⟩)) := ida_ok (by omega)
    have hq := blt_true (show n + 1 < n + 2 by omega)
    have hgl0 := hgl zeros
    have hdlA := hdl A
    subst hD
    have hL4 := fun x0 x1 x2 x4 x8 x9 x10 x12 x13 x14 x15 x17 => check_L4 (E := E) (Y := Y) M (n + 2) (n + 1) (by omega) A hAl D (by omega) A[0]! A[1]! n hdlA x0 x1 x2 x4 x8 x9 x10 x12 x13 x14 x15 x17 D 0 (by omega)
    obtain ⟨rf4, ef4, hnm4⟩ := named_r (fun l => execW PG E Y ac34L4 l (arr M (n + 1) A) (n + 2))
    by_cases hb : Bal A D A[0]! A[1]! 0
    · have hL4e : ∀ x0 x1 x2 x4 x8 x9 x10 x12 x13 x14 x15 x17, execW PG E Y ac34L4 [x0, x1, x2, .int .i64 0, x4, .int .i64 (D : Int), .int .i64 A[1]!, .int .i64 A[0]!, x8, x9, x10, .pointer (some ⟨n + 1, 0, none⟩), x12, x13, x14, x15, .pointer (some ⟨n, 0, none⟩), x17] (arr M (n + 1) A) (n + 2) = .ok (.exit 6) [x0, x1, x2, x4, .int .i64 (D : Int), .int .i64 A[1]!, .int .i64 A[0]!, x8, x9, x10, .pointer (some ⟨n + 1, 0, none⟩), x12, x13, x14, x15, .pointer (some ⟨n, 0, none⟩), x17] (arr M (n + 1) A) (n + 2) (rf4 [x0, x1, x2, .int .i64 0, x4, .int .i64 (D : Int), .int .i64 A[1]!, .int .i64 A[0]!, x8, x9, x10, .pointer (some ⟨n + 1, 0, none⟩), x12, x13, x14, x15, .pointer (some ⟨n, 0, none⟩), x17]) 0 := fun x0 x1 x2 x4 x8 x9 x10 x12 x13 x14 x15 x17 => by
        rw [(hnm4 _).1]
        refine gv_norm ((hL4 x0 x1 x2 x4 x8 x9 x10 x12 x13 x14 x15 x17).mono fun X e' m' n' w hh => ?_)
        obtain ⟨h1, h2, h3, h4⟩ := hh
        rcases h4 with ⟨_, h5, h6⟩ | ⟨h5, _⟩
        · exact ⟨h5, h6, h1, h2, h3⟩
        · exact absurd hb h5
      by_cases hlam : A[1]! < 1
      · have hV : checkV (D : Int) gs = errT := by unfold checkV; rw [if_pos hf, hA, if_neg (fun h => by have := h.2; omega)]
        simp (implicitDefEqProofs := false) only [Gv_add, w_seq, v_reg, q_cons, q_nil, q_nop, q_op, q_eff, q_opg, q_effg, keep_ok, drop1_ok, out_ok, crRec_mk, onNorm_norm, onNorm_exit, onNorm_ret, addRW_mk, w_cond, onCond_mk, w_block, onBlock_norm, onBlock_ret, onBlock_exit, w_pre, w_post, onPost_norm, onPost_exit, onPost_ret, w_exit, w_ret, onRet_mk, res_nil, res_cons, resO_v, retV_one, fixE_mk, lmap_nil, lmap_cons, ldrop_z, ldrop_s, ev_v, ev_c, lget_z, lget_s, evs_nil, evs_cons, s_mov, s_pick, s_bin, s_una, s_conv, s_fld, s_idx, s_ida, s_build, s_extr, s_nilck, s_len, s_mx, s_ld1, s_ldn, s_st, s_call, s_new, s_box, s_make, s_app, bin_int, i_add, i_sub, i_mul, i_eql, i_neq, i_lss, i_gtr, i_leq, i_geq, pick_mk, wantB_mk, una_not, fld_mk, nilck_mk, valO_some, lor_zero', zero_lor', cond_true, cond_false, Nat.beq_refl, natOf_mk, natOf_zero, natOf_one, obind_some, w_skip, Bool.not_true, Bool.not_false, wantB_undef, newb_fm, ptrP_mk, slcP_mk, cells_agg, u_regD, isOkC_ok, belowV_undef, belowV_addr, z_nil, z_cons, y_nil, y_cons, y_nop, y_op, y_eff, y_opg, y_effg, keepD_ok, outX_ok, apart_nil, apart_cons, zero_land', land_zero', stepD_ok', below_all, opds, List.all_cons, List.all_nil, belowV_int, belowV_bool, belowV_ptr, belowV_nils, Bool.and_self, Bool.and_true, Bool.true_and, Bool.or_true, Bool.true_or, Bool.false_or, Nat.reduceAdd, Nat.testBit, Nat.reduceShiftRight, Nat.reduceAnd, Nat.reduceBNe, hM, hdn, hform, hmem, hgl0, hgs'.len, hL2e, hda, hd0, hd1, hl0, hl1, hq, hdlA, hL4e, hlam, decide_true, decide_false, retV_three]
        exact ⟨by rw [hV]; rfl, mod_lor' hbn (mod_lor' hbn1 (hL2w ..))⟩
      · have hV : checkV (D : Int) gs = .tuple #[.int .i64 A[0]!, .int .i64 A[1]!, .int .i64 0] := by unfold checkV; rw [if_pos hf, hA, if_pos ⟨hb, by omega⟩]
        simp (implicitDefEqProofs := false) only [Gv_add, w_seq, v_reg, q_cons, q_nil, q_nop, q_op, q_eff, q_opg, q_effg, keep_ok, drop1_ok, out_ok, crRec_mk, onNorm_norm, onNorm_exit, onNorm_ret, addRW_mk, w_cond, onCond_mk, w_block, onBlock_norm, onBlock_ret, onBlock_exit, w_pre, w_post, onPost_norm, onPost_exit, onPost_ret, w_exit, w_ret, onRet_mk, res_nil, res_cons, resO_v, retV_one, fixE_mk, lmap_nil, lmap_cons, ldrop_z, ldrop_s, ev_v, ev_c, lget_z, lget_s, evs_nil, evs_cons, s_mov, s_pick, s_bin, s_una, s_conv, s_fld, s_idx, s_ida, s_build, s_extr, s_nilck, s_len, s_mx, s_ld1, s_ldn, s_st, s_call, s_new, s_box, s_make, s_app, bin_int, i_add, i_sub, i_mul, i_eql, i_neq, i_lss, i_gtr, i_leq, i_geq, pick_mk, wantB_mk, una_not, fld_mk, nilck_mk, valO_some, lor_zero', zero_lor', cond_true, cond_false, Nat.beq_refl, natOf_mk, natOf_zero, natOf_one, obind_some, w_skip, Bool.not_true, Bool.not_false, wantB_undef, newb_fm, ptrP_mk, slcP_mk, cells_agg, u_regD, isOkC_ok, belowV_undef, belowV_addr, z_nil, z_cons, y_nil, y_cons, y_nop, y_op, y_eff, y_opg, y_effg, keepD_ok, outX_ok, apart_nil, apart_cons, zero_land', land_zero', stepD_ok', below_all, opds, List.all_cons, List.all_nil, belowV_int, belowV_bool, belowV_ptr, belowV_nils, Bool.and_self, Bool.and_true, Bool.true_and, Bool.or_true, Bool.true_or, Bool.false_or, Nat.reduceAdd, Nat.testBit, Nat.reduceShiftRight, Nat.reduceAnd, Nat.reduceBNe, hM, hdn, hform, hmem, hgl0, hgs'.len, hL2e, hda, hd0, hd1, hl0, hl1, hq, hdlA, hL4e, hlam, decide_true, decide_false, retV_three]
        exact ⟨by rw [hV], mod_lor' hbn (mod_lor' hbn1 (hL2w ..))⟩
    · have hL4e : ∀ x0 x1 x2 x4 x8 x9 x10 x12 x13 x14 x15 x17, execW PG E Y ac34L4 [x0, x1, x2, .int .i64 0, x4, .int .i64 (D : Int), .int .i64 A[1]!, .int .i64 A[0]!, x8, x9, x10, .pointer (some ⟨n + 1, 0, none⟩), x12, x13, x14, x15, .pointer (some ⟨n, 0, none⟩), x17] (arr M (n + 1) A) (n + 2) = .ok (.ret errT) (ef4 [x0, x1, x2, .int .i64 0, x4, .int .i64 (D : Int), .int .i64 A[1]!, .int .i64 A[0]!, x8, x9, x10, .pointer (some ⟨n + 1, 0, none⟩), x12, x13, x14, x15, .pointer (some ⟨n, 0, none⟩), x17]) (arr M (n + 1) A) (n + 2) (rf4 [x0, x1, x2, .int .i64 0, x4, .int .i64 (D : Int), .int .i64 A[1]!, .int .i64 A[0]!, x8, x9, x10, .pointer (some ⟨n + 1, 0, none⟩), x12, x13, x14, x15, .pointer (some ⟨n, 0, none⟩), x17]) 0 := fun x0 x1 x2 x4 x8 x9 x10 x12 x13 x14 x15 x17 => by
        rw [(hnm4 _).1, (hnm4 _).2]
        refine gv_ret ((hL4 x0 x1 x2 x4 x8 x9 x10 x12 x13 x14 x15 x17).mono fun X e' m' n' w hh => ?_)
        obtain ⟨h1, h2, h3, h4⟩ := hh
        rcases h4 with ⟨h5, _, _⟩ | ⟨_, h5⟩
        · exact absurd h5 hb
        · exact ⟨h5, h1, h2, h3⟩
      have hV : checkV (D : Int) gs = errT := by unfold checkV; rw [if_pos hf, hA, if_neg (fun h => hb h.1)]
      simp (implicitDefEqProofs := false) only [Gv_add, w_seq, v_reg, q_cons, q_nil, q_nop, q_op, q_eff, q_opg, q_effg, keep_ok, drop1_ok, out_ok, crRec_mk, onNorm_norm, onNorm_exit, onNorm_ret, addRW_mk, w_cond, onCond_mk, w_block, onBlock_norm, onBlock_ret, onBlock_exit, w_pre, w_post, onPost_norm, onPost_exit, onPost_ret, w_exit, w_ret, onRet_mk, res_nil, res_cons, resO_v, retV_one, fixE_mk, lmap_nil, lmap_cons, ldrop_z, ldrop_s, ev_v, ev_c, lget_z, lget_s, evs_nil, evs_cons, s_mov, s_pick, s_bin, s_una, s_conv, s_fld, s_idx, s_ida, s_build, s_extr, s_nilck, s_len, s_mx, s_ld1, s_ldn, s_st, s_call, s_new, s_box, s_make, s_app, bin_int, i_add, i_sub, i_mul, i_eql, i_neq, i_lss, i_gtr, i_leq, i_geq, pick_mk, wantB_mk, una_not, fld_mk, nilck_mk, valO_some, lor_zero', zero_lor', cond_true, cond_false, Nat.beq_refl, natOf_mk, natOf_zero, natOf_one, obind_some, w_skip, Bool.not_true, Bool.not_false, wantB_undef, newb_fm, ptrP_mk, slcP_mk, cells_agg, u_regD, isOkC_ok, belowV_undef, belowV_addr, z_nil, z_cons, y_nil, y_cons, y_nop, y_op, y_eff, y_opg, y_effg, keepD_ok, outX_ok, apart_nil, apart_cons, zero_land', land_zero', stepD_ok', below_all, opds, List.all_cons, List.all_nil, belowV_int, belowV_bool, belowV_ptr, belowV_nils, Bool.and_self, Bool.and_true, Bool.true_and, Bool.or_true, Bool.true_or, Bool.false_or, Nat.reduceAdd, Nat.testBit, Nat.reduceShiftRight, Nat.reduceAnd, Nat.reduceBNe, hM, hdn, hform, hmem, hgl0, hgs'.len, hL2e, hda, hd0, hd1, hl0, hl1, hq, hdlA, hL4e,  decide_true, decide_false, retV_three]
      exact ⟨by rw [hV], mod_lor' hbn (mod_lor' hbn1 (hL2w ..))⟩
  · rw [decide_eq_false hf] at hform
    have hV : checkV disks gs = errT := by unfold checkV; rw [if_neg hf]
    simp only [Gv_add, w_seq, v_reg, q_cons, q_nil, q_nop, q_op, q_eff, q_opg, q_effg, keep_ok, drop1_ok, out_ok, crRec_mk, onNorm_norm, onNorm_exit, onNorm_ret, addRW_mk, w_cond, onCond_mk, w_block, onBlock_norm, onBlock_ret, onBlock_exit, w_pre, w_post, onPost_norm, onPost_exit, onPost_ret, w_exit, w_ret, onRet_mk, res_nil, res_cons, resO_v, retV_one, fixE_mk, lmap_nil, lmap_cons, ldrop_z, ldrop_s, ev_v, ev_c, lget_z, lget_s, evs_nil, evs_cons, s_mov, s_pick, s_bin, s_una, s_conv, s_fld, s_idx, s_ida, s_build, s_extr, s_nilck, s_len, s_mx, s_ld1, s_ldn, s_st, s_call, s_new, s_box, s_make, s_app, bin_int, i_add, i_sub, i_mul, i_eql, i_neq, i_lss, i_gtr, i_leq, i_geq, pick_mk, wantB_mk, una_not, fld_mk, nilck_mk, valO_some, lor_zero', zero_lor', cond_true, cond_false, Nat.beq_refl, natOf_mk, natOf_zero, natOf_one, obind_some, w_skip, Bool.not_true, Bool.not_false, wantB_undef, newb_fm, ptrP_mk, slcP_mk, cells_agg, hM, hdn, hform, retV_three]
    exact ⟨by rw [hV]; rfl, hbn⟩
end Go.Am.C21
