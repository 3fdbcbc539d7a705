/- The machine and its runs, part 15: Am07ke Am07kf Am07kg Am07kh Am07ki Am07kj Am07lc Am07ra Am07rb Am07rc Am07lb Am07rd Am07sc Am07sd Am07sd2 Am07si Am07sj. -/
import Derived.Test.YtfkbmdhlopkfnaaB14
set_option linter.unusedVariables false
set_option linter.unusedSimpArgs false
set_option linter.unusedSectionVars false
namespace Go.Am.C07.K
open Go Go.Am
variable {E : Nat → Option AFn} {Y : Nat → List Value → FM → Nat → OR FM}
def zeros : List Int := List.replicate 3600 0
open Classical in
noncomputable def checkV (disks : Int) (gs : List (List Int)) : Value :=
  if Formed disks gs then
    if Bal (counts zeros gs) disks.toNat (counts zeros gs)[0]! (counts zeros gs)[1]! 0 ∧ 1 ≤ (counts zeros gs)[1]! then .tuple #[.int .i64 (counts zeros gs)[0]!, .int .i64 (counts zeros gs)[1]!, .int .i64 0] else errT
  else errT
theorem rowFrom_in {disks : Int} {g : List Int} (hd : disks ≤ 60) (h : RowFrom disks g 0) : ∀ (i : Nat) (x : Int), g[i]? = some x → 0 ≤ x ∧ x < 60 := fun i x hx => by
  obtain ⟨h1, h2, _⟩ := h i (Nat.zero_le _) (List.getElem?_eq_some_iff.1 hx).1 x hx
  exact ⟨h1, by omega⟩
theorem check_spec (hE : E 16 = some ac16) (hE2 : E 26 = some ac26) (m : FM) (n : Nat) (disks : Int) (gv : Value) (gs : List (List Int)) (hgs : Rows m n gv gs) (hl : gs.length < 4611686018427387904) (hrow : ∀ g ∈ gs, g.length < 4611686018427387904) :
    Pure (callW PG E Y 16 [.agg #[.int .i64 disks, gv]] m n) m n (checkV disks gs) := by
  classical
  rw [callW_fn hE rfl]
  have hfree : addrFree (checkV disks gs) = true := by unfold checkV; split <;> (try split) <;> rfl
  refine pure_of hfree ?_
  have hfr : ∀ b, b < n → (AMem.put m n (some (.cells [.int .i64 disks, gv] 0 false true)) : FM) b = m b := fun b hb => fput_ne m n b _ (by omega)
  have hgs' := hgs.frame (n' := n + 1) (by omega) hfr
  have hp : (AMem.put m n (some (.cells [.int .i64 disks, gv] 0 false true)) : FM) n = some (.cells [.int .i64 disks, gv] 0 false true) := fput_same m n _
  obtain ⟨M, hM⟩ : ∃ M : FM, AMem.put m n (some (.cells [.int .i64 disks, gv] 0 false true)) = M := ⟨_, rfl⟩
  rw [hM] at hgs' hp
  have hdn : ldnV 2 M (n + 1) (.pointer (some ⟨n, 0, none⟩)) = .ok (.agg #[.int .i64 disks, gv]) M (n + 1) (bit n) 0 := ldn_at (by omega) hp rfl
  have hbn : Nat.mod (bit n) (bit n) = 0 := mod_bit_ge (Nat.le_refl n)
  have hbn1 : Nat.mod (bit (n + 1)) (bit n) = 0 := mod_bit_ge (by omega)
  obtain ⟨r1, hform⟩ := formed_spec (E := E) (Y := Y) hE2 M (n + 1) disks gv gs hgs' hl hrow
  rw [ac16]
  by_cases hf : Formed disks gs
  · rw [decide_eq_true hf] at hform
    have hd60 : disks ≤ 60 := hf.2.1
    have hd2 : 2 ≤ disks := hf.1
    obtain ⟨D, hD⟩ : ∃ D : Nat, disks = (D : Int) := ⟨disks.toNat, by omega⟩
    have hz : (List.replicate 3600 (Value.int .i64 0)) = zeros.map (Value.int .i64) := by rw [zeros, List.map_replicate]
    have hmem : AMem.put M (n + 1) (some (.cells (List.replicate 3600 (Value.int .i64 0)) 0 false true)) = arr M (n + 1) zeros := by rw [hz]; rfl
    have hzl : zeros.length = 3600 := List.length_replicate
    have hAl : (counts zeros gs).length = 3600 := by rw [counts_length, hzl]
    have hall : ∀ g ∈ gs, g.length < 4611686018427387904 ∧ ∀ (i : Nat) (x : Int), g[i]? = some x → 0 ≤ x ∧ x < 60 := fun g hg => by
      obtain ⟨i, hi, rfl⟩ := List.getElem_of_mem hg
      obtain ⟨_, _, _, g0, _, _, hgr⟩ := hf
      exact ⟨hrow _ hg, rowFrom_in hd60 (hgr i _ (Nat.zero_le _) (List.getElem?_eq_getElem hi)).2⟩
    have hgl : ∀ A, ld1V (arr M (n + 1) A) (n + 2) (.pointer (some ⟨n, 0 + 1, none⟩)) = .ok gv (arr M (n + 1) A) (n + 2) (bit n) 0 := fun A => ld1_at (by omega) ((fput_ne M (n + 1) n _ (by omega)).trans hp) rfl
    have hdl : ∀ A, ld1V (arr M (n + 1) A) (n + 2) (.pointer (some ⟨n, 0 + 0, none⟩)) = .ok (.int .i64 disks) (arr M (n + 1) A) (n + 2) (bit n) 0 := fun A => ld1_at (by omega) ((fput_ne M (n + 1) n _ (by omega)).trans hp) rfl
    obtain ⟨rf, wf, hnm⟩ := named_w (fun l => execW PG E Y ac16L2 l (arr M (n + 1) zeros) (n + 2))
    have hL2 : ∀ x1 x5 x6 x7 x8 x9 x10, execW PG E Y ac16L2 [.int .i64 0, x1, .int .i64 (gs.length : Int), gv, .pointer (some ⟨n + 1, 0, none⟩), x5, x6, x7, x8, x9, x10] (arr M (n + 1) zeros) (n + 2) = .ok (.exit 0) [x1, .int .i64 (gs.length : Int), gv, .pointer (some ⟨n + 1, 0, none⟩), x5, x6, x7, x8, x9, x10] (arr M (n + 1) (counts zeros gs)) (n + 2) (rf [.int .i64 0, x1, .int .i64 (gs.length : Int), gv, .pointer (some ⟨n + 1, 0, none⟩), x5, x6, x7, x8, x9, x10]) (wf [.int .i64 0, x1, .int .i64 (gs.length : Int), gv, .pointer (some ⟨n + 1, 0, none⟩), x5, x6, x7, x8, x9, x10]) ∧ Nat.mod (wf [.int .i64 0, x1, .int .i64 (gs.length : Int), gv, .pointer (some ⟨n + 1, 0, none⟩), x5, x6, x7, x8, x9, x10]) (bit n) = 0 := fun x1 x5 x6 x7 x8 x9 x10 => by
      obtain ⟨X, e', m', n', r, w, hx, h1, h2, h3, h4, h5⟩ := Gv_some (check_L2 (E := E) (Y := Y) M (n + 2) (n + 1) n (by omega) (by omega) (n + 1) (by omega) gs gv hgs' hl hall x1 x5 x6 x7 x8 x9 x10 gs.length 0 (by omega) zeros hzl)
      obtain ⟨hr, hw⟩ := hnm _ _ _ _ _ _ _ hx
      have hr' : rf [.int .i64 0, x1, .int .i64 (gs.length : Int), gv, .pointer (some ⟨n + 1, 0, none⟩), x5, x6, x7, x8, x9, x10] = r := hr
      have hw' : wf [.int .i64 0, x1, .int .i64 (gs.length : Int), gv, .pointer (some ⟨n + 1, 0, none⟩), x5, x6, x7, x8, x9, x10] = w := hw
      rw [hr', hw']
      subst h1; subst h2; subst h3; subst h4
      exact ⟨hx, h5⟩
    have hL2e := fun x1 x5 x6 x7 x8 x9 x10 => (hL2 x1 x5 x6 x7 x8 x9 x10).1
    have hL2w := fun x1 x5 x6 x7 x8 x9 x10 => (hL2 x1 x5 x6 x7 x8 x9 x10).2
    obtain ⟨A, hA⟩ : ∃ A, counts zeros gs = A := ⟨_, rfl⟩
    rw [hA] at hAl
    rw [hA] at hL2e
    have hc0 : (A.map (Value.int .i64))[0 + 0 * 60 + 0 * 1]? = some (.int .i64 A[0]!) := by simp [List.getElem?_eq_getElem (show 0 < A.length by omega)]
    have hc1 : (A.map (Value.int .i64))[0 + 0 * 60 + 1 * 1]? = some (.int .i64 A[1]!) := by simp [List.getElem?_eq_getElem (show 1 < A.length by omega)]
    have hl0 : ld1V (arr M (n + 1) A) (n + 2) (.pointer (some ⟨n + 1, 0 + 0 * 60 + 0 * 1, none⟩)) = .ok (.int .i64 A[0]!) (arr M (n + 1) A) (n + 2) (bit (n + 1)) 0 := ld1_at (by omega) (fput_same M (n + 1) _) hc0
    have hl1 : ld1V (arr M (n + 1) A) (n + 2) (.pointer (some ⟨n + 1, 0 + 0 * 60 + 1 * 1, none⟩)) = .ok (.int .i64 A[1]!) (arr M (n + 1) A) (n + 2) (bit (n + 1)) 0 := ld1_at (by omega) (fput_same M (n + 1) _) hc1
    have hda : idaV 60 60 0 (.pointer (some ⟨n + 1, 0, none⟩)) = some (.pointer (some ⟨n + 1, 0 + 0 * 60, none⟩)) := ida_ok (by omega)
    have hd0 : idaV 60 1 0 (.pointer (some ⟨n + 1, 0 + 0 * 60, none⟩)) = some (.pointer (some ⟨n + 1, 0 + 0 * 60 + 0 * 1, none⟩)) := ida_ok (by omega)
    have hd1 : idaV 60 1 1 (.pointer (some ⟨n + 1, 0 + 0 * 60, none⟩)) = some (.pointer (some ⟨n + 1, 0 + 0 * 60 + 1 * 1, none⟩)) := ida_ok (by omega)
    have hq := blt_true (show n + 1 < n + 2 by omega)
    have hgl0 := hgl zeros
    have hdlA := hdl A
    subst hD
    have hL4 := fun x0 x1 x2 x4 x8 x9 x10 x12 x13 x14 x15 x17 => check_L4 (E := E) (Y := Y) M (n + 2) (n + 1) (by omega) A hAl D (by omega) A[0]! A[1]! n hdlA x0 x1 x2 x4 x8 x9 x10 x12 x13 x14 x15 x17 D 0 (by omega)
    obtain ⟨rf4, ef4, hnm4⟩ := named_r (fun l => execW PG E Y ac16L4 l (arr M (n + 1) A) (n + 2))
    by_cases hb : Bal A D A[0]! A[1]! 0
    · have hL4e : ∀ x0 x1 x2 x4 x8 x9 x10 x12 x13 x14 x15 x17, execW PG E Y ac16L4 [x0, x1, x2, .int .i64 0, x4, .int .i64 (D : Int), .int .i64 A[1]!, .int .i64 A[0]!, x8, x9, x10, .pointer (some ⟨n + 1, 0, none⟩), x12, x13, x14, x15, .pointer (some ⟨n, 0, none⟩), x17] (arr M (n + 1) A) (n + 2) = .ok (.exit 6) [x0, x1, x2, x4, .int .i64 (D : Int), .int .i64 A[1]!, .int .i64 A[0]!, x8, x9, x10, .pointer (some ⟨n + 1, 0, none⟩), x12, x13, x14, x15, .pointer (some ⟨n, 0, none⟩), x17] (arr M (n + 1) A) (n + 2) (rf4 [x0, x1, x2, .int .i64 0, x4, .int .i64 (D : Int), .int .i64 A[1]!, .int .i64 A[0]!, x8, x9, x10, .pointer (some ⟨n + 1, 0, none⟩), x12, x13, x14, x15, .pointer (some ⟨n, 0, none⟩), x17]) 0 := fun x0 x1 x2 x4 x8 x9 x10 x12 x13 x14 x15 x17 => by
        rw [(hnm4 _).1]
        refine gv_norm ((hL4 x0 x1 x2 x4 x8 x9 x10 x12 x13 x14 x15 x17).mono fun X e' m' n' w hh => ?_)
        obtain ⟨h1, h2, h3, h4⟩ := hh
        rcases h4 with ⟨_, h5, h6⟩ | ⟨h5, _⟩
        · exact ⟨h5, h6, h1, h2, h3⟩
        · exact absurd hb h5
      by_cases hlam : A[1]! < 1
      · have hV : checkV (D : Int) gs = errT := by unfold checkV; rw [if_pos hf, hA, if_neg (fun h => by have := h.2; omega)]
        simp (implicitDefEqProofs := false) only [Gv_add, w_seq, v_reg, q_cons, q_nil, q_nop, q_op, q_eff, q_opg, q_effg, keep_ok, drop1_ok, out_ok, crRec_mk, onNorm_norm, onNorm_exit, onNorm_ret, addRW_mk, w_cond, onCond_mk, w_block, onBlock_norm, onBlock_ret, onBlock_exit, w_pre, w_post, onPost_norm, onPost_exit, onPost_ret, w_exit, w_ret, onRet_mk, res_nil, res_cons, resO_v, retV_one, fixE_mk, lmap_nil, lmap_cons, ldrop_z, ldrop_s, ev_v, ev_c, lget_z, lget_s, evs_nil, evs_cons, s_mov, s_pick, s_bin, s_una, s_conv, s_fld, s_idx, s_ida, s_build, s_extr, s_nilck, s_len, s_mx, s_ld1, s_ldn, s_st, s_call, s_new, s_box, s_make, s_app, bin_int, i_add, i_sub, i_mul, i_eql, i_neq, i_lss, i_gtr, i_leq, i_geq, pick_mk, wantB_mk, una_not, fld_mk, nilck_mk, valO_some, lor_zero', zero_lor', cond_true, cond_false, Nat.beq_refl, natOf_mk, natOf_zero, natOf_one, obind_some, w_skip, Bool.not_true, Bool.not_false, wantB_undef, newb_fm, ptrP_mk, slcP_mk, cells_agg, u_regD, isOkC_ok, belowV_undef, belowV_addr, z_nil, z_cons, y_nil, y_cons, y_nop, y_op, y_eff, y_opg, y_effg, keepD_ok, outX_ok, apart_nil, apart_cons, zero_land', land_zero', stepD_ok', below_all, opds, List.all_cons, List.all_nil, belowV_int, belowV_bool, belowV_ptr, belowV_nils, Bool.and_self, Bool.and_true, Bool.true_and, Bool.or_true, Bool.true_or, Bool.false_or, Nat.reduceAdd, Nat.testBit, Nat.reduceShiftRight, Nat.reduceAnd, Nat.reduceBNe, hM, hdn, hform, hmem, hgl0, hgs'.len, hL2e, hda, hd0, hd1, hl0, hl1, hq, hdlA, hL4e, hlam, decide_true, decide_false, retV_three]
        exact ⟨by rw [hV]; rfl, mod_lor' hbn (mod_lor' hbn1 (hL2w ..))⟩
      · have hV : checkV (D : Int) gs = .tuple #[.int .i64 A[0]!, .int .i64 A[1]!, .int .i64 0] := by unfold checkV; rw [if_pos hf, hA, if_pos ⟨hb, by omega⟩]
        simp (implicitDefEqProofs := false) only [Gv_add, w_seq, v_reg, q_cons, q_nil, q_nop, q_op, q_eff, q_opg, q_effg, keep_ok, drop1_ok, out_ok, crRec_mk, onNorm_norm, onNorm_exit, onNorm_ret, addRW_mk, w_cond, onCond_mk, w_block, onBlock_norm, onBlock_ret, onBlock_exit, w_pre, w_post, onPost_norm, onPost_exit, onPost_ret, w_exit, w_ret, onRet_mk, res_nil, res_cons, resO_v, retV_one, fixE_mk, lmap_nil, lmap_cons, ldrop_z, ldrop_s, ev_v, ev_c, lget_z, lget_s, evs_nil, evs_cons, s_mov, s_pick, s_bin, s_una, s_conv, s_fld, s_idx, s_ida, s_build, s_extr, s_nilck, s_len, s_mx, s_ld1, s_ldn, s_st, s_call, s_new, s_box, s_make, s_app, bin_int, i_add, i_sub, i_mul, i_eql, i_neq, i_lss, i_gtr, i_leq, i_geq, pick_mk, wantB_mk, una_not, fld_mk, nilck_mk, valO_some, lor_zero', zero_lor', cond_true, cond_false, Nat.beq_refl, natOf_mk, natOf_zero, natOf_one, obind_some, w_skip, Bool.not_true, Bool.not_false, wantB_undef, newb_fm, ptrP_mk, slcP_mk, cells_agg, u_regD, isOkC_ok, belowV_undef, belowV_addr, z_nil, z_cons, y_nil, y_cons, y_nop, y_op, y_eff, y_opg, y_effg, keepD_ok, outX_ok, apart_nil, apart_cons, zero_land', land_zero', stepD_ok', below_all, opds, List.all_cons, List.all_nil, belowV_int, belowV_bool, belowV_ptr, belowV_nils, Bool.and_self, Bool.and_true, Bool.true_and, Bool.or_true, Bool.true_or, Bool.false_or, Nat.reduceAdd, Nat.testBit, Nat.reduceShiftRight, Nat.reduceAnd, Nat.reduceBNe, hM, hdn, hform, hmem, hgl0, hgs'.len, hL2e, hda, hd0, hd1, hl0, hl1, hq, hdlA, hL4e, hlam, decide_true, decide_false, retV_three]
        exact ⟨by rw [hV], mod_lor' hbn (mod_lor' hbn1 (hL2w ..))⟩
    · have hL4e : ∀ x0 x1 x2 x4 x8 x9 x10 x12 x13 x14 x15 x17, execW PG E Y ac16L4 [x0, x1, x2, .int .i64 0, x4, .int .i64 (D : Int), .int .i64 A[1]!, .int .i64 A[0]!, x8, x9, x10, .pointer (some ⟨n + 1, 0, none⟩), x12, x13, x14, x15, .pointer (some ⟨n, 0, none⟩), x17] (arr M (n + 1) A) (n + 2) = .ok (.ret errT) (ef4 [x0, x1, x2, .int .i64 0, x4, .int .i64 (D : Int), .int .i64 A[1]!, .int .i64 A[0]!, x8, x9, x10, .pointer (some ⟨n + 1, 0, none⟩), x12, x13, x14, x15, .pointer (some ⟨n, 0, none⟩), x17]) (arr M (n + 1) A) (n + 2) (rf4 [x0, x1, x2, .int .i64 0, x4, .int .i64 (D : Int), .int .i64 A[1]!, .int .i64 A[0]!, x8, x9, x10, .pointer (some ⟨n + 1, 0, none⟩), x12, x13, x14, x15, .pointer (some ⟨n, 0, none⟩), x17]) 0 := fun x0 x1 x2 x4 x8 x9 x10 x12 x13 x14 x15 x17 => by
        rw [(hnm4 _).1, (hnm4 _).2]
        refine gv_ret ((hL4 x0 x1 x2 x4 x8 x9 x10 x12 x13 x14 x15 x17).mono fun X e' m' n' w hh => ?_)
        obtain ⟨h1, h2, h3, h4⟩ := hh
        rcases h4 with ⟨h5, _, _⟩ | ⟨_, h5⟩
        · exact absurd h5 hb
        · exact ⟨h5, h1, h2, h3⟩
      have hV : checkV (D : Int) gs = errT := by unfold checkV; rw [if_pos hf, hA, if_neg (fun h => hb h.1)]
      simp (implicitDefEqProofs := false) only [Gv_add, w_seq, v_reg, q_cons, q_nil, q_nop, q_op, q_eff, q_opg, q_effg, keep_ok, drop1_ok, out_ok, crRec_mk, onNorm_norm, onNorm_exit, onNorm_ret, addRW_mk, w_cond, onCond_mk, w_block, onBlock_norm, onBlock_ret, onBlock_exit, w_pre, w_post, onPost_norm, onPost_exit, onPost_ret, w_exit, w_ret, onRet_mk, res_nil, res_cons, resO_v, retV_one, fixE_mk, lmap_nil, lmap_cons, ldrop_z, ldrop_s, ev_v, ev_c, lget_z, lget_s, evs_nil, evs_cons, s_mov, s_pick, s_bin, s_una, s_conv, s_fld, s_idx, s_ida, s_build, s_extr, s_nilck, s_len, s_mx, s_ld1, s_ldn, s_st, s_call, s_new, s_box, s_make, s_app, bin_int, i_add, i_sub, i_mul, i_eql, i_neq, i_lss, i_gtr, i_leq, i_geq, pick_mk, wantB_mk, una_not, fld_mk, nilck_mk, valO_some, lor_zero', zero_lor', cond_true, cond_false, Nat.beq_refl, natOf_mk, natOf_zero, natOf_one, obind_some, w_skip, Bool.not_true, Bool.not_false, wantB_undef, newb_fm, ptrP_mk, slcP_mk, cells_agg, u_regD, isOkC_ok, belowV_undef, belowV_addr, z_nil, z_cons, y_nil, y_cons, y_nop, y_op, y_eff, y_opg, y_effg, keepD_ok, outX_ok, apart_nil, apart_cons, zero_land', land_zero', stepD_ok', below_all, opds, List.all_cons, List.all_nil, belowV_int, belowV_bool, belowV_ptr, belowV_nils, Bool.and_self, Bool.and_true, Bool.true_and, Bool.or_true, Bool.true_or, Bool.false_or, Nat.reduceAdd, Nat.testBit, Nat.reduceShiftRight, Nat.reduceAnd, Nat.reduceBNe, hM, hdn, hform, hmem, hgl0, hgs'.len, hL2e, hda, hd0, hd1, hl0, hl1, hq, hdlA, hL4e,  decide_true, decide_false, retV_three]
      exact ⟨by rw [hV], mod_lor' hbn (mod_lor' hbn1 (hL2w ..))⟩
  · rw [decide_eq_false hf] at hform
    have hV : checkV disks gs = errT := by unfold checkV; rw [if_neg hf]
    simp only [Gv_add, w_seq, v_reg, q_cons, q_nil, q_nop, q_op, q_eff, q_opg, q_effg, keep_ok, drop1_ok, out_ok, crRec_mk, onNorm_norm, onNorm_exit, onNorm_ret, addRW_mk, w_cond, onCond_mk, w_block, onBlock_norm, onBlock_ret, onBlock_exit, w_pre, w_post, onPost_norm, onPost_exit, onPost_ret, w_exit, w_ret, onRet_mk, res_nil, res_cons, resO_v, retV_one, fixE_mk, lmap_nil, lmap_cons, ldrop_z, ldrop_s, ev_v, ev_c, lget_z, lget_s, evs_nil, evs_cons, s_mov, s_pick, s_bin, s_una, s_conv, s_fld, s_idx, s_ida, s_build, s_extr, s_nilck, s_len, s_mx, s_ld1, s_ldn, s_st, s_call, s_new, s_box, s_make, s_app, bin_int, i_add, i_sub, i_mul, i_eql, i_neq, i_lss, i_gtr, i_leq, i_geq, pick_mk, wantB_mk, una_not, fld_mk, nilck_mk, valO_some, lor_zero', zero_lor', cond_true, cond_false, Nat.beq_refl, natOf_mk, natOf_zero, natOf_one, obind_some, w_skip, Bool.not_true, Bool.not_false, wantB_undef, newb_fm, ptrP_mk, slcP_mk, cells_agg, hM, hdn, hform, retV_three]
    exact ⟨by rw [hV]; rfl, hbn⟩
end Go.Am.C07.K
namespace Go.Am.C07.K
open Go Go.Am
variable {E : Nat → Option AFn} {Y : Nat → List Value → FM → Nat → OR FM}
def errF : Value := .tuple #[.int .i64 0, .int .i64 0, .bool false]
end Go.Am.C07.K
namespace Go.Am.C07.K
open Go Go.Am
variable {E : Nat → Option AFn} {Y : Nat → List Value → FM → Nat → OR FM}
end Go.Am.C07.K
namespace Go.Am.C07.K
open Go Go.Am
variable {E : Nat → Option AFn} {Y : Nat → List Value → FM → Nat → OR FM}
def GroupsR (disks : Int) (w : Nat) (gs : List (List Int)) (j : Nat) : Prop := ∀ i g, j ≤ i → gs[i]? = some g → (2 ≤ g.length ∧ g.length = w) ∧ RowFrom disks g 0
end Go.Am.C07.K
namespace Go.Am.C07.K
open Go Go.Am
variable {E : Nat → Option AFn} {Y : Nat → List Value → FM → Nat → OR FM}
end Go.Am.C07.K
namespace Go.Am.C07.K
open Go Go.Am
variable {E : Nat → Option AFn} {Y : Nat → List Value → FM → Nat → OR FM}
open Classical in
noncomputable def refV (disks : Int) (gs : List (List Int)) : Value :=
  if Formed disks gs then
    if Bal (counts zeros gs) disks.toNat (counts zeros gs)[0]! (counts zeros gs)[1]! 0 then .tuple #[.int .i64 (counts zeros gs)[0]!, .int .i64 (counts zeros gs)[1]!, .bool (decide ((0 : Int) < (counts zeros gs)[1]!))] else errF
  else errF
end Go.Am.C07.K
namespace Go.Am.C07
open Go Go.Am Go.Am.C07.K
variable {E : Nat → Option AFn} {Y : Nat → List Value → FM → Nat → OR FM}
def GoodR (disks : Int) (gs : List (List Int)) : Prop :=
  Formed disks gs ∧ Bal (counts zeros gs) disks.toNat (counts zeros gs)[0]! (counts zeros gs)[1]! 0 ∧ (0 : Int) < (counts zeros gs)[1]!
theorem checkV_good {disks : Int} {gs : List (List Int)} (h : GoodR disks gs) : checkV disks gs = .tuple #[.int .i64 (counts zeros gs)[0]!, .int .i64 (counts zeros gs)[1]!, .int .i64 0] := by
  unfold checkV; rw [if_pos h.1, if_pos ⟨h.2.1, by have := h.2.2; omega⟩]
theorem checkV_bad {disks : Int} {gs : List (List Int)} (h : ¬ GoodR disks gs) : checkV disks gs = errT := by
  unfold checkV
  by_cases h1 : Formed disks gs
  · rw [if_pos h1, if_neg (fun h2 => h ⟨h1, h2.1, by have := h2.2; omega⟩)]
  · rw [if_neg h1]
def width (gs : List (List Int)) : Int := ((gs[0]?.getD []).length : Int)
end Go.Am.C07
namespace Go.Am.C07
open Go
abbrev combos := Proofs.St.combos
theorem combos_nil {D : Int} {k : Nat} {lo : Int} {p : List Int} (h : D - (k + 1 : Nat) < lo) : combos D (k + 1) lo p = [] := by
  show ((List.range (D - (k + 1 : Nat) - lo + 1).toNat).map _).flatten = []
  rw [show (D - (k + 1 : Nat) - lo + 1).toNat = 0 by omega]
  rfl
theorem combos_cons {D : Int} {k : Nat} {lo : Int} {p : List Int} (h : lo ≤ D - (k + 1 : Nat)) : combos D (k + 1) lo p = combos D k (lo + 1) (p ++ [lo]) ++ combos D (k + 1) (lo + 1) p := by
  show ((List.range (D - (k + 1 : Nat) - lo + 1).toNat).map fun (i : Nat) => combos D k (lo + (i : Int) + 1) (p ++ [lo + (i : Int)])).flatten = _ ++ ((List.range (D - (k + 1 : Nat) - (lo + 1) + 1).toNat).map fun (i : Nat) => combos D k (lo + 1 + (i : Int) + 1) (p ++ [lo + 1 + (i : Int)])).flatten
  rw [show (D - (k + 1 : Nat) - lo + 1).toNat = (D - (k + 1 : Nat) - (lo + 1) + 1).toNat + 1 by omega, List.range_succ_eq_map, List.map_cons, List.map_map, List.flatten_cons]
  congr 1
  · simp
  · congr 1
    apply List.map_congr_left
    intro i _
    simp only [Function.comp, Nat.succ_eq_add_one]
    rw [show lo + ((i + 1 : Nat) : Int) = lo + 1 + (i : Int) by omega]
def ch : Nat → Nat → Nat
  | _, 0 => 1
  | 0, _ + 1 => 0
  | n + 1, k + 1 => ch n k + ch n (k + 1)
theorem ch_0 (n : Nat) : ch n 0 = 1 := by cases n <;> rfl
theorem ch_s (n k : Nat) : ch (n + 1) (k + 1) = ch n k + ch n (k + 1) := rfl
theorem ch_zero : ∀ {n k : Nat}, n < k → ch n k = 0
  | 0, k + 1, _ => rfl
  | n + 1, k + 1, h => by rw [ch_s, ch_zero (show n < k by omega), ch_zero (show n < k + 1 by omega)]
theorem ch_I1 : ∀ n k : Nat, (k + 1) * ch (n + 1) (k + 1) = (n + 1) * ch n k
  | 0, 0 => rfl
  | 0, k + 1 => by rw [ch_s, ch_zero (show 0 < k + 1 by omega), ch_zero (show 0 < k + 1 + 1 by omega)]; simp
  | n + 1, 0 => by
    have := ch_I1 n 0
    rw [ch_0] at this
    rw [ch_s, ch_0]
    omega
  | n + 1, k + 1 => by
    have h1 := ch_I1 n k
    have h2 := ch_I1 n (k + 1)
    rw [ch_s (n + 1) (k + 1), Nat.mul_add, h2]
    have e1 : (k + 1 + 1) * ch (n + 1) (k + 1) = (k + 1) * ch (n + 1) (k + 1) + ch (n + 1) (k + 1) := by rw [Nat.add_mul, Nat.one_mul]
    have e2 : (n + 1 + 1) * ch (n + 1) (k + 1) = (n + 1) * ch (n + 1) (k + 1) + ch (n + 1) (k + 1) := by rw [Nat.add_mul, Nat.one_mul]
    rw [e1, h1, e2, ch_s n k, Nat.mul_add]
    omega
theorem ch_I2 {n k : Nat} (h : k ≤ n) : ch n k * (n - k) = ch n (k + 1) * (k + 1) := by
  have h1 := ch_I1 n k
  rw [ch_s, Nat.mul_add] at h1
  have e : (n + 1) * ch n k = (k + 1) * ch n k + (n - k) * ch n k := by rw [← Nat.add_mul]; congr 1; omega
  rw [e] at h1
  rw [Nat.mul_comm (ch n k), Nat.mul_comm (ch n (k + 1))]
  omega
theorem ch_symm : ∀ s a b : Nat, a + b = s → ch (a + b) a = ch (a + b) b
  | s, 0, b, h => by
    rw [ch_0]
    clear h
    rw [Nat.zero_add]
    induction b with
    | zero => rfl
    | succ b ih => rw [ch_s, ← ih, ch_zero (Nat.lt_succ_self b)]
  | s, a + 1, 0, h => by
    clear h
    rw [ch_0, Nat.add_zero]
    induction a with
    | zero => rfl
    | succ a ih => rw [ch_s, ih, ch_zero (Nat.lt_succ_self (a + 1))]
  | s + 1, a + 1, b + 1, h => by
    have h1 := ch_symm s a (b + 1) (by omega)
    have h2 := ch_symm s (a + 1) b (by omega)
    rw [show a + 1 + (b + 1) = (a + (b + 1)) + 1 by omega, ch_s, ch_s, h1]
    rw [show a + (b + 1) = a + 1 + b by omega, h2]
    omega
  | 0, _ + 1, _ + 1, h => by omega
theorem ch_min {n k : Nat} (h : k ≤ n) : ch n (min k (n - k)) = ch n k := by
  rcases Nat.le_total k (n - k) with h1 | h1
  · rw [Nat.min_eq_left h1]
  · rw [Nat.min_eq_right h1]
    have := ch_symm n k (n - k) (by omega)
    rw [show k + (n - k) = n by omega] at this
    exact this.symm
theorem cnt_ch (D : Nat) : ∀ j i : Nat, i + j ≤ D → Proofs.St.cnt (D : Int) j (i : Int) (ch D i : Nat) = ((ch D (i + j) : Nat) : Int) ∨ 1099511627776 < Proofs.St.cnt (D : Int) j (i : Int) (ch D i : Nat)
  | 0, i, _ => .inl rfl
  | j + 1, i, h => by
    have e : ((ch D i : Nat) : Int) * ((D : Int) - (i : Int)) / ((i : Int) + 1) = ((ch D (i + 1) : Nat) : Int) := by
      have h1 := ch_I2 (show i ≤ D by omega)
      rw [show (D : Int) - (i : Int) = ((D - i : Nat) : Int) by omega, ← Int.natCast_mul, h1, Int.natCast_mul]
      exact Int.mul_ediv_cancel _ (by omega)
    rw [Proofs.St.cnt_succ, e]
    by_cases hb : ((ch D (i + 1) : Nat) : Int) > 1099511627776
    · rw [if_pos hb]; exact .inr hb
    · rw [if_neg hb]
      have ih := cnt_ch D j (i + 1) (by omega)
      rw [show i + 1 + j = i + (j + 1) by omega, show ((i + 1 : Nat) : Int) = (i : Int) + 1 by omega] at ih
      exact ih
theorem cnt_small {D k : Nat} (hk : k ≤ D) (h : Proofs.St.cnt (D : Int) (min k (D - k)) 0 1 ≤ 4096) : Proofs.St.cnt (D : Int) (min k (D - k)) 0 1 = ((ch D k : Nat) : Int) := by
  have := cnt_ch D (min k (D - k)) 0 (by omega)
  rw [ch_0, Nat.zero_add, ch_min hk] at this
  rcases this with h1 | h1
  · exact h1
  · have h2 : (1099511627776 : Int) < Proofs.St.cnt (D : Int) (min k (D - k)) 0 1 := h1
    omega
theorem combos_len {D : Int} : ∀ (r k : Nat) (lo : Int) (p : List Int), lo + (r : Int) = D → (combos D k lo p).length = ch r k
  | r, 0, lo, p, _ => by rw [ch_0]; rfl
  | 0, k + 1, lo, p, h => by rw [combos_nil (by omega)]; rfl
  | r + 1, k + 1, lo, p, h => by
    by_cases hk : k ≤ r
    · rw [combos_cons (by omega), List.length_append, combos_len r k (lo + 1) _ (by omega), combos_len r (k + 1) (lo + 1) p (by omega), ch_s]
    · rw [combos_nil (by omega), ch_zero (by omega)]; rfl
def Inc (D : Int) : Int → List Int → Prop
  | _, [] => True
  | lo, a :: s => lo ≤ a ∧ a < D ∧ Inc D (a + 1) s
theorem Inc.low {D : Int} {lo lo' : Int} (h : lo' ≤ lo) : ∀ {s : List Int}, Inc D lo s → Inc D lo' s
  | [], _ => trivial
  | a :: s, ⟨h1, h2, h3⟩ => ⟨by omega, h2, h3⟩
theorem Inc.mem {D : Int} : ∀ {lo : Int} {s : List Int}, Inc D lo s → ∀ x ∈ s, lo ≤ x ∧ x < D
  | lo, a :: s, ⟨h1, h2, h3⟩, x, hx => by
    rcases List.mem_cons.1 hx with rfl | hx
    · exact ⟨h1, h2⟩
    · have := Inc.mem h3 x hx
      omega
theorem combos_mem {D : Int} : ∀ (r k : Nat) (lo : Int) (p x : List Int), lo + (r : Int) = D → x ∈ combos D k lo p → ∃ s, x = p ++ s ∧ s.length = k ∧ Inc D lo s
  | r, 0, lo, p, x, _, hx => by
    have hx : x ∈ [p] := hx
    rw [List.mem_singleton] at hx
    exact ⟨[], by rw [hx, List.append_nil], rfl, trivial⟩
  | 0, k + 1, lo, p, x, h, hx => by rw [combos_nil (by omega)] at hx; cases hx
  | r + 1, k + 1, lo, p, x, h, hx => by
    by_cases hk : k ≤ r
    · rw [combos_cons (by omega)] at hx
      rcases List.mem_append.1 hx with hx | hx
      · obtain ⟨s, h1, h2, h3⟩ := combos_mem r k (lo + 1) _ x (by omega) hx
        exact ⟨lo :: s, by rw [h1, List.append_assoc]; rfl, by simp [h2], by omega, by omega, h3⟩
      · obtain ⟨s, h1, h2, h3⟩ := combos_mem r (k + 1) (lo + 1) p x (by omega) hx
        exact ⟨s, h1, h2, h3.low (by omega)⟩
    · rw [combos_nil (by omega)] at hx; cases hx
def has1 (a : Int) (x : List Int) : Bool := decide (a ∈ x)
theorem filter_none {α : Type} {q : α → Bool} {l : List α} (h : ∀ x ∈ l, q x = false) : (l.filter q).length = 0 := by
  rw [List.filter_eq_nil_iff.2 (fun x hx => by rw [h x hx]; simp)]; rfl
theorem filter_every {α : Type} {q : α → Bool} {l : List α} (h : ∀ x ∈ l, q x = true) : (l.filter q).length = l.length := by
  rw [List.filter_eq_self.2 h]
theorem combos_one {D : Int} (a : Int) : ∀ (r k : Nat) (lo : Int) (p : List Int), lo + (r : Int) = D → lo ≤ a → a < D → a ∉ p → ((combos D (k + 1) lo p).filter (has1 a)).length = ch (r - 1) k
  | 0, k, lo, p, h, h1, h2, _ => by omega
  | r + 1, k, lo, p, h, h1, h2, hp => by
    rw [Nat.add_sub_cancel]
    by_cases hk : k ≤ r
    · rw [combos_cons (by omega), List.filter_append, List.length_append]
      by_cases ha : a = lo
      · subst ha
        rw [filter_every (fun x hx => ?_), filter_none (fun x hx => ?_), combos_len r k _ _ (by omega), Nat.add_zero]
        · obtain ⟨s, rfl, _, hs⟩ := combos_mem r (k + 1) (a + 1) p x (by omega) hx
          refine decide_eq_false fun hm => ?_
          rcases List.mem_append.1 hm with hm | hm
          · exact hp hm
          · have := hs.mem a hm; omega
        · obtain ⟨s, rfl, _, hs⟩ := combos_mem r k (a + 1) (p ++ [a]) x (by omega) hx
          exact decide_eq_true (by simp)
      · have hp' : a ∉ p ++ [lo] := by simp [hp, ha]
        have hr := combos_one a r k (lo + 1) p (by omega) (by omega) h2 hp
        rw [hr]
        cases k with
        | zero =>
          rw [filter_none (fun x hx => ?_), ch_0, ch_0]
          have hx : x ∈ [p ++ [lo]] := hx
          rw [List.mem_singleton] at hx
          rw [hx]
          exact decide_eq_false hp'
        | succ k =>
          rw [combos_one a r k (lo + 1) _ (by omega) (by omega) h2 hp']
          obtain ⟨r', rfl⟩ : ∃ r', r = r' + 1 := ⟨r - 1, by omega⟩
          rfl
    · rw [combos_nil (by omega), ch_zero (by omega)]; rfl
def has2 (a b : Int) (x : List Int) : Bool := decide (a ∈ x) && decide (b ∈ x)
theorem combos_two {D : Int} (a b : Int) (hab : a < b) : ∀ (r k : Nat) (lo : Int) (p : List Int), lo + (r : Int) = D → lo ≤ a → b < D → a ∉ p → b ∉ p → ((combos D (k + 2) lo p).filter (has2 a b)).length = ch (r - 2) k
  | 0, k, lo, p, h, h1, h2, _, _ => by omega
  | 1, k, lo, p, h, h1, h2, _, _ => by omega
  | r + 2, k, lo, p, h, h1, h2, hp, hq => by
    rw [Nat.add_sub_cancel]
    by_cases hk : k ≤ r
    · rw [combos_cons (by omega), List.filter_append, List.length_append]
      by_cases ha : a = lo
      · subst ha
        have e : ((combos D (k + 1) (a + 1) (p ++ [a])).filter (has2 a b)).length = ((combos D (k + 1) (a + 1) (p ++ [a])).filter (has1 b)).length := by
          congr 1
          apply List.filter_congr
          intro x hx
          obtain ⟨s, rfl, _, _⟩ := combos_mem (r + 1) (k + 1) (a + 1) (p ++ [a]) x (by omega) hx
          simp [has2, has1]
        rw [e, combos_one b (r + 1) k (a + 1) _ (by omega) (by omega) h2 (by simp [hq]; omega), filter_none (fun x hx => ?_)]
        · rfl
        · obtain ⟨s, rfl, _, hs⟩ := combos_mem (r + 1) (k + 2) (a + 1) p x (by omega) hx
          have : a ∉ p ++ s := fun hm => by
            rcases List.mem_append.1 hm with hm | hm
            · exact hp hm
            · have := hs.mem a hm; omega
          simp [has2, this]
      · have hp' : a ∉ p ++ [lo] := by simp [hp, ha]
        have hq' : b ∉ p ++ [lo] := by simp [hq]; omega
        rw [combos_two a b hab (r + 1) k (lo + 1) p (by omega) (by omega) h2 hp hq]
        cases k with
        | zero =>
          rw [filter_none (fun x hx => ?_), ch_0, ch_0]
          obtain ⟨s, rfl, hl, hs⟩ := combos_mem (r + 1) 1 (lo + 1) (p ++ [lo]) x (by omega) hx
          match s, hl with
          | [c], _ =>
            by_cases hac : a = c
            · have : b ∉ p ++ [lo] ++ [c] := fun hm => by
                rcases List.mem_append.1 hm with hm | hm
                · exact hq' hm
                · simp at hm; omega
              simp only [has2, this, decide_false, Bool.and_false]
            · have : a ∉ p ++ [lo] ++ [c] := fun hm => by
                rcases List.mem_append.1 hm with hm | hm
                · exact hp' hm
                · simp at hm; exact hac hm
              simp only [has2, this, decide_false, Bool.false_and]
        | succ k =>
          rw [combos_two a b hab (r + 1) k (lo + 1) _ (by omega) (by omega) h2 hp' hq']
          obtain ⟨r', rfl⟩ : ∃ r', r = r' + 1 := ⟨r - 1, by omega⟩
          rfl
    · rw [combos_nil (by omega), ch_zero (by omega)]; rfl
end Go.Am.C07
namespace Go.Am.C07
open Go
def upto : Int → Nat → List Int
  | _, 0 => []
  | a, n + 1 => a :: upto (a + 1) n
theorem upto_len : ∀ (a : Int) (n : Nat), (upto a n).length = n
  | _, 0 => rfl
  | a, n + 1 => by rw [upto, List.length_cons, upto_len (a + 1) n]
theorem upto_get : ∀ (a : Int) (n j : Nat), j < n → (upto a n)[j]? = some (a + (j : Int))
  | _, 0, _, h => by omega
  | a, n + 1, 0, _ => by simp [upto]
  | a, n + 1, j + 1, h => by
    rw [upto, List.getElem?_cons_succ, upto_get (a + 1) n j (by omega)]
    congr 1
    omega
def Nx (D : Int) (x y : List Int) : Prop := ∃ (q : List Int) (a : Int) (t : Nat), x = q ++ a :: upto (D - (t : Int)) t ∧ y = q ++ upto (a + 1) (t + 1) ∧ a + 1 < D - (t : Int)
def Path (D : Int) : List Int → List (List Int) → List Int → Prop
  | x, [], z => x = z
  | x, y :: L, z => Nx D x y ∧ Path D y L z
theorem Path.app {D : Int} : ∀ {x : List Int} {L : List (List Int)} {z1 y : List Int} {L2 : List (List Int)} {z : List Int}, Path D x L z1 → Nx D z1 y → Path D y L2 z → Path D x (L ++ y :: L2) z
  | x, [], z1, y, L2, z, h1, h2, h3 => by
    have h1 : x = z1 := h1
    subst h1
    exact ⟨h2, h3⟩
  | x, u :: L, z1, y, L2, z, h1, h2, h3 => ⟨h1.1, Path.app h1.2 h2 h3⟩
theorem combos_path {D : Int} : ∀ (r k : Nat) (lo : Int) (p : List Int), lo + (r : Int) = D → k ≤ r → ∃ L, combos D k lo p = (p ++ upto lo k) :: L ∧ Path D (p ++ upto lo k) L (p ++ upto (D - (k : Int)) k)
  | r, 0, lo, p, _, _ => ⟨[], by rw [upto, List.append_nil]; rfl, rfl⟩
  | 0, k + 1, lo, p, h, hk => by omega
  | r + 1, k + 1, lo, p, h, hk => by
    obtain ⟨L1, e1, p1⟩ := combos_path (D := D) r k (lo + 1) (p ++ [lo]) (by omega) (by omega)
    rw [combos_cons (by omega), e1]
    rw [List.append_assoc] at p1 ⊢
    rw [List.append_assoc] at p1
    have hx : p ++ ([lo] ++ upto (lo + 1) k) = p ++ upto lo (k + 1) := rfl
    rw [hx] at p1 ⊢
    by_cases hr : k + 1 ≤ r
    · obtain ⟨L2, e2, p2⟩ := combos_path (D := D) r (k + 1) (lo + 1) p (by omega) hr
      rw [e2]
      exact ⟨L1 ++ (p ++ upto (lo + 1) (k + 1)) :: L2, rfl, p1.app ⟨p, lo, k, rfl, rfl, by omega⟩ p2⟩
    · rw [combos_nil (by omega), List.append_nil]
      refine ⟨L1, rfl, ?_⟩
      have : p ++ ([lo] ++ upto (D - (k : Int)) k) = p ++ upto (D - ((k + 1 : Nat) : Int)) (k + 1) := by
        have e : D - ((k + 1 : Nat) : Int) = lo := by omega
        rw [e, show D - (k : Int) = lo + 1 by omega]; rfl
      rw [this] at p1
      exact p1
theorem Nx.places {D : Int} {x y : List Int} (h : Nx D x y) : y.length = x.length ∧ ∃ s, s < x.length ∧ (∀ j, s < j → j < x.length → x[j]? = some (D - (x.length : Int) + (j : Int))) ∧
    (∃ a, x[s]? = some a ∧ a < D - (x.length : Int) + (s : Int) ∧ y[s]? = some (a + 1)) ∧ (∀ j, j < s → y[j]? = x[j]?) ∧ ∀ j, s < j → j < x.length → ∃ b, y[j - 1]? = some b ∧ y[j]? = some (b + 1) := by
  obtain ⟨q, a, t, rfl, rfl, ha⟩ := h
  have hl : (q ++ a :: upto (D - (t : Int)) t).length = q.length + t + 1 := by simp [upto_len]; omega
  refine ⟨by simp [upto_len], q.length, by omega, fun j h1 h2 => ?_, ⟨a, ?_, by rw [hl]; omega, ?_⟩, fun j hj => ?_, fun j h1 h2 => ?_⟩
  · rw [hl] at h2 ⊢
    rw [List.getElem?_append_right (by omega)]
    obtain ⟨i, rfl⟩ : ∃ i, j = q.length + 1 + i := ⟨j - (q.length + 1), by omega⟩
    rw [show q.length + 1 + i - q.length = i + 1 by omega, List.getElem?_cons_succ, upto_get _ _ _ (by omega)]
    congr 1
    omega
  · rw [List.getElem?_append_right (Nat.le_refl _), Nat.sub_self]; rfl
  · rw [List.getElem?_append_right (Nat.le_refl _), Nat.sub_self]; rfl
  · rw [List.getElem?_append_left hj, List.getElem?_append_left hj]
  · rw [hl] at h2
    obtain ⟨i, rfl⟩ : ∃ i, j = q.length + 1 + i := ⟨j - (q.length + 1), by omega⟩
    refine ⟨a + 1 + (i : Int), ?_, ?_⟩
    · rw [List.getElem?_append_right (by omega), show q.length + 1 + i - 1 - q.length = i by omega, upto_get _ _ _ (by omega)]
    · rw [List.getElem?_append_right (by omega), show q.length + 1 + i - q.length = i + 1 by omega, upto_get _ _ _ (by omega)]
      congr 1
      omega
theorem last_places (D : Int) (w j : Nat) (h : j < w) : (upto (D - (w : Int)) w)[j]? = some (D - (w : Int) + (j : Int)) := upto_get _ _ _ h
end Go.Am.C07
namespace Go.Am.C07
open Go Go.Am Go.Am.C07.K
def at0 (A : List Int) (i : Nat) : Int := A[i]?.getD 0
theorem bump_at {A : List Int} {N : Nat} (hA : ∀ i, 0 ≤ at0 A i ∧ at0 A i ≤ (N : Int)) (hN : N + 1 < 4611686018427387904) {k : Nat} (hk : k < A.length) (i : Nat) : at0 (bump A k) i = at0 A i + if i = k then 1 else 0 := by
  unfold bump
  have h := hA k
  unfold at0 at h
  rw [wrap_small (by omega) (by omega)]
  unfold at0
  by_cases hi : i = k
  · subst hi
    rw [if_pos rfl, List.getElem?_set_self hk]
    rfl
  · rw [if_neg hi, List.getElem?_set_ne (Ne.symm hi), Int.add_zero]
theorem bump_le {A : List Int} {N : Nat} (hA : ∀ i, 0 ≤ at0 A i ∧ at0 A i ≤ (N : Int)) (hN : N + 1 < 4611686018427387904) {k : Nat} (hk : k < A.length) : ∀ i, 0 ≤ at0 (bump A k) i ∧ at0 (bump A k) i ≤ ((N + 1 : Nat) : Int) := fun i => by
  rw [bump_at hA hN hk i]
  have := hA i
  split <;> omega
theorem bumpRow_at (a : Nat) (ha : a < 60) : ∀ (g : List Int) (A : List Int) (N : Nat), A.length = 3600 → (∀ x ∈ g, 0 ≤ x ∧ x < 60) → g.Nodup → (∀ i, 0 ≤ at0 A i ∧ at0 A i ≤ (N : Int)) → N + g.length < 4611686018427387904 →
    (∀ i, 0 ≤ at0 (bumpRow A a g) i ∧ at0 (bumpRow A a g) i ≤ ((N + g.length : Nat) : Int)) ∧ ∀ a' b', b' < 60 → at0 (bumpRow A a g) (60 * a' + b') = at0 A (60 * a' + b') + if a' = a ∧ (b' : Int) ∈ g then 1 else 0
  | [], A, N, _, _, _, hA, _ => ⟨hA, fun a' b' _ => by simp [bumpRow]⟩
  | x :: g, A, N, hl, hx, hn, hA, hN => by
    simp only [List.length_cons] at hN ⊢
    obtain ⟨hx0, hx1⟩ := hx x (by simp)
    have hk : 60 * a + x.toNat < A.length := by omega
    have h1 := bump_le hA (by omega) hk
    obtain ⟨h2, h3⟩ := bumpRow_at a ha g (bump A (60 * a + x.toNat)) (N + 1) (by rw [bump_length, hl]) (fun y hy => hx y (by simp [hy])) (List.nodup_cons.1 hn).2 h1 (by omega)
    refine ⟨fun i => ?_, fun a' b' hb' => ?_⟩
    · have := h2 i
      show 0 ≤ at0 (bumpRow (bump A (60 * a + x.toNat)) a g) i ∧ _
      rw [show N + (g.length + 1) = N + 1 + g.length by omega]
      exact this
    · show at0 (bumpRow (bump A (60 * a + x.toNat)) a g) (60 * a' + b') = _
      rw [h3 a' b' hb', bump_at hA (by omega) hk, ]
      have hni := (List.nodup_cons.1 hn).1
      by_cases haa : a' = a
      · subst haa
        by_cases hbx : (b' : Int) = x
        · have e : 60 * a' + b' = 60 * a' + x.toNat := by omega
          have hm : (b' : Int) ∉ g := by rw [hbx]; exact hni
          rw [if_pos e, if_neg (fun h => hm h.2), if_pos ⟨rfl, by rw [hbx]; simp⟩]
          omega
        · have e : ¬ 60 * a' + b' = 60 * a' + x.toNat := by omega
          rw [if_neg e]
          by_cases hm : (b' : Int) ∈ g
          · rw [if_pos ⟨rfl, hm⟩, if_pos ⟨rfl, by simp [hm]⟩]; omega
          · rw [if_neg (fun h => hm h.2), if_neg (fun h => by have := h.2; simp [hbx, hm] at this)]; omega
      · have e : ¬ 60 * a' + b' = 60 * a + x.toNat := by omega
        rw [if_neg e, if_neg (fun h => haa h.1), if_neg (fun h => haa h.1)]
        omega
theorem bumpGroup_at (g : List Int) (hg : ∀ x ∈ g, 0 ≤ x ∧ x < 60) (hgn : g.Nodup) (hgl : g.length ≤ 60) : ∀ (l : List Int) (A : List Int) (N : Nat), A.length = 3600 → (∀ x ∈ l, 0 ≤ x ∧ x < 60) → l.Nodup → (∀ i, 0 ≤ at0 A i ∧ at0 A i ≤ (N : Int)) → N + 60 * l.length < 4611686018427387904 →
    (∀ i, 0 ≤ at0 (bumpGroup A g l) i ∧ at0 (bumpGroup A g l) i ≤ ((N + 60 * l.length : Nat) : Int)) ∧ ∀ a' b', a' < 60 → b' < 60 → at0 (bumpGroup A g l) (60 * a' + b') = at0 A (60 * a' + b') + if (a' : Int) ∈ l ∧ (b' : Int) ∈ g then 1 else 0
  | [], A, N, _, _, _, hA, _ => ⟨hA, fun a' b' _ _ => by simp [bumpGroup]⟩
  | x :: l, A, N, hl, hx, hn, hA, hN => by
    simp only [List.length_cons] at hN ⊢
    obtain ⟨hx0, hx1⟩ := hx x (by simp)
    obtain ⟨h1, h1'⟩ := bumpRow_at x.toNat (by omega) g A N hl hg hgn hA (by omega)
    obtain ⟨h2, h3⟩ := bumpGroup_at g hg hgn hgl l (bumpRow A x.toNat g) (N + 60) (by rw [bumpRow_length, hl]) (fun y hy => hx y (by simp [hy])) (List.nodup_cons.1 hn).2 (fun i => by have := h1 i; omega) (by omega)
    refine ⟨fun i => ?_, fun a' b' ha' hb' => ?_⟩
    · have := h2 i
      show 0 ≤ at0 (bumpGroup (bumpRow A x.toNat g) g l) i ∧ _
      rw [show N + 60 * (l.length + 1) = N + 60 + 60 * l.length by omega]
      exact this
    · show at0 (bumpGroup (bumpRow A x.toNat g) g l) (60 * a' + b') = _
      rw [h3 a' b' ha' hb', h1' a' b' hb']
      have hni := (List.nodup_cons.1 hn).1
      by_cases haa : (a' : Int) = x
      · have hm : (a' : Int) ∉ l := by rw [haa]; exact hni
        have e : a' = x.toNat := by omega
        rw [if_neg (fun h : (a' : Int) ∈ l ∧ (b' : Int) ∈ g => hm h.1)]
        by_cases hb : (b' : Int) ∈ g
        · rw [if_pos ⟨e, hb⟩, if_pos ⟨by rw [haa]; simp, hb⟩]; omega
        · rw [if_neg (fun h => hb h.2), if_neg (fun h => hb h.2)]; omega
      · have e : ¬ a' = x.toNat := by omega
        rw [if_neg (fun h : a' = x.toNat ∧ (b' : Int) ∈ g => e h.1)]
        by_cases hm : (a' : Int) ∈ l ∧ (b' : Int) ∈ g
        · rw [if_pos hm, if_pos ⟨by simp [hm.1], hm.2⟩]; omega
        · rw [if_neg hm, if_neg (fun h => hm ⟨by have := h.1; simpa [haa] using this, h.2⟩)]; omega
def RowG (g : List Int) : Prop := g.Nodup ∧ g.length ≤ 60 ∧ ∀ x ∈ g, 0 ≤ x ∧ x < 60
theorem counts_at : ∀ (gs : List (List Int)) (A : List Int) (N : Nat), A.length = 3600 → (∀ g ∈ gs, RowG g) → (∀ i, 0 ≤ at0 A i ∧ at0 A i ≤ (N : Int)) → N + 3600 * gs.length < 4611686018427387904 →
    ∀ a' b', a' < 60 → b' < 60 → at0 (counts A gs) (60 * a' + b') = at0 A (60 * a' + b') + (shC gs a' b' : Int)
  | [], A, N, _, _, _, _, a', b', _, _ => by simp [counts, shC]
  | g :: gs, A, N, hl, hg, hA, hN, a', b', ha, hb => by
    simp only [List.length_cons] at hN
    obtain ⟨g1, g2, g3⟩ := hg g (by simp)
    obtain ⟨h1, h2⟩ := bumpGroup_at g g3 g1 g2 g A N hl g3 g1 hA (by omega)
    show at0 (counts (bumpGroup A g g) gs) _ = _
    rw [counts_at gs (bumpGroup A g g) (N + 3600) (by rw [bumpGroup_length, hl]) (fun y hy => hg y (by simp [hy])) (fun i => by have := h1 i; omega) (by omega) a' b' ha hb, h2 a' b' ha hb]
    have e : (shC (g :: gs) a' b' : Int) = (if (a' : Int) ∈ g ∧ (b' : Int) ∈ g then 1 else 0) + (shC gs a' b' : Int) := by
      unfold shC
      rw [List.filter_cons]
      by_cases hm : (a' : Int) ∈ g ∧ (b' : Int) ∈ g
      · rw [if_pos hm, if_pos (by unfold shQ; rw [decide_eq_true hm.1, decide_eq_true hm.2]; rfl), List.length_cons]
        omega
      · rw [if_neg hm, if_neg (fun h => hm (by unfold shQ at h; simpa using h))]
        omega
    rw [e]
    omega
theorem zeros_at (i : Nat) : at0 zeros i = 0 := by
  unfold at0 zeros
  rw [List.getElem?_replicate]
  split <;> rfl
theorem counts_shC {gs : List (List Int)} (hg : ∀ g ∈ gs, RowG g) (hl : gs.length ≤ 100000) {a b : Nat} (ha : a < 60) (hb : b < 60) : at0 (counts zeros gs) (60 * a + b) = (shC gs a b : Int) := by
  rw [counts_at gs zeros 0 List.length_replicate hg (fun i => by rw [zeros_at]; omega) (by omega) a b ha hb, zeros_at, Int.zero_add]
end Go.Am.C07
namespace Go.Am.C07
open Go Go.Am
variable {E : Nat → Option AFn} {Y : Nat → List Value → FM → Nat → OR FM}
theorem shC_comm (gs : List (List Int)) (a b : Int) : shC gs a b = shC gs b a := by
  unfold shC
  congr 1
  apply List.filter_congr
  intro g _
  exact Bool.and_comm _ _
end Go.Am.C07
namespace Go.Am.C07
open Go Go.Am Go.Am.C07.K
theorem ch_pos : ∀ {n k : Nat}, k ≤ n → 0 < ch n k
  | n, 0, _ => by rw [ch_0]; omega
  | n + 1, k + 1, h => by rw [ch_s]; have := ch_pos (show k ≤ n by omega); omega
theorem inc_get {D : Int} : ∀ {lo : Int} {s : List Int}, Inc D lo s → ∀ (i : Nat) (x : Int), s[i]? = some x → lo + (i : Int) ≤ x ∧ x < D ∧ ∀ y, 0 < i → s[i - 1]? = some y → y < x
  | lo, a :: s, ⟨h1, h2, h3⟩, 0, x, hx => by
    injection hx with hx; subst hx
    exact ⟨by omega, h2, fun y h => by omega⟩
  | lo, a :: s, ⟨h1, h2, h3⟩, i + 1, x, hx => by
    obtain ⟨k1, k2, k3⟩ := inc_get h3 i x (by simpa using hx)
    refine ⟨by omega, k2, fun y _ hy => ?_⟩
    rw [Nat.add_sub_cancel] at hy
    cases i with
    | zero => injection hy with hy; subst hy; omega
    | succ i => exact k3 y (by omega) (by simpa using hy)
theorem inc_row {D : Int} {g : List Int} (h : Inc D 0 g) : RowFrom D g 0 := fun i _ _ x hx => by
  obtain ⟨k1, k2, k3⟩ := inc_get h i x hx
  exact ⟨by omega, k2, fun hi y hy => k3 y hi hy⟩
theorem inc_nodup {D : Int} : ∀ {lo : Int} {s : List Int}, Inc D lo s → s.Nodup
  | lo, [], _ => List.nodup_nil
  | lo, a :: s, ⟨h1, h2, h3⟩ => List.nodup_cons.2 ⟨fun hm => by have := h3.mem a hm; omega, inc_nodup h3⟩
theorem inc_len {D : Int} : ∀ {lo : Int} {s : List Int}, lo ≤ D → Inc D lo s → (s.length : Int) ≤ D - lo
  | lo, [], h, _ => by simp; omega
  | lo, a :: s, h, ⟨h1, h2, h3⟩ => by have := inc_len (by omega) h3; rw [List.length_cons]; omega
theorem inc_g {D : Nat} {g : List Int} (hD : D ≤ 60) (h : Inc D 0 g) : RowG g := ⟨inc_nodup h, by have := inc_len (by omega) h; omega, fun x hx => by have := h.mem x hx; omega⟩
def Fm (D w : Nat) (gs : List (List Int)) : Prop := ∀ g ∈ gs, g.length = w ∧ Inc D 0 g
theorem Fm.formed {D w : Nat} {gs : List (List Int)} (h : Fm D w gs) (hD : 2 ≤ D) (hD2 : D ≤ 60) (h0 : 0 < gs.length) (hl : gs.length ≤ 4096) (hw : 2 ≤ w) : Formed D gs := by
  refine ⟨by omega, by omega, hl, gs[0], List.getElem?_eq_getElem h0, by rw [(h _ (List.getElem_mem h0)).1]; exact hw, fun i g _ hg => ?_⟩
  rw [(h _ (List.getElem_mem h0)).1]
  exact ⟨(h g (List.mem_of_getElem? hg)).1, inc_row (h g (List.mem_of_getElem? hg)).2⟩
theorem Fm.rowG {D w : Nat} {gs : List (List Int)} (h : Fm D w gs) (hD : D ≤ 60) : ∀ g ∈ gs, RowG g := fun g hg => inc_g hD (h g hg).2
theorem get_bang (A : List Int) (i : Nat) : A[i]! = at0 A i := by
  unfold at0
  rw [List.getElem!_eq_getElem?_getD]
  rfl
theorem counts_0 {D w : Nat} {gs : List (List Int)} (h : Fm D w gs) (hD2 : D ≤ 60) (hl : gs.length ≤ 4096) : (counts zeros gs)[0]! = (shC gs 0 0 : Int) := by
  rw [get_bang]
  exact counts_shC (h.rowG hD2) (by omega) (a := 0) (b := 0) (by omega) (by omega)
theorem counts_1 {D w : Nat} {gs : List (List Int)} (h : Fm D w gs) (hD2 : D ≤ 60) (hl : gs.length ≤ 4096) : (counts zeros gs)[1]! = (shC gs 0 1 : Int) := by
  rw [get_bang]
  exact counts_shC (h.rowG hD2) (by omega) (a := 0) (b := 1) (by omega) (by omega)
theorem check_bal {D w r lam : Nat} {gs : List (List Int)} (h : Fm D w gs) (hD : 2 ≤ D) (hD2 : D ≤ 60) (h0 : 0 < gs.length) (hl : gs.length ≤ 4096) (hw : 2 ≤ w) (h1 : ∀ a : Nat, a < D → shC gs a a = r) (h2 : ∀ a b : Nat, a < D → b < D → a ≠ b → shC gs a b = lam) (hlam : 0 < lam) :
    GoodR D gs ∧ checkV D gs = .tuple #[.int .i64 (r : Int), .int .i64 (lam : Int), .int .i64 0] := by
  have e0 : (counts zeros gs)[0]! = (r : Int) := by rw [counts_0 h hD2 hl]; exact congrArg Nat.cast (h1 0 (by omega))
  have e1 : (counts zeros gs)[1]! = (lam : Int) := by rw [counts_1 h hD2 hl]; exact congrArg Nat.cast (h2 0 1 (by omega) (by omega) (by omega))
  have hg : GoodR D gs := by
    refine ⟨h.formed hD hD2 h0 hl hw, fun a _ ha b _ hb => ?_, by rw [e1]; omega⟩
    have := counts_shC (h.rowG hD2) (by omega) (a := a) (b := b) (by omega) (by omega)
    unfold at0 at this
    rw [this, e0, e1]
    by_cases hab : a = b
    · subst hab; rw [if_pos rfl, h1 a (by omega)]
    · rw [if_neg hab, h2 a b (by omega) (by omega) hab]
  exact ⟨hg, by rw [checkV_good hg, e0, e1]⟩
theorem check_unbal {D w : Nat} {gs : List (List Int)} (h : Fm D w gs) (hD2 : D ≤ 60) (hl : gs.length ≤ 4096) (a b : Nat) (ha : a < D) (hb : b < D) (hne : shC gs a a ≠ shC gs b b) : checkV D gs = errT := by
  refine checkV_bad fun hg => hne ?_
  obtain ⟨_, hB, _⟩ := hg
  have k : ∀ c : Nat, c < D → (shC gs c c : Int) = (counts zeros gs)[0]! := fun c hc => by
    have h1 := hB c (Nat.zero_le _) (by omega) c (Nat.zero_le _) (by omega)
    rw [if_pos rfl] at h1
    rw [← h1]
    exact (counts_shC (h.rowG hD2) (by omega) (a := c) (b := c) (by omega) (by omega)).symm
  have h1 := k a ha
  have h2 := k b hb
  omega
theorem cpl_fm {D k : Nat} : Fm D k (combos D k 0 []) := fun g hg => by
  obtain ⟨s, h1, h2, h3⟩ := combos_mem D k 0 [] g (by omega) hg
  rw [List.nil_append] at h1
  subst h1
  exact ⟨h2, h3⟩
theorem cpl_len (D k : Nat) : (combos (D : Int) k 0 []).length = ch D k := combos_len D k 0 [] (by omega)
theorem cpl_one {D k : Nat} {a : Nat} (ha : a < D) : shC (combos (D : Int) (k + 1) 0 []) a a = ch (D - 1) k := by
  have := combos_one (D := (D : Int)) (a : Int) D k 0 [] (by omega) (by omega) (by omega) (by simp)
  rw [← this]
  unfold shC
  congr 1
  apply List.filter_congr
  intro x _
  simp [shQ, has1]
theorem cpl_two {D k : Nat} {a b : Nat} (ha : a < D) (hb : b < D) (hab : a ≠ b) : shC (combos (D : Int) (k + 2) 0 []) a b = ch (D - 2) k := by
  have key : ∀ a b : Nat, a < b → b < D → shC (combos (D : Int) (k + 2) 0 []) a b = ch (D - 2) k := fun a b h1 h2 =>
    combos_two (D := (D : Int)) (a : Int) (b : Int) (by omega) D k 0 [] (by omega) (by omega) (by omega) (by simp) (by simp)
  rcases Nat.lt_or_gt_of_ne hab with h | h
  · exact key a b h hb
  · rw [shC_comm]; exact key b a h ha
theorem cpl_check {D k : Nat} (hD2 : D ≤ 60) (hk : 2 ≤ k) (hkD : k ≤ D) (hl : ch D k ≤ 4096) :
    GoodR D (combos (D : Int) k 0 []) ∧ checkV D (combos (D : Int) k 0 []) = .tuple #[.int .i64 (ch (D - 1) (k - 1) : Int), .int .i64 (ch (D - 2) (k - 2) : Int), .int .i64 0] := by
  obtain ⟨j, rfl⟩ : ∃ j, k = j + 2 := ⟨k - 2, by omega⟩
  refine check_bal cpl_fm (by omega) hD2 (by rw [cpl_len]; exact ch_pos hkD) (by rw [cpl_len]; exact hl) (by omega) (fun a ha => cpl_one ha) (fun a b ha hb hab => cpl_two ha hb hab) (ch_pos (by omega))
theorem shC_append (gs hs : List (List Int)) (a b : Int) : shC (gs ++ hs) a b = shC gs a b + shC hs a b := by
  unfold shC
  rw [List.filter_append, List.length_append]
theorem twice_check {D k : Nat} (hD2 : D ≤ 60) (hk : 2 ≤ k) (hkD : k ≤ D) (hl : ch D k ≤ 2048) :
    checkV D (combos (D : Int) k 0 [] ++ combos (D : Int) k 0 []) = .tuple #[.int .i64 ((2 * ch (D - 1) (k - 1) : Nat) : Int), .int .i64 ((2 * ch (D - 2) (k - 2) : Nat) : Int), .int .i64 0] := by
  obtain ⟨j, rfl⟩ : ∃ j, k = j + 2 := ⟨k - 2, by omega⟩
  have hp := ch_pos hkD
  refine (check_bal (w := j + 2) (fun g hg => ?_) (by omega) hD2 (by rw [List.length_append, cpl_len]; omega) (by rw [List.length_append, cpl_len]; omega) (by omega) (fun a ha => ?_) (fun a b ha hb hab => ?_) ?_).2
  · rcases List.mem_append.1 hg with hg | hg <;> exact cpl_fm g hg
  · rw [shC_append, cpl_one ha, Nat.two_mul]; rfl
  · rw [shC_append, cpl_two ha hb hab, Nat.two_mul]; rfl
  · have := ch_pos (show j ≤ D - 2 by omega)
    rw [Nat.add_sub_cancel]; omega
theorem without_len (gs : List (List Int)) {i : Nat} (h : i < gs.length) : (gs.take i ++ gs.drop (i + 1)).length + 1 = gs.length := by
  rw [List.length_append, List.length_take, List.length_drop]; omega
theorem without_shC (gs : List (List Int)) {i : Nat} (h : i < gs.length) (a b : Int) : shC (gs.take i ++ gs.drop (i + 1)) a b + cond (shQ a b gs[i]) 1 0 = shC gs a b := by
  have e : gs = (gs.take i ++ [gs[i]]) ++ gs.drop (i + 1) := by
    rw [List.append_assoc]
    simp
  conv => rhs; rw [e]
  rw [shC_append, shC_append, shC_app]
  omega
theorem exists_not_mem {D : Nat} {g : List Int} (hl : g.length < D) : ∃ b : Nat, b < D ∧ (b : Int) ∉ g := by
  refine Classical.byContradiction fun hn => ?_
  have hall : ∀ b : Nat, b < D → (b : Int) ∈ g := fun b hb => Classical.byContradiction fun hm => hn ⟨b, hb, hm⟩
  have hsub : (List.range D).map (fun b => ((b : Nat) : Int)) ⊆ g := fun x hx => by
    obtain ⟨b, hb, rfl⟩ := List.mem_map.1 hx
    exact hall b (List.mem_range.1 hb)
  have hnd : ((List.range D).map (fun b => ((b : Nat) : Int))).Nodup := by
    rw [List.nodup_iff_pairwise_ne, List.pairwise_map]
    exact List.nodup_range.imp (fun h e => h (by omega))
  have := hnd.length_le_of_subset hsub
  simp at this
  omega
theorem less_check {D k : Nat} (hD2 : D ≤ 60) (hk : 2 ≤ k) (hkD : k ≤ D) (hl : ch D k ≤ 4096) {i : Nat} (hi : i < (combos (D : Int) k 0 []).length) :
    checkV D ((combos (D : Int) k 0 []).take i ++ (combos (D : Int) k 0 []).drop (i + 1)) = errT := by
  have hlen := without_len _ hi
  rw [cpl_len] at hlen
  have hfm : Fm D k ((combos (D : Int) k 0 []).take i ++ (combos (D : Int) k 0 []).drop (i + 1)) := fun g hg => by
    rcases List.mem_append.1 hg with hg | hg
    · exact cpl_fm g (List.mem_of_mem_take hg)
    · exact cpl_fm g (List.mem_of_mem_drop hg)
  by_cases he : k = D
  · subst he
    refine checkV_bad fun hg => ?_
    obtain ⟨⟨_, _, _, g0, hg0, _⟩, _⟩ := hg
    have h1 := (List.getElem?_eq_some_iff.1 hg0).1
    have h2 := ch_I1 0 0
    have : ch k k = 1 := by
      have := ch_symm k k 0 (by omega)
      rw [Nat.add_zero, ch_0] at this
      exact this
    omega
  · obtain ⟨j, rfl⟩ : ∃ j, k = j + 1 := ⟨k - 1, by omega⟩
    obtain ⟨c1, c2⟩ := cpl_fm (D := D) (k := j + 1) _ (List.getElem_mem hi)
    obtain ⟨b, hb, hbm⟩ := exists_not_mem (D := D) (g := (combos (D : Int) (j + 1) 0 [])[i]) (by omega)
    obtain ⟨a, ha⟩ : ∃ a, a ∈ (combos (D : Int) (j + 1) 0 [])[i] := by
      cases hx : (combos (D : Int) (j + 1) 0 [])[i] with
      | nil => rw [hx] at c1; cases c1
      | cons x s => exact ⟨x, by simp⟩
    have ham := c2.mem a ha
    obtain ⟨a', rfl⟩ : ∃ a' : Nat, a = (a' : Int) := ⟨a.toNat, by omega⟩
    refine check_unbal hfm hD2 (by omega) a' b (by omega) hb fun e => ?_
    have h1 := without_shC (combos (D : Int) (j + 1) 0 []) hi (a' : Int) (a' : Int)
    have h2 := without_shC (combos (D : Int) (j + 1) 0 []) hi (b : Int) (b : Int)
    rw [cpl_one (by omega), show shQ (a' : Int) (a' : Int) (combos (D : Int) (j + 1) 0 [])[i] = true by unfold shQ; rw [decide_eq_true ha]; rfl] at h1
    rw [cpl_one hb, show shQ (b : Int) (b : Int) (combos (D : Int) (j + 1) 0 [])[i] = false by unfold shQ; rw [decide_eq_false hbm]; rfl] at h2
    simp only [cond_true, cond_false] at h1 h2
    omega
end Go.Am.C07
namespace Go.Am.C07
open Go Go.Am
variable {E : Nat → Option AFn} {Y : Nat → List Value → FM → Nat → OR FM}
theorem rcount_L0 {m : FM} {n : Nat} (D : Int) (k : Nat) (hk : (k : Int) ≤ D) (hD : D ≤ 60) (r : Value) (y3 y4 y5 : Value) (ys : List Value) {Q : AX → List Value → FM → Nat → Nat → Prop} (z : Int)
    (hR : ∀ e, Q (.ret (.int .i64 z)) e m n 0) (hQ : Q (.exit 0) (r :: .int .i64 z :: y3 :: y4 :: y5 :: .int .i64 D :: .int .i64 (k : Int) :: ys) m n 0) :
    ∀ j i, i + j = k → ∀ c : Int, 0 ≤ c → c ≤ 1099511627776 → z = Proofs.St.cnt D j (i : Int) c → Gv (execW PG E Y ac25L0 (r :: .int .i64 c :: .int .i64 (i : Int) :: y3 :: y4 :: y5 :: .int .i64 D :: .int .i64 (k : Int) :: ys) m n) Q := by
  intro j
  induction j with
  | zero =>
    intro i hi c hc0 hc1 hz
    have hlt : ¬ ((i : Int) < (k : Int)) := by omega
    have hzc : z = c := hz
    subst hzc
    refine wr_loopN (L := ac25L0) (b := ac25L0b) rfl ?_
    simp only [ac25L0b]
    simp (implicitDefEqProofs := false) (disch := omega) only [W2, opds, Nat.testBit, Nat.reduceAdd, Nat.reduceShiftRight, Nat.reduceAnd, Nat.reduceBNe, Nat.reduceMul, decide_eq_false hlt]
    exact hQ
  | succ j ih =>
    intro i hi c hc0 hc1 hz
    have hlt : (i : Int) < (k : Int) := by omega
    have hdi : 0 ≤ D - (i : Int) := by omega
    have hp0 : 0 ≤ c * (D - (i : Int)) := Int.mul_nonneg hc0 hdi
    have hp1 : c * (D - (i : Int)) ≤ 1099511627776 * 60 := Int.le_trans (Int.mul_le_mul_of_nonneg_right hc1 hdi) (by omega)
    have hq0 : 0 ≤ c * (D - (i : Int)) / ((i : Int) + 1) := Int.ediv_nonneg hp0 (by omega)
    have hq1 : c * (D - (i : Int)) / ((i : Int) + 1) ≤ c * (D - (i : Int)) := Int.ediv_le_self _ hp0
    have hb : IntKind.i64.wrap ((c * (D - (i : Int))).tdiv ((i + 1 : Nat) : Int)) = c * (D - (i : Int)) / ((i : Int) + 1) := by
      rw [Int.tdiv_eq_ediv_of_nonneg hp0, show ((i + 1 : Nat) : Int) = (i : Int) + 1 by omega, wrap_small (by omega) (by omega)]
    rw [Proofs.St.cnt_succ] at hz
    have ih' := ih (i + 1) (by omega)
    have hz' : ((i + 1 : Nat) : Int) = (i : Int) + 1 := by omega
    rw [← hz'] at hz
    have hmul : binV PG .mul 3 (.int .i64 c) (.int .i64 (D - (i : Int))) = some (.int .i64 (c * (D - (i : Int)))) := by
      show some (Value.int .i64 (wrapF .i64 (c * (D - (i : Int))))) = _
      rw [wrapF_eq, wrap_small (by omega) (by omega)]
    rw [← hz'] at hb hq0 hq1
    generalize c * (D - (i : Int)) = pr at *
    generalize pr / ((i + 1 : Nat) : Int) = q at *
    refine wr_loopN (L := ac25L0) (b := ac25L0b) rfl ?_
    simp only [ac25L0b]
    by_cases hbig : q > 1099511627776
    · rw [if_pos hbig] at hz
      subst hz
      simp (implicitDefEqProofs := false) (disch := omega) only [W2, opds, Nat.testBit, Nat.reduceAdd, Nat.reduceShiftRight, Nat.reduceAnd, Nat.reduceBNe, Nat.reduceMul, decide_eq_true hlt, hmul, hb, decide_eq_true hbig]
      exact hR _
    · rw [if_neg hbig] at hz
      simp (implicitDefEqProofs := false) (disch := omega) only [W2, opds, Nat.testBit, Nat.reduceAdd, Nat.reduceShiftRight, Nat.reduceAnd, Nat.reduceBNe, Nat.reduceMul, decide_eq_true hlt, hmul, hb, decide_eq_false hbig]
      exact wr_end (ih' q hq0 (by omega) hz) fun X e m n w hq => by simpa only [zero_lor'] using hq
theorem rcount_spec (hE : E 25 = some ac25) (m : FM) (n : Nat) (D : Int) (k : Nat) (hk : (k : Int) ≤ D) (hD : D ≤ 60) : Pure (callW PG E Y 25 [.int .i64 D, .int .i64 (k : Int)] m n) m n (.int .i64 (Proofs.St.cnt D k 0 1)) := by
  refine pure_spec hE rfl rfl ?_
  simp only [ac25]
  simp (implicitDefEqProofs := false) (disch := omega) only [W2, opds, Nat.testBit, Nat.reduceAdd, Nat.reduceShiftRight, Nat.reduceAnd, Nat.reduceBNe, Nat.reduceMul]
  refine wr_kont (rcount_L0 D k hk hD _ _ _ _ [] (Proofs.St.cnt D k 0 1) (fun e => ?_) ?_ k 0 (by omega) 1 (by omega) (by omega) rfl)
  · intro rr
    simp (implicitDefEqProofs := false) (disch := omega) only [W2, opds, Nat.testBit, Nat.reduceAdd, Nat.reduceShiftRight, Nat.reduceAnd, Nat.reduceBNe, Nat.reduceMul]
  · intro rr
    simp (implicitDefEqProofs := false) (disch := omega) only [W2, opds, Nat.testBit, Nat.reduceAdd, Nat.reduceShiftRight, Nat.reduceAnd, Nat.reduceBNe, Nat.reduceMul]
theorem rCount_spec (hE : E 12 = some ac12) (h25 : E 25 = some ac25) (m : FM) (n : Nat) (D K : Int) (hK : 0 ≤ K) (hKD : K ≤ D) (hD : D ≤ 60) : Pure (callW PG E Y 12 [.int .i64 D, .int .i64 K] m n) m n (.int .i64 (cplN D K)) := by
  refine pure_spec hE rfl rfl ?_
  simp only [ac12]
  have hmin : (if D - K < K then D - K else K) = ((min K.toNat (D.toNat - K.toNat) : Nat) : Int) := by split <;> omega
  simp (implicitDefEqProofs := false) (disch := omega) only [W2, opds, Nat.testBit, Nat.reduceAdd, Nat.reduceShiftRight, Nat.reduceAnd, Nat.reduceBNe, Nat.reduceMul, t_purm, t_min, hmin]
  refine use_pure (rcount_spec h25 _ _ D _ (by omega) hD) fun rr => ?_
  simp (implicitDefEqProofs := false) (disch := omega) only [W2, opds, Nat.testBit, Nat.reduceAdd, Nat.reduceShiftRight, Nat.reduceAnd, Nat.reduceBNe, Nat.reduceMul]
  rfl
theorem t_purb (P : Program) (rec : Nat → List Value → FM → Nat → OR FM) (e : List Value) (m : FM) (n : Nat) (op : BinOp) (t : Nat) (xs : List Opd) : stepA P rec e m n (.pur (.bit op t) xs) = valO m n (purV P (.bit op t) (evs e xs)) := rfl
theorem b_shr (z : Nat) : purV PG (.bit .shr 45) [.int .u16 (z : Int), .int .u64 8] = some (.int .u16 ((z / 256 : Nat) : Int)) := by
  show some (Value.int .u16 ((z : Int).fdiv (2 ^ (min (8 : Int).toNat 16)))) = _
  have e : (2 : Int) ^ (min (8 : Int).toNat 16) = 256 := by decide
  rw [e, Int.fdiv_eq_ediv_of_nonneg _ (by omega)]
  rfl
theorem b_and (z : Nat) (hz : z < 65536) : purV PG (.bit .and 45) [.int .u16 (z : Int), .int .u16 255] = some (.int .u16 ((z % 256 : Nat) : Int)) := by
  show some (Value.int .u16 (IntKind.u16.wrap ((BitVec.ofInt 16 (z : Int) &&& BitVec.ofInt 16 255).toNat : Int))) = _
  have e : (BitVec.ofInt 16 (z : Int) &&& BitVec.ofInt 16 255).toNat = z % 256 := by
    rw [BitVec.toNat_and]
    have h1 : (BitVec.ofInt 16 (z : Int)).toNat = z := by
      rw [BitVec.toNat_ofInt]
      omega
    have h2 : (BitVec.ofInt 16 255).toNat = 2 ^ 8 - 1 := by decide
    rw [h1, h2, Nat.and_two_pow_sub_one_eq_mod]
  rw [e]
  congr 2
  show ((z % 256 : Nat) : Int) % 65536 = _
  omega
theorem conv_u16 {q : Nat} (h : q < 65536) : convV .i64 (.int .u16 (q : Int)) = some (.int .i64 (q : Int)) := by
  show some (Value.int .i64 (wrapF .i64 (q : Int))) = _
  rw [wrapF_eq, wrap_small (by omega) (by omega)]
theorem small_spec (hE : E 22 = some ac22) (m : FM) (n : Nat) (z : Nat) (hz : z < 65536) : Pure (callW PG E Y 22 [.int .u16 (z : Int)] m n) m n (.tuple #[.int .i64 ((2 + (z / 256) % 7 : Nat) : Int), .int .i64 ((2 + (z % 256) % (1 + (z / 256) % 7) : Nat) : Int)]) := by
  refine pure_spec hE rfl rfl ?_
  simp only [ac22]
  have h1 : z / 256 < 256 := by omega
  have h3 : z / 256 % 7 < 7 := by omega
  have h4 : z % 256 < 256 := by omega
  have r1 := fun (t : Nat) => binV_rem_nat (t := t) (a := z / 256) (b := 7) (by omega)
  have r2 := fun (t : Nat) => binV_rem_nat (t := t) (a := z % 256) (b := 1 + z / 256 % 7) (by omega)
  have bs := b_shr z
  have ba := b_and z hz
  have c1 := conv_u16 (q := z / 256) (by omega)
  have c2 := conv_u16 (q := z % 256) (by omega)
  generalize z / 256 = a at *
  generalize z % 256 = b at *
  have h5 : b % (1 + a % 7) < 7 := by have := Nat.mod_lt b (show 0 < 1 + a % 7 by omega); omega
  generalize hc : a % 7 = c at *
  simp (implicitDefEqProofs := false) (disch := omega) only [W2, opds, Nat.testBit, Nat.reduceAdd, Nat.reduceShiftRight, Nat.reduceAnd, Nat.reduceBNe, Nat.reduceMul, t_purb, bs, ba, c1, c2, r1, r2]
  rw [hc, show 2 + c - 1 = 1 + c by omega, wrap_small (by omega) (by omega)]
end Go.Am.C07
namespace Go.Am.C07
open Go Go.Am Go.Am.V
variable {E : Nat → Option AFn} {Y : Nat → List Value → FM → Nat → OR FM}
theorem cpl_bad (T : En E Y) {D K : Int} (h : cplBad D K) (m : FM) (n : Nat) : Pure (callW PG E Y 11 [.int .i64 D, .int .i64 K] m n) m n (.tuple #[.agg #[.int .i64 0, .slice none 0 0], .int .i64 1]) := by
  rw [callW_Y T.e11]
  exact ⟨0, T.cpl _ _ _ _ _ _ _ _ _ (show cplR D K m n = .ok (zeroT 1) m n 0 0 by unfold cplR; rw [if_pos h])⟩
theorem cpl_lim (T : En E Y) {D K : Int} (h : ¬ cplBad D K) (hl : 4096 < cplN D K) (m : FM) (n : Nat) : Pure (callW PG E Y 11 [.int .i64 D, .int .i64 K] m n) m n (.tuple #[.agg #[.int .i64 0, .slice none 0 0], .int .i64 7]) := by
  rw [callW_Y T.e11]
  exact ⟨0, T.cpl _ _ _ _ _ _ _ _ _ (show cplR D K m n = .ok (zeroT 7) m n 0 0 by unfold cplR; rw [if_neg h, if_pos hl])⟩
theorem cplN_ch {D k : Nat} (hk : k ≤ D) (h : cplN D k ≤ 4096) : cplN D k = (ch D k : Int) := by
  have := cnt_small hk h
  exact this
theorem cpl_fit {D k : Nat} (hk2 : 2 ≤ k) (hk : k ≤ D) (h : cplN D k ≤ 4096) : cplFit (cplL D k) := by
  have h1 := cplN_ch hk h
  have h2 := ch_pos hk
  have h3 := cpl_len D k
  refine ⟨fun e => ?_, ?_, fun g hg e => ?_⟩
  · have h3' : (cplL D k).length = ch D k := h3
    rw [e] at h3'
    simp at h3'
    omega
  · show (combos (D : Int) k 0 []).length ≤ 4096
    omega
  · have := (cpl_fm (D := D) (k := k) g hg).1
    rw [e] at this
    simp at this
    omega
def RowsUp (n : Nat) (M : FM) (N : Nat) (v : Value) (gs : List (List Int)) : Prop := ∀ M' : FM, (∀ b, n ≤ b → b < N → M' b = M b) → Rows M' N v gs
theorem RowsUp.rows {n : Nat} {M : FM} {N : Nat} {v : Value} {gs : List (List Int)} (h : RowsUp n M N v gs) : Rows M N v gs := h M fun _ _ _ => rfl
theorem cpl_rows (L : List (List Int)) (hL : cplFit L) (m : FM) (n : Nat) : RowsUp n (layB (cplB n L) n m) (n + (cplB n L).length) (.slice (some ⟨n + L.length, 0, none⟩) L.length UNK) L := by
  intro M' hM'
  have hlen := cplB_len n L
  have layB_new : ∀ {i : Nat}, i < (cplB n L).length → M' (n + i) = (cplB n L)[i]? := fun {i} hi => (hM' _ (by omega) (by omega)).trans (C07.layB_new hi)
  refine ⟨(List.range L.length).map fun i => .slice (some ⟨n + i, 0, none⟩) (L.getD i []).length UNK, .inr (.inl ⟨n + L.length, 0, UNK, _, false, false, by simp, by omega, ?_, fun i x hx => by rw [Nat.zero_add]; exact hx⟩), by simp, fun i x g hx hg => ?_⟩
  · rw [layB_new (by omega)]
    unfold cplB
    rw [List.getElem?_append_right (by simp), List.length_map, Nat.sub_self]; rfl
  · have hi : i < L.length := (List.getElem?_eq_some_iff.1 hg).1
    rw [List.getElem?_map, List.getElem?_range hi] at hx
    injection hx with hx
    subst hx
    have hgd : L.getD i [] = g := by rw [List.getD_eq_getElem?_getD, hg]; rfl
    dsimp only
    rw [hgd]
    refine .inr (.inl ⟨n + i, 0, UNK, g.map (Value.int .i64), false, false, by rw [List.length_map], by omega, ?_, fun j x hx => by rw [Nat.zero_add]; exact hx⟩)
    rw [layB_new (by omega)]
    unfold cplB
    rw [List.getElem?_append_left (by rw [List.length_map]; exact hi), List.getElem?_map, hg]; rfl
theorem cpl_ok (T : En E Y) {D k : Nat} (hb : ¬ cplBad D k) (hl : ¬ 4096 < cplN D k) (m : FM) (n : Nat) :
    Rt (callW PG E Y 11 [.int .i64 (D : Int), .int .i64 (k : Int)] m n) (Kpt m n fun v M' N' => ∃ rv, v = .tuple #[.agg #[.int .i64 (D : Int), rv], .int .i64 0] ∧ RowsUp n M' N' rv (cplL D k)) := by
  have hb' := hb
  unfold cplBad at hb'
  have hfit := cpl_fit (D := D) (k := k) (by omega) (by omega) (by omega)
  have hr := T.cpl (D : Int) (k : Int) m n _ _ _ _ _ (show cplR (D : Int) (k : Int) m n = _ by unfold cplR; rw [if_neg hb, if_neg hl, if_pos hfit])
  rw [callW_Y T.e11, hr]
  refine ⟨Nat.le_add_right _ _, fun b hb => layB_old hb, fun j hj => ?_, _, rfl, cpl_rows _ hfit m n⟩
  apply Nat.eq_of_testBit_eq
  intro i
  rw [mod_test, newW_test, Nat.zero_testBit]
  by_cases h1 : i < j
  · have : decide (n ≤ i) = false := decide_eq_false (by omega)
    simp [this]
  · simp [h1]
structure RowsX (M : FM) (N rb : Nat) (vs : List Value) (gs : List (List Int)) : Prop where
  lt : rb < N
  blk : M rb = some (.cells vs 1 false false)
  len : vs.length = gs.length
  row : ∀ (i : Nat) x g, vs[i]? = some x → gs[i]? = some g → Ints M N x g
theorem cpl_ok' (T : En E Y) {D k : Nat} (hb : ¬ cplBad D k) (hl : ¬ 4096 < cplN D k) (m : FM) (n : Nat) :
    Rt (callW PG E Y 11 [.int .i64 (D : Int), .int .i64 (k : Int)] m n) (Kpt m n fun v M' N' => ∃ rb vs, v = .tuple #[.agg #[.int .i64 (D : Int), .slice (some ⟨rb, 0, none⟩) (cplL D k).length UNK], .int .i64 0] ∧ RowsX M' N' rb vs (cplL D k)) := by
  have hb' := hb
  unfold cplBad at hb'
  have hfit := cpl_fit (D := D) (k := k) (by omega) (by omega) (by omega)
  have hr := T.cpl (D : Int) (k : Int) m n _ _ _ _ _ (show cplR (D : Int) (k : Int) m n = _ by unfold cplR; rw [if_neg hb, if_neg hl, if_pos hfit])
  rw [callW_Y T.e11, hr]
  have hlen := cplB_len n (cplL D k)
  refine ⟨Nat.le_add_right _ _, fun b hb => layB_old hb, fun j hj => ?_, n + (cplL D k).length, (List.range (cplL D k).length).map fun i => .slice (some ⟨n + i, 0, none⟩) ((cplL D k).getD i []).length UNK, rfl, by omega, ?_, by simp, fun i x g hx hg => ?_⟩
  · apply Nat.eq_of_testBit_eq
    intro i
    rw [mod_test, newW_test, Nat.zero_testBit]
    by_cases h1 : i < j
    · have : decide (n ≤ i) = false := decide_eq_false (by omega)
      simp [this]
    · simp [h1]
  · rw [layB_new (by omega)]
    unfold cplB
    rw [List.getElem?_append_right (by simp), List.length_map, Nat.sub_self]; rfl
  · have hi : i < (cplL D k).length := (List.getElem?_eq_some_iff.1 hg).1
    rw [List.getElem?_map, List.getElem?_range hi] at hx
    injection hx with hx
    subst hx
    have hgd : (cplL (D : Int) (k : Int)).getD i [] = g := by rw [List.getD_eq_getElem?_getD, hg]; rfl
    dsimp only
    rw [hgd]
    refine .inr (.inl ⟨n + i, 0, UNK, g.map (Value.int .i64), false, false, by rw [List.length_map], by omega, ?_, fun j x hx => by rw [Nat.zero_add]; exact hx⟩)
    rw [layB_new (by omega)]
    unfold cplB
    rw [List.getElem?_append_left (by rw [List.length_map]; exact hi), List.getElem?_map, hg]; rfl
theorem RowsX.rows {M : FM} {N rb : Nat} {vs : List Value} {gs : List (List Int)} (h : RowsX M N rb vs gs) : Rows M N (.slice (some ⟨rb, 0, none⟩) gs.length UNK) gs :=
  ⟨vs, .inr (.inl ⟨rb, 0, UNK, vs, false, false, by rw [h.len], h.lt, h.blk, fun i x hx => by rw [Nat.zero_add]; exact hx⟩), h.len, h.row⟩
theorem Ints.one' {M : FM} {N : Nat} {v : Value} {xs : List Int} (h : Ints M N v xs) : Am.one v = true := by
  rcases h with ⟨rfl, _⟩ | ⟨b, o, c, cs, opn, wr, rfl, _⟩ | ⟨rfl, _⟩ <;> rfl
theorem RowsX.ones {M : FM} {N rb : Nat} {vs : List Value} {gs : List (List Int)} (h : RowsX M N rb vs gs) : vs.all Am.one = true := by
  rw [List.all_eq_true]
  intro x hx
  obtain ⟨i, hi, rfl⟩ := List.getElem_of_mem hx
  exact Ints.one' (h.row i _ _ (List.getElem?_eq_getElem hi) (List.getElem?_eq_getElem (by rw [← h.len]; exact hi)))
end Go.Am.C07
namespace Go.Am.C07
open Go Go.Am
theorem land_frz {w k b : Nat} (h : Nat.mod w (bit k) = 0) (hb : b < k) : Nat.land w (bit b) = 0 := by
  apply Nat.eq_of_testBit_eq
  intro i
  show (w &&& bit b).testBit i = _
  rw [Nat.testBit_and, bit_test, Nat.zero_testBit]
  by_cases hi : b = i
  · subst hi; rw [mod_bit h b hb]; rfl
  · simp [hi]
theorem cplN_small : ∀ v, v < 9 → ∀ k, k < 9 → k ≤ v → cplN ((v : Nat) : Int) ((k : Nat) : Int) ≤ 4096 := by decide +kernel
theorem ch_small : ∀ v, v < 9 → ∀ k, k < 9 → ch v k ≤ 70 := by decide +kernel
theorem ch_bk {v k : Nat} (hk : 1 ≤ k) (hv : 1 ≤ v) : ch v k * k = v * ch (v - 1) (k - 1) := by
  obtain ⟨k, rfl⟩ : ∃ j, k = j + 1 := ⟨k - 1, by omega⟩
  obtain ⟨v, rfl⟩ : ∃ j, v = j + 1 := ⟨v - 1, by omega⟩
  rw [Nat.mul_comm, ch_I1]; rfl
theorem ch_rk {v k : Nat} (hk : 2 ≤ k) (hv : 2 ≤ v) : ch (v - 1) (k - 1) * (k - 1) = ch (v - 2) (k - 2) * (v - 1) := by
  have := ch_bk (v := v - 1) (k := k - 1) (by omega) (by omega)
  rw [this, Nat.mul_comm, show v - 1 - 1 = v - 2 by omega, show k - 1 - 1 = k - 2 by omega]
theorem conv_u8 {q : Nat} (h : q < 256) : convV .i64 (.int .u8 (q : Int)) = some (.int .i64 (q : Int)) := by
  show some (Value.int .i64 (wrapF .i64 (q : Int))) = _
  rw [show wrapF .i64 (q : Int) = (q : Int) from by rw [wrapF_eq]; exact wrap_i64 (by omega) (by omega)]
end Go.Am.C07
namespace Go.Am.C07
open Go Go.Am
variable {E : Nat → Option AFn} {Y : Nat → List Value → FM → Nat → OR FM}
def ChOk (D w : Int) : Prop := 4 ≤ w ∧ w ≤ 16 ∧ w ≤ D ∧ D ≤ 60
def DesR (M : FM) (N : Nat) (dv : Value) (D : Int) (gs : List (List Int)) : Prop := ∃ rv, dv = .agg #[.int .i64 D, rv] ∧ Rows M N rv gs
abbrev ChR (E : Nat → Option AFn) (Y : Nat → List Value → FM → Nat → OR FM) (f : Nat) (D w e D' : Int) (gs : List (List Int)) (m : FM) (n : Nat) : Prop :=
  Rt (callW PG E Y f [.int .i64 D, .int .i64 w] m n) (Kpt m n fun v M' N' => ∃ dv, v = .tuple #[dv, .int .i64 e] ∧ DesR M' N' dv D' gs)
theorem choose_bad (T : En E Y) {D w : Int} (h : ¬ ChOk D w) (m : FM) (n : Nat) : ChR E Y 18 D w 1 0 [] m n := by
  refine kept_specQ T.e18 rfl fun Q hQ => ?_
  simp only [ac18]
  unfold ChOk at h
  have fza : Nat.mod (bit n) (bit n) = 0 := frz_bit (Nat.le_refl _)
  have hq : ∀ (M : FM) (N w2 : Nat) (e : List Value), n ≤ N → (∀ b, b < n → M b = m b) → Nat.mod w2 (bit n) = 0 → Q (.ret (.tuple #[.agg #[.int .i64 0, .slice none 0 0], .int .i64 1])) e M N w2 := fun M N w2 e h1 h2 h3 =>
    hQ _ _ _ _ _ h1 h2 h3 rfl ⟨_, rfl, _, rfl, RowsZ.rows (RowsZ.nil M N N)⟩
  by_cases h1 : w < 4
  · simp (implicitDefEqProofs := false) (disch := omega) only [W2, opds, Nat.testBit, Nat.reduceAdd, Nat.reduceShiftRight, Nat.reduceAnd, Nat.reduceBNe, Nat.reduceMul, fput_same]
    exact hq _ _ _ _ (by omega) (fun b hb => fput_ne _ _ _ _ (by omega)) (by simp only [frz_iff]; exact ⟨fza, fza⟩)
  by_cases h2 : 16 < w
  · simp (implicitDefEqProofs := false) (disch := omega) only [W2, opds, Nat.testBit, Nat.reduceAdd, Nat.reduceShiftRight, Nat.reduceAnd, Nat.reduceBNe, Nat.reduceMul, fput_same]
    exact hq _ _ _ _ (by omega) (fun b hb => fput_ne _ _ _ _ (by omega)) (by simp only [frz_iff]; exact ⟨fza, fza⟩)
  by_cases h3 : D < w
  · simp (implicitDefEqProofs := false) (disch := omega) only [W2, opds, Nat.testBit, Nat.reduceAdd, Nat.reduceShiftRight, Nat.reduceAnd, Nat.reduceBNe, Nat.reduceMul, fput_same]
    exact hq _ _ _ _ (by omega) (fun b hb => fput_ne _ _ _ _ (by omega)) (by simp only [frz_iff]; exact ⟨fza, fza⟩)
  have h4 : 60 < D := by omega
  simp (implicitDefEqProofs := false) (disch := omega) only [W2, opds, Nat.testBit, Nat.reduceAdd, Nat.reduceShiftRight, Nat.reduceAnd, Nat.reduceBNe, Nat.reduceMul, fput_same]
  exact hq _ _ _ _ (by omega) (fun b hb => fput_ne _ _ _ _ (by omega)) (by simp only [frz_iff]; exact ⟨fza, fza⟩)
theorem cells_func (f : FuncId) (a c : Array Value) : (Value.func (.func f) a c).cells = #[Value.func (.func f) a c] := rfl
theorem one_func (f : Fn) (a c : Array Value) : Am.one (.func f a c) = true := rfl
def kindC (P w : Nat) : List Value := [.int .i64 ((P - w + 1 : Nat) : Int), .int .i64 ((w - 1 : Nat) : Int), .func (.func 27) #[] #[], .int .i64 (P : Int), .int .i64 (w : Int), .func (.func 28) #[] #[]]
theorem kinds_2 {M : FM} {N : Nat} (x0 y2 y4 : Value) (ys : List Value) {Q : AX → List Value → FM → Nat → Nat → Prop} (hQ : Q (.exit 0) (x0 :: y2 :: .int .i64 ((2 : Nat) : Int) :: y4 :: ys) M N 0) : Gv (execW PG E Y ac18L0 (x0 :: .int .i64 ((2 : Nat) : Int) :: y2 :: .int .i64 ((2 : Nat) : Int) :: y4 :: ys) M N) Q := by
  refine wr_loopN (L := ac18L0) (b := ac18L0b) rfl ?_
  simp only [ac18L0b]
  simp (implicitDefEqProofs := false) (disch := omega) only [W2, opds, Nat.testBit, Nat.reduceAdd, Nat.reduceShiftRight, Nat.reduceAnd, Nat.reduceBNe, Nat.reduceMul]
  exact hQ
variable {gs : List (List Int)}
theorem callv0 (rec : Nat → List Value → FM → Nat → OR FM) (args : List Value) (m : FM) (n f : Nat) : callV rec args m n (.func (.func f) #[] #[]) = rec f args m n := by
  show rec f ([] ++ args ++ []) m n = _
  rw [List.append_nil]; rfl
variable {gs : List (List Int)}
theorem kind_skip0 {M : FM} {N kb rb P w D : Nat} (hk : kb < N) (hM : M kb = some (.cells (kindC P w) 3 false true)) (x0 y2 y5 y6 y9 : Value) {Q : AX → List Value → FM → Nat → Nat → Prop} (h : ¬ (P - w + 1 = D))
   (hQ : ∀ M' w1, (∀ b, b < N → M' b = M b) → (∀ j, j ≤ N → Nat.mod w1 (bit j) = 0) → Gv (execW PG E Y ac18L0 (x0 :: .int .i64 ((1 : Nat) : Int) :: y2 :: .int .i64 ((2 : Nat) : Int) :: .slice (some ⟨kb, 0, none⟩) 2 2 :: y5 :: y6 :: .pointer (some ⟨rb, 0, none⟩) :: .int .i64 (D : Int) :: y9 :: []) M' (N + 1)) fun X e m n w => Q X e m n (Nat.lor w1 w)) :
   Gv (execW PG E Y ac18L0 (x0 :: .int .i64 ((0 : Nat) : Int) :: y2 :: .int .i64 ((2 : Nat) : Int) :: .slice (some ⟨kb, 0, none⟩) 2 2 :: y5 :: y6 :: .pointer (some ⟨rb, 0, none⟩) :: .int .i64 (D : Int) :: y9 :: []) M N) Q := by
  refine wr_loopN (L := ac18L0) (b := ac18L0b) rfl ?_
  simp only [ac18L0b]
  unfold kindC at hM
  simp (implicitDefEqProofs := false) (disch := omega) only [W2, opds, Nat.testBit, Nat.reduceAdd, Nat.reduceShiftRight, Nat.reduceAnd, Nat.reduceBNe, Nat.reduceMul, hM, one_func]
  exact wr_end (hQ _ (Nat.lor (bit N) (bit N)) (fun b hb => fput_ne _ _ _ _ (by omega)) (fun j hj => by simp only [frz_iff]; exact ⟨frz_bit hj, frz_bit hj⟩)) fun X e m n w hq => hq
theorem kind_take0 {M : FM} {N kb rb P w D : Nat} (hk : kb < N) (hrb : rb < N) (hM : M kb = some (.cells (kindC P w) 3 false true)) (hr : M rb = some (.cells [.int .i64 0, .slice none 0 0] 0 false true)) (x0 y2 y5 y6 y9 : Value) {Q : AX → List Value → FM → Nat → Nat → Prop} (h : P - w + 1 = D)
   (hf : ∀ m n, Rt (callW PG E Y 27 [.int .i64 ((w - 1 : Nat) : Int)] m n) (Kpt m n fun v M' N' => ∃ dv, v = .tuple #[dv, .int .i64 0] ∧ DesV M' n N' dv (D : Int) gs))
   (hQ : ∀ rv M' N' w1 e, N ≤ N' → (∀ b, b < N → b ≠ rb → M' b = M b) → (∀ j, j ≤ rb → Nat.mod w1 (bit j) = 0) → Rows M' N' rv gs → Q (.ret (.tuple #[.agg #[.int .i64 (D : Int), rv], .int .i64 0])) e M' N' w1) :
   Gv (execW PG E Y ac18L0 (x0 :: .int .i64 ((0 : Nat) : Int) :: y2 :: .int .i64 ((2 : Nat) : Int) :: .slice (some ⟨kb, 0, none⟩) 2 2 :: y5 :: y6 :: .pointer (some ⟨rb, 0, none⟩) :: .int .i64 (D : Int) :: y9 :: []) M N) Q := by
  refine wr_loopN (L := ac18L0) (b := ac18L0b) rfl ?_
  simp only [ac18L0b]
  unfold kindC at hM
  simp (implicitDefEqProofs := false) (disch := omega) only [W2, opds, Nat.testBit, Nat.reduceAdd, Nat.reduceShiftRight, Nat.reduceAnd, Nat.reduceBNe, Nat.reduceMul, hM, one_func, s_callv, callv0]
  refine use_rt (hf _ _) fun v M1 N1 r1 w1 ⟨n1, m1, f1, dv, hv, rv, hd, hZ⟩ => ?_
  subst hv
  subst hd
  have o1 := hZ.one
  have k1 := m1 rb (by omega)
  rw [fput_ne _ _ _ _ (by omega), hr] at k1
  simp (implicitDefEqProofs := false) (disch := omega) only [W2, opds, Nat.testBit, Nat.reduceAdd, Nat.reduceShiftRight, Nat.reduceAnd, Nat.reduceBNe, Nat.reduceMul, o1, k1]
  refine hQ _ _ _ _ _ (by omega) (fun b hb hne => by rw [fput_ne _ _ _ _ hne, fput_ne _ _ _ _ (by omega), m1 b (by omega), fput_ne _ _ _ _ (by omega)]) (fun j hj => ?_) (RowsZ.frame hZ (by omega) fun b h1 h2 => by rw [fput_ne _ _ _ _ (by omega), fput_ne _ _ _ _ (by omega)]).rows
  simp only [frz_iff]
  exact ⟨⟨⟨frz_bit (by omega), frz_bit (by omega)⟩, ⟨f1 j (by omega), frz_bit (by omega)⟩, frz_bit (by omega)⟩, frz_bit hj⟩
theorem kind_fail0 {M : FM} {N kb rb P w D : Nat} (hk : kb < N) (hM : M kb = some (.cells (kindC P w) 3 false true)) (x0 y2 y5 y6 y9 : Value) {Q : AX → List Value → FM → Nat → Nat → Prop} (h : P - w + 1 = D) {er : Int} (her : er ≠ 0)
   (hf : ∀ m n, Rt (callW PG E Y 27 [.int .i64 ((w - 1 : Nat) : Int)] m n) (Kpt m n fun v M' N' => ∃ dv, v = .tuple #[dv, .int .i64 er] ∧ DesV M' n N' dv 0 []))
   (hQ : ∀ M' N' w1, N ≤ N' → (∀ b, b < N → M' b = M b) → (∀ j, j ≤ N → Nat.mod w1 (bit j) = 0) → Gv (execW PG E Y ac18L0 (x0 :: .int .i64 ((1 : Nat) : Int) :: y2 :: .int .i64 ((2 : Nat) : Int) :: .slice (some ⟨kb, 0, none⟩) 2 2 :: y5 :: y6 :: .pointer (some ⟨rb, 0, none⟩) :: .int .i64 (D : Int) :: y9 :: []) M' N') fun X e m n w => Q X e m n (Nat.lor w1 w)) :
   Gv (execW PG E Y ac18L0 (x0 :: .int .i64 ((0 : Nat) : Int) :: y2 :: .int .i64 ((2 : Nat) : Int) :: .slice (some ⟨kb, 0, none⟩) 2 2 :: y5 :: y6 :: .pointer (some ⟨rb, 0, none⟩) :: .int .i64 (D : Int) :: y9 :: []) M N) Q := by
  refine wr_loopN (L := ac18L0) (b := ac18L0b) rfl ?_
  simp only [ac18L0b]
  unfold kindC at hM
  simp (implicitDefEqProofs := false) (disch := omega) only [W2, opds, Nat.testBit, Nat.reduceAdd, Nat.reduceShiftRight, Nat.reduceAnd, Nat.reduceBNe, Nat.reduceMul, hM, one_func, s_callv, callv0]
  refine use_rt (hf _ _) fun v M1 N1 r1 w1 ⟨n1, m1, f1, dv, hv, rv, hd, hZ⟩ => ?_
  subst hv
  subst hd
  have o1 := hZ.one
  have her' : ¬ er = 0 := her
  simp (implicitDefEqProofs := false) (disch := omega) only [W2, opds, Nat.testBit, Nat.reduceAdd, Nat.reduceShiftRight, Nat.reduceAnd, Nat.reduceBNe, Nat.reduceMul, o1, decide_eq_false her']
  refine wr_end (hQ _ _ (Nat.lor (Nat.lor (bit N) (bit N)) (Nat.lor (Nat.lor w1 (bit N1)) (bit N1))) (by omega) (fun b hb => by rw [fput_ne _ _ _ _ (by omega), m1 b (by omega), fput_ne _ _ _ _ (by omega)]) (fun j hj => ?_)) fun X e m n w hq => hq
  simp only [frz_iff]
  exact ⟨⟨frz_bit hj, frz_bit hj⟩, ⟨f1 j (by omega), frz_bit (by omega)⟩, frz_bit (by omega)⟩
theorem kind_skip1 {M : FM} {N kb rb P w D : Nat} (hk : kb < N) (hM : M kb = some (.cells (kindC P w) 3 false true)) (x0 y2 y5 y6 y9 : Value) {Q : AX → List Value → FM → Nat → Nat → Prop} (h : ¬ (P = D))
   (hQ : ∀ M' w1, (∀ b, b < N → M' b = M b) → (∀ j, j ≤ N → Nat.mod w1 (bit j) = 0) → Gv (execW PG E Y ac18L0 (x0 :: .int .i64 ((2 : Nat) : Int) :: y2 :: .int .i64 ((2 : Nat) : Int) :: .slice (some ⟨kb, 0, none⟩) 2 2 :: y5 :: y6 :: .pointer (some ⟨rb, 0, none⟩) :: .int .i64 (D : Int) :: y9 :: []) M' (N + 1)) fun X e m n w => Q X e m n (Nat.lor w1 w)) :
   Gv (execW PG E Y ac18L0 (x0 :: .int .i64 ((1 : Nat) : Int) :: y2 :: .int .i64 ((2 : Nat) : Int) :: .slice (some ⟨kb, 0, none⟩) 2 2 :: y5 :: y6 :: .pointer (some ⟨rb, 0, none⟩) :: .int .i64 (D : Int) :: y9 :: []) M N) Q := by
  refine wr_loopN (L := ac18L0) (b := ac18L0b) rfl ?_
  simp only [ac18L0b]
  unfold kindC at hM
  simp (implicitDefEqProofs := false) (disch := omega) only [W2, opds, Nat.testBit, Nat.reduceAdd, Nat.reduceShiftRight, Nat.reduceAnd, Nat.reduceBNe, Nat.reduceMul, hM, one_func]
  exact wr_end (hQ _ (Nat.lor (bit N) (bit N)) (fun b hb => fput_ne _ _ _ _ (by omega)) (fun j hj => by simp only [frz_iff]; exact ⟨frz_bit hj, frz_bit hj⟩)) fun X e m n w hq => hq
theorem kind_take1 {M : FM} {N kb rb P w D : Nat} (hk : kb < N) (hrb : rb < N) (hM : M kb = some (.cells (kindC P w) 3 false true)) (hr : M rb = some (.cells [.int .i64 0, .slice none 0 0] 0 false true)) (x0 y2 y5 y6 y9 : Value) {Q : AX → List Value → FM → Nat → Nat → Prop} (h : P = D)
   (hf : ∀ m n, Rt (callW PG E Y 28 [.int .i64 ((w : Nat) : Int)] m n) (Kpt m n fun v M' N' => ∃ dv, v = .tuple #[dv, .int .i64 0] ∧ DesV M' n N' dv (D : Int) gs))
   (hQ : ∀ rv M' N' w1 e, N ≤ N' → (∀ b, b < N → b ≠ rb → M' b = M b) → (∀ j, j ≤ rb → Nat.mod w1 (bit j) = 0) → Rows M' N' rv gs → Q (.ret (.tuple #[.agg #[.int .i64 (D : Int), rv], .int .i64 0])) e M' N' w1) :
   Gv (execW PG E Y ac18L0 (x0 :: .int .i64 ((1 : Nat) : Int) :: y2 :: .int .i64 ((2 : Nat) : Int) :: .slice (some ⟨kb, 0, none⟩) 2 2 :: y5 :: y6 :: .pointer (some ⟨rb, 0, none⟩) :: .int .i64 (D : Int) :: y9 :: []) M N) Q := by
  refine wr_loopN (L := ac18L0) (b := ac18L0b) rfl ?_
  simp only [ac18L0b]
  unfold kindC at hM
  simp (implicitDefEqProofs := false) (disch := omega) only [W2, opds, Nat.testBit, Nat.reduceAdd, Nat.reduceShiftRight, Nat.reduceAnd, Nat.reduceBNe, Nat.reduceMul, hM, one_func, s_callv, callv0]
  refine use_rt (hf _ _) fun v M1 N1 r1 w1 ⟨n1, m1, f1, dv, hv, rv, hd, hZ⟩ => ?_
  subst hv
  subst hd
  have o1 := hZ.one
  have k1 := m1 rb (by omega)
  rw [fput_ne _ _ _ _ (by omega), hr] at k1
  simp (implicitDefEqProofs := false) (disch := omega) only [W2, opds, Nat.testBit, Nat.reduceAdd, Nat.reduceShiftRight, Nat.reduceAnd, Nat.reduceBNe, Nat.reduceMul, o1, k1]
  refine hQ _ _ _ _ _ (by omega) (fun b hb hne => by rw [fput_ne _ _ _ _ hne, fput_ne _ _ _ _ (by omega), m1 b (by omega), fput_ne _ _ _ _ (by omega)]) (fun j hj => ?_) (RowsZ.frame hZ (by omega) fun b h1 h2 => by rw [fput_ne _ _ _ _ (by omega), fput_ne _ _ _ _ (by omega)]).rows
  simp only [frz_iff]
  exact ⟨⟨⟨frz_bit (by omega), frz_bit (by omega)⟩, ⟨f1 j (by omega), frz_bit (by omega)⟩, frz_bit (by omega)⟩, frz_bit hj⟩
theorem kind_fail1 {M : FM} {N kb rb P w D : Nat} (hk : kb < N) (hM : M kb = some (.cells (kindC P w) 3 false true)) (x0 y2 y5 y6 y9 : Value) {Q : AX → List Value → FM → Nat → Nat → Prop} (h : P = D) {er : Int} (her : er ≠ 0)
   (hf : ∀ m n, Rt (callW PG E Y 28 [.int .i64 ((w : Nat) : Int)] m n) (Kpt m n fun v M' N' => ∃ dv, v = .tuple #[dv, .int .i64 er] ∧ DesV M' n N' dv 0 []))
   (hQ : ∀ M' N' w1, N ≤ N' → (∀ b, b < N → M' b = M b) → (∀ j, j ≤ N → Nat.mod w1 (bit j) = 0) → Gv (execW PG E Y ac18L0 (x0 :: .int .i64 ((2 : Nat) : Int) :: y2 :: .int .i64 ((2 : Nat) : Int) :: .slice (some ⟨kb, 0, none⟩) 2 2 :: y5 :: y6 :: .pointer (some ⟨rb, 0, none⟩) :: .int .i64 (D : Int) :: y9 :: []) M' N') fun X e m n w => Q X e m n (Nat.lor w1 w)) :
   Gv (execW PG E Y ac18L0 (x0 :: .int .i64 ((1 : Nat) : Int) :: y2 :: .int .i64 ((2 : Nat) : Int) :: .slice (some ⟨kb, 0, none⟩) 2 2 :: y5 :: y6 :: .pointer (some ⟨rb, 0, none⟩) :: .int .i64 (D : Int) :: y9 :: []) M N) Q := by
  refine wr_loopN (L := ac18L0) (b := ac18L0b) rfl ?_
  simp only [ac18L0b]
  unfold kindC at hM
  simp (implicitDefEqProofs := false) (disch := omega) only [W2, opds, Nat.testBit, Nat.reduceAdd, Nat.reduceShiftRight, Nat.reduceAnd, Nat.reduceBNe, Nat.reduceMul, hM, one_func, s_callv, callv0]
  refine use_rt (hf _ _) fun v M1 N1 r1 w1 ⟨n1, m1, f1, dv, hv, rv, hd, hZ⟩ => ?_
  subst hv
  subst hd
  have o1 := hZ.one
  have her' : ¬ er = 0 := her
  simp (implicitDefEqProofs := false) (disch := omega) only [W2, opds, Nat.testBit, Nat.reduceAdd, Nat.reduceShiftRight, Nat.reduceAnd, Nat.reduceBNe, Nat.reduceMul, o1, decide_eq_false her']
  refine wr_end (hQ _ _ (Nat.lor (Nat.lor (bit N) (bit N)) (Nat.lor (Nat.lor w1 (bit N1)) (bit N1))) (by omega) (fun b hb => by rw [fput_ne _ _ _ _ (by omega), m1 b (by omega), fput_ne _ _ _ _ (by omega)]) (fun j hj => ?_)) fun X e m n w hq => hq
  simp only [frz_iff]
  exact ⟨⟨frz_bit hj, frz_bit hj⟩, ⟨f1 j (by omega), frz_bit (by omega)⟩, frz_bit (by omega)⟩
theorem kind_pass0 {M : FM} {N kb rb P w D : Nat} (hk : kb < N) (hM : M kb = some (.cells (kindC P w) 3 false true)) (x0 y2 y5 y6 y9 : Value) {Q : AX → List Value → FM → Nat → Nat → Prop}
   (h : P - w + 1 = D → ∃ er : Int, er ≠ 0 ∧ ∀ m n, Rt (callW PG E Y 27 [.int .i64 ((w - 1 : Nat) : Int)] m n) (Kpt m n fun v M' N' => ∃ dv, v = .tuple #[dv, .int .i64 er] ∧ DesV M' n N' dv 0 []))
   (hQ : ∀ M' N' w1, N ≤ N' → (∀ b, b < N → M' b = M b) → (∀ j, j ≤ N → Nat.mod w1 (bit j) = 0) → Gv (execW PG E Y ac18L0 (x0 :: .int .i64 ((1 : Nat) : Int) :: y2 :: .int .i64 ((2 : Nat) : Int) :: .slice (some ⟨kb, 0, none⟩) 2 2 :: y5 :: y6 :: .pointer (some ⟨rb, 0, none⟩) :: .int .i64 (D : Int) :: y9 :: []) M' N') fun X e m n w => Q X e m n (Nat.lor w1 w)) :
   Gv (execW PG E Y ac18L0 (x0 :: .int .i64 ((0 : Nat) : Int) :: y2 :: .int .i64 ((2 : Nat) : Int) :: .slice (some ⟨kb, 0, none⟩) 2 2 :: y5 :: y6 :: .pointer (some ⟨rb, 0, none⟩) :: .int .i64 (D : Int) :: y9 :: []) M N) Q := by
  by_cases hD : P - w + 1 = D
  · obtain ⟨er, h1, h2⟩ := h hD
    exact kind_fail0 hk hM _ _ _ _ _ hD h1 h2 hQ
  · exact kind_skip0 hk hM _ _ _ _ _ hD fun M' w1 h1 h2 => hQ M' (N + 1) w1 (Nat.le_succ _) h1 h2
theorem kind_pass1 {M : FM} {N kb rb P w D : Nat} (hk : kb < N) (hM : M kb = some (.cells (kindC P w) 3 false true)) (x0 y2 y5 y6 y9 : Value) {Q : AX → List Value → FM → Nat → Nat → Prop}
   (h : P = D → ∃ er : Int, er ≠ 0 ∧ ∀ m n, Rt (callW PG E Y 28 [.int .i64 ((w : Nat) : Int)] m n) (Kpt m n fun v M' N' => ∃ dv, v = .tuple #[dv, .int .i64 er] ∧ DesV M' n N' dv 0 []))
   (hQ : ∀ M' N' w1, N ≤ N' → (∀ b, b < N → M' b = M b) → (∀ j, j ≤ N → Nat.mod w1 (bit j) = 0) → Gv (execW PG E Y ac18L0 (x0 :: .int .i64 ((2 : Nat) : Int) :: y2 :: .int .i64 ((2 : Nat) : Int) :: .slice (some ⟨kb, 0, none⟩) 2 2 :: y5 :: y6 :: .pointer (some ⟨rb, 0, none⟩) :: .int .i64 (D : Int) :: y9 :: []) M' N') fun X e m n w => Q X e m n (Nat.lor w1 w)) :
   Gv (execW PG E Y ac18L0 (x0 :: .int .i64 ((1 : Nat) : Int) :: y2 :: .int .i64 ((2 : Nat) : Int) :: .slice (some ⟨kb, 0, none⟩) 2 2 :: y5 :: y6 :: .pointer (some ⟨rb, 0, none⟩) :: .int .i64 (D : Int) :: y9 :: []) M N) Q := by
  by_cases hD : P = D
  · obtain ⟨er, h1, h2⟩ := h hD
    exact kind_fail1 hk hM _ _ _ _ _ hD h1 h2 hQ
  · exact kind_skip1 hk hM _ _ _ _ _ hD fun M' w1 h1 h2 => hQ M' (N + 1) w1 (Nat.le_succ _) h1 h2
theorem pts_len {q : Nat} {A M : Tab} (h : Sm q A M) : (ptsR q M).length = q * q + q + 1 := by
  obtain ⟨hs, h7, h2⟩ := h
  cases hs
  · decide +kernel
  · decide +kernel
  · decide +kernel
  · decide +kernel
  · decide +kernel
  · omega
  · omega
inductive ChC (E : Nat → Option AFn) (Y : Nat → List Value → FM → Nat → OR FM) (D w : Nat) : Int → Int → List (List Int) → Prop
  | proj (gs : List (List Int)) (h : w * w - w + 1 = D) (hf : ∀ m n, Rt (callW PG E Y 27 [.int .i64 ((w - 1 : Nat) : Int)] m n) (Kpt m n fun v M' N' => ∃ dv, v = .tuple #[dv, .int .i64 0] ∧ DesV M' n N' dv (D : Int) gs)) : ChC E Y D w 0 D gs
  | aff (gs : List (List Int)) (h0 : ¬ (w * w - w + 1 = D)) (h : w * w = D) (hf : ∀ m n, Rt (callW PG E Y 28 [.int .i64 (w : Int)] m n) (Kpt m n fun v M' N' => ∃ dv, v = .tuple #[dv, .int .i64 0] ∧ DesV M' n N' dv (D : Int) gs)) : ChC E Y D w 0 D gs
  | none (e D' : Int) (gs : List (List Int))
     (h0 : w * w - w + 1 = D → ∃ er : Int, er ≠ 0 ∧ ∀ m n, Rt (callW PG E Y 27 [.int .i64 ((w - 1 : Nat) : Int)] m n) (Kpt m n fun v M' N' => ∃ dv, v = .tuple #[dv, .int .i64 er] ∧ DesV M' n N' dv 0 []))
     (h1 : w * w = D → ∃ er : Int, er ≠ 0 ∧ ∀ m n, Rt (callW PG E Y 28 [.int .i64 (w : Int)] m n) (Kpt m n fun v M' N' => ∃ dv, v = .tuple #[dv, .int .i64 er] ∧ DesV M' n N' dv 0 []))
     (hc : ∀ m n, Rt (callW PG E Y 11 [.int .i64 (D : Int), .int .i64 (w : Int)] m n) (Kpt m n fun v M' N' => ∃ rv, v = .tuple #[.agg #[.int .i64 D', rv], .int .i64 e] ∧ RowsUp n M' N' rv gs)) : ChC E Y D w e D' gs
theorem choose_to (T : En E Y) {D w : Nat} (h : ChOk D w) {e D' : Int} (hC : ChC E Y D w e D' gs) (m : FM) (n : Nat) : ChR E Y 18 (D : Int) (w : Int) e D' gs m n := by
  obtain ⟨h1, h2, h3, h4⟩ := h
  refine kept_specQ T.e18 rfl fun Q hQ => ?_
  simp only [ac18]
  have hP : w * w ≤ 16 * 16 := Nat.mul_le_mul (by omega) (by omega)
  have hP2 : w * 4 ≤ w * w := Nat.mul_le_mul (Nat.le_refl _) (by omega)
  have hC' := hC
  generalize hW : w * w = P at hP hP2
  simp (implicitDefEqProofs := false) (disch := omega) only [W2, opds, Nat.testBit, Nat.reduceAdd, Nat.reduceShiftRight, Nat.reduceAnd, Nat.reduceBNe, Nat.reduceMul, hW, cells_func, one_func]
  generalize hM2 : (AMem.put (AMem.put m n (some (.cells [.int .i64 0, .slice none 0 0] 0 false true))) (n + 1) (some (.cells (kindC P w) 3 false true)) : FM) = M2
  have hM2' : (AMem.put (AMem.put m n (some (.cells [.int .i64 0, .slice none 0 0] 0 false true))) (n + 1) (some (.cells [.int .i64 ((P - w + 1 : Nat) : Int), .int .i64 ((w - 1 : Nat) : Int), .func (.func 27) #[] #[], .int .i64 (P : Int), .int .i64 (w : Int), .func (.func 28) #[] #[]] 3 false true)) : FM) = M2 := hM2
  rw [hM2']
  have a0 : M2 n = some (.cells [.int .i64 0, .slice none 0 0] 0 false true) := by rw [← hM2, fput_ne _ _ _ _ (by omega)]; exact fput_same _ _ _
  have a1 : M2 (n + 1) = some (.cells (kindC P w) 3 false true) := by rw [← hM2]; exact fput_same _ _ _
  have lo : ∀ b, b < n → M2 b = m b := fun b hb => by rw [← hM2, fput_ne _ _ _ _ (by omega), fput_ne _ _ _ _ (by omega)]
  clear hM2 hM2'
  have fza : Nat.mod (bit n) (bit n) = 0 := frz_bit (Nat.le_refl _)
  have fzb : Nat.mod (bit (n + 1)) (bit n) = 0 := frz_bit (by omega)
  cases hC with
  | proj gs h hf =>
    rw [hW] at h
    refine wr_kont (kind_take0 (kb := n + 1) (rb := n) (by omega) (by omega) a1 a0 _ _ _ _ _ h hf (fun rv M3 N3 w3 e n3 m3 f3 hR rr => ?_))
    simp (implicitDefEqProofs := false) (disch := omega) only [W2, opds, Nat.testBit, Nat.reduceAdd, Nat.reduceShiftRight, Nat.reduceAnd, Nat.reduceBNe, Nat.reduceMul]
    refine hQ _ _ _ _ _ (by omega) (fun b hb => by rw [m3 b (by omega) (by omega)]; exact lo b hb) (by simp only [frz_iff]; exact ⟨⟨fza, fzb⟩, f3 n (Nat.le_refl _)⟩) rfl ⟨_, rfl, rv, rfl, hR⟩
  | aff gs h0 h hf =>
    rw [hW] at h h0
    refine wr_kont (kind_skip0 (kb := n + 1) (rb := n) (by omega) a1 _ _ _ _ _ h0 (fun M3 w3 m3 f3 => ?_))
    refine kind_take1 (kb := n + 1) (rb := n) (by omega) (by omega) (by rw [m3 _ (by omega)]; exact a1) (by rw [m3 _ (by omega)]; exact a0) _ _ _ _ _ h hf (fun rv M4 N4 w4 e n4 m4 f4 hR rr => ?_)
    simp (implicitDefEqProofs := false) (disch := omega) only [W2, opds, Nat.testBit, Nat.reduceAdd, Nat.reduceShiftRight, Nat.reduceAnd, Nat.reduceBNe, Nat.reduceMul]
    refine hQ _ _ _ _ _ (by omega) (fun b hb => by rw [m4 b (by omega) (by omega), m3 b (by omega)]; exact lo b hb) (by simp only [frz_iff]; exact ⟨⟨fza, fzb⟩, f3 n (by omega), f4 n (Nat.le_refl _)⟩) rfl ⟨_, rfl, rv, rfl, hR⟩
  | none e D' gs h0 h1 hc =>
    rw [hW] at h0 h1
    refine wr_kont (kind_pass0 (kb := n + 1) (rb := n) (by omega) a1 _ _ _ _ _ h0 (fun M3 N3 w3 n3 m3 f3 => ?_))
    refine kind_pass1 (kb := n + 1) (rb := n) (by omega) (by rw [m3 _ (by omega)]; exact a1) _ _ _ _ _ h1 (fun M4 N4 w4 n4 m4 f4 => ?_)
    refine kinds_2 _ _ _ _ ?_
    intro rr
    have a4 : M4 n = some (.cells [.int .i64 0, .slice none 0 0] 0 false true) := by rw [m4 _ (by omega), m3 _ (by omega)]; exact a0
    simp (implicitDefEqProofs := false) (disch := omega) only [W2, opds, Nat.testBit, Nat.reduceAdd, Nat.reduceShiftRight, Nat.reduceAnd, Nat.reduceBNe, Nat.reduceMul]
    refine use_rt (hc _ _) fun v M5 N5 r5 w5 ⟨n5, m5, f5, rv, hv, hRU⟩ => ?_
    subst hv
    have hR := hRU.rows
    have o5 := hR.one
    have a5 : M5 n = _ := (m5 n (by omega)).trans a4
    simp (implicitDefEqProofs := false) (disch := omega) only [W2, opds, Nat.testBit, Nat.reduceAdd, Nat.reduceShiftRight, Nat.reduceAnd, Nat.reduceBNe, Nat.reduceMul, o5, a5]
    refine hQ _ _ _ _ _ (by omega) (fun b hb => by rw [fput_ne _ _ _ _ (by omega), m5 b (by omega), m4 b (by omega), m3 b (by omega)]; exact lo b hb) (by simp only [frz_iff]; exact ⟨⟨⟨fza, fzb⟩, f3 n (by omega), f4 n (by omega)⟩, f5 n (by omega), fza⟩) rfl ⟨_, rfl, rv, rfl, hRU _ fun b h1 _ => fput_ne _ _ _ _ (by omega)⟩
end Go.Am.C07
namespace Go.Am.C07
open Go Go.Am
set_option maxRecDepth 1000000
variable {E : Nat → Option AFn} {Y : Nat → List Value → FM → Nat → OR FM}
def NoPl (D w : Nat) : Prop := ∀ q A M, Sm q A M → ¬ (D = q * q + q + 1 ∧ w = q + 1) ∧ ¬ (D = q * q ∧ w = q)
inductive Cls (D w : Nat) : Int → Int → List (List Int) → Prop
  | proj (q : Nat) (A M : Tab) (hs : Sm q A M) (h1 : w = q + 1) (h2 : D = q * q + q + 1) : Cls D w 0 D (projR A M (ptsR q M))
  | aff (q : Nat) (A M : Tab) (hs : Sm q A M) (h1 : w = q) (h2 : D = q * q) : Cls D w 0 D (affR A M q)
  | lim (h : NoPl D w) (hl : 4096 < cplN D w) : Cls D w 7 0 []
  | ok (h : NoPl D w) (hl : ¬ 4096 < cplN D w) : Cls D w 0 D (cplL D w)
theorem cls_some (D w : Nat) : ∃ e D' gs, Cls D w e D' gs := by
  by_cases h : NoPl D w
  · by_cases hl : 4096 < cplN D w
    · exact ⟨_, _, _, .lim h hl⟩
    · exact ⟨_, _, _, .ok h hl⟩
  · unfold NoPl at h
    refine Classical.byContradiction fun hn => h fun q A M hs => ⟨fun ⟨h1, h2⟩ => ?_, fun ⟨h1, h2⟩ => ?_⟩
    · exact hn ⟨_, _, _, .proj q A M hs h2 h1⟩
    · exact hn ⟨_, _, _, .aff q A M hs h2 h1⟩
theorem sq_eq (q : Nat) : (q + 1) * (q + 1) - (q + 1) + 1 = q * q + q + 1 := by
  rw [Nat.add_mul, Nat.mul_add, Nat.one_mul, Nat.mul_one]; omega
theorem cls_chC (T : En E Y) {D w : Nat} (h : ChOk D w) {e D' : Int} {gs : List (List Int)} (hc : Cls D w e D' gs) : ChC E Y D w e D' gs := by
  obtain ⟨k1, k2, k3, k4⟩ := h
  have hP2 : w * 4 ≤ w * w := Nat.mul_le_mul (Nat.le_refl _) (by omega)
  have pass : NoPl D w → (w * w - w + 1 = D → ∃ er : Int, er ≠ 0 ∧ ∀ m n, Rt (callW PG E Y 27 [.int .i64 ((w - 1 : Nat) : Int)] m n) (Kpt m n fun v M' N' => ∃ dv, v = .tuple #[dv, .int .i64 er] ∧ DesV M' n N' dv 0 [])) ∧
      (w * w = D → ∃ er : Int, er ≠ 0 ∧ ∀ m n, Rt (callW PG E Y 28 [.int .i64 (w : Int)] m n) (Kpt m n fun v M' N' => ∃ dv, v = .tuple #[dv, .int .i64 er] ∧ DesV M' n N' dv 0 [])) := fun hn => by
    refine ⟨fun hD => ?_, fun hD => ?_⟩
    · rcases cases_q ((w - 1 : Nat) : Int) with ⟨z, A, M, hz, hs, _⟩ | ⟨_, _, _, _, _, _, _, hw⟩ | ⟨_, hw⟩
      · exfalso
        have hz' : w = z + 1 := by omega
        subst hz'
        exact (hn z A M hs).1 ⟨by rw [← hD, sq_eq], rfl⟩
      · exact ⟨_, by rw [hw]; decide, proj_wrong T (by rw [hw]; decide)⟩
      · exact ⟨_, by rw [hw]; decide, proj_wrong T (by rw [hw]; decide)⟩
    · rcases cases_q (w : Int) with ⟨z, A, M, hz, hs, _⟩ | ⟨_, _, _, _, _, _, _, hw⟩ | ⟨_, hw⟩
      · exfalso
        have hz' : w = z := by omega
        subst hz'
        exact (hn w A M hs).2 ⟨hD.symm, rfl⟩
      · exact ⟨_, by rw [hw]; decide, aff_wrong T (by rw [hw]; decide)⟩
      · exact ⟨_, by rw [hw]; decide, aff_wrong T (by rw [hw]; decide)⟩
  have hb : ¬ cplBad (D : Int) (w : Int) := by unfold cplBad; omega
  cases hc with
  | proj q A M hs h1 h2 =>
    subst h1
    have hf := proj_good T hs
    rw [pts_len hs, ← h2] at hf
    exact .proj _ (by rw [sq_eq, h2]) hf
  | aff q A M hs h1 h2 =>
    subst h1
    have hf := aff_good T hs
    rw [← h2] at hf
    exact .aff _ (by omega) h2.symm hf
  | lim hn hl =>
    obtain ⟨p1, p2⟩ := pass hn
    exact .none _ _ _ p1 p2 fun m n => by
      obtain ⟨r, hr⟩ := cpl_lim T hb hl m n
      rw [hr]
      exact ⟨Nat.le_refl _, fun _ _ => rfl, fun _ _ => Nat.zero_mod _, _, rfl, fun M' _ => RowsZ.rows (RowsZ.nil M' n n)⟩
  | ok hn hl =>
    obtain ⟨p1, p2⟩ := pass hn
    exact .none _ _ _ p1 p2 (cpl_ok T hb hl)
theorem choose_spec (T : En E Y) {D w : Nat} (h : ChOk D w) {e D' : Int} {gs : List (List Int)} (hc : Cls D w e D' gs) (m : FM) (n : Nat) : ChR E Y 18 (D : Int) (w : Int) e D' gs m n := choose_to T h (cls_chC T h hc) m n
end Go.Am.C07
