/- Chapter 21: tegularef07.Check. -/
import Derived.Test.YtaohgpgbphlblaaAm21i
set_option linter.unusedVariables false
set_option linter.unusedSimpArgs false
set_option linter.unusedSectionVars false
namespace Go.Am.C21
open Go Go.Am
set_option linter.unusedVariables false
variable {E : Nat → Option AFn} {Y : Nat → List Value → FM → Nat → OR FM}
theorem named_all (f : List Value → CR FM) : ∃ (ef : List Value → List Value) (mf : List Value → FM) (rf wf : List Value → Nat), ∀ l X e m n r w, f l = .ok X e m n r w → ef l = e ∧ mf l = m ∧ rf l = r ∧ wf l = w :=
  ⟨fun l => eOf (f l), fun l => match f l with | .no => fun _ => none | .ok _ _ m _ _ _ => m, fun l => rOf (f l), fun l => match f l with | .no => 0 | .ok _ _ _ _ _ w => w, fun l X e m n r w h => by refine ⟨?_, ?_, ?_, ?_⟩ <;> simp [h, rOf, eOf]⟩
open Classical in
/-- what the reference's Check says of a design -/
noncomputable def refV (disks : Int) (gs : List (List Int)) : Value :=
  if Formed disks gs then
    if Bal (counts zeros gs) disks.toNat (counts zeros gs)[0]! (counts zeros gs)[1]! 0 then .tuple #[.int .i64 (counts zeros gs)[0]!, .int .i64 (counts zeros gs)[1]!, .bool (decide ((0 : Int) < (counts zeros gs)[1]!))] else errF
  else errF
theorem groupsR_iff {disks : Int} {gs : List (List Int)} (h : 0 < gs.length) : GroupsR disks gs[0].length gs 0 ↔ 2 ≤ gs[0].length ∧ GroupsFrom disks gs[0].length gs 0 :=
  ⟨fun hr => ⟨(hr 0 _ (Nat.le_refl _) (List.getElem?_eq_getElem h)).1.1, fun i g h1 h2 => ⟨(hr i g h1 h2).1.2, (hr i g h1 h2).2⟩⟩, fun ⟨h1, h2⟩ i g h3 h4 => by
    obtain ⟨k1, k2⟩ := h2 i g h3 h4
    exact ⟨⟨by omega, k1⟩, k2⟩⟩
theorem formed_iffR {disks : Int} {gs : List (List Int)} (h : 0 < gs.length) : Formed disks gs ↔ 2 ≤ disks ∧ disks ≤ 60 ∧ gs.length ≤ 4096 ∧ GroupsR disks gs[0].length gs 0 := by
  unfold Formed
  rw [groupsR_iff h, List.getElem?_eq_getElem h]
  constructor
  · rintro ⟨h1, h2, h3, g0, h4, h5, h6⟩
    injection h4 with h4; subst h4
    exact ⟨h1, h2, h3, h5, h6⟩
  · rintro ⟨h1, h2, h3, h5, h6⟩
    exact ⟨h1, h2, h3, _, rfl, h5, h6⟩
theorem ref_spec (hE : E 44 = some ac44) (m : FM) (n : Nat) (disks : Int) (gv : Value) (gs : List (List Int)) (hgs : Rows m n gv gs) (hl : gs.length < 4611686018427387904) (hrow : ∀ g ∈ gs, g.length < 4611686018427387904) :
    Pure (callW PG E Y 44 [.agg #[.int .i64 disks, gv]] m n) m n (refV disks gs) := by
  classical
  rw [callW_fn hE rfl]
  have hfree : addrFree (refV disks gs) = true := by unfold refV; split <;> (try split) <;> rfl
  refine pure_of hfree ?_
  have hfr : ∀ b, b < n → (AMem.put m n (some (.cells [.int .i64 disks, gv] 0 false true)) : FM) b = m b := fun b hb => fput_ne m n b _ (by omega)
  have hgs' := hgs.frame (n' := n + 1) (by omega) hfr
  have hp : (AMem.put m n (some (.cells [.int .i64 disks, gv] 0 false true)) : FM) n = some (.cells [.int .i64 disks, gv] 0 false true) := fput_same m n _
  obtain ⟨M, hM⟩ : ∃ M : FM, AMem.put m n (some (.cells [.int .i64 disks, gv] 0 false true)) = M := ⟨_, rfl⟩
  rw [hM] at hgs' hp
  have hbn : Nat.mod (bit n) (bit n) = 0 := mod_bit_ge (Nat.le_refl n)
  have hbn1 : Nat.mod (bit (n + 1)) (bit n) = 0 := mod_bit_ge (by omega)
  have hpd : ld1V M (n + 1) (.pointer (some ⟨n, 0 + 0, none⟩)) = .ok (.int .i64 disks) M (n + 1) (bit n) 0 := ld1_at (by omega) hp rfl
  have hpg : ld1V M (n + 1) (.pointer (some ⟨n, 0 + 1, none⟩)) = .ok gv M (n + 1) (bit n) 0 := ld1_at (by omega) hp rfl
  rw [ac44]
  by_cases c1 : disks < 2
  · have hV : refV disks gs = errF := by unfold refV; rw [if_neg (fun h => by have := h.1; omega)]
    simp only [Gv_add, w_seq, v_reg, q_cons, q_nil, q_nop, q_op, q_eff, q_opg, q_effg, keep_ok, drop1_ok, out_ok, crRec_mk, onNorm_norm, onNorm_exit, onNorm_ret, addRW_mk, w_cond, onCond_mk, w_block, onBlock_norm, onBlock_ret, onBlock_exit, w_pre, w_post, onPost_norm, onPost_exit, onPost_ret, w_exit, w_ret, onRet_mk, res_nil, res_cons, resO_v, retV_one, fixE_mk, lmap_nil, lmap_cons, ldrop_z, ldrop_s, ev_v, ev_c, lget_z, lget_s, evs_nil, evs_cons, s_mov, s_pick, s_bin, s_una, s_conv, s_fld, s_idx, s_ida, s_build, s_extr, s_nilck, s_len, s_mx, s_ld1, s_ldn, s_st, s_call, s_new, s_box, s_make, s_app, bin_int, i_add, i_sub, i_mul, i_eql, i_neq, i_lss, i_gtr, i_leq, i_geq, pick_mk, wantB_mk, una_not, fld_mk, nilck_mk, valO_some, lor_zero', zero_lor', cond_true, cond_false, Nat.beq_refl, natOf_mk, natOf_zero, natOf_one, obind_some, w_skip, Bool.not_true, Bool.not_false, wantB_undef, newb_fm, ptrP_mk, slcP_mk, cells_agg, hM, hpd, hpg, hgs'.len, c1, decide_true, retV_three]
    exact ⟨by rw [hV]; rfl, hbn⟩
  by_cases c2 : 60 < disks
  · have hV : refV disks gs = errF := by unfold refV; rw [if_neg (fun h => by have := h.2.1; omega)]
    simp only [Gv_add, w_seq, v_reg, q_cons, q_nil, q_nop, q_op, q_eff, q_opg, q_effg, keep_ok, drop1_ok, out_ok, crRec_mk, onNorm_norm, onNorm_exit, onNorm_ret, addRW_mk, w_cond, onCond_mk, w_block, onBlock_norm, onBlock_ret, onBlock_exit, w_pre, w_post, onPost_norm, onPost_exit, onPost_ret, w_exit, w_ret, onRet_mk, res_nil, res_cons, resO_v, retV_one, fixE_mk, lmap_nil, lmap_cons, ldrop_z, ldrop_s, ev_v, ev_c, lget_z, lget_s, evs_nil, evs_cons, s_mov, s_pick, s_bin, s_una, s_conv, s_fld, s_idx, s_ida, s_build, s_extr, s_nilck, s_len, s_mx, s_ld1, s_ldn, s_st, s_call, s_new, s_box, s_make, s_app, bin_int, i_add, i_sub, i_mul, i_eql, i_neq, i_lss, i_gtr, i_leq, i_geq, pick_mk, wantB_mk, una_not, fld_mk, nilck_mk, valO_some, lor_zero', zero_lor', cond_true, cond_false, Nat.beq_refl, natOf_mk, natOf_zero, natOf_one, obind_some, w_skip, Bool.not_true, Bool.not_false, wantB_undef, newb_fm, ptrP_mk, slcP_mk, cells_agg, hM, hpd, hpg, hgs'.len, c1, c2, decide_true, decide_false, retV_three]
    exact ⟨by rw [hV]; rfl, hbn⟩
  by_cases c3 : (gs.length : Int) < 1
  · have hV : refV disks gs = errF := by
      unfold refV; rw [if_neg (fun h => ?_)]
      obtain ⟨_, _, _, g0, hg0, _⟩ := h
      have := (List.getElem?_eq_some_iff.1 hg0).1; omega
    simp only [Gv_add, w_seq, v_reg, q_cons, q_nil, q_nop, q_op, q_eff, q_opg, q_effg, keep_ok, drop1_ok, out_ok, crRec_mk, onNorm_norm, onNorm_exit, onNorm_ret, addRW_mk, w_cond, onCond_mk, w_block, onBlock_norm, onBlock_ret, onBlock_exit, w_pre, w_post, onPost_norm, onPost_exit, onPost_ret, w_exit, w_ret, onRet_mk, res_nil, res_cons, resO_v, retV_one, fixE_mk, lmap_nil, lmap_cons, ldrop_z, ldrop_s, ev_v, ev_c, lget_z, lget_s, evs_nil, evs_cons, s_mov, s_pick, s_bin, s_una, s_conv, s_fld, s_idx, s_ida, s_build, s_extr, s_nilck, s_len, s_mx, s_ld1, s_ldn, s_st, s_call, s_new, s_box, s_make, s_app, bin_int, i_add, i_sub, i_mul, i_eql, i_neq, i_lss, i_gtr, i_leq, i_geq, pick_mk, wantB_mk, una_not, fld_mk, nilck_mk, valO_some, lor_zero', zero_lor', cond_true, cond_false, Nat.beq_refl, natOf_mk, natOf_zero, natOf_one, obind_some, w_skip, Bool.not_true, Bool.not_false, wantB_undef, newb_fm, ptrP_mk, slcP_mk, cells_agg, hM, hpd, hpg, hgs'.len, c1, c2, c3, decide_true, decide_false, retV_three]
    exact ⟨by rw [hV]; rfl, hbn⟩
  by_cases c4 : 4096 < (gs.length : Int)
  · have hV : refV disks gs = errF := by unfold refV; rw [if_neg (fun h => by have := h.2.2.1; omega)]
    simp only [Gv_add, w_seq, v_reg, q_cons, q_nil, q_nop, q_op, q_eff, q_opg, q_effg, keep_ok, drop1_ok, out_ok, crRec_mk, onNorm_norm, onNorm_exit, onNorm_ret, addRW_mk, w_cond, onCond_mk, w_block, onBlock_norm, onBlock_ret, onBlock_exit, w_pre, w_post, onPost_norm, onPost_exit, onPost_ret, w_exit, w_ret, onRet_mk, res_nil, res_cons, resO_v, retV_one, fixE_mk, lmap_nil, lmap_cons, ldrop_z, ldrop_s, ev_v, ev_c, lget_z, lget_s, evs_nil, evs_cons, s_mov, s_pick, s_bin, s_una, s_conv, s_fld, s_idx, s_ida, s_build, s_extr, s_nilck, s_len, s_mx, s_ld1, s_ldn, s_st, s_call, s_new, s_box, s_make, s_app, bin_int, i_add, i_sub, i_mul, i_eql, i_neq, i_lss, i_gtr, i_leq, i_geq, pick_mk, wantB_mk, una_not, fld_mk, nilck_mk, valO_some, lor_zero', zero_lor', cond_true, cond_false, Nat.beq_refl, natOf_mk, natOf_zero, natOf_one, obind_some, w_skip, Bool.not_true, Bool.not_false, wantB_undef, newb_fm, ptrP_mk, slcP_mk, cells_agg, hM, hpd, hpg, hgs'.len, c1, c2, c3, c4, decide_true, decide_false, retV_three]
    exact ⟨by rw [hV]; rfl, hbn⟩
  have h0 : 0 < gs.length := by omega
  obtain ⟨D, hD⟩ : ∃ D : Nat, disks = (D : Int) := ⟨disks.toNat, by omega⟩
  have hz : (List.replicate 3600 (Value.int .i64 0)) = zeros.map (Value.int .i64) := by rw [zeros, List.map_replicate]
  have hmem : AMem.put M (n + 1) (some (.cells (List.replicate 3600 (Value.int .i64 0)) 0 false true)) = arr M (n + 1) zeros := by rw [hz]; rfl
  have hzl : zeros.length = 3600 := List.length_replicate
  have hAl : (counts zeros gs).length = 3600 := by rw [counts_length, hzl]
  have hL3 := fun x0 x1 x2 x4 x6 x7 x8 x9 x11 => ref_L3 (E := E) (Y := Y) M (n + 2) (n + 1) n (by omega) (by omega) n (by omega) disks (by omega) gv hp gs hgs' hl hrow h0 x0 x1 x2 x4 x6 x7 x8 x9 x11 gs.length 0 (by omega) zeros hzl
  by_cases hg : GroupsR disks gs[0].length gs 0
  · have hf : Formed disks gs := (formed_iffR h0).2 ⟨by omega, by omega, by omega, hg⟩
    obtain ⟨rf, wf, hnm⟩ := named_w (fun l => execW PG E Y ac44L3 l (arr M (n + 1) zeros) (n + 2))
    have hL3b : ∀ x0 x1 x2 x4 x6 x7 x8 x9 x11, execW PG E Y ac44L3 [x0, x1, x2, .int .i64 0, x4, .pointer (some ⟨n + 1, 0, none⟩), x6, x7, x8, x9, .pointer (some ⟨n, 0, none⟩), x11] (arr M (n + 1) zeros) (n + 2) = .ok (.exit 0) [x0, x1, x2, x4, .pointer (some ⟨n + 1, 0, none⟩), x6, x7, x8, x9, .pointer (some ⟨n, 0, none⟩), x11] (arr M (n + 1) (counts zeros gs)) (n + 2) (rf [x0, x1, x2, .int .i64 0, x4, .pointer (some ⟨n + 1, 0, none⟩), x6, x7, x8, x9, .pointer (some ⟨n, 0, none⟩), x11]) (wf [x0, x1, x2, .int .i64 0, x4, .pointer (some ⟨n + 1, 0, none⟩), x6, x7, x8, x9, .pointer (some ⟨n, 0, none⟩), x11]) ∧ Nat.mod (wf [x0, x1, x2, .int .i64 0, x4, .pointer (some ⟨n + 1, 0, none⟩), x6, x7, x8, x9, .pointer (some ⟨n, 0, none⟩), x11]) (bit n) = 0 := fun x0 x1 x2 x4 x6 x7 x8 x9 x11 => by
      obtain ⟨X, e', m', n', r, w, hx, h1, h2, h3⟩ := Gv_some (hL3 x0 x1 x2 x4 x6 x7 x8 x9 x11)
      rcases h3 with ⟨_, h4, h5, h6⟩ | ⟨h4, _⟩
      · obtain ⟨hr, hw⟩ := hnm _ _ _ _ _ _ _ hx
        have hr' : rf [x0, x1, x2, .int .i64 0, x4, .pointer (some ⟨n + 1, 0, none⟩), x6, x7, x8, x9, .pointer (some ⟨n, 0, none⟩), x11] = r := hr
        have hw' : wf [x0, x1, x2, .int .i64 0, x4, .pointer (some ⟨n + 1, 0, none⟩), x6, x7, x8, x9, .pointer (some ⟨n, 0, none⟩), x11] = w := hw
        rw [hr', hw']
        subst h1; subst h4; subst h5; subst h6
        exact ⟨hx, h2⟩
      · exact absurd hg h4
    have hL3e := fun x0 x1 x2 x4 x6 x7 x8 x9 x11 => (hL3b x0 x1 x2 x4 x6 x7 x8 x9 x11).1
    have hL3w := fun x0 x1 x2 x4 x6 x7 x8 x9 x11 => (hL3b x0 x1 x2 x4 x6 x7 x8 x9 x11).2
    obtain ⟨A, hA⟩ : ∃ A, counts zeros gs = A := ⟨_, rfl⟩
    rw [hA] at hAl
    rw [hA] at hL3e
    have hdlA : ld1V (arr M (n + 1) A) (n + 2) (.pointer (some ⟨n, 0 + 0, none⟩)) = .ok (.int .i64 disks) (arr M (n + 1) A) (n + 2) (bit n) 0 := ld1_at (by omega) ((fput_ne M (n + 1) n _ (by omega)).trans hp) rfl
    have hc0 : (A.map (Value.int .i64))[0 + 0 * 60 + 0 * 1]? = some (.int .i64 A[0]!) := by simp [List.getElem?_eq_getElem (show 0 < A.length by omega)]
    have hc1 : (A.map (Value.int .i64))[0 + 0 * 60 + 1 * 1]? = some (.int .i64 A[1]!) := by simp [List.getElem?_eq_getElem (show 1 < A.length by omega)]
    have hl0 : ld1V (arr M (n + 1) A) (n + 2) (.pointer (some ⟨n + 1, 0 + 0 * 60 + 0 * 1, none⟩)) = .ok (.int .i64 A[0]!) (arr M (n + 1) A) (n + 2) (bit (n + 1)) 0 := ld1_at (by omega) (fput_same M (n + 1) _) hc0
    have hl1 : ld1V (arr M (n + 1) A) (n + 2) (.pointer (some ⟨n + 1, 0 + 0 * 60 + 1 * 1, none⟩)) = .ok (.int .i64 A[1]!) (arr M (n + 1) A) (n + 2) (bit (n + 1)) 0 := ld1_at (by omega) (fput_same M (n + 1) _) hc1
    have hda : idaV 60 60 0 (.pointer (some ⟨n + 1, 0, none⟩)) = some (.pointer (some ⟨n + 1, 0 + 0 * 60, none⟩)) := ida_ok (by omega)
    have hd0 : idaV 60 1 0 (.pointer (some ⟨n + 1, 0 + 0 * 60, none⟩)) = some (.pointer (some ⟨n + 1, 0 + 0 * 60 + 0 * 1, none⟩)) := ida_ok (by omega)
    have hd1 : idaV 60 1 1 (.pointer (some ⟨n + 1, 0 + 0 * 60, none⟩)) = some (.pointer (some ⟨n + 1, 0 + 0 * 60 + 1 * 1, none⟩)) := ida_ok (by omega)
    have hq := blt_true (show n + 1 < n + 2 by omega)
    subst hD
    have hL5 := fun x0 x1 x2 x4 x5 x6 x7 x8 x10 x11 x12 x13 x15 => ref_L5 (E := E) (Y := Y) M (n + 2) (n + 1) (by omega) A hAl D (by omega) n (by omega) hdlA x0 x1 x2 x4 x5 x6 x7 x8 x10 x11 x12 x13 x15 D 0 (by omega)
    obtain ⟨rf4, ef4, hnm4⟩ := named_r (fun l => execW PG E Y ac44L5 l (arr M (n + 1) A) (n + 2))
    by_cases hb : Bal A D A[0]! A[1]! 0
    · have hL5e : ∀ x0 x1 x2 x4 x5 x6 x7 x8 x10 x11 x12 x13 x15, execW PG E Y ac44L5 [x0, x1, x2, .int .i64 0, x4, x5, x6, x7, x8, .pointer (some ⟨n + 1, 0, none⟩), x10, x11, x12, x13, .pointer (some ⟨n, 0, none⟩), x15] (arr M (n + 1) A) (n + 2) = .ok (.exit 8) [x0, x1, x2, x4, x5, x6, x7, x8, .pointer (some ⟨n + 1, 0, none⟩), x10, x11, x12, x13, .pointer (some ⟨n, 0, none⟩), x15] (arr M (n + 1) A) (n + 2) (rf4 [x0, x1, x2, .int .i64 0, x4, x5, x6, x7, x8, .pointer (some ⟨n + 1, 0, none⟩), x10, x11, x12, x13, .pointer (some ⟨n, 0, none⟩), x15]) 0 := fun x0 x1 x2 x4 x5 x6 x7 x8 x10 x11 x12 x13 x15 => by
        rw [(hnm4 _).1]
        refine gv_norm ((hL5 x0 x1 x2 x4 x5 x6 x7 x8 x10 x11 x12 x13 x15).mono fun X e' m' n' w hh => ?_)
        obtain ⟨h1, h2, h3, h4⟩ := hh
        rcases h4 with ⟨_, h5, h6⟩ | ⟨h5, _⟩
        · exact ⟨h5, h6, h1, h2, h3⟩
        · exact absurd hb h5
      have hV : refV (D : Int) gs = .tuple #[.int .i64 A[0]!, .int .i64 A[1]!, .bool (decide ((0 : Int) < A[1]!))] := by
        unfold refV; rw [if_pos hf, hA, Int.toNat_natCast, if_pos hb]
      simp (implicitDefEqProofs := false) only [Gv_add, w_seq, v_reg, q_cons, q_nil, q_nop, q_op, q_eff, q_opg, q_effg, keep_ok, drop1_ok, out_ok, crRec_mk, onNorm_norm, onNorm_exit, onNorm_ret, addRW_mk, w_cond, onCond_mk, w_block, onBlock_norm, onBlock_ret, onBlock_exit, w_pre, w_post, onPost_norm, onPost_exit, onPost_ret, w_exit, w_ret, onRet_mk, res_nil, res_cons, resO_v, retV_one, fixE_mk, lmap_nil, lmap_cons, ldrop_z, ldrop_s, ev_v, ev_c, lget_z, lget_s, evs_nil, evs_cons, s_mov, s_pick, s_bin, s_una, s_conv, s_fld, s_idx, s_ida, s_build, s_extr, s_nilck, s_len, s_mx, s_ld1, s_ldn, s_st, s_call, s_new, s_box, s_make, s_app, bin_int, i_add, i_sub, i_mul, i_eql, i_neq, i_lss, i_gtr, i_leq, i_geq, pick_mk, wantB_mk, una_not, fld_mk, nilck_mk, valO_some, lor_zero', zero_lor', cond_true, cond_false, Nat.beq_refl, natOf_mk, natOf_zero, natOf_one, obind_some, w_skip, Bool.not_true, Bool.not_false, wantB_undef, newb_fm, ptrP_mk, slcP_mk, cells_agg, u_regD, isOkC_ok, belowV_undef, belowV_addr, z_nil, z_cons, y_nil, y_cons, y_nop, y_op, y_eff, y_opg, y_effg, keepD_ok, outX_ok, apart_nil, apart_cons, zero_land', land_zero', stepD_ok', below_all, opds, List.all_cons, List.all_nil, belowV_int, belowV_bool, belowV_ptr, belowV_nils, Bool.and_self, Bool.and_true, Bool.true_and, Bool.or_true, Bool.true_or, Bool.false_or, Nat.reduceAdd, Nat.testBit, Nat.reduceShiftRight, Nat.reduceAnd, Nat.reduceBNe, hM, hpd, hpg, hgs'.len, c1, c2, c3, c4, hmem, hL3e, hL5e, hda, hd0, hd1, hl0, hl1, hq, decide_true, decide_false, retV_three]
      exact ⟨by rw [hV], mod_lor' hbn (mod_lor' hbn1 (hL3w ..))⟩
    · have hL5e : ∀ x0 x1 x2 x4 x5 x6 x7 x8 x10 x11 x12 x13 x15, execW PG E Y ac44L5 [x0, x1, x2, .int .i64 0, x4, x5, x6, x7, x8, .pointer (some ⟨n + 1, 0, none⟩), x10, x11, x12, x13, .pointer (some ⟨n, 0, none⟩), x15] (arr M (n + 1) A) (n + 2) = .ok (.ret errF) (ef4 [x0, x1, x2, .int .i64 0, x4, x5, x6, x7, x8, .pointer (some ⟨n + 1, 0, none⟩), x10, x11, x12, x13, .pointer (some ⟨n, 0, none⟩), x15]) (arr M (n + 1) A) (n + 2) (rf4 [x0, x1, x2, .int .i64 0, x4, x5, x6, x7, x8, .pointer (some ⟨n + 1, 0, none⟩), x10, x11, x12, x13, .pointer (some ⟨n, 0, none⟩), x15]) 0 := fun x0 x1 x2 x4 x5 x6 x7 x8 x10 x11 x12 x13 x15 => by
        rw [(hnm4 _).1, (hnm4 _).2]
        refine gv_ret ((hL5 x0 x1 x2 x4 x5 x6 x7 x8 x10 x11 x12 x13 x15).mono fun X e' m' n' w hh => ?_)
        obtain ⟨h1, h2, h3, h4⟩ := hh
        rcases h4 with ⟨h5, _, _⟩ | ⟨_, h5⟩
        · exact absurd h5 hb
        · exact ⟨h5, h1, h2, h3⟩
      have hV : refV (D : Int) gs = errF := by unfold refV; rw [if_pos hf, hA, Int.toNat_natCast, if_neg hb]
      simp (implicitDefEqProofs := false) only [Gv_add, w_seq, v_reg, q_cons, q_nil, q_nop, q_op, q_eff, q_opg, q_effg, keep_ok, drop1_ok, out_ok, crRec_mk, onNorm_norm, onNorm_exit, onNorm_ret, addRW_mk, w_cond, onCond_mk, w_block, onBlock_norm, onBlock_ret, onBlock_exit, w_pre, w_post, onPost_norm, onPost_exit, onPost_ret, w_exit, w_ret, onRet_mk, res_nil, res_cons, resO_v, retV_one, fixE_mk, lmap_nil, lmap_cons, ldrop_z, ldrop_s, ev_v, ev_c, lget_z, lget_s, evs_nil, evs_cons, s_mov, s_pick, s_bin, s_una, s_conv, s_fld, s_idx, s_ida, s_build, s_extr, s_nilck, s_len, s_mx, s_ld1, s_ldn, s_st, s_call, s_new, s_box, s_make, s_app, bin_int, i_add, i_sub, i_mul, i_eql, i_neq, i_lss, i_gtr, i_leq, i_geq, pick_mk, wantB_mk, una_not, fld_mk, nilck_mk, valO_some, lor_zero', zero_lor', cond_true, cond_false, Nat.beq_refl, natOf_mk, natOf_zero, natOf_one, obind_some, w_skip, Bool.not_true, Bool.not_false, wantB_undef, newb_fm, ptrP_mk, slcP_mk, cells_agg, u_regD, isOkC_ok, belowV_undef, belowV_addr, z_nil, z_cons, y_nil, y_cons, y_nop, y_op, y_eff, y_opg, y_effg, keepD_ok, outX_ok, apart_nil, apart_cons, zero_land', land_zero', stepD_ok', below_all, opds, List.all_cons, List.all_nil, belowV_int, belowV_bool, belowV_ptr, belowV_nils, Bool.and_self, Bool.and_true, Bool.true_and, Bool.or_true, Bool.true_or, Bool.false_or, Nat.reduceAdd, Nat.testBit, Nat.reduceShiftRight, Nat.reduceAnd, Nat.reduceBNe, hM, hpd, hpg, hgs'.len, c1, c2, c3, c4, hmem, hL3e, hL5e, hda, hd0, hd1, hl0, hl1, hq, decide_true, decide_false, retV_three]
      exact ⟨by rw [hV], mod_lor' hbn (mod_lor' hbn1 (hL3w ..))⟩
  · have hf : ¬ Formed disks gs := fun h => hg ((formed_iffR h0).1 h).2.2.2
    have hV : refV disks gs = errF := by unfold refV; rw [if_neg hf]
    obtain ⟨ef, mf, rf, wf, hnm⟩ := named_all (fun l => execW PG E Y ac44L3 l (arr M (n + 1) zeros) (n + 2))
    have hL3b : ∀ x0 x1 x2 x4 x6 x7 x8 x9 x11, execW PG E Y ac44L3 [x0, x1, x2, .int .i64 0, x4, .pointer (some ⟨n + 1, 0, none⟩), x6, x7, x8, x9, .pointer (some ⟨n, 0, none⟩), x11] (arr M (n + 1) zeros) (n + 2) = .ok (.ret errF) (ef [x0, x1, x2, .int .i64 0, x4, .pointer (some ⟨n + 1, 0, none⟩), x6, x7, x8, x9, .pointer (some ⟨n, 0, none⟩), x11]) (mf [x0, x1, x2, .int .i64 0, x4, .pointer (some ⟨n + 1, 0, none⟩), x6, x7, x8, x9, .pointer (some ⟨n, 0, none⟩), x11]) (n + 2) (rf [x0, x1, x2, .int .i64 0, x4, .pointer (some ⟨n + 1, 0, none⟩), x6, x7, x8, x9, .pointer (some ⟨n, 0, none⟩), x11]) (wf [x0, x1, x2, .int .i64 0, x4, .pointer (some ⟨n + 1, 0, none⟩), x6, x7, x8, x9, .pointer (some ⟨n, 0, none⟩), x11]) ∧ Nat.mod (wf [x0, x1, x2, .int .i64 0, x4, .pointer (some ⟨n + 1, 0, none⟩), x6, x7, x8, x9, .pointer (some ⟨n, 0, none⟩), x11]) (bit n) = 0 := fun x0 x1 x2 x4 x6 x7 x8 x9 x11 => by
      obtain ⟨X, e', m', n', r, w, hx, h1, h2, h3⟩ := Gv_some (hL3 x0 x1 x2 x4 x6 x7 x8 x9 x11)
      rcases h3 with ⟨h4, _⟩ | ⟨_, h4⟩
      · exact absurd h4 hg
      · obtain ⟨he, hm, hr, hw⟩ := hnm _ _ _ _ _ _ _ hx
        have he' : ef [x0, x1, x2, .int .i64 0, x4, .pointer (some ⟨n + 1, 0, none⟩), x6, x7, x8, x9, .pointer (some ⟨n, 0, none⟩), x11] = e' := he
        have hm' : mf [x0, x1, x2, .int .i64 0, x4, .pointer (some ⟨n + 1, 0, none⟩), x6, x7, x8, x9, .pointer (some ⟨n, 0, none⟩), x11] = m' := hm
        have hr' : rf [x0, x1, x2, .int .i64 0, x4, .pointer (some ⟨n + 1, 0, none⟩), x6, x7, x8, x9, .pointer (some ⟨n, 0, none⟩), x11] = r := hr
        have hw' : wf [x0, x1, x2, .int .i64 0, x4, .pointer (some ⟨n + 1, 0, none⟩), x6, x7, x8, x9, .pointer (some ⟨n, 0, none⟩), x11] = w := hw
        rw [he', hm', hr', hw']
        subst h1; subst h4
        exact ⟨hx, h2⟩
    have hL3e := fun x0 x1 x2 x4 x6 x7 x8 x9 x11 => (hL3b x0 x1 x2 x4 x6 x7 x8 x9 x11).1
    have hL3w := fun x0 x1 x2 x4 x6 x7 x8 x9 x11 => (hL3b x0 x1 x2 x4 x6 x7 x8 x9 x11).2
    simp (implicitDefEqProofs := false) only [Gv_add, w_seq, v_reg, q_cons, q_nil, q_nop, q_op, q_eff, q_opg, q_effg, keep_ok, drop1_ok, out_ok, crRec_mk, onNorm_norm, onNorm_exit, onNorm_ret, addRW_mk, w_cond, onCond_mk, w_block, onBlock_norm, onBlock_ret, onBlock_exit, w_pre, w_post, onPost_norm, onPost_exit, onPost_ret, w_exit, w_ret, onRet_mk, res_nil, res_cons, resO_v, retV_one, fixE_mk, lmap_nil, lmap_cons, ldrop_z, ldrop_s, ev_v, ev_c, lget_z, lget_s, evs_nil, evs_cons, s_mov, s_pick, s_bin, s_una, s_conv, s_fld, s_idx, s_ida, s_build, s_extr, s_nilck, s_len, s_mx, s_ld1, s_ldn, s_st, s_call, s_new, s_box, s_make, s_app, bin_int, i_add, i_sub, i_mul, i_eql, i_neq, i_lss, i_gtr, i_leq, i_geq, pick_mk, wantB_mk, una_not, fld_mk, nilck_mk, valO_some, lor_zero', zero_lor', cond_true, cond_false, Nat.beq_refl, natOf_mk, natOf_zero, natOf_one, obind_some, w_skip, Bool.not_true, Bool.not_false, wantB_undef, newb_fm, ptrP_mk, slcP_mk, cells_agg, u_regD, isOkC_ok, belowV_undef, belowV_addr, z_nil, z_cons, y_nil, y_cons, y_nop, y_op, y_eff, y_opg, y_effg, keepD_ok, outX_ok, apart_nil, apart_cons, zero_land', land_zero', stepD_ok', below_all, opds, List.all_cons, List.all_nil, belowV_int, belowV_bool, belowV_ptr, belowV_nils, Bool.and_self, Bool.and_true, Bool.true_and, Bool.or_true, Bool.true_or, Bool.false_or, Nat.reduceAdd, Nat.testBit, Nat.reduceShiftRight, Nat.reduceAnd, Nat.reduceBNe, hM, hpd, hpg, hgs'.len, c1, c2, c3, c4, hmem, hL3e, decide_true, decide_false, retV_three]
    exact ⟨by rw [hV], mod_lor' hbn (mod_lor' hbn1 (hL3w ..))⟩
end Go.Am.C21
