/- Chapter 21: the reference's Valid. -/
import Derived.Test.YtaohgpgbphlblaaAm21k
set_option linter.unusedVariables false
set_option linter.unusedSimpArgs false
set_option linter.unusedSectionVars false
namespace Go.Am.C21
open Go Go.Am
set_option linter.unusedVariables false
variable {E : Nat → Option AFn} {Y : Nat → List Value → FM → Nat → OR FM}
/-- the design is balanced -/
def GoodR (disks : Int) (gs : List (List Int)) : Prop :=
  Formed disks gs ∧ Bal (counts zeros gs) disks.toNat (counts zeros gs)[0]! (counts zeros gs)[1]! 0 ∧ (0 : Int) < (counts zeros gs)[1]!
theorem refV_good {disks : Int} {gs : List (List Int)} (h : GoodR disks gs) : refV disks gs = .tuple #[.int .i64 (counts zeros gs)[0]!, .int .i64 (counts zeros gs)[1]!, .bool true] := by
  unfold refV; rw [if_pos h.1, if_pos h.2.1, decide_eq_true h.2.2]
theorem refV_bad {disks : Int} {gs : List (List Int)} (h : ¬ GoodR disks gs) : ∃ r l, refV disks gs = .tuple #[.int .i64 r, .int .i64 l, .bool false] := by
  unfold refV
  by_cases h1 : Formed disks gs
  · rw [if_pos h1]
    by_cases h2 : Bal (counts zeros gs) disks.toNat (counts zeros gs)[0]! (counts zeros gs)[1]! 0
    · rw [if_pos h2]
      exact ⟨_, _, by rw [decide_eq_false (fun h3 => h ⟨h1, h2, h3⟩)]⟩
    · rw [if_neg h2]; exact ⟨0, 0, rfl⟩
  · rw [if_neg h1]; exact ⟨0, 0, rfl⟩
theorem checkV_good {disks : Int} {gs : List (List Int)} (h : GoodR disks gs) : checkV disks gs = .tuple #[.int .i64 (counts zeros gs)[0]!, .int .i64 (counts zeros gs)[1]!, .int .i64 0] := by
  unfold checkV; rw [if_pos h.1, if_pos ⟨h.2.1, by have := h.2.2; omega⟩]
theorem checkV_bad {disks : Int} {gs : List (List Int)} (h : ¬ GoodR disks gs) : checkV disks gs = errT := by
  unfold checkV
  by_cases h1 : Formed disks gs
  · rw [if_pos h1, if_neg (fun h2 => h ⟨h1, h2.1, by have := h2.2; omega⟩)]
  · rw [if_neg h1]
def width (gs : List (List Int)) : Int := ((gs[0]?.getD []).length : Int)
/-- the layout is valid -/
def VR (disks : Int) (gs : List (List Int)) (tiles spare : Int) : Prop :=
  GoodR disks gs ∧ 1 ≤ tiles ∧ tiles ≤ 256 ∧ 0 ≤ spare ∧ spare ≤ 65536 ∧ 4 ≤ width gs ∧ width gs ≤ 16 ∧ IntKind.i64.wrap (tiles * (gs.length : Int)) ≤ (4096 : Int) ∧
    IntKind.i64.wrap (IntKind.i64.wrap (tiles * (gs.length : Int)) * IntKind.i64.wrap (width gs - (3 : Int))) ≤ (65536 : Int) ∧ IntKind.i64.wrap (IntKind.i64.wrap (tiles * (counts zeros gs)[0]!) + spare) ≤ 65536
open Classical in
theorem refValid_spec (hE : E 29 = some ac29) (hE2 : E 44 = some ac44) (m : FM) (n : Nat) (disks tiles spare : Int) (gv : Value) (gs : List (List Int)) (hgs : Rows m n gv gs) (hl : gs.length < 4611686018427387904) (hrow : ∀ g ∈ gs, g.length < 4611686018427387904) :
    Pure (callW PG E Y 29 [.agg #[.int .i64 disks, gv, .int .i64 tiles, .int .i64 spare]] m n) m n (.bool (decide (VR disks gs tiles spare))) := by
  rw [callW_fn hE rfl]
  refine pure_of rfl ?_
  have hfr : ∀ b, b < n → (AMem.put m n (some (.cells [.int .i64 disks, gv, .int .i64 tiles, .int .i64 spare] 0 false true)) : FM) b = m b := fun b hb => fput_ne m n b _ (by omega)
  have hgs' := hgs.frame (n' := n + 1) (by omega) hfr
  have hp : (AMem.put m n (some (.cells [.int .i64 disks, gv, .int .i64 tiles, .int .i64 spare] 0 false true)) : FM) n = some (.cells [.int .i64 disks, gv, .int .i64 tiles, .int .i64 spare] 0 false true) := fput_same m n _
  obtain ⟨M, hM⟩ : ∃ M : FM, AMem.put m n (some (.cells [.int .i64 disks, gv, .int .i64 tiles, .int .i64 spare] 0 false true)) = M := ⟨_, rfl⟩
  rw [hM] at hgs' hp
  have hbn : Nat.mod (bit n) (bit n) = 0 := mod_bit_ge (Nat.le_refl n)
  have hdn : ldnV 2 M (n + 1) (.pointer (some ⟨n, 0 + 0, none⟩)) = .ok (.agg #[.int .i64 disks, gv]) M (n + 1) (bit n) 0 := ldn_at (by omega) hp rfl
  have hgv : ld1V M (n + 1) (.pointer (some ⟨n, 0 + 0 + 1, none⟩)) = .ok gv M (n + 1) (bit n) 0 := ld1_at (by omega) hp rfl
  have htl : ld1V M (n + 1) (.pointer (some ⟨n, 0 + 2, none⟩)) = .ok (.int .i64 tiles) M (n + 1) (bit n) 0 := ld1_at (by omega) hp rfl
  have hsp : ld1V M (n + 1) (.pointer (some ⟨n, 0 + 3, none⟩)) = .ok (.int .i64 spare) M (n + 1) (bit n) 0 := ld1_at (by omega) hp rfl
  obtain ⟨r44, h44⟩ := ref_spec (E := E) (Y := Y) hE2 M (n + 1) disks gv gs hgs' hl hrow
  have x0 : ∀ a b c : Value, extrV 0 (.tuple #[a, b, c]) = some a := fun _ _ _ => rfl
  have x1 : ∀ a b c : Value, extrV 1 (.tuple #[a, b, c]) = some b := fun _ _ _ => rfl
  have x2 : ∀ a b c : Value, extrV 2 (.tuple #[a, b, c]) = some c := fun _ _ _ => rfl
  rw [ac29]
  by_cases hg : GoodR disks gs
  · rw [refV_good hg] at h44
    obtain ⟨r, hr⟩ : ∃ r, (counts zeros gs)[0]! = r := ⟨_, rfl⟩
    have h0 : 0 < gs.length := by
      obtain ⟨⟨_, _, _, g0, hg0, _⟩, _⟩ := hg
      exact (List.getElem?_eq_some_iff.1 hg0).1
    obtain ⟨a0, b0, g0v, hix0, hld0, _, hg0⟩ := hgs'.at h0
    replace hix0 : idxV 1 0 gv = some (.pointer (some a0)) := hix0
    have hwd : width gs = (gs[0].length : Int) := by unfold width; rw [List.getElem?_eq_getElem h0]; rfl
    rw [hr] at h44
    by_cases c1 : tiles < 1
    · have hV : ¬ VR disks gs tiles spare := fun h => by have := h.2.1; omega
      simp only [Gv_add, w_seq, v_reg, q_cons, q_nil, q_nop, q_op, q_eff, q_opg, q_effg, keep_ok, drop1_ok, out_ok, crRec_mk, onNorm_norm, onNorm_exit, onNorm_ret, addRW_mk, w_cond, onCond_mk, w_block, onBlock_norm, onBlock_ret, onBlock_exit, w_pre, w_post, onPost_norm, onPost_exit, onPost_ret, w_exit, w_ret, onRet_mk, res_nil, res_cons, resO_v, retV_one, fixE_mk, lmap_nil, lmap_cons, ldrop_z, ldrop_s, ev_v, ev_c, lget_z, lget_s, evs_nil, evs_cons, s_mov, s_pick, s_bin, s_una, s_conv, s_fld, s_idx, s_ida, s_build, s_extr, s_nilck, s_len, s_mx, s_ld1, s_ldn, s_st, s_call, s_new, s_box, s_make, s_app, bin_int, i_add, i_sub, i_mul, i_eql, i_neq, i_lss, i_gtr, i_leq, i_geq, pick_mk, wantB_mk, una_not, fld_mk, nilck_mk, valO_some, lor_zero', zero_lor', cond_true, cond_false, Nat.beq_refl, natOf_mk, natOf_zero, natOf_one, obind_some, w_skip, Bool.not_true, Bool.not_false, wantB_undef, newb_fm, ptrP_mk, slcP_mk, cells_agg, hM, hdn, h44, x0, x1, x2, htl, hsp, c1, decide_true]
      exact ⟨by rw [decide_eq_false hV], hbn⟩
    by_cases c2 : 256 < tiles
    · have hV : ¬ VR disks gs tiles spare := fun h => by have := h.2.2.1; omega
      simp only [Gv_add, w_seq, v_reg, q_cons, q_nil, q_nop, q_op, q_eff, q_opg, q_effg, keep_ok, drop1_ok, out_ok, crRec_mk, onNorm_norm, onNorm_exit, onNorm_ret, addRW_mk, w_cond, onCond_mk, w_block, onBlock_norm, onBlock_ret, onBlock_exit, w_pre, w_post, onPost_norm, onPost_exit, onPost_ret, w_exit, w_ret, onRet_mk, res_nil, res_cons, resO_v, retV_one, fixE_mk, lmap_nil, lmap_cons, ldrop_z, ldrop_s, ev_v, ev_c, lget_z, lget_s, evs_nil, evs_cons, s_mov, s_pick, s_bin, s_una, s_conv, s_fld, s_idx, s_ida, s_build, s_extr, s_nilck, s_len, s_mx, s_ld1, s_ldn, s_st, s_call, s_new, s_box, s_make, s_app, bin_int, i_add, i_sub, i_mul, i_eql, i_neq, i_lss, i_gtr, i_leq, i_geq, pick_mk, wantB_mk, una_not, fld_mk, nilck_mk, valO_some, lor_zero', zero_lor', cond_true, cond_false, Nat.beq_refl, natOf_mk, natOf_zero, natOf_one, obind_some, w_skip, Bool.not_true, Bool.not_false, wantB_undef, newb_fm, ptrP_mk, slcP_mk, cells_agg, hM, hdn, h44, x0, x1, x2, htl, hsp, c1, c2, decide_true, decide_false]
      exact ⟨by rw [decide_eq_false hV], hbn⟩
    by_cases c3 : spare < 0
    · have hV : ¬ VR disks gs tiles spare := fun h => by have := h.2.2.2.1; omega
      simp only [Gv_add, w_seq, v_reg, q_cons, q_nil, q_nop, q_op, q_eff, q_opg, q_effg, keep_ok, drop1_ok, out_ok, crRec_mk, onNorm_norm, onNorm_exit, onNorm_ret, addRW_mk, w_cond, onCond_mk, w_block, onBlock_norm, onBlock_ret, onBlock_exit, w_pre, w_post, onPost_norm, onPost_exit, onPost_ret, w_exit, w_ret, onRet_mk, res_nil, res_cons, resO_v, retV_one, fixE_mk, lmap_nil, lmap_cons, ldrop_z, ldrop_s, ev_v, ev_c, lget_z, lget_s, evs_nil, evs_cons, s_mov, s_pick, s_bin, s_una, s_conv, s_fld, s_idx, s_ida, s_build, s_extr, s_nilck, s_len, s_mx, s_ld1, s_ldn, s_st, s_call, s_new, s_box, s_make, s_app, bin_int, i_add, i_sub, i_mul, i_eql, i_neq, i_lss, i_gtr, i_leq, i_geq, pick_mk, wantB_mk, una_not, fld_mk, nilck_mk, valO_some, lor_zero', zero_lor', cond_true, cond_false, Nat.beq_refl, natOf_mk, natOf_zero, natOf_one, obind_some, w_skip, Bool.not_true, Bool.not_false, wantB_undef, newb_fm, ptrP_mk, slcP_mk, cells_agg, hM, hdn, h44, x0, x1, x2, htl, hsp, c1, c2, c3, decide_true, decide_false]
      exact ⟨by rw [decide_eq_false hV], hbn⟩
    by_cases c4 : 65536 < spare
    · have hV : ¬ VR disks gs tiles spare := fun h => by have := h.2.2.2.2.1; omega
      simp only [Gv_add, w_seq, v_reg, q_cons, q_nil, q_nop, q_op, q_eff, q_opg, q_effg, keep_ok, drop1_ok, out_ok, crRec_mk, onNorm_norm, onNorm_exit, onNorm_ret, addRW_mk, w_cond, onCond_mk, w_block, onBlock_norm, onBlock_ret, onBlock_exit, w_pre, w_post, onPost_norm, onPost_exit, onPost_ret, w_exit, w_ret, onRet_mk, res_nil, res_cons, resO_v, retV_one, fixE_mk, lmap_nil, lmap_cons, ldrop_z, ldrop_s, ev_v, ev_c, lget_z, lget_s, evs_nil, evs_cons, s_mov, s_pick, s_bin, s_una, s_conv, s_fld, s_idx, s_ida, s_build, s_extr, s_nilck, s_len, s_mx, s_ld1, s_ldn, s_st, s_call, s_new, s_box, s_make, s_app, bin_int, i_add, i_sub, i_mul, i_eql, i_neq, i_lss, i_gtr, i_leq, i_geq, pick_mk, wantB_mk, una_not, fld_mk, nilck_mk, valO_some, lor_zero', zero_lor', cond_true, cond_false, Nat.beq_refl, natOf_mk, natOf_zero, natOf_one, obind_some, w_skip, Bool.not_true, Bool.not_false, wantB_undef, newb_fm, ptrP_mk, slcP_mk, cells_agg, hM, hdn, h44, x0, x1, x2, htl, hsp, c1, c2, c3, c4, decide_true, decide_false]
      exact ⟨by rw [decide_eq_false hV], hbn⟩
    by_cases c5 : (4 : Int) ≤ (gs[0].length : Int)
    · by_cases c6 : (gs[0].length : Int) ≤ (16 : Int)
      · by_cases c7 : IntKind.i64.wrap (tiles * (gs.length : Int)) ≤ (4096 : Int)
        · by_cases c8 : IntKind.i64.wrap (IntKind.i64.wrap (tiles * (gs.length : Int)) * IntKind.i64.wrap ((gs[0].length : Int) - (3 : Int))) ≤ (65536 : Int)
          · have hV : VR disks gs tiles spare ↔ IntKind.i64.wrap (IntKind.i64.wrap (tiles * r) + spare) ≤ 65536 := by
              unfold VR; rw [hwd, hr]
              exact ⟨fun h => h.2.2.2.2.2.2.2.2.2, fun h => ⟨hg, by omega, by omega, by omega, by omega, c5, c6, c7, c8, h⟩⟩
            simp only [Gv_add, w_seq, v_reg, q_cons, q_nil, q_nop, q_op, q_eff, q_opg, q_effg, keep_ok, drop1_ok, out_ok, crRec_mk, onNorm_norm, onNorm_exit, onNorm_ret, addRW_mk, w_cond, onCond_mk, w_block, onBlock_norm, onBlock_ret, onBlock_exit, w_pre, w_post, onPost_norm, onPost_exit, onPost_ret, w_exit, w_ret, onRet_mk, res_nil, res_cons, resO_v, retV_one, fixE_mk, lmap_nil, lmap_cons, ldrop_z, ldrop_s, ev_v, ev_c, lget_z, lget_s, evs_nil, evs_cons, s_mov, s_pick, s_bin, s_una, s_conv, s_fld, s_idx, s_ida, s_build, s_extr, s_nilck, s_len, s_mx, s_ld1, s_ldn, s_st, s_call, s_new, s_box, s_make, s_app, bin_int, i_add, i_sub, i_mul, i_eql, i_neq, i_lss, i_gtr, i_leq, i_geq, pick_mk, wantB_mk, una_not, fld_mk, nilck_mk, valO_some, lor_zero', zero_lor', cond_true, cond_false, Nat.beq_refl, natOf_mk, natOf_zero, natOf_one, obind_some, w_skip, Bool.not_true, Bool.not_false, wantB_undef, newb_fm, ptrP_mk, slcP_mk, cells_agg, hM, hdn, h44, x0, x1, x2, htl, hsp, hgv, hgs'.len, hix0, hld0, hg0.len, c1, c2, c3, c4, c5, c6, c7, c8, decide_true, decide_false]
            exact ⟨by rw [decide_eq_decide.2 hV], hbn⟩
          · have hV : ¬ VR disks gs tiles spare := fun h => by have := h.2.2.2.2.2.2.2.2.1; rw [hwd] at this; exact c8 this
            simp only [Gv_add, w_seq, v_reg, q_cons, q_nil, q_nop, q_op, q_eff, q_opg, q_effg, keep_ok, drop1_ok, out_ok, crRec_mk, onNorm_norm, onNorm_exit, onNorm_ret, addRW_mk, w_cond, onCond_mk, w_block, onBlock_norm, onBlock_ret, onBlock_exit, w_pre, w_post, onPost_norm, onPost_exit, onPost_ret, w_exit, w_ret, onRet_mk, res_nil, res_cons, resO_v, retV_one, fixE_mk, lmap_nil, lmap_cons, ldrop_z, ldrop_s, ev_v, ev_c, lget_z, lget_s, evs_nil, evs_cons, s_mov, s_pick, s_bin, s_una, s_conv, s_fld, s_idx, s_ida, s_build, s_extr, s_nilck, s_len, s_mx, s_ld1, s_ldn, s_st, s_call, s_new, s_box, s_make, s_app, bin_int, i_add, i_sub, i_mul, i_eql, i_neq, i_lss, i_gtr, i_leq, i_geq, pick_mk, wantB_mk, una_not, fld_mk, nilck_mk, valO_some, lor_zero', zero_lor', cond_true, cond_false, Nat.beq_refl, natOf_mk, natOf_zero, natOf_one, obind_some, w_skip, Bool.not_true, Bool.not_false, wantB_undef, newb_fm, ptrP_mk, slcP_mk, cells_agg, hM, hdn, h44, x0, x1, x2, htl, hsp, hgv, hgs'.len, hix0, hld0, hg0.len, c1, c2, c3, c4, c5, c6, c7, c8, decide_true, decide_false]
            exact ⟨by rw [decide_eq_false hV], hbn⟩
        · have hV : ¬ VR disks gs tiles spare := fun h => c7 h.2.2.2.2.2.2.2.1
          simp only [Gv_add, w_seq, v_reg, q_cons, q_nil, q_nop, q_op, q_eff, q_opg, q_effg, keep_ok, drop1_ok, out_ok, crRec_mk, onNorm_norm, onNorm_exit, onNorm_ret, addRW_mk, w_cond, onCond_mk, w_block, onBlock_norm, onBlock_ret, onBlock_exit, w_pre, w_post, onPost_norm, onPost_exit, onPost_ret, w_exit, w_ret, onRet_mk, res_nil, res_cons, resO_v, retV_one, fixE_mk, lmap_nil, lmap_cons, ldrop_z, ldrop_s, ev_v, ev_c, lget_z, lget_s, evs_nil, evs_cons, s_mov, s_pick, s_bin, s_una, s_conv, s_fld, s_idx, s_ida, s_build, s_extr, s_nilck, s_len, s_mx, s_ld1, s_ldn, s_st, s_call, s_new, s_box, s_make, s_app, bin_int, i_add, i_sub, i_mul, i_eql, i_neq, i_lss, i_gtr, i_leq, i_geq, pick_mk, wantB_mk, una_not, fld_mk, nilck_mk, valO_some, lor_zero', zero_lor', cond_true, cond_false, Nat.beq_refl, natOf_mk, natOf_zero, natOf_one, obind_some, w_skip, Bool.not_true, Bool.not_false, wantB_undef, newb_fm, ptrP_mk, slcP_mk, cells_agg, hM, hdn, h44, x0, x1, x2, htl, hsp, hgv, hgs'.len, hix0, hld0, hg0.len, c1, c2, c3, c4, c5, c6, c7, decide_true, decide_false]
          exact ⟨by rw [decide_eq_false hV], hbn⟩
      · have hV : ¬ VR disks gs tiles spare := fun h => by have := h.2.2.2.2.2.2.1; rw [hwd] at this; exact c6 this
        simp only [Gv_add, w_seq, v_reg, q_cons, q_nil, q_nop, q_op, q_eff, q_opg, q_effg, keep_ok, drop1_ok, out_ok, crRec_mk, onNorm_norm, onNorm_exit, onNorm_ret, addRW_mk, w_cond, onCond_mk, w_block, onBlock_norm, onBlock_ret, onBlock_exit, w_pre, w_post, onPost_norm, onPost_exit, onPost_ret, w_exit, w_ret, onRet_mk, res_nil, res_cons, resO_v, retV_one, fixE_mk, lmap_nil, lmap_cons, ldrop_z, ldrop_s, ev_v, ev_c, lget_z, lget_s, evs_nil, evs_cons, s_mov, s_pick, s_bin, s_una, s_conv, s_fld, s_idx, s_ida, s_build, s_extr, s_nilck, s_len, s_mx, s_ld1, s_ldn, s_st, s_call, s_new, s_box, s_make, s_app, bin_int, i_add, i_sub, i_mul, i_eql, i_neq, i_lss, i_gtr, i_leq, i_geq, pick_mk, wantB_mk, una_not, fld_mk, nilck_mk, valO_some, lor_zero', zero_lor', cond_true, cond_false, Nat.beq_refl, natOf_mk, natOf_zero, natOf_one, obind_some, w_skip, Bool.not_true, Bool.not_false, wantB_undef, newb_fm, ptrP_mk, slcP_mk, cells_agg, hM, hdn, h44, x0, x1, x2, htl, hsp, hgv, hgs'.len, hix0, hld0, hg0.len, c1, c2, c3, c4, c5, c6, decide_true, decide_false]
        exact ⟨by rw [decide_eq_false hV], hbn⟩
    · have hV : ¬ VR disks gs tiles spare := fun h => by have := h.2.2.2.2.2.1; rw [hwd] at this; exact c5 this
      simp only [Gv_add, w_seq, v_reg, q_cons, q_nil, q_nop, q_op, q_eff, q_opg, q_effg, keep_ok, drop1_ok, out_ok, crRec_mk, onNorm_norm, onNorm_exit, onNorm_ret, addRW_mk, w_cond, onCond_mk, w_block, onBlock_norm, onBlock_ret, onBlock_exit, w_pre, w_post, onPost_norm, onPost_exit, onPost_ret, w_exit, w_ret, onRet_mk, res_nil, res_cons, resO_v, retV_one, fixE_mk, lmap_nil, lmap_cons, ldrop_z, ldrop_s, ev_v, ev_c, lget_z, lget_s, evs_nil, evs_cons, s_mov, s_pick, s_bin, s_una, s_conv, s_fld, s_idx, s_ida, s_build, s_extr, s_nilck, s_len, s_mx, s_ld1, s_ldn, s_st, s_call, s_new, s_box, s_make, s_app, bin_int, i_add, i_sub, i_mul, i_eql, i_neq, i_lss, i_gtr, i_leq, i_geq, pick_mk, wantB_mk, una_not, fld_mk, nilck_mk, valO_some, lor_zero', zero_lor', cond_true, cond_false, Nat.beq_refl, natOf_mk, natOf_zero, natOf_one, obind_some, w_skip, Bool.not_true, Bool.not_false, wantB_undef, newb_fm, ptrP_mk, slcP_mk, cells_agg, hM, hdn, h44, x0, x1, x2, htl, hsp, hgv, hgs'.len, hix0, hld0, hg0.len, c1, c2, c3, c4, c5, decide_true, decide_false]
      exact ⟨by rw [decide_eq_false hV], hbn⟩
  · have hV : ¬ VR disks gs tiles spare := fun h => hg h.1
    obtain ⟨r, l, hrl⟩ := refV_bad hg
    rw [hrl] at h44
    simp only [Gv_add, w_seq, v_reg, q_cons, q_nil, q_nop, q_op, q_eff, q_opg, q_effg, keep_ok, drop1_ok, out_ok, crRec_mk, onNorm_norm, onNorm_exit, onNorm_ret, addRW_mk, w_cond, onCond_mk, w_block, onBlock_norm, onBlock_ret, onBlock_exit, w_pre, w_post, onPost_norm, onPost_exit, onPost_ret, w_exit, w_ret, onRet_mk, res_nil, res_cons, resO_v, retV_one, fixE_mk, lmap_nil, lmap_cons, ldrop_z, ldrop_s, ev_v, ev_c, lget_z, lget_s, evs_nil, evs_cons, s_mov, s_pick, s_bin, s_una, s_conv, s_fld, s_idx, s_ida, s_build, s_extr, s_nilck, s_len, s_mx, s_ld1, s_ldn, s_st, s_call, s_new, s_box, s_make, s_app, bin_int, i_add, i_sub, i_mul, i_eql, i_neq, i_lss, i_gtr, i_leq, i_geq, pick_mk, wantB_mk, una_not, fld_mk, nilck_mk, valO_some, lor_zero', zero_lor', cond_true, cond_false, Nat.beq_refl, natOf_mk, natOf_zero, natOf_one, obind_some, w_skip, Bool.not_true, Bool.not_false, wantB_undef, newb_fm, ptrP_mk, slcP_mk, cells_agg, hM, hdn, h44, x0, x1, x2]
    exact ⟨by rw [decide_eq_false hV], hbn⟩
end Go.Am.C21
