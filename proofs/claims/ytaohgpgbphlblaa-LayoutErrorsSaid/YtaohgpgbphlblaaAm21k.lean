/- Chapter 21: few, and the reference's Valid. -/
import Derived.Test.YtaohgpgbphlblaaAm21j
set_option linter.unusedVariables false
set_option linter.unusedSimpArgs false
set_option linter.unusedSectionVars false
namespace Go.Am.C21
open Go Go.Am
set_option linter.unusedVariables false
variable {E : Nat → Option AFn} {Y : Nat → List Value → FM → Nat → OR FM}
/-- every group from a place on has at most 20 disks -/
def FewFrom (gs : List (List Int)) (j : Nat) : Prop := ∀ i g, j ≤ i → gs[i]? = some g → g.length ≤ 20
theorem fewFrom_end {gs : List (List Int)} {j : Nat} (h : gs.length ≤ j) : FewFrom gs j := fun i g h1 h2 => by
  have := (List.getElem?_eq_some_iff.1 h2).1; omega
theorem fewFrom_step {gs : List (List Int)} {j : Nat} (h : j < gs.length) : FewFrom gs j ↔ gs[j].length ≤ 20 ∧ FewFrom gs (j + 1) :=
  ⟨fun hr => ⟨hr j _ (Nat.le_refl _) (List.getElem?_eq_getElem h), fun i g h1 h2 => hr i g (by omega) h2⟩, fun ⟨h1, h2⟩ i g h3 h4 => by
    rcases Nat.eq_or_lt_of_le h3 with rfl | h5
    · rw [List.getElem?_eq_getElem h] at h4; injection h4 with h4; subst h4; exact h1
    · exact h2 i g h5 h4⟩
theorem few_L0 (M : FM) (N p : Nat) (gv : Value) (hgv : ld1V M N (.pointer (some ⟨p, 0 + 0 + 1, none⟩)) = .ok gv M N (bit p) 0) (gs : List (List Int)) (hgs : Rows M N gv gs) (hl : gs.length ≤ 60) (x0 x2 x3 x4 x6 : Value) : ∀ d j, j + d = gs.length →
    Gv (execW PG E Y ac27L0 [x0, .int .i64 (j : Int), x2, x3, x4, .pointer (some ⟨p, 0, none⟩), x6] M N) fun X e' m' n' w => m' = M ∧ n' = N ∧ w = 0 ∧
      ((FewFrom gs j ∧ X = .exit 0 ∧ e' = [x0, x2, x3, x4, .pointer (some ⟨p, 0, none⟩), x6]) ∨ (¬ FewFrom gs j ∧ X = .ret (.bool false))) := by
  intro d
  induction d with
  | zero =>
    intro j hj
    have hjl : (j : Int) = (gs.length : Int) := by omega
    have hlt : ¬ ((gs.length : Int) < (gs.length : Int)) := by omega
    rw [ac27L0_w, hjl]
    simp only [ac27L0b, Gv_add, w_seq, v_reg, q_cons, q_nil, q_nop, q_op, q_eff, q_opg, q_effg, keep_ok, drop1_ok, out_ok, crRec_mk, onNorm_norm, onNorm_exit, onNorm_ret, addRW_mk, w_cond, onCond_mk, w_block, onBlock_norm, onBlock_ret, onBlock_exit, w_pre, w_post, onPost_norm, onPost_exit, onPost_ret, w_exit, w_ret, onRet_mk, res_nil, res_cons, resO_v, retV_one, fixE_mk, lmap_nil, lmap_cons, ldrop_z, ldrop_s, ev_v, ev_c, lget_z, lget_s, evs_nil, evs_cons, s_mov, s_pick, s_bin, s_una, s_conv, s_fld, s_idx, s_ida, s_build, s_extr, s_nilck, s_len, s_mx, s_ld1, s_ldn, s_st, s_call, s_new, s_box, s_make, s_app, bin_int, i_add, i_sub, i_mul, i_eql, i_neq, i_lss, i_gtr, i_leq, i_geq, pick_mk, wantB_mk, una_not, fld_mk, nilck_mk, valO_some, lor_zero', zero_lor', cond_true, cond_false, Nat.beq_refl, natOf_mk, natOf_zero, natOf_one, obind_some, w_skip, Bool.not_true, Bool.not_false, wantB_undef, newb_fm, ptrP_mk, slcP_mk, cells_agg, hgv, hgs.len, hlt, decide_false]
    exact ⟨rfl, rfl, rfl, .inl ⟨fewFrom_end (by omega), rfl, rfl⟩⟩
  | succ d ih =>
    intro j hj
    have hlt : (j : Int) < (gs.length : Int) := by omega
    have hjl : j < gs.length := by omega
    obtain ⟨a, b, gval, hix, hld, hb, hg⟩ := hgs.at hjl
    have hw : IntKind.i64.wrap ((j : Int) + 1) = ((j + 1 : Nat) : Int) := by rw [wrap_small (by omega) (by omega)]; omega
    have hstep := fewFrom_step hjl
    rw [ac27L0_w]
    by_cases h1 : (20 : Int) < (gs[j].length : Int)
    · simp only [ac27L0b, Gv_add, w_seq, v_reg, q_cons, q_nil, q_nop, q_op, q_eff, q_opg, q_effg, keep_ok, drop1_ok, out_ok, crRec_mk, onNorm_norm, onNorm_exit, onNorm_ret, addRW_mk, w_cond, onCond_mk, w_block, onBlock_norm, onBlock_ret, onBlock_exit, w_pre, w_post, onPost_norm, onPost_exit, onPost_ret, w_exit, w_ret, onRet_mk, res_nil, res_cons, resO_v, retV_one, fixE_mk, lmap_nil, lmap_cons, ldrop_z, ldrop_s, ev_v, ev_c, lget_z, lget_s, evs_nil, evs_cons, s_mov, s_pick, s_bin, s_una, s_conv, s_fld, s_idx, s_ida, s_build, s_extr, s_nilck, s_len, s_mx, s_ld1, s_ldn, s_st, s_call, s_new, s_box, s_make, s_app, bin_int, i_add, i_sub, i_mul, i_eql, i_neq, i_lss, i_gtr, i_leq, i_geq, pick_mk, wantB_mk, una_not, fld_mk, nilck_mk, valO_some, lor_zero', zero_lor', cond_true, cond_false, Nat.beq_refl, natOf_mk, natOf_zero, natOf_one, obind_some, w_skip, Bool.not_true, Bool.not_false, wantB_undef, newb_fm, ptrP_mk, slcP_mk, cells_agg, hgv, hgs.len, hlt, decide_true, hix, hld, hg.len, h1]
      exact ⟨rfl, rfl, rfl, .inr ⟨fun h => by have := (hstep.1 h).1; omega, rfl⟩⟩
    · simp only [ac27L0b, Gv_add, w_seq, v_reg, q_cons, q_nil, q_nop, q_op, q_eff, q_opg, q_effg, keep_ok, drop1_ok, out_ok, crRec_mk, onNorm_norm, onNorm_exit, onNorm_ret, addRW_mk, w_cond, onCond_mk, w_block, onBlock_norm, onBlock_ret, onBlock_exit, w_pre, w_post, onPost_norm, onPost_exit, onPost_ret, w_exit, w_ret, onRet_mk, res_nil, res_cons, resO_v, retV_one, fixE_mk, lmap_nil, lmap_cons, ldrop_z, ldrop_s, ev_v, ev_c, lget_z, lget_s, evs_nil, evs_cons, s_mov, s_pick, s_bin, s_una, s_conv, s_fld, s_idx, s_ida, s_build, s_extr, s_nilck, s_len, s_mx, s_ld1, s_ldn, s_st, s_call, s_new, s_box, s_make, s_app, bin_int, i_add, i_sub, i_mul, i_eql, i_neq, i_lss, i_gtr, i_leq, i_geq, pick_mk, wantB_mk, una_not, fld_mk, nilck_mk, valO_some, lor_zero', zero_lor', cond_true, cond_false, Nat.beq_refl, natOf_mk, natOf_zero, natOf_one, obind_some, w_skip, Bool.not_true, Bool.not_false, wantB_undef, newb_fm, ptrP_mk, slcP_mk, cells_agg, hgv, hgs.len, hlt, decide_true, decide_false, hix, hld, hg.len, h1, hw]
      refine Gv.mono (ih (j + 1) (by omega)) fun X e' m' n' w h => ?_
      have hiff : FewFrom gs j ↔ FewFrom gs (j + 1) := by rw [hstep]; exact ⟨fun h => h.2, fun h => ⟨by omega, h⟩⟩
      rw [hiff]
      simpa only [zero_lor'] using h
/-- what 'few' says -/
def Few (gs : List (List Int)) : Prop := gs.length ≤ 60 ∧ FewFrom gs 0
open Classical in
theorem few_spec (hE : E 27 = some ac27) (m : FM) (n : Nat) (disks tiles spare : Int) (gv : Value) (gs : List (List Int)) (hgs : Rows m n gv gs) :
    Pure (callW PG E Y 27 [.agg #[.int .i64 disks, gv, .int .i64 tiles, .int .i64 spare]] m n) m n (.bool (decide (Few gs))) := by
  rw [callW_fn hE rfl]
  refine pure_of rfl ?_
  have hfr : ∀ b, b < n → (AMem.put m n (some (.cells [.int .i64 disks, gv, .int .i64 tiles, .int .i64 spare] 0 false true)) : FM) b = m b := fun b hb => fput_ne m n b _ (by omega)
  have hgs' := hgs.frame (n' := n + 1) (by omega) hfr
  have hp : (AMem.put m n (some (.cells [.int .i64 disks, gv, .int .i64 tiles, .int .i64 spare] 0 false true)) : FM) n = some (.cells [.int .i64 disks, gv, .int .i64 tiles, .int .i64 spare] 0 false true) := fput_same m n _
  obtain ⟨M, hM⟩ : ∃ M : FM, AMem.put m n (some (.cells [.int .i64 disks, gv, .int .i64 tiles, .int .i64 spare] 0 false true)) = M := ⟨_, rfl⟩
  rw [hM] at hgs' hp
  have hbn : Nat.mod (bit n) (bit n) = 0 := mod_bit_ge (Nat.le_refl n)
  have hgv : ld1V M (n + 1) (.pointer (some ⟨n, 0 + 0 + 1, none⟩)) = .ok gv M (n + 1) (bit n) 0 := ld1_at (by omega) hp rfl
  rw [ac27]
  by_cases c1 : (60 : Int) < (gs.length : Int)
  · have hF : ¬ Few gs := fun h => by have := h.1; omega
    simp only [Gv_add, w_seq, v_reg, q_cons, q_nil, q_nop, q_op, q_eff, q_opg, q_effg, keep_ok, drop1_ok, out_ok, crRec_mk, onNorm_norm, onNorm_exit, onNorm_ret, addRW_mk, w_cond, onCond_mk, w_block, onBlock_norm, onBlock_ret, onBlock_exit, w_pre, w_post, onPost_norm, onPost_exit, onPost_ret, w_exit, w_ret, onRet_mk, res_nil, res_cons, resO_v, retV_one, fixE_mk, lmap_nil, lmap_cons, ldrop_z, ldrop_s, ev_v, ev_c, lget_z, lget_s, evs_nil, evs_cons, s_mov, s_pick, s_bin, s_una, s_conv, s_fld, s_idx, s_ida, s_build, s_extr, s_nilck, s_len, s_mx, s_ld1, s_ldn, s_st, s_call, s_new, s_box, s_make, s_app, bin_int, i_add, i_sub, i_mul, i_eql, i_neq, i_lss, i_gtr, i_leq, i_geq, pick_mk, wantB_mk, una_not, fld_mk, nilck_mk, valO_some, lor_zero', zero_lor', cond_true, cond_false, Nat.beq_refl, natOf_mk, natOf_zero, natOf_one, obind_some, w_skip, Bool.not_true, Bool.not_false, wantB_undef, newb_fm, ptrP_mk, slcP_mk, cells_agg, hM, hgv, hgs'.len, c1, decide_true]
    exact ⟨by rw [decide_eq_false hF], hbn⟩
  · have hL := fun x0 x2 x3 x4 x6 => few_L0 (E := E) (Y := Y) M (n + 1) n gv hgv gs hgs' (by omega) x0 x2 x3 x4 x6 gs.length 0 (by omega)
    obtain ⟨rf, ef, hnm⟩ := named_r (fun l => execW PG E Y ac27L0 l M (n + 1))
    by_cases hf : FewFrom gs 0
    · have hF : Few gs := ⟨by omega, hf⟩
      have hLe : ∀ x0 x2 x3 x4 x6, execW PG E Y ac27L0 [x0, .int .i64 0, x2, x3, x4, .pointer (some ⟨n, 0, none⟩), x6] M (n + 1) = .ok (.exit 0) [x0, x2, x3, x4, .pointer (some ⟨n, 0, none⟩), x6] M (n + 1) (rf [x0, .int .i64 0, x2, x3, x4, .pointer (some ⟨n, 0, none⟩), x6]) 0 := fun x0 x2 x3 x4 x6 => by
        rw [(hnm _).1]
        refine gv_norm ((hL x0 x2 x3 x4 x6).mono fun X e' m' n' w hh => ?_)
        obtain ⟨h1, h2, h3, h4⟩ := hh
        rcases h4 with ⟨_, h5, h6⟩ | ⟨h5, _⟩
        · exact ⟨h5, h6, h1, h2, h3⟩
        · exact absurd hf h5
      simp only [Gv_add, w_seq, v_reg, q_cons, q_nil, q_nop, q_op, q_eff, q_opg, q_effg, keep_ok, drop1_ok, out_ok, crRec_mk, onNorm_norm, onNorm_exit, onNorm_ret, addRW_mk, w_cond, onCond_mk, w_block, onBlock_norm, onBlock_ret, onBlock_exit, w_pre, w_post, onPost_norm, onPost_exit, onPost_ret, w_exit, w_ret, onRet_mk, res_nil, res_cons, resO_v, retV_one, fixE_mk, lmap_nil, lmap_cons, ldrop_z, ldrop_s, ev_v, ev_c, lget_z, lget_s, evs_nil, evs_cons, s_mov, s_pick, s_bin, s_una, s_conv, s_fld, s_idx, s_ida, s_build, s_extr, s_nilck, s_len, s_mx, s_ld1, s_ldn, s_st, s_call, s_new, s_box, s_make, s_app, bin_int, i_add, i_sub, i_mul, i_eql, i_neq, i_lss, i_gtr, i_leq, i_geq, pick_mk, wantB_mk, una_not, fld_mk, nilck_mk, valO_some, lor_zero', zero_lor', cond_true, cond_false, Nat.beq_refl, natOf_mk, natOf_zero, natOf_one, obind_some, w_skip, Bool.not_true, Bool.not_false, wantB_undef, newb_fm, ptrP_mk, slcP_mk, cells_agg, hM, hgv, hgs'.len, c1, decide_false, hLe]
      exact ⟨by rw [decide_eq_true hF], hbn⟩
    · have hF : ¬ Few gs := fun h => hf h.2
      have hLe : ∀ x0 x2 x3 x4 x6, execW PG E Y ac27L0 [x0, .int .i64 0, x2, x3, x4, .pointer (some ⟨n, 0, none⟩), x6] M (n + 1) = .ok (.ret (.bool false)) (ef [x0, .int .i64 0, x2, x3, x4, .pointer (some ⟨n, 0, none⟩), x6]) M (n + 1) (rf [x0, .int .i64 0, x2, x3, x4, .pointer (some ⟨n, 0, none⟩), x6]) 0 := fun x0 x2 x3 x4 x6 => by
        rw [(hnm _).1, (hnm _).2]
        refine gv_ret ((hL x0 x2 x3 x4 x6).mono fun X e' m' n' w hh => ?_)
        obtain ⟨h1, h2, h3, h4⟩ := hh
        rcases h4 with ⟨h5, _, _⟩ | ⟨_, h5⟩
        · exact absurd h5 hf
        · exact ⟨h5, h1, h2, h3⟩
      simp only [Gv_add, w_seq, v_reg, q_cons, q_nil, q_nop, q_op, q_eff, q_opg, q_effg, keep_ok, drop1_ok, out_ok, crRec_mk, onNorm_norm, onNorm_exit, onNorm_ret, addRW_mk, w_cond, onCond_mk, w_block, onBlock_norm, onBlock_ret, onBlock_exit, w_pre, w_post, onPost_norm, onPost_exit, onPost_ret, w_exit, w_ret, onRet_mk, res_nil, res_cons, resO_v, retV_one, fixE_mk, lmap_nil, lmap_cons, ldrop_z, ldrop_s, ev_v, ev_c, lget_z, lget_s, evs_nil, evs_cons, s_mov, s_pick, s_bin, s_una, s_conv, s_fld, s_idx, s_ida, s_build, s_extr, s_nilck, s_len, s_mx, s_ld1, s_ldn, s_st, s_call, s_new, s_box, s_make, s_app, bin_int, i_add, i_sub, i_mul, i_eql, i_neq, i_lss, i_gtr, i_leq, i_geq, pick_mk, wantB_mk, una_not, fld_mk, nilck_mk, valO_some, lor_zero', zero_lor', cond_true, cond_false, Nat.beq_refl, natOf_mk, natOf_zero, natOf_one, obind_some, w_skip, Bool.not_true, Bool.not_false, wantB_undef, newb_fm, ptrP_mk, slcP_mk, cells_agg, hM, hgv, hgs'.len, c1, decide_false, hLe]
      exact ⟨by rw [decide_eq_false hF], hbn⟩
end Go.Am.C21
