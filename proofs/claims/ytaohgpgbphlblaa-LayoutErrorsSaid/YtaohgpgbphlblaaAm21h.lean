/- Chapter 21: tegularef07.Check, the groups. -/
import Derived.Test.YtaohgpgbphlblaaAm21g
set_option linter.unusedVariables false
set_option linter.unusedSimpArgs false
set_option linter.unusedSectionVars false
namespace Go.Am.C21
open Go Go.Am
set_option linter.unusedVariables false
variable {E : Nat → Option AFn} {Y : Nat → List Value → FM → Nat → OR FM}
theorem ref_L0_yes (M : FM) (N q : Nat) (hqN : q < N) (g : List Int) (gval : Value) (hg : Ints M N gval g) (hl : g.length < 4611686018427387904) (p : Nat) (disks : Int) (hpN : p < N) (hpd : ld1V M N (.pointer (some ⟨p, 0 + 0, none⟩)) = .ok (.int .i64 disks) M N (bit p) 0) (hr : RowFrom disks g 0) :
    ∃ rf : List Value → Nat, ∀ (t : Int) x0 x1 x2 x4 x5 x6 x7 x8 x9 x10 x11 x12 x13 x14 x15 x17 x18 x19 x20 x21 x22 x23 x24 x25 x26 x28 x30 x31 x32 x33 x35, execW PG E Y ac44L0 [x0, x1, x2, .int .i64 0, x4, x5, x6, x7, x8, x9, x10, x11, x12, x13, x14, x15, gval, x17, x18, x19, x20, x21, x22, x23, x24, x25, x26, .int .i64 t, x28, .pointer (some ⟨q, 0, none⟩), x30, x31, x32, x33, .pointer (some ⟨p, 0, none⟩), x35] M N = .ok (.exit 2) [x0, x1, x2, .int .i64 (g.length : Int), x4, x5, x6, x7, x8, x9, x10, x11, x12, x13, x14, x15, gval, x17, x18, x19, x20, x21, x22, x23, x24, x25, x26, .int .i64 t, x28, .pointer (some ⟨q, 0, none⟩), x30, x31, x32, x33, .pointer (some ⟨p, 0, none⟩), x35] M N (rf [x0, x1, x2, .int .i64 0, x4, x5, x6, x7, x8, x9, x10, x11, x12, x13, x14, x15, gval, x17, x18, x19, x20, x21, x22, x23, x24, x25, x26, .int .i64 t, x28, .pointer (some ⟨q, 0, none⟩), x30, x31, x32, x33, .pointer (some ⟨p, 0, none⟩), x35]) 0 := by
  obtain ⟨rf, ef, h⟩ := named_r (fun l => execW PG E Y ac44L0 l M N)
  refine ⟨rf, fun t x0 x1 x2 x4 x5 x6 x7 x8 x9 x10 x11 x12 x13 x14 x15 x17 x18 x19 x20 x21 x22 x23 x24 x25 x26 x28 x30 x31 x32 x33 x35 => ?_⟩
  rw [(h _).1]
  refine gv_norm (Gv.mono (ref_L0 (E := E) (Y := Y) M N q hqN g gval hg hl p disks hpN hpd x0 x1 x2 x4 x5 x6 x7 x8 x9 x10 x11 x12 x13 x14 x15 x17 x18 x19 x20 x21 x22 x23 x24 x25 x26 (.int .i64 t) x28 x30 x31 x32 x33 x35 rfl g.length 0 (by omega)) fun X e' m' n' w hh => ?_)
  obtain ⟨h1, h2, h3, h4⟩ := hh
  rcases h4 with ⟨_, h5, h6⟩ | ⟨h5, _⟩
  · exact ⟨h5, h6, h1, h2, h3⟩
  · exact absurd hr h5
theorem ref_L0_no (M : FM) (N q : Nat) (hqN : q < N) (g : List Int) (gval : Value) (hg : Ints M N gval g) (hl : g.length < 4611686018427387904) (p : Nat) (disks : Int) (hpN : p < N) (hpd : ld1V M N (.pointer (some ⟨p, 0 + 0, none⟩)) = .ok (.int .i64 disks) M N (bit p) 0) (hr : ¬ RowFrom disks g 0) :
    ∃ (rf : List Value → Nat) (ef : List Value → List Value), ∀ (t : Int) x0 x1 x2 x4 x5 x6 x7 x8 x9 x10 x11 x12 x13 x14 x15 x17 x18 x19 x20 x21 x22 x23 x24 x25 x26 x28 x30 x31 x32 x33 x35, execW PG E Y ac44L0 [x0, x1, x2, .int .i64 0, x4, x5, x6, x7, x8, x9, x10, x11, x12, x13, x14, x15, gval, x17, x18, x19, x20, x21, x22, x23, x24, x25, x26, .int .i64 t, x28, .pointer (some ⟨q, 0, none⟩), x30, x31, x32, x33, .pointer (some ⟨p, 0, none⟩), x35] M N = .ok (.ret errF) (ef [x0, x1, x2, .int .i64 0, x4, x5, x6, x7, x8, x9, x10, x11, x12, x13, x14, x15, gval, x17, x18, x19, x20, x21, x22, x23, x24, x25, x26, .int .i64 t, x28, .pointer (some ⟨q, 0, none⟩), x30, x31, x32, x33, .pointer (some ⟨p, 0, none⟩), x35]) M N (rf [x0, x1, x2, .int .i64 0, x4, x5, x6, x7, x8, x9, x10, x11, x12, x13, x14, x15, gval, x17, x18, x19, x20, x21, x22, x23, x24, x25, x26, .int .i64 t, x28, .pointer (some ⟨q, 0, none⟩), x30, x31, x32, x33, .pointer (some ⟨p, 0, none⟩), x35]) 0 := by
  obtain ⟨rf, ef, h⟩ := named_r (fun l => execW PG E Y ac44L0 l M N)
  refine ⟨rf, ef, fun t x0 x1 x2 x4 x5 x6 x7 x8 x9 x10 x11 x12 x13 x14 x15 x17 x18 x19 x20 x21 x22 x23 x24 x25 x26 x28 x30 x31 x32 x33 x35 => ?_⟩
  rw [(h _).1, (h _).2]
  refine gv_ret (Gv.mono (ref_L0 (E := E) (Y := Y) M N q hqN g gval hg hl p disks hpN hpd x0 x1 x2 x4 x5 x6 x7 x8 x9 x10 x11 x12 x13 x14 x15 x17 x18 x19 x20 x21 x22 x23 x24 x25 x26 (.int .i64 t) x28 x30 x31 x32 x33 x35 rfl g.length 0 (by omega)) fun X e' m' n' w hh => ?_)
  obtain ⟨h1, h2, h3, h4⟩ := hh
  rcases h4 with ⟨h5, _, _⟩ | ⟨_, h5⟩
  · exact absurd h5 hr
  · exact ⟨h5, h1, h2, h3⟩
/-- the groups from a place on are formed, as the reference asks it -/
def GroupsR (disks : Int) (w : Nat) (gs : List (List Int)) (j : Nat) : Prop := ∀ i g, j ≤ i → gs[i]? = some g → (2 ≤ g.length ∧ g.length = w) ∧ RowFrom disks g 0
theorem groupsR_end {disks : Int} {w : Nat} {gs : List (List Int)} {j : Nat} (h : gs.length ≤ j) : GroupsR disks w gs j := fun i g h1 h2 => by
  have := (List.getElem?_eq_some_iff.1 h2).1; omega
theorem groupsR_step {disks : Int} {w : Nat} {gs : List (List Int)} {j : Nat} (h : j < gs.length) : GroupsR disks w gs j ↔ ((2 ≤ gs[j].length ∧ gs[j].length = w) ∧ RowFrom disks gs[j] 0) ∧ GroupsR disks w gs (j + 1) :=
  ⟨fun hr => ⟨hr j _ (Nat.le_refl _) (List.getElem?_eq_getElem h), fun i g h1 h2 => hr i g (by omega) h2⟩, fun ⟨h1, h2⟩ i g h3 h4 => by
    rcases Nat.eq_or_lt_of_le h3 with rfl | h5
    · rw [List.getElem?_eq_getElem h] at h4; injection h4 with h4; subst h4; exact h1
    · exact h2 i g h5 h4⟩
theorem ref_L3 (M : FM) (N q n0 : Nat) (hqN : q < N) (hn0 : n0 ≤ q) (p : Nat) (hpq : p < q) (disks : Int) (hd : disks ≤ 60) (gv : Value) (hp : M p = some (.cells [.int .i64 disks, gv] 0 false true)) (gs : List (List Int)) (hgs : Rows M q gv gs) (hl : gs.length < 4611686018427387904) (hrow : ∀ g ∈ gs, g.length < 4611686018427387904) (h0 : 0 < gs.length)
    (x0 x1 x2 x4 x6 x7 x8 x9 x11 : Value) : ∀ d j, j + d = gs.length → ∀ A : List Int, A.length = 3600 →
    Gv (execW PG E Y ac44L3 [x0, x1, x2, .int .i64 (j : Int), x4, .pointer (some ⟨q, 0, none⟩), x6, x7, x8, x9, .pointer (some ⟨p, 0, none⟩), x11] (arr M q A) N) fun X e' m' n' w => n' = N ∧ Nat.mod w (bit n0) = 0 ∧
      ((GroupsR disks gs[0].length gs j ∧ X = .exit 0 ∧ e' = [x0, x1, x2, x4, .pointer (some ⟨q, 0, none⟩), x6, x7, x8, x9, .pointer (some ⟨p, 0, none⟩), x11] ∧ m' = arr M q (counts A (gs.drop j))) ∨ (¬ GroupsR disks gs[0].length gs j ∧ X = .ret errF)) := by
  intro d
  have hfr : ∀ A b, b < q → arr M q A b = M b := fun A b hb => fput_ne M q b _ (by omega)
  have hpA : ∀ A, arr M q A p = some (.cells [.int .i64 disks, gv] 0 false true) := fun A => (hfr A p hpq).trans hp
  have hgv : ∀ A, ld1V (arr M q A) N (.pointer (some ⟨p, 0 + 1, none⟩)) = .ok gv (arr M q A) N (bit p) 0 := fun A => ld1_at (by omega) (hpA A) rfl
  have hpd : ∀ A, ld1V (arr M q A) N (.pointer (some ⟨p, 0 + 0, none⟩)) = .ok (.int .i64 disks) (arr M q A) N (bit p) 0 := fun A => ld1_at (by omega) (hpA A) rfl
  induction d with
  | zero =>
    intro j hj A hA
    have hjl : (j : Int) = (gs.length : Int) := by omega
    have hlt : ¬ ((gs.length : Int) < (gs.length : Int)) := by omega
    have hgvA := hgv A
    rw [ac44L3_w, hjl]
    simp only [ac44L3b, Gv_add, w_seq, v_reg, q_cons, q_nil, q_nop, q_op, q_eff, q_opg, q_effg, keep_ok, drop1_ok, out_ok, crRec_mk, onNorm_norm, onNorm_exit, onNorm_ret, addRW_mk, w_cond, onCond_mk, w_block, onBlock_norm, onBlock_ret, onBlock_exit, w_pre, w_post, onPost_norm, onPost_exit, onPost_ret, w_exit, w_ret, onRet_mk, res_nil, res_cons, resO_v, retV_one, fixE_mk, lmap_nil, lmap_cons, ldrop_z, ldrop_s, ev_v, ev_c, lget_z, lget_s, evs_nil, evs_cons, s_mov, s_pick, s_bin, s_una, s_conv, s_fld, s_idx, s_ida, s_build, s_extr, s_nilck, s_len, s_mx, s_ld1, s_ldn, s_st, s_call, s_new, s_box, s_make, s_app, bin_int, i_add, i_sub, i_mul, i_eql, i_neq, i_lss, i_gtr, i_leq, i_geq, pick_mk, wantB_mk, una_not, fld_mk, nilck_mk, valO_some, lor_zero', zero_lor', cond_true, cond_false, Nat.beq_refl, natOf_mk, natOf_zero, natOf_one, obind_some, w_skip, Bool.not_true, Bool.not_false, wantB_undef, newb_fm, ptrP_mk, slcP_mk, cells_agg, hgvA, hgs.len, hlt, decide_false]
    exact ⟨rfl, mod_zero _, .inl ⟨groupsR_end (by omega), rfl, rfl, by rw [List.drop_eq_nil_of_le (by omega)]; rfl⟩⟩
  | succ d ih =>
    intro j hj A hA
    have hlt : (j : Int) < (gs.length : Int) := by omega
    have hjl : j < gs.length := by omega
    have hgvA := hgv A
    obtain ⟨a0, b0, g0v, hix0, hld0, hg0'⟩ := hgs.at2 h0 (m' := arr M q A) (n' := N) (by omega) (hfr A)
    have hg0 : Ints (arr M q A) N g0v gs[0] := hg0'.frame (by omega) (hfr A)
    replace hix0 : idxV 1 0 gv = some (.pointer (some a0)) := hix0
    obtain ⟨p1, b1, gval, hix, hld, hgj⟩ := hgs.at2 hjl (m' := arr M q A) (n' := N) (by omega) (hfr A)
    have hg : Ints (arr M q A) N gval gs[j] := hgj.frame (by omega) (hfr A)
    have hlj := hrow gs[j] (List.getElem_mem hjl)
    have hw : IntKind.i64.wrap ((j : Int) + 1) = ((j + 1 : Nat) : Int) := by rw [wrap_small (by omega) (by omega)]; omega
    have hstep := groupsR_step (disks := disks) (w := gs[0].length) hjl
    rw [ac44L3_w]
    by_cases h2 : (gs[j].length : Int) < 2
    · have h2' : decide ((gs[j].length : Int) < 2) = true := decide_eq_true h2
      simp only [ac44L3b, Gv_add, w_seq, v_reg, q_cons, q_nil, q_nop, q_op, q_eff, q_opg, q_effg, keep_ok, drop1_ok, out_ok, crRec_mk, onNorm_norm, onNorm_exit, onNorm_ret, addRW_mk, w_cond, onCond_mk, w_block, onBlock_norm, onBlock_ret, onBlock_exit, w_pre, w_post, onPost_norm, onPost_exit, onPost_ret, w_exit, w_ret, onRet_mk, res_nil, res_cons, resO_v, retV_one, fixE_mk, lmap_nil, lmap_cons, ldrop_z, ldrop_s, ev_v, ev_c, lget_z, lget_s, evs_nil, evs_cons, s_mov, s_pick, s_bin, s_una, s_conv, s_fld, s_idx, s_ida, s_build, s_extr, s_nilck, s_len, s_mx, s_ld1, s_ldn, s_st, s_call, s_new, s_box, s_make, s_app, bin_int, i_add, i_sub, i_mul, i_eql, i_neq, i_lss, i_gtr, i_leq, i_geq, pick_mk, wantB_mk, una_not, fld_mk, nilck_mk, valO_some, lor_zero', zero_lor', cond_true, cond_false, Nat.beq_refl, natOf_mk, natOf_zero, natOf_one, obind_some, w_skip, Bool.not_true, Bool.not_false, wantB_undef, newb_fm, ptrP_mk, slcP_mk, cells_agg, hgvA, hgs.len, hlt, decide_true, decide_false, hix, hld, hg.len, h2', retV_three]
      exact ⟨rfl, mod_zero _, .inr ⟨fun h => by have := (hstep.1 h).1.1.1; omega, rfl⟩⟩
    · have h2' : decide ((gs[j].length : Int) < 2) = false := decide_eq_false h2
      by_cases h1 : (gs[j].length : Int) = (gs[0].length : Int)
      · have h1' : decide ((gs[j].length : Int) = (gs[0].length : Int)) = true := decide_eq_true h1
        by_cases hr : RowFrom disks gs[j] 0
        · obtain ⟨rf, hrf⟩ := ref_L0_yes (E := E) (Y := Y) (arr M q A) N q hqN gs[j] gval hg hlj p disks (by omega) (hpd A) hr
          obtain ⟨rf2, wf2, hrf2⟩ := ref_L2_eq (E := E) (Y := Y) M N q n0 hqN hn0 gs[j] gval (fun B => hgj.frame (by omega) (hfr B)) hlj (rowFrom_in hd hr) A hA
          have heq := fun x1 x2 x3 x4 x5 x6 x7 x8 x9 x10 x11 x12 x13 x14 x15 x16 x17 x19 x20 x21 x22 x23 x24 x25 x26 x27 x28 x29 x30 x32 x33 x34 x35 x36 x37 => (hrf2 x1 x2 x3 x4 x5 x6 x7 x8 x9 x10 x11 x12 x13 x14 x15 x16 x17 x19 x20 x21 x22 x23 x24 x25 x26 x27 x28 x29 x30 x32 x33 x34 x35 x36 x37).1
          have hmod := fun x1 x2 x3 x4 x5 x6 x7 x8 x9 x10 x11 x12 x13 x14 x15 x16 x17 x19 x20 x21 x22 x23 x24 x25 x26 x27 x28 x29 x30 x32 x33 x34 x35 x36 x37 => (hrf2 x1 x2 x3 x4 x5 x6 x7 x8 x9 x10 x11 x12 x13 x14 x15 x16 x17 x19 x20 x21 x22 x23 x24 x25 x26 x27 x28 x29 x30 x32 x33 x34 x35 x36 x37).2
          simp only [ac44L3b, Gv_add, w_seq, v_reg, q_cons, q_nil, q_nop, q_op, q_eff, q_opg, q_effg, keep_ok, drop1_ok, out_ok, crRec_mk, onNorm_norm, onNorm_exit, onNorm_ret, addRW_mk, w_cond, onCond_mk, w_block, onBlock_norm, onBlock_ret, onBlock_exit, w_pre, w_post, onPost_norm, onPost_exit, onPost_ret, w_exit, w_ret, onRet_mk, res_nil, res_cons, resO_v, retV_one, fixE_mk, lmap_nil, lmap_cons, ldrop_z, ldrop_s, ev_v, ev_c, lget_z, lget_s, evs_nil, evs_cons, s_mov, s_pick, s_bin, s_una, s_conv, s_fld, s_idx, s_ida, s_build, s_extr, s_nilck, s_len, s_mx, s_ld1, s_ldn, s_st, s_call, s_new, s_box, s_make, s_app, bin_int, i_add, i_sub, i_mul, i_eql, i_neq, i_lss, i_gtr, i_leq, i_geq, pick_mk, wantB_mk, una_not, fld_mk, nilck_mk, valO_some, lor_zero', zero_lor', cond_true, cond_false, Nat.beq_refl, natOf_mk, natOf_zero, natOf_one, obind_some, w_skip, Bool.not_true, Bool.not_false, wantB_undef, newb_fm, ptrP_mk, slcP_mk, cells_agg, hgvA, hgs.len, hlt, decide_true, decide_false, hix, hld, hix0, hld0, hg.len, hg0.len, h2', h1', hrf, heq, hw]
          refine Gv.mono (ih (j + 1) (by omega) _ (by rw [bumpGroup_length, hA])) fun X e' m' n' w h => ?_
          have hiff : GroupsR disks gs[0].length gs j ↔ GroupsR disks gs[0].length gs (j + 1) := by rw [hstep]; exact ⟨fun h => h.2, fun h => ⟨⟨⟨by omega, by omega⟩, hr⟩, h⟩⟩
          have hc : counts A (gs.drop j) = counts (bumpGroup A gs[j] gs[j]) (gs.drop (j + 1)) := by rw [List.drop_eq_getElem_cons hjl]; rfl
          rw [hiff, hc]
          obtain ⟨k1, k2, k3⟩ := h
          exact ⟨k1, mod_lor' (hmod ..) k2, k3⟩
        · obtain ⟨rf, ef, hrf⟩ := ref_L0_no (E := E) (Y := Y) (arr M q A) N q hqN gs[j] gval hg hlj p disks (by omega) (hpd A) hr
          simp only [ac44L3b, Gv_add, w_seq, v_reg, q_cons, q_nil, q_nop, q_op, q_eff, q_opg, q_effg, keep_ok, drop1_ok, out_ok, crRec_mk, onNorm_norm, onNorm_exit, onNorm_ret, addRW_mk, w_cond, onCond_mk, w_block, onBlock_norm, onBlock_ret, onBlock_exit, w_pre, w_post, onPost_norm, onPost_exit, onPost_ret, w_exit, w_ret, onRet_mk, res_nil, res_cons, resO_v, retV_one, fixE_mk, lmap_nil, lmap_cons, ldrop_z, ldrop_s, ev_v, ev_c, lget_z, lget_s, evs_nil, evs_cons, s_mov, s_pick, s_bin, s_una, s_conv, s_fld, s_idx, s_ida, s_build, s_extr, s_nilck, s_len, s_mx, s_ld1, s_ldn, s_st, s_call, s_new, s_box, s_make, s_app, bin_int, i_add, i_sub, i_mul, i_eql, i_neq, i_lss, i_gtr, i_leq, i_geq, pick_mk, wantB_mk, una_not, fld_mk, nilck_mk, valO_some, lor_zero', zero_lor', cond_true, cond_false, Nat.beq_refl, natOf_mk, natOf_zero, natOf_one, obind_some, w_skip, Bool.not_true, Bool.not_false, wantB_undef, newb_fm, ptrP_mk, slcP_mk, cells_agg, hgvA, hgs.len, hlt, decide_true, decide_false, hix, hld, hix0, hld0, hg.len, hg0.len, h2', h1', hrf]
          exact ⟨rfl, mod_zero _, .inr ⟨fun h => hr (hstep.1 h).1.2, rfl⟩⟩
      · have h1' : decide ((gs[j].length : Int) = (gs[0].length : Int)) = false := decide_eq_false h1
        simp only [ac44L3b, Gv_add, w_seq, v_reg, q_cons, q_nil, q_nop, q_op, q_eff, q_opg, q_effg, keep_ok, drop1_ok, out_ok, crRec_mk, onNorm_norm, onNorm_exit, onNorm_ret, addRW_mk, w_cond, onCond_mk, w_block, onBlock_norm, onBlock_ret, onBlock_exit, w_pre, w_post, onPost_norm, onPost_exit, onPost_ret, w_exit, w_ret, onRet_mk, res_nil, res_cons, resO_v, retV_one, fixE_mk, lmap_nil, lmap_cons, ldrop_z, ldrop_s, ev_v, ev_c, lget_z, lget_s, evs_nil, evs_cons, s_mov, s_pick, s_bin, s_una, s_conv, s_fld, s_idx, s_ida, s_build, s_extr, s_nilck, s_len, s_mx, s_ld1, s_ldn, s_st, s_call, s_new, s_box, s_make, s_app, bin_int, i_add, i_sub, i_mul, i_eql, i_neq, i_lss, i_gtr, i_leq, i_geq, pick_mk, wantB_mk, una_not, fld_mk, nilck_mk, valO_some, lor_zero', zero_lor', cond_true, cond_false, Nat.beq_refl, natOf_mk, natOf_zero, natOf_one, obind_some, w_skip, Bool.not_true, Bool.not_false, wantB_undef, newb_fm, ptrP_mk, slcP_mk, cells_agg, hgvA, hgs.len, hlt, decide_true, decide_false, hix, hld, hix0, hld0, hg.len, hg0.len, h2', h1', retV_three]
        exact ⟨rfl, mod_zero _, .inr ⟨fun h => by have := (hstep.1 h).1.1.2; omega, rfl⟩⟩
end Go.Am.C21
