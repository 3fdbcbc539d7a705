/- Chapter 21: formed. -/
import Derived.Test.YtaohgpgbphlblaaAm21a
import Derived.Test.YtaohgpgbphlblaaAmEqD
set_option linter.unusedVariables false
set_option linter.unusedSimpArgs false
set_option linter.unusedSectionVars false
namespace Go.Am.C21
open Go Go.Am
set_option linter.unusedVariables false
variable {E : Nat → Option AFn} {Y : Nat → List Value → FM → Nat → OR FM}
/-- a place of a row is good -/
def PlaceOk (disks : Int) (g : List Int) (i : Nat) : Prop := ∀ x, g[i]? = some x → 0 ≤ x ∧ x < disks ∧ (0 < i → ∀ y, g[i - 1]? = some y → y < x)
def RowFrom (disks : Int) (g : List Int) (j : Nat) : Prop := ∀ i, j ≤ i → i < g.length → PlaceOk disks g i
theorem rowFrom_end {disks : Int} {g : List Int} {j : Nat} (h : g.length ≤ j) : RowFrom disks g j := fun i h1 h2 => by omega
theorem rowFrom_step {disks : Int} {g : List Int} {j : Nat} (h : j < g.length) : RowFrom disks g j ↔ PlaceOk disks g j ∧ RowFrom disks g (j + 1) :=
  ⟨fun hr => ⟨hr j (Nat.le_refl _) h, fun i h1 h2 => hr i (by omega) h2⟩, fun ⟨h1, h2⟩ i h3 h4 => by
    rcases Nat.eq_or_lt_of_le h3 with rfl | h5
    · exact h1
    · exact h2 i h5 h4⟩
theorem placeOk_iff {disks : Int} {g : List Int} {j : Nat} (h : j < g.length) : PlaceOk disks g j ↔ 0 ≤ g[j] ∧ g[j] < disks ∧ (0 < j → g[j - 1] < g[j]) := by
  unfold PlaceOk
  rw [List.getElem?_eq_getElem h]
  constructor
  · intro hp
    obtain ⟨h1, h2, h3⟩ := hp _ rfl
    exact ⟨h1, h2, fun hj => h3 hj _ (List.getElem?_eq_getElem (by omega))⟩
  · rintro ⟨h1, h2, h3⟩ x hx
    injection hx with hx; subst hx
    refine ⟨h1, h2, fun hj y hy => ?_⟩
    rw [List.getElem?_eq_getElem (by omega)] at hy
    injection hy with hy; subst hy
    exact h3 hj
theorem formed_L0 (M : FM) (N p : Nat) (disks : Int) (gv : Value) (hp : M p = some (.cells [.int .i64 disks, gv] 0 false true)) (hpN : p < N) (g : List Int) (gval : Value) (hg : Ints M N gval g) (hl : g.length < 4611686018427387904)
    (x2 x4 x5 x6 x7 x8 x9 x10 x12 x13 x14 x15 x16 x17 x18 x19 x20 x22 : Value) : ∀ d j, j + d = g.length →
    Gv (execW PG E Y ac47L0 [.bool false, .int .i64 (j : Int), x2, .int .i64 (g.length : Int), x4, x5, x6, x7, x8, x9, x10, gval, x12, x13, x14, x15, x16, x17, x18, x19, x20, .pointer (some ⟨p, 0, none⟩), x22] M N) fun X e' m' n' w => m' = M ∧ n' = N ∧ w = 0 ∧
      ((RowFrom disks g j ∧ X = .exit 2 ∧ e' = [.bool false, .int .i64 (g.length : Int), x2, .int .i64 (g.length : Int), x4, x5, x6, x7, x8, x9, x10, gval, x12, x13, x14, x15, x16, x17, x18, x19, x20, .pointer (some ⟨p, 0, none⟩), x22])
        ∨ (¬ RowFrom disks g j ∧ X = .ret (.bool false))) := by
  intro d
  have hd : ld1V M N (.pointer (some ⟨p, 0 + 0, none⟩)) = .ok (.int .i64 disks) M N (bit p) 0 := ld1_at hpN hp rfl
  induction d with
  | zero =>
    intro j hj
    have hjl : (j : Int) = (g.length : Int) := by omega
    have hlt : ¬ ((g.length : Int) < (g.length : Int)) := by omega
    rw [ac47L0_w, hjl]
    simp only [ac47L0b, Gv_add, w_seq, v_reg, q_cons, q_nil, q_nop, q_op, q_eff, q_opg, q_effg, keep_ok, drop1_ok, out_ok, crRec_mk, onNorm_norm, onNorm_exit, onNorm_ret, addRW_mk, w_cond, onCond_mk, w_block, onBlock_norm, onBlock_ret, onBlock_exit, w_pre, w_post, onPost_norm, onPost_exit, onPost_ret, w_exit, w_ret, onRet_mk, res_nil, res_cons, resO_v, retV_one, fixE_mk, lmap_nil, lmap_cons, ldrop_z, ldrop_s, ev_v, ev_c, lget_z, lget_s, evs_nil, evs_cons, s_mov, s_pick, s_bin, s_una, s_conv, s_fld, s_idx, s_ida, s_build, s_extr, s_nilck, s_len, s_mx, s_ld1, s_ldn, s_st, s_call, s_new, s_box, s_make, s_app, bin_int, i_add, i_sub, i_mul, i_eql, i_neq, i_lss, i_gtr, i_leq, i_geq, pick_mk, wantB_mk, una_not, fld_mk, nilck_mk, valO_some, lor_zero', zero_lor', cond_true, cond_false, Nat.beq_refl, natOf_mk, natOf_zero, natOf_one, obind_some, w_skip, Bool.not_true, Bool.not_false, wantB_undef, newb_fm, ptrP_mk, slcP_mk, cells_agg, hlt, decide_false]
    exact ⟨rfl, rfl, rfl, .inl ⟨rowFrom_end (by omega), rfl, rfl⟩⟩
  | succ d ih =>
    intro j hj
    have hlt : (j : Int) < (g.length : Int) := by omega
    have hjl : j < g.length := by omega
    obtain ⟨a, b, hix, hld, hb⟩ := hg.at hjl
    have hw : IntKind.i64.wrap ((j : Int) + 1) = ((j + 1 : Nat) : Int) := by rw [wrap_small (by omega) (by omega)]; omega
    have hiff := placeOk_iff (disks := disks) hjl
    have hstep := rowFrom_step (disks := disks) hjl
    rw [ac47L0_w]
    by_cases h1 : g[j] < 0
    · simp only [ac47L0b, Gv_add, w_seq, v_reg, q_cons, q_nil, q_nop, q_op, q_eff, q_opg, q_effg, keep_ok, drop1_ok, out_ok, crRec_mk, onNorm_norm, onNorm_exit, onNorm_ret, addRW_mk, w_cond, onCond_mk, w_block, onBlock_norm, onBlock_ret, onBlock_exit, w_pre, w_post, onPost_norm, onPost_exit, onPost_ret, w_exit, w_ret, onRet_mk, res_nil, res_cons, resO_v, retV_one, fixE_mk, lmap_nil, lmap_cons, ldrop_z, ldrop_s, ev_v, ev_c, lget_z, lget_s, evs_nil, evs_cons, s_mov, s_pick, s_bin, s_una, s_conv, s_fld, s_idx, s_ida, s_build, s_extr, s_nilck, s_len, s_mx, s_ld1, s_ldn, s_st, s_call, s_new, s_box, s_make, s_app, bin_int, i_add, i_sub, i_mul, i_eql, i_neq, i_lss, i_gtr, i_leq, i_geq, pick_mk, wantB_mk, una_not, fld_mk, nilck_mk, valO_some, lor_zero', zero_lor', cond_true, cond_false, Nat.beq_refl, natOf_mk, natOf_zero, natOf_one, obind_some, w_skip, Bool.not_true, Bool.not_false, wantB_undef, newb_fm, ptrP_mk, slcP_mk, cells_agg, hlt, decide_true, hix, hld, h1]
      exact ⟨rfl, rfl, rfl, .inr ⟨fun h => by have := (hiff.1 (hstep.1 h).1).1; omega, rfl⟩⟩
    · by_cases h2 : disks ≤ g[j]
      · simp only [ac47L0b, Gv_add, w_seq, v_reg, q_cons, q_nil, q_nop, q_op, q_eff, q_opg, q_effg, keep_ok, drop1_ok, out_ok, crRec_mk, onNorm_norm, onNorm_exit, onNorm_ret, addRW_mk, w_cond, onCond_mk, w_block, onBlock_norm, onBlock_ret, onBlock_exit, w_pre, w_post, onPost_norm, onPost_exit, onPost_ret, w_exit, w_ret, onRet_mk, res_nil, res_cons, resO_v, retV_one, fixE_mk, lmap_nil, lmap_cons, ldrop_z, ldrop_s, ev_v, ev_c, lget_z, lget_s, evs_nil, evs_cons, s_mov, s_pick, s_bin, s_una, s_conv, s_fld, s_idx, s_ida, s_build, s_extr, s_nilck, s_len, s_mx, s_ld1, s_ldn, s_st, s_call, s_new, s_box, s_make, s_app, bin_int, i_add, i_sub, i_mul, i_eql, i_neq, i_lss, i_gtr, i_leq, i_geq, pick_mk, wantB_mk, una_not, fld_mk, nilck_mk, valO_some, lor_zero', zero_lor', cond_true, cond_false, Nat.beq_refl, natOf_mk, natOf_zero, natOf_one, obind_some, w_skip, Bool.not_true, Bool.not_false, wantB_undef, newb_fm, ptrP_mk, slcP_mk, cells_agg, hlt, decide_true, decide_false, hix, hld, h1, h2, hd, Bool.not_false, Bool.not_true]
        exact ⟨rfl, rfl, rfl, .inr ⟨fun h => by have := (hiff.1 (hstep.1 h).1).2.1; omega, rfl⟩⟩
      · by_cases h3 : 0 < (j : Int)
        · obtain ⟨a2, b2, hix2, hld2, hb2⟩ := hg.at (i := j - 1) (by omega)
          have hw2 : IntKind.i64.wrap ((j : Int) - 1) = ((j - 1 : Nat) : Int) := by rw [wrap_small (by omega) (by omega)]; omega
          by_cases h4 : g[j] ≤ g[j - 1]
          · simp only [ac47L0b, Gv_add, w_seq, v_reg, q_cons, q_nil, q_nop, q_op, q_eff, q_opg, q_effg, keep_ok, drop1_ok, out_ok, crRec_mk, onNorm_norm, onNorm_exit, onNorm_ret, addRW_mk, w_cond, onCond_mk, w_block, onBlock_norm, onBlock_ret, onBlock_exit, w_pre, w_post, onPost_norm, onPost_exit, onPost_ret, w_exit, w_ret, onRet_mk, res_nil, res_cons, resO_v, retV_one, fixE_mk, lmap_nil, lmap_cons, ldrop_z, ldrop_s, ev_v, ev_c, lget_z, lget_s, evs_nil, evs_cons, s_mov, s_pick, s_bin, s_una, s_conv, s_fld, s_idx, s_ida, s_build, s_extr, s_nilck, s_len, s_mx, s_ld1, s_ldn, s_st, s_call, s_new, s_box, s_make, s_app, bin_int, i_add, i_sub, i_mul, i_eql, i_neq, i_lss, i_gtr, i_leq, i_geq, pick_mk, wantB_mk, una_not, fld_mk, nilck_mk, valO_some, lor_zero', zero_lor', cond_true, cond_false, Nat.beq_refl, natOf_mk, natOf_zero, natOf_one, obind_some, w_skip, Bool.not_true, Bool.not_false, wantB_undef, newb_fm, ptrP_mk, slcP_mk, cells_agg, hlt, decide_true, decide_false, hix, hld, h1, h2, hd, Bool.not_false, Bool.not_true, h3, hw2, hix2, hld2, h4]
            exact ⟨rfl, rfl, rfl, .inr ⟨fun h => by have := (hiff.1 (hstep.1 h).1).2.2 (by omega); omega, rfl⟩⟩
          · simp only [ac47L0b, Gv_add, w_seq, v_reg, q_cons, q_nil, q_nop, q_op, q_eff, q_opg, q_effg, keep_ok, drop1_ok, out_ok, crRec_mk, onNorm_norm, onNorm_exit, onNorm_ret, addRW_mk, w_cond, onCond_mk, w_block, onBlock_norm, onBlock_ret, onBlock_exit, w_pre, w_post, onPost_norm, onPost_exit, onPost_ret, w_exit, w_ret, onRet_mk, res_nil, res_cons, resO_v, retV_one, fixE_mk, lmap_nil, lmap_cons, ldrop_z, ldrop_s, ev_v, ev_c, lget_z, lget_s, evs_nil, evs_cons, s_mov, s_pick, s_bin, s_una, s_conv, s_fld, s_idx, s_ida, s_build, s_extr, s_nilck, s_len, s_mx, s_ld1, s_ldn, s_st, s_call, s_new, s_box, s_make, s_app, bin_int, i_add, i_sub, i_mul, i_eql, i_neq, i_lss, i_gtr, i_leq, i_geq, pick_mk, wantB_mk, una_not, fld_mk, nilck_mk, valO_some, lor_zero', zero_lor', cond_true, cond_false, Nat.beq_refl, natOf_mk, natOf_zero, natOf_one, obind_some, w_skip, Bool.not_true, Bool.not_false, wantB_undef, newb_fm, ptrP_mk, slcP_mk, cells_agg, hlt, decide_true, decide_false, hix, hld, h1, h2, hd, Bool.not_false, Bool.not_true, h3, hw2, hix2, hld2, h4, hw]
            refine Gv.mono (ih (j + 1) (by omega)) fun X e' m' n' w h => ?_
            have : (0 ≤ g[j] ∧ g[j] < disks ∧ (0 < j → g[j - 1] < g[j])) := ⟨by omega, by omega, fun _ => by omega⟩
            have hr : RowFrom disks g j ↔ RowFrom disks g (j + 1) := by rw [hstep, hiff]; exact ⟨fun h => h.2, fun h => ⟨this, h⟩⟩
            rw [hr]
            simpa only [zero_lor'] using h
        · simp only [ac47L0b, Gv_add, w_seq, v_reg, q_cons, q_nil, q_nop, q_op, q_eff, q_opg, q_effg, keep_ok, drop1_ok, out_ok, crRec_mk, onNorm_norm, onNorm_exit, onNorm_ret, addRW_mk, w_cond, onCond_mk, w_block, onBlock_norm, onBlock_ret, onBlock_exit, w_pre, w_post, onPost_norm, onPost_exit, onPost_ret, w_exit, w_ret, onRet_mk, res_nil, res_cons, resO_v, retV_one, fixE_mk, lmap_nil, lmap_cons, ldrop_z, ldrop_s, ev_v, ev_c, lget_z, lget_s, evs_nil, evs_cons, s_mov, s_pick, s_bin, s_una, s_conv, s_fld, s_idx, s_ida, s_build, s_extr, s_nilck, s_len, s_mx, s_ld1, s_ldn, s_st, s_call, s_new, s_box, s_make, s_app, bin_int, i_add, i_sub, i_mul, i_eql, i_neq, i_lss, i_gtr, i_leq, i_geq, pick_mk, wantB_mk, una_not, fld_mk, nilck_mk, valO_some, lor_zero', zero_lor', cond_true, cond_false, Nat.beq_refl, natOf_mk, natOf_zero, natOf_one, obind_some, w_skip, Bool.not_true, Bool.not_false, wantB_undef, newb_fm, ptrP_mk, slcP_mk, cells_agg, hlt, decide_true, decide_false, hix, hld, h1, h2, hd, Bool.not_false, Bool.not_true, h3, hw]
          refine Gv.mono (ih (j + 1) (by omega)) fun X e' m' n' w h => ?_
          have : (0 ≤ g[j] ∧ g[j] < disks ∧ (0 < j → g[j - 1] < g[j])) := ⟨by omega, by omega, fun _ => by omega⟩
          have hr : RowFrom disks g j ↔ RowFrom disks g (j + 1) := by rw [hstep, hiff]; exact ⟨fun h => h.2, fun h => ⟨this, h⟩⟩
          rw [hr]
          simpa only [zero_lor'] using h

theorem formed_L0_yes (M : FM) (N p : Nat) (disks : Int) (gv : Value) (hp : M p = some (.cells [.int .i64 disks, gv] 0 false true)) (hpN : p < N) (g : List Int) (gval : Value) (hg : Ints M N gval g) (hl : g.length < 4611686018427387904) (hr : RowFrom disks g 0) :
    ∃ rf : List Value → Nat, ∀ x2 x4 x5 x6 x7 x8 x9 x10 x12 x13 x14 x15 x16 x17 x18 x19 x20 x22, execW PG E Y ac47L0 [.bool false, .int .i64 0, x2, .int .i64 (g.length : Int), x4, x5, x6, x7, x8, x9, x10, gval, x12, x13, x14, x15, x16, x17, x18, x19, x20, .pointer (some ⟨p, 0, none⟩), x22] M N = .ok (.exit 2) [.bool false, .int .i64 (g.length : Int), x2, .int .i64 (g.length : Int), x4, x5, x6, x7, x8, x9, x10, gval, x12, x13, x14, x15, x16, x17, x18, x19, x20, .pointer (some ⟨p, 0, none⟩), x22] M N (rf [.bool false, .int .i64 0, x2, .int .i64 (g.length : Int), x4, x5, x6, x7, x8, x9, x10, gval, x12, x13, x14, x15, x16, x17, x18, x19, x20, .pointer (some ⟨p, 0, none⟩), x22]) 0 := by
  obtain ⟨rf, ef, h⟩ := named_r (fun l => execW PG E Y ac47L0 l M N)
  refine ⟨rf, fun x2 x4 x5 x6 x7 x8 x9 x10 x12 x13 x14 x15 x16 x17 x18 x19 x20 x22 => ?_⟩
  rw [(h _).1]
  refine gv_norm (Gv.mono (formed_L0 (E := E) (Y := Y) M N p disks gv hp hpN g gval hg hl x2 x4 x5 x6 x7 x8 x9 x10 x12 x13 x14 x15 x16 x17 x18 x19 x20 x22 g.length 0 (by omega)) fun X e' m' n' w hh => ?_)
  obtain ⟨h1, h2, h3, h4⟩ := hh
  rcases h4 with ⟨_, h5, h6⟩ | ⟨h5, _⟩
  · exact ⟨h5, h6, h1, h2, h3⟩
  · exact absurd hr h5
theorem formed_L0_no (M : FM) (N p : Nat) (disks : Int) (gv : Value) (hp : M p = some (.cells [.int .i64 disks, gv] 0 false true)) (hpN : p < N) (g : List Int) (gval : Value) (hg : Ints M N gval g) (hl : g.length < 4611686018427387904) (hr : ¬ RowFrom disks g 0) :
    ∃ (rf : List Value → Nat) (ef : List Value → List Value), ∀ x2 x4 x5 x6 x7 x8 x9 x10 x12 x13 x14 x15 x16 x17 x18 x19 x20 x22, execW PG E Y ac47L0 [.bool false, .int .i64 0, x2, .int .i64 (g.length : Int), x4, x5, x6, x7, x8, x9, x10, gval, x12, x13, x14, x15, x16, x17, x18, x19, x20, .pointer (some ⟨p, 0, none⟩), x22] M N = .ok (.ret (.bool false)) (ef [.bool false, .int .i64 0, x2, .int .i64 (g.length : Int), x4, x5, x6, x7, x8, x9, x10, gval, x12, x13, x14, x15, x16, x17, x18, x19, x20, .pointer (some ⟨p, 0, none⟩), x22]) M N (rf [.bool false, .int .i64 0, x2, .int .i64 (g.length : Int), x4, x5, x6, x7, x8, x9, x10, gval, x12, x13, x14, x15, x16, x17, x18, x19, x20, .pointer (some ⟨p, 0, none⟩), x22]) 0 := by
  obtain ⟨rf, ef, h⟩ := named_r (fun l => execW PG E Y ac47L0 l M N)
  refine ⟨rf, ef, fun x2 x4 x5 x6 x7 x8 x9 x10 x12 x13 x14 x15 x16 x17 x18 x19 x20 x22 => ?_⟩
  rw [(h _).1, (h _).2]
  refine gv_ret (Gv.mono (formed_L0 (E := E) (Y := Y) M N p disks gv hp hpN g gval hg hl x2 x4 x5 x6 x7 x8 x9 x10 x12 x13 x14 x15 x16 x17 x18 x19 x20 x22 g.length 0 (by omega)) fun X e' m' n' w hh => ?_)
  obtain ⟨h1, h2, h3, h4⟩ := hh
  rcases h4 with ⟨h5, _, _⟩ | ⟨_, h5⟩
  · exact absurd h5 hr
  · exact ⟨h5, h1, h2, h3⟩

/-- the groups from a place on are formed -/
def GroupsFrom (disks : Int) (w : Nat) (gs : List (List Int)) (j : Nat) : Prop := ∀ i g, j ≤ i → gs[i]? = some g → g.length = w ∧ RowFrom disks g 0
theorem groupsFrom_end {disks : Int} {w : Nat} {gs : List (List Int)} {j : Nat} (h : gs.length ≤ j) : GroupsFrom disks w gs j := fun i g h1 h2 => by
  have := (List.getElem?_eq_some_iff.1 h2).1; omega
theorem groupsFrom_step {disks : Int} {w : Nat} {gs : List (List Int)} {j : Nat} (h : j < gs.length) : GroupsFrom disks w gs j ↔ (gs[j].length = w ∧ RowFrom disks gs[j] 0) ∧ GroupsFrom disks w gs (j + 1) :=
  ⟨fun hr => ⟨hr j _ (Nat.le_refl _) (List.getElem?_eq_getElem h), fun i g h1 h2 => hr i g (by omega) h2⟩, fun ⟨h1, h2⟩ i g h3 h4 => by
    rcases Nat.eq_or_lt_of_le h3 with rfl | h5
    · rw [List.getElem?_eq_getElem h] at h4; injection h4 with h4; subst h4; exact h1
    · exact h2 i g h5 h4⟩
theorem formed_L1 (M : FM) (N p : Nat) (disks : Int) (gv : Value) (hp : M p = some (.cells [.int .i64 disks, gv] 0 false true)) (hpN : p < N) (gs : List (List Int)) (hgs : Rows M N gv gs) (hl : gs.length < 4611686018427387904) (hrow : ∀ g ∈ gs, g.length < 4611686018427387904) (h0 : 0 < gs.length)
    (x2 x5 x6 x8 : Value) : ∀ d j, j + d = gs.length →
    Gv (execW PG E Y ac47L1 [.bool false, .int .i64 (j : Int), x2, .int .i64 (gs.length : Int), gv, x5, x6, .pointer (some ⟨p, 0, none⟩), x8] M N) fun X e' m' n' w => m' = M ∧ n' = N ∧ w = 0 ∧
      ((GroupsFrom disks gs[0].length gs j ∧ X = .exit 0 ∧ e' = [.bool false, x2, .int .i64 (gs.length : Int), gv, x5, x6, .pointer (some ⟨p, 0, none⟩), x8]) ∨ (¬ GroupsFrom disks gs[0].length gs j ∧ X = .ret (.bool false))) := by
  intro d
  have hgv : ld1V M N (.pointer (some ⟨p, 0 + 1, none⟩)) = .ok gv M N (bit p) 0 := ld1_at hpN hp rfl
  obtain ⟨a0, b0, g0v, hix0, hld0, _, hg0⟩ := hgs.at h0
  replace hix0 : idxV 1 0 gv = some (.pointer (some a0)) := hix0
  induction d with
  | zero =>
    intro j hj
    have hjl : (j : Int) = (gs.length : Int) := by omega
    have hlt : ¬ ((gs.length : Int) < (gs.length : Int)) := by omega
    rw [ac47L1_w, hjl]
    simp only [ac47L1b, Gv_add, w_seq, v_reg, q_cons, q_nil, q_nop, q_op, q_eff, q_opg, q_effg, keep_ok, drop1_ok, out_ok, crRec_mk, onNorm_norm, onNorm_exit, onNorm_ret, addRW_mk, w_cond, onCond_mk, w_block, onBlock_norm, onBlock_ret, onBlock_exit, w_pre, w_post, onPost_norm, onPost_exit, onPost_ret, w_exit, w_ret, onRet_mk, res_nil, res_cons, resO_v, retV_one, fixE_mk, lmap_nil, lmap_cons, ldrop_z, ldrop_s, ev_v, ev_c, lget_z, lget_s, evs_nil, evs_cons, s_mov, s_pick, s_bin, s_una, s_conv, s_fld, s_idx, s_ida, s_build, s_extr, s_nilck, s_len, s_mx, s_ld1, s_ldn, s_st, s_call, s_new, s_box, s_make, s_app, bin_int, i_add, i_sub, i_mul, i_eql, i_neq, i_lss, i_gtr, i_leq, i_geq, pick_mk, wantB_mk, una_not, fld_mk, nilck_mk, valO_some, lor_zero', zero_lor', cond_true, cond_false, Nat.beq_refl, natOf_mk, natOf_zero, natOf_one, obind_some, w_skip, Bool.not_true, Bool.not_false, wantB_undef, newb_fm, ptrP_mk, slcP_mk, cells_agg, hlt, decide_false]
    exact ⟨rfl, rfl, rfl, .inl ⟨groupsFrom_end (by omega), rfl, rfl⟩⟩
  | succ d ih =>
    intro j hj
    have hlt : (j : Int) < (gs.length : Int) := by omega
    have hjl : j < gs.length := by omega
    obtain ⟨a, b, gval, hix, hld, hb, hg⟩ := hgs.at hjl
    have hw : IntKind.i64.wrap ((j : Int) + 1) = ((j + 1 : Nat) : Int) := by rw [wrap_small (by omega) (by omega)]; omega
    have hstep := groupsFrom_step (disks := disks) (w := gs[0].length) hjl
    rw [ac47L1_w]
    by_cases h1 : (gs[j].length : Int) = (gs[0].length : Int)
    · have h1' : decide ((gs[j].length : Int) = (gs[0].length : Int)) = true := decide_eq_true h1
      have hlj := hrow gs[j] (List.getElem_mem hjl)
      by_cases hr : RowFrom disks gs[j] 0
      · obtain ⟨rf, hrf⟩ := formed_L0_yes (E := E) (Y := Y) M N p disks gv hp hpN gs[j] gval hg hlj hr
        simp only [ac47L1b, Gv_add, w_seq, v_reg, q_cons, q_nil, q_nop, q_op, q_eff, q_opg, q_effg, keep_ok, drop1_ok, out_ok, crRec_mk, onNorm_norm, onNorm_exit, onNorm_ret, addRW_mk, w_cond, onCond_mk, w_block, onBlock_norm, onBlock_ret, onBlock_exit, w_pre, w_post, onPost_norm, onPost_exit, onPost_ret, w_exit, w_ret, onRet_mk, res_nil, res_cons, resO_v, retV_one, fixE_mk, lmap_nil, lmap_cons, ldrop_z, ldrop_s, ev_v, ev_c, lget_z, lget_s, evs_nil, evs_cons, s_mov, s_pick, s_bin, s_una, s_conv, s_fld, s_idx, s_ida, s_build, s_extr, s_nilck, s_len, s_mx, s_ld1, s_ldn, s_st, s_call, s_new, s_box, s_make, s_app, bin_int, i_add, i_sub, i_mul, i_eql, i_neq, i_lss, i_gtr, i_leq, i_geq, pick_mk, wantB_mk, una_not, fld_mk, nilck_mk, valO_some, lor_zero', zero_lor', cond_true, cond_false, Nat.beq_refl, natOf_mk, natOf_zero, natOf_one, obind_some, w_skip, Bool.not_true, Bool.not_false, wantB_undef, newb_fm, ptrP_mk, slcP_mk, cells_agg, hlt, decide_true, decide_false, hix, hld, hg.len, hg0.len, hgv, hix0, hld0, h1', hrf, hw]
        refine Gv.mono (ih (j + 1) (by omega)) fun X e' m' n' w h => ?_
        have hiff : GroupsFrom disks gs[0].length gs j ↔ GroupsFrom disks gs[0].length gs (j + 1) := by rw [hstep]; exact ⟨fun h => h.2, fun h => ⟨⟨by omega, hr⟩, h⟩⟩
        rw [hiff]
        simpa only [zero_lor'] using h
      · obtain ⟨rf, ef, hrf⟩ := formed_L0_no (E := E) (Y := Y) M N p disks gv hp hpN gs[j] gval hg hlj hr
        simp only [ac47L1b, Gv_add, w_seq, v_reg, q_cons, q_nil, q_nop, q_op, q_eff, q_opg, q_effg, keep_ok, drop1_ok, out_ok, crRec_mk, onNorm_norm, onNorm_exit, onNorm_ret, addRW_mk, w_cond, onCond_mk, w_block, onBlock_norm, onBlock_ret, onBlock_exit, w_pre, w_post, onPost_norm, onPost_exit, onPost_ret, w_exit, w_ret, onRet_mk, res_nil, res_cons, resO_v, retV_one, fixE_mk, lmap_nil, lmap_cons, ldrop_z, ldrop_s, ev_v, ev_c, lget_z, lget_s, evs_nil, evs_cons, s_mov, s_pick, s_bin, s_una, s_conv, s_fld, s_idx, s_ida, s_build, s_extr, s_nilck, s_len, s_mx, s_ld1, s_ldn, s_st, s_call, s_new, s_box, s_make, s_app, bin_int, i_add, i_sub, i_mul, i_eql, i_neq, i_lss, i_gtr, i_leq, i_geq, pick_mk, wantB_mk, una_not, fld_mk, nilck_mk, valO_some, lor_zero', zero_lor', cond_true, cond_false, Nat.beq_refl, natOf_mk, natOf_zero, natOf_one, obind_some, w_skip, Bool.not_true, Bool.not_false, wantB_undef, newb_fm, ptrP_mk, slcP_mk, cells_agg, hlt, decide_true, decide_false, hix, hld, hg.len, hg0.len, hgv, hix0, hld0, h1', hrf, hw]
        exact ⟨rfl, rfl, rfl, .inr ⟨fun h => hr (hstep.1 h).1.2, rfl⟩⟩
    · have h1' : decide ((gs[j].length : Int) = (gs[0].length : Int)) = false := decide_eq_false h1
      simp only [ac47L1b, Gv_add, w_seq, v_reg, q_cons, q_nil, q_nop, q_op, q_eff, q_opg, q_effg, keep_ok, drop1_ok, out_ok, crRec_mk, onNorm_norm, onNorm_exit, onNorm_ret, addRW_mk, w_cond, onCond_mk, w_block, onBlock_norm, onBlock_ret, onBlock_exit, w_pre, w_post, onPost_norm, onPost_exit, onPost_ret, w_exit, w_ret, onRet_mk, res_nil, res_cons, resO_v, retV_one, fixE_mk, lmap_nil, lmap_cons, ldrop_z, ldrop_s, ev_v, ev_c, lget_z, lget_s, evs_nil, evs_cons, s_mov, s_pick, s_bin, s_una, s_conv, s_fld, s_idx, s_ida, s_build, s_extr, s_nilck, s_len, s_mx, s_ld1, s_ldn, s_st, s_call, s_new, s_box, s_make, s_app, bin_int, i_add, i_sub, i_mul, i_eql, i_neq, i_lss, i_gtr, i_leq, i_geq, pick_mk, wantB_mk, una_not, fld_mk, nilck_mk, valO_some, lor_zero', zero_lor', cond_true, cond_false, Nat.beq_refl, natOf_mk, natOf_zero, natOf_one, obind_some, w_skip, Bool.not_true, Bool.not_false, wantB_undef, newb_fm, ptrP_mk, slcP_mk, cells_agg, hlt, decide_true, decide_false, hix, hld, hg.len, hg0.len, hgv, hix0, hld0, h1']
      exact ⟨rfl, rfl, rfl, .inr ⟨fun h => by have := (hstep.1 h).1.1; omega, rfl⟩⟩
/-- what 'formed' says of a design -/
def Formed (disks : Int) (gs : List (List Int)) : Prop :=
  2 ≤ disks ∧ disks ≤ 60 ∧ gs.length ≤ 4096 ∧ ∃ g0, gs[0]? = some g0 ∧ 2 ≤ g0.length ∧ GroupsFrom disks g0.length gs 0
open Classical in
theorem formed_spec (hE : E 47 = some ac47) (m : FM) (n : Nat) (disks : Int) (gv : Value) (gs : List (List Int)) (hgs : Rows m n gv gs) (hl : gs.length < 4611686018427387904) (hrow : ∀ g ∈ gs, g.length < 4611686018427387904) :
    Pure (callW PG E Y 47 [.agg #[.int .i64 disks, gv]] m n) m n (.bool (decide (Formed disks gs))) := by
  rw [callW_fn hE rfl]
  refine pure_of rfl ?_
  have hfr : ∀ b, b < n → (AMem.put m n (some (.cells [.int .i64 disks, gv] 0 false true)) : FM) b = m b := fun b hb => fput_ne m n b _ (by omega)
  have hgs' := hgs.frame (n' := n + 1) (by omega) hfr
  have hp : (AMem.put m n (some (.cells [.int .i64 disks, gv] 0 false true)) : FM) n = some (.cells [.int .i64 disks, gv] 0 false true) := fput_same m n _
  obtain ⟨M, hM⟩ : ∃ M : FM, AMem.put m n (some (.cells [.int .i64 disks, gv] 0 false true)) = M := ⟨_, rfl⟩
  rw [hM] at hgs' hp
  have hd : ld1V M (n + 1) (.pointer (some ⟨n, 0 + 0, none⟩)) = .ok (.int .i64 disks) M (n + 1) (bit n) 0 := ld1_at (by omega) hp rfl
  have hgv : ld1V M (n + 1) (.pointer (some ⟨n, 0 + 1, none⟩)) = .ok gv M (n + 1) (bit n) 0 := ld1_at (by omega) hp rfl
  have hbn : Nat.mod (bit n) (bit n) = 0 := mod_bit_ge (Nat.le_refl n)
  have no : ∀ {v : Value} {w : Nat}, v = .bool false → ¬ Formed disks gs → Nat.mod w (bit n) = 0 → (AX.ret v = AX.ret (.bool (decide (Formed disks gs))) ∧ Nat.mod w (bit n) = 0) := fun hv h hw => ⟨by rw [hv, decide_eq_false h], hw⟩
  rw [ac47]
  by_cases c1 : disks < 2
  · simp only [Gv_add, w_seq, v_reg, q_cons, q_nil, q_nop, q_op, q_eff, q_opg, q_effg, keep_ok, drop1_ok, out_ok, crRec_mk, onNorm_norm, onNorm_exit, onNorm_ret, addRW_mk, w_cond, onCond_mk, w_block, onBlock_norm, onBlock_ret, onBlock_exit, w_pre, w_post, onPost_norm, onPost_exit, onPost_ret, w_exit, w_ret, onRet_mk, res_nil, res_cons, resO_v, retV_one, fixE_mk, lmap_nil, lmap_cons, ldrop_z, ldrop_s, ev_v, ev_c, lget_z, lget_s, evs_nil, evs_cons, s_mov, s_pick, s_bin, s_una, s_conv, s_fld, s_idx, s_ida, s_build, s_extr, s_nilck, s_len, s_mx, s_ld1, s_ldn, s_st, s_call, s_new, s_box, s_make, s_app, bin_int, i_add, i_sub, i_mul, i_eql, i_neq, i_lss, i_gtr, i_leq, i_geq, pick_mk, wantB_mk, una_not, fld_mk, nilck_mk, valO_some, lor_zero', zero_lor', cond_true, cond_false, Nat.beq_refl, natOf_mk, natOf_zero, natOf_one, obind_some, w_skip, Bool.not_true, Bool.not_false, wantB_undef, newb_fm, ptrP_mk, slcP_mk, cells_agg, hM, hd, c1, decide_true]
    exact no rfl (fun h => by have := h.1; omega) hbn
  by_cases c2 : (60 : Int) < disks
  · simp only [Gv_add, w_seq, v_reg, q_cons, q_nil, q_nop, q_op, q_eff, q_opg, q_effg, keep_ok, drop1_ok, out_ok, crRec_mk, onNorm_norm, onNorm_exit, onNorm_ret, addRW_mk, w_cond, onCond_mk, w_block, onBlock_norm, onBlock_ret, onBlock_exit, w_pre, w_post, onPost_norm, onPost_exit, onPost_ret, w_exit, w_ret, onRet_mk, res_nil, res_cons, resO_v, retV_one, fixE_mk, lmap_nil, lmap_cons, ldrop_z, ldrop_s, ev_v, ev_c, lget_z, lget_s, evs_nil, evs_cons, s_mov, s_pick, s_bin, s_una, s_conv, s_fld, s_idx, s_ida, s_build, s_extr, s_nilck, s_len, s_mx, s_ld1, s_ldn, s_st, s_call, s_new, s_box, s_make, s_app, bin_int, i_add, i_sub, i_mul, i_eql, i_neq, i_lss, i_gtr, i_leq, i_geq, pick_mk, wantB_mk, una_not, fld_mk, nilck_mk, valO_some, lor_zero', zero_lor', cond_true, cond_false, Nat.beq_refl, natOf_mk, natOf_zero, natOf_one, obind_some, w_skip, Bool.not_true, Bool.not_false, wantB_undef, newb_fm, ptrP_mk, slcP_mk, cells_agg, hM, hd, c1, c2, decide_true, decide_false]
    exact no rfl (fun h => by have := h.2.1; omega) hbn
  by_cases c3 : (gs.length : Int) < 1
  · simp only [Gv_add, w_seq, v_reg, q_cons, q_nil, q_nop, q_op, q_eff, q_opg, q_effg, keep_ok, drop1_ok, out_ok, crRec_mk, onNorm_norm, onNorm_exit, onNorm_ret, addRW_mk, w_cond, onCond_mk, w_block, onBlock_norm, onBlock_ret, onBlock_exit, w_pre, w_post, onPost_norm, onPost_exit, onPost_ret, w_exit, w_ret, onRet_mk, res_nil, res_cons, resO_v, retV_one, fixE_mk, lmap_nil, lmap_cons, ldrop_z, ldrop_s, ev_v, ev_c, lget_z, lget_s, evs_nil, evs_cons, s_mov, s_pick, s_bin, s_una, s_conv, s_fld, s_idx, s_ida, s_build, s_extr, s_nilck, s_len, s_mx, s_ld1, s_ldn, s_st, s_call, s_new, s_box, s_make, s_app, bin_int, i_add, i_sub, i_mul, i_eql, i_neq, i_lss, i_gtr, i_leq, i_geq, pick_mk, wantB_mk, una_not, fld_mk, nilck_mk, valO_some, lor_zero', zero_lor', cond_true, cond_false, Nat.beq_refl, natOf_mk, natOf_zero, natOf_one, obind_some, w_skip, Bool.not_true, Bool.not_false, wantB_undef, newb_fm, ptrP_mk, slcP_mk, cells_agg, hM, hd, c1, c2, c3, hgv, hgs'.len, decide_true, decide_false]
    exact no rfl (fun ⟨_, _, _, g0, h0, _⟩ => by have := (List.getElem?_eq_some_iff.1 h0).1; omega) hbn
  have h0 : 0 < gs.length := by omega
  by_cases c4 : (4096 : Int) < (gs.length : Int)
  · simp only [Gv_add, w_seq, v_reg, q_cons, q_nil, q_nop, q_op, q_eff, q_opg, q_effg, keep_ok, drop1_ok, out_ok, crRec_mk, onNorm_norm, onNorm_exit, onNorm_ret, addRW_mk, w_cond, onCond_mk, w_block, onBlock_norm, onBlock_ret, onBlock_exit, w_pre, w_post, onPost_norm, onPost_exit, onPost_ret, w_exit, w_ret, onRet_mk, res_nil, res_cons, resO_v, retV_one, fixE_mk, lmap_nil, lmap_cons, ldrop_z, ldrop_s, ev_v, ev_c, lget_z, lget_s, evs_nil, evs_cons, s_mov, s_pick, s_bin, s_una, s_conv, s_fld, s_idx, s_ida, s_build, s_extr, s_nilck, s_len, s_mx, s_ld1, s_ldn, s_st, s_call, s_new, s_box, s_make, s_app, bin_int, i_add, i_sub, i_mul, i_eql, i_neq, i_lss, i_gtr, i_leq, i_geq, pick_mk, wantB_mk, una_not, fld_mk, nilck_mk, valO_some, lor_zero', zero_lor', cond_true, cond_false, Nat.beq_refl, natOf_mk, natOf_zero, natOf_one, obind_some, w_skip, Bool.not_true, Bool.not_false, wantB_undef, newb_fm, ptrP_mk, slcP_mk, cells_agg, hM, hd, c1, c2, c3, c4, hgv, hgs'.len, decide_true, decide_false]
    exact no rfl (fun h => by have := h.2.2.1; omega) hbn
  obtain ⟨a0, b0, g0v, hix0, hld0, _, hg0⟩ := hgs'.at h0
  replace hix0 : idxV 1 0 gv = some (.pointer (some a0)) := hix0
  have hget : gs[0]? = some gs[0] := List.getElem?_eq_getElem h0
  by_cases c5 : (gs[0].length : Int) < 2
  · simp only [Gv_add, w_seq, v_reg, q_cons, q_nil, q_nop, q_op, q_eff, q_opg, q_effg, keep_ok, drop1_ok, out_ok, crRec_mk, onNorm_norm, onNorm_exit, onNorm_ret, addRW_mk, w_cond, onCond_mk, w_block, onBlock_norm, onBlock_ret, onBlock_exit, w_pre, w_post, onPost_norm, onPost_exit, onPost_ret, w_exit, w_ret, onRet_mk, res_nil, res_cons, resO_v, retV_one, fixE_mk, lmap_nil, lmap_cons, ldrop_z, ldrop_s, ev_v, ev_c, lget_z, lget_s, evs_nil, evs_cons, s_mov, s_pick, s_bin, s_una, s_conv, s_fld, s_idx, s_ida, s_build, s_extr, s_nilck, s_len, s_mx, s_ld1, s_ldn, s_st, s_call, s_new, s_box, s_make, s_app, bin_int, i_add, i_sub, i_mul, i_eql, i_neq, i_lss, i_gtr, i_leq, i_geq, pick_mk, wantB_mk, una_not, fld_mk, nilck_mk, valO_some, lor_zero', zero_lor', cond_true, cond_false, Nat.beq_refl, natOf_mk, natOf_zero, natOf_one, obind_some, w_skip, Bool.not_true, Bool.not_false, wantB_undef, newb_fm, ptrP_mk, slcP_mk, cells_agg, hM, hd, c1, c2, c3, c4, c5, hgv, hgs'.len, hix0, hld0, hg0.len, decide_true, decide_false]
    exact no rfl (fun ⟨_, _, _, g0, h0, h1, _⟩ => by rw [hget] at h0; injection h0 with h0; subst h0; omega) hbn
  obtain ⟨rf, ef, hrf⟩ := named_r (fun l => execW PG E Y ac47L1 l M (n + 1))
  have hloop := fun x2 x5 x6 x8 => formed_L1 (E := E) (Y := Y) M (n + 1) n disks gv hp (by omega) gs hgs' hl hrow h0 x2 x5 x6 x8 gs.length 0 (by omega)
  by_cases c6 : GroupsFrom disks gs[0].length gs 0
  · have heq : ∀ x2 x5 x6 x8, execW PG E Y ac47L1 [.bool false, .int .i64 0, x2, .int .i64 (gs.length : Int), gv, x5, x6, .pointer (some ⟨n, 0, none⟩), x8] M (n + 1) = .ok (.exit 0) [.bool false, x2, .int .i64 (gs.length : Int), gv, x5, x6, .pointer (some ⟨n, 0, none⟩), x8] M (n + 1) (rf [.bool false, .int .i64 0, x2, .int .i64 (gs.length : Int), gv, x5, x6, .pointer (some ⟨n, 0, none⟩), x8]) 0 := fun x2 x5 x6 x8 => by
      rw [(hrf _).1]
      refine gv_norm ((hloop x2 x5 x6 x8).mono fun X e' m' n' w hh => ?_)
      obtain ⟨h1, h2, h3, h4⟩ := hh
      rcases h4 with ⟨_, h5, h6⟩ | ⟨h5, _⟩
      · exact ⟨h5, h6, h1, h2, h3⟩
      · exact absurd c6 h5
    simp only [Gv_add, w_seq, v_reg, q_cons, q_nil, q_nop, q_op, q_eff, q_opg, q_effg, keep_ok, drop1_ok, out_ok, crRec_mk, onNorm_norm, onNorm_exit, onNorm_ret, addRW_mk, w_cond, onCond_mk, w_block, onBlock_norm, onBlock_ret, onBlock_exit, w_pre, w_post, onPost_norm, onPost_exit, onPost_ret, w_exit, w_ret, onRet_mk, res_nil, res_cons, resO_v, retV_one, fixE_mk, lmap_nil, lmap_cons, ldrop_z, ldrop_s, ev_v, ev_c, lget_z, lget_s, evs_nil, evs_cons, s_mov, s_pick, s_bin, s_una, s_conv, s_fld, s_idx, s_ida, s_build, s_extr, s_nilck, s_len, s_mx, s_ld1, s_ldn, s_st, s_call, s_new, s_box, s_make, s_app, bin_int, i_add, i_sub, i_mul, i_eql, i_neq, i_lss, i_gtr, i_leq, i_geq, pick_mk, wantB_mk, una_not, fld_mk, nilck_mk, valO_some, lor_zero', zero_lor', cond_true, cond_false, Nat.beq_refl, natOf_mk, natOf_zero, natOf_one, obind_some, w_skip, Bool.not_true, Bool.not_false, wantB_undef, newb_fm, ptrP_mk, slcP_mk, cells_agg, hM, hd, c1, c2, c3, c4, c5, hgv, hgs'.len, hix0, hld0, hg0.len, decide_true, decide_false, heq]
    exact ⟨by rw [decide_eq_true ⟨by omega, by omega, by omega, _, hget, by omega, c6⟩], hbn⟩
  · have heq : ∀ x2 x5 x6 x8, execW PG E Y ac47L1 [.bool false, .int .i64 0, x2, .int .i64 (gs.length : Int), gv, x5, x6, .pointer (some ⟨n, 0, none⟩), x8] M (n + 1) = .ok (.ret (.bool false)) (ef [.bool false, .int .i64 0, x2, .int .i64 (gs.length : Int), gv, x5, x6, .pointer (some ⟨n, 0, none⟩), x8]) M (n + 1) (rf [.bool false, .int .i64 0, x2, .int .i64 (gs.length : Int), gv, x5, x6, .pointer (some ⟨n, 0, none⟩), x8]) 0 := fun x2 x5 x6 x8 => by
      rw [(hrf _).1, (hrf _).2]
      refine gv_ret ((hloop x2 x5 x6 x8).mono fun X e' m' n' w hh => ?_)
      obtain ⟨h1, h2, h3, h4⟩ := hh
      rcases h4 with ⟨h5, _, _⟩ | ⟨_, h5⟩
      · exact absurd h5 c6
      · exact ⟨h5, h1, h2, h3⟩
    simp only [Gv_add, w_seq, v_reg, q_cons, q_nil, q_nop, q_op, q_eff, q_opg, q_effg, keep_ok, drop1_ok, out_ok, crRec_mk, onNorm_norm, onNorm_exit, onNorm_ret, addRW_mk, w_cond, onCond_mk, w_block, onBlock_norm, onBlock_ret, onBlock_exit, w_pre, w_post, onPost_norm, onPost_exit, onPost_ret, w_exit, w_ret, onRet_mk, res_nil, res_cons, resO_v, retV_one, fixE_mk, lmap_nil, lmap_cons, ldrop_z, ldrop_s, ev_v, ev_c, lget_z, lget_s, evs_nil, evs_cons, s_mov, s_pick, s_bin, s_una, s_conv, s_fld, s_idx, s_ida, s_build, s_extr, s_nilck, s_len, s_mx, s_ld1, s_ldn, s_st, s_call, s_new, s_box, s_make, s_app, bin_int, i_add, i_sub, i_mul, i_eql, i_neq, i_lss, i_gtr, i_leq, i_geq, pick_mk, wantB_mk, una_not, fld_mk, nilck_mk, valO_some, lor_zero', zero_lor', cond_true, cond_false, Nat.beq_refl, natOf_mk, natOf_zero, natOf_one, obind_some, w_skip, Bool.not_true, Bool.not_false, wantB_undef, newb_fm, ptrP_mk, slcP_mk, cells_agg, hM, hd, c1, c2, c3, c4, c5, hgv, hgs'.len, hix0, hld0, hg0.len, decide_true, decide_false, heq]
    exact no rfl (fun ⟨_, _, _, g0, h0, h1, h2⟩ => by rw [hget] at h0; injection h0 with h0; subst h0; exact c6 h2) hbn
end Go.Am.C21
