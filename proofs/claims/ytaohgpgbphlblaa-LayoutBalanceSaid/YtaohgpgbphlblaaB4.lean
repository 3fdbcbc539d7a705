/- The machine and its runs, part 4: Am21b Am21c Am21d Am21e Am21f Am21g Am21h Am21i Am21j Am21k Am21m Am21n. -/
import Derived.Test.YtaohgpgbphlblaaB3
set_option linter.unusedVariables false
set_option linter.unusedSimpArgs false
set_option linter.unusedSectionVars false
namespace Go.Am.C21
open Go Go.Am
variable {E : Nat → Option AFn} {Y : Nat → List Value → FM → Nat → OR FM}
/-- a place of a row is good -/
def PlaceOk (disks : Int) (g : List Int) (i : Nat) : Prop := ∀ x, g[i]? = some x → 0 ≤ x ∧ x < disks ∧ (0 < i → ∀ y, g[i - 1]? = some y → y < x)
def RowFrom (disks : Int) (g : List Int) (j : Nat) : Prop := ∀ i, j ≤ i → i < g.length → PlaceOk disks g i
theorem rowFrom_end {disks : Int} {g : List Int} {j : Nat} (h : g.length ≤ j) : RowFrom disks g j := fun i h1 h2 => by omega
theorem rowFrom_step {disks : Int} {g : List Int} {j : Nat} (h : j < g.length) : RowFrom disks g j ↔ PlaceOk disks g j ∧ RowFrom disks g (j + 1) :=
  ⟨fun hr => ⟨hr j (Nat.le_refl _) h, fun i h1 h2 => hr i (by omega) h2⟩, fun ⟨h1, h2⟩ i h3 h4 => by
    rcases Nat.eq_or_lt_of_le h3 with rfl | h5
    · exact h1
    · exact h2 i h5 h4⟩
theorem placeOk_iff {disks : Int} {g : List Int} {j : Nat} (h : j < g.length) : PlaceOk disks g j ↔ 0 ≤ g[j] ∧ g[j] < disks ∧ (0 < j → g[j - 1] < g[j]) := by
  unfold PlaceOk
  rw [List.getElem?_eq_getElem h]
  constructor
  · intro hp
    obtain ⟨h1, h2, h3⟩ := hp _ rfl
    exact ⟨h1, h2, fun hj => h3 hj _ (List.getElem?_eq_getElem (by omega))⟩
  · rintro ⟨h1, h2, h3⟩ x hx
    injection hx with hx; subst hx
    refine ⟨h1, h2, fun hj y hy => ?_⟩
    rw [List.getElem?_eq_getElem (by omega)] at hy
    injection hy with hy; subst hy
    exact h3 hj
theorem formed_L0 (M : FM) (N p : Nat) (disks : Int) (gv : Value) (hp : M p = some (.cells [.int .i64 disks, gv] 0 false true)) (hpN : p < N) (g : List Int) (gval : Value) (hg : Ints M N gval g) (hl : g.length < 4611686018427387904)
    (x2 x4 x5 x6 x7 x8 x9 x10 x12 x13 x14 x15 x16 x17 x18 x19 x20 x22 : Value) : ∀ d j, j + d = g.length →
    Gv (execW PG E Y ac47L0 [.bool false, .int .i64 (j : Int), x2, .int .i64 (g.length : Int), x4, x5, x6, x7, x8, x9, x10, gval, x12, x13, x14, x15, x16, x17, x18, x19, x20, .pointer (some ⟨p, 0, none⟩), x22] M N) fun X e' m' n' w => m' = M ∧ n' = N ∧ w = 0 ∧
      ((RowFrom disks g j ∧ X = .exit 2 ∧ e' = [.bool false, .int .i64 (g.length : Int), x2, .int .i64 (g.length : Int), x4, x5, x6, x7, x8, x9, x10, gval, x12, x13, x14, x15, x16, x17, x18, x19, x20, .pointer (some ⟨p, 0, none⟩), x22])
        ∨ (¬ RowFrom disks g j ∧ X = .ret (.bool false))) := by
  intro d
  have hd : ld1V M N (.pointer (some ⟨p, 0 + 0, none⟩)) = .ok (.int .i64 disks) M N (bit p) 0 := ld1_at hpN hp rfl
  induction d with
  | zero =>
    intro j hj
    have hjl : (j : Int) = (g.length : Int) := by omega
    have hlt : ¬ ((g.length : Int) < (g.length : Int)) := by omega
    rw [ac47L0_w, hjl]
    simp only [ac47L0b, Gv_add, w_seq, v_reg, q_cons, q_nil, q_nop, q_op, q_eff, q_opg, q_effg, keep_ok, drop1_ok, out_ok, crRec_mk, onNorm_norm, onNorm_exit, onNorm_ret, addRW_mk, w_cond, onCond_mk, w_block, onBlock_norm, onBlock_ret, onBlock_exit, w_pre, w_post, onPost_norm, onPost_exit, onPost_ret, w_exit, w_ret, onRet_mk, res_nil, res_cons, resO_v, retV_one, fixE_mk, lmap_nil, lmap_cons, ldrop_z, ldrop_s, ev_v, ev_c, lget_z, lget_s, evs_nil, evs_cons, s_mov, s_pick, s_bin, s_una, s_conv, s_fld, s_idx, s_ida, s_build, s_extr, s_nilck, s_len, s_mx, s_ld1, s_ldn, s_st, s_call, s_new, s_box, s_make, s_app, bin_int, i_add, i_sub, i_mul, i_eql, i_neq, i_lss, i_gtr, i_leq, i_geq, pick_mk, wantB_mk, una_not, fld_mk, nilck_mk, valO_some, lor_zero', zero_lor', cond_true, cond_false, Nat.beq_refl, natOf_mk, natOf_zero, natOf_one, obind_some, w_skip, Bool.not_true, Bool.not_false, wantB_undef, newb_fm, ptrP_mk, slcP_mk, cells_agg, hlt, decide_false]
    exact ⟨rfl, rfl, rfl, .inl ⟨rowFrom_end (by omega), rfl, rfl⟩⟩
  | succ d ih =>
    intro j hj
    have hlt : (j : Int) < (g.length : Int) := by omega
    have hjl : j < g.length := by omega
    obtain ⟨a, b, hix, hld, hb⟩ := hg.at hjl
    have hw : IntKind.i64.wrap ((j : Int) + 1) = ((j + 1 : Nat) : Int) := by rw [wrap_small (by omega) (by omega)]; omega
    have hiff := placeOk_iff (disks := disks) hjl
    have hstep := rowFrom_step (disks := disks) hjl
    rw [ac47L0_w]
    by_cases h1 : g[j] < 0
    · simp only [ac47L0b, Gv_add, w_seq, v_reg, q_cons, q_nil, q_nop, q_op, q_eff, q_opg, q_effg, keep_ok, drop1_ok, out_ok, crRec_mk, onNorm_norm, onNorm_exit, onNorm_ret, addRW_mk, w_cond, onCond_mk, w_block, onBlock_norm, onBlock_ret, onBlock_exit, w_pre, w_post, onPost_norm, onPost_exit, onPost_ret, w_exit, w_ret, onRet_mk, res_nil, res_cons, resO_v, retV_one, fixE_mk, lmap_nil, lmap_cons, ldrop_z, ldrop_s, ev_v, ev_c, lget_z, lget_s, evs_nil, evs_cons, s_mov, s_pick, s_bin, s_una, s_conv, s_fld, s_idx, s_ida, s_build, s_extr, s_nilck, s_len, s_mx, s_ld1, s_ldn, s_st, s_call, s_new, s_box, s_make, s_app, bin_int, i_add, i_sub, i_mul, i_eql, i_neq, i_lss, i_gtr, i_leq, i_geq, pick_mk, wantB_mk, una_not, fld_mk, nilck_mk, valO_some, lor_zero', zero_lor', cond_true, cond_false, Nat.beq_refl, natOf_mk, natOf_zero, natOf_one, obind_some, w_skip, Bool.not_true, Bool.not_false, wantB_undef, newb_fm, ptrP_mk, slcP_mk, cells_agg, hlt, decide_true, hix, hld, h1]
      exact ⟨rfl, rfl, rfl, .inr ⟨fun h => by have := (hiff.1 (hstep.1 h).1).1; omega, rfl⟩⟩
    · by_cases h2 : disks ≤ g[j]
      · simp only [ac47L0b, Gv_add, w_seq, v_reg, q_cons, q_nil, q_nop, q_op, q_eff, q_opg, q_effg, keep_ok, drop1_ok, out_ok, crRec_mk, onNorm_norm, onNorm_exit, onNorm_ret, addRW_mk, w_cond, onCond_mk, w_block, onBlock_norm, onBlock_ret, onBlock_exit, w_pre, w_post, onPost_norm, onPost_exit, onPost_ret, w_exit, w_ret, onRet_mk, res_nil, res_cons, resO_v, retV_one, fixE_mk, lmap_nil, lmap_cons, ldrop_z, ldrop_s, ev_v, ev_c, lget_z, lget_s, evs_nil, evs_cons, s_mov, s_pick, s_bin, s_una, s_conv, s_fld, s_idx, s_ida, s_build, s_extr, s_nilck, s_len, s_mx, s_ld1, s_ldn, s_st, s_call, s_new, s_box, s_make, s_app, bin_int, i_add, i_sub, i_mul, i_eql, i_neq, i_lss, i_gtr, i_leq, i_geq, pick_mk, wantB_mk, una_not, fld_mk, nilck_mk, valO_some, lor_zero', zero_lor', cond_true, cond_false, Nat.beq_refl, natOf_mk, natOf_zero, natOf_one, obind_some, w_skip, Bool.not_true, Bool.not_false, wantB_undef, newb_fm, ptrP_mk, slcP_mk, cells_agg, hlt, decide_true, decide_false, hix, hld, h1, h2, hd, Bool.not_false, Bool.not_true]
        exact ⟨rfl, rfl, rfl, .inr ⟨fun h => by have := (hiff.1 (hstep.1 h).1).2.1; omega, rfl⟩⟩
      · by_cases h3 : 0 < (j : Int)
        · obtain ⟨a2, b2, hix2, hld2, hb2⟩ := hg.at (i := j - 1) (by omega)
          have hw2 : IntKind.i64.wrap ((j : Int) - 1) = ((j - 1 : Nat) : Int) := by rw [wrap_small (by omega) (by omega)]; omega
          by_cases h4 : g[j] ≤ g[j - 1]
          · simp only [ac47L0b, Gv_add, w_seq, v_reg, q_cons, q_nil, q_nop, q_op, q_eff, q_opg, q_effg, keep_ok, drop1_ok, out_ok, crRec_mk, onNorm_norm, onNorm_exit, onNorm_ret, addRW_mk, w_cond, onCond_mk, w_block, onBlock_norm, onBlock_ret, onBlock_exit, w_pre, w_post, onPost_norm, onPost_exit, onPost_ret, w_exit, w_ret, onRet_mk, res_nil, res_cons, resO_v, retV_one, fixE_mk, lmap_nil, lmap_cons, ldrop_z, ldrop_s, ev_v, ev_c, lget_z, lget_s, evs_nil, evs_cons, s_mov, s_pick, s_bin, s_una, s_conv, s_fld, s_idx, s_ida, s_build, s_extr, s_nilck, s_len, s_mx, s_ld1, s_ldn, s_st, s_call, s_new, s_box, s_make, s_app, bin_int, i_add, i_sub, i_mul, i_eql, i_neq, i_lss, i_gtr, i_leq, i_geq, pick_mk, wantB_mk, una_not, fld_mk, nilck_mk, valO_some, lor_zero', zero_lor', cond_true, cond_false, Nat.beq_refl, natOf_mk, natOf_zero, natOf_one, obind_some, w_skip, Bool.not_true, Bool.not_false, wantB_undef, newb_fm, ptrP_mk, slcP_mk, cells_agg, hlt, decide_true, decide_false, hix, hld, h1, h2, hd, Bool.not_false, Bool.not_true, h3, hw2, hix2, hld2, h4]
            exact ⟨rfl, rfl, rfl, .inr ⟨fun h => by have := (hiff.1 (hstep.1 h).1).2.2 (by omega); omega, rfl⟩⟩
          · simp only [ac47L0b, Gv_add, w_seq, v_reg, q_cons, q_nil, q_nop, q_op, q_eff, q_opg, q_effg, keep_ok, drop1_ok, out_ok, crRec_mk, onNorm_norm, onNorm_exit, onNorm_ret, addRW_mk, w_cond, onCond_mk, w_block, onBlock_norm, onBlock_ret, onBlock_exit, w_pre, w_post, onPost_norm, onPost_exit, onPost_ret, w_exit, w_ret, onRet_mk, res_nil, res_cons, resO_v, retV_one, fixE_mk, lmap_nil, lmap_cons, ldrop_z, ldrop_s, ev_v, ev_c, lget_z, lget_s, evs_nil, evs_cons, s_mov, s_pick, s_bin, s_una, s_conv, s_fld, s_idx, s_ida, s_build, s_extr, s_nilck, s_len, s_mx, s_ld1, s_ldn, s_st, s_call, s_new, s_box, s_make, s_app, bin_int, i_add, i_sub, i_mul, i_eql, i_neq, i_lss, i_gtr, i_leq, i_geq, pick_mk, wantB_mk, una_not, fld_mk, nilck_mk, valO_some, lor_zero', zero_lor', cond_true, cond_false, Nat.beq_refl, natOf_mk, natOf_zero, natOf_one, obind_some, w_skip, Bool.not_true, Bool.not_false, wantB_undef, newb_fm, ptrP_mk, slcP_mk, cells_agg, hlt, decide_true, decide_false, hix, hld, h1, h2, hd, Bool.not_false, Bool.not_true, h3, hw2, hix2, hld2, h4, hw]
            refine Gv.mono (ih (j + 1) (by omega)) fun X e' m' n' w h => ?_
            have : (0 ≤ g[j] ∧ g[j] < disks ∧ (0 < j → g[j - 1] < g[j])) := ⟨by omega, by omega, fun _ => by omega⟩
            have hr : RowFrom disks g j ↔ RowFrom disks g (j + 1) := by rw [hstep, hiff]; exact ⟨fun h => h.2, fun h => ⟨this, h⟩⟩
            rw [hr]
            simpa only [zero_lor'] using h
        · simp only [ac47L0b, Gv_add, w_seq, v_reg, q_cons, q_nil, q_nop, q_op, q_eff, q_opg, q_effg, keep_ok, drop1_ok, out_ok, crRec_mk, onNorm_norm, onNorm_exit, onNorm_ret, addRW_mk, w_cond, onCond_mk, w_block, onBlock_norm, onBlock_ret, onBlock_exit, w_pre, w_post, onPost_norm, onPost_exit, onPost_ret, w_exit, w_ret, onRet_mk, res_nil, res_cons, resO_v, retV_one, fixE_mk, lmap_nil, lmap_cons, ldrop_z, ldrop_s, ev_v, ev_c, lget_z, lget_s, evs_nil, evs_cons, s_mov, s_pick, s_bin, s_una, s_conv, s_fld, s_idx, s_ida, s_build, s_extr, s_nilck, s_len, s_mx, s_ld1, s_ldn, s_st, s_call, s_new, s_box, s_make, s_app, bin_int, i_add, i_sub, i_mul, i_eql, i_neq, i_lss, i_gtr, i_leq, i_geq, pick_mk, wantB_mk, una_not, fld_mk, nilck_mk, valO_some, lor_zero', zero_lor', cond_true, cond_false, Nat.beq_refl, natOf_mk, natOf_zero, natOf_one, obind_some, w_skip, Bool.not_true, Bool.not_false, wantB_undef, newb_fm, ptrP_mk, slcP_mk, cells_agg, hlt, decide_true, decide_false, hix, hld, h1, h2, hd, Bool.not_false, Bool.not_true, h3, hw]
          refine Gv.mono (ih (j + 1) (by omega)) fun X e' m' n' w h => ?_
          have : (0 ≤ g[j] ∧ g[j] < disks ∧ (0 < j → g[j - 1] < g[j])) := ⟨by omega, by omega, fun _ => by omega⟩
          have hr : RowFrom disks g j ↔ RowFrom disks g (j + 1) := by rw [hstep, hiff]; exact ⟨fun h => h.2, fun h => ⟨this, h⟩⟩
          rw [hr]
          simpa only [zero_lor'] using h

theorem formed_L0_yes (M : FM) (N p : Nat) (disks : Int) (gv : Value) (hp : M p = some (.cells [.int .i64 disks, gv] 0 false true)) (hpN : p < N) (g : List Int) (gval : Value) (hg : Ints M N gval g) (hl : g.length < 4611686018427387904) (hr : RowFrom disks g 0) :
    ∃ rf : List Value → Nat, ∀ x2 x4 x5 x6 x7 x8 x9 x10 x12 x13 x14 x15 x16 x17 x18 x19 x20 x22, execW PG E Y ac47L0 [.bool false, .int .i64 0, x2, .int .i64 (g.length : Int), x4, x5, x6, x7, x8, x9, x10, gval, x12, x13, x14, x15, x16, x17, x18, x19, x20, .pointer (some ⟨p, 0, none⟩), x22] M N = .ok (.exit 2) [.bool false, .int .i64 (g.length : Int), x2, .int .i64 (g.length : Int), x4, x5, x6, x7, x8, x9, x10, gval, x12, x13, x14, x15, x16, x17, x18, x19, x20, .pointer (some ⟨p, 0, none⟩), x22] M N (rf [.bool false, .int .i64 0, x2, .int .i64 (g.length : Int), x4, x5, x6, x7, x8, x9, x10, gval, x12, x13, x14, x15, x16, x17, x18, x19, x20, .pointer (some ⟨p, 0, none⟩), x22]) 0 := by
  obtain ⟨rf, ef, h⟩ := named_r (fun l => execW PG E Y ac47L0 l M N)
  refine ⟨rf, fun x2 x4 x5 x6 x7 x8 x9 x10 x12 x13 x14 x15 x16 x17 x18 x19 x20 x22 => ?_⟩
  rw [(h _).1]
  refine gv_norm (Gv.mono (formed_L0 (E := E) (Y := Y) M N p disks gv hp hpN g gval hg hl x2 x4 x5 x6 x7 x8 x9 x10 x12 x13 x14 x15 x16 x17 x18 x19 x20 x22 g.length 0 (by omega)) fun X e' m' n' w hh => ?_)
  obtain ⟨h1, h2, h3, h4⟩ := hh
  rcases h4 with ⟨_, h5, h6⟩ | ⟨h5, _⟩
  · exact ⟨h5, h6, h1, h2, h3⟩
  · exact absurd hr h5
theorem formed_L0_no (M : FM) (N p : Nat) (disks : Int) (gv : Value) (hp : M p = some (.cells [.int .i64 disks, gv] 0 false true)) (hpN : p < N) (g : List Int) (gval : Value) (hg : Ints M N gval g) (hl : g.length < 4611686018427387904) (hr : ¬ RowFrom disks g 0) :
    ∃ (rf : List Value → Nat) (ef : List Value → List Value), ∀ x2 x4 x5 x6 x7 x8 x9 x10 x12 x13 x14 x15 x16 x17 x18 x19 x20 x22, execW PG E Y ac47L0 [.bool false, .int .i64 0, x2, .int .i64 (g.length : Int), x4, x5, x6, x7, x8, x9, x10, gval, x12, x13, x14, x15, x16, x17, x18, x19, x20, .pointer (some ⟨p, 0, none⟩), x22] M N = .ok (.ret (.bool false)) (ef [.bool false, .int .i64 0, x2, .int .i64 (g.length : Int), x4, x5, x6, x7, x8, x9, x10, gval, x12, x13, x14, x15, x16, x17, x18, x19, x20, .pointer (some ⟨p, 0, none⟩), x22]) M N (rf [.bool false, .int .i64 0, x2, .int .i64 (g.length : Int), x4, x5, x6, x7, x8, x9, x10, gval, x12, x13, x14, x15, x16, x17, x18, x19, x20, .pointer (some ⟨p, 0, none⟩), x22]) 0 := by
  obtain ⟨rf, ef, h⟩ := named_r (fun l => execW PG E Y ac47L0 l M N)
  refine ⟨rf, ef, fun x2 x4 x5 x6 x7 x8 x9 x10 x12 x13 x14 x15 x16 x17 x18 x19 x20 x22 => ?_⟩
  rw [(h _).1, (h _).2]
  refine gv_ret (Gv.mono (formed_L0 (E := E) (Y := Y) M N p disks gv hp hpN g gval hg hl x2 x4 x5 x6 x7 x8 x9 x10 x12 x13 x14 x15 x16 x17 x18 x19 x20 x22 g.length 0 (by omega)) fun X e' m' n' w hh => ?_)
  obtain ⟨h1, h2, h3, h4⟩ := hh
  rcases h4 with ⟨h5, _, _⟩ | ⟨_, h5⟩
  · exact absurd h5 hr
  · exact ⟨h5, h1, h2, h3⟩

/-- the groups from a place on are formed -/
def GroupsFrom (disks : Int) (w : Nat) (gs : List (List Int)) (j : Nat) : Prop := ∀ i g, j ≤ i → gs[i]? = some g → g.length = w ∧ RowFrom disks g 0
theorem groupsFrom_end {disks : Int} {w : Nat} {gs : List (List Int)} {j : Nat} (h : gs.length ≤ j) : GroupsFrom disks w gs j := fun i g h1 h2 => by
  have := (List.getElem?_eq_some_iff.1 h2).1; omega
theorem groupsFrom_step {disks : Int} {w : Nat} {gs : List (List Int)} {j : Nat} (h : j < gs.length) : GroupsFrom disks w gs j ↔ (gs[j].length = w ∧ RowFrom disks gs[j] 0) ∧ GroupsFrom disks w gs (j + 1) :=
  ⟨fun hr => ⟨hr j _ (Nat.le_refl _) (List.getElem?_eq_getElem h), fun i g h1 h2 => hr i g (by omega) h2⟩, fun ⟨h1, h2⟩ i g h3 h4 => by
    rcases Nat.eq_or_lt_of_le h3 with rfl | h5
    · rw [List.getElem?_eq_getElem h] at h4; injection h4 with h4; subst h4; exact h1
    · exact h2 i g h5 h4⟩
theorem formed_L1 (M : FM) (N p : Nat) (disks : Int) (gv : Value) (hp : M p = some (.cells [.int .i64 disks, gv] 0 false true)) (hpN : p < N) (gs : List (List Int)) (hgs : Rows M N gv gs) (hl : gs.length < 4611686018427387904) (hrow : ∀ g ∈ gs, g.length < 4611686018427387904) (h0 : 0 < gs.length)
    (x2 x5 x6 x8 : Value) : ∀ d j, j + d = gs.length →
    Gv (execW PG E Y ac47L1 [.bool false, .int .i64 (j : Int), x2, .int .i64 (gs.length : Int), gv, x5, x6, .pointer (some ⟨p, 0, none⟩), x8] M N) fun X e' m' n' w => m' = M ∧ n' = N ∧ w = 0 ∧
      ((GroupsFrom disks gs[0].length gs j ∧ X = .exit 0 ∧ e' = [.bool false, x2, .int .i64 (gs.length : Int), gv, x5, x6, .pointer (some ⟨p, 0, none⟩), x8]) ∨ (¬ GroupsFrom disks gs[0].length gs j ∧ X = .ret (.bool false))) := by
  intro d
  have hgv : ld1V M N (.pointer (some ⟨p, 0 + 1, none⟩)) = .ok gv M N (bit p) 0 := ld1_at hpN hp rfl
  obtain ⟨a0, b0, g0v, hix0, hld0, _, hg0⟩ := hgs.at h0
  replace hix0 : idxV 1 0 gv = some (.pointer (some a0)) := hix0
  induction d with
  | zero =>
    intro j hj
    have hjl : (j : Int) = (gs.length : Int) := by omega
    have hlt : ¬ ((gs.length : Int) < (gs.length : Int)) := by omega
    rw [ac47L1_w, hjl]
    simp only [ac47L1b, Gv_add, w_seq, v_reg, q_cons, q_nil, q_nop, q_op, q_eff, q_opg, q_effg, keep_ok, drop1_ok, out_ok, crRec_mk, onNorm_norm, onNorm_exit, onNorm_ret, addRW_mk, w_cond, onCond_mk, w_block, onBlock_norm, onBlock_ret, onBlock_exit, w_pre, w_post, onPost_norm, onPost_exit, onPost_ret, w_exit, w_ret, onRet_mk, res_nil, res_cons, resO_v, retV_one, fixE_mk, lmap_nil, lmap_cons, ldrop_z, ldrop_s, ev_v, ev_c, lget_z, lget_s, evs_nil, evs_cons, s_mov, s_pick, s_bin, s_una, s_conv, s_fld, s_idx, s_ida, s_build, s_extr, s_nilck, s_len, s_mx, s_ld1, s_ldn, s_st, s_call, s_new, s_box, s_make, s_app, bin_int, i_add, i_sub, i_mul, i_eql, i_neq, i_lss, i_gtr, i_leq, i_geq, pick_mk, wantB_mk, una_not, fld_mk, nilck_mk, valO_some, lor_zero', zero_lor', cond_true, cond_false, Nat.beq_refl, natOf_mk, natOf_zero, natOf_one, obind_some, w_skip, Bool.not_true, Bool.not_false, wantB_undef, newb_fm, ptrP_mk, slcP_mk, cells_agg, hlt, decide_false]
    exact ⟨rfl, rfl, rfl, .inl ⟨groupsFrom_end (by omega), rfl, rfl⟩⟩
  | succ d ih =>
    intro j hj
    have hlt : (j : Int) < (gs.length : Int) := by omega
    have hjl : j < gs.length := by omega
    obtain ⟨a, b, gval, hix, hld, hb, hg⟩ := hgs.at hjl
    have hw : IntKind.i64.wrap ((j : Int) + 1) = ((j + 1 : Nat) : Int) := by rw [wrap_small (by omega) (by omega)]; omega
    have hstep := groupsFrom_step (disks := disks) (w := gs[0].length) hjl
    rw [ac47L1_w]
    by_cases h1 : (gs[j].length : Int) = (gs[0].length : Int)
    · have h1' : decide ((gs[j].length : Int) = (gs[0].length : Int)) = true := decide_eq_true h1
      have hlj := hrow gs[j] (List.getElem_mem hjl)
      by_cases hr : RowFrom disks gs[j] 0
      · obtain ⟨rf, hrf⟩ := formed_L0_yes (E := E) (Y := Y) M N p disks gv hp hpN gs[j] gval hg hlj hr
        simp only [ac47L1b, Gv_add, w_seq, v_reg, q_cons, q_nil, q_nop, q_op, q_eff, q_opg, q_effg, keep_ok, drop1_ok, out_ok, crRec_mk, onNorm_norm, onNorm_exit, onNorm_ret, addRW_mk, w_cond, onCond_mk, w_block, onBlock_norm, onBlock_ret, onBlock_exit, w_pre, w_post, onPost_norm, onPost_exit, onPost_ret, w_exit, w_ret, onRet_mk, res_nil, res_cons, resO_v, retV_one, fixE_mk, lmap_nil, lmap_cons, ldrop_z, ldrop_s, ev_v, ev_c, lget_z, lget_s, evs_nil, evs_cons, s_mov, s_pick, s_bin, s_una, s_conv, s_fld, s_idx, s_ida, s_build, s_extr, s_nilck, s_len, s_mx, s_ld1, s_ldn, s_st, s_call, s_new, s_box, s_make, s_app, bin_int, i_add, i_sub, i_mul, i_eql, i_neq, i_lss, i_gtr, i_leq, i_geq, pick_mk, wantB_mk, una_not, fld_mk, nilck_mk, valO_some, lor_zero', zero_lor', cond_true, cond_false, Nat.beq_refl, natOf_mk, natOf_zero, natOf_one, obind_some, w_skip, Bool.not_true, Bool.not_false, wantB_undef, newb_fm, ptrP_mk, slcP_mk, cells_agg, hlt, decide_true, decide_false, hix, hld, hg.len, hg0.len, hgv, hix0, hld0, h1', hrf, hw]
        refine Gv.mono (ih (j + 1) (by omega)) fun X e' m' n' w h => ?_
        have hiff : GroupsFrom disks gs[0].length gs j ↔ GroupsFrom disks gs[0].length gs (j + 1) := by rw [hstep]; exact ⟨fun h => h.2, fun h => ⟨⟨by omega, hr⟩, h⟩⟩
        rw [hiff]
        simpa only [zero_lor'] using h
      · obtain ⟨rf, ef, hrf⟩ := formed_L0_no (E := E) (Y := Y) M N p disks gv hp hpN gs[j] gval hg hlj hr
        simp only [ac47L1b, Gv_add, w_seq, v_reg, q_cons, q_nil, q_nop, q_op, q_eff, q_opg, q_effg, keep_ok, drop1_ok, out_ok, crRec_mk, onNorm_norm, onNorm_exit, onNorm_ret, addRW_mk, w_cond, onCond_mk, w_block, onBlock_norm, onBlock_ret, onBlock_exit, w_pre, w_post, onPost_norm, onPost_exit, onPost_ret, w_exit, w_ret, onRet_mk, res_nil, res_cons, resO_v, retV_one, fixE_mk, lmap_nil, lmap_cons, ldrop_z, ldrop_s, ev_v, ev_c, lget_z, lget_s, evs_nil, evs_cons, s_mov, s_pick, s_bin, s_una, s_conv, s_fld, s_idx, s_ida, s_build, s_extr, s_nilck, s_len, s_mx, s_ld1, s_ldn, s_st, s_call, s_new, s_box, s_make, s_app, bin_int, i_add, i_sub, i_mul, i_eql, i_neq, i_lss, i_gtr, i_leq, i_geq, pick_mk, wantB_mk, una_not, fld_mk, nilck_mk, valO_some, lor_zero', zero_lor', cond_true, cond_false, Nat.beq_refl, natOf_mk, natOf_zero, natOf_one, obind_some, w_skip, Bool.not_true, Bool.not_false, wantB_undef, newb_fm, ptrP_mk, slcP_mk, cells_agg, hlt, decide_true, decide_false, hix, hld, hg.len, hg0.len, hgv, hix0, hld0, h1', hrf, hw]
        exact ⟨rfl, rfl, rfl, .inr ⟨fun h => hr (hstep.1 h).1.2, rfl⟩⟩
    · have h1' : decide ((gs[j].length : Int) = (gs[0].length : Int)) = false := decide_eq_false h1
      simp only [ac47L1b, Gv_add, w_seq, v_reg, q_cons, q_nil, q_nop, q_op, q_eff, q_opg, q_effg, keep_ok, drop1_ok, out_ok, crRec_mk, onNorm_norm, onNorm_exit, onNorm_ret, addRW_mk, w_cond, onCond_mk, w_block, onBlock_norm, onBlock_ret, onBlock_exit, w_pre, w_post, onPost_norm, onPost_exit, onPost_ret, w_exit, w_ret, onRet_mk, res_nil, res_cons, resO_v, retV_one, fixE_mk, lmap_nil, lmap_cons, ldrop_z, ldrop_s, ev_v, ev_c, lget_z, lget_s, evs_nil, evs_cons, s_mov, s_pick, s_bin, s_una, s_conv, s_fld, s_idx, s_ida, s_build, s_extr, s_nilck, s_len, s_mx, s_ld1, s_ldn, s_st, s_call, s_new, s_box, s_make, s_app, bin_int, i_add, i_sub, i_mul, i_eql, i_neq, i_lss, i_gtr, i_leq, i_geq, pick_mk, wantB_mk, una_not, fld_mk, nilck_mk, valO_some, lor_zero', zero_lor', cond_true, cond_false, Nat.beq_refl, natOf_mk, natOf_zero, natOf_one, obind_some, w_skip, Bool.not_true, Bool.not_false, wantB_undef, newb_fm, ptrP_mk, slcP_mk, cells_agg, hlt, decide_true, decide_false, hix, hld, hg.len, hg0.len, hgv, hix0, hld0, h1']
      exact ⟨rfl, rfl, rfl, .inr ⟨fun h => by have := (hstep.1 h).1.1; omega, rfl⟩⟩
/-- what 'formed' says of a design -/
def Formed (disks : Int) (gs : List (List Int)) : Prop :=
  2 ≤ disks ∧ disks ≤ 60 ∧ gs.length ≤ 4096 ∧ ∃ g0, gs[0]? = some g0 ∧ 2 ≤ g0.length ∧ GroupsFrom disks g0.length gs 0
open Classical in
theorem formed_spec (hE : E 47 = some ac47) (m : FM) (n : Nat) (disks : Int) (gv : Value) (gs : List (List Int)) (hgs : Rows m n gv gs) (hl : gs.length < 4611686018427387904) (hrow : ∀ g ∈ gs, g.length < 4611686018427387904) :
    Pure (callW PG E Y 47 [.agg #[.int .i64 disks, gv]] m n) m n (.bool (decide (Formed disks gs))) := by
  rw [callW_fn hE rfl]
  refine pure_of rfl ?_
  have hfr : ∀ b, b < n → (AMem.put m n (some (.cells [.int .i64 disks, gv] 0 false true)) : FM) b = m b := fun b hb => fput_ne m n b _ (by omega)
  have hgs' := hgs.frame (n' := n + 1) (by omega) hfr
  have hp : (AMem.put m n (some (.cells [.int .i64 disks, gv] 0 false true)) : FM) n = some (.cells [.int .i64 disks, gv] 0 false true) := fput_same m n _
  obtain ⟨M, hM⟩ : ∃ M : FM, AMem.put m n (some (.cells [.int .i64 disks, gv] 0 false true)) = M := ⟨_, rfl⟩
  rw [hM] at hgs' hp
  have hd : ld1V M (n + 1) (.pointer (some ⟨n, 0 + 0, none⟩)) = .ok (.int .i64 disks) M (n + 1) (bit n) 0 := ld1_at (by omega) hp rfl
  have hgv : ld1V M (n + 1) (.pointer (some ⟨n, 0 + 1, none⟩)) = .ok gv M (n + 1) (bit n) 0 := ld1_at (by omega) hp rfl
  have hbn : Nat.mod (bit n) (bit n) = 0 := mod_bit_ge (Nat.le_refl n)
  have no : ∀ {v : Value} {w : Nat}, v = .bool false → ¬ Formed disks gs → Nat.mod w (bit n) = 0 → (AX.ret v = AX.ret (.bool (decide (Formed disks gs))) ∧ Nat.mod w (bit n) = 0) := fun hv h hw => ⟨by rw [hv, decide_eq_false h], hw⟩
  rw [ac47]
  by_cases c1 : disks < 2
  · simp only [Gv_add, w_seq, v_reg, q_cons, q_nil, q_nop, q_op, q_eff, q_opg, q_effg, keep_ok, drop1_ok, out_ok, crRec_mk, onNorm_norm, onNorm_exit, onNorm_ret, addRW_mk, w_cond, onCond_mk, w_block, onBlock_norm, onBlock_ret, onBlock_exit, w_pre, w_post, onPost_norm, onPost_exit, onPost_ret, w_exit, w_ret, onRet_mk, res_nil, res_cons, resO_v, retV_one, fixE_mk, lmap_nil, lmap_cons, ldrop_z, ldrop_s, ev_v, ev_c, lget_z, lget_s, evs_nil, evs_cons, s_mov, s_pick, s_bin, s_una, s_conv, s_fld, s_idx, s_ida, s_build, s_extr, s_nilck, s_len, s_mx, s_ld1, s_ldn, s_st, s_call, s_new, s_box, s_make, s_app, bin_int, i_add, i_sub, i_mul, i_eql, i_neq, i_lss, i_gtr, i_leq, i_geq, pick_mk, wantB_mk, una_not, fld_mk, nilck_mk, valO_some, lor_zero', zero_lor', cond_true, cond_false, Nat.beq_refl, natOf_mk, natOf_zero, natOf_one, obind_some, w_skip, Bool.not_true, Bool.not_false, wantB_undef, newb_fm, ptrP_mk, slcP_mk, cells_agg, hM, hd, c1, decide_true]
    exact no rfl (fun h => by have := h.1; omega) hbn
  by_cases c2 : (60 : Int) < disks
  · simp only [Gv_add, w_seq, v_reg, q_cons, q_nil, q_nop, q_op, q_eff, q_opg, q_effg, keep_ok, drop1_ok, out_ok, crRec_mk, onNorm_norm, onNorm_exit, onNorm_ret, addRW_mk, w_cond, onCond_mk, w_block, onBlock_norm, onBlock_ret, onBlock_exit, w_pre, w_post, onPost_norm, onPost_exit, onPost_ret, w_exit, w_ret, onRet_mk, res_nil, res_cons, resO_v, retV_one, fixE_mk, lmap_nil, lmap_cons, ldrop_z, ldrop_s, ev_v, ev_c, lget_z, lget_s, evs_nil, evs_cons, s_mov, s_pick, s_bin, s_una, s_conv, s_fld, s_idx, s_ida, s_build, s_extr, s_nilck, s_len, s_mx, s_ld1, s_ldn, s_st, s_call, s_new, s_box, s_make, s_app, bin_int, i_add, i_sub, i_mul, i_eql, i_neq, i_lss, i_gtr, i_leq, i_geq, pick_mk, wantB_mk, una_not, fld_mk, nilck_mk, valO_some, lor_zero', zero_lor', cond_true, cond_false, Nat.beq_refl, natOf_mk, natOf_zero, natOf_one, obind_some, w_skip, Bool.not_true, Bool.not_false, wantB_undef, newb_fm, ptrP_mk, slcP_mk, cells_agg, hM, hd, c1, c2, decide_true, decide_false]
    exact no rfl (fun h => by have := h.2.1; omega) hbn
  by_cases c3 : (gs.length : Int) < 1
  · simp only [Gv_add, w_seq, v_reg, q_cons, q_nil, q_nop, q_op, q_eff, q_opg, q_effg, keep_ok, drop1_ok, out_ok, crRec_mk, onNorm_norm, onNorm_exit, onNorm_ret, addRW_mk, w_cond, onCond_mk, w_block, onBlock_norm, onBlock_ret, onBlock_exit, w_pre, w_post, onPost_norm, onPost_exit, onPost_ret, w_exit, w_ret, onRet_mk, res_nil, res_cons, resO_v, retV_one, fixE_mk, lmap_nil, lmap_cons, ldrop_z, ldrop_s, ev_v, ev_c, lget_z, lget_s, evs_nil, evs_cons, s_mov, s_pick, s_bin, s_una, s_conv, s_fld, s_idx, s_ida, s_build, s_extr, s_nilck, s_len, s_mx, s_ld1, s_ldn, s_st, s_call, s_new, s_box, s_make, s_app, bin_int, i_add, i_sub, i_mul, i_eql, i_neq, i_lss, i_gtr, i_leq, i_geq, pick_mk, wantB_mk, una_not, fld_mk, nilck_mk, valO_some, lor_zero', zero_lor', cond_true, cond_false, Nat.beq_refl, natOf_mk, natOf_zero, natOf_one, obind_some, w_skip, Bool.not_true, Bool.not_false, wantB_undef, newb_fm, ptrP_mk, slcP_mk, cells_agg, hM, hd, c1, c2, c3, hgv, hgs'.len, decide_true, decide_false]
    exact no rfl (fun ⟨_, _, _, g0, h0, _⟩ => by have := (List.getElem?_eq_some_iff.1 h0).1; omega) hbn
  have h0 : 0 < gs.length := by omega
  by_cases c4 : (4096 : Int) < (gs.length : Int)
  · simp only [Gv_add, w_seq, v_reg, q_cons, q_nil, q_nop, q_op, q_eff, q_opg, q_effg, keep_ok, drop1_ok, out_ok, crRec_mk, onNorm_norm, onNorm_exit, onNorm_ret, addRW_mk, w_cond, onCond_mk, w_block, onBlock_norm, onBlock_ret, onBlock_exit, w_pre, w_post, onPost_norm, onPost_exit, onPost_ret, w_exit, w_ret, onRet_mk, res_nil, res_cons, resO_v, retV_one, fixE_mk, lmap_nil, lmap_cons, ldrop_z, ldrop_s, ev_v, ev_c, lget_z, lget_s, evs_nil, evs_cons, s_mov, s_pick, s_bin, s_una, s_conv, s_fld, s_idx, s_ida, s_build, s_extr, s_nilck, s_len, s_mx, s_ld1, s_ldn, s_st, s_call, s_new, s_box, s_make, s_app, bin_int, i_add, i_sub, i_mul, i_eql, i_neq, i_lss, i_gtr, i_leq, i_geq, pick_mk, wantB_mk, una_not, fld_mk, nilck_mk, valO_some, lor_zero', zero_lor', cond_true, cond_false, Nat.beq_refl, natOf_mk, natOf_zero, natOf_one, obind_some, w_skip, Bool.not_true, Bool.not_false, wantB_undef, newb_fm, ptrP_mk, slcP_mk, cells_agg, hM, hd, c1, c2, c3, c4, hgv, hgs'.len, decide_true, decide_false]
    exact no rfl (fun h => by have := h.2.2.1; omega) hbn
  obtain ⟨a0, b0, g0v, hix0, hld0, _, hg0⟩ := hgs'.at h0
  replace hix0 : idxV 1 0 gv = some (.pointer (some a0)) := hix0
  have hget : gs[0]? = some gs[0] := List.getElem?_eq_getElem h0
  by_cases c5 : (gs[0].length : Int) < 2
  · simp only [Gv_add, w_seq, v_reg, q_cons, q_nil, q_nop, q_op, q_eff, q_opg, q_effg, keep_ok, drop1_ok, out_ok, crRec_mk, onNorm_norm, onNorm_exit, onNorm_ret, addRW_mk, w_cond, onCond_mk, w_block, onBlock_norm, onBlock_ret, onBlock_exit, w_pre, w_post, onPost_norm, onPost_exit, onPost_ret, w_exit, w_ret, onRet_mk, res_nil, res_cons, resO_v, retV_one, fixE_mk, lmap_nil, lmap_cons, ldrop_z, ldrop_s, ev_v, ev_c, lget_z, lget_s, evs_nil, evs_cons, s_mov, s_pick, s_bin, s_una, s_conv, s_fld, s_idx, s_ida, s_build, s_extr, s_nilck, s_len, s_mx, s_ld1, s_ldn, s_st, s_call, s_new, s_box, s_make, s_app, bin_int, i_add, i_sub, i_mul, i_eql, i_neq, i_lss, i_gtr, i_leq, i_geq, pick_mk, wantB_mk, una_not, fld_mk, nilck_mk, valO_some, lor_zero', zero_lor', cond_true, cond_false, Nat.beq_refl, natOf_mk, natOf_zero, natOf_one, obind_some, w_skip, Bool.not_true, Bool.not_false, wantB_undef, newb_fm, ptrP_mk, slcP_mk, cells_agg, hM, hd, c1, c2, c3, c4, c5, hgv, hgs'.len, hix0, hld0, hg0.len, decide_true, decide_false]
    exact no rfl (fun ⟨_, _, _, g0, h0, h1, _⟩ => by rw [hget] at h0; injection h0 with h0; subst h0; omega) hbn
  obtain ⟨rf, ef, hrf⟩ := named_r (fun l => execW PG E Y ac47L1 l M (n + 1))
  have hloop := fun x2 x5 x6 x8 => formed_L1 (E := E) (Y := Y) M (n + 1) n disks gv hp (by omega) gs hgs' hl hrow h0 x2 x5 x6 x8 gs.length 0 (by omega)
  by_cases c6 : GroupsFrom disks gs[0].length gs 0
  · have heq : ∀ x2 x5 x6 x8, execW PG E Y ac47L1 [.bool false, .int .i64 0, x2, .int .i64 (gs.length : Int), gv, x5, x6, .pointer (some ⟨n, 0, none⟩), x8] M (n + 1) = .ok (.exit 0) [.bool false, x2, .int .i64 (gs.length : Int), gv, x5, x6, .pointer (some ⟨n, 0, none⟩), x8] M (n + 1) (rf [.bool false, .int .i64 0, x2, .int .i64 (gs.length : Int), gv, x5, x6, .pointer (some ⟨n, 0, none⟩), x8]) 0 := fun x2 x5 x6 x8 => by
      rw [(hrf _).1]
      refine gv_norm ((hloop x2 x5 x6 x8).mono fun X e' m' n' w hh => ?_)
      obtain ⟨h1, h2, h3, h4⟩ := hh
      rcases h4 with ⟨_, h5, h6⟩ | ⟨h5, _⟩
      · exact ⟨h5, h6, h1, h2, h3⟩
      · exact absurd c6 h5
    simp only [Gv_add, w_seq, v_reg, q_cons, q_nil, q_nop, q_op, q_eff, q_opg, q_effg, keep_ok, drop1_ok, out_ok, crRec_mk, onNorm_norm, onNorm_exit, onNorm_ret, addRW_mk, w_cond, onCond_mk, w_block, onBlock_norm, onBlock_ret, onBlock_exit, w_pre, w_post, onPost_norm, onPost_exit, onPost_ret, w_exit, w_ret, onRet_mk, res_nil, res_cons, resO_v, retV_one, fixE_mk, lmap_nil, lmap_cons, ldrop_z, ldrop_s, ev_v, ev_c, lget_z, lget_s, evs_nil, evs_cons, s_mov, s_pick, s_bin, s_una, s_conv, s_fld, s_idx, s_ida, s_build, s_extr, s_nilck, s_len, s_mx, s_ld1, s_ldn, s_st, s_call, s_new, s_box, s_make, s_app, bin_int, i_add, i_sub, i_mul, i_eql, i_neq, i_lss, i_gtr, i_leq, i_geq, pick_mk, wantB_mk, una_not, fld_mk, nilck_mk, valO_some, lor_zero', zero_lor', cond_true, cond_false, Nat.beq_refl, natOf_mk, natOf_zero, natOf_one, obind_some, w_skip, Bool.not_true, Bool.not_false, wantB_undef, newb_fm, ptrP_mk, slcP_mk, cells_agg, hM, hd, c1, c2, c3, c4, c5, hgv, hgs'.len, hix0, hld0, hg0.len, decide_true, decide_false, heq]
    exact ⟨by rw [decide_eq_true ⟨by omega, by omega, by omega, _, hget, by omega, c6⟩], hbn⟩
  · have heq : ∀ x2 x5 x6 x8, execW PG E Y ac47L1 [.bool false, .int .i64 0, x2, .int .i64 (gs.length : Int), gv, x5, x6, .pointer (some ⟨n, 0, none⟩), x8] M (n + 1) = .ok (.ret (.bool false)) (ef [.bool false, .int .i64 0, x2, .int .i64 (gs.length : Int), gv, x5, x6, .pointer (some ⟨n, 0, none⟩), x8]) M (n + 1) (rf [.bool false, .int .i64 0, x2, .int .i64 (gs.length : Int), gv, x5, x6, .pointer (some ⟨n, 0, none⟩), x8]) 0 := fun x2 x5 x6 x8 => by
      rw [(hrf _).1, (hrf _).2]
      refine gv_ret ((hloop x2 x5 x6 x8).mono fun X e' m' n' w hh => ?_)
      obtain ⟨h1, h2, h3, h4⟩ := hh
      rcases h4 with ⟨h5, _, _⟩ | ⟨_, h5⟩
      · exact absurd h5 c6
      · exact ⟨h5, h1, h2, h3⟩
    simp only [Gv_add, w_seq, v_reg, q_cons, q_nil, q_nop, q_op, q_eff, q_opg, q_effg, keep_ok, drop1_ok, out_ok, crRec_mk, onNorm_norm, onNorm_exit, onNorm_ret, addRW_mk, w_cond, onCond_mk, w_block, onBlock_norm, onBlock_ret, onBlock_exit, w_pre, w_post, onPost_norm, onPost_exit, onPost_ret, w_exit, w_ret, onRet_mk, res_nil, res_cons, resO_v, retV_one, fixE_mk, lmap_nil, lmap_cons, ldrop_z, ldrop_s, ev_v, ev_c, lget_z, lget_s, evs_nil, evs_cons, s_mov, s_pick, s_bin, s_una, s_conv, s_fld, s_idx, s_ida, s_build, s_extr, s_nilck, s_len, s_mx, s_ld1, s_ldn, s_st, s_call, s_new, s_box, s_make, s_app, bin_int, i_add, i_sub, i_mul, i_eql, i_neq, i_lss, i_gtr, i_leq, i_geq, pick_mk, wantB_mk, una_not, fld_mk, nilck_mk, valO_some, lor_zero', zero_lor', cond_true, cond_false, Nat.beq_refl, natOf_mk, natOf_zero, natOf_one, obind_some, w_skip, Bool.not_true, Bool.not_false, wantB_undef, newb_fm, ptrP_mk, slcP_mk, cells_agg, hM, hd, c1, c2, c3, c4, c5, hgv, hgs'.len, hix0, hld0, hg0.len, decide_true, decide_false, heq]
    exact no rfl (fun ⟨_, _, _, g0, h0, h1, h2⟩ => by rw [hget] at h0; injection h0 with h0; subst h0; exact c6 h2) hbn
end Go.Am.C21
namespace Go.Am.C21
open Go Go.Am
variable {E : Nat → Option AFn} {Y : Nat → List Value → FM → Nat → OR FM}
/-- one more at a place -/
def bump (A : List Int) (k : Nat) : List Int := A.set k (IntKind.i64.wrap (A[k]?.getD 0 + 1))
theorem bump_length (A : List Int) (k : Nat) : (bump A k).length = A.length := by simp [bump]
def bumpRow (A : List Int) (a : Nat) (g : List Int) : List Int := g.foldl (fun A b => bump A (60 * a + b.toNat)) A
theorem bumpRow_length (A : List Int) (a : Nat) (g : List Int) : (bumpRow A a g).length = A.length := by
  induction g generalizing A with
  | nil => rfl
  | cons b g ih => show (bumpRow (bump A _) a g).length = _; rw [ih, bump_length]
noncomputable def arr (M : FM) (q : Nat) (A : List Int) : FM := AMem.put M q (some (.cells (A.map (Value.int .i64)) 0 false true))
theorem arr_arr (M : FM) (q : Nat) (A B : List Int) : AMem.put (arr M q A) q (some (.cells (B.map (Value.int .i64)) 0 false true)) = arr M q B := fput_put _ _ _ _
theorem check_L0 (M : FM) (N q n0 : Nat) (hqN : q < N) (hn0 : n0 ≤ q) (a : Nat) (ha : a < 60) (g : List Int) (gval : Value) (hg : ∀ A, Ints (arr M q A) N gval g) (hl : g.length < 4611686018427387904) (hin : ∀ (i : Nat) (x : Int), g[i]? = some x → 0 ≤ x ∧ x < 60)
    (x1 x4 x5 x6 x7 x8 x10 x11 x12 x13 x14 x15 x17 x18 x19 x20 x21 x22 : Value) : ∀ d j, j + d = g.length → ∀ A : List Int, A.length = 3600 →
    Gv (execW PG E Y ac34L0 [.int .i64 (j : Int), x1, .int .i64 (g.length : Int), .int .i64 (a : Int), x4, x5, x6, x7, x8, gval, x10, x11, x12, x13, x14, x15, .pointer (some ⟨q, 0, none⟩), x17, x18, x19, x20, x21, x22] (arr M q A) N) fun X e' m' n' w =>
      X = .exit 4 ∧ e' = [.int .i64 (g.length : Int), x1, .int .i64 (g.length : Int), .int .i64 (a : Int), x4, x5, x6, x7, x8, gval, x10, x11, x12, x13, x14, x15, .pointer (some ⟨q, 0, none⟩), x17, x18, x19, x20, x21, x22] ∧ m' = arr M q (bumpRow A a (g.drop j)) ∧ n' = N ∧ Nat.mod w (bit n0) = 0 := by
  intro d
  induction d with
  | zero =>
    intro j hj A hA
    have hjl : (j : Int) = (g.length : Int) := by omega
    have hlt : ¬ ((g.length : Int) < (g.length : Int)) := by omega
    rw [ac34L0_w, hjl]
    simp only [ac34L0b, Gv_add, w_seq, v_reg, q_cons, q_nil, q_nop, q_op, q_eff, q_opg, q_effg, keep_ok, drop1_ok, out_ok, crRec_mk, onNorm_norm, onNorm_exit, onNorm_ret, addRW_mk, w_cond, onCond_mk, w_block, onBlock_norm, onBlock_ret, onBlock_exit, w_pre, w_post, onPost_norm, onPost_exit, onPost_ret, w_exit, w_ret, onRet_mk, res_nil, res_cons, resO_v, retV_one, fixE_mk, lmap_nil, lmap_cons, ldrop_z, ldrop_s, ev_v, ev_c, lget_z, lget_s, evs_nil, evs_cons, s_mov, s_pick, s_bin, s_una, s_conv, s_fld, s_idx, s_ida, s_build, s_extr, s_nilck, s_len, s_mx, s_ld1, s_ldn, s_st, s_call, s_new, s_box, s_make, s_app, bin_int, i_add, i_sub, i_mul, i_eql, i_neq, i_lss, i_gtr, i_leq, i_geq, pick_mk, wantB_mk, una_not, fld_mk, nilck_mk, valO_some, lor_zero', zero_lor', cond_true, cond_false, Nat.beq_refl, natOf_mk, natOf_zero, natOf_one, obind_some, w_skip, Bool.not_true, Bool.not_false, wantB_undef, newb_fm, ptrP_mk, slcP_mk, cells_agg, hlt, decide_false]
    exact ⟨rfl, rfl, by rw [List.drop_eq_nil_of_le (by omega)]; rfl, rfl, mod_zero _⟩
  | succ d ih =>
    intro j hj A hA
    have hlt : (j : Int) < (g.length : Int) := by omega
    have hjl : j < g.length := by omega
    obtain ⟨p1, b1, hix, hld, hb⟩ := (hg A).at hjl
    obtain ⟨hx0, hx60⟩ := hin j g[j] (List.getElem?_eq_getElem hjl)
    obtain ⟨b, hbx⟩ : ∃ b : Nat, g[j] = (b : Int) := ⟨g[j].toNat, by omega⟩
    have hb60 : b < 60 := by omega
    rw [hbx] at hld
    have hw : IntKind.i64.wrap ((j : Int) + 1) = ((j + 1 : Nat) : Int) := by rw [wrap_small (by omega) (by omega)]; omega
    have hk : 0 + a * 60 + b * 1 < A.length := by omega
    have hcell : ((A.map (Value.int .i64)))[0 + a * 60 + b * 1]? = some (.int .i64 A[0 + a * 60 + b * 1]) := by simp [List.getElem?_eq_getElem hk]
    have hl1 : ld1V (arr M q A) N (.pointer (some ⟨q, 0 + a * 60 + b * 1, none⟩)) = .ok (.int .i64 A[0 + a * 60 + b * 1]) (arr M q A) N (bit q) 0 := ld1_at hqN (fput_same M q _) hcell
    have hs1 := fun z => st1_at (m := arr M q A) (n := N) (b := q) (o := 0 + a * 60 + b * 1) (x := .int .i64 z) hqN (fput_same M q _) (by simpa using hk) rfl
    have hda : idaV 60 60 a (.pointer (some ⟨q, 0, none⟩)) = _ := ida_ok ha
    have hdb : idaV 60 1 b (.pointer (some ⟨q, 0 + a * 60, none⟩)) = _ := ida_ok hb60
    have hq := blt_true hqN
    rw [ac34L0_w]
    simp (implicitDefEqProofs := false) only [ac34L0b, Gv_add, w_seq, v_reg, q_cons, q_nil, q_nop, q_op, q_eff, q_opg, q_effg, keep_ok, drop1_ok, out_ok, crRec_mk, onNorm_norm, onNorm_exit, onNorm_ret, addRW_mk, w_cond, onCond_mk, w_block, onBlock_norm, onBlock_ret, onBlock_exit, w_pre, w_post, onPost_norm, onPost_exit, onPost_ret, w_exit, w_ret, onRet_mk, res_nil, res_cons, resO_v, retV_one, fixE_mk, lmap_nil, lmap_cons, ldrop_z, ldrop_s, ev_v, ev_c, lget_z, lget_s, evs_nil, evs_cons, s_mov, s_pick, s_bin, s_una, s_conv, s_fld, s_idx, s_ida, s_build, s_extr, s_nilck, s_len, s_mx, s_ld1, s_ldn, s_st, s_call, s_new, s_box, s_make, s_app, bin_int, i_add, i_sub, i_mul, i_eql, i_neq, i_lss, i_gtr, i_leq, i_geq, pick_mk, wantB_mk, una_not, fld_mk, nilck_mk, valO_some, lor_zero', zero_lor', cond_true, cond_false, Nat.beq_refl, natOf_mk, natOf_zero, natOf_one, obind_some, w_skip, Bool.not_true, Bool.not_false, wantB_undef, newb_fm, ptrP_mk, slcP_mk, cells_agg, u_regD, isOkC_ok, belowV_undef, belowV_addr, z_nil, z_cons, y_nil, y_cons, y_nop, y_op, y_eff, y_opg, y_effg, keepD_ok, outX_ok, apart_nil, apart_cons, zero_land', land_zero', stepD_ok', below_all, opds, List.all_cons, List.all_nil, belowV_int, belowV_bool, belowV_ptr, belowV_nils, Bool.and_self, Bool.and_true, Bool.true_and, Bool.or_true, Bool.true_or, Bool.false_or, Nat.reduceAdd, Nat.testBit, Nat.reduceShiftRight, Nat.reduceAnd, Nat.reduceBNe, hlt, decide_true, hix, hld, hda, hdb, hl1, cells_int, hs1, hq, hw]
    have hmem : AMem.put (arr M q A) q (some (.cells ((A.map (Value.int .i64)).set (0 + a * 60 + b * 1) (.int .i64 (IntKind.i64.wrap (A[0 + a * 60 + b * 1] + 1)))) 0 false true)) = arr M q (bump A (60 * a + b)) := by
      have e : 60 * a + b = 0 + a * 60 + b * 1 := by omega
      have hset : (A.map (Value.int .i64)).set (0 + a * 60 + b * 1) (.int .i64 (IntKind.i64.wrap (A[0 + a * 60 + b * 1] + 1))) = (A.set (0 + a * 60 + b * 1) (IntKind.i64.wrap (A[0 + a * 60 + b * 1] + 1))).map (Value.int .i64) := List.map_set.symm
      rw [hset, arr_arr, bump, e, List.getElem?_eq_getElem hk]; rfl
    rw [hmem]
    refine Gv.mono (ih (j + 1) (by omega) _ (by rw [bump_length, hA])) fun X e' m' n' w h => ?_
    obtain ⟨h1, h2, h3, h4, h5⟩ := h
    refine ⟨h1, h2, ?_, h4, mod_lor' (mod_bit_ge hn0) h5⟩
    rw [h3, List.drop_eq_getElem_cons hjl]
    show _ = arr M q ((g.drop (j + 1)).foldl _ (bump A (60 * a + g[j].toNat)))
    rw [hbx]; rfl

/-- the name of what a code writes -/
theorem named_w (f : List Value → CR FM) : ∃ (rf wf : List Value → Nat), ∀ l X e m n r w, f l = .ok X e m n r w → rf l = r ∧ wf l = w :=
  ⟨fun l => rOf (f l), fun l => match f l with | .no => 0 | .ok _ _ _ _ _ w => w, fun l X e m n r w h => by constructor <;> simp [h, rOf]⟩
theorem check_L0_eq (M : FM) (N q n0 : Nat) (hqN : q < N) (hn0 : n0 ≤ q) (a : Nat) (ha : a < 60) (g : List Int) (gval : Value) (hg : ∀ A, Ints (arr M q A) N gval g) (hl : g.length < 4611686018427387904) (hin : ∀ (i : Nat) (x : Int), g[i]? = some x → 0 ≤ x ∧ x < 60) (A : List Int) (hA : A.length = 3600) :
    ∃ rf wf : List Value → Nat, ∀ x1 x4 x5 x6 x7 x8 x10 x11 x12 x13 x14 x15 x17 x18 x19 x20 x21 x22, execW PG E Y ac34L0 [.int .i64 0, x1, .int .i64 (g.length : Int), .int .i64 (a : Int), x4, x5, x6, x7, x8, gval, x10, x11, x12, x13, x14, x15, .pointer (some ⟨q, 0, none⟩), x17, x18, x19, x20, x21, x22] (arr M q A) N = .ok (.exit 4) [.int .i64 (g.length : Int), x1, .int .i64 (g.length : Int), .int .i64 (a : Int), x4, x5, x6, x7, x8, gval, x10, x11, x12, x13, x14, x15, .pointer (some ⟨q, 0, none⟩), x17, x18, x19, x20, x21, x22] (arr M q (bumpRow A a g)) N (rf [.int .i64 0, x1, .int .i64 (g.length : Int), .int .i64 (a : Int), x4, x5, x6, x7, x8, gval, x10, x11, x12, x13, x14, x15, .pointer (some ⟨q, 0, none⟩), x17, x18, x19, x20, x21, x22]) (wf [.int .i64 0, x1, .int .i64 (g.length : Int), .int .i64 (a : Int), x4, x5, x6, x7, x8, gval, x10, x11, x12, x13, x14, x15, .pointer (some ⟨q, 0, none⟩), x17, x18, x19, x20, x21, x22]) ∧ Nat.mod (wf [.int .i64 0, x1, .int .i64 (g.length : Int), .int .i64 (a : Int), x4, x5, x6, x7, x8, gval, x10, x11, x12, x13, x14, x15, .pointer (some ⟨q, 0, none⟩), x17, x18, x19, x20, x21, x22]) (bit n0) = 0 := by
  obtain ⟨rf, wf, h⟩ := named_w (fun l => execW PG E Y ac34L0 l (arr M q A) N)
  refine ⟨rf, wf, fun x1 x4 x5 x6 x7 x8 x10 x11 x12 x13 x14 x15 x17 x18 x19 x20 x21 x22 => ?_⟩
  obtain ⟨X, e', m', n', r, w, hx, h1, h2, h3, h4, h5⟩ := Gv_some (check_L0 (E := E) (Y := Y) M N q n0 hqN hn0 a ha g gval hg hl hin x1 x4 x5 x6 x7 x8 x10 x11 x12 x13 x14 x15 x17 x18 x19 x20 x21 x22 g.length 0 (by omega) A hA)
  obtain ⟨hr, hw⟩ := h _ _ _ _ _ _ _ hx
  have hr' : rf [.int .i64 0, x1, .int .i64 (g.length : Int), .int .i64 (a : Int), x4, x5, x6, x7, x8, gval, x10, x11, x12, x13, x14, x15, .pointer (some ⟨q, 0, none⟩), x17, x18, x19, x20, x21, x22] = r := hr
  have hw' : wf [.int .i64 0, x1, .int .i64 (g.length : Int), .int .i64 (a : Int), x4, x5, x6, x7, x8, gval, x10, x11, x12, x13, x14, x15, .pointer (some ⟨q, 0, none⟩), x17, x18, x19, x20, x21, x22] = w := hw
  rw [hr', hw']
  subst h1; subst h2; subst h3; subst h4
  exact ⟨hx, h5⟩
def bumpGroup (A : List Int) (g l : List Int) : List Int := l.foldl (fun A a => bumpRow A a.toNat g) A
theorem bumpGroup_length (A g : List Int) : ∀ l, (bumpGroup A g l).length = A.length := by
  intro l
  induction l generalizing A with
  | nil => rfl
  | cons b l ih => show (bumpGroup (bumpRow A b.toNat g) g l).length = _; rw [ih, bumpRow_length]
theorem check_L1 (M : FM) (N q n0 : Nat) (hqN : q < N) (hn0 : n0 ≤ q) (g : List Int) (gval : Value) (hg : ∀ A, Ints (arr M q A) N gval g) (hl : g.length < 4611686018427387904) (hin : ∀ (i : Nat) (x : Int), g[i]? = some x → 0 ≤ x ∧ x < 60) (x1 x4 x5 x6 x7 x8 x9 x11 x12 x13 x14 x15 x16 : Value) : ∀ d j, j + d = g.length → ∀ A : List Int, A.length = 3600 →
    Gv (execW PG E Y ac34L1 [.int .i64 (j : Int), x1, .int .i64 (g.length : Int), gval, x4, x5, x6, x7, x8, x9, .pointer (some ⟨q, 0, none⟩), x11, x12, x13, x14, x15, x16] (arr M q A) N) fun X e' m' n' w =>
      X = .exit 2 ∧ e' = [.int .i64 (g.length : Int), x1, .int .i64 (g.length : Int), gval, x4, x5, x6, x7, x8, x9, .pointer (some ⟨q, 0, none⟩), x11, x12, x13, x14, x15, x16] ∧ m' = arr M q (bumpGroup A g (g.drop j)) ∧ n' = N ∧ Nat.mod w (bit n0) = 0 := by
  intro d
  induction d with
  | zero =>
    intro j hj A hA
    have hjl : (j : Int) = (g.length : Int) := by omega
    have hlt : ¬ ((g.length : Int) < (g.length : Int)) := by omega
    rw [ac34L1_w, hjl]
    simp only [ac34L1b, Gv_add, w_seq, v_reg, q_cons, q_nil, q_nop, q_op, q_eff, q_opg, q_effg, keep_ok, drop1_ok, out_ok, crRec_mk, onNorm_norm, onNorm_exit, onNorm_ret, addRW_mk, w_cond, onCond_mk, w_block, onBlock_norm, onBlock_ret, onBlock_exit, w_pre, w_post, onPost_norm, onPost_exit, onPost_ret, w_exit, w_ret, onRet_mk, res_nil, res_cons, resO_v, retV_one, fixE_mk, lmap_nil, lmap_cons, ldrop_z, ldrop_s, ev_v, ev_c, lget_z, lget_s, evs_nil, evs_cons, s_mov, s_pick, s_bin, s_una, s_conv, s_fld, s_idx, s_ida, s_build, s_extr, s_nilck, s_len, s_mx, s_ld1, s_ldn, s_st, s_call, s_new, s_box, s_make, s_app, bin_int, i_add, i_sub, i_mul, i_eql, i_neq, i_lss, i_gtr, i_leq, i_geq, pick_mk, wantB_mk, una_not, fld_mk, nilck_mk, valO_some, lor_zero', zero_lor', cond_true, cond_false, Nat.beq_refl, natOf_mk, natOf_zero, natOf_one, obind_some, w_skip, Bool.not_true, Bool.not_false, wantB_undef, newb_fm, ptrP_mk, slcP_mk, cells_agg, hlt, decide_false]
    exact ⟨rfl, rfl, by rw [List.drop_eq_nil_of_le (by omega)]; rfl, rfl, mod_zero _⟩
  | succ d ih =>
    intro j hj A hA
    have hlt : (j : Int) < (g.length : Int) := by omega
    have hjl : j < g.length := by omega
    obtain ⟨p1, b1, hix, hld, hb⟩ := (hg A).at hjl
    obtain ⟨hx0, hx60⟩ := hin j g[j] (List.getElem?_eq_getElem hjl)
    obtain ⟨a, hax⟩ : ∃ a : Nat, g[j] = (a : Int) := ⟨g[j].toNat, by omega⟩
    have ha60 : a < 60 := by omega
    rw [hax] at hld
    have hw : IntKind.i64.wrap ((j : Int) + 1) = ((j + 1 : Nat) : Int) := by rw [wrap_small (by omega) (by omega)]; omega
    obtain ⟨rf, wf, hin2⟩ := check_L0_eq (E := E) (Y := Y) M N q n0 hqN hn0 a ha60 g gval hg hl hin A hA
    have heq := fun x1 x4 x5 x6 x7 x8 x10 x11 x12 x13 x14 x15 x17 x18 x19 x20 x21 x22 => (hin2 x1 x4 x5 x6 x7 x8 x10 x11 x12 x13 x14 x15 x17 x18 x19 x20 x21 x22).1
    have hmod := fun x1 x4 x5 x6 x7 x8 x10 x11 x12 x13 x14 x15 x17 x18 x19 x20 x21 x22 => (hin2 x1 x4 x5 x6 x7 x8 x10 x11 x12 x13 x14 x15 x17 x18 x19 x20 x21 x22).2
    rw [ac34L1_w]
    simp only [ac34L1b, Gv_add, w_seq, v_reg, q_cons, q_nil, q_nop, q_op, q_eff, q_opg, q_effg, keep_ok, drop1_ok, out_ok, crRec_mk, onNorm_norm, onNorm_exit, onNorm_ret, addRW_mk, w_cond, onCond_mk, w_block, onBlock_norm, onBlock_ret, onBlock_exit, w_pre, w_post, onPost_norm, onPost_exit, onPost_ret, w_exit, w_ret, onRet_mk, res_nil, res_cons, resO_v, retV_one, fixE_mk, lmap_nil, lmap_cons, ldrop_z, ldrop_s, ev_v, ev_c, lget_z, lget_s, evs_nil, evs_cons, s_mov, s_pick, s_bin, s_una, s_conv, s_fld, s_idx, s_ida, s_build, s_extr, s_nilck, s_len, s_mx, s_ld1, s_ldn, s_st, s_call, s_new, s_box, s_make, s_app, bin_int, i_add, i_sub, i_mul, i_eql, i_neq, i_lss, i_gtr, i_leq, i_geq, pick_mk, wantB_mk, una_not, fld_mk, nilck_mk, valO_some, lor_zero', zero_lor', cond_true, cond_false, Nat.beq_refl, natOf_mk, natOf_zero, natOf_one, obind_some, w_skip, Bool.not_true, Bool.not_false, wantB_undef, newb_fm, ptrP_mk, slcP_mk, cells_agg, hlt, decide_true, hix, hld, (hg A).len, hw, heq]
    refine Gv.mono (ih (j + 1) (by omega) _ (by rw [bumpRow_length, hA])) fun X e' m' n' w h => ?_
    obtain ⟨h1, h2, h3, h4, h5⟩ := h
    refine ⟨h1, h2, ?_, h4, mod_lor' (hmod ..) h5⟩
    rw [h3, List.drop_eq_getElem_cons hjl]
    show _ = arr M q (bumpGroup (bumpRow A g[j].toNat g) g (g.drop (j + 1)))
    rw [hax]; rfl
theorem check_L1_eq (M : FM) (N q n0 : Nat) (hqN : q < N) (hn0 : n0 ≤ q) (g : List Int) (gval : Value) (hg : ∀ A, Ints (arr M q A) N gval g) (hl : g.length < 4611686018427387904) (hin : ∀ (i : Nat) (x : Int), g[i]? = some x → 0 ≤ x ∧ x < 60) (A : List Int) (hA : A.length = 3600) :
    ∃ rf wf : List Value → Nat, ∀ x1 x4 x5 x6 x7 x8 x9 x11 x12 x13 x14 x15 x16, execW PG E Y ac34L1 [.int .i64 0, x1, .int .i64 (g.length : Int), gval, x4, x5, x6, x7, x8, x9, .pointer (some ⟨q, 0, none⟩), x11, x12, x13, x14, x15, x16] (arr M q A) N = .ok (.exit 2) [.int .i64 (g.length : Int), x1, .int .i64 (g.length : Int), gval, x4, x5, x6, x7, x8, x9, .pointer (some ⟨q, 0, none⟩), x11, x12, x13, x14, x15, x16] (arr M q (bumpGroup A g g)) N (rf [.int .i64 0, x1, .int .i64 (g.length : Int), gval, x4, x5, x6, x7, x8, x9, .pointer (some ⟨q, 0, none⟩), x11, x12, x13, x14, x15, x16]) (wf [.int .i64 0, x1, .int .i64 (g.length : Int), gval, x4, x5, x6, x7, x8, x9, .pointer (some ⟨q, 0, none⟩), x11, x12, x13, x14, x15, x16]) ∧ Nat.mod (wf [.int .i64 0, x1, .int .i64 (g.length : Int), gval, x4, x5, x6, x7, x8, x9, .pointer (some ⟨q, 0, none⟩), x11, x12, x13, x14, x15, x16]) (bit n0) = 0 := by
  obtain ⟨rf, wf, h⟩ := named_w (fun l => execW PG E Y ac34L1 l (arr M q A) N)
  refine ⟨rf, wf, fun x1 x4 x5 x6 x7 x8 x9 x11 x12 x13 x14 x15 x16 => ?_⟩
  obtain ⟨X, e', m', n', r, w, hx, h1, h2, h3, h4, h5⟩ := Gv_some (check_L1 (E := E) (Y := Y) M N q n0 hqN hn0 g gval hg hl hin x1 x4 x5 x6 x7 x8 x9 x11 x12 x13 x14 x15 x16 g.length 0 (by omega) A hA)
  obtain ⟨hr, hw⟩ := h _ _ _ _ _ _ _ hx
  have hr' : rf [.int .i64 0, x1, .int .i64 (g.length : Int), gval, x4, x5, x6, x7, x8, x9, .pointer (some ⟨q, 0, none⟩), x11, x12, x13, x14, x15, x16] = r := hr
  have hw' : wf [.int .i64 0, x1, .int .i64 (g.length : Int), gval, x4, x5, x6, x7, x8, x9, .pointer (some ⟨q, 0, none⟩), x11, x12, x13, x14, x15, x16] = w := hw
  rw [hr', hw']
  subst h1; subst h2; subst h3; subst h4
  exact ⟨hx, h5⟩
def counts (A : List Int) (gs : List (List Int)) : List Int := gs.foldl (fun A g => bumpGroup A g g) A
theorem counts_length (A : List Int) (gs : List (List Int)) : (counts A gs).length = A.length := by
  induction gs generalizing A with
  | nil => rfl
  | cons g gs ih => show (counts (bumpGroup A g g) gs).length = _; rw [ih, bumpGroup_length]
theorem check_L2 (M : FM) (N q n0 : Nat) (hqN : q < N) (hn0 : n0 ≤ q) (n1 : Nat) (hn1 : n1 ≤ q) (gs : List (List Int)) (gv : Value) (hgs : Rows M n1 gv gs) (hl : gs.length < 4611686018427387904) (hrow : ∀ g ∈ gs, g.length < 4611686018427387904 ∧ ∀ (i : Nat) (x : Int), g[i]? = some x → 0 ≤ x ∧ x < 60) (x1 x5 x6 x7 x8 x9 x10 : Value) : ∀ d j, j + d = gs.length → ∀ A : List Int, A.length = 3600 →
    Gv (execW PG E Y ac34L2 [.int .i64 (j : Int), x1, .int .i64 (gs.length : Int), gv, .pointer (some ⟨q, 0, none⟩), x5, x6, x7, x8, x9, x10] (arr M q A) N) fun X e' m' n' w =>
      X = .exit 0 ∧ e' = [x1, .int .i64 (gs.length : Int), gv, .pointer (some ⟨q, 0, none⟩), x5, x6, x7, x8, x9, x10] ∧ m' = arr M q (counts A (gs.drop j)) ∧ n' = N ∧ Nat.mod w (bit n0) = 0 := by
  have hfr : ∀ A b, b < n1 → arr M q A b = M b := fun A b hb => fput_ne M q b _ (by omega)
  intro d
  induction d with
  | zero =>
    intro j hj A hA
    have hjl : (j : Int) = (gs.length : Int) := by omega
    have hlt : ¬ ((gs.length : Int) < (gs.length : Int)) := by omega
    rw [ac34L2_w, hjl]
    simp only [ac34L2b, Gv_add, w_seq, v_reg, q_cons, q_nil, q_nop, q_op, q_eff, q_opg, q_effg, keep_ok, drop1_ok, out_ok, crRec_mk, onNorm_norm, onNorm_exit, onNorm_ret, addRW_mk, w_cond, onCond_mk, w_block, onBlock_norm, onBlock_ret, onBlock_exit, w_pre, w_post, onPost_norm, onPost_exit, onPost_ret, w_exit, w_ret, onRet_mk, res_nil, res_cons, resO_v, retV_one, fixE_mk, lmap_nil, lmap_cons, ldrop_z, ldrop_s, ev_v, ev_c, lget_z, lget_s, evs_nil, evs_cons, s_mov, s_pick, s_bin, s_una, s_conv, s_fld, s_idx, s_ida, s_build, s_extr, s_nilck, s_len, s_mx, s_ld1, s_ldn, s_st, s_call, s_new, s_box, s_make, s_app, bin_int, i_add, i_sub, i_mul, i_eql, i_neq, i_lss, i_gtr, i_leq, i_geq, pick_mk, wantB_mk, una_not, fld_mk, nilck_mk, valO_some, lor_zero', zero_lor', cond_true, cond_false, Nat.beq_refl, natOf_mk, natOf_zero, natOf_one, obind_some, w_skip, Bool.not_true, Bool.not_false, wantB_undef, newb_fm, ptrP_mk, slcP_mk, cells_agg, hlt, decide_false]
    exact ⟨rfl, rfl, by rw [List.drop_eq_nil_of_le (by omega)]; rfl, rfl, mod_zero _⟩
  | succ d ih =>
    intro j hj A hA
    have hlt : (j : Int) < (gs.length : Int) := by omega
    have hjl : j < gs.length := by omega
    obtain ⟨p1, b1, gval, hix, hld, hg0⟩ := hgs.at2 hjl (m' := arr M q A) (n' := N) (by omega) (hfr A)
    have hg : Ints (arr M q A) N gval gs[j] := hg0.frame (by omega) (hfr A)
    obtain ⟨hl2, hin⟩ := hrow gs[j] (List.getElem_mem hjl)
    have hw : IntKind.i64.wrap ((j : Int) + 1) = ((j + 1 : Nat) : Int) := by rw [wrap_small (by omega) (by omega)]; omega
    obtain ⟨rf, wf, hin2⟩ := check_L1_eq (E := E) (Y := Y) M N q n0 hqN hn0 gs[j] gval (fun B => hg0.frame (by omega) (hfr B)) hl2 hin A hA
    have heq := fun x1 x4 x5 x6 x7 x8 x9 x11 x12 x13 x14 x15 x16 => (hin2 x1 x4 x5 x6 x7 x8 x9 x11 x12 x13 x14 x15 x16).1
    have hmod := fun x1 x4 x5 x6 x7 x8 x9 x11 x12 x13 x14 x15 x16 => (hin2 x1 x4 x5 x6 x7 x8 x9 x11 x12 x13 x14 x15 x16).2
    rw [ac34L2_w]
    simp only [ac34L2b, Gv_add, w_seq, v_reg, q_cons, q_nil, q_nop, q_op, q_eff, q_opg, q_effg, keep_ok, drop1_ok, out_ok, crRec_mk, onNorm_norm, onNorm_exit, onNorm_ret, addRW_mk, w_cond, onCond_mk, w_block, onBlock_norm, onBlock_ret, onBlock_exit, w_pre, w_post, onPost_norm, onPost_exit, onPost_ret, w_exit, w_ret, onRet_mk, res_nil, res_cons, resO_v, retV_one, fixE_mk, lmap_nil, lmap_cons, ldrop_z, ldrop_s, ev_v, ev_c, lget_z, lget_s, evs_nil, evs_cons, s_mov, s_pick, s_bin, s_una, s_conv, s_fld, s_idx, s_ida, s_build, s_extr, s_nilck, s_len, s_mx, s_ld1, s_ldn, s_st, s_call, s_new, s_box, s_make, s_app, bin_int, i_add, i_sub, i_mul, i_eql, i_neq, i_lss, i_gtr, i_leq, i_geq, pick_mk, wantB_mk, una_not, fld_mk, nilck_mk, valO_some, lor_zero', zero_lor', cond_true, cond_false, Nat.beq_refl, natOf_mk, natOf_zero, natOf_one, obind_some, w_skip, Bool.not_true, Bool.not_false, wantB_undef, newb_fm, ptrP_mk, slcP_mk, cells_agg, hlt, decide_true, hix, hld, hg.len, hw, heq]
    refine Gv.mono (ih (j + 1) (by omega) _ (by rw [bumpGroup_length, hA])) fun X e' m' n' w h => ?_
    obtain ⟨h1, h2, h3, h4, h5⟩ := h
    refine ⟨h1, h2, ?_, h4, mod_lor' (hmod ..) h5⟩
    rw [h3, List.drop_eq_getElem_cons hjl]
    rfl
end Go.Am.C21
namespace Go.Am.C21
open Go Go.Am
variable {E : Nat → Option AFn} {Y : Nat → List Value → FM → Nat → OR FM}
def errT : Value := .tuple #[.int .i64 0, .int .i64 0, .int .i64 5]
theorem retV_three (a b c : Value) : retV [a, b, c] = .tuple #[a, b, c] := rfl
/-- a row of the counts is asl it must be, from a place on -/
def BalRow (A : List Int) (D : Nat) (r lam : Int) (a j : Nat) : Prop := ∀ b, j ≤ b → b < D → A[60 * a + b]?.getD 0 = if a = b then r else lam
theorem balRow_step {A : List Int} {D : Nat} {r lam : Int} {a j : Nat} (h : j < D) : BalRow A D r lam a j ↔ (A[60 * a + j]?.getD 0 = if a = j then r else lam) ∧ BalRow A D r lam a (j + 1) :=
  ⟨fun hr => ⟨hr j (Nat.le_refl _) h, fun i h1 h2 => hr i (by omega) h2⟩, fun ⟨h1, h2⟩ i h3 h4 => by
    rcases Nat.eq_or_lt_of_le h3 with rfl | h5
    · exact h1
    · exact h2 i h5 h4⟩
theorem check_L3 (M : FM) (N q : Nat) (hqN : q < N) (A : List Int) (hA : A.length = 3600) (D : Nat) (hD : D ≤ 60) (r lam : Int) (a : Nat) (ha : a < D) (x0 x1 x2 x4 x6 x7 x8 x9 x10 x12 x13 x16 x17 x18 x20 x21 x22 x23 x24 x25 : Value) : ∀ d j, j + d = D →
    Gv (execW PG E Y ac34L3 [x0, x1, x2, .int .i64 (j : Int), x4, .int .i64 (D : Int), x6, x7, x8, x9, x10, .int .i64 (a : Int), x12, x13, .int .i64 lam, .int .i64 r, x16, x17, x18, .pointer (some ⟨q, 0, none⟩), x20, x21, x22, x23, x24, x25] (arr M q A) N) fun X e' m' n' w => m' = arr M q A ∧ n' = N ∧ w = 0 ∧
      ((BalRow A D r lam a j ∧ X = .exit 8 ∧ e' = [x0, x1, x2, .int .i64 (D : Int), x4, .int .i64 (D : Int), x6, x7, x8, x9, x10, .int .i64 (a : Int), x12, x13, .int .i64 lam, .int .i64 r, x16, x17, x18, .pointer (some ⟨q, 0, none⟩), x20, x21, x22, x23, x24, x25]) ∨ (¬ BalRow A D r lam a j ∧ X = .ret errT)) := by
  intro d
  induction d with
  | zero =>
    intro j hj
    have hjl : (j : Int) = (D : Int) := by omega
    have hlt : ¬ ((D : Int) < (D : Int)) := by omega
    rw [ac34L3_w, hjl]
    simp only [ac34L3b, Gv_add, w_seq, v_reg, q_cons, q_nil, q_nop, q_op, q_eff, q_opg, q_effg, keep_ok, drop1_ok, out_ok, crRec_mk, onNorm_norm, onNorm_exit, onNorm_ret, addRW_mk, w_cond, onCond_mk, w_block, onBlock_norm, onBlock_ret, onBlock_exit, w_pre, w_post, onPost_norm, onPost_exit, onPost_ret, w_exit, w_ret, onRet_mk, res_nil, res_cons, resO_v, retV_one, fixE_mk, lmap_nil, lmap_cons, ldrop_z, ldrop_s, ev_v, ev_c, lget_z, lget_s, evs_nil, evs_cons, s_mov, s_pick, s_bin, s_una, s_conv, s_fld, s_idx, s_ida, s_build, s_extr, s_nilck, s_len, s_mx, s_ld1, s_ldn, s_st, s_call, s_new, s_box, s_make, s_app, bin_int, i_add, i_sub, i_mul, i_eql, i_neq, i_lss, i_gtr, i_leq, i_geq, pick_mk, wantB_mk, una_not, fld_mk, nilck_mk, valO_some, lor_zero', zero_lor', cond_true, cond_false, Nat.beq_refl, natOf_mk, natOf_zero, natOf_one, obind_some, w_skip, Bool.not_true, Bool.not_false, wantB_undef, newb_fm, ptrP_mk, slcP_mk, cells_agg, hlt, decide_false]
    exact ⟨rfl, rfl, rfl, .inl ⟨fun b h1 h2 => by omega, rfl, rfl⟩⟩
  | succ d ih =>
    intro j hj
    have hlt : (j : Int) < (D : Int) := by omega
    have hjl : j < D := by omega
    have hw : IntKind.i64.wrap ((j : Int) + 1) = ((j + 1 : Nat) : Int) := by rw [wrap_small (by omega) (by omega)]; omega
    have hk : 0 + a * 60 + j * 1 < A.length := by omega
    have hcell : ((A.map (Value.int .i64)))[0 + a * 60 + j * 1]? = some (.int .i64 A[0 + a * 60 + j * 1]) := by simp [List.getElem?_eq_getElem hk]
    have hl1 : ld1V (arr M q A) N (.pointer (some ⟨q, 0 + a * 60 + j * 1, none⟩)) = .ok (.int .i64 A[0 + a * 60 + j * 1]) (arr M q A) N (bit q) 0 := ld1_at hqN (fput_same M q _) hcell
    have hda : idaV 60 60 a (.pointer (some ⟨q, 0, none⟩)) = _ := ida_ok (by omega)
    have hdb : idaV 60 1 j (.pointer (some ⟨q, 0 + a * 60, none⟩)) = _ := ida_ok (by omega)
    have hAe : A[60 * a + j]?.getD 0 = A[0 + a * 60 + j * 1] := by
      have e : 60 * a + j = 0 + a * 60 + j * 1 := by omega
      rw [e, List.getElem?_eq_getElem hk]; rfl
    have hstep := balRow_step (A := A) (r := r) (lam := lam) (a := a) hjl
    rw [hAe] at hstep
    rw [ac34L3_w]
    by_cases hab0 : (a : Int) = (j : Int)
    · have hab : decide ((a : Int) = (j : Int)) = true := decide_eq_true hab0
      have hab' : a = j := by omega
      rw [if_pos hab'] at hstep
      by_cases hv0 : A[0 + a * 60 + j * 1] = r
      · have hv : decide (A[0 + a * 60 + j * 1] = r) = true := decide_eq_true hv0
        simp only [ac34L3b, Gv_add, w_seq, v_reg, q_cons, q_nil, q_nop, q_op, q_eff, q_opg, q_effg, keep_ok, drop1_ok, out_ok, crRec_mk, onNorm_norm, onNorm_exit, onNorm_ret, addRW_mk, w_cond, onCond_mk, w_block, onBlock_norm, onBlock_ret, onBlock_exit, w_pre, w_post, onPost_norm, onPost_exit, onPost_ret, w_exit, w_ret, onRet_mk, res_nil, res_cons, resO_v, retV_one, fixE_mk, lmap_nil, lmap_cons, ldrop_z, ldrop_s, ev_v, ev_c, lget_z, lget_s, evs_nil, evs_cons, s_mov, s_pick, s_bin, s_una, s_conv, s_fld, s_idx, s_ida, s_build, s_extr, s_nilck, s_len, s_mx, s_ld1, s_ldn, s_st, s_call, s_new, s_box, s_make, s_app, bin_int, i_add, i_sub, i_mul, i_eql, i_neq, i_lss, i_gtr, i_leq, i_geq, pick_mk, wantB_mk, una_not, fld_mk, nilck_mk, valO_some, lor_zero', zero_lor', cond_true, cond_false, Nat.beq_refl, natOf_mk, natOf_zero, natOf_one, obind_some, w_skip, Bool.not_true, Bool.not_false, wantB_undef, newb_fm, ptrP_mk, slcP_mk, cells_agg, hlt, decide_true, hda, hdb, hl1, hab, hv, retV_three, hw]
        refine Gv.mono (ih (j + 1) (by omega)) fun X e' m' n' w h => ?_
        have hiff : BalRow A D r lam a j ↔ BalRow A D r lam a (j + 1) := by rw [hstep]; exact ⟨fun h => h.2, fun h => ⟨hv0, h⟩⟩
        rw [hiff]
        simpa only [zero_lor'] using h
      · have hv : decide (A[0 + a * 60 + j * 1] = r) = false := decide_eq_false hv0
        simp only [ac34L3b, Gv_add, w_seq, v_reg, q_cons, q_nil, q_nop, q_op, q_eff, q_opg, q_effg, keep_ok, drop1_ok, out_ok, crRec_mk, onNorm_norm, onNorm_exit, onNorm_ret, addRW_mk, w_cond, onCond_mk, w_block, onBlock_norm, onBlock_ret, onBlock_exit, w_pre, w_post, onPost_norm, onPost_exit, onPost_ret, w_exit, w_ret, onRet_mk, res_nil, res_cons, resO_v, retV_one, fixE_mk, lmap_nil, lmap_cons, ldrop_z, ldrop_s, ev_v, ev_c, lget_z, lget_s, evs_nil, evs_cons, s_mov, s_pick, s_bin, s_una, s_conv, s_fld, s_idx, s_ida, s_build, s_extr, s_nilck, s_len, s_mx, s_ld1, s_ldn, s_st, s_call, s_new, s_box, s_make, s_app, bin_int, i_add, i_sub, i_mul, i_eql, i_neq, i_lss, i_gtr, i_leq, i_geq, pick_mk, wantB_mk, una_not, fld_mk, nilck_mk, valO_some, lor_zero', zero_lor', cond_true, cond_false, Nat.beq_refl, natOf_mk, natOf_zero, natOf_one, obind_some, w_skip, Bool.not_true, Bool.not_false, wantB_undef, newb_fm, ptrP_mk, slcP_mk, cells_agg, hlt, decide_true, decide_false, hda, hdb, hl1, hab, hv, retV_three]
        exact ⟨rfl, rfl, rfl, .inr ⟨fun h => hv0 (hstep.1 h).1, rfl⟩⟩
    · have hab : decide ((a : Int) = (j : Int)) = false := decide_eq_false hab0
      have hab' : ¬ a = j := by omega
      rw [if_neg hab'] at hstep
      by_cases hv0 : A[0 + a * 60 + j * 1] = lam
      · have hv : decide (A[0 + a * 60 + j * 1] = lam) = true := decide_eq_true hv0
        simp only [ac34L3b, Gv_add, w_seq, v_reg, q_cons, q_nil, q_nop, q_op, q_eff, q_opg, q_effg, keep_ok, drop1_ok, out_ok, crRec_mk, onNorm_norm, onNorm_exit, onNorm_ret, addRW_mk, w_cond, onCond_mk, w_block, onBlock_norm, onBlock_ret, onBlock_exit, w_pre, w_post, onPost_norm, onPost_exit, onPost_ret, w_exit, w_ret, onRet_mk, res_nil, res_cons, resO_v, retV_one, fixE_mk, lmap_nil, lmap_cons, ldrop_z, ldrop_s, ev_v, ev_c, lget_z, lget_s, evs_nil, evs_cons, s_mov, s_pick, s_bin, s_una, s_conv, s_fld, s_idx, s_ida, s_build, s_extr, s_nilck, s_len, s_mx, s_ld1, s_ldn, s_st, s_call, s_new, s_box, s_make, s_app, bin_int, i_add, i_sub, i_mul, i_eql, i_neq, i_lss, i_gtr, i_leq, i_geq, pick_mk, wantB_mk, una_not, fld_mk, nilck_mk, valO_some, lor_zero', zero_lor', cond_true, cond_false, Nat.beq_refl, natOf_mk, natOf_zero, natOf_one, obind_some, w_skip, Bool.not_true, Bool.not_false, wantB_undef, newb_fm, ptrP_mk, slcP_mk, cells_agg, hlt, decide_true, decide_false, hda, hdb, hl1, hab, hv, retV_three, hw]
        refine Gv.mono (ih (j + 1) (by omega)) fun X e' m' n' w h => ?_
        have hiff : BalRow A D r lam a j ↔ BalRow A D r lam a (j + 1) := by rw [hstep]; exact ⟨fun h => h.2, fun h => ⟨hv0, h⟩⟩
        rw [hiff]
        simpa only [zero_lor'] using h
      · have hv : decide (A[0 + a * 60 + j * 1] = lam) = false := decide_eq_false hv0
        simp only [ac34L3b, Gv_add, w_seq, v_reg, q_cons, q_nil, q_nop, q_op, q_eff, q_opg, q_effg, keep_ok, drop1_ok, out_ok, crRec_mk, onNorm_norm, onNorm_exit, onNorm_ret, addRW_mk, w_cond, onCond_mk, w_block, onBlock_norm, onBlock_ret, onBlock_exit, w_pre, w_post, onPost_norm, onPost_exit, onPost_ret, w_exit, w_ret, onRet_mk, res_nil, res_cons, resO_v, retV_one, fixE_mk, lmap_nil, lmap_cons, ldrop_z, ldrop_s, ev_v, ev_c, lget_z, lget_s, evs_nil, evs_cons, s_mov, s_pick, s_bin, s_una, s_conv, s_fld, s_idx, s_ida, s_build, s_extr, s_nilck, s_len, s_mx, s_ld1, s_ldn, s_st, s_call, s_new, s_box, s_make, s_app, bin_int, i_add, i_sub, i_mul, i_eql, i_neq, i_lss, i_gtr, i_leq, i_geq, pick_mk, wantB_mk, una_not, fld_mk, nilck_mk, valO_some, lor_zero', zero_lor', cond_true, cond_false, Nat.beq_refl, natOf_mk, natOf_zero, natOf_one, obind_some, w_skip, Bool.not_true, Bool.not_false, wantB_undef, newb_fm, ptrP_mk, slcP_mk, cells_agg, hlt, decide_true, decide_false, hda, hdb, hl1, hab, hv, retV_three]
        exact ⟨rfl, rfl, rfl, .inr ⟨fun h => hv0 (hstep.1 h).1, rfl⟩⟩
theorem check_L3_yes (M : FM) (N q : Nat) (hqN : q < N) (A : List Int) (hA : A.length = 3600) (D : Nat) (hD : D ≤ 60) (r lam : Int) (a : Nat) (ha : a < D) (hb : BalRow A D r lam a 0) : ∃ rf : List Value → Nat, ∀ x0 x1 x2 x4 x6 x7 x8 x9 x10 x12 x13 x16 x17 x18 x20 x21 x22 x23 x24 x25, execW PG E Y ac34L3 [x0, x1, x2, .int .i64 0, x4, .int .i64 (D : Int), x6, x7, x8, x9, x10, .int .i64 (a : Int), x12, x13, .int .i64 lam, .int .i64 r, x16, x17, x18, .pointer (some ⟨q, 0, none⟩), x20, x21, x22, x23, x24, x25] (arr M q A) N = .ok (.exit 8) [x0, x1, x2, .int .i64 (D : Int), x4, .int .i64 (D : Int), x6, x7, x8, x9, x10, .int .i64 (a : Int), x12, x13, .int .i64 lam, .int .i64 r, x16, x17, x18, .pointer (some ⟨q, 0, none⟩), x20, x21, x22, x23, x24, x25] (arr M q A) N (rf [x0, x1, x2, .int .i64 0, x4, .int .i64 (D : Int), x6, x7, x8, x9, x10, .int .i64 (a : Int), x12, x13, .int .i64 lam, .int .i64 r, x16, x17, x18, .pointer (some ⟨q, 0, none⟩), x20, x21, x22, x23, x24, x25]) 0 := by
  obtain ⟨rf, ef, h⟩ := named_r (fun l => execW PG E Y ac34L3 l (arr M q A) N)
  refine ⟨rf, fun x0 x1 x2 x4 x6 x7 x8 x9 x10 x12 x13 x16 x17 x18 x20 x21 x22 x23 x24 x25 => ?_⟩
  rw [(h _).1]
  refine gv_norm (Gv.mono (check_L3 (E := E) (Y := Y) M N q hqN A hA D hD r lam a ha x0 x1 x2 x4 x6 x7 x8 x9 x10 x12 x13 x16 x17 x18 x20 x21 x22 x23 x24 x25 D 0 (by omega)) fun X e' m' n' w hh => ?_)
  obtain ⟨h1, h2, h3, h4⟩ := hh
  rcases h4 with ⟨_, h5, h6⟩ | ⟨h5, _⟩
  · exact ⟨h5, h6, h1, h2, h3⟩
  · exact absurd hb h5
theorem check_L3_no (M : FM) (N q : Nat) (hqN : q < N) (A : List Int) (hA : A.length = 3600) (D : Nat) (hD : D ≤ 60) (r lam : Int) (a : Nat) (ha : a < D) (hb : ¬ BalRow A D r lam a 0) : ∃ (rf : List Value → Nat) (ef : List Value → List Value), ∀ x0 x1 x2 x4 x6 x7 x8 x9 x10 x12 x13 x16 x17 x18 x20 x21 x22 x23 x24 x25, execW PG E Y ac34L3 [x0, x1, x2, .int .i64 0, x4, .int .i64 (D : Int), x6, x7, x8, x9, x10, .int .i64 (a : Int), x12, x13, .int .i64 lam, .int .i64 r, x16, x17, x18, .pointer (some ⟨q, 0, none⟩), x20, x21, x22, x23, x24, x25] (arr M q A) N = .ok (.ret errT) (ef [x0, x1, x2, .int .i64 0, x4, .int .i64 (D : Int), x6, x7, x8, x9, x10, .int .i64 (a : Int), x12, x13, .int .i64 lam, .int .i64 r, x16, x17, x18, .pointer (some ⟨q, 0, none⟩), x20, x21, x22, x23, x24, x25]) (arr M q A) N (rf [x0, x1, x2, .int .i64 0, x4, .int .i64 (D : Int), x6, x7, x8, x9, x10, .int .i64 (a : Int), x12, x13, .int .i64 lam, .int .i64 r, x16, x17, x18, .pointer (some ⟨q, 0, none⟩), x20, x21, x22, x23, x24, x25]) 0 := by
  obtain ⟨rf, ef, h⟩ := named_r (fun l => execW PG E Y ac34L3 l (arr M q A) N)
  refine ⟨rf, ef, fun x0 x1 x2 x4 x6 x7 x8 x9 x10 x12 x13 x16 x17 x18 x20 x21 x22 x23 x24 x25 => ?_⟩
  rw [(h _).1, (h _).2]
  refine gv_ret (Gv.mono (check_L3 (E := E) (Y := Y) M N q hqN A hA D hD r lam a ha x0 x1 x2 x4 x6 x7 x8 x9 x10 x12 x13 x16 x17 x18 x20 x21 x22 x23 x24 x25 D 0 (by omega)) fun X e' m' n' w hh => ?_)
  obtain ⟨h1, h2, h3, h4⟩ := hh
  rcases h4 with ⟨h5, _, _⟩ | ⟨_, h5⟩
  · exact absurd h5 hb
  · exact ⟨h5, h1, h2, h3⟩
def Bal (A : List Int) (D : Nat) (r lam : Int) (j : Nat) : Prop := ∀ a, j ≤ a → a < D → BalRow A D r lam a 0
theorem bal_step {A : List Int} {D : Nat} {r lam : Int} {j : Nat} (h : j < D) : Bal A D r lam j ↔ BalRow A D r lam j 0 ∧ Bal A D r lam (j + 1) :=
  ⟨fun hr => ⟨hr j (Nat.le_refl _) h, fun i h1 h2 => hr i (by omega) h2⟩, fun ⟨h1, h2⟩ i h3 h4 => by
    rcases Nat.eq_or_lt_of_le h3 with rfl | h5
    · exact h1
    · exact h2 i h5 h4⟩
theorem check_L4 (M : FM) (N q : Nat) (hqN : q < N) (A : List Int) (hA : A.length = 3600) (D : Nat) (hD : D ≤ 60) (r lam : Int) (p : Nat) (hpd : ld1V (arr M q A) N (.pointer (some ⟨p, 0 + 0, none⟩)) = .ok (.int .i64 (D : Int)) (arr M q A) N (bit p) 0) (x0 x1 x2 x4 x8 x9 x10 x12 x13 x14 x15 x17 : Value) : ∀ d j, j + d = D →
    Gv (execW PG E Y ac34L4 [x0, x1, x2, .int .i64 (j : Int), x4, .int .i64 (D : Int), .int .i64 lam, .int .i64 r, x8, x9, x10, .pointer (some ⟨q, 0, none⟩), x12, x13, x14, x15, .pointer (some ⟨p, 0, none⟩), x17] (arr M q A) N) fun X e' m' n' w => m' = arr M q A ∧ n' = N ∧ w = 0 ∧
      ((Bal A D r lam j ∧ X = .exit 6 ∧ e' = [x0, x1, x2, x4, .int .i64 (D : Int), .int .i64 lam, .int .i64 r, x8, x9, x10, .pointer (some ⟨q, 0, none⟩), x12, x13, x14, x15, .pointer (some ⟨p, 0, none⟩), x17]) ∨ (¬ Bal A D r lam j ∧ X = .ret errT)) := by
  intro d
  induction d with
  | zero =>
    intro j hj
    have hjl : (j : Int) = (D : Int) := by omega
    have hlt : ¬ ((D : Int) < (D : Int)) := by omega
    rw [ac34L4_w, hjl]
    simp only [ac34L4b, Gv_add, w_seq, v_reg, q_cons, q_nil, q_nop, q_op, q_eff, q_opg, q_effg, keep_ok, drop1_ok, out_ok, crRec_mk, onNorm_norm, onNorm_exit, onNorm_ret, addRW_mk, w_cond, onCond_mk, w_block, onBlock_norm, onBlock_ret, onBlock_exit, w_pre, w_post, onPost_norm, onPost_exit, onPost_ret, w_exit, w_ret, onRet_mk, res_nil, res_cons, resO_v, retV_one, fixE_mk, lmap_nil, lmap_cons, ldrop_z, ldrop_s, ev_v, ev_c, lget_z, lget_s, evs_nil, evs_cons, s_mov, s_pick, s_bin, s_una, s_conv, s_fld, s_idx, s_ida, s_build, s_extr, s_nilck, s_len, s_mx, s_ld1, s_ldn, s_st, s_call, s_new, s_box, s_make, s_app, bin_int, i_add, i_sub, i_mul, i_eql, i_neq, i_lss, i_gtr, i_leq, i_geq, pick_mk, wantB_mk, una_not, fld_mk, nilck_mk, valO_some, lor_zero', zero_lor', cond_true, cond_false, Nat.beq_refl, natOf_mk, natOf_zero, natOf_one, obind_some, w_skip, Bool.not_true, Bool.not_false, wantB_undef, newb_fm, ptrP_mk, slcP_mk, cells_agg, hlt, decide_false]
    exact ⟨rfl, rfl, rfl, .inl ⟨fun b h1 h2 => by omega, rfl, rfl⟩⟩
  | succ d ih =>
    intro j hj
    have hlt : (j : Int) < (D : Int) := by omega
    have hjl : j < D := by omega
    have hw : IntKind.i64.wrap ((j : Int) + 1) = ((j + 1 : Nat) : Int) := by rw [wrap_small (by omega) (by omega)]; omega
    have hstep := bal_step (A := A) (r := r) (lam := lam) hjl
    rw [ac34L4_w]
    by_cases hb : BalRow A D r lam j 0
    · obtain ⟨rf, hrf⟩ := check_L3_yes (E := E) (Y := Y) M N q hqN A hA D hD r lam j hjl hb
      simp only [ac34L4b, Gv_add, w_seq, v_reg, q_cons, q_nil, q_nop, q_op, q_eff, q_opg, q_effg, keep_ok, drop1_ok, out_ok, crRec_mk, onNorm_norm, onNorm_exit, onNorm_ret, addRW_mk, w_cond, onCond_mk, w_block, onBlock_norm, onBlock_ret, onBlock_exit, w_pre, w_post, onPost_norm, onPost_exit, onPost_ret, w_exit, w_ret, onRet_mk, res_nil, res_cons, resO_v, retV_one, fixE_mk, lmap_nil, lmap_cons, ldrop_z, ldrop_s, ev_v, ev_c, lget_z, lget_s, evs_nil, evs_cons, s_mov, s_pick, s_bin, s_una, s_conv, s_fld, s_idx, s_ida, s_build, s_extr, s_nilck, s_len, s_mx, s_ld1, s_ldn, s_st, s_call, s_new, s_box, s_make, s_app, bin_int, i_add, i_sub, i_mul, i_eql, i_neq, i_lss, i_gtr, i_leq, i_geq, pick_mk, wantB_mk, una_not, fld_mk, nilck_mk, valO_some, lor_zero', zero_lor', cond_true, cond_false, Nat.beq_refl, natOf_mk, natOf_zero, natOf_one, obind_some, w_skip, Bool.not_true, Bool.not_false, wantB_undef, newb_fm, ptrP_mk, slcP_mk, cells_agg, hlt, decide_true, hpd, hrf, hw]
      refine Gv.mono (ih (j + 1) (by omega)) fun X e' m' n' w h => ?_
      have hiff : Bal A D r lam j ↔ Bal A D r lam (j + 1) := by rw [hstep]; exact ⟨fun h => h.2, fun h => ⟨hb, h⟩⟩
      rw [hiff]
      simpa only [zero_lor'] using h
    · obtain ⟨rf, ef, hrf⟩ := check_L3_no (E := E) (Y := Y) M N q hqN A hA D hD r lam j hjl hb
      simp only [ac34L4b, Gv_add, w_seq, v_reg, q_cons, q_nil, q_nop, q_op, q_eff, q_opg, q_effg, keep_ok, drop1_ok, out_ok, crRec_mk, onNorm_norm, onNorm_exit, onNorm_ret, addRW_mk, w_cond, onCond_mk, w_block, onBlock_norm, onBlock_ret, onBlock_exit, w_pre, w_post, onPost_norm, onPost_exit, onPost_ret, w_exit, w_ret, onRet_mk, res_nil, res_cons, resO_v, retV_one, fixE_mk, lmap_nil, lmap_cons, ldrop_z, ldrop_s, ev_v, ev_c, lget_z, lget_s, evs_nil, evs_cons, s_mov, s_pick, s_bin, s_una, s_conv, s_fld, s_idx, s_ida, s_build, s_extr, s_nilck, s_len, s_mx, s_ld1, s_ldn, s_st, s_call, s_new, s_box, s_make, s_app, bin_int, i_add, i_sub, i_mul, i_eql, i_neq, i_lss, i_gtr, i_leq, i_geq, pick_mk, wantB_mk, una_not, fld_mk, nilck_mk, valO_some, lor_zero', zero_lor', cond_true, cond_false, Nat.beq_refl, natOf_mk, natOf_zero, natOf_one, obind_some, w_skip, Bool.not_true, Bool.not_false, wantB_undef, newb_fm, ptrP_mk, slcP_mk, cells_agg, hlt, decide_true, hpd, hrf, hw]
      exact ⟨rfl, rfl, rfl, .inr ⟨fun h => hb (hstep.1 h).1, rfl⟩⟩
end Go.Am.C21
namespace Go.Am.C21
open Go Go.Am
variable {E : Nat → Option AFn} {Y : Nat → List Value → FM → Nat → OR FM}
def zeros : List Int := List.replicate 3600 0
open Classical in
/-- what Check says of a design -/
noncomputable def checkV (disks : Int) (gs : List (List Int)) : Value :=
  if Formed disks gs then
    if Bal (counts zeros gs) disks.toNat (counts zeros gs)[0]! (counts zeros gs)[1]! 0 ∧ 1 ≤ (counts zeros gs)[1]! then .tuple #[.int .i64 (counts zeros gs)[0]!, .int .i64 (counts zeros gs)[1]!, .int .i64 0] else errT
  else errT
theorem rowFrom_in {disks : Int} {g : List Int} (hd : disks ≤ 60) (h : RowFrom disks g 0) : ∀ (i : Nat) (x : Int), g[i]? = some x → 0 ≤ x ∧ x < 60 := fun i x hx => by
  obtain ⟨h1, h2, _⟩ := h i (Nat.zero_le _) (List.getElem?_eq_some_iff.1 hx).1 x hx
  exact ⟨h1, by omega⟩
theorem check_spec (hE : E 34 = some ac34) (hE2 : E 47 = some ac47) (m : FM) (n : Nat) (disks : Int) (gv : Value) (gs : List (List Int)) (hgs : Rows m n gv gs) (hl : gs.length < 4611686018427387904) (hrow : ∀ g ∈ gs, g.length < 4611686018427387904) :
    Pure (callW PG E Y 34 [.agg #[.int .i64 disks, gv]] m n) m n (checkV disks gs) := by
  classical
  rw [callW_fn hE rfl]
  have hfree : addrFree (checkV disks gs) = true := by unfold checkV; split <;> (try split) <;> rfl
  refine pure_of hfree ?_
  have hfr : ∀ b, b < n → (AMem.put m n (some (.cells [.int .i64 disks, gv] 0 false true)) : FM) b = m b := fun b hb => fput_ne m n b _ (by omega)
  have hgs' := hgs.frame (n' := n + 1) (by omega) hfr
  have hp : (AMem.put m n (some (.cells [.int .i64 disks, gv] 0 false true)) : FM) n = some (.cells [.int .i64 disks, gv] 0 false true) := fput_same m n _
  obtain ⟨M, hM⟩ : ∃ M : FM, AMem.put m n (some (.cells [.int .i64 disks, gv] 0 false true)) = M := ⟨_, rfl⟩
  rw [hM] at hgs' hp
  have hdn : ldnV 2 M (n + 1) (.pointer (some ⟨n, 0, none⟩)) = .ok (.agg #[.int .i64 disks, gv]) M (n + 1) (bit n) 0 := ldn_at (by omega) hp rfl
  have hbn : Nat.mod (bit n) (bit n) = 0 := mod_bit_ge (Nat.le_refl n)
  have hbn1 : Nat.mod (bit (n + 1)) (bit n) = 0 := mod_bit_ge (by omega)
  obtain ⟨r1, hform⟩ := formed_spec (E := E) (Y := Y) hE2 M (n + 1) disks gv gs hgs' hl hrow
  rw [ac34]
  by_cases hf : Formed disks gs
  · rw [decide_eq_true hf] at hform
    have hd60 : disks ≤ 60 := hf.2.1
    have hd2 : 2 ≤ disks := hf.1
    obtain ⟨D, hD⟩ : ∃ D : Nat, disks = (D : Int) := ⟨disks.toNat, by omega⟩
    have hz : (List.replicate 3600 (Value.int .i64 0)) = zeros.map (Value.int .i64) := by rw [zeros, List.map_replicate]
    have hmem : AMem.put M (n + 1) (some (.cells (List.replicate 3600 (Value.int .i64 0)) 0 false true)) = arr M (n + 1) zeros := by rw [hz]; rfl
    have hzl : zeros.length = 3600 := List.length_replicate
    have hAl : (counts zeros gs).length = 3600 := by rw [counts_length, hzl]
    have hall : ∀ g ∈ gs, g.length < 4611686018427387904 ∧ ∀ (i : Nat) (x : Int), g[i]? = some x → 0 ≤ x ∧ x < 60 := fun g hg => by
      obtain ⟨i, hi, rfl⟩ := List.getElem_of_mem hg
      obtain ⟨_, _, _, g0, _, _, hgr⟩ := hf
      exact ⟨hrow _ hg, rowFrom_in hd60 (hgr i _ (Nat.zero_le _) (List.getElem?_eq_getElem hi)).2⟩
    have hgl : ∀ A, ld1V (arr M (n + 1) A) (n + 2) (.pointer (some ⟨n, 0 + 1, none⟩)) = .ok gv (arr M (n + 1) A) (n + 2) (bit n) 0 := fun A => ld1_at (by omega) ((fput_ne M (n + 1) n _ (by omega)).trans hp) rfl
    have hdl : ∀ A, ld1V (arr M (n + 1) A) (n + 2) (.pointer (some ⟨n, 0 + 0, none⟩)) = .ok (.int .i64 disks) (arr M (n + 1) A) (n + 2) (bit n) 0 := fun A => ld1_at (by omega) ((fput_ne M (n + 1) n _ (by omega)).trans hp) rfl
    obtain ⟨rf, wf, hnm⟩ := named_w (fun l => execW PG E Y ac34L2 l (arr M (n + 1) zeros) (n + 2))
    have hL2 : ∀ x1 x5 x6 x7 x8 x9 x10, execW PG E Y ac34L2 [.int .i64 0, x1, .int .i64 (gs.length : Int), gv, .pointer (some ⟨n + 1, 0, none⟩), x5, x6, x7, x8, x9, x10] (arr M (n + 1) zeros) (n + 2) = .ok (.exit 0) [x1, .int .i64 (gs.length : Int), gv, .pointer (some ⟨n + 1, 0, none⟩), x5, x6, x7, x8, x9, x10] (arr M (n + 1) (counts zeros gs)) (n + 2) (rf [.int .i64 0, x1, .int .i64 (gs.length : Int), gv, .pointer (some ⟨n + 1, 0, none⟩), x5, x6, x7, x8, x9, x10]) (wf [.int .i64 0, x1, .int .i64 (gs.length : Int), gv, .pointer (some ⟨n + 1, 0, none⟩), x5, x6, x7, x8, x9, x10]) ∧ Nat.mod (wf [.int .i64 0, x1, .int .i64 (gs.length : Int), gv, .pointer (some ⟨n + 1, 0, none⟩), x5, x6, x7, x8, x9, x10]) (bit n) = 0 := fun x1 x5 x6 x7 x8 x9 x10 => by
      obtain ⟨X, e', m', n', r, w, hx, h1, h2, h3, h4, h5⟩ := Gv_some (check_L2 (E := E) (Y := Y) M (n + 2) (n + 1) n (by omega) (by omega) (n + 1) (by omega) gs gv hgs' hl hall x1 x5 x6 x7 x8 x9 x10 gs.length 0 (by omega) zeros hzl)
      obtain ⟨hr, hw⟩ := hnm _ _ _ _ _ _ _ hx
      have hr' : rf [.int .i64 0, x1, .int .i64 (gs.length : Int), gv, .pointer (some ⟨n + 1, 0, none⟩), x5, x6, x7, x8, x9, x10] = r := hr
      have hw' : wf [.int .i64 0, x1, .int .i64 (gs.length : Int), gv, .pointer (some ⟨n + 1, 0, none⟩), x5, x6, x7, x8, x9, x10] = w := hw
      rw [hr', hw']
      subst h1; subst h2; subst h3; subst h4
      exact ⟨hx, h5⟩
    have hL2e := fun x1 x5 x6 x7 x8 x9 x10 => (hL2 x1 x5 x6 x7 x8 x9 x10).1
    have hL2w := fun x1 x5 x6 x7 x8 x9 x10 => (hL2 x1 x5 x6 x7 x8 x9 x10).2
    obtain ⟨A, hA⟩ : ∃ A, counts zeros gs = A := ⟨_, rfl⟩
    rw [hA] at hAl
    rw [hA] at hL2e
    have hc0 : (A.map (Value.int .i64))[0 + 0 * 60 + 0 * 1]? = some (.int .i64 A[0]!) := by simp [List.getElem?_eq_getElem (show 0 < A.length by omega)]
    have hc1 : (A.map (Value.int .i64))[0 + 0 * 60 + 1 * 1]? = some (.int .i64 A[1]!) := by simp [List.getElem?_eq_getElem (show 1 < A.length by omega)]
    have hl0 : ld1V (arr M (n + 1) A) (n + 2) (.pointer (some ⟨n + 1, 0 + 0 * 60 + 0 * 1, none⟩)) = .ok (.int .i64 A[0]!) (arr M (n + 1) A) (n + 2) (bit (n + 1)) 0 := ld1_at (by omega) (fput_same M (n + 1) _) hc0
    have hl1 : ld1V (arr M (n + 1) A) (n + 2) (.pointer (some ⟨n + 1, 0 + 0 * 60 + 1 * 1, none⟩)) = .ok (.int .i64 A[1]!) (arr M (n + 1) A) (n + 2) (bit (n + 1)) 0 := ld1_at (by omega) (fput_same M (n + 1) _) hc1
    have hda : idaV 60 60 0 (.pointer (some ⟨n + 1, 0, none⟩)) = some (.pointer (some ⟨n + 1, 0 + 0 * 60, none⟩)) := ida_ok (by omega)
    have hd0 : idaV 60 1 0 (.pointer (some ⟨n + 1, 0 + 0 * 60, none⟩)) = some (.pointer (some ⟨n + 1, 0 + 0 * 60 + 0 * 1, none⟩)) := ida_ok (by omega)
    have hd1 : idaV 60 1 1 (.pointer (some ⟨n + 1, 0 + 0 * 60, none⟩)) = some (.pointer (some ⟨n + 1, 0 + 0 * 60 + 1 * 1, none⟩)) := ida_ok (by omega)
    have hq := blt_true (show n + 1 < n + 2 by omega)
    have hgl0 := hgl zeros
    have hdlA := hdl A
    subst hD
    have hL4 := fun x0 x1 x2 x4 x8 x9 x10 x12 x13 x14 x15 x17 => check_L4 (E := E) (Y := Y) M (n + 2) (n + 1) (by omega) A hAl D (by omega) A[0]! A[1]! n hdlA x0 x1 x2 x4 x8 x9 x10 x12 x13 x14 x15 x17 D 0 (by omega)
    obtain ⟨rf4, ef4, hnm4⟩ := named_r (fun l => execW PG E Y ac34L4 l (arr M (n + 1) A) (n + 2))
    by_cases hb : Bal A D A[0]! A[1]! 0
    · have hL4e : ∀ x0 x1 x2 x4 x8 x9 x10 x12 x13 x14 x15 x17, execW PG E Y ac34L4 [x0, x1, x2, .int .i64 0, x4, .int .i64 (D : Int), .int .i64 A[1]!, .int .i64 A[0]!, x8, x9, x10, .pointer (some ⟨n + 1, 0, none⟩), x12, x13, x14, x15, .pointer (some ⟨n, 0, none⟩), x17] (arr M (n + 1) A) (n + 2) = .ok (.exit 6) [x0, x1, x2, x4, .int .i64 (D : Int), .int .i64 A[1]!, .int .i64 A[0]!, x8, x9, x10, .pointer (some ⟨n + 1, 0, none⟩), x12, x13, x14, x15, .pointer (some ⟨n, 0, none⟩), x17] (arr M (n + 1) A) (n + 2) (rf4 [x0, x1, x2, .int .i64 0, x4, .int .i64 (D : Int), .int .i64 A[1]!, .int .i64 A[0]!, x8, x9, x10, .pointer (some ⟨n + 1, 0, none⟩), x12, x13, x14, x15, .pointer (some ⟨n, 0, none⟩), x17]) 0 := fun x0 x1 x2 x4 x8 x9 x10 x12 x13 x14 x15 x17 => by
        rw [(hnm4 _).1]
        refine gv_norm ((hL4 x0 x1 x2 x4 x8 x9 x10 x12 x13 x14 x15 x17).mono fun X e' m' n' w hh => ?_)
        obtain ⟨h1, h2, h3, h4⟩ := hh
        rcases h4 with ⟨_, h5, h6⟩ | ⟨h5, _⟩
        · exact ⟨h5, h6, h1, h2, h3⟩
        · exact absurd hb h5
      by_cases hlam : A[1]! < 1
      · have hV : checkV (D : Int) gs = errT := by unfold checkV; rw [if_pos hf, hA, if_neg (fun h => by have := h.2; omega)]
        simp (implicitDefEqProofs := false) only [Gv_add, w_seq, v_reg, q_cons, q_nil, q_nop, q_op, q_eff, q_opg, q_effg, keep_ok, drop1_ok, out_ok, crRec_mk, onNorm_norm, onNorm_exit, onNorm_ret, addRW_mk, w_cond, onCond_mk, w_block, onBlock_norm, onBlock_ret, onBlock_exit, w_pre, w_post, onPost_norm, onPost_exit, onPost_ret, w_exit, w_ret, onRet_mk, res_nil, res_cons, resO_v, retV_one, fixE_mk, lmap_nil, lmap_cons, ldrop_z, ldrop_s, ev_v, ev_c, lget_z, lget_s, evs_nil, evs_cons, s_mov, s_pick, s_bin, s_una, s_conv, s_fld, s_idx, s_ida, s_build, s_extr, s_nilck, s_len, s_mx, s_ld1, s_ldn, s_st, s_call, s_new, s_box, s_make, s_app, bin_int, i_add, i_sub, i_mul, i_eql, i_neq, i_lss, i_gtr, i_leq, i_geq, pick_mk, wantB_mk, una_not, fld_mk, nilck_mk, valO_some, lor_zero', zero_lor', cond_true, cond_false, Nat.beq_refl, natOf_mk, natOf_zero, natOf_one, obind_some, w_skip, Bool.not_true, Bool.not_false, wantB_undef, newb_fm, ptrP_mk, slcP_mk, cells_agg, u_regD, isOkC_ok, belowV_undef, belowV_addr, z_nil, z_cons, y_nil, y_cons, y_nop, y_op, y_eff, y_opg, y_effg, keepD_ok, outX_ok, apart_nil, apart_cons, zero_land', land_zero', stepD_ok', below_all, opds, List.all_cons, List.all_nil, belowV_int, belowV_bool, belowV_ptr, belowV_nils, Bool.and_self, Bool.and_true, Bool.true_and, Bool.or_true, Bool.true_or, Bool.false_or, Nat.reduceAdd, Nat.testBit, Nat.reduceShiftRight, Nat.reduceAnd, Nat.reduceBNe, hM, hdn, hform, hmem, hgl0, hgs'.len, hL2e, hda, hd0, hd1, hl0, hl1, hq, hdlA, hL4e, hlam, decide_true, decide_false, retV_three]
        exact ⟨by rw [hV]; rfl, mod_lor' hbn (mod_lor' hbn1 (hL2w ..))⟩
      · have hV : checkV (D : Int) gs = .tuple #[.int .i64 A[0]!, .int .i64 A[1]!, .int .i64 0] := by unfold checkV; rw [if_pos hf, hA, if_pos ⟨hb, by omega⟩]
        simp (implicitDefEqProofs := false) only [Gv_add, w_seq, v_reg, q_cons, q_nil, q_nop, q_op, q_eff, q_opg, q_effg, keep_ok, drop1_ok, out_ok, crRec_mk, onNorm_norm, onNorm_exit, onNorm_ret, addRW_mk, w_cond, onCond_mk, w_block, onBlock_norm, onBlock_ret, onBlock_exit, w_pre, w_post, onPost_norm, onPost_exit, onPost_ret, w_exit, w_ret, onRet_mk, res_nil, res_cons, resO_v, retV_one, fixE_mk, lmap_nil, lmap_cons, ldrop_z, ldrop_s, ev_v, ev_c, lget_z, lget_s, evs_nil, evs_cons, s_mov, s_pick, s_bin, s_una, s_conv, s_fld, s_idx, s_ida, s_build, s_extr, s_nilck, s_len, s_mx, s_ld1, s_ldn, s_st, s_call, s_new, s_box, s_make, s_app, bin_int, i_add, i_sub, i_mul, i_eql, i_neq, i_lss, i_gtr, i_leq, i_geq, pick_mk, wantB_mk, una_not, fld_mk, nilck_mk, valO_some, lor_zero', zero_lor', cond_true, cond_false, Nat.beq_refl, natOf_mk, natOf_zero, natOf_one, obind_some, w_skip, Bool.not_true, Bool.not_false, wantB_undef, newb_fm, ptrP_mk, slcP_mk, cells_agg, u_regD, isOkC_ok, belowV_undef, belowV_addr, z_nil, z_cons, y_nil, y_cons, y_nop, y_op, y_eff, y_opg, y_effg, keepD_ok, outX_ok, apart_nil, apart_cons, zero_land', land_zero', stepD_ok', below_all, opds, List.all_cons, List.all_nil, belowV_int, belowV_bool, belowV_ptr, belowV_nils, Bool.and_self, Bool.and_true, Bool.true_and, Bool.or_true, Bool.true_or, Bool.false_or, Nat.reduceAdd, Nat.testBit, Nat.reduceShiftRight, Nat.reduceAnd, Nat.reduceBNe, hM, hdn, hform, hmem, hgl0, hgs'.len, hL2e, hda, hd0, hd1, hl0, hl1, hq, hdlA, hL4e, hlam, decide_true, decide_false, retV_three]
        exact ⟨by rw [hV], mod_lor' hbn (mod_lor' hbn1 (hL2w ..))⟩
    · have hL4e : ∀ x0 x1 x2 x4 x8 x9 x10 x12 x13 x14 x15 x17, execW PG E Y ac34L4 [x0, x1, x2, .int .i64 0, x4, .int .i64 (D : Int), .int .i64 A[1]!, .int .i64 A[0]!, x8, x9, x10, .pointer (some ⟨n + 1, 0, none⟩), x12, x13, x14, x15, .pointer (some ⟨n, 0, none⟩), x17] (arr M (n + 1) A) (n + 2) = .ok (.ret errT) (ef4 [x0, x1, x2, .int .i64 0, x4, .int .i64 (D : Int), .int .i64 A[1]!, .int .i64 A[0]!, x8, x9, x10, .pointer (some ⟨n + 1, 0, none⟩), x12, x13, x14, x15, .pointer (some ⟨n, 0, none⟩), x17]) (arr M (n + 1) A) (n + 2) (rf4 [x0, x1, x2, .int .i64 0, x4, .int .i64 (D : Int), .int .i64 A[1]!, .int .i64 A[0]!, x8, x9, x10, .pointer (some ⟨n + 1, 0, none⟩), x12, x13, x14, x15, .pointer (some ⟨n, 0, none⟩), x17]) 0 := fun x0 x1 x2 x4 x8 x9 x10 x12 x13 x14 x15 x17 => by
        rw [(hnm4 _).1, (hnm4 _).2]
        refine gv_ret ((hL4 x0 x1 x2 x4 x8 x9 x10 x12 x13 x14 x15 x17).mono fun X e' m' n' w hh => ?_)
        obtain ⟨h1, h2, h3, h4⟩ := hh
        rcases h4 with ⟨h5, _, _⟩ | ⟨_, h5⟩
        · exact absurd h5 hb
        · exact ⟨h5, h1, h2, h3⟩
      have hV : checkV (D : Int) gs = errT := by unfold checkV; rw [if_pos hf, hA, if_neg (fun h => hb h.1)]
      simp (implicitDefEqProofs := false) only [Gv_add, w_seq, v_reg, q_cons, q_nil, q_nop, q_op, q_eff, q_opg, q_effg, keep_ok, drop1_ok, out_ok, crRec_mk, onNorm_norm, onNorm_exit, onNorm_ret, addRW_mk, w_cond, onCond_mk, w_block, onBlock_norm, onBlock_ret, onBlock_exit, w_pre, w_post, onPost_norm, onPost_exit, onPost_ret, w_exit, w_ret, onRet_mk, res_nil, res_cons, resO_v, retV_one, fixE_mk, lmap_nil, lmap_cons, ldrop_z, ldrop_s, ev_v, ev_c, lget_z, lget_s, evs_nil, evs_cons, s_mov, s_pick, s_bin, s_una, s_conv, s_fld, s_idx, s_ida, s_build, s_extr, s_nilck, s_len, s_mx, s_ld1, s_ldn, s_st, s_call, s_new, s_box, s_make, s_app, bin_int, i_add, i_sub, i_mul, i_eql, i_neq, i_lss, i_gtr, i_leq, i_geq, pick_mk, wantB_mk, una_not, fld_mk, nilck_mk, valO_some, lor_zero', zero_lor', cond_true, cond_false, Nat.beq_refl, natOf_mk, natOf_zero, natOf_one, obind_some, w_skip, Bool.not_true, Bool.not_false, wantB_undef, newb_fm, ptrP_mk, slcP_mk, cells_agg, u_regD, isOkC_ok, belowV_undef, belowV_addr, z_nil, z_cons, y_nil, y_cons, y_nop, y_op, y_eff, y_opg, y_effg, keepD_ok, outX_ok, apart_nil, apart_cons, zero_land', land_zero', stepD_ok', below_all, opds, List.all_cons, List.all_nil, belowV_int, belowV_bool, belowV_ptr, belowV_nils, Bool.and_self, Bool.and_true, Bool.true_and, Bool.or_true, Bool.true_or, Bool.false_or, Nat.reduceAdd, Nat.testBit, Nat.reduceShiftRight, Nat.reduceAnd, Nat.reduceBNe, hM, hdn, hform, hmem, hgl0, hgs'.len, hL2e, hda, hd0, hd1, hl0, hl1, hq, hdlA, hL4e,  decide_true, decide_false, retV_three]
      exact ⟨by rw [hV], mod_lor' hbn (mod_lor' hbn1 (hL2w ..))⟩
  · rw [decide_eq_false hf] at hform
    have hV : checkV disks gs = errT := by unfold checkV; rw [if_neg hf]
    simp only [Gv_add, w_seq, v_reg, q_cons, q_nil, q_nop, q_op, q_eff, q_opg, q_effg, keep_ok, drop1_ok, out_ok, crRec_mk, onNorm_norm, onNorm_exit, onNorm_ret, addRW_mk, w_cond, onCond_mk, w_block, onBlock_norm, onBlock_ret, onBlock_exit, w_pre, w_post, onPost_norm, onPost_exit, onPost_ret, w_exit, w_ret, onRet_mk, res_nil, res_cons, resO_v, retV_one, fixE_mk, lmap_nil, lmap_cons, ldrop_z, ldrop_s, ev_v, ev_c, lget_z, lget_s, evs_nil, evs_cons, s_mov, s_pick, s_bin, s_una, s_conv, s_fld, s_idx, s_ida, s_build, s_extr, s_nilck, s_len, s_mx, s_ld1, s_ldn, s_st, s_call, s_new, s_box, s_make, s_app, bin_int, i_add, i_sub, i_mul, i_eql, i_neq, i_lss, i_gtr, i_leq, i_geq, pick_mk, wantB_mk, una_not, fld_mk, nilck_mk, valO_some, lor_zero', zero_lor', cond_true, cond_false, Nat.beq_refl, natOf_mk, natOf_zero, natOf_one, obind_some, w_skip, Bool.not_true, Bool.not_false, wantB_undef, newb_fm, ptrP_mk, slcP_mk, cells_agg, hM, hdn, hform, retV_three]
    exact ⟨by rw [hV]; rfl, hbn⟩
end Go.Am.C21
namespace Go.Am.C21
open Go Go.Am
variable {E : Nat → Option AFn} {Y : Nat → List Value → FM → Nat → OR FM}
def errF : Value := .tuple #[.int .i64 0, .int .i64 0, .bool false]
theorem ref_L0 (M : FM) (N q : Nat) (hqN : q < N) (g : List Int) (gval : Value) (hg : Ints M N gval g) (hl : g.length < 4611686018427387904) (p : Nat) (disks : Int) (hpN : p < N) (hpd : ld1V M N (.pointer (some ⟨p, 0 + 0, none⟩)) = .ok (.int .i64 disks) M N (bit p) 0)
    (x0 x1 x2 x4 x5 x6 x7 x8 x9 x10 x11 x12 x13 x14 x15 x17 x18 x19 x20 x21 x22 x23 x24 x25 x26 x27 x28 x30 x31 x32 x33 x35 : Value) (hb27 : belowV N x27 = true) : ∀ d j, j + d = g.length →
    Gv (execW PG E Y ac44L0 [x0, x1, x2, .int .i64 (j : Int), x4, x5, x6, x7, x8, x9, x10, x11, x12, x13, x14, x15, gval, x17, x18, x19, x20, x21, x22, x23, x24, x25, x26, x27, x28, .pointer (some ⟨q, 0, none⟩), x30, x31, x32, x33, .pointer (some ⟨p, 0, none⟩), x35] M N) fun X e' m' n' w => m' = M ∧ n' = N ∧ w = 0 ∧
      ((RowFrom disks g j ∧ X = .exit 2 ∧ e' = [x0, x1, x2, .int .i64 (g.length : Int), x4, x5, x6, x7, x8, x9, x10, x11, x12, x13, x14, x15, gval, x17, x18, x19, x20, x21, x22, x23, x24, x25, x26, x27, x28, .pointer (some ⟨q, 0, none⟩), x30, x31, x32, x33, .pointer (some ⟨p, 0, none⟩), x35]) ∨ (¬ RowFrom disks g j ∧ X = .ret errF)) := by
  intro d
  have hbg : belowV N gval = true := Sl.below hg
  have hbp := blt_true hpN
  induction d with
  | zero =>
    intro j hj
    have hjl : (j : Int) = (g.length : Int) := by omega
    have hlt : ¬ ((g.length : Int) < (g.length : Int)) := by omega
    rw [ac44L0_w, hjl]
    simp only [ac44L0b, Gv_add, w_seq, v_reg, q_cons, q_nil, q_nop, q_op, q_eff, q_opg, q_effg, keep_ok, drop1_ok, out_ok, crRec_mk, onNorm_norm, onNorm_exit, onNorm_ret, addRW_mk, w_cond, onCond_mk, w_block, onBlock_norm, onBlock_ret, onBlock_exit, w_pre, w_post, onPost_norm, onPost_exit, onPost_ret, w_exit, w_ret, onRet_mk, res_nil, res_cons, resO_v, retV_one, fixE_mk, lmap_nil, lmap_cons, ldrop_z, ldrop_s, ev_v, ev_c, lget_z, lget_s, evs_nil, evs_cons, s_mov, s_pick, s_bin, s_una, s_conv, s_fld, s_idx, s_ida, s_build, s_extr, s_nilck, s_len, s_mx, s_ld1, s_ldn, s_st, s_call, s_new, s_box, s_make, s_app, bin_int, i_add, i_sub, i_mul, i_eql, i_neq, i_lss, i_gtr, i_leq, i_geq, pick_mk, wantB_mk, una_not, fld_mk, nilck_mk, valO_some, lor_zero', zero_lor', cond_true, cond_false, Nat.beq_refl, natOf_mk, natOf_zero, natOf_one, obind_some, w_skip, Bool.not_true, Bool.not_false, wantB_undef, newb_fm, ptrP_mk, slcP_mk, cells_agg, hg.len, hlt, decide_false]
    exact ⟨rfl, rfl, rfl, .inl ⟨rowFrom_end (by omega), rfl, rfl⟩⟩
  | succ d ih =>
    intro j hj
    have hlt : (j : Int) < (g.length : Int) := by omega
    have hjl : j < g.length := by omega
    obtain ⟨a, b, hix, hld, hb⟩ := hg.at hjl
    have hba := idx_block hix hbg
    have hw : IntKind.i64.wrap ((j : Int) + 1) = ((j + 1 : Nat) : Int) := by rw [wrap_small (by omega) (by omega)]; omega
    have hiff := placeOk_iff (disks := disks) hjl
    have hstep := rowFrom_step (disks := disks) hjl
    rw [ac44L0_w]
    by_cases h1 : g[j] < 0
    · simp (implicitDefEqProofs := false) only [ac44L0b, Gv_add, w_seq, v_reg, q_cons, q_nil, q_nop, q_op, q_eff, q_opg, q_effg, keep_ok, drop1_ok, out_ok, crRec_mk, onNorm_norm, onNorm_exit, onNorm_ret, addRW_mk, w_cond, onCond_mk, w_block, onBlock_norm, onBlock_ret, onBlock_exit, w_pre, w_post, onPost_norm, onPost_exit, onPost_ret, w_exit, w_ret, onRet_mk, res_nil, res_cons, resO_v, retV_one, fixE_mk, lmap_nil, lmap_cons, ldrop_z, ldrop_s, ev_v, ev_c, lget_z, lget_s, evs_nil, evs_cons, s_mov, s_pick, s_bin, s_una, s_conv, s_fld, s_idx, s_ida, s_build, s_extr, s_nilck, s_len, s_mx, s_ld1, s_ldn, s_st, s_call, s_new, s_box, s_make, s_app, bin_int, i_add, i_sub, i_mul, i_eql, i_neq, i_lss, i_gtr, i_leq, i_geq, pick_mk, wantB_mk, una_not, fld_mk, nilck_mk, valO_some, lor_zero', zero_lor', cond_true, cond_false, Nat.beq_refl, natOf_mk, natOf_zero, natOf_one, obind_some, w_skip, Bool.not_true, Bool.not_false, wantB_undef, newb_fm, ptrP_mk, slcP_mk, cells_agg, u_regD, isOkC_ok, belowV_undef, belowV_addr, z_nil, z_cons, y_nil, y_cons, y_nop, y_op, y_eff, y_opg, y_effg, keepD_ok, outX_ok, apart_nil, apart_cons, zero_land', land_zero', stepD_ok', below_all, opds, List.all_cons, List.all_nil, belowV_int, belowV_bool, belowV_ptr, belowV_nils, Bool.and_self, Bool.and_true, Bool.true_and, Bool.or_true, Bool.true_or, Bool.false_or, Nat.reduceAdd, Nat.testBit, Nat.reduceShiftRight, Nat.reduceAnd, Nat.reduceBNe, belowV_addr, hg.len, hlt, decide_true, hix, hld, hba, hbg, hb27, h1, retV_three]
      exact ⟨rfl, rfl, rfl, .inr ⟨fun h => by have := (hiff.1 (hstep.1 h).1).1; omega, rfl⟩⟩
    · by_cases h2 : disks ≤ g[j]
      · simp (implicitDefEqProofs := false) only [ac44L0b, Gv_add, w_seq, v_reg, q_cons, q_nil, q_nop, q_op, q_eff, q_opg, q_effg, keep_ok, drop1_ok, out_ok, crRec_mk, onNorm_norm, onNorm_exit, onNorm_ret, addRW_mk, w_cond, onCond_mk, w_block, onBlock_norm, onBlock_ret, onBlock_exit, w_pre, w_post, onPost_norm, onPost_exit, onPost_ret, w_exit, w_ret, onRet_mk, res_nil, res_cons, resO_v, retV_one, fixE_mk, lmap_nil, lmap_cons, ldrop_z, ldrop_s, ev_v, ev_c, lget_z, lget_s, evs_nil, evs_cons, s_mov, s_pick, s_bin, s_una, s_conv, s_fld, s_idx, s_ida, s_build, s_extr, s_nilck, s_len, s_mx, s_ld1, s_ldn, s_st, s_call, s_new, s_box, s_make, s_app, bin_int, i_add, i_sub, i_mul, i_eql, i_neq, i_lss, i_gtr, i_leq, i_geq, pick_mk, wantB_mk, una_not, fld_mk, nilck_mk, valO_some, lor_zero', zero_lor', cond_true, cond_false, Nat.beq_refl, natOf_mk, natOf_zero, natOf_one, obind_some, w_skip, Bool.not_true, Bool.not_false, wantB_undef, newb_fm, ptrP_mk, slcP_mk, cells_agg, u_regD, isOkC_ok, belowV_undef, belowV_addr, z_nil, z_cons, y_nil, y_cons, y_nop, y_op, y_eff, y_opg, y_effg, keepD_ok, outX_ok, apart_nil, apart_cons, zero_land', land_zero', stepD_ok', below_all, opds, List.all_cons, List.all_nil, belowV_int, belowV_bool, belowV_ptr, belowV_nils, Bool.and_self, Bool.and_true, Bool.true_and, Bool.or_true, Bool.true_or, Bool.false_or, Nat.reduceAdd, Nat.testBit, Nat.reduceShiftRight, Nat.reduceAnd, Nat.reduceBNe, belowV_addr, hg.len, hlt, decide_true, decide_false, hix, hld, hba, hbg, hb27, hbp, hpd, h1, h2, retV_three]
        exact ⟨rfl, rfl, rfl, .inr ⟨fun h => by have := (hiff.1 (hstep.1 h).1).2.1; omega, rfl⟩⟩
      · by_cases h3 : 0 < (j : Int)
        · obtain ⟨a2, b2, hix2, hld2, hb2⟩ := hg.at (i := j - 1) (by omega)
          have hba2 := idx_block hix2 hbg
          have hw2 : IntKind.i64.wrap ((j : Int) - 1) = ((j - 1 : Nat) : Int) := by rw [wrap_small (by omega) (by omega)]; omega
          by_cases h4 : g[j] ≤ g[j - 1]
          · simp (implicitDefEqProofs := false) only [ac44L0b, Gv_add, w_seq, v_reg, q_cons, q_nil, q_nop, q_op, q_eff, q_opg, q_effg, keep_ok, drop1_ok, out_ok, crRec_mk, onNorm_norm, onNorm_exit, onNorm_ret, addRW_mk, w_cond, onCond_mk, w_block, onBlock_norm, onBlock_ret, onBlock_exit, w_pre, w_post, onPost_norm, onPost_exit, onPost_ret, w_exit, w_ret, onRet_mk, res_nil, res_cons, resO_v, retV_one, fixE_mk, lmap_nil, lmap_cons, ldrop_z, ldrop_s, ev_v, ev_c, lget_z, lget_s, evs_nil, evs_cons, s_mov, s_pick, s_bin, s_una, s_conv, s_fld, s_idx, s_ida, s_build, s_extr, s_nilck, s_len, s_mx, s_ld1, s_ldn, s_st, s_call, s_new, s_box, s_make, s_app, bin_int, i_add, i_sub, i_mul, i_eql, i_neq, i_lss, i_gtr, i_leq, i_geq, pick_mk, wantB_mk, una_not, fld_mk, nilck_mk, valO_some, lor_zero', zero_lor', cond_true, cond_false, Nat.beq_refl, natOf_mk, natOf_zero, natOf_one, obind_some, w_skip, Bool.not_true, Bool.not_false, wantB_undef, newb_fm, ptrP_mk, slcP_mk, cells_agg, u_regD, isOkC_ok, belowV_undef, belowV_addr, z_nil, z_cons, y_nil, y_cons, y_nop, y_op, y_eff, y_opg, y_effg, keepD_ok, outX_ok, apart_nil, apart_cons, zero_land', land_zero', stepD_ok', below_all, opds, List.all_cons, List.all_nil, belowV_int, belowV_bool, belowV_ptr, belowV_nils, Bool.and_self, Bool.and_true, Bool.true_and, Bool.or_true, Bool.true_or, Bool.false_or, Nat.reduceAdd, Nat.testBit, Nat.reduceShiftRight, Nat.reduceAnd, Nat.reduceBNe, belowV_addr, hg.len, hlt, decide_true, decide_false, hix, hld, hba, hbg, hb27, hbp, hpd, h1, h2, h3, hw2, hix2, hld2, hba2, h4, retV_three]
            exact ⟨rfl, rfl, rfl, .inr ⟨fun h => by have := (hiff.1 (hstep.1 h).1).2.2 (by omega); omega, rfl⟩⟩
          · simp (implicitDefEqProofs := false) only [ac44L0b, Gv_add, w_seq, v_reg, q_cons, q_nil, q_nop, q_op, q_eff, q_opg, q_effg, keep_ok, drop1_ok, out_ok, crRec_mk, onNorm_norm, onNorm_exit, onNorm_ret, addRW_mk, w_cond, onCond_mk, w_block, onBlock_norm, onBlock_ret, onBlock_exit, w_pre, w_post, onPost_norm, onPost_exit, onPost_ret, w_exit, w_ret, onRet_mk, res_nil, res_cons, resO_v, retV_one, fixE_mk, lmap_nil, lmap_cons, ldrop_z, ldrop_s, ev_v, ev_c, lget_z, lget_s, evs_nil, evs_cons, s_mov, s_pick, s_bin, s_una, s_conv, s_fld, s_idx, s_ida, s_build, s_extr, s_nilck, s_len, s_mx, s_ld1, s_ldn, s_st, s_call, s_new, s_box, s_make, s_app, bin_int, i_add, i_sub, i_mul, i_eql, i_neq, i_lss, i_gtr, i_leq, i_geq, pick_mk, wantB_mk, una_not, fld_mk, nilck_mk, valO_some, lor_zero', zero_lor', cond_true, cond_false, Nat.beq_refl, natOf_mk, natOf_zero, natOf_one, obind_some, w_skip, Bool.not_true, Bool.not_false, wantB_undef, newb_fm, ptrP_mk, slcP_mk, cells_agg, u_regD, isOkC_ok, belowV_undef, belowV_addr, z_nil, z_cons, y_nil, y_cons, y_nop, y_op, y_eff, y_opg, y_effg, keepD_ok, outX_ok, apart_nil, apart_cons, zero_land', land_zero', stepD_ok', below_all, opds, List.all_cons, List.all_nil, belowV_int, belowV_bool, belowV_ptr, belowV_nils, Bool.and_self, Bool.and_true, Bool.true_and, Bool.or_true, Bool.true_or, Bool.false_or, Nat.reduceAdd, Nat.testBit, Nat.reduceShiftRight, Nat.reduceAnd, Nat.reduceBNe, belowV_addr, hg.len, hlt, decide_true, decide_false, hix, hld, hba, hbg, hb27, hbp, hpd, h1, h2, h3, hw2, hix2, hld2, hba2, h4, retV_three, hw]
            refine Gv.mono (ih (j + 1) (by omega)) fun X e' m' n' w h => ?_
            have : (0 ≤ g[j] ∧ g[j] < disks ∧ (0 < j → g[j - 1] < g[j])) := ⟨by omega, by omega, fun _ => by omega⟩
            have hr : RowFrom disks g j ↔ RowFrom disks g (j + 1) := by rw [hstep, hiff]; exact ⟨fun h => h.2, fun h => ⟨this, h⟩⟩
            rw [hr]
            simpa only [zero_lor'] using h
        · simp (implicitDefEqProofs := false) only [ac44L0b, Gv_add, w_seq, v_reg, q_cons, q_nil, q_nop, q_op, q_eff, q_opg, q_effg, keep_ok, drop1_ok, out_ok, crRec_mk, onNorm_norm, onNorm_exit, onNorm_ret, addRW_mk, w_cond, onCond_mk, w_block, onBlock_norm, onBlock_ret, onBlock_exit, w_pre, w_post, onPost_norm, onPost_exit, onPost_ret, w_exit, w_ret, onRet_mk, res_nil, res_cons, resO_v, retV_one, fixE_mk, lmap_nil, lmap_cons, ldrop_z, ldrop_s, ev_v, ev_c, lget_z, lget_s, evs_nil, evs_cons, s_mov, s_pick, s_bin, s_una, s_conv, s_fld, s_idx, s_ida, s_build, s_extr, s_nilck, s_len, s_mx, s_ld1, s_ldn, s_st, s_call, s_new, s_box, s_make, s_app, bin_int, i_add, i_sub, i_mul, i_eql, i_neq, i_lss, i_gtr, i_leq, i_geq, pick_mk, wantB_mk, una_not, fld_mk, nilck_mk, valO_some, lor_zero', zero_lor', cond_true, cond_false, Nat.beq_refl, natOf_mk, natOf_zero, natOf_one, obind_some, w_skip, Bool.not_true, Bool.not_false, wantB_undef, newb_fm, ptrP_mk, slcP_mk, cells_agg, u_regD, isOkC_ok, belowV_undef, belowV_addr, z_nil, z_cons, y_nil, y_cons, y_nop, y_op, y_eff, y_opg, y_effg, keepD_ok, outX_ok, apart_nil, apart_cons, zero_land', land_zero', stepD_ok', below_all, opds, List.all_cons, List.all_nil, belowV_int, belowV_bool, belowV_ptr, belowV_nils, Bool.and_self, Bool.and_true, Bool.true_and, Bool.or_true, Bool.true_or, Bool.false_or, Nat.reduceAdd, Nat.testBit, Nat.reduceShiftRight, Nat.reduceAnd, Nat.reduceBNe, belowV_addr, hg.len, hlt, decide_true, decide_false, hix, hld, hba, hbg, hb27, hbp, hpd, h1, h2, h3, retV_three, hw]
          refine Gv.mono (ih (j + 1) (by omega)) fun X e' m' n' w h => ?_
          have : (0 ≤ g[j] ∧ g[j] < disks ∧ (0 < j → g[j - 1] < g[j])) := ⟨by omega, by omega, fun _ => by omega⟩
          have hr : RowFrom disks g j ↔ RowFrom disks g (j + 1) := by rw [hstep, hiff]; exact ⟨fun h => h.2, fun h => ⟨this, h⟩⟩
          rw [hr]
          simpa only [zero_lor'] using h
end Go.Am.C21
namespace Go.Am.C21
open Go Go.Am
variable {E : Nat → Option AFn} {Y : Nat → List Value → FM → Nat → OR FM}
theorem ref_L1 (M : FM) (N q n0 : Nat) (hqN : q < N) (hn0 : n0 ≤ q) (g : List Int) (gval : Value) (hg : ∀ A, Ints (arr M q A) N gval g) (hl : g.length < 4611686018427387904) (hin : ∀ (i : Nat) (x : Int), g[i]? = some x → 0 ≤ x ∧ x < 60) (a : Nat) (ha : a < 60) (i : Nat) (hi : i < g.length) (hai : g[i] = (a : Int))
    (x1 x2 x3 x5 x6 x7 x8 x9 x10 x11 x12 x13 x14 x15 x16 x17 x18 x19 x20 x21 x23 x24 x25 x26 x27 x28 x29 x30 x31 x32 x33 x34 x36 x37 x38 x39 x40 x41 : Value) : ∀ d j, j + d = g.length → ∀ A : List Int, A.length = 3600 →
    Gv (execW PG E Y ac44L1 [.int .i64 (j : Int), x1, x2, x3, .int .i64 (i : Int), x5, x6, x7, x8, x9, x10, x11, x12, x13, x14, x15, x16, x17, x18, x19, x20, x21, gval, x23, x24, x25, x26, x27, x28, x29, x30, x31, x32, x33, x34, .pointer (some ⟨q, 0, none⟩), x36, x37, x38, x39, x40, x41] (arr M q A) N) fun X e' m' n' w =>
      X = .exit 6 ∧ e' = [.int .i64 (g.length : Int), x1, x2, x3, .int .i64 (i : Int), x5, x6, x7, x8, x9, x10, x11, x12, x13, x14, x15, x16, x17, x18, x19, x20, x21, gval, x23, x24, x25, x26, x27, x28, x29, x30, x31, x32, x33, x34, .pointer (some ⟨q, 0, none⟩), x36, x37, x38, x39, x40, x41] ∧ m' = arr M q (bumpRow A a (g.drop j)) ∧ n' = N ∧ Nat.mod w (bit n0) = 0 := by
  intro d
  induction d with
  | zero =>
    intro j hj A hA
    have hjl : (j : Int) = (g.length : Int) := by omega
    have hlt : ¬ ((g.length : Int) < (g.length : Int)) := by omega
    rw [ac44L1_w, hjl]
    simp only [ac44L1b, Gv_add, w_seq, v_reg, q_cons, q_nil, q_nop, q_op, q_eff, q_opg, q_effg, keep_ok, drop1_ok, out_ok, crRec_mk, onNorm_norm, onNorm_exit, onNorm_ret, addRW_mk, w_cond, onCond_mk, w_block, onBlock_norm, onBlock_ret, onBlock_exit, w_pre, w_post, onPost_norm, onPost_exit, onPost_ret, w_exit, w_ret, onRet_mk, res_nil, res_cons, resO_v, retV_one, fixE_mk, lmap_nil, lmap_cons, ldrop_z, ldrop_s, ev_v, ev_c, lget_z, lget_s, evs_nil, evs_cons, s_mov, s_pick, s_bin, s_una, s_conv, s_fld, s_idx, s_ida, s_build, s_extr, s_nilck, s_len, s_mx, s_ld1, s_ldn, s_st, s_call, s_new, s_box, s_make, s_app, bin_int, i_add, i_sub, i_mul, i_eql, i_neq, i_lss, i_gtr, i_leq, i_geq, pick_mk, wantB_mk, una_not, fld_mk, nilck_mk, valO_some, lor_zero', zero_lor', cond_true, cond_false, Nat.beq_refl, natOf_mk, natOf_zero, natOf_one, obind_some, w_skip, Bool.not_true, Bool.not_false, wantB_undef, newb_fm, ptrP_mk, slcP_mk, cells_agg, (hg A).len, hlt, decide_false]
    exact ⟨rfl, rfl, by rw [List.drop_eq_nil_of_le (by omega)]; rfl, rfl, mod_zero _⟩
  | succ d ih =>
    intro j hj A hA
    have hlt : (j : Int) < (g.length : Int) := by omega
    have hjl : j < g.length := by omega
    have hbg : belowV N gval = true := Sl.below (hg A)
    obtain ⟨p0, b0, hix0, hld0, hb0⟩ := (hg A).at hi
    have hba0 := idx_block hix0 hbg
    rw [hai] at hld0
    obtain ⟨p1, b1, hix, hld, hb⟩ := (hg A).at hjl
    have hba := idx_block hix hbg
    obtain ⟨hx0, hx60⟩ := hin j g[j] (List.getElem?_eq_getElem hjl)
    obtain ⟨b, hbx⟩ : ∃ b : Nat, g[j] = (b : Int) := ⟨g[j].toNat, by omega⟩
    have hb60 : b < 60 := by omega
    rw [hbx] at hld
    have hw : IntKind.i64.wrap ((j : Int) + 1) = ((j + 1 : Nat) : Int) := by rw [wrap_small (by omega) (by omega)]; omega
    have hk : 0 + a * 60 + b * 1 < A.length := by omega
    have hcell : ((A.map (Value.int .i64)))[0 + a * 60 + b * 1]? = some (.int .i64 A[0 + a * 60 + b * 1]) := by simp [List.getElem?_eq_getElem hk]
    have hl1 : ld1V (arr M q A) N (.pointer (some ⟨q, 0 + a * 60 + b * 1, none⟩)) = .ok (.int .i64 A[0 + a * 60 + b * 1]) (arr M q A) N (bit q) 0 := ld1_at hqN (fput_same M q _) hcell
    have hs1 := fun z => st1_at (m := arr M q A) (n := N) (b := q) (o := 0 + a * 60 + b * 1) (x := .int .i64 z) hqN (fput_same M q _) (by simpa using hk) rfl
    have hda : idaV 60 60 a (.pointer (some ⟨q, 0, none⟩)) = _ := ida_ok ha
    have hdb : idaV 60 1 b (.pointer (some ⟨q, 0 + a * 60, none⟩)) = _ := ida_ok hb60
    have hq := blt_true hqN
    rw [ac44L1_w]
    simp (implicitDefEqProofs := false) only [ac44L1b, Gv_add, w_seq, v_reg, q_cons, q_nil, q_nop, q_op, q_eff, q_opg, q_effg, keep_ok, drop1_ok, out_ok, crRec_mk, onNorm_norm, onNorm_exit, onNorm_ret, addRW_mk, w_cond, onCond_mk, w_block, onBlock_norm, onBlock_ret, onBlock_exit, w_pre, w_post, onPost_norm, onPost_exit, onPost_ret, w_exit, w_ret, onRet_mk, res_nil, res_cons, resO_v, retV_one, fixE_mk, lmap_nil, lmap_cons, ldrop_z, ldrop_s, ev_v, ev_c, lget_z, lget_s, evs_nil, evs_cons, s_mov, s_pick, s_bin, s_una, s_conv, s_fld, s_idx, s_ida, s_build, s_extr, s_nilck, s_len, s_mx, s_ld1, s_ldn, s_st, s_call, s_new, s_box, s_make, s_app, bin_int, i_add, i_sub, i_mul, i_eql, i_neq, i_lss, i_gtr, i_leq, i_geq, pick_mk, wantB_mk, una_not, fld_mk, nilck_mk, valO_some, lor_zero', zero_lor', cond_true, cond_false, Nat.beq_refl, natOf_mk, natOf_zero, natOf_one, obind_some, w_skip, Bool.not_true, Bool.not_false, wantB_undef, newb_fm, ptrP_mk, slcP_mk, cells_agg, u_regD, isOkC_ok, belowV_undef, belowV_addr, z_nil, z_cons, y_nil, y_cons, y_nop, y_op, y_eff, y_opg, y_effg, keepD_ok, outX_ok, apart_nil, apart_cons, zero_land', land_zero', stepD_ok', below_all, opds, List.all_cons, List.all_nil, belowV_int, belowV_bool, belowV_ptr, belowV_nils, Bool.and_self, Bool.and_true, Bool.true_and, Bool.or_true, Bool.true_or, Bool.false_or, Nat.reduceAdd, Nat.testBit, Nat.reduceShiftRight, Nat.reduceAnd, Nat.reduceBNe, (hg A).len, hlt, decide_true, hix0, hld0, hba0, hix, hld, hba, hbg, hda, hdb, hl1, cells_int, hs1, hq, hw]
    have hmem : AMem.put (arr M q A) q (some (.cells ((A.map (Value.int .i64)).set (0 + a * 60 + b * 1) (.int .i64 (IntKind.i64.wrap (A[0 + a * 60 + b * 1] + 1)))) 0 false true)) = arr M q (bump A (60 * a + b)) := by
      have e : 60 * a + b = 0 + a * 60 + b * 1 := by omega
      have hset : (A.map (Value.int .i64)).set (0 + a * 60 + b * 1) (.int .i64 (IntKind.i64.wrap (A[0 + a * 60 + b * 1] + 1))) = (A.set (0 + a * 60 + b * 1) (IntKind.i64.wrap (A[0 + a * 60 + b * 1] + 1))).map (Value.int .i64) := List.map_set.symm
      rw [hset, arr_arr, bump, e, List.getElem?_eq_getElem hk]; rfl
    rw [hmem]
    refine Gv.mono (ih (j + 1) (by omega) _ (by rw [bump_length, hA])) fun X e' m' n' w h => ?_
    obtain ⟨h1, h2, h3, h4, h5⟩ := h
    refine ⟨h1, h2, ?_, h4, mod_lor' (mod_bit_ge hn0) h5⟩
    rw [h3, List.drop_eq_getElem_cons hjl]
    show _ = arr M q ((g.drop (j + 1)).foldl _ (bump A (60 * a + g[j].toNat)))
    rw [hbx]; rfl
theorem ref_L1_eq (M : FM) (N q n0 : Nat) (hqN : q < N) (hn0 : n0 ≤ q) (g : List Int) (gval : Value) (hg : ∀ A, Ints (arr M q A) N gval g) (hl : g.length < 4611686018427387904) (hin : ∀ (i : Nat) (x : Int), g[i]? = some x → 0 ≤ x ∧ x < 60) (a : Nat) (ha : a < 60) (i : Nat) (hi : i < g.length) (hai : g[i] = (a : Int)) (A : List Int) (hA : A.length = 3600) :
    ∃ rf wf : List Value → Nat, ∀ x1 x2 x3 x5 x6 x7 x8 x9 x10 x11 x12 x13 x14 x15 x16 x17 x18 x19 x20 x21 x23 x24 x25 x26 x27 x28 x29 x30 x31 x32 x33 x34 x36 x37 x38 x39 x40 x41, execW PG E Y ac44L1 [.int .i64 0, x1, x2, x3, .int .i64 (i : Int), x5, x6, x7, x8, x9, x10, x11, x12, x13, x14, x15, x16, x17, x18, x19, x20, x21, gval, x23, x24, x25, x26, x27, x28, x29, x30, x31, x32, x33, x34, .pointer (some ⟨q, 0, none⟩), x36, x37, x38, x39, x40, x41] (arr M q A) N = .ok (.exit 6) [.int .i64 (g.length : Int), x1, x2, x3, .int .i64 (i : Int), x5, x6, x7, x8, x9, x10, x11, x12, x13, x14, x15, x16, x17, x18, x19, x20, x21, gval, x23, x24, x25, x26, x27, x28, x29, x30, x31, x32, x33, x34, .pointer (some ⟨q, 0, none⟩), x36, x37, x38, x39, x40, x41] (arr M q (bumpRow A a g)) N (rf [.int .i64 0, x1, x2, x3, .int .i64 (i : Int), x5, x6, x7, x8, x9, x10, x11, x12, x13, x14, x15, x16, x17, x18, x19, x20, x21, gval, x23, x24, x25, x26, x27, x28, x29, x30, x31, x32, x33, x34, .pointer (some ⟨q, 0, none⟩), x36, x37, x38, x39, x40, x41]) (wf [.int .i64 0, x1, x2, x3, .int .i64 (i : Int), x5, x6, x7, x8, x9, x10, x11, x12, x13, x14, x15, x16, x17, x18, x19, x20, x21, gval, x23, x24, x25, x26, x27, x28, x29, x30, x31, x32, x33, x34, .pointer (some ⟨q, 0, none⟩), x36, x37, x38, x39, x40, x41]) ∧ Nat.mod (wf [.int .i64 0, x1, x2, x3, .int .i64 (i : Int), x5, x6, x7, x8, x9, x10, x11, x12, x13, x14, x15, x16, x17, x18, x19, x20, x21, gval, x23, x24, x25, x26, x27, x28, x29, x30, x31, x32, x33, x34, .pointer (some ⟨q, 0, none⟩), x36, x37, x38, x39, x40, x41]) (bit n0) = 0 := by
  obtain ⟨rf, wf, h⟩ := named_w (fun l => execW PG E Y ac44L1 l (arr M q A) N)
  refine ⟨rf, wf, fun x1 x2 x3 x5 x6 x7 x8 x9 x10 x11 x12 x13 x14 x15 x16 x17 x18 x19 x20 x21 x23 x24 x25 x26 x27 x28 x29 x30 x31 x32 x33 x34 x36 x37 x38 x39 x40 x41 => ?_⟩
  obtain ⟨X, e', m', n', r, w, hx, h1, h2, h3, h4, h5⟩ := Gv_some (ref_L1 (E := E) (Y := Y) M N q n0 hqN hn0 g gval hg hl hin a ha i hi hai x1 x2 x3 x5 x6 x7 x8 x9 x10 x11 x12 x13 x14 x15 x16 x17 x18 x19 x20 x21 x23 x24 x25 x26 x27 x28 x29 x30 x31 x32 x33 x34 x36 x37 x38 x39 x40 x41 g.length 0 (by omega) A hA)
  obtain ⟨hr, hw⟩ := h _ _ _ _ _ _ _ hx
  have hr' : rf [.int .i64 0, x1, x2, x3, .int .i64 (i : Int), x5, x6, x7, x8, x9, x10, x11, x12, x13, x14, x15, x16, x17, x18, x19, x20, x21, gval, x23, x24, x25, x26, x27, x28, x29, x30, x31, x32, x33, x34, .pointer (some ⟨q, 0, none⟩), x36, x37, x38, x39, x40, x41] = r := hr
  have hw' : wf [.int .i64 0, x1, x2, x3, .int .i64 (i : Int), x5, x6, x7, x8, x9, x10, x11, x12, x13, x14, x15, x16, x17, x18, x19, x20, x21, gval, x23, x24, x25, x26, x27, x28, x29, x30, x31, x32, x33, x34, .pointer (some ⟨q, 0, none⟩), x36, x37, x38, x39, x40, x41] = w := hw
  rw [hr', hw']
  subst h1; subst h2; subst h3; subst h4
  exact ⟨hx, h5⟩

theorem ref_L2 (M : FM) (N q n0 : Nat) (hqN : q < N) (hn0 : n0 ≤ q) (g : List Int) (gval : Value) (hg : ∀ A, Ints (arr M q A) N gval g) (hl : g.length < 4611686018427387904) (hin : ∀ (i : Nat) (x : Int), g[i]? = some x → 0 ≤ x ∧ x < 60) (x1 x2 x3 x4 x5 x6 x7 x8 x9 x10 x11 x12 x13 x14 x15 x16 x17 x19 x20 x21 x22 x23 x24 x25 x26 x27 x28 x29 x30 x32 x33 x34 x35 x36 x37 : Value) : ∀ d i, i + d = g.length → ∀ A : List Int, A.length = 3600 →
    Gv (execW PG E Y ac44L2 [.int .i64 (i : Int), x1, x2, x3, x4, x5, x6, x7, x8, x9, x10, x11, x12, x13, x14, x15, x16, x17, gval, x19, x20, x21, x22, x23, x24, x25, x26, x27, x28, x29, x30, .pointer (some ⟨q, 0, none⟩), x32, x33, x34, x35, x36, x37] (arr M q A) N) fun X e' m' n' w =>
      X = .exit 4 ∧ e' = [.int .i64 (g.length : Int), x1, x2, x3, x4, x5, x6, x7, x8, x9, x10, x11, x12, x13, x14, x15, x16, x17, gval, x19, x20, x21, x22, x23, x24, x25, x26, x27, x28, x29, x30, .pointer (some ⟨q, 0, none⟩), x32, x33, x34, x35, x36, x37] ∧ m' = arr M q (bumpGroup A g (g.drop i)) ∧ n' = N ∧ Nat.mod w (bit n0) = 0 := by
  intro d
  induction d with
  | zero =>
    intro j hj A hA
    have hjl : (j : Int) = (g.length : Int) := by omega
    have hlt : ¬ ((g.length : Int) < (g.length : Int)) := by omega
    rw [ac44L2_w, hjl]
    simp only [ac44L2b, Gv_add, w_seq, v_reg, q_cons, q_nil, q_nop, q_op, q_eff, q_opg, q_effg, keep_ok, drop1_ok, out_ok, crRec_mk, onNorm_norm, onNorm_exit, onNorm_ret, addRW_mk, w_cond, onCond_mk, w_block, onBlock_norm, onBlock_ret, onBlock_exit, w_pre, w_post, onPost_norm, onPost_exit, onPost_ret, w_exit, w_ret, onRet_mk, res_nil, res_cons, resO_v, retV_one, fixE_mk, lmap_nil, lmap_cons, ldrop_z, ldrop_s, ev_v, ev_c, lget_z, lget_s, evs_nil, evs_cons, s_mov, s_pick, s_bin, s_una, s_conv, s_fld, s_idx, s_ida, s_build, s_extr, s_nilck, s_len, s_mx, s_ld1, s_ldn, s_st, s_call, s_new, s_box, s_make, s_app, bin_int, i_add, i_sub, i_mul, i_eql, i_neq, i_lss, i_gtr, i_leq, i_geq, pick_mk, wantB_mk, una_not, fld_mk, nilck_mk, valO_some, lor_zero', zero_lor', cond_true, cond_false, Nat.beq_refl, natOf_mk, natOf_zero, natOf_one, obind_some, w_skip, Bool.not_true, Bool.not_false, wantB_undef, newb_fm, ptrP_mk, slcP_mk, cells_agg, (hg A).len, hlt, decide_false]
    exact ⟨rfl, rfl, by rw [List.drop_eq_nil_of_le (by omega)]; rfl, rfl, mod_zero _⟩
  | succ d ih =>
    intro j hj A hA
    have hlt : (j : Int) < (g.length : Int) := by omega
    have hjl : j < g.length := by omega
    obtain ⟨hx0, hx60⟩ := hin j g[j] (List.getElem?_eq_getElem hjl)
    obtain ⟨a, hax⟩ : ∃ a : Nat, g[j] = (a : Int) := ⟨g[j].toNat, by omega⟩
    have ha60 : a < 60 := by omega
    have hw : IntKind.i64.wrap ((j : Int) + 1) = ((j + 1 : Nat) : Int) := by rw [wrap_small (by omega) (by omega)]; omega
    obtain ⟨rf, wf, hin2⟩ := ref_L1_eq (E := E) (Y := Y) M N q n0 hqN hn0 g gval hg hl hin a ha60 j hjl hax A hA
    have heq := fun x1 x2 x3 x5 x6 x7 x8 x9 x10 x11 x12 x13 x14 x15 x16 x17 x18 x19 x20 x21 x23 x24 x25 x26 x27 x28 x29 x30 x31 x32 x33 x34 x36 x37 x38 x39 x40 x41 => (hin2 x1 x2 x3 x5 x6 x7 x8 x9 x10 x11 x12 x13 x14 x15 x16 x17 x18 x19 x20 x21 x23 x24 x25 x26 x27 x28 x29 x30 x31 x32 x33 x34 x36 x37 x38 x39 x40 x41).1
    have hmod := fun x1 x2 x3 x5 x6 x7 x8 x9 x10 x11 x12 x13 x14 x15 x16 x17 x18 x19 x20 x21 x23 x24 x25 x26 x27 x28 x29 x30 x31 x32 x33 x34 x36 x37 x38 x39 x40 x41 => (hin2 x1 x2 x3 x5 x6 x7 x8 x9 x10 x11 x12 x13 x14 x15 x16 x17 x18 x19 x20 x21 x23 x24 x25 x26 x27 x28 x29 x30 x31 x32 x33 x34 x36 x37 x38 x39 x40 x41).2
    rw [ac44L2_w]
    simp only [ac44L2b, Gv_add, w_seq, v_reg, q_cons, q_nil, q_nop, q_op, q_eff, q_opg, q_effg, keep_ok, drop1_ok, out_ok, crRec_mk, onNorm_norm, onNorm_exit, onNorm_ret, addRW_mk, w_cond, onCond_mk, w_block, onBlock_norm, onBlock_ret, onBlock_exit, w_pre, w_post, onPost_norm, onPost_exit, onPost_ret, w_exit, w_ret, onRet_mk, res_nil, res_cons, resO_v, retV_one, fixE_mk, lmap_nil, lmap_cons, ldrop_z, ldrop_s, ev_v, ev_c, lget_z, lget_s, evs_nil, evs_cons, s_mov, s_pick, s_bin, s_una, s_conv, s_fld, s_idx, s_ida, s_build, s_extr, s_nilck, s_len, s_mx, s_ld1, s_ldn, s_st, s_call, s_new, s_box, s_make, s_app, bin_int, i_add, i_sub, i_mul, i_eql, i_neq, i_lss, i_gtr, i_leq, i_geq, pick_mk, wantB_mk, una_not, fld_mk, nilck_mk, valO_some, lor_zero', zero_lor', cond_true, cond_false, Nat.beq_refl, natOf_mk, natOf_zero, natOf_one, obind_some, w_skip, Bool.not_true, Bool.not_false, wantB_undef, newb_fm, ptrP_mk, slcP_mk, cells_agg, (hg A).len, hlt, decide_true, hw, heq]
    refine Gv.mono (ih (j + 1) (by omega) _ (by rw [bumpRow_length, hA])) fun X e' m' n' w h => ?_
    obtain ⟨h1, h2, h3, h4, h5⟩ := h
    refine ⟨h1, h2, ?_, h4, mod_lor' (hmod ..) h5⟩
    rw [h3, List.drop_eq_getElem_cons hjl]
    show _ = arr M q (bumpGroup (bumpRow A g[j].toNat g) g (g.drop (j + 1)))
    rw [hax]; rfl
theorem ref_L2_eq (M : FM) (N q n0 : Nat) (hqN : q < N) (hn0 : n0 ≤ q) (g : List Int) (gval : Value) (hg : ∀ A, Ints (arr M q A) N gval g) (hl : g.length < 4611686018427387904) (hin : ∀ (i : Nat) (x : Int), g[i]? = some x → 0 ≤ x ∧ x < 60) (A : List Int) (hA : A.length = 3600) :
    ∃ rf wf : List Value → Nat, ∀ x1 x2 x3 x4 x5 x6 x7 x8 x9 x10 x11 x12 x13 x14 x15 x16 x17 x19 x20 x21 x22 x23 x24 x25 x26 x27 x28 x29 x30 x32 x33 x34 x35 x36 x37, execW PG E Y ac44L2 [.int .i64 0, x1, x2, x3, x4, x5, x6, x7, x8, x9, x10, x11, x12, x13, x14, x15, x16, x17, gval, x19, x20, x21, x22, x23, x24, x25, x26, x27, x28, x29, x30, .pointer (some ⟨q, 0, none⟩), x32, x33, x34, x35, x36, x37] (arr M q A) N = .ok (.exit 4) [.int .i64 (g.length : Int), x1, x2, x3, x4, x5, x6, x7, x8, x9, x10, x11, x12, x13, x14, x15, x16, x17, gval, x19, x20, x21, x22, x23, x24, x25, x26, x27, x28, x29, x30, .pointer (some ⟨q, 0, none⟩), x32, x33, x34, x35, x36, x37] (arr M q (bumpGroup A g g)) N (rf [.int .i64 0, x1, x2, x3, x4, x5, x6, x7, x8, x9, x10, x11, x12, x13, x14, x15, x16, x17, gval, x19, x20, x21, x22, x23, x24, x25, x26, x27, x28, x29, x30, .pointer (some ⟨q, 0, none⟩), x32, x33, x34, x35, x36, x37]) (wf [.int .i64 0, x1, x2, x3, x4, x5, x6, x7, x8, x9, x10, x11, x12, x13, x14, x15, x16, x17, gval, x19, x20, x21, x22, x23, x24, x25, x26, x27, x28, x29, x30, .pointer (some ⟨q, 0, none⟩), x32, x33, x34, x35, x36, x37]) ∧ Nat.mod (wf [.int .i64 0, x1, x2, x3, x4, x5, x6, x7, x8, x9, x10, x11, x12, x13, x14, x15, x16, x17, gval, x19, x20, x21, x22, x23, x24, x25, x26, x27, x28, x29, x30, .pointer (some ⟨q, 0, none⟩), x32, x33, x34, x35, x36, x37]) (bit n0) = 0 := by
  obtain ⟨rf, wf, h⟩ := named_w (fun l => execW PG E Y ac44L2 l (arr M q A) N)
  refine ⟨rf, wf, fun x1 x2 x3 x4 x5 x6 x7 x8 x9 x10 x11 x12 x13 x14 x15 x16 x17 x19 x20 x21 x22 x23 x24 x25 x26 x27 x28 x29 x30 x32 x33 x34 x35 x36 x37 => ?_⟩
  obtain ⟨X, e', m', n', r, w, hx, h1, h2, h3, h4, h5⟩ := Gv_some (ref_L2 (E := E) (Y := Y) M N q n0 hqN hn0 g gval hg hl hin x1 x2 x3 x4 x5 x6 x7 x8 x9 x10 x11 x12 x13 x14 x15 x16 x17 x19 x20 x21 x22 x23 x24 x25 x26 x27 x28 x29 x30 x32 x33 x34 x35 x36 x37 g.length 0 (by omega) A hA)
  obtain ⟨hr, hw⟩ := h _ _ _ _ _ _ _ hx
  have hr' : rf [.int .i64 0, x1, x2, x3, x4, x5, x6, x7, x8, x9, x10, x11, x12, x13, x14, x15, x16, x17, gval, x19, x20, x21, x22, x23, x24, x25, x26, x27, x28, x29, x30, .pointer (some ⟨q, 0, none⟩), x32, x33, x34, x35, x36, x37] = r := hr
  have hw' : wf [.int .i64 0, x1, x2, x3, x4, x5, x6, x7, x8, x9, x10, x11, x12, x13, x14, x15, x16, x17, gval, x19, x20, x21, x22, x23, x24, x25, x26, x27, x28, x29, x30, .pointer (some ⟨q, 0, none⟩), x32, x33, x34, x35, x36, x37] = w := hw
  rw [hr', hw']
  subst h1; subst h2; subst h3; subst h4
  exact ⟨hx, h5⟩

end Go.Am.C21
namespace Go.Am.C21
open Go Go.Am
variable {E : Nat → Option AFn} {Y : Nat → List Value → FM → Nat → OR FM}
theorem ref_L0_yes (M : FM) (N q : Nat) (hqN : q < N) (g : List Int) (gval : Value) (hg : Ints M N gval g) (hl : g.length < 4611686018427387904) (p : Nat) (disks : Int) (hpN : p < N) (hpd : ld1V M N (.pointer (some ⟨p, 0 + 0, none⟩)) = .ok (.int .i64 disks) M N (bit p) 0) (hr : RowFrom disks g 0) :
    ∃ rf : List Value → Nat, ∀ (t : Int) x0 x1 x2 x4 x5 x6 x7 x8 x9 x10 x11 x12 x13 x14 x15 x17 x18 x19 x20 x21 x22 x23 x24 x25 x26 x28 x30 x31 x32 x33 x35, execW PG E Y ac44L0 [x0, x1, x2, .int .i64 0, x4, x5, x6, x7, x8, x9, x10, x11, x12, x13, x14, x15, gval, x17, x18, x19, x20, x21, x22, x23, x24, x25, x26, .int .i64 t, x28, .pointer (some ⟨q, 0, none⟩), x30, x31, x32, x33, .pointer (some ⟨p, 0, none⟩), x35] M N = .ok (.exit 2) [x0, x1, x2, .int .i64 (g.length : Int), x4, x5, x6, x7, x8, x9, x10, x11, x12, x13, x14, x15, gval, x17, x18, x19, x20, x21, x22, x23, x24, x25, x26, .int .i64 t, x28, .pointer (some ⟨q, 0, none⟩), x30, x31, x32, x33, .pointer (some ⟨p, 0, none⟩), x35] M N (rf [x0, x1, x2, .int .i64 0, x4, x5, x6, x7, x8, x9, x10, x11, x12, x13, x14, x15, gval, x17, x18, x19, x20, x21, x22, x23, x24, x25, x26, .int .i64 t, x28, .pointer (some ⟨q, 0, none⟩), x30, x31, x32, x33, .pointer (some ⟨p, 0, none⟩), x35]) 0 := by
  obtain ⟨rf, ef, h⟩ := named_r (fun l => execW PG E Y ac44L0 l M N)
  refine ⟨rf, fun t x0 x1 x2 x4 x5 x6 x7 x8 x9 x10 x11 x12 x13 x14 x15 x17 x18 x19 x20 x21 x22 x23 x24 x25 x26 x28 x30 x31 x32 x33 x35 => ?_⟩
  rw [(h _).1]
  refine gv_norm (Gv.mono (ref_L0 (E := E) (Y := Y) M N q hqN g gval hg hl p disks hpN hpd x0 x1 x2 x4 x5 x6 x7 x8 x9 x10 x11 x12 x13 x14 x15 x17 x18 x19 x20 x21 x22 x23 x24 x25 x26 (.int .i64 t) x28 x30 x31 x32 x33 x35 rfl g.length 0 (by omega)) fun X e' m' n' w hh => ?_)
  obtain ⟨h1, h2, h3, h4⟩ := hh
  rcases h4 with ⟨_, h5, h6⟩ | ⟨h5, _⟩
  · exact ⟨h5, h6, h1, h2, h3⟩
  · exact absurd hr h5
theorem ref_L0_no (M : FM) (N q : Nat) (hqN : q < N) (g : List Int) (gval : Value) (hg : Ints M N gval g) (hl : g.length < 4611686018427387904) (p : Nat) (disks : Int) (hpN : p < N) (hpd : ld1V M N (.pointer (some ⟨p, 0 + 0, none⟩)) = .ok (.int .i64 disks) M N (bit p) 0) (hr : ¬ RowFrom disks g 0) :
    ∃ (rf : List Value → Nat) (ef : List Value → List Value), ∀ (t : Int) x0 x1 x2 x4 x5 x6 x7 x8 x9 x10 x11 x12 x13 x14 x15 x17 x18 x19 x20 x21 x22 x23 x24 x25 x26 x28 x30 x31 x32 x33 x35, execW PG E Y ac44L0 [x0, x1, x2, .int .i64 0, x4, x5, x6, x7, x8, x9, x10, x11, x12, x13, x14, x15, gval, x17, x18, x19, x20, x21, x22, x23, x24, x25, x26, .int .i64 t, x28, .pointer (some ⟨q, 0, none⟩), x30, x31, x32, x33, .pointer (some ⟨p, 0, none⟩), x35] M N = .ok (.ret errF) (ef [x0, x1, x2, .int .i64 0, x4, x5, x6, x7, x8, x9, x10, x11, x12, x13, x14, x15, gval, x17, x18, x19, x20, x21, x22, x23, x24, x25, x26, .int .i64 t, x28, .pointer (some ⟨q, 0, none⟩), x30, x31, x32, x33, .pointer (some ⟨p, 0, none⟩), x35]) M N (rf [x0, x1, x2, .int .i64 0, x4, x5, x6, x7, x8, x9, x10, x11, x12, x13, x14, x15, gval, x17, x18, x19, x20, x21, x22, x23, x24, x25, x26, .int .i64 t, x28, .pointer (some ⟨q, 0, none⟩), x30, x31, x32, x33, .pointer (some ⟨p, 0, none⟩), x35]) 0 := by
  obtain ⟨rf, ef, h⟩ := named_r (fun l => execW PG E Y ac44L0 l M N)
  refine ⟨rf, ef, fun t x0 x1 x2 x4 x5 x6 x7 x8 x9 x10 x11 x12 x13 x14 x15 x17 x18 x19 x20 x21 x22 x23 x24 x25 x26 x28 x30 x31 x32 x33 x35 => ?_⟩
  rw [(h _).1, (h _).2]
  refine gv_ret (Gv.mono (ref_L0 (E := E) (Y := Y) M N q hqN g gval hg hl p disks hpN hpd x0 x1 x2 x4 x5 x6 x7 x8 x9 x10 x11 x12 x13 x14 x15 x17 x18 x19 x20 x21 x22 x23 x24 x25 x26 (.int .i64 t) x28 x30 x31 x32 x33 x35 rfl g.length 0 (by omega)) fun X e' m' n' w hh => ?_)
  obtain ⟨h1, h2, h3, h4⟩ := hh
  rcases h4 with ⟨h5, _, _⟩ | ⟨_, h5⟩
  · exact absurd h5 hr
  · exact ⟨h5, h1, h2, h3⟩
/-- the groups from a place on are formed, asl the reference asks it -/
def GroupsR (disks : Int) (w : Nat) (gs : List (List Int)) (j : Nat) : Prop := ∀ i g, j ≤ i → gs[i]? = some g → (2 ≤ g.length ∧ g.length = w) ∧ RowFrom disks g 0
theorem groupsR_end {disks : Int} {w : Nat} {gs : List (List Int)} {j : Nat} (h : gs.length ≤ j) : GroupsR disks w gs j := fun i g h1 h2 => by
  have := (List.getElem?_eq_some_iff.1 h2).1; omega
theorem groupsR_step {disks : Int} {w : Nat} {gs : List (List Int)} {j : Nat} (h : j < gs.length) : GroupsR disks w gs j ↔ ((2 ≤ gs[j].length ∧ gs[j].length = w) ∧ RowFrom disks gs[j] 0) ∧ GroupsR disks w gs (j + 1) :=
  ⟨fun hr => ⟨hr j _ (Nat.le_refl _) (List.getElem?_eq_getElem h), fun i g h1 h2 => hr i g (by omega) h2⟩, fun ⟨h1, h2⟩ i g h3 h4 => by
    rcases Nat.eq_or_lt_of_le h3 with rfl | h5
    · rw [List.getElem?_eq_getElem h] at h4; injection h4 with h4; subst h4; exact h1
    · exact h2 i g h5 h4⟩
theorem ref_L3 (M : FM) (N q n0 : Nat) (hqN : q < N) (hn0 : n0 ≤ q) (p : Nat) (hpq : p < q) (disks : Int) (hd : disks ≤ 60) (gv : Value) (hp : M p = some (.cells [.int .i64 disks, gv] 0 false true)) (gs : List (List Int)) (hgs : Rows M q gv gs) (hl : gs.length < 4611686018427387904) (hrow : ∀ g ∈ gs, g.length < 4611686018427387904) (h0 : 0 < gs.length)
    (x0 x1 x2 x4 x6 x7 x8 x9 x11 : Value) : ∀ d j, j + d = gs.length → ∀ A : List Int, A.length = 3600 →
    Gv (execW PG E Y ac44L3 [x0, x1, x2, .int .i64 (j : Int), x4, .pointer (some ⟨q, 0, none⟩), x6, x7, x8, x9, .pointer (some ⟨p, 0, none⟩), x11] (arr M q A) N) fun X e' m' n' w => n' = N ∧ Nat.mod w (bit n0) = 0 ∧
      ((GroupsR disks gs[0].length gs j ∧ X = .exit 0 ∧ e' = [x0, x1, x2, x4, .pointer (some ⟨q, 0, none⟩), x6, x7, x8, x9, .pointer (some ⟨p, 0, none⟩), x11] ∧ m' = arr M q (counts A (gs.drop j))) ∨ (¬ GroupsR disks gs[0].length gs j ∧ X = .ret errF)) := by
  intro d
  have hfr : ∀ A b, b < q → arr M q A b = M b := fun A b hb => fput_ne M q b _ (by omega)
  have hpA : ∀ A, arr M q A p = some (.cells [.int .i64 disks, gv] 0 false true) := fun A => (hfr A p hpq).trans hp
  have hgv : ∀ A, ld1V (arr M q A) N (.pointer (some ⟨p, 0 + 1, none⟩)) = .ok gv (arr M q A) N (bit p) 0 := fun A => ld1_at (by omega) (hpA A) rfl
  have hpd : ∀ A, ld1V (arr M q A) N (.pointer (some ⟨p, 0 + 0, none⟩)) = .ok (.int .i64 disks) (arr M q A) N (bit p) 0 := fun A => ld1_at (by omega) (hpA A) rfl
  induction d with
  | zero =>
    intro j hj A hA
    have hjl : (j : Int) = (gs.length : Int) := by omega
    have hlt : ¬ ((gs.length : Int) < (gs.length : Int)) := by omega
    have hgvA := hgv A
    rw [ac44L3_w, hjl]
    simp only [ac44L3b, Gv_add, w_seq, v_reg, q_cons, q_nil, q_nop, q_op, q_eff, q_opg, q_effg, keep_ok, drop1_ok, out_ok, crRec_mk, onNorm_norm, onNorm_exit, onNorm_ret, addRW_mk, w_cond, onCond_mk, w_block, onBlock_norm, onBlock_ret, onBlock_exit, w_pre, w_post, onPost_norm, onPost_exit, onPost_ret, w_exit, w_ret, onRet_mk, res_nil, res_cons, resO_v, retV_one, fixE_mk, lmap_nil, lmap_cons, ldrop_z, ldrop_s, ev_v, ev_c, lget_z, lget_s, evs_nil, evs_cons, s_mov, s_pick, s_bin, s_una, s_conv, s_fld, s_idx, s_ida, s_build, s_extr, s_nilck, s_len, s_mx, s_ld1, s_ldn, s_st, s_call, s_new, s_box, s_make, s_app, bin_int, i_add, i_sub, i_mul, i_eql, i_neq, i_lss, i_gtr, i_leq, i_geq, pick_mk, wantB_mk, una_not, fld_mk, nilck_mk, valO_some, lor_zero', zero_lor', cond_true, cond_false, Nat.beq_refl, natOf_mk, natOf_zero, natOf_one, obind_some, w_skip, Bool.not_true, Bool.not_false, wantB_undef, newb_fm, ptrP_mk, slcP_mk, cells_agg, hgvA, hgs.len, hlt, decide_false]
    exact ⟨rfl, mod_zero _, .inl ⟨groupsR_end (by omega), rfl, rfl, by rw [List.drop_eq_nil_of_le (by omega)]; rfl⟩⟩
  | succ d ih =>
    intro j hj A hA
    have hlt : (j : Int) < (gs.length : Int) := by omega
    have hjl : j < gs.length := by omega
    have hgvA := hgv A
    obtain ⟨a0, b0, g0v, hix0, hld0, hg0'⟩ := hgs.at2 h0 (m' := arr M q A) (n' := N) (by omega) (hfr A)
    have hg0 : Ints (arr M q A) N g0v gs[0] := hg0'.frame (by omega) (hfr A)
    replace hix0 : idxV 1 0 gv = some (.pointer (some a0)) := hix0
    obtain ⟨p1, b1, gval, hix, hld, hgj⟩ := hgs.at2 hjl (m' := arr M q A) (n' := N) (by omega) (hfr A)
    have hg : Ints (arr M q A) N gval gs[j] := hgj.frame (by omega) (hfr A)
    have hlj := hrow gs[j] (List.getElem_mem hjl)
    have hw : IntKind.i64.wrap ((j : Int) + 1) = ((j + 1 : Nat) : Int) := by rw [wrap_small (by omega) (by omega)]; omega
    have hstep := groupsR_step (disks := disks) (w := gs[0].length) hjl
    rw [ac44L3_w]
    by_cases h2 : (gs[j].length : Int) < 2
    · have h2' : decide ((gs[j].length : Int) < 2) = true := decide_eq_true h2
      simp only [ac44L3b, Gv_add, w_seq, v_reg, q_cons, q_nil, q_nop, q_op, q_eff, q_opg, q_effg, keep_ok, drop1_ok, out_ok, crRec_mk, onNorm_norm, onNorm_exit, onNorm_ret, addRW_mk, w_cond, onCond_mk, w_block, onBlock_norm, onBlock_ret, onBlock_exit, w_pre, w_post, onPost_norm, onPost_exit, onPost_ret, w_exit, w_ret, onRet_mk, res_nil, res_cons, resO_v, retV_one, fixE_mk, lmap_nil, lmap_cons, ldrop_z, ldrop_s, ev_v, ev_c, lget_z, lget_s, evs_nil, evs_cons, s_mov, s_pick, s_bin, s_una, s_conv, s_fld, s_idx, s_ida, s_build, s_extr, s_nilck, s_len, s_mx, s_ld1, s_ldn, s_st, s_call, s_new, s_box, s_make, s_app, bin_int, i_add, i_sub, i_mul, i_eql, i_neq, i_lss, i_gtr, i_leq, i_geq, pick_mk, wantB_mk, una_not, fld_mk, nilck_mk, valO_some, lor_zero', zero_lor', cond_true, cond_false, Nat.beq_refl, natOf_mk, natOf_zero, natOf_one, obind_some, w_skip, Bool.not_true, Bool.not_false, wantB_undef, newb_fm, ptrP_mk, slcP_mk, cells_agg, hgvA, hgs.len, hlt, decide_true, decide_false, hix, hld, hg.len, h2', retV_three]
      exact ⟨rfl, mod_zero _, .inr ⟨fun h => by have := (hstep.1 h).1.1.1; omega, rfl⟩⟩
    · have h2' : decide ((gs[j].length : Int) < 2) = false := decide_eq_false h2
      by_cases h1 : (gs[j].length : Int) = (gs[0].length : Int)
      · have h1' : decide ((gs[j].length : Int) = (gs[0].length : Int)) = true := decide_eq_true h1
        by_cases hr : RowFrom disks gs[j] 0
        · obtain ⟨rf, hrf⟩ := ref_L0_yes (E := E) (Y := Y) (arr M q A) N q hqN gs[j] gval hg hlj p disks (by omega) (hpd A) hr
          obtain ⟨rf2, wf2, hrf2⟩ := ref_L2_eq (E := E) (Y := Y) M N q n0 hqN hn0 gs[j] gval (fun B => hgj.frame (by omega) (hfr B)) hlj (rowFrom_in hd hr) A hA
          have heq := fun x1 x2 x3 x4 x5 x6 x7 x8 x9 x10 x11 x12 x13 x14 x15 x16 x17 x19 x20 x21 x22 x23 x24 x25 x26 x27 x28 x29 x30 x32 x33 x34 x35 x36 x37 => (hrf2 x1 x2 x3 x4 x5 x6 x7 x8 x9 x10 x11 x12 x13 x14 x15 x16 x17 x19 x20 x21 x22 x23 x24 x25 x26 x27 x28 x29 x30 x32 x33 x34 x35 x36 x37).1
          have hmod := fun x1 x2 x3 x4 x5 x6 x7 x8 x9 x10 x11 x12 x13 x14 x15 x16 x17 x19 x20 x21 x22 x23 x24 x25 x26 x27 x28 x29 x30 x32 x33 x34 x35 x36 x37 => (hrf2 x1 x2 x3 x4 x5 x6 x7 x8 x9 x10 x11 x12 x13 x14 x15 x16 x17 x19 x20 x21 x22 x23 x24 x25 x26 x27 x28 x29 x30 x32 x33 x34 x35 x36 x37).2
          simp only [ac44L3b, Gv_add, w_seq, v_reg, q_cons, q_nil, q_nop, q_op, q_eff, q_opg, q_effg, keep_ok, drop1_ok, out_ok, crRec_mk, onNorm_norm, onNorm_exit, onNorm_ret, addRW_mk, w_cond, onCond_mk, w_block, onBlock_norm, onBlock_ret, onBlock_exit, w_pre, w_post, onPost_norm, onPost_exit, onPost_ret, w_exit, w_ret, onRet_mk, res_nil, res_cons, resO_v, retV_one, fixE_mk, lmap_nil, lmap_cons, ldrop_z, ldrop_s, ev_v, ev_c, lget_z, lget_s, evs_nil, evs_cons, s_mov, s_pick, s_bin, s_una, s_conv, s_fld, s_idx, s_ida, s_build, s_extr, s_nilck, s_len, s_mx, s_ld1, s_ldn, s_st, s_call, s_new, s_box, s_make, s_app, bin_int, i_add, i_sub, i_mul, i_eql, i_neq, i_lss, i_gtr, i_leq, i_geq, pick_mk, wantB_mk, una_not, fld_mk, nilck_mk, valO_some, lor_zero', zero_lor', cond_true, cond_false, Nat.beq_refl, natOf_mk, natOf_zero, natOf_one, obind_some, w_skip, Bool.not_true, Bool.not_false, wantB_undef, newb_fm, ptrP_mk, slcP_mk, cells_agg, hgvA, hgs.len, hlt, decide_true, decide_false, hix, hld, hix0, hld0, hg.len, hg0.len, h2', h1', hrf, heq, hw]
          refine Gv.mono (ih (j + 1) (by omega) _ (by rw [bumpGroup_length, hA])) fun X e' m' n' w h => ?_
          have hiff : GroupsR disks gs[0].length gs j ↔ GroupsR disks gs[0].length gs (j + 1) := by rw [hstep]; exact ⟨fun h => h.2, fun h => ⟨⟨⟨by omega, by omega⟩, hr⟩, h⟩⟩
          have hc : counts A (gs.drop j) = counts (bumpGroup A gs[j] gs[j]) (gs.drop (j + 1)) := by rw [List.drop_eq_getElem_cons hjl]; rfl
          rw [hiff, hc]
          obtain ⟨k1, k2, k3⟩ := h
          exact ⟨k1, mod_lor' (hmod ..) k2, k3⟩
        · obtain ⟨rf, ef, hrf⟩ := ref_L0_no (E := E) (Y := Y) (arr M q A) N q hqN gs[j] gval hg hlj p disks (by omega) (hpd A) hr
          simp only [ac44L3b, Gv_add, w_seq, v_reg, q_cons, q_nil, q_nop, q_op, q_eff, q_opg, q_effg, keep_ok, drop1_ok, out_ok, crRec_mk, onNorm_norm, onNorm_exit, onNorm_ret, addRW_mk, w_cond, onCond_mk, w_block, onBlock_norm, onBlock_ret, onBlock_exit, w_pre, w_post, onPost_norm, onPost_exit, onPost_ret, w_exit, w_ret, onRet_mk, res_nil, res_cons, resO_v, retV_one, fixE_mk, lmap_nil, lmap_cons, ldrop_z, ldrop_s, ev_v, ev_c, lget_z, lget_s, evs_nil, evs_cons, s_mov, s_pick, s_bin, s_una, s_conv, s_fld, s_idx, s_ida, s_build, s_extr, s_nilck, s_len, s_mx, s_ld1, s_ldn, s_st, s_call, s_new, s_box, s_make, s_app, bin_int, i_add, i_sub, i_mul, i_eql, i_neq, i_lss, i_gtr, i_leq, i_geq, pick_mk, wantB_mk, una_not, fld_mk, nilck_mk, valO_some, lor_zero', zero_lor', cond_true, cond_false, Nat.beq_refl, natOf_mk, natOf_zero, natOf_one, obind_some, w_skip, Bool.not_true, Bool.not_false, wantB_undef, newb_fm, ptrP_mk, slcP_mk, cells_agg, hgvA, hgs.len, hlt, decide_true, decide_false, hix, hld, hix0, hld0, hg.len, hg0.len, h2', h1', hrf]
          exact ⟨rfl, mod_zero _, .inr ⟨fun h => hr (hstep.1 h).1.2, rfl⟩⟩
      · have h1' : decide ((gs[j].length : Int) = (gs[0].length : Int)) = false := decide_eq_false h1
        simp only [ac44L3b, Gv_add, w_seq, v_reg, q_cons, q_nil, q_nop, q_op, q_eff, q_opg, q_effg, keep_ok, drop1_ok, out_ok, crRec_mk, onNorm_norm, onNorm_exit, onNorm_ret, addRW_mk, w_cond, onCond_mk, w_block, onBlock_norm, onBlock_ret, onBlock_exit, w_pre, w_post, onPost_norm, onPost_exit, onPost_ret, w_exit, w_ret, onRet_mk, res_nil, res_cons, resO_v, retV_one, fixE_mk, lmap_nil, lmap_cons, ldrop_z, ldrop_s, ev_v, ev_c, lget_z, lget_s, evs_nil, evs_cons, s_mov, s_pick, s_bin, s_una, s_conv, s_fld, s_idx, s_ida, s_build, s_extr, s_nilck, s_len, s_mx, s_ld1, s_ldn, s_st, s_call, s_new, s_box, s_make, s_app, bin_int, i_add, i_sub, i_mul, i_eql, i_neq, i_lss, i_gtr, i_leq, i_geq, pick_mk, wantB_mk, una_not, fld_mk, nilck_mk, valO_some, lor_zero', zero_lor', cond_true, cond_false, Nat.beq_refl, natOf_mk, natOf_zero, natOf_one, obind_some, w_skip, Bool.not_true, Bool.not_false, wantB_undef, newb_fm, ptrP_mk, slcP_mk, cells_agg, hgvA, hgs.len, hlt, decide_true, decide_false, hix, hld, hix0, hld0, hg.len, hg0.len, h2', h1', retV_three]
        exact ⟨rfl, mod_zero _, .inr ⟨fun h => by have := (hstep.1 h).1.1.2; omega, rfl⟩⟩
end Go.Am.C21
namespace Go.Am.C21
open Go Go.Am
variable {E : Nat → Option AFn} {Y : Nat → List Value → FM → Nat → OR FM}
theorem ref_L4 (M : FM) (N q : Nat) (hqN : q < N) (A : List Int) (hA : A.length = 3600) (D : Nat) (hD : D ≤ 60) (p : Nat) (hpN : p < N) (hpd : ld1V (arr M q A) N (.pointer (some ⟨p, 0 + 0, none⟩)) = .ok (.int .i64 (D : Int)) (arr M q A) N (bit p) 0) (a : Nat) (ha : a < D) (x0 x1 x2 x4 x5 x6 x7 x8 x9 x10 x12 x13 x14 x15 x16 x18 x19 x20 x21 x23 : Value) : ∀ d j, j + d = D →
    Gv (execW PG E Y ac44L4 [x0, x1, x2, .int .i64 (j : Int), x4, x5, x6, x7, x8, x9, x10, .int .i64 (a : Int), x12, x13, x14, x15, x16, .pointer (some ⟨q, 0, none⟩), x18, x19, x20, x21, .pointer (some ⟨p, 0, none⟩), x23] (arr M q A) N) fun X e' m' n' w => m' = arr M q A ∧ n' = N ∧ w = 0 ∧
      ((BalRow A D A[0]! A[1]! a j ∧ X = .exit 10 ∧ e' = [x0, x1, x2, .int .i64 (D : Int), x4, x5, x6, x7, x8, x9, x10, .int .i64 (a : Int), x12, x13, x14, x15, x16, .pointer (some ⟨q, 0, none⟩), x18, x19, x20, x21, .pointer (some ⟨p, 0, none⟩), x23]) ∨ (¬ BalRow A D A[0]! A[1]! a j ∧ X = .ret errF)) := by
  intro d
  have hc0 : (A.map (Value.int .i64))[0 + 0 * 60 + 0 * 1]? = some (.int .i64 A[0]!) := by simp [List.getElem?_eq_getElem (show 0 < A.length by omega)]
  have hc1 : (A.map (Value.int .i64))[0 + 0 * 60 + 1 * 1]? = some (.int .i64 A[1]!) := by simp [List.getElem?_eq_getElem (show 1 < A.length by omega)]
  have hl0 : ld1V (arr M q A) N (.pointer (some ⟨q, 0 + 0 * 60 + 0 * 1, none⟩)) = .ok (.int .i64 A[0]!) (arr M q A) N (bit q) 0 := ld1_at (by omega) (fput_same M q _) hc0
  have hl01 : ld1V (arr M q A) N (.pointer (some ⟨q, 0 + 0 * 60 + 1 * 1, none⟩)) = .ok (.int .i64 A[1]!) (arr M q A) N (bit q) 0 := ld1_at (by omega) (fput_same M q _) hc1
  have hd0 : idaV 60 60 0 (.pointer (some ⟨q, 0, none⟩)) = some (.pointer (some ⟨q, 0 + 0 * 60, none⟩)) := ida_ok (by omega)
  have hd00 : idaV 60 1 0 (.pointer (some ⟨q, 0 + 0 * 60, none⟩)) = some (.pointer (some ⟨q, 0 + 0 * 60 + 0 * 1, none⟩)) := ida_ok (by omega)
  have hd01 : idaV 60 1 1 (.pointer (some ⟨q, 0 + 0 * 60, none⟩)) = some (.pointer (some ⟨q, 0 + 0 * 60 + 1 * 1, none⟩)) := ida_ok (by omega)
  obtain ⟨r, hr⟩ : ∃ r, A[0]! = r := ⟨_, rfl⟩
  obtain ⟨lam, hlam⟩ : ∃ lam, A[1]! = lam := ⟨_, rfl⟩
  rw [hr] at hl0
  rw [hlam] at hl01
  rw [hr, hlam]
  have hq := blt_true hqN
  induction d with
  | zero =>
    intro j hj
    have hjl : (j : Int) = (D : Int) := by omega
    have hlt : ¬ ((D : Int) < (D : Int)) := by omega
    rw [ac44L4_w, hjl]
    simp only [ac44L4b, Gv_add, w_seq, v_reg, q_cons, q_nil, q_nop, q_op, q_eff, q_opg, q_effg, keep_ok, drop1_ok, out_ok, crRec_mk, onNorm_norm, onNorm_exit, onNorm_ret, addRW_mk, w_cond, onCond_mk, w_block, onBlock_norm, onBlock_ret, onBlock_exit, w_pre, w_post, onPost_norm, onPost_exit, onPost_ret, w_exit, w_ret, onRet_mk, res_nil, res_cons, resO_v, retV_one, fixE_mk, lmap_nil, lmap_cons, ldrop_z, ldrop_s, ev_v, ev_c, lget_z, lget_s, evs_nil, evs_cons, s_mov, s_pick, s_bin, s_una, s_conv, s_fld, s_idx, s_ida, s_build, s_extr, s_nilck, s_len, s_mx, s_ld1, s_ldn, s_st, s_call, s_new, s_box, s_make, s_app, bin_int, i_add, i_sub, i_mul, i_eql, i_neq, i_lss, i_gtr, i_leq, i_geq, pick_mk, wantB_mk, una_not, fld_mk, nilck_mk, valO_some, lor_zero', zero_lor', cond_true, cond_false, Nat.beq_refl, natOf_mk, natOf_zero, natOf_one, obind_some, w_skip, Bool.not_true, Bool.not_false, wantB_undef, newb_fm, ptrP_mk, slcP_mk, cells_agg, hpd, hlt, decide_false]
    exact ⟨rfl, rfl, rfl, .inl ⟨fun b h1 h2 => by omega, rfl, rfl⟩⟩
  | succ d ih =>
    intro j hj
    have hlt : (j : Int) < (D : Int) := by omega
    have hjl : j < D := by omega
    have hw : IntKind.i64.wrap ((j : Int) + 1) = ((j + 1 : Nat) : Int) := by rw [wrap_small (by omega) (by omega)]; omega
    have hstep := balRow_step (A := A) (r := r) (lam := lam) (a := a) hjl
    rw [ac44L4_w]
    by_cases hab0 : (a : Int) = (j : Int)
    · have hab : decide ((a : Int) = (j : Int)) = true := decide_eq_true hab0
      have hab' : a = j := by omega
      have hk : 0 + a * 60 + a * 1 < A.length := by omega
      have hcell : ((A.map (Value.int .i64)))[0 + a * 60 + a * 1]? = some (.int .i64 A[0 + a * 60 + a * 1]) := by simp [List.getElem?_eq_getElem hk]
      have hl1 : ld1V (arr M q A) N (.pointer (some ⟨q, 0 + a * 60 + a * 1, none⟩)) = .ok (.int .i64 A[0 + a * 60 + a * 1]) (arr M q A) N (bit q) 0 := ld1_at hqN (fput_same M q _) hcell
      have hda : idaV 60 60 a (.pointer (some ⟨q, 0, none⟩)) = some (.pointer (some ⟨q, 0 + a * 60, none⟩)) := ida_ok (by omega)
      have hdb : idaV 60 1 a (.pointer (some ⟨q, 0 + a * 60, none⟩)) = some (.pointer (some ⟨q, 0 + a * 60 + a * 1, none⟩)) := ida_ok (by omega)
      have hAe : A[60 * a + j]?.getD 0 = A[0 + a * 60 + a * 1] := by
        have e : 60 * a + j = 0 + a * 60 + a * 1 := by omega
        rw [e, List.getElem?_eq_getElem hk]; rfl
      rw [hAe, if_pos hab'] at hstep
      obtain ⟨z, hz⟩ : ∃ z, A[0 + a * 60 + a * 1] = z := ⟨_, rfl⟩
      rw [hz] at hl1 hstep
      by_cases hv0 : z = r
      · have hv : decide (z = r) = true := decide_eq_true hv0
        simp (implicitDefEqProofs := false) only [ac44L4b, Gv_add, w_seq, v_reg, q_cons, q_nil, q_nop, q_op, q_eff, q_opg, q_effg, keep_ok, drop1_ok, out_ok, crRec_mk, onNorm_norm, onNorm_exit, onNorm_ret, addRW_mk, w_cond, onCond_mk, w_block, onBlock_norm, onBlock_ret, onBlock_exit, w_pre, w_post, onPost_norm, onPost_exit, onPost_ret, w_exit, w_ret, onRet_mk, res_nil, res_cons, resO_v, retV_one, fixE_mk, lmap_nil, lmap_cons, ldrop_z, ldrop_s, ev_v, ev_c, lget_z, lget_s, evs_nil, evs_cons, s_mov, s_pick, s_bin, s_una, s_conv, s_fld, s_idx, s_ida, s_build, s_extr, s_nilck, s_len, s_mx, s_ld1, s_ldn, s_st, s_call, s_new, s_box, s_make, s_app, bin_int, i_add, i_sub, i_mul, i_eql, i_neq, i_lss, i_gtr, i_leq, i_geq, pick_mk, wantB_mk, una_not, fld_mk, nilck_mk, valO_some, lor_zero', zero_lor', cond_true, cond_false, Nat.beq_refl, natOf_mk, natOf_zero, natOf_one, obind_some, w_skip, Bool.not_true, Bool.not_false, wantB_undef, newb_fm, ptrP_mk, slcP_mk, cells_agg, u_regD, isOkC_ok, belowV_undef, belowV_addr, z_nil, z_cons, y_nil, y_cons, y_nop, y_op, y_eff, y_opg, y_effg, keepD_ok, outX_ok, apart_nil, apart_cons, zero_land', land_zero', stepD_ok', below_all, opds, List.all_cons, List.all_nil, belowV_int, belowV_bool, belowV_ptr, belowV_nils, Bool.and_self, Bool.and_true, Bool.true_and, Bool.or_true, Bool.true_or, Bool.false_or, Nat.reduceAdd, Nat.testBit, Nat.reduceShiftRight, Nat.reduceAnd, Nat.reduceBNe, hpd, hlt, decide_true, decide_false, hda, hdb, hd0, hd00, hd01, hl0, hl01, hl1, hq, hab, hv, retV_three, hw]
        refine Gv.mono (ih (j + 1) (by omega)) fun X e' m' n' w h => ?_
        have hiff : BalRow A D r lam a j ↔ BalRow A D r lam a (j + 1) := by rw [hstep]; exact ⟨fun h => h.2, fun h => ⟨hv0, h⟩⟩
        rw [hiff]
        simpa only [zero_lor'] using h
      · have hv : decide (z = r) = false := decide_eq_false hv0
        simp (implicitDefEqProofs := false) only [ac44L4b, Gv_add, w_seq, v_reg, q_cons, q_nil, q_nop, q_op, q_eff, q_opg, q_effg, keep_ok, drop1_ok, out_ok, crRec_mk, onNorm_norm, onNorm_exit, onNorm_ret, addRW_mk, w_cond, onCond_mk, w_block, onBlock_norm, onBlock_ret, onBlock_exit, w_pre, w_post, onPost_norm, onPost_exit, onPost_ret, w_exit, w_ret, onRet_mk, res_nil, res_cons, resO_v, retV_one, fixE_mk, lmap_nil, lmap_cons, ldrop_z, ldrop_s, ev_v, ev_c, lget_z, lget_s, evs_nil, evs_cons, s_mov, s_pick, s_bin, s_una, s_conv, s_fld, s_idx, s_ida, s_build, s_extr, s_nilck, s_len, s_mx, s_ld1, s_ldn, s_st, s_call, s_new, s_box, s_make, s_app, bin_int, i_add, i_sub, i_mul, i_eql, i_neq, i_lss, i_gtr, i_leq, i_geq, pick_mk, wantB_mk, una_not, fld_mk, nilck_mk, valO_some, lor_zero', zero_lor', cond_true, cond_false, Nat.beq_refl, natOf_mk, natOf_zero, natOf_one, obind_some, w_skip, Bool.not_true, Bool.not_false, wantB_undef, newb_fm, ptrP_mk, slcP_mk, cells_agg, u_regD, isOkC_ok, belowV_undef, belowV_addr, z_nil, z_cons, y_nil, y_cons, y_nop, y_op, y_eff, y_opg, y_effg, keepD_ok, outX_ok, apart_nil, apart_cons, zero_land', land_zero', stepD_ok', below_all, opds, List.all_cons, List.all_nil, belowV_int, belowV_bool, belowV_ptr, belowV_nils, Bool.and_self, Bool.and_true, Bool.true_and, Bool.or_true, Bool.true_or, Bool.false_or, Nat.reduceAdd, Nat.testBit, Nat.reduceShiftRight, Nat.reduceAnd, Nat.reduceBNe, hpd, hlt, decide_true, decide_false, hda, hdb, hd0, hd00, hd01, hl0, hl01, hl1, hq, hab, hv, retV_three]
        exact ⟨rfl, rfl, rfl, .inr ⟨fun h => hv0 (hstep.1 h).1, rfl⟩⟩
    · have hab : decide ((a : Int) = (j : Int)) = false := decide_eq_false hab0
      have hab' : ¬ a = j := by omega
      have hk : 0 + a * 60 + j * 1 < A.length := by omega
      have hcell : ((A.map (Value.int .i64)))[0 + a * 60 + j * 1]? = some (.int .i64 A[0 + a * 60 + j * 1]) := by simp [List.getElem?_eq_getElem hk]
      have hl1 : ld1V (arr M q A) N (.pointer (some ⟨q, 0 + a * 60 + j * 1, none⟩)) = .ok (.int .i64 A[0 + a * 60 + j * 1]) (arr M q A) N (bit q) 0 := ld1_at hqN (fput_same M q _) hcell
      have hda : idaV 60 60 a (.pointer (some ⟨q, 0, none⟩)) = some (.pointer (some ⟨q, 0 + a * 60, none⟩)) := ida_ok (by omega)
      have hdb : idaV 60 1 j (.pointer (some ⟨q, 0 + a * 60, none⟩)) = some (.pointer (some ⟨q, 0 + a * 60 + j * 1, none⟩)) := ida_ok (by omega)
      have hAe : A[60 * a + j]?.getD 0 = A[0 + a * 60 + j * 1] := by
        have e : 60 * a + j = 0 + a * 60 + j * 1 := by omega
        rw [e, List.getElem?_eq_getElem hk]; rfl
      rw [hAe, if_neg hab'] at hstep
      obtain ⟨z, hz⟩ : ∃ z, A[0 + a * 60 + j * 1] = z := ⟨_, rfl⟩
      rw [hz] at hl1 hstep
      by_cases hv0 : z = lam
      · have hv : decide (z = lam) = true := decide_eq_true hv0
        simp (implicitDefEqProofs := false) only [ac44L4b, Gv_add, w_seq, v_reg, q_cons, q_nil, q_nop, q_op, q_eff, q_opg, q_effg, keep_ok, drop1_ok, out_ok, crRec_mk, onNorm_norm, onNorm_exit, onNorm_ret, addRW_mk, w_cond, onCond_mk, w_block, onBlock_norm, onBlock_ret, onBlock_exit, w_pre, w_post, onPost_norm, onPost_exit, onPost_ret, w_exit, w_ret, onRet_mk, res_nil, res_cons, resO_v, retV_one, fixE_mk, lmap_nil, lmap_cons, ldrop_z, ldrop_s, ev_v, ev_c, lget_z, lget_s, evs_nil, evs_cons, s_mov, s_pick, s_bin, s_una, s_conv, s_fld, s_idx, s_ida, s_build, s_extr, s_nilck, s_len, s_mx, s_ld1, s_ldn, s_st, s_call, s_new, s_box, s_make, s_app, bin_int, i_add, i_sub, i_mul, i_eql, i_neq, i_lss, i_gtr, i_leq, i_geq, pick_mk, wantB_mk, una_not, fld_mk, nilck_mk, valO_some, lor_zero', zero_lor', cond_true, cond_false, Nat.beq_refl, natOf_mk, natOf_zero, natOf_one, obind_some, w_skip, Bool.not_true, Bool.not_false, wantB_undef, newb_fm, ptrP_mk, slcP_mk, cells_agg, u_regD, isOkC_ok, belowV_undef, belowV_addr, z_nil, z_cons, y_nil, y_cons, y_nop, y_op, y_eff, y_opg, y_effg, keepD_ok, outX_ok, apart_nil, apart_cons, zero_land', land_zero', stepD_ok', below_all, opds, List.all_cons, List.all_nil, belowV_int, belowV_bool, belowV_ptr, belowV_nils, Bool.and_self, Bool.and_true, Bool.true_and, Bool.or_true, Bool.true_or, Bool.false_or, Nat.reduceAdd, Nat.testBit, Nat.reduceShiftRight, Nat.reduceAnd, Nat.reduceBNe, hpd, hlt, decide_true, decide_false, hda, hdb, hd0, hd00, hd01, hl0, hl01, hl1, hq, hab, hv, retV_three, hw]
        refine Gv.mono (ih (j + 1) (by omega)) fun X e' m' n' w h => ?_
        have hiff : BalRow A D r lam a j ↔ BalRow A D r lam a (j + 1) := by rw [hstep]; exact ⟨fun h => h.2, fun h => ⟨hv0, h⟩⟩
        rw [hiff]
        simpa only [zero_lor'] using h
      · have hv : decide (z = lam) = false := decide_eq_false hv0
        simp (implicitDefEqProofs := false) only [ac44L4b, Gv_add, w_seq, v_reg, q_cons, q_nil, q_nop, q_op, q_eff, q_opg, q_effg, keep_ok, drop1_ok, out_ok, crRec_mk, onNorm_norm, onNorm_exit, onNorm_ret, addRW_mk, w_cond, onCond_mk, w_block, onBlock_norm, onBlock_ret, onBlock_exit, w_pre, w_post, onPost_norm, onPost_exit, onPost_ret, w_exit, w_ret, onRet_mk, res_nil, res_cons, resO_v, retV_one, fixE_mk, lmap_nil, lmap_cons, ldrop_z, ldrop_s, ev_v, ev_c, lget_z, lget_s, evs_nil, evs_cons, s_mov, s_pick, s_bin, s_una, s_conv, s_fld, s_idx, s_ida, s_build, s_extr, s_nilck, s_len, s_mx, s_ld1, s_ldn, s_st, s_call, s_new, s_box, s_make, s_app, bin_int, i_add, i_sub, i_mul, i_eql, i_neq, i_lss, i_gtr, i_leq, i_geq, pick_mk, wantB_mk, una_not, fld_mk, nilck_mk, valO_some, lor_zero', zero_lor', cond_true, cond_false, Nat.beq_refl, natOf_mk, natOf_zero, natOf_one, obind_some, w_skip, Bool.not_true, Bool.not_false, wantB_undef, newb_fm, ptrP_mk, slcP_mk, cells_agg, u_regD, isOkC_ok, belowV_undef, belowV_addr, z_nil, z_cons, y_nil, y_cons, y_nop, y_op, y_eff, y_opg, y_effg, keepD_ok, outX_ok, apart_nil, apart_cons, zero_land', land_zero', stepD_ok', below_all, opds, List.all_cons, List.all_nil, belowV_int, belowV_bool, belowV_ptr, belowV_nils, Bool.and_self, Bool.and_true, Bool.true_and, Bool.or_true, Bool.true_or, Bool.false_or, Nat.reduceAdd, Nat.testBit, Nat.reduceShiftRight, Nat.reduceAnd, Nat.reduceBNe, hpd, hlt, decide_true, decide_false, hda, hdb, hd0, hd00, hd01, hl0, hl01, hl1, hq, hab, hv, retV_three]
        exact ⟨rfl, rfl, rfl, .inr ⟨fun h => hv0 (hstep.1 h).1, rfl⟩⟩
theorem ref_L4_yes (M : FM) (N q : Nat) (hqN : q < N) (A : List Int) (hA : A.length = 3600) (D : Nat) (hD : D ≤ 60) (p : Nat) (hpN : p < N) (hpd : ld1V (arr M q A) N (.pointer (some ⟨p, 0 + 0, none⟩)) = .ok (.int .i64 (D : Int)) (arr M q A) N (bit p) 0) (a : Nat) (ha : a < D) (hb : BalRow A D A[0]! A[1]! a 0) : ∃ rf : List Value → Nat, ∀ x0 x1 x2 x4 x5 x6 x7 x8 x9 x10 x12 x13 x14 x15 x16 x18 x19 x20 x21 x23, execW PG E Y ac44L4 [x0, x1, x2, .int .i64 0, x4, x5, x6, x7, x8, x9, x10, .int .i64 (a : Int), x12, x13, x14, x15, x16, .pointer (some ⟨q, 0, none⟩), x18, x19, x20, x21, .pointer (some ⟨p, 0, none⟩), x23] (arr M q A) N = .ok (.exit 10) [x0, x1, x2, .int .i64 (D : Int), x4, x5, x6, x7, x8, x9, x10, .int .i64 (a : Int), x12, x13, x14, x15, x16, .pointer (some ⟨q, 0, none⟩), x18, x19, x20, x21, .pointer (some ⟨p, 0, none⟩), x23] (arr M q A) N (rf [x0, x1, x2, .int .i64 0, x4, x5, x6, x7, x8, x9, x10, .int .i64 (a : Int), x12, x13, x14, x15, x16, .pointer (some ⟨q, 0, none⟩), x18, x19, x20, x21, .pointer (some ⟨p, 0, none⟩), x23]) 0 := by
  obtain ⟨rf, ef, h⟩ := named_r (fun l => execW PG E Y ac44L4 l (arr M q A) N)
  refine ⟨rf, fun x0 x1 x2 x4 x5 x6 x7 x8 x9 x10 x12 x13 x14 x15 x16 x18 x19 x20 x21 x23 => ?_⟩
  rw [(h _).1]
  refine gv_norm (Gv.mono (ref_L4 (E := E) (Y := Y) M N q hqN A hA D hD p hpN hpd a ha x0 x1 x2 x4 x5 x6 x7 x8 x9 x10 x12 x13 x14 x15 x16 x18 x19 x20 x21 x23 D 0 (by omega)) fun X e' m' n' w hh => ?_)
  obtain ⟨h1, h2, h3, h4⟩ := hh
  rcases h4 with ⟨_, h5, h6⟩ | ⟨h5, _⟩
  · exact ⟨h5, h6, h1, h2, h3⟩
  · exact absurd hb h5
theorem ref_L4_no (M : FM) (N q : Nat) (hqN : q < N) (A : List Int) (hA : A.length = 3600) (D : Nat) (hD : D ≤ 60) (p : Nat) (hpN : p < N) (hpd : ld1V (arr M q A) N (.pointer (some ⟨p, 0 + 0, none⟩)) = .ok (.int .i64 (D : Int)) (arr M q A) N (bit p) 0) (a : Nat) (ha : a < D) (hb : ¬ BalRow A D A[0]! A[1]! a 0) : ∃ (rf : List Value → Nat) (ef : List Value → List Value), ∀ x0 x1 x2 x4 x5 x6 x7 x8 x9 x10 x12 x13 x14 x15 x16 x18 x19 x20 x21 x23, execW PG E Y ac44L4 [x0, x1, x2, .int .i64 0, x4, x5, x6, x7, x8, x9, x10, .int .i64 (a : Int), x12, x13, x14, x15, x16, .pointer (some ⟨q, 0, none⟩), x18, x19, x20, x21, .pointer (some ⟨p, 0, none⟩), x23] (arr M q A) N = .ok (.ret errF) (ef [x0, x1, x2, .int .i64 0, x4, x5, x6, x7, x8, x9, x10, .int .i64 (a : Int), x12, x13, x14, x15, x16, .pointer (some ⟨q, 0, none⟩), x18, x19, x20, x21, .pointer (some ⟨p, 0, none⟩), x23]) (arr M q A) N (rf [x0, x1, x2, .int .i64 0, x4, x5, x6, x7, x8, x9, x10, .int .i64 (a : Int), x12, x13, x14, x15, x16, .pointer (some ⟨q, 0, none⟩), x18, x19, x20, x21, .pointer (some ⟨p, 0, none⟩), x23]) 0 := by
  obtain ⟨rf, ef, h⟩ := named_r (fun l => execW PG E Y ac44L4 l (arr M q A) N)
  refine ⟨rf, ef, fun x0 x1 x2 x4 x5 x6 x7 x8 x9 x10 x12 x13 x14 x15 x16 x18 x19 x20 x21 x23 => ?_⟩
  rw [(h _).1, (h _).2]
  refine gv_ret (Gv.mono (ref_L4 (E := E) (Y := Y) M N q hqN A hA D hD p hpN hpd a ha x0 x1 x2 x4 x5 x6 x7 x8 x9 x10 x12 x13 x14 x15 x16 x18 x19 x20 x21 x23 D 0 (by omega)) fun X e' m' n' w hh => ?_)
  obtain ⟨h1, h2, h3, h4⟩ := hh
  rcases h4 with ⟨h5, _, _⟩ | ⟨_, h5⟩
  · exact absurd h5 hb
  · exact ⟨h5, h1, h2, h3⟩
theorem ref_L5 (M : FM) (N q : Nat) (hqN : q < N) (A : List Int) (hA : A.length = 3600) (D : Nat) (hD : D ≤ 60) (p : Nat) (hpN : p < N) (hpd : ld1V (arr M q A) N (.pointer (some ⟨p, 0 + 0, none⟩)) = .ok (.int .i64 (D : Int)) (arr M q A) N (bit p) 0) (x0 x1 x2 x4 x5 x6 x7 x8 x10 x11 x12 x13 x15 : Value) : ∀ d j, j + d = D →
    Gv (execW PG E Y ac44L5 [x0, x1, x2, .int .i64 (j : Int), x4, x5, x6, x7, x8, .pointer (some ⟨q, 0, none⟩), x10, x11, x12, x13, .pointer (some ⟨p, 0, none⟩), x15] (arr M q A) N) fun X e' m' n' w => m' = arr M q A ∧ n' = N ∧ w = 0 ∧
      ((Bal A D A[0]! A[1]! j ∧ X = .exit 8 ∧ e' = [x0, x1, x2, x4, x5, x6, x7, x8, .pointer (some ⟨q, 0, none⟩), x10, x11, x12, x13, .pointer (some ⟨p, 0, none⟩), x15]) ∨ (¬ Bal A D A[0]! A[1]! j ∧ X = .ret errF)) := by
  intro d
  induction d with
  | zero =>
    intro j hj
    have hjl : (j : Int) = (D : Int) := by omega
    have hlt : ¬ ((D : Int) < (D : Int)) := by omega
    rw [ac44L5_w, hjl]
    simp only [ac44L5b, Gv_add, w_seq, v_reg, q_cons, q_nil, q_nop, q_op, q_eff, q_opg, q_effg, keep_ok, drop1_ok, out_ok, crRec_mk, onNorm_norm, onNorm_exit, onNorm_ret, addRW_mk, w_cond, onCond_mk, w_block, onBlock_norm, onBlock_ret, onBlock_exit, w_pre, w_post, onPost_norm, onPost_exit, onPost_ret, w_exit, w_ret, onRet_mk, res_nil, res_cons, resO_v, retV_one, fixE_mk, lmap_nil, lmap_cons, ldrop_z, ldrop_s, ev_v, ev_c, lget_z, lget_s, evs_nil, evs_cons, s_mov, s_pick, s_bin, s_una, s_conv, s_fld, s_idx, s_ida, s_build, s_extr, s_nilck, s_len, s_mx, s_ld1, s_ldn, s_st, s_call, s_new, s_box, s_make, s_app, bin_int, i_add, i_sub, i_mul, i_eql, i_neq, i_lss, i_gtr, i_leq, i_geq, pick_mk, wantB_mk, una_not, fld_mk, nilck_mk, valO_some, lor_zero', zero_lor', cond_true, cond_false, Nat.beq_refl, natOf_mk, natOf_zero, natOf_one, obind_some, w_skip, Bool.not_true, Bool.not_false, wantB_undef, newb_fm, ptrP_mk, slcP_mk, cells_agg, hpd, hlt, decide_false]
    exact ⟨rfl, rfl, rfl, .inl ⟨fun b h1 h2 => by omega, rfl, rfl⟩⟩
  | succ d ih =>
    intro j hj
    have hlt : (j : Int) < (D : Int) := by omega
    have hjl : j < D := by omega
    have hw : IntKind.i64.wrap ((j : Int) + 1) = ((j + 1 : Nat) : Int) := by rw [wrap_small (by omega) (by omega)]; omega
    have hstep := bal_step (A := A) (r := A[0]!) (lam := A[1]!) hjl
    rw [ac44L5_w]
    by_cases hb : BalRow A D A[0]! A[1]! j 0
    · obtain ⟨rf, hrf⟩ := ref_L4_yes (E := E) (Y := Y) M N q hqN A hA D hD p hpN hpd j hjl hb
      simp only [ac44L5b, Gv_add, w_seq, v_reg, q_cons, q_nil, q_nop, q_op, q_eff, q_opg, q_effg, keep_ok, drop1_ok, out_ok, crRec_mk, onNorm_norm, onNorm_exit, onNorm_ret, addRW_mk, w_cond, onCond_mk, w_block, onBlock_norm, onBlock_ret, onBlock_exit, w_pre, w_post, onPost_norm, onPost_exit, onPost_ret, w_exit, w_ret, onRet_mk, res_nil, res_cons, resO_v, retV_one, fixE_mk, lmap_nil, lmap_cons, ldrop_z, ldrop_s, ev_v, ev_c, lget_z, lget_s, evs_nil, evs_cons, s_mov, s_pick, s_bin, s_una, s_conv, s_fld, s_idx, s_ida, s_build, s_extr, s_nilck, s_len, s_mx, s_ld1, s_ldn, s_st, s_call, s_new, s_box, s_make, s_app, bin_int, i_add, i_sub, i_mul, i_eql, i_neq, i_lss, i_gtr, i_leq, i_geq, pick_mk, wantB_mk, una_not, fld_mk, nilck_mk, valO_some, lor_zero', zero_lor', cond_true, cond_false, Nat.beq_refl, natOf_mk, natOf_zero, natOf_one, obind_some, w_skip, Bool.not_true, Bool.not_false, wantB_undef, newb_fm, ptrP_mk, slcP_mk, cells_agg, hlt, decide_true, hpd, hrf, hw]
      refine Gv.mono (ih (j + 1) (by omega)) fun X e' m' n' w h => ?_
      have hiff : Bal A D A[0]! A[1]! j ↔ Bal A D A[0]! A[1]! (j + 1) := by rw [hstep]; exact ⟨fun h => h.2, fun h => ⟨hb, h⟩⟩
      rw [hiff]
      simpa only [zero_lor'] using h
    · obtain ⟨rf, ef, hrf⟩ := ref_L4_no (E := E) (Y := Y) M N q hqN A hA D hD p hpN hpd j hjl hb
      simp only [ac44L5b, Gv_add, w_seq, v_reg, q_cons, q_nil, q_nop, q_op, q_eff, q_opg, q_effg, keep_ok, drop1_ok, out_ok, crRec_mk, onNorm_norm, onNorm_exit, onNorm_ret, addRW_mk, w_cond, onCond_mk, w_block, onBlock_norm, onBlock_ret, onBlock_exit, w_pre, w_post, onPost_norm, onPost_exit, onPost_ret, w_exit, w_ret, onRet_mk, res_nil, res_cons, resO_v, retV_one, fixE_mk, lmap_nil, lmap_cons, ldrop_z, ldrop_s, ev_v, ev_c, lget_z, lget_s, evs_nil, evs_cons, s_mov, s_pick, s_bin, s_una, s_conv, s_fld, s_idx, s_ida, s_build, s_extr, s_nilck, s_len, s_mx, s_ld1, s_ldn, s_st, s_call, s_new, s_box, s_make, s_app, bin_int, i_add, i_sub, i_mul, i_eql, i_neq, i_lss, i_gtr, i_leq, i_geq, pick_mk, wantB_mk, una_not, fld_mk, nilck_mk, valO_some, lor_zero', zero_lor', cond_true, cond_false, Nat.beq_refl, natOf_mk, natOf_zero, natOf_one, obind_some, w_skip, Bool.not_true, Bool.not_false, wantB_undef, newb_fm, ptrP_mk, slcP_mk, cells_agg, hlt, decide_true, hpd, hrf, hw]
      exact ⟨rfl, rfl, rfl, .inr ⟨fun h => hb (hstep.1 h).1, rfl⟩⟩
end Go.Am.C21
namespace Go.Am.C21
open Go Go.Am
variable {E : Nat → Option AFn} {Y : Nat → List Value → FM → Nat → OR FM}
theorem named_all (f : List Value → CR FM) : ∃ (ef : List Value → List Value) (mf : List Value → FM) (rf wf : List Value → Nat), ∀ l X e m n r w, f l = .ok X e m n r w → ef l = e ∧ mf l = m ∧ rf l = r ∧ wf l = w :=
  ⟨fun l => eOf (f l), fun l => match f l with | .no => fun _ => none | .ok _ _ m _ _ _ => m, fun l => rOf (f l), fun l => match f l with | .no => 0 | .ok _ _ _ _ _ w => w, fun l X e m n r w h => by refine ⟨?_, ?_, ?_, ?_⟩ <;> simp [h, rOf, eOf]⟩
open Classical in
/-- what the reference's Check says of a design -/
noncomputable def refV (disks : Int) (gs : List (List Int)) : Value :=
  if Formed disks gs then
    if Bal (counts zeros gs) disks.toNat (counts zeros gs)[0]! (counts zeros gs)[1]! 0 then .tuple #[.int .i64 (counts zeros gs)[0]!, .int .i64 (counts zeros gs)[1]!, .bool (decide ((0 : Int) < (counts zeros gs)[1]!))] else errF
  else errF
theorem groupsR_iff {disks : Int} {gs : List (List Int)} (h : 0 < gs.length) : GroupsR disks gs[0].length gs 0 ↔ 2 ≤ gs[0].length ∧ GroupsFrom disks gs[0].length gs 0 :=
  ⟨fun hr => ⟨(hr 0 _ (Nat.le_refl _) (List.getElem?_eq_getElem h)).1.1, fun i g h1 h2 => ⟨(hr i g h1 h2).1.2, (hr i g h1 h2).2⟩⟩, fun ⟨h1, h2⟩ i g h3 h4 => by
    obtain ⟨k1, k2⟩ := h2 i g h3 h4
    exact ⟨⟨by omega, k1⟩, k2⟩⟩
theorem formed_iffR {disks : Int} {gs : List (List Int)} (h : 0 < gs.length) : Formed disks gs ↔ 2 ≤ disks ∧ disks ≤ 60 ∧ gs.length ≤ 4096 ∧ GroupsR disks gs[0].length gs 0 := by
  unfold Formed
  rw [groupsR_iff h, List.getElem?_eq_getElem h]
  constructor
  · rintro ⟨h1, h2, h3, g0, h4, h5, h6⟩
    injection h4 with h4; subst h4
    exact ⟨h1, h2, h3, h5, h6⟩
  · rintro ⟨h1, h2, h3, h5, h6⟩
    exact ⟨h1, h2, h3, _, rfl, h5, h6⟩
theorem ref_spec (hE : E 44 = some ac44) (m : FM) (n : Nat) (disks : Int) (gv : Value) (gs : List (List Int)) (hgs : Rows m n gv gs) (hl : gs.length < 4611686018427387904) (hrow : ∀ g ∈ gs, g.length < 4611686018427387904) :
    Pure (callW PG E Y 44 [.agg #[.int .i64 disks, gv]] m n) m n (refV disks gs) := by
  classical
  rw [callW_fn hE rfl]
  have hfree : addrFree (refV disks gs) = true := by unfold refV; split <;> (try split) <;> rfl
  refine pure_of hfree ?_
  have hfr : ∀ b, b < n → (AMem.put m n (some (.cells [.int .i64 disks, gv] 0 false true)) : FM) b = m b := fun b hb => fput_ne m n b _ (by omega)
  have hgs' := hgs.frame (n' := n + 1) (by omega) hfr
  have hp : (AMem.put m n (some (.cells [.int .i64 disks, gv] 0 false true)) : FM) n = some (.cells [.int .i64 disks, gv] 0 false true) := fput_same m n _
  obtain ⟨M, hM⟩ : ∃ M : FM, AMem.put m n (some (.cells [.int .i64 disks, gv] 0 false true)) = M := ⟨_, rfl⟩
  rw [hM] at hgs' hp
  have hbn : Nat.mod (bit n) (bit n) = 0 := mod_bit_ge (Nat.le_refl n)
  have hbn1 : Nat.mod (bit (n + 1)) (bit n) = 0 := mod_bit_ge (by omega)
  have hpd : ld1V M (n + 1) (.pointer (some ⟨n, 0 + 0, none⟩)) = .ok (.int .i64 disks) M (n + 1) (bit n) 0 := ld1_at (by omega) hp rfl
  have hpg : ld1V M (n + 1) (.pointer (some ⟨n, 0 + 1, none⟩)) = .ok gv M (n + 1) (bit n) 0 := ld1_at (by omega) hp rfl
  rw [ac44]
  by_cases c1 : disks < 2
  · have hV : refV disks gs = errF := by unfold refV; rw [if_neg (fun h => by have := h.1; omega)]
    simp only [Gv_add, w_seq, v_reg, q_cons, q_nil, q_nop, q_op, q_eff, q_opg, q_effg, keep_ok, drop1_ok, out_ok, crRec_mk, onNorm_norm, onNorm_exit, onNorm_ret, addRW_mk, w_cond, onCond_mk, w_block, onBlock_norm, onBlock_ret, onBlock_exit, w_pre, w_post, onPost_norm, onPost_exit, onPost_ret, w_exit, w_ret, onRet_mk, res_nil, res_cons, resO_v, retV_one, fixE_mk, lmap_nil, lmap_cons, ldrop_z, ldrop_s, ev_v, ev_c, lget_z, lget_s, evs_nil, evs_cons, s_mov, s_pick, s_bin, s_una, s_conv, s_fld, s_idx, s_ida, s_build, s_extr, s_nilck, s_len, s_mx, s_ld1, s_ldn, s_st, s_call, s_new, s_box, s_make, s_app, bin_int, i_add, i_sub, i_mul, i_eql, i_neq, i_lss, i_gtr, i_leq, i_geq, pick_mk, wantB_mk, una_not, fld_mk, nilck_mk, valO_some, lor_zero', zero_lor', cond_true, cond_false, Nat.beq_refl, natOf_mk, natOf_zero, natOf_one, obind_some, w_skip, Bool.not_true, Bool.not_false, wantB_undef, newb_fm, ptrP_mk, slcP_mk, cells_agg, hM, hpd, hpg, hgs'.len, c1, decide_true, retV_three]
    exact ⟨by rw [hV]; rfl, hbn⟩
  by_cases c2 : 60 < disks
  · have hV : refV disks gs = errF := by unfold refV; rw [if_neg (fun h => by have := h.2.1; omega)]
    simp only [Gv_add, w_seq, v_reg, q_cons, q_nil, q_nop, q_op, q_eff, q_opg, q_effg, keep_ok, drop1_ok, out_ok, crRec_mk, onNorm_norm, onNorm_exit, onNorm_ret, addRW_mk, w_cond, onCond_mk, w_block, onBlock_norm, onBlock_ret, onBlock_exit, w_pre, w_post, onPost_norm, onPost_exit, onPost_ret, w_exit, w_ret, onRet_mk, res_nil, res_cons, resO_v, retV_one, fixE_mk, lmap_nil, lmap_cons, ldrop_z, ldrop_s, ev_v, ev_c, lget_z, lget_s, evs_nil, evs_cons, s_mov, s_pick, s_bin, s_una, s_conv, s_fld, s_idx, s_ida, s_build, s_extr, s_nilck, s_len, s_mx, s_ld1, s_ldn, s_st, s_call, s_new, s_box, s_make, s_app, bin_int, i_add, i_sub, i_mul, i_eql, i_neq, i_lss, i_gtr, i_leq, i_geq, pick_mk, wantB_mk, una_not, fld_mk, nilck_mk, valO_some, lor_zero', zero_lor', cond_true, cond_false, Nat.beq_refl, natOf_mk, natOf_zero, natOf_one, obind_some, w_skip, Bool.not_true, Bool.not_false, wantB_undef, newb_fm, ptrP_mk, slcP_mk, cells_agg, hM, hpd, hpg, hgs'.len, c1, c2, decide_true, decide_false, retV_three]
    exact ⟨by rw [hV]; rfl, hbn⟩
  by_cases c3 : (gs.length : Int) < 1
  · have hV : refV disks gs = errF := by
      unfold refV; rw [if_neg (fun h => ?_)]
      obtain ⟨_, _, _, g0, hg0, _⟩ := h
      have := (List.getElem?_eq_some_iff.1 hg0).1; omega
    simp only [Gv_add, w_seq, v_reg, q_cons, q_nil, q_nop, q_op, q_eff, q_opg, q_effg, keep_ok, drop1_ok, out_ok, crRec_mk, onNorm_norm, onNorm_exit, onNorm_ret, addRW_mk, w_cond, onCond_mk, w_block, onBlock_norm, onBlock_ret, onBlock_exit, w_pre, w_post, onPost_norm, onPost_exit, onPost_ret, w_exit, w_ret, onRet_mk, res_nil, res_cons, resO_v, retV_one, fixE_mk, lmap_nil, lmap_cons, ldrop_z, ldrop_s, ev_v, ev_c, lget_z, lget_s, evs_nil, evs_cons, s_mov, s_pick, s_bin, s_una, s_conv, s_fld, s_idx, s_ida, s_build, s_extr, s_nilck, s_len, s_mx, s_ld1, s_ldn, s_st, s_call, s_new, s_box, s_make, s_app, bin_int, i_add, i_sub, i_mul, i_eql, i_neq, i_lss, i_gtr, i_leq, i_geq, pick_mk, wantB_mk, una_not, fld_mk, nilck_mk, valO_some, lor_zero', zero_lor', cond_true, cond_false, Nat.beq_refl, natOf_mk, natOf_zero, natOf_one, obind_some, w_skip, Bool.not_true, Bool.not_false, wantB_undef, newb_fm, ptrP_mk, slcP_mk, cells_agg, hM, hpd, hpg, hgs'.len, c1, c2, c3, decide_true, decide_false, retV_three]
    exact ⟨by rw [hV]; rfl, hbn⟩
  by_cases c4 : 4096 < (gs.length : Int)
  · have hV : refV disks gs = errF := by unfold refV; rw [if_neg (fun h => by have := h.2.2.1; omega)]
    simp only [Gv_add, w_seq, v_reg, q_cons, q_nil, q_nop, q_op, q_eff, q_opg, q_effg, keep_ok, drop1_ok, out_ok, crRec_mk, onNorm_norm, onNorm_exit, onNorm_ret, addRW_mk, w_cond, onCond_mk, w_block, onBlock_norm, onBlock_ret, onBlock_exit, w_pre, w_post, onPost_norm, onPost_exit, onPost_ret, w_exit, w_ret, onRet_mk, res_nil, res_cons, resO_v, retV_one, fixE_mk, lmap_nil, lmap_cons, ldrop_z, ldrop_s, ev_v, ev_c, lget_z, lget_s, evs_nil, evs_cons, s_mov, s_pick, s_bin, s_una, s_conv, s_fld, s_idx, s_ida, s_build, s_extr, s_nilck, s_len, s_mx, s_ld1, s_ldn, s_st, s_call, s_new, s_box, s_make, s_app, bin_int, i_add, i_sub, i_mul, i_eql, i_neq, i_lss, i_gtr, i_leq, i_geq, pick_mk, wantB_mk, una_not, fld_mk, nilck_mk, valO_some, lor_zero', zero_lor', cond_true, cond_false, Nat.beq_refl, natOf_mk, natOf_zero, natOf_one, obind_some, w_skip, Bool.not_true, Bool.not_false, wantB_undef, newb_fm, ptrP_mk, slcP_mk, cells_agg, hM, hpd, hpg, hgs'.len, c1, c2, c3, c4, decide_true, decide_false, retV_three]
    exact ⟨by rw [hV]; rfl, hbn⟩
  have h0 : 0 < gs.length := by omega
  obtain ⟨D, hD⟩ : ∃ D : Nat, disks = (D : Int) := ⟨disks.toNat, by omega⟩
  have hz : (List.replicate 3600 (Value.int .i64 0)) = zeros.map (Value.int .i64) := by rw [zeros, List.map_replicate]
  have hmem : AMem.put M (n + 1) (some (.cells (List.replicate 3600 (Value.int .i64 0)) 0 false true)) = arr M (n + 1) zeros := by rw [hz]; rfl
  have hzl : zeros.length = 3600 := List.length_replicate
  have hAl : (counts zeros gs).length = 3600 := by rw [counts_length, hzl]
  have hL3 := fun x0 x1 x2 x4 x6 x7 x8 x9 x11 => ref_L3 (E := E) (Y := Y) M (n + 2) (n + 1) n (by omega) (by omega) n (by omega) disks (by omega) gv hp gs hgs' hl hrow h0 x0 x1 x2 x4 x6 x7 x8 x9 x11 gs.length 0 (by omega) zeros hzl
  by_cases hg : GroupsR disks gs[0].length gs 0
  · have hf : Formed disks gs := (formed_iffR h0).2 ⟨by omega, by omega, by omega, hg⟩
    obtain ⟨rf, wf, hnm⟩ := named_w (fun l => execW PG E Y ac44L3 l (arr M (n + 1) zeros) (n + 2))
    have hL3b : ∀ x0 x1 x2 x4 x6 x7 x8 x9 x11, execW PG E Y ac44L3 [x0, x1, x2, .int .i64 0, x4, .pointer (some ⟨n + 1, 0, none⟩), x6, x7, x8, x9, .pointer (some ⟨n, 0, none⟩), x11] (arr M (n + 1) zeros) (n + 2) = .ok (.exit 0) [x0, x1, x2, x4, .pointer (some ⟨n + 1, 0, none⟩), x6, x7, x8, x9, .pointer (some ⟨n, 0, none⟩), x11] (arr M (n + 1) (counts zeros gs)) (n + 2) (rf [x0, x1, x2, .int .i64 0, x4, .pointer (some ⟨n + 1, 0, none⟩), x6, x7, x8, x9, .pointer (some ⟨n, 0, none⟩), x11]) (wf [x0, x1, x2, .int .i64 0, x4, .pointer (some ⟨n + 1, 0, none⟩), x6, x7, x8, x9, .pointer (some ⟨n, 0, none⟩), x11]) ∧ Nat.mod (wf [x0, x1, x2, .int .i64 0, x4, .pointer (some ⟨n + 1, 0, none⟩), x6, x7, x8, x9, .pointer (some ⟨n, 0, none⟩), x11]) (bit n) = 0 := fun x0 x1 x2 x4 x6 x7 x8 x9 x11 => by
      obtain ⟨X, e', m', n', r, w, hx, h1, h2, h3⟩ := Gv_some (hL3 x0 x1 x2 x4 x6 x7 x8 x9 x11)
      rcases h3 with ⟨_, h4, h5, h6⟩ | ⟨h4, _⟩
      · obtain ⟨hr, hw⟩ := hnm _ _ _ _ _ _ _ hx
        have hr' : rf [x0, x1, x2, .int .i64 0, x4, .pointer (some ⟨n + 1, 0, none⟩), x6, x7, x8, x9, .pointer (some ⟨n, 0, none⟩), x11] = r := hr
        have hw' : wf [x0, x1, x2, .int .i64 0, x4, .pointer (some ⟨n + 1, 0, none⟩), x6, x7, x8, x9, .pointer (some ⟨n, 0, none⟩), x11] = w := hw
        rw [hr', hw']
        subst h1; subst h4; subst h5; subst h6
        exact ⟨hx, h2⟩
      · exact absurd hg h4
    have hL3e := fun x0 x1 x2 x4 x6 x7 x8 x9 x11 => (hL3b x0 x1 x2 x4 x6 x7 x8 x9 x11).1
    have hL3w := fun x0 x1 x2 x4 x6 x7 x8 x9 x11 => (hL3b x0 x1 x2 x4 x6 x7 x8 x9 x11).2
    obtain ⟨A, hA⟩ : ∃ A, counts zeros gs = A := ⟨_, rfl⟩
    rw [hA] at hAl
    rw [hA] at hL3e
    have hdlA : ld1V (arr M (n + 1) A) (n + 2) (.pointer (some ⟨n, 0 + 0, none⟩)) = .ok (.int .i64 disks) (arr M (n + 1) A) (n + 2) (bit n) 0 := ld1_at (by omega) ((fput_ne M (n + 1) n _ (by omega)).trans hp) rfl
    have hc0 : (A.map (Value.int .i64))[0 + 0 * 60 + 0 * 1]? = some (.int .i64 A[0]!) := by simp [List.getElem?_eq_getElem (show 0 < A.length by omega)]
    have hc1 : (A.map (Value.int .i64))[0 + 0 * 60 + 1 * 1]? = some (.int .i64 A[1]!) := by simp [List.getElem?_eq_getElem (show 1 < A.length by omega)]
    have hl0 : ld1V (arr M (n + 1) A) (n + 2) (.pointer (some ⟨n + 1, 0 + 0 * 60 + 0 * 1, none⟩)) = .ok (.int .i64 A[0]!) (arr M (n + 1) A) (n + 2) (bit (n + 1)) 0 := ld1_at (by omega) (fput_same M (n + 1) _) hc0
    have hl1 : ld1V (arr M (n + 1) A) (n + 2) (.pointer (some ⟨n + 1, 0 + 0 * 60 + 1 * 1, none⟩)) = .ok (.int .i64 A[1]!) (arr M (n + 1) A) (n + 2) (bit (n + 1)) 0 := ld1_at (by omega) (fput_same M (n + 1) _) hc1
    have hda : idaV 60 60 0 (.pointer (some ⟨n + 1, 0, none⟩)) = some (.pointer (some ⟨n + 1, 0 + 0 * 60, none⟩)) := ida_ok (by omega)
    have hd0 : idaV 60 1 0 (.pointer (some ⟨n + 1, 0 + 0 * 60, none⟩)) = some (.pointer (some ⟨n + 1, 0 + 0 * 60 + 0 * 1, none⟩)) := ida_ok (by omega)
    have hd1 : idaV 60 1 1 (.pointer (some ⟨n + 1, 0 + 0 * 60, none⟩)) = some (.pointer (some ⟨n + 1, 0 + 0 * 60 + 1 * 1, none⟩)) := ida_ok (by omega)
    have hq := blt_true (show n + 1 < n + 2 by omega)
    subst hD
    have hL5 := fun x0 x1 x2 x4 x5 x6 x7 x8 x10 x11 x12 x13 x15 => ref_L5 (E := E) (Y := Y) M (n + 2) (n + 1) (by omega) A hAl D (by omega) n (by omega) hdlA x0 x1 x2 x4 x5 x6 x7 x8 x10 x11 x12 x13 x15 D 0 (by omega)
    obtain ⟨rf4, ef4, hnm4⟩ := named_r (fun l => execW PG E Y ac44L5 l (arr M (n + 1) A) (n + 2))
    by_cases hb : Bal A D A[0]! A[1]! 0
    · have hL5e : ∀ x0 x1 x2 x4 x5 x6 x7 x8 x10 x11 x12 x13 x15, execW PG E Y ac44L5 [x0, x1, x2, .int .i64 0, x4, x5, x6, x7, x8, .pointer (some ⟨n + 1, 0, none⟩), x10, x11, x12, x13, .pointer (some ⟨n, 0, none⟩), x15] (arr M (n + 1) A) (n + 2) = .ok (.exit 8) [x0, x1, x2, x4, x5, x6, x7, x8, .pointer (some ⟨n + 1, 0, none⟩), x10, x11, x12, x13, .pointer (some ⟨n, 0, none⟩), x15] (arr M (n + 1) A) (n + 2) (rf4 [x0, x1, x2, .int .i64 0, x4, x5, x6, x7, x8, .pointer (some ⟨n + 1, 0, none⟩), x10, x11, x12, x13, .pointer (some ⟨n, 0, none⟩), x15]) 0 := fun x0 x1 x2 x4 x5 x6 x7 x8 x10 x11 x12 x13 x15 => by
        rw [(hnm4 _).1]
        refine gv_norm ((hL5 x0 x1 x2 x4 x5 x6 x7 x8 x10 x11 x12 x13 x15).mono fun X e' m' n' w hh => ?_)
        obtain ⟨h1, h2, h3, h4⟩ := hh
        rcases h4 with ⟨_, h5, h6⟩ | ⟨h5, _⟩
        · exact ⟨h5, h6, h1, h2, h3⟩
        · exact absurd hb h5
      have hV : refV (D : Int) gs = .tuple #[.int .i64 A[0]!, .int .i64 A[1]!, .bool (decide ((0 : Int) < A[1]!))] := by
        unfold refV; rw [if_pos hf, hA, Int.toNat_natCast, if_pos hb]
      simp (implicitDefEqProofs := false) only [Gv_add, w_seq, v_reg, q_cons, q_nil, q_nop, q_op, q_eff, q_opg, q_effg, keep_ok, drop1_ok, out_ok, crRec_mk, onNorm_norm, onNorm_exit, onNorm_ret, addRW_mk, w_cond, onCond_mk, w_block, onBlock_norm, onBlock_ret, onBlock_exit, w_pre, w_post, onPost_norm, onPost_exit, onPost_ret, w_exit, w_ret, onRet_mk, res_nil, res_cons, resO_v, retV_one, fixE_mk, lmap_nil, lmap_cons, ldrop_z, ldrop_s, ev_v, ev_c, lget_z, lget_s, evs_nil, evs_cons, s_mov, s_pick, s_bin, s_una, s_conv, s_fld, s_idx, s_ida, s_build, s_extr, s_nilck, s_len, s_mx, s_ld1, s_ldn, s_st, s_call, s_new, s_box, s_make, s_app, bin_int, i_add, i_sub, i_mul, i_eql, i_neq, i_lss, i_gtr, i_leq, i_geq, pick_mk, wantB_mk, una_not, fld_mk, nilck_mk, valO_some, lor_zero', zero_lor', cond_true, cond_false, Nat.beq_refl, natOf_mk, natOf_zero, natOf_one, obind_some, w_skip, Bool.not_true, Bool.not_false, wantB_undef, newb_fm, ptrP_mk, slcP_mk, cells_agg, u_regD, isOkC_ok, belowV_undef, belowV_addr, z_nil, z_cons, y_nil, y_cons, y_nop, y_op, y_eff, y_opg, y_effg, keepD_ok, outX_ok, apart_nil, apart_cons, zero_land', land_zero', stepD_ok', below_all, opds, List.all_cons, List.all_nil, belowV_int, belowV_bool, belowV_ptr, belowV_nils, Bool.and_self, Bool.and_true, Bool.true_and, Bool.or_true, Bool.true_or, Bool.false_or, Nat.reduceAdd, Nat.testBit, Nat.reduceShiftRight, Nat.reduceAnd, Nat.reduceBNe, hM, hpd, hpg, hgs'.len, c1, c2, c3, c4, hmem, hL3e, hL5e, hda, hd0, hd1, hl0, hl1, hq, decide_true, decide_false, retV_three]
      exact ⟨by rw [hV], mod_lor' hbn (mod_lor' hbn1 (hL3w ..))⟩
    · have hL5e : ∀ x0 x1 x2 x4 x5 x6 x7 x8 x10 x11 x12 x13 x15, execW PG E Y ac44L5 [x0, x1, x2, .int .i64 0, x4, x5, x6, x7, x8, .pointer (some ⟨n + 1, 0, none⟩), x10, x11, x12, x13, .pointer (some ⟨n, 0, none⟩), x15] (arr M (n + 1) A) (n + 2) = .ok (.ret errF) (ef4 [x0, x1, x2, .int .i64 0, x4, x5, x6, x7, x8, .pointer (some ⟨n + 1, 0, none⟩), x10, x11, x12, x13, .pointer (some ⟨n, 0, none⟩), x15]) (arr M (n + 1) A) (n + 2) (rf4 [x0, x1, x2, .int .i64 0, x4, x5, x6, x7, x8, .pointer (some ⟨n + 1, 0, none⟩), x10, x11, x12, x13, .pointer (some ⟨n, 0, none⟩), x15]) 0 := fun x0 x1 x2 x4 x5 x6 x7 x8 x10 x11 x12 x13 x15 => by
        rw [(hnm4 _).1, (hnm4 _).2]
        refine gv_ret ((hL5 x0 x1 x2 x4 x5 x6 x7 x8 x10 x11 x12 x13 x15).mono fun X e' m' n' w hh => ?_)
        obtain ⟨h1, h2, h3, h4⟩ := hh
        rcases h4 with ⟨h5, _, _⟩ | ⟨_, h5⟩
        · exact absurd h5 hb
        · exact ⟨h5, h1, h2, h3⟩
      have hV : refV (D : Int) gs = errF := by unfold refV; rw [if_pos hf, hA, Int.toNat_natCast, if_neg hb]
      simp (implicitDefEqProofs := false) only [Gv_add, w_seq, v_reg, q_cons, q_nil, q_nop, q_op, q_eff, q_opg, q_effg, keep_ok, drop1_ok, out_ok, crRec_mk, onNorm_norm, onNorm_exit, onNorm_ret, addRW_mk, w_cond, onCond_mk, w_block, onBlock_norm, onBlock_ret, onBlock_exit, w_pre, w_post, onPost_norm, onPost_exit, onPost_ret, w_exit, w_ret, onRet_mk, res_nil, res_cons, resO_v, retV_one, fixE_mk, lmap_nil, lmap_cons, ldrop_z, ldrop_s, ev_v, ev_c, lget_z, lget_s, evs_nil, evs_cons, s_mov, s_pick, s_bin, s_una, s_conv, s_fld, s_idx, s_ida, s_build, s_extr, s_nilck, s_len, s_mx, s_ld1, s_ldn, s_st, s_call, s_new, s_box, s_make, s_app, bin_int, i_add, i_sub, i_mul, i_eql, i_neq, i_lss, i_gtr, i_leq, i_geq, pick_mk, wantB_mk, una_not, fld_mk, nilck_mk, valO_some, lor_zero', zero_lor', cond_true, cond_false, Nat.beq_refl, natOf_mk, natOf_zero, natOf_one, obind_some, w_skip, Bool.not_true, Bool.not_false, wantB_undef, newb_fm, ptrP_mk, slcP_mk, cells_agg, u_regD, isOkC_ok, belowV_undef, belowV_addr, z_nil, z_cons, y_nil, y_cons, y_nop, y_op, y_eff, y_opg, y_effg, keepD_ok, outX_ok, apart_nil, apart_cons, zero_land', land_zero', stepD_ok', below_all, opds, List.all_cons, List.all_nil, belowV_int, belowV_bool, belowV_ptr, belowV_nils, Bool.and_self, Bool.and_true, Bool.true_and, Bool.or_true, Bool.true_or, Bool.false_or, Nat.reduceAdd, Nat.testBit, Nat.reduceShiftRight, Nat.reduceAnd, Nat.reduceBNe, hM, hpd, hpg, hgs'.len, c1, c2, c3, c4, hmem, hL3e, hL5e, hda, hd0, hd1, hl0, hl1, hq, decide_true, decide_false, retV_three]
      exact ⟨by rw [hV], mod_lor' hbn (mod_lor' hbn1 (hL3w ..))⟩
  · have hf : ¬ Formed disks gs := fun h => hg ((formed_iffR h0).1 h).2.2.2
    have hV : refV disks gs = errF := by unfold refV; rw [if_neg hf]
    obtain ⟨ef, mf, rf, wf, hnm⟩ := named_all (fun l => execW PG E Y ac44L3 l (arr M (n + 1) zeros) (n + 2))
    have hL3b : ∀ x0 x1 x2 x4 x6 x7 x8 x9 x11, execW PG E Y ac44L3 [x0, x1, x2, .int .i64 0, x4, .pointer (some ⟨n + 1, 0, none⟩), x6, x7, x8, x9, .pointer (some ⟨n, 0, none⟩), x11] (arr M (n + 1) zeros) (n + 2) = .ok (.ret errF) (ef [x0, x1, x2, .int .i64 0, x4, .pointer (some ⟨n + 1, 0, none⟩), x6, x7, x8, x9, .pointer (some ⟨n, 0, none⟩), x11]) (mf [x0, x1, x2, .int .i64 0, x4, .pointer (some ⟨n + 1, 0, none⟩), x6, x7, x8, x9, .pointer (some ⟨n, 0, none⟩), x11]) (n + 2) (rf [x0, x1, x2, .int .i64 0, x4, .pointer (some ⟨n + 1, 0, none⟩), x6, x7, x8, x9, .pointer (some ⟨n, 0, none⟩), x11]) (wf [x0, x1, x2, .int .i64 0, x4, .pointer (some ⟨n + 1, 0, none⟩), x6, x7, x8, x9, .pointer (some ⟨n, 0, none⟩), x11]) ∧ Nat.mod (wf [x0, x1, x2, .int .i64 0, x4, .pointer (some ⟨n + 1, 0, none⟩), x6, x7, x8, x9, .pointer (some ⟨n, 0, none⟩), x11]) (bit n) = 0 := fun x0 x1 x2 x4 x6 x7 x8 x9 x11 => by
      obtain ⟨X, e', m', n', r, w, hx, h1, h2, h3⟩ := Gv_some (hL3 x0 x1 x2 x4 x6 x7 x8 x9 x11)
      rcases h3 with ⟨h4, _⟩ | ⟨_, h4⟩
      · exact absurd h4 hg
      · obtain ⟨he, hm, hr, hw⟩ := hnm _ _ _ _ _ _ _ hx
        have he' : ef [x0, x1, x2, .int .i64 0, x4, .pointer (some ⟨n + 1, 0, none⟩), x6, x7, x8, x9, .pointer (some ⟨n, 0, none⟩), x11] = e' := he
        have hm' : mf [x0, x1, x2, .int .i64 0, x4, .pointer (some ⟨n + 1, 0, none⟩), x6, x7, x8, x9, .pointer (some ⟨n, 0, none⟩), x11] = m' := hm
        have hr' : rf [x0, x1, x2, .int .i64 0, x4, .pointer (some ⟨n + 1, 0, none⟩), x6, x7, x8, x9, .pointer (some ⟨n, 0, none⟩), x11] = r := hr
        have hw' : wf [x0, x1, x2, .int .i64 0, x4, .pointer (some ⟨n + 1, 0, none⟩), x6, x7, x8, x9, .pointer (some ⟨n, 0, none⟩), x11] = w := hw
        rw [he', hm', hr', hw']
        subst h1; subst h4
        exact ⟨hx, h2⟩
    have hL3e := fun x0 x1 x2 x4 x6 x7 x8 x9 x11 => (hL3b x0 x1 x2 x4 x6 x7 x8 x9 x11).1
    have hL3w := fun x0 x1 x2 x4 x6 x7 x8 x9 x11 => (hL3b x0 x1 x2 x4 x6 x7 x8 x9 x11).2
    simp (implicitDefEqProofs := false) only [Gv_add, w_seq, v_reg, q_cons, q_nil, q_nop, q_op, q_eff, q_opg, q_effg, keep_ok, drop1_ok, out_ok, crRec_mk, onNorm_norm, onNorm_exit, onNorm_ret, addRW_mk, w_cond, onCond_mk, w_block, onBlock_norm, onBlock_ret, onBlock_exit, w_pre, w_post, onPost_norm, onPost_exit, onPost_ret, w_exit, w_ret, onRet_mk, res_nil, res_cons, resO_v, retV_one, fixE_mk, lmap_nil, lmap_cons, ldrop_z, ldrop_s, ev_v, ev_c, lget_z, lget_s, evs_nil, evs_cons, s_mov, s_pick, s_bin, s_una, s_conv, s_fld, s_idx, s_ida, s_build, s_extr, s_nilck, s_len, s_mx, s_ld1, s_ldn, s_st, s_call, s_new, s_box, s_make, s_app, bin_int, i_add, i_sub, i_mul, i_eql, i_neq, i_lss, i_gtr, i_leq, i_geq, pick_mk, wantB_mk, una_not, fld_mk, nilck_mk, valO_some, lor_zero', zero_lor', cond_true, cond_false, Nat.beq_refl, natOf_mk, natOf_zero, natOf_one, obind_some, w_skip, Bool.not_true, Bool.not_false, wantB_undef, newb_fm, ptrP_mk, slcP_mk, cells_agg, u_regD, isOkC_ok, belowV_undef, belowV_addr, z_nil, z_cons, y_nil, y_cons, y_nop, y_op, y_eff, y_opg, y_effg, keepD_ok, outX_ok, apart_nil, apart_cons, zero_land', land_zero', stepD_ok', below_all, opds, List.all_cons, List.all_nil, belowV_int, belowV_bool, belowV_ptr, belowV_nils, Bool.and_self, Bool.and_true, Bool.true_and, Bool.or_true, Bool.true_or, Bool.false_or, Nat.reduceAdd, Nat.testBit, Nat.reduceShiftRight, Nat.reduceAnd, Nat.reduceBNe, hM, hpd, hpg, hgs'.len, c1, c2, c3, c4, hmem, hL3e, decide_true, decide_false, retV_three]
    exact ⟨by rw [hV], mod_lor' hbn (mod_lor' hbn1 (hL3w ..))⟩
end Go.Am.C21
namespace Go.Am.C21
open Go Go.Am
variable {E : Nat → Option AFn} {Y : Nat → List Value → FM → Nat → OR FM}
/-- every group from a place on has at most 20 disks -/
def FewFrom (gs : List (List Int)) (j : Nat) : Prop := ∀ i g, j ≤ i → gs[i]? = some g → g.length ≤ 20
theorem fewFrom_end {gs : List (List Int)} {j : Nat} (h : gs.length ≤ j) : FewFrom gs j := fun i g h1 h2 => by
  have := (List.getElem?_eq_some_iff.1 h2).1; omega
theorem fewFrom_step {gs : List (List Int)} {j : Nat} (h : j < gs.length) : FewFrom gs j ↔ gs[j].length ≤ 20 ∧ FewFrom gs (j + 1) :=
  ⟨fun hr => ⟨hr j _ (Nat.le_refl _) (List.getElem?_eq_getElem h), fun i g h1 h2 => hr i g (by omega) h2⟩, fun ⟨h1, h2⟩ i g h3 h4 => by
    rcases Nat.eq_or_lt_of_le h3 with rfl | h5
    · rw [List.getElem?_eq_getElem h] at h4; injection h4 with h4; subst h4; exact h1
    · exact h2 i g h5 h4⟩
theorem few_L0 (M : FM) (N p : Nat) (gv : Value) (hgv : ld1V M N (.pointer (some ⟨p, 0 + 0 + 1, none⟩)) = .ok gv M N (bit p) 0) (gs : List (List Int)) (hgs : Rows M N gv gs) (hl : gs.length ≤ 60) (x0 x2 x3 x4 x6 : Value) : ∀ d j, j + d = gs.length →
    Gv (execW PG E Y ac27L0 [x0, .int .i64 (j : Int), x2, x3, x4, .pointer (some ⟨p, 0, none⟩), x6] M N) fun X e' m' n' w => m' = M ∧ n' = N ∧ w = 0 ∧
      ((FewFrom gs j ∧ X = .exit 0 ∧ e' = [x0, x2, x3, x4, .pointer (some ⟨p, 0, none⟩), x6]) ∨ (¬ FewFrom gs j ∧ X = .ret (.bool false))) := by
  intro d
  induction d with
  | zero =>
    intro j hj
    have hjl : (j : Int) = (gs.length : Int) := by omega
    have hlt : ¬ ((gs.length : Int) < (gs.length : Int)) := by omega
    rw [ac27L0_w, hjl]
    simp only [ac27L0b, Gv_add, w_seq, v_reg, q_cons, q_nil, q_nop, q_op, q_eff, q_opg, q_effg, keep_ok, drop1_ok, out_ok, crRec_mk, onNorm_norm, onNorm_exit, onNorm_ret, addRW_mk, w_cond, onCond_mk, w_block, onBlock_norm, onBlock_ret, onBlock_exit, w_pre, w_post, onPost_norm, onPost_exit, onPost_ret, w_exit, w_ret, onRet_mk, res_nil, res_cons, resO_v, retV_one, fixE_mk, lmap_nil, lmap_cons, ldrop_z, ldrop_s, ev_v, ev_c, lget_z, lget_s, evs_nil, evs_cons, s_mov, s_pick, s_bin, s_una, s_conv, s_fld, s_idx, s_ida, s_build, s_extr, s_nilck, s_len, s_mx, s_ld1, s_ldn, s_st, s_call, s_new, s_box, s_make, s_app, bin_int, i_add, i_sub, i_mul, i_eql, i_neq, i_lss, i_gtr, i_leq, i_geq, pick_mk, wantB_mk, una_not, fld_mk, nilck_mk, valO_some, lor_zero', zero_lor', cond_true, cond_false, Nat.beq_refl, natOf_mk, natOf_zero, natOf_one, obind_some, w_skip, Bool.not_true, Bool.not_false, wantB_undef, newb_fm, ptrP_mk, slcP_mk, cells_agg, hgv, hgs.len, hlt, decide_false]
    exact ⟨rfl, rfl, rfl, .inl ⟨fewFrom_end (by omega), rfl, rfl⟩⟩
  | succ d ih =>
    intro j hj
    have hlt : (j : Int) < (gs.length : Int) := by omega
    have hjl : j < gs.length := by omega
    obtain ⟨a, b, gval, hix, hld, hb, hg⟩ := hgs.at hjl
    have hw : IntKind.i64.wrap ((j : Int) + 1) = ((j + 1 : Nat) : Int) := by rw [wrap_small (by omega) (by omega)]; omega
    have hstep := fewFrom_step hjl
    rw [ac27L0_w]
    by_cases h1 : (20 : Int) < (gs[j].length : Int)
    · simp only [ac27L0b, Gv_add, w_seq, v_reg, q_cons, q_nil, q_nop, q_op, q_eff, q_opg, q_effg, keep_ok, drop1_ok, out_ok, crRec_mk, onNorm_norm, onNorm_exit, onNorm_ret, addRW_mk, w_cond, onCond_mk, w_block, onBlock_norm, onBlock_ret, onBlock_exit, w_pre, w_post, onPost_norm, onPost_exit, onPost_ret, w_exit, w_ret, onRet_mk, res_nil, res_cons, resO_v, retV_one, fixE_mk, lmap_nil, lmap_cons, ldrop_z, ldrop_s, ev_v, ev_c, lget_z, lget_s, evs_nil, evs_cons, s_mov, s_pick, s_bin, s_una, s_conv, s_fld, s_idx, s_ida, s_build, s_extr, s_nilck, s_len, s_mx, s_ld1, s_ldn, s_st, s_call, s_new, s_box, s_make, s_app, bin_int, i_add, i_sub, i_mul, i_eql, i_neq, i_lss, i_gtr, i_leq, i_geq, pick_mk, wantB_mk, una_not, fld_mk, nilck_mk, valO_some, lor_zero', zero_lor', cond_true, cond_false, Nat.beq_refl, natOf_mk, natOf_zero, natOf_one, obind_some, w_skip, Bool.not_true, Bool.not_false, wantB_undef, newb_fm, ptrP_mk, slcP_mk, cells_agg, hgv, hgs.len, hlt, decide_true, hix, hld, hg.len, h1]
      exact ⟨rfl, rfl, rfl, .inr ⟨fun h => by have := (hstep.1 h).1; omega, rfl⟩⟩
    · simp only [ac27L0b, Gv_add, w_seq, v_reg, q_cons, q_nil, q_nop, q_op, q_eff, q_opg, q_effg, keep_ok, drop1_ok, out_ok, crRec_mk, onNorm_norm, onNorm_exit, onNorm_ret, addRW_mk, w_cond, onCond_mk, w_block, onBlock_norm, onBlock_ret, onBlock_exit, w_pre, w_post, onPost_norm, onPost_exit, onPost_ret, w_exit, w_ret, onRet_mk, res_nil, res_cons, resO_v, retV_one, fixE_mk, lmap_nil, lmap_cons, ldrop_z, ldrop_s, ev_v, ev_c, lget_z, lget_s, evs_nil, evs_cons, s_mov, s_pick, s_bin, s_una, s_conv, s_fld, s_idx, s_ida, s_build, s_extr, s_nilck, s_len, s_mx, s_ld1, s_ldn, s_st, s_call, s_new, s_box, s_make, s_app, bin_int, i_add, i_sub, i_mul, i_eql, i_neq, i_lss, i_gtr, i_leq, i_geq, pick_mk, wantB_mk, una_not, fld_mk, nilck_mk, valO_some, lor_zero', zero_lor', cond_true, cond_false, Nat.beq_refl, natOf_mk, natOf_zero, natOf_one, obind_some, w_skip, Bool.not_true, Bool.not_false, wantB_undef, newb_fm, ptrP_mk, slcP_mk, cells_agg, hgv, hgs.len, hlt, decide_true, decide_false, hix, hld, hg.len, h1, hw]
      refine Gv.mono (ih (j + 1) (by omega)) fun X e' m' n' w h => ?_
      have hiff : FewFrom gs j ↔ FewFrom gs (j + 1) := by rw [hstep]; exact ⟨fun h => h.2, fun h => ⟨by omega, h⟩⟩
      rw [hiff]
      simpa only [zero_lor'] using h
/-- what 'few' says -/
def Few (gs : List (List Int)) : Prop := gs.length ≤ 60 ∧ FewFrom gs 0
open Classical in
theorem few_spec (hE : E 27 = some ac27) (m : FM) (n : Nat) (disks tiles spare : Int) (gv : Value) (gs : List (List Int)) (hgs : Rows m n gv gs) :
    Pure (callW PG E Y 27 [.agg #[.int .i64 disks, gv, .int .i64 tiles, .int .i64 spare]] m n) m n (.bool (decide (Few gs))) := by
  rw [callW_fn hE rfl]
  refine pure_of rfl ?_
  have hfr : ∀ b, b < n → (AMem.put m n (some (.cells [.int .i64 disks, gv, .int .i64 tiles, .int .i64 spare] 0 false true)) : FM) b = m b := fun b hb => fput_ne m n b _ (by omega)
  have hgs' := hgs.frame (n' := n + 1) (by omega) hfr
  have hp : (AMem.put m n (some (.cells [.int .i64 disks, gv, .int .i64 tiles, .int .i64 spare] 0 false true)) : FM) n = some (.cells [.int .i64 disks, gv, .int .i64 tiles, .int .i64 spare] 0 false true) := fput_same m n _
  obtain ⟨M, hM⟩ : ∃ M : FM, AMem.put m n (some (.cells [.int .i64 disks, gv, .int .i64 tiles, .int .i64 spare] 0 false true)) = M := ⟨_, rfl⟩
  rw [hM] at hgs' hp
  have hbn : Nat.mod (bit n) (bit n) = 0 := mod_bit_ge (Nat.le_refl n)
  have hgv : ld1V M (n + 1) (.pointer (some ⟨n, 0 + 0 + 1, none⟩)) = .ok gv M (n + 1) (bit n) 0 := ld1_at (by omega) hp rfl
  rw [ac27]
  by_cases c1 : (60 : Int) < (gs.length : Int)
  · have hF : ¬ Few gs := fun h => by have := h.1; omega
    simp only [Gv_add, w_seq, v_reg, q_cons, q_nil, q_nop, q_op, q_eff, q_opg, q_effg, keep_ok, drop1_ok, out_ok, crRec_mk, onNorm_norm, onNorm_exit, onNorm_ret, addRW_mk, w_cond, onCond_mk, w_block, onBlock_norm, onBlock_ret, onBlock_exit, w_pre, w_post, onPost_norm, onPost_exit, onPost_ret, w_exit, w_ret, onRet_mk, res_nil, res_cons, resO_v, retV_one, fixE_mk, lmap_nil, lmap_cons, ldrop_z, ldrop_s, ev_v, ev_c, lget_z, lget_s, evs_nil, evs_cons, s_mov, s_pick, s_bin, s_una, s_conv, s_fld, s_idx, s_ida, s_build, s_extr, s_nilck, s_len, s_mx, s_ld1, s_ldn, s_st, s_call, s_new, s_box, s_make, s_app, bin_int, i_add, i_sub, i_mul, i_eql, i_neq, i_lss, i_gtr, i_leq, i_geq, pick_mk, wantB_mk, una_not, fld_mk, nilck_mk, valO_some, lor_zero', zero_lor', cond_true, cond_false, Nat.beq_refl, natOf_mk, natOf_zero, natOf_one, obind_some, w_skip, Bool.not_true, Bool.not_false, wantB_undef, newb_fm, ptrP_mk, slcP_mk, cells_agg, hM, hgv, hgs'.len, c1, decide_true]
    exact ⟨by rw [decide_eq_false hF], hbn⟩
  · have hL := fun x0 x2 x3 x4 x6 => few_L0 (E := E) (Y := Y) M (n + 1) n gv hgv gs hgs' (by omega) x0 x2 x3 x4 x6 gs.length 0 (by omega)
    obtain ⟨rf, ef, hnm⟩ := named_r (fun l => execW PG E Y ac27L0 l M (n + 1))
    by_cases hf : FewFrom gs 0
    · have hF : Few gs := ⟨by omega, hf⟩
      have hLe : ∀ x0 x2 x3 x4 x6, execW PG E Y ac27L0 [x0, .int .i64 0, x2, x3, x4, .pointer (some ⟨n, 0, none⟩), x6] M (n + 1) = .ok (.exit 0) [x0, x2, x3, x4, .pointer (some ⟨n, 0, none⟩), x6] M (n + 1) (rf [x0, .int .i64 0, x2, x3, x4, .pointer (some ⟨n, 0, none⟩), x6]) 0 := fun x0 x2 x3 x4 x6 => by
        rw [(hnm _).1]
        refine gv_norm ((hL x0 x2 x3 x4 x6).mono fun X e' m' n' w hh => ?_)
        obtain ⟨h1, h2, h3, h4⟩ := hh
        rcases h4 with ⟨_, h5, h6⟩ | ⟨h5, _⟩
        · exact ⟨h5, h6, h1, h2, h3⟩
        · exact absurd hf h5
      simp only [Gv_add, w_seq, v_reg, q_cons, q_nil, q_nop, q_op, q_eff, q_opg, q_effg, keep_ok, drop1_ok, out_ok, crRec_mk, onNorm_norm, onNorm_exit, onNorm_ret, addRW_mk, w_cond, onCond_mk, w_block, onBlock_norm, onBlock_ret, onBlock_exit, w_pre, w_post, onPost_norm, onPost_exit, onPost_ret, w_exit, w_ret, onRet_mk, res_nil, res_cons, resO_v, retV_one, fixE_mk, lmap_nil, lmap_cons, ldrop_z, ldrop_s, ev_v, ev_c, lget_z, lget_s, evs_nil, evs_cons, s_mov, s_pick, s_bin, s_una, s_conv, s_fld, s_idx, s_ida, s_build, s_extr, s_nilck, s_len, s_mx, s_ld1, s_ldn, s_st, s_call, s_new, s_box, s_make, s_app, bin_int, i_add, i_sub, i_mul, i_eql, i_neq, i_lss, i_gtr, i_leq, i_geq, pick_mk, wantB_mk, una_not, fld_mk, nilck_mk, valO_some, lor_zero', zero_lor', cond_true, cond_false, Nat.beq_refl, natOf_mk, natOf_zero, natOf_one, obind_some, w_skip, Bool.not_true, Bool.not_false, wantB_undef, newb_fm, ptrP_mk, slcP_mk, cells_agg, hM, hgv, hgs'.len, c1, decide_false, hLe]
      exact ⟨by rw [decide_eq_true hF], hbn⟩
    · have hF : ¬ Few gs := fun h => hf h.2
      have hLe : ∀ x0 x2 x3 x4 x6, execW PG E Y ac27L0 [x0, .int .i64 0, x2, x3, x4, .pointer (some ⟨n, 0, none⟩), x6] M (n + 1) = .ok (.ret (.bool false)) (ef [x0, .int .i64 0, x2, x3, x4, .pointer (some ⟨n, 0, none⟩), x6]) M (n + 1) (rf [x0, .int .i64 0, x2, x3, x4, .pointer (some ⟨n, 0, none⟩), x6]) 0 := fun x0 x2 x3 x4 x6 => by
        rw [(hnm _).1, (hnm _).2]
        refine gv_ret ((hL x0 x2 x3 x4 x6).mono fun X e' m' n' w hh => ?_)
        obtain ⟨h1, h2, h3, h4⟩ := hh
        rcases h4 with ⟨h5, _, _⟩ | ⟨_, h5⟩
        · exact absurd h5 hf
        · exact ⟨h5, h1, h2, h3⟩
      simp only [Gv_add, w_seq, v_reg, q_cons, q_nil, q_nop, q_op, q_eff, q_opg, q_effg, keep_ok, drop1_ok, out_ok, crRec_mk, onNorm_norm, onNorm_exit, onNorm_ret, addRW_mk, w_cond, onCond_mk, w_block, onBlock_norm, onBlock_ret, onBlock_exit, w_pre, w_post, onPost_norm, onPost_exit, onPost_ret, w_exit, w_ret, onRet_mk, res_nil, res_cons, resO_v, retV_one, fixE_mk, lmap_nil, lmap_cons, ldrop_z, ldrop_s, ev_v, ev_c, lget_z, lget_s, evs_nil, evs_cons, s_mov, s_pick, s_bin, s_una, s_conv, s_fld, s_idx, s_ida, s_build, s_extr, s_nilck, s_len, s_mx, s_ld1, s_ldn, s_st, s_call, s_new, s_box, s_make, s_app, bin_int, i_add, i_sub, i_mul, i_eql, i_neq, i_lss, i_gtr, i_leq, i_geq, pick_mk, wantB_mk, una_not, fld_mk, nilck_mk, valO_some, lor_zero', zero_lor', cond_true, cond_false, Nat.beq_refl, natOf_mk, natOf_zero, natOf_one, obind_some, w_skip, Bool.not_true, Bool.not_false, wantB_undef, newb_fm, ptrP_mk, slcP_mk, cells_agg, hM, hgv, hgs'.len, c1, decide_false, hLe]
      exact ⟨by rw [decide_eq_false hF], hbn⟩
end Go.Am.C21
namespace Go.Am.C21
open Go Go.Am
variable {E : Nat → Option AFn} {Y : Nat → List Value → FM → Nat → OR FM}
/-- the design is balanced -/
def GoodR (disks : Int) (gs : List (List Int)) : Prop :=
  Formed disks gs ∧ Bal (counts zeros gs) disks.toNat (counts zeros gs)[0]! (counts zeros gs)[1]! 0 ∧ (0 : Int) < (counts zeros gs)[1]!
theorem refV_good {disks : Int} {gs : List (List Int)} (h : GoodR disks gs) : refV disks gs = .tuple #[.int .i64 (counts zeros gs)[0]!, .int .i64 (counts zeros gs)[1]!, .bool true] := by
  unfold refV; rw [if_pos h.1, if_pos h.2.1, decide_eq_true h.2.2]
theorem refV_bad {disks : Int} {gs : List (List Int)} (h : ¬ GoodR disks gs) : ∃ r l, refV disks gs = .tuple #[.int .i64 r, .int .i64 l, .bool false] := by
  unfold refV
  by_cases h1 : Formed disks gs
  · rw [if_pos h1]
    by_cases h2 : Bal (counts zeros gs) disks.toNat (counts zeros gs)[0]! (counts zeros gs)[1]! 0
    · rw [if_pos h2]
      exact ⟨_, _, by rw [decide_eq_false (fun h3 => h ⟨h1, h2, h3⟩)]⟩
    · rw [if_neg h2]; exact ⟨0, 0, rfl⟩
  · rw [if_neg h1]; exact ⟨0, 0, rfl⟩
theorem checkV_good {disks : Int} {gs : List (List Int)} (h : GoodR disks gs) : checkV disks gs = .tuple #[.int .i64 (counts zeros gs)[0]!, .int .i64 (counts zeros gs)[1]!, .int .i64 0] := by
  unfold checkV; rw [if_pos h.1, if_pos ⟨h.2.1, by have := h.2.2; omega⟩]
theorem checkV_bad {disks : Int} {gs : List (List Int)} (h : ¬ GoodR disks gs) : checkV disks gs = errT := by
  unfold checkV
  by_cases h1 : Formed disks gs
  · rw [if_pos h1, if_neg (fun h2 => h ⟨h1, h2.1, by have := h2.2; omega⟩)]
  · rw [if_neg h1]
def width (gs : List (List Int)) : Int := ((gs[0]?.getD []).length : Int)
/-- the layout is valid -/
def VR (disks : Int) (gs : List (List Int)) (tiles spare : Int) : Prop :=
  GoodR disks gs ∧ 1 ≤ tiles ∧ tiles ≤ 256 ∧ 0 ≤ spare ∧ spare ≤ 65536 ∧ 4 ≤ width gs ∧ width gs ≤ 16 ∧ IntKind.i64.wrap (tiles * (gs.length : Int)) ≤ (4096 : Int) ∧
    IntKind.i64.wrap (IntKind.i64.wrap (tiles * (gs.length : Int)) * IntKind.i64.wrap (width gs - (3 : Int))) ≤ (65536 : Int) ∧ IntKind.i64.wrap (IntKind.i64.wrap (tiles * (counts zeros gs)[0]!) + spare) ≤ 65536
open Classical in
theorem refValid_spec (hE : E 29 = some ac29) (hE2 : E 44 = some ac44) (m : FM) (n : Nat) (disks tiles spare : Int) (gv : Value) (gs : List (List Int)) (hgs : Rows m n gv gs) (hl : gs.length < 4611686018427387904) (hrow : ∀ g ∈ gs, g.length < 4611686018427387904) :
    Pure (callW PG E Y 29 [.agg #[.int .i64 disks, gv, .int .i64 tiles, .int .i64 spare]] m n) m n (.bool (decide (VR disks gs tiles spare))) := by
  rw [callW_fn hE rfl]
  refine pure_of rfl ?_
  have hfr : ∀ b, b < n → (AMem.put m n (some (.cells [.int .i64 disks, gv, .int .i64 tiles, .int .i64 spare] 0 false true)) : FM) b = m b := fun b hb => fput_ne m n b _ (by omega)
  have hgs' := hgs.frame (n' := n + 1) (by omega) hfr
  have hp : (AMem.put m n (some (.cells [.int .i64 disks, gv, .int .i64 tiles, .int .i64 spare] 0 false true)) : FM) n = some (.cells [.int .i64 disks, gv, .int .i64 tiles, .int .i64 spare] 0 false true) := fput_same m n _
  obtain ⟨M, hM⟩ : ∃ M : FM, AMem.put m n (some (.cells [.int .i64 disks, gv, .int .i64 tiles, .int .i64 spare] 0 false true)) = M := ⟨_, rfl⟩
  rw [hM] at hgs' hp
  have hbn : Nat.mod (bit n) (bit n) = 0 := mod_bit_ge (Nat.le_refl n)
  have hdn : ldnV 2 M (n + 1) (.pointer (some ⟨n, 0 + 0, none⟩)) = .ok (.agg #[.int .i64 disks, gv]) M (n + 1) (bit n) 0 := ldn_at (by omega) hp rfl
  have hgv : ld1V M (n + 1) (.pointer (some ⟨n, 0 + 0 + 1, none⟩)) = .ok gv M (n + 1) (bit n) 0 := ld1_at (by omega) hp rfl
  have htl : ld1V M (n + 1) (.pointer (some ⟨n, 0 + 2, none⟩)) = .ok (.int .i64 tiles) M (n + 1) (bit n) 0 := ld1_at (by omega) hp rfl
  have hsp : ld1V M (n + 1) (.pointer (some ⟨n, 0 + 3, none⟩)) = .ok (.int .i64 spare) M (n + 1) (bit n) 0 := ld1_at (by omega) hp rfl
  obtain ⟨r44, h44⟩ := ref_spec (E := E) (Y := Y) hE2 M (n + 1) disks gv gs hgs' hl hrow
  have x0 : ∀ a b c : Value, extrV 0 (.tuple #[a, b, c]) = some a := fun _ _ _ => rfl
  have x1 : ∀ a b c : Value, extrV 1 (.tuple #[a, b, c]) = some b := fun _ _ _ => rfl
  have x2 : ∀ a b c : Value, extrV 2 (.tuple #[a, b, c]) = some c := fun _ _ _ => rfl
  rw [ac29]
  by_cases hg : GoodR disks gs
  · rw [refV_good hg] at h44
    obtain ⟨r, hr⟩ : ∃ r, (counts zeros gs)[0]! = r := ⟨_, rfl⟩
    have h0 : 0 < gs.length := by
      obtain ⟨⟨_, _, _, g0, hg0, _⟩, _⟩ := hg
      exact (List.getElem?_eq_some_iff.1 hg0).1
    obtain ⟨a0, b0, g0v, hix0, hld0, _, hg0⟩ := hgs'.at h0
    replace hix0 : idxV 1 0 gv = some (.pointer (some a0)) := hix0
    have hwd : width gs = (gs[0].length : Int) := by unfold width; rw [List.getElem?_eq_getElem h0]; rfl
    rw [hr] at h44
    by_cases c1 : tiles < 1
    · have hV : ¬ VR disks gs tiles spare := fun h => by have := h.2.1; omega
      simp only [Gv_add, w_seq, v_reg, q_cons, q_nil, q_nop, q_op, q_eff, q_opg, q_effg, keep_ok, drop1_ok, out_ok, crRec_mk, onNorm_norm, onNorm_exit, onNorm_ret, addRW_mk, w_cond, onCond_mk, w_block, onBlock_norm, onBlock_ret, onBlock_exit, w_pre, w_post, onPost_norm, onPost_exit, onPost_ret, w_exit, w_ret, onRet_mk, res_nil, res_cons, resO_v, retV_one, fixE_mk, lmap_nil, lmap_cons, ldrop_z, ldrop_s, ev_v, ev_c, lget_z, lget_s, evs_nil, evs_cons, s_mov, s_pick, s_bin, s_una, s_conv, s_fld, s_idx, s_ida, s_build, s_extr, s_nilck, s_len, s_mx, s_ld1, s_ldn, s_st, s_call, s_new, s_box, s_make, s_app, bin_int, i_add, i_sub, i_mul, i_eql, i_neq, i_lss, i_gtr, i_leq, i_geq, pick_mk, wantB_mk, una_not, fld_mk, nilck_mk, valO_some, lor_zero', zero_lor', cond_true, cond_false, Nat.beq_refl, natOf_mk, natOf_zero, natOf_one, obind_some, w_skip, Bool.not_true, Bool.not_false, wantB_undef, newb_fm, ptrP_mk, slcP_mk, cells_agg, hM, hdn, h44, x0, x1, x2, htl, hsp, c1, decide_true]
      exact ⟨by rw [decide_eq_false hV], hbn⟩
    by_cases c2 : 256 < tiles
    · have hV : ¬ VR disks gs tiles spare := fun h => by have := h.2.2.1; omega
      simp only [Gv_add, w_seq, v_reg, q_cons, q_nil, q_nop, q_op, q_eff, q_opg, q_effg, keep_ok, drop1_ok, out_ok, crRec_mk, onNorm_norm, onNorm_exit, onNorm_ret, addRW_mk, w_cond, onCond_mk, w_block, onBlock_norm, onBlock_ret, onBlock_exit, w_pre, w_post, onPost_norm, onPost_exit, onPost_ret, w_exit, w_ret, onRet_mk, res_nil, res_cons, resO_v, retV_one, fixE_mk, lmap_nil, lmap_cons, ldrop_z, ldrop_s, ev_v, ev_c, lget_z, lget_s, evs_nil, evs_cons, s_mov, s_pick, s_bin, s_una, s_conv, s_fld, s_idx, s_ida, s_build, s_extr, s_nilck, s_len, s_mx, s_ld1, s_ldn, s_st, s_call, s_new, s_box, s_make, s_app, bin_int, i_add, i_sub, i_mul, i_eql, i_neq, i_lss, i_gtr, i_leq, i_geq, pick_mk, wantB_mk, una_not, fld_mk, nilck_mk, valO_some, lor_zero', zero_lor', cond_true, cond_false, Nat.beq_refl, natOf_mk, natOf_zero, natOf_one, obind_some, w_skip, Bool.not_true, Bool.not_false, wantB_undef, newb_fm, ptrP_mk, slcP_mk, cells_agg, hM, hdn, h44, x0, x1, x2, htl, hsp, c1, c2, decide_true, decide_false]
      exact ⟨by rw [decide_eq_false hV], hbn⟩
    by_cases c3 : spare < 0
    · have hV : ¬ VR disks gs tiles spare := fun h => by have := h.2.2.2.1; omega
      simp only [Gv_add, w_seq, v_reg, q_cons, q_nil, q_nop, q_op, q_eff, q_opg, q_effg, keep_ok, drop1_ok, out_ok, crRec_mk, onNorm_norm, onNorm_exit, onNorm_ret, addRW_mk, w_cond, onCond_mk, w_block, onBlock_norm, onBlock_ret, onBlock_exit, w_pre, w_post, onPost_norm, onPost_exit, onPost_ret, w_exit, w_ret, onRet_mk, res_nil, res_cons, resO_v, retV_one, fixE_mk, lmap_nil, lmap_cons, ldrop_z, ldrop_s, ev_v, ev_c, lget_z, lget_s, evs_nil, evs_cons, s_mov, s_pick, s_bin, s_una, s_conv, s_fld, s_idx, s_ida, s_build, s_extr, s_nilck, s_len, s_mx, s_ld1, s_ldn, s_st, s_call, s_new, s_box, s_make, s_app, bin_int, i_add, i_sub, i_mul, i_eql, i_neq, i_lss, i_gtr, i_leq, i_geq, pick_mk, wantB_mk, una_not, fld_mk, nilck_mk, valO_some, lor_zero', zero_lor', cond_true, cond_false, Nat.beq_refl, natOf_mk, natOf_zero, natOf_one, obind_some, w_skip, Bool.not_true, Bool.not_false, wantB_undef, newb_fm, ptrP_mk, slcP_mk, cells_agg, hM, hdn, h44, x0, x1, x2, htl, hsp, c1, c2, c3, decide_true, decide_false]
      exact ⟨by rw [decide_eq_false hV], hbn⟩
    by_cases c4 : 65536 < spare
    · have hV : ¬ VR disks gs tiles spare := fun h => by have := h.2.2.2.2.1; omega
      simp only [Gv_add, w_seq, v_reg, q_cons, q_nil, q_nop, q_op, q_eff, q_opg, q_effg, keep_ok, drop1_ok, out_ok, crRec_mk, onNorm_norm, onNorm_exit, onNorm_ret, addRW_mk, w_cond, onCond_mk, w_block, onBlock_norm, onBlock_ret, onBlock_exit, w_pre, w_post, onPost_norm, onPost_exit, onPost_ret, w_exit, w_ret, onRet_mk, res_nil, res_cons, resO_v, retV_one, fixE_mk, lmap_nil, lmap_cons, ldrop_z, ldrop_s, ev_v, ev_c, lget_z, lget_s, evs_nil, evs_cons, s_mov, s_pick, s_bin, s_una, s_conv, s_fld, s_idx, s_ida, s_build, s_extr, s_nilck, s_len, s_mx, s_ld1, s_ldn, s_st, s_call, s_new, s_box, s_make, s_app, bin_int, i_add, i_sub, i_mul, i_eql, i_neq, i_lss, i_gtr, i_leq, i_geq, pick_mk, wantB_mk, una_not, fld_mk, nilck_mk, valO_some, lor_zero', zero_lor', cond_true, cond_false, Nat.beq_refl, natOf_mk, natOf_zero, natOf_one, obind_some, w_skip, Bool.not_true, Bool.not_false, wantB_undef, newb_fm, ptrP_mk, slcP_mk, cells_agg, hM, hdn, h44, x0, x1, x2, htl, hsp, c1, c2, c3, c4, decide_true, decide_false]
      exact ⟨by rw [decide_eq_false hV], hbn⟩
    by_cases c5 : (4 : Int) ≤ (gs[0].length : Int)
    · by_cases c6 : (gs[0].length : Int) ≤ (16 : Int)
      · by_cases c7 : IntKind.i64.wrap (tiles * (gs.length : Int)) ≤ (4096 : Int)
        · by_cases c8 : IntKind.i64.wrap (IntKind.i64.wrap (tiles * (gs.length : Int)) * IntKind.i64.wrap ((gs[0].length : Int) - (3 : Int))) ≤ (65536 : Int)
          · have hV : VR disks gs tiles spare ↔ IntKind.i64.wrap (IntKind.i64.wrap (tiles * r) + spare) ≤ 65536 := by
              unfold VR; rw [hwd, hr]
              exact ⟨fun h => h.2.2.2.2.2.2.2.2.2, fun h => ⟨hg, by omega, by omega, by omega, by omega, c5, c6, c7, c8, h⟩⟩
            simp only [Gv_add, w_seq, v_reg, q_cons, q_nil, q_nop, q_op, q_eff, q_opg, q_effg, keep_ok, drop1_ok, out_ok, crRec_mk, onNorm_norm, onNorm_exit, onNorm_ret, addRW_mk, w_cond, onCond_mk, w_block, onBlock_norm, onBlock_ret, onBlock_exit, w_pre, w_post, onPost_norm, onPost_exit, onPost_ret, w_exit, w_ret, onRet_mk, res_nil, res_cons, resO_v, retV_one, fixE_mk, lmap_nil, lmap_cons, ldrop_z, ldrop_s, ev_v, ev_c, lget_z, lget_s, evs_nil, evs_cons, s_mov, s_pick, s_bin, s_una, s_conv, s_fld, s_idx, s_ida, s_build, s_extr, s_nilck, s_len, s_mx, s_ld1, s_ldn, s_st, s_call, s_new, s_box, s_make, s_app, bin_int, i_add, i_sub, i_mul, i_eql, i_neq, i_lss, i_gtr, i_leq, i_geq, pick_mk, wantB_mk, una_not, fld_mk, nilck_mk, valO_some, lor_zero', zero_lor', cond_true, cond_false, Nat.beq_refl, natOf_mk, natOf_zero, natOf_one, obind_some, w_skip, Bool.not_true, Bool.not_false, wantB_undef, newb_fm, ptrP_mk, slcP_mk, cells_agg, hM, hdn, h44, x0, x1, x2, htl, hsp, hgv, hgs'.len, hix0, hld0, hg0.len, c1, c2, c3, c4, c5, c6, c7, c8, decide_true, decide_false]
            exact ⟨by rw [decide_eq_decide.2 hV], hbn⟩
          · have hV : ¬ VR disks gs tiles spare := fun h => by have := h.2.2.2.2.2.2.2.2.1; rw [hwd] at this; exact c8 this
            simp only [Gv_add, w_seq, v_reg, q_cons, q_nil, q_nop, q_op, q_eff, q_opg, q_effg, keep_ok, drop1_ok, out_ok, crRec_mk, onNorm_norm, onNorm_exit, onNorm_ret, addRW_mk, w_cond, onCond_mk, w_block, onBlock_norm, onBlock_ret, onBlock_exit, w_pre, w_post, onPost_norm, onPost_exit, onPost_ret, w_exit, w_ret, onRet_mk, res_nil, res_cons, resO_v, retV_one, fixE_mk, lmap_nil, lmap_cons, ldrop_z, ldrop_s, ev_v, ev_c, lget_z, lget_s, evs_nil, evs_cons, s_mov, s_pick, s_bin, s_una, s_conv, s_fld, s_idx, s_ida, s_build, s_extr, s_nilck, s_len, s_mx, s_ld1, s_ldn, s_st, s_call, s_new, s_box, s_make, s_app, bin_int, i_add, i_sub, i_mul, i_eql, i_neq, i_lss, i_gtr, i_leq, i_geq, pick_mk, wantB_mk, una_not, fld_mk, nilck_mk, valO_some, lor_zero', zero_lor', cond_true, cond_false, Nat.beq_refl, natOf_mk, natOf_zero, natOf_one, obind_some, w_skip, Bool.not_true, Bool.not_false, wantB_undef, newb_fm, ptrP_mk, slcP_mk, cells_agg, hM, hdn, h44, x0, x1, x2, htl, hsp, hgv, hgs'.len, hix0, hld0, hg0.len, c1, c2, c3, c4, c5, c6, c7, c8, decide_true, decide_false]
            exact ⟨by rw [decide_eq_false hV], hbn⟩
        · have hV : ¬ VR disks gs tiles spare := fun h => c7 h.2.2.2.2.2.2.2.1
          simp only [Gv_add, w_seq, v_reg, q_cons, q_nil, q_nop, q_op, q_eff, q_opg, q_effg, keep_ok, drop1_ok, out_ok, crRec_mk, onNorm_norm, onNorm_exit, onNorm_ret, addRW_mk, w_cond, onCond_mk, w_block, onBlock_norm, onBlock_ret, onBlock_exit, w_pre, w_post, onPost_norm, onPost_exit, onPost_ret, w_exit, w_ret, onRet_mk, res_nil, res_cons, resO_v, retV_one, fixE_mk, lmap_nil, lmap_cons, ldrop_z, ldrop_s, ev_v, ev_c, lget_z, lget_s, evs_nil, evs_cons, s_mov, s_pick, s_bin, s_una, s_conv, s_fld, s_idx, s_ida, s_build, s_extr, s_nilck, s_len, s_mx, s_ld1, s_ldn, s_st, s_call, s_new, s_box, s_make, s_app, bin_int, i_add, i_sub, i_mul, i_eql, i_neq, i_lss, i_gtr, i_leq, i_geq, pick_mk, wantB_mk, una_not, fld_mk, nilck_mk, valO_some, lor_zero', zero_lor', cond_true, cond_false, Nat.beq_refl, natOf_mk, natOf_zero, natOf_one, obind_some, w_skip, Bool.not_true, Bool.not_false, wantB_undef, newb_fm, ptrP_mk, slcP_mk, cells_agg, hM, hdn, h44, x0, x1, x2, htl, hsp, hgv, hgs'.len, hix0, hld0, hg0.len, c1, c2, c3, c4, c5, c6, c7, decide_true, decide_false]
          exact ⟨by rw [decide_eq_false hV], hbn⟩
      · have hV : ¬ VR disks gs tiles spare := fun h => by have := h.2.2.2.2.2.2.1; rw [hwd] at this; exact c6 this
        simp only [Gv_add, w_seq, v_reg, q_cons, q_nil, q_nop, q_op, q_eff, q_opg, q_effg, keep_ok, drop1_ok, out_ok, crRec_mk, onNorm_norm, onNorm_exit, onNorm_ret, addRW_mk, w_cond, onCond_mk, w_block, onBlock_norm, onBlock_ret, onBlock_exit, w_pre, w_post, onPost_norm, onPost_exit, onPost_ret, w_exit, w_ret, onRet_mk, res_nil, res_cons, resO_v, retV_one, fixE_mk, lmap_nil, lmap_cons, ldrop_z, ldrop_s, ev_v, ev_c, lget_z, lget_s, evs_nil, evs_cons, s_mov, s_pick, s_bin, s_una, s_conv, s_fld, s_idx, s_ida, s_build, s_extr, s_nilck, s_len, s_mx, s_ld1, s_ldn, s_st, s_call, s_new, s_box, s_make, s_app, bin_int, i_add, i_sub, i_mul, i_eql, i_neq, i_lss, i_gtr, i_leq, i_geq, pick_mk, wantB_mk, una_not, fld_mk, nilck_mk, valO_some, lor_zero', zero_lor', cond_true, cond_false, Nat.beq_refl, natOf_mk, natOf_zero, natOf_one, obind_some, w_skip, Bool.not_true, Bool.not_false, wantB_undef, newb_fm, ptrP_mk, slcP_mk, cells_agg, hM, hdn, h44, x0, x1, x2, htl, hsp, hgv, hgs'.len, hix0, hld0, hg0.len, c1, c2, c3, c4, c5, c6, decide_true, decide_false]
        exact ⟨by rw [decide_eq_false hV], hbn⟩
    · have hV : ¬ VR disks gs tiles spare := fun h => by have := h.2.2.2.2.2.1; rw [hwd] at this; exact c5 this
      simp only [Gv_add, w_seq, v_reg, q_cons, q_nil, q_nop, q_op, q_eff, q_opg, q_effg, keep_ok, drop1_ok, out_ok, crRec_mk, onNorm_norm, onNorm_exit, onNorm_ret, addRW_mk, w_cond, onCond_mk, w_block, onBlock_norm, onBlock_ret, onBlock_exit, w_pre, w_post, onPost_norm, onPost_exit, onPost_ret, w_exit, w_ret, onRet_mk, res_nil, res_cons, resO_v, retV_one, fixE_mk, lmap_nil, lmap_cons, ldrop_z, ldrop_s, ev_v, ev_c, lget_z, lget_s, evs_nil, evs_cons, s_mov, s_pick, s_bin, s_una, s_conv, s_fld, s_idx, s_ida, s_build, s_extr, s_nilck, s_len, s_mx, s_ld1, s_ldn, s_st, s_call, s_new, s_box, s_make, s_app, bin_int, i_add, i_sub, i_mul, i_eql, i_neq, i_lss, i_gtr, i_leq, i_geq, pick_mk, wantB_mk, una_not, fld_mk, nilck_mk, valO_some, lor_zero', zero_lor', cond_true, cond_false, Nat.beq_refl, natOf_mk, natOf_zero, natOf_one, obind_some, w_skip, Bool.not_true, Bool.not_false, wantB_undef, newb_fm, ptrP_mk, slcP_mk, cells_agg, hM, hdn, h44, x0, x1, x2, htl, hsp, hgv, hgs'.len, hix0, hld0, hg0.len, c1, c2, c3, c4, c5, decide_true, decide_false]
      exact ⟨by rw [decide_eq_false hV], hbn⟩
  · have hV : ¬ VR disks gs tiles spare := fun h => hg h.1
    obtain ⟨r, l, hrl⟩ := refV_bad hg
    rw [hrl] at h44
    simp only [Gv_add, w_seq, v_reg, q_cons, q_nil, q_nop, q_op, q_eff, q_opg, q_effg, keep_ok, drop1_ok, out_ok, crRec_mk, onNorm_norm, onNorm_exit, onNorm_ret, addRW_mk, w_cond, onCond_mk, w_block, onBlock_norm, onBlock_ret, onBlock_exit, w_pre, w_post, onPost_norm, onPost_exit, onPost_ret, w_exit, w_ret, onRet_mk, res_nil, res_cons, resO_v, retV_one, fixE_mk, lmap_nil, lmap_cons, ldrop_z, ldrop_s, ev_v, ev_c, lget_z, lget_s, evs_nil, evs_cons, s_mov, s_pick, s_bin, s_una, s_conv, s_fld, s_idx, s_ida, s_build, s_extr, s_nilck, s_len, s_mx, s_ld1, s_ldn, s_st, s_call, s_new, s_box, s_make, s_app, bin_int, i_add, i_sub, i_mul, i_eql, i_neq, i_lss, i_gtr, i_leq, i_geq, pick_mk, wantB_mk, una_not, fld_mk, nilck_mk, valO_some, lor_zero', zero_lor', cond_true, cond_false, Nat.beq_refl, natOf_mk, natOf_zero, natOf_one, obind_some, w_skip, Bool.not_true, Bool.not_false, wantB_undef, newb_fm, ptrP_mk, slcP_mk, cells_agg, hM, hdn, h44, x0, x1, x2]
    exact ⟨by rw [decide_eq_false hV], hbn⟩
end Go.Am.C21
namespace Go.Am.C21
open Go Go.Am
variable {E : Nat → Option AFn} {Y : Nat → List Value → FM → Nat → OR FM}
theorem fput_self {m : FM} {b : Nat} {x : Option Blk} (h : m b = x) : (AMem.put m b x : FM) = m := by
  funext j
  show (if j = b then x else m j) = m j
  by_cases hj : j = b
  · rw [if_pos hj, hj, h]
  · rw [if_neg hj]
/-- a whole block written -/
theorem stn_at {m : FM} {n b k : Nat} {c l : List Value} {sz : Nat} {opn : Bool} (hb : b < n) (hm : m b = some (.cells c sz opn true)) (hk : l.length = k) (hc : c.length = k) (h1 : l.all one = true) : stV k l m n (.pointer (some ⟨b, 0, none⟩)) = .ok undef (AMem.put m b (some (.cells l sz opn true))) n (bit b) (bit b) := by
  show cond (Nat.beq (llen l) k && l.all one) (stC m n b 0 l (getb m n b)) .no = _
  have h2 : (Nat.beq (llen l) k && l.all one) = true := by rw [h1, llen_eq, hk]; simp
  rw [h2, getb_lt hb, hm]
  show putC m n b sz opn undef (bit b) (setCells c 0 l) = _
  rw [setCells_eq, if_pos (by omega)]
  have : c.take 0 ++ l ++ c.drop (0 + l.length) = l := by rw [List.drop_eq_nil_of_le (by omega)]; simp
  rw [this]; rfl
theorem resP_at {m : FM} {n b o : Nat} {c : List Value} {sz : Nat} {opn wr : Bool} (hb : b < n) (hm : m b = some (.cells c sz opn wr)) (vs : List Value) (r : Nat) (f : Nat → List Value → Option Value) {v : Value} (hf : f o c = some v) : resP m n vs r f (.pointer (some ⟨b, o, none⟩)) = some (v :: vs, Nat.lor r (bit b)) := by
  show resC vs r b (f o) (getb m n b) = _
  rw [getb_lt hb, hm]
  show Option.rec (motive := fun _ => Option (List Value × Nat)) none (fun v => some (v :: vs, Nat.lor r (bit b))) (f o c) = _
  rw [hf]
theorem resO_cells (e : List Value) (m : FM) (n : Nat) (vs : List Value) (r i k : Nat) : resO e m n vs r (.cells i k) = resP m n vs r (fun o c => aggO (cellsAt c o k)) (lget e i) := rfl
theorem aggO_some (c : List Value) : aggO (some c) = some (.agg c.toArray) := rfl
theorem parts3_nil (e : List Value) : parts3 e [] = [] := rfl
theorem parts3_cons (e : List Value) (a b : Nat) (x : Opd) (l : List (Nat × Nat × Opd)) : parts3 e ((a, b, x) :: l) = (a, b, ev e x) :: parts3 e l := rfl
theorem fill_nil (c : List Value) : fillA [] c = some c := rfl
theorem retV_two (a b : Value) : retV [a, b] = .tuple #[a, b] := rfl
theorem land_bit {i j : Nat} (h : i ≠ j) : Nat.land (bit i) (bit j) = 0 := by
  apply Nat.eq_of_testBit_eq
  intro k
  show (bit i &&& bit j).testBit k = _
  rw [Nat.testBit_and, bit_pow, bit_pow, Nat.testBit_two_pow, Nat.testBit_two_pow, Nat.zero_testBit]
  by_cases h1 : i = k
  · by_cases h2 : j = k
    · omega
    · simp [h2]
  · simp [h1]
theorem Sl_belowF {m : FM} {n : Nat} {v : Value} {vs : List Value} (h : Sl m n v vs) : Am.belowF n v = true := by
  rcases h with ⟨rfl, _⟩ | ⟨b, o, cap, c, opn, wr, rfl, hb, _⟩ | ⟨rfl, _, hb⟩
  · rfl
  · exact blt_true hb
  · exact blt_true hb
/-- a call's answer, and nothing below the old memory has turned -/
def Kept (x : OR FM) (m : FM) (n : Nat) (v : Value) : Prop := ∃ m' n' r w, x = .ok v m' n' r w ∧ n ≤ n' ∧ (∀ b, b < n → m' b = m b) ∧ Nat.mod w (bit n) = 0
theorem kept_of {fn : AFn} {m0 : FM} {n0 : Nat} {x : CR FM} {v : Value} (h : Gv x fun X _ m' n' w => X = .ret v ∧ n0 ≤ n' ∧ (∀ b, b < n0 → m' b = m0 b) ∧ Nat.mod w (bit n0) = 0) : Kept (leaveC fn m0 n0 x) m0 n0 v := by
  obtain ⟨X, e, m, n, r, w, rfl, rfl, h1, h2, hw⟩ := Gv_some h
  rw [leave_ret]
  cases hv : addrFree v
  · exact ⟨m, n, r, w, leaveA_keep hv, h1, h2, hw⟩
  · exact ⟨m0, n0, _, 0, leaveA_free hv hw, Nat.le_refl _, fun _ _ => rfl, mod_zero _⟩
def num0 : Value := .agg #[.int .i64 0, .slice none 0 0, .int .i64 0, .int .i64 0, .int .i64 0, .int .i64 0, .int .i64 0, .slice none 0 0, .slice none 0 0, .int .i64 0, .int .i64 0]
theorem data_spec (hE : E 46 = some ac46) (m : FM) (n : Nat) (disks tiles spare W r K : Int) (gv h c : Value) : Pure (callW PG E Y 46 [.agg #[.int .i64 disks, gv, .int .i64 tiles, .int .i64 spare, .int .i64 W, .int .i64 r, .int .i64 K, .slice none 0 0, .slice none 0 0, h, c]] m n) m n (.int .i64 (IntKind.i64.wrap (W - 3))) := by
  rw [callW_fn hE rfl]
  refine pure_of rfl ?_
  have hp : (AMem.put m n (some (.cells [.int .i64 disks, gv, .int .i64 tiles, .int .i64 spare, .int .i64 W, .int .i64 r, .int .i64 K, .slice none 0 0, .slice none 0 0, h, c] 0 false true)) : FM) n = (some (.cells [.int .i64 disks, gv, .int .i64 tiles, .int .i64 spare, .int .i64 W, .int .i64 r, .int .i64 K, .slice none 0 0, .slice none 0 0, h, c] 0 false true)) := fput_same m n _
  obtain ⟨M, hM⟩ : ∃ M : FM, AMem.put m n (some (.cells [.int .i64 disks, gv, .int .i64 tiles, .int .i64 spare, .int .i64 W, .int .i64 r, .int .i64 K, .slice none 0 0, .slice none 0 0, h, c] 0 false true)) = M := ⟨_, rfl⟩
  rw [hM] at hp
  have hl : ld1V M (n + 1) (.pointer (some ⟨n, 0 + 4, none⟩)) = .ok (.int .i64 W) M (n + 1) (bit n) 0 := ld1_at (by omega) hp rfl
  rw [ac46]
  simp only [Gv_add, w_seq, v_reg, q_cons, q_nil, q_nop, q_op, q_eff, q_opg, q_effg, keep_ok, drop1_ok, out_ok, crRec_mk, onNorm_norm, onNorm_exit, onNorm_ret, addRW_mk, w_cond, onCond_mk, w_block, onBlock_norm, onBlock_ret, onBlock_exit, w_pre, w_post, onPost_norm, onPost_exit, onPost_ret, w_exit, w_ret, onRet_mk, res_nil, res_cons, resO_v, retV_one, fixE_mk, lmap_nil, lmap_cons, ldrop_z, ldrop_s, ev_v, ev_c, lget_z, lget_s, evs_nil, evs_cons, s_mov, s_pick, s_bin, s_una, s_conv, s_fld, s_idx, s_ida, s_build, s_extr, s_nilck, s_len, s_mx, s_ld1, s_ldn, s_st, s_call, s_new, s_box, s_make, s_app, bin_int, i_add, i_sub, i_mul, i_eql, i_neq, i_lss, i_gtr, i_leq, i_geq, pick_mk, wantB_mk, una_not, fld_mk, nilck_mk, valO_some, lor_zero', zero_lor', cond_true, cond_false, Nat.beq_refl, natOf_mk, natOf_zero, natOf_one, obind_some, w_skip, Bool.not_true, Bool.not_false, wantB_undef, newb_fm, ptrP_mk, slcP_mk, cells_agg, hM, hl]
  exact ⟨rfl, mod_bit_ge (Nat.le_refl n)⟩
theorem measure_bad (hE : E 39 = some ac39) (hE2 : E 34 = some ac34) (hE3 : E 47 = some ac47) (hE4 : E 46 = some ac46) (m : FM) (n : Nat) (disks tiles spare : Int) (gv : Value) (gs : List (List Int)) (hgs : Rows m n gv gs) (hl : gs.length < 4611686018427387904) (hrow : ∀ g ∈ gs, g.length < 4611686018427387904) (hV : ¬ VR disks gs tiles spare) :
    Kept (callW PG E Y 39 [.agg #[.int .i64 disks, gv, .int .i64 tiles, .int .i64 spare]] m n) m n (.tuple #[num0, .bool false]) := by
  rw [callW_fn hE rfl]
  refine kept_of ?_
  obtain ⟨M1, hM1⟩ : ∃ M1 : FM, AMem.put m n (some (.cells [.int .i64 disks, gv, .int .i64 tiles, .int .i64 spare] 0 false true)) = M1 := ⟨_, rfl⟩
  obtain ⟨M2, hM2⟩ : ∃ M2 : FM, AMem.put M1 (n + 1) (some (.cells [.int .i64 0, .slice none 0 0, .int .i64 0, .int .i64 0, .int .i64 0, .int .i64 0, .int .i64 0, .slice none 0 0, .slice none 0 0, .int .i64 0, .int .i64 0] 0 false true)) = M2 := ⟨_, rfl⟩
  have hp2 : M2 n = (some (.cells [.int .i64 disks, gv, .int .i64 tiles, .int .i64 spare] 0 false true)) := by rw [← hM2, fput_ne _ _ _ _ (by omega), ← hM1, fput_same]
  have hq2 : M2 (n + 1) = (some (.cells [.int .i64 0, .slice none 0 0, .int .i64 0, .int .i64 0, .int .i64 0, .int .i64 0, .int .i64 0, .slice none 0 0, .slice none 0 0, .int .i64 0, .int .i64 0] 0 false true)) := by rw [← hM2, fput_same]
  have hfr2 : ∀ b, b < n → M2 b = m b := fun b hb => by rw [← hM2, fput_ne _ _ _ _ (by omega), ← hM1, fput_ne _ _ _ _ (by omega)]
  have hgs2 : Rows M2 (n + 2) gv gs := hgs.frame (by omega) hfr2
  have hdn : ldnV 2 M2 (n + 2) (.pointer (some ⟨n, 0 + 0, none⟩)) = .ok (.agg #[.int .i64 disks, gv]) M2 (n + 2) (bit n) 0 := ldn_at (by omega) hp2 rfl
  have hbn : Nat.mod (bit n) (bit n) = 0 := mod_bit_ge (Nat.le_refl n)
  have hbn1 : Nat.mod (bit (n + 1)) (bit n) = 0 := mod_bit_ge (by omega)
  have hbn2 : Nat.mod (bit (n + 2)) (bit n) = 0 := mod_bit_ge (by omega)
  obtain ⟨r34, h34⟩ := check_spec (E := E) (Y := Y) hE2 hE3 M2 (n + 2) disks gv gs hgs2 hl hrow
  have x0 : ∀ a b c : Value, extrV 0 (.tuple #[a, b, c]) = some a := fun _ _ _ => rfl
  have x1 : ∀ a b c : Value, extrV 1 (.tuple #[a, b, c]) = some b := fun _ _ _ => rfl
  have x2 : ∀ a b c : Value, extrV 2 (.tuple #[a, b, c]) = some c := fun _ _ _ => rfl
  have hst : ∀ (M : FM) (N : Nat), n + 1 < N → M (n + 1) = (some (.cells [.int .i64 0, .slice none 0 0, .int .i64 0, .int .i64 0, .int .i64 0, .int .i64 0, .int .i64 0, .slice none 0 0, .slice none 0 0, .int .i64 0, .int .i64 0] 0 false true)) → stV 11 [.int .i64 0, .slice none 0 0, .int .i64 0, .int .i64 0, .int .i64 0, .int .i64 0, .int .i64 0, .slice none 0 0, .slice none 0 0, .int .i64 0, .int .i64 0] M N (.pointer (some ⟨n + 1, 0, none⟩)) = .ok undef M N (bit (n + 1)) (bit (n + 1)) := fun M N h1 h2 => by
    rw [stn_at (k := 11) h1 h2 rfl rfl rfl, fput_self h2]
  have hrs : ∀ (M : FM) (N : Nat), n + 1 < N → M (n + 1) = (some (.cells [.int .i64 0, .slice none 0 0, .int .i64 0, .int .i64 0, .int .i64 0, .int .i64 0, .int .i64 0, .slice none 0 0, .slice none 0 0, .int .i64 0, .int .i64 0] 0 false true)) → ∀ vs r, resP M N vs r (fun o c => aggO (cellsAt c o 11)) (.pointer (some ⟨n + 1, 0, none⟩)) = some (num0 :: vs, Nat.lor r (bit (n + 1))) := fun M N h1 h2 vs r => resP_at h1 h2 vs r _ rfl
  have hst2 := hst M2 (n + 2) (by omega) hq2
  have hrs2 := hrs M2 (n + 2) (by omega) hq2
  rw [ac39]
  by_cases hg : GoodR disks gs
  · have h00 : decide ((0 : Int) = 0) = true := rfl
    have h0 : 0 < gs.length := by
      obtain ⟨⟨_, _, _, g0, hg0, _⟩, _⟩ := hg
      exact (List.getElem?_eq_some_iff.1 hg0).1
    obtain ⟨a0, b0, g0v, hix0, hld00, hb0, hg0⟩ := hgs.at h0
    replace hix0 : idxV 1 0 gv = some (.pointer (some a0)) := hix0
    have hld0 := ld1_frame (n' := n + 2) hld00 hb0 (by omega) hfr2
    rw [checkV_good hg] at h34
    have hwd : width gs = (gs[0].length : Int) := by unfold width; rw [List.getElem?_eq_getElem h0]; rfl
    obtain ⟨r, hr⟩ : ∃ r, (counts zeros gs)[0]! = r := ⟨_, rfl⟩
    obtain ⟨W, hW⟩ : ∃ W : Int, (gs[0].length : Int) = W := ⟨_, rfl⟩
    obtain ⟨K, hK⟩ : ∃ K : Int, (gs.length : Int) = K := ⟨_, rfl⟩
    have hVR : ¬ (1 ≤ tiles ∧ tiles ≤ 256 ∧ 0 ≤ spare ∧ spare ≤ 65536 ∧ 4 ≤ W ∧ W ≤ 16 ∧ IntKind.i64.wrap (tiles * K) ≤ 4096 ∧ IntKind.i64.wrap (IntKind.i64.wrap (tiles * K) * IntKind.i64.wrap (W - 3)) ≤ 65536 ∧ IntKind.i64.wrap (IntKind.i64.wrap (tiles * r) + spare) ≤ 65536) := fun h => hV (by
      unfold VR; rw [hwd, hW, hK, hr]; exact ⟨hg, h⟩)
    have hgl : lenV false gv = some (.int .i64 K) := by rw [hgs.len, hK]
    have hg0l : lenV false g0v = some (.int .i64 W) := by rw [hg0.len, hW]
    rw [hr] at h34
    obtain ⟨vs, hsl, _⟩ := hgs2
    have hF2 : Am.belowF (n + 2) gv = true := Sl_belowF hsl
    have hbg : belowV (n + 2) gv = true := hsl.below
    have hF3 : Am.belowF (n + 3) gv = true := Sl_belowF (hsl.frame (n' := n + 3) (by omega) (fun _ _ => rfl))
    have hb0v : belowV (n + 2) g0v = true := Sl.below (Ints.frame hg0 (n' := n + 2) (by omega) hfr2)
    have hba := idx_block hix0 hbg
    have q1 := blt_true (show n < n + 2 by omega)
    have q2 := blt_true (show n < n + 3 by omega)
    have q3 := blt_true (show n + 2 < n + 3 by omega)
    have l1 : Nat.land (bit (n + 2)) (bit n) = 0 := land_bit (by omega)
    have l2 : Nat.land (bit (n + 2)) (bit b0) = 0 := land_bit (by omega)
    have hbL : belowV (n + 2) (.agg #[.int .i64 disks, gv, .int .i64 tiles, .int .i64 spare]) = true := by
      show (true && (Am.belowF (n + 2) gv && (true && (true && true)))) = true
      rw [hF2]; rfl
    have hbX : ∀ h c : Int, belowV (n + 3) (.agg #[.int .i64 disks, gv, .int .i64 tiles, .int .i64 spare, .int .i64 W, .int .i64 r, .int .i64 K, .slice none 0 0, .slice none 0 0, .int .i64 h, .int .i64 c]) = true := fun h c => by
      show (true && (Am.belowF (n + 3) gv && (true && (true && (true && (true && (true && (true && (true && (true && (true && true))))))))))) = true
      rw [hF3]; rfl
    have hd4 : ldnV 4 M2 (n + 2) (.pointer (some ⟨n, 0, none⟩)) = .ok (.agg #[.int .i64 disks, gv, .int .i64 tiles, .int .i64 spare]) M2 (n + 2) (bit n) 0 := ldn_at (by omega) hp2 rfl
    have hgv1 : ld1V M2 (n + 2) (.pointer (some ⟨n, 0 + 0 + 1, none⟩)) = .ok gv M2 (n + 2) (bit n) 0 := ld1_at (by omega) hp2 rfl
    have hfill : fillA [(0, 4, .agg #[.int .i64 disks, gv, .int .i64 tiles, .int .i64 spare]), (4, 1, .int .i64 W), (5, 1, .int .i64 r), (6, 1, .int .i64 K)] [.int .i64 0, .slice none 0 0, .int .i64 0, .int .i64 0, .int .i64 0, .int .i64 0, .int .i64 0, .slice none 0 0, .slice none 0 0, .int .i64 0, .int .i64 0] = some [.int .i64 disks, gv, .int .i64 tiles, .int .i64 spare, .int .i64 W, .int .i64 r, .int .i64 K, .slice none 0 0, .slice none 0 0, .int .i64 0, .int .i64 0] := rfl
    obtain ⟨M3, hM3⟩ : ∃ M3 : FM, AMem.put M2 (n + 2) (some (.cells [.int .i64 0, .slice none 0 0, .int .i64 0, .int .i64 0, .int .i64 0, .int .i64 0, .int .i64 0, .slice none 0 0, .slice none 0 0, .int .i64 0, .int .i64 0] 0 false true)) = M3 := ⟨_, rfl⟩
    have hx3 : M3 (n + 2) = (some (.cells [.int .i64 0, .slice none 0 0, .int .i64 0, .int .i64 0, .int .i64 0, .int .i64 0, .int .i64 0, .slice none 0 0, .slice none 0 0, .int .i64 0, .int .i64 0] 0 false true)) := by rw [← hM3, fput_same]
    obtain ⟨M4, hM4⟩ : ∃ M4 : FM, AMem.put M3 (n + 2) (some (.cells [.int .i64 disks, gv, .int .i64 tiles, .int .i64 spare, .int .i64 W, .int .i64 r, .int .i64 K, .slice none 0 0, .slice none 0 0, .int .i64 0, .int .i64 0] 0 false true)) = M4 := ⟨_, rfl⟩
    have hx4 : M4 (n + 2) = (some (.cells [.int .i64 disks, gv, .int .i64 tiles, .int .i64 spare, .int .i64 W, .int .i64 r, .int .i64 K, .slice none 0 0, .slice none 0 0, .int .i64 0, .int .i64 0] 0 false true)) := by rw [← hM4, fput_same]
    have e4 : ∀ b, b < n + 2 → M4 b = M2 b := fun b hb => by rw [← hM4, fput_ne _ _ _ _ (by omega), ← hM3, fput_ne _ _ _ _ (by omega)]
    have hp4 : M4 n = (some (.cells [.int .i64 disks, gv, .int .i64 tiles, .int .i64 spare] 0 false true)) := (e4 n (by omega)).trans hp2
    have hq4 : M4 (n + 1) = (some (.cells [.int .i64 0, .slice none 0 0, .int .i64 0, .int .i64 0, .int .i64 0, .int .i64 0, .int .i64 0, .slice none 0 0, .slice none 0 0, .int .i64 0, .int .i64 0] 0 false true)) := (e4 (n + 1) (by omega)).trans hq2
    have hs4 : stV 11 [.int .i64 disks, gv, .int .i64 tiles, .int .i64 spare, .int .i64 W, .int .i64 r, .int .i64 K, .slice none 0 0, .slice none 0 0, .int .i64 0, .int .i64 0] M3 (n + 3) (.pointer (some ⟨n + 2, 0, none⟩)) = .ok undef M4 (n + 3) (bit (n + 2)) (bit (n + 2)) := by
      rw [stn_at (k := 11) (by omega) hx3 rfl rfl ?_, hM4]
      cases gv <;> first | rfl | cases hF2
    have w4 : ld1V M4 (n + 3) (.pointer (some ⟨n + 2, 0 + 4, none⟩)) = .ok (.int .i64 W) M4 (n + 3) (bit (n + 2)) 0 := ld1_at (by omega) hx4 rfl
    have t4 : ld1V M4 (n + 3) (.pointer (some ⟨n, 0 + 2, none⟩)) = .ok (.int .i64 tiles) M4 (n + 3) (bit n) 0 := ld1_at (by omega) hp4 rfl
    have s4 : ld1V M4 (n + 3) (.pointer (some ⟨n, 0 + 3, none⟩)) = .ok (.int .i64 spare) M4 (n + 3) (bit n) 0 := ld1_at (by omega) hp4 rfl
    have hst4 := hst M4 (n + 3) (by omega) hq4
    have hrs4 := hrs M4 (n + 3) (by omega) hq4
    have k4 : ∀ b, b < n → M4 b = m b := fun b hb => (e4 b (by omega)).trans (hfr2 b hb)
    by_cases c1 : W ≤ 3
    · simp (implicitDefEqProofs := false) only [Gv_add, w_seq, v_reg, q_cons, q_nil, q_nop, q_op, q_eff, q_opg, q_effg, keep_ok, drop1_ok, out_ok, crRec_mk, onNorm_norm, onNorm_exit, onNorm_ret, addRW_mk, w_cond, onCond_mk, w_block, onBlock_norm, onBlock_ret, onBlock_exit, w_pre, w_post, onPost_norm, onPost_exit, onPost_ret, w_exit, w_ret, onRet_mk, res_nil, res_cons, resO_v, retV_one, fixE_mk, lmap_nil, lmap_cons, ldrop_z, ldrop_s, ev_v, ev_c, lget_z, lget_s, evs_nil, evs_cons, s_mov, s_pick, s_bin, s_una, s_conv, s_fld, s_idx, s_ida, s_build, s_extr, s_nilck, s_len, s_mx, s_ld1, s_ldn, s_st, s_call, s_new, s_box, s_make, s_app, bin_int, i_add, i_sub, i_mul, i_eql, i_neq, i_lss, i_gtr, i_leq, i_geq, pick_mk, wantB_mk, una_not, fld_mk, nilck_mk, valO_some, lor_zero', zero_lor', cond_true, cond_false, Nat.beq_refl, natOf_mk, natOf_zero, natOf_one, obind_some, w_skip, Bool.not_true, Bool.not_false, wantB_undef, newb_fm, ptrP_mk, slcP_mk, cells_agg, hM1, hM2, s_st, s_build, s_ldn, aggO_some, parts3_nil, fill_nil, hdn, h34, x0, x1, x2, retV_two, resO_cells, u_regD, isOkC_ok, belowV_undef, belowV_addr, z_nil, z_cons, y_nil, y_cons, y_nop, y_op, y_eff, y_opg, y_effg, keepD_ok, outX_ok, apart_nil, apart_cons, zero_land', land_zero', stepD_ok', below_all, opds, List.all_cons, List.all_nil, belowV_int, belowV_bool, belowV_ptr, belowV_nils, Bool.and_self, Bool.and_true, Bool.true_and, Bool.or_true, Bool.true_or, Bool.false_or, Nat.reduceAdd, Nat.testBit, Nat.reduceShiftRight, Nat.reduceAnd, Nat.reduceBNe, List.map_cons, List.map_nil, h00, decide_true, decide_false, hd4, hgv1, hix0, hld0, hg0l, hgl, hba, hbg, hb0v, q1, q2, q3, l1, l2, hbL, hbX, parts3_cons, hfill, hM3, hs4, w4, t4, s4, hst4, hrs4, c1]
      exact ⟨rfl, by omega, k4, by (repeat (first | exact mod_zero _ | exact mod_bit_ge (by omega) | refine mod_lor' ?_ ?_))⟩
    by_cases c2 : 16 < W
    · simp (implicitDefEqProofs := false) only [Gv_add, w_seq, v_reg, q_cons, q_nil, q_nop, q_op, q_eff, q_opg, q_effg, keep_ok, drop1_ok, out_ok, crRec_mk, onNorm_norm, onNorm_exit, onNorm_ret, addRW_mk, w_cond, onCond_mk, w_block, onBlock_norm, onBlock_ret, onBlock_exit, w_pre, w_post, onPost_norm, onPost_exit, onPost_ret, w_exit, w_ret, onRet_mk, res_nil, res_cons, resO_v, retV_one, fixE_mk, lmap_nil, lmap_cons, ldrop_z, ldrop_s, ev_v, ev_c, lget_z, lget_s, evs_nil, evs_cons, s_mov, s_pick, s_bin, s_una, s_conv, s_fld, s_idx, s_ida, s_build, s_extr, s_nilck, s_len, s_mx, s_ld1, s_ldn, s_st, s_call, s_new, s_box, s_make, s_app, bin_int, i_add, i_sub, i_mul, i_eql, i_neq, i_lss, i_gtr, i_leq, i_geq, pick_mk, wantB_mk, una_not, fld_mk, nilck_mk, valO_some, lor_zero', zero_lor', cond_true, cond_false, Nat.beq_refl, natOf_mk, natOf_zero, natOf_one, obind_some, w_skip, Bool.not_true, Bool.not_false, wantB_undef, newb_fm, ptrP_mk, slcP_mk, cells_agg, hM1, hM2, s_st, s_build, s_ldn, aggO_some, parts3_nil, fill_nil, hdn, h34, x0, x1, x2, retV_two, resO_cells, u_regD, isOkC_ok, belowV_undef, belowV_addr, z_nil, z_cons, y_nil, y_cons, y_nop, y_op, y_eff, y_opg, y_effg, keepD_ok, outX_ok, apart_nil, apart_cons, zero_land', land_zero', stepD_ok', below_all, opds, List.all_cons, List.all_nil, belowV_int, belowV_bool, belowV_ptr, belowV_nils, Bool.and_self, Bool.and_true, Bool.true_and, Bool.or_true, Bool.true_or, Bool.false_or, Nat.reduceAdd, Nat.testBit, Nat.reduceShiftRight, Nat.reduceAnd, Nat.reduceBNe, List.map_cons, List.map_nil, h00, decide_true, decide_false, hd4, hgv1, hix0, hld0, hg0l, hgl, hba, hbg, hb0v, q1, q2, q3, l1, l2, hbL, hbX, parts3_cons, hfill, hM3, hs4, w4, t4, s4, hst4, hrs4, c1, c2]
      exact ⟨rfl, by omega, k4, by (repeat (first | exact mod_zero _ | exact mod_bit_ge (by omega) | refine mod_lor' ?_ ?_))⟩
    by_cases c3 : tiles < 1
    · simp (implicitDefEqProofs := false) only [Gv_add, w_seq, v_reg, q_cons, q_nil, q_nop, q_op, q_eff, q_opg, q_effg, keep_ok, drop1_ok, out_ok, crRec_mk, onNorm_norm, onNorm_exit, onNorm_ret, addRW_mk, w_cond, onCond_mk, w_block, onBlock_norm, onBlock_ret, onBlock_exit, w_pre, w_post, onPost_norm, onPost_exit, onPost_ret, w_exit, w_ret, onRet_mk, res_nil, res_cons, resO_v, retV_one, fixE_mk, lmap_nil, lmap_cons, ldrop_z, ldrop_s, ev_v, ev_c, lget_z, lget_s, evs_nil, evs_cons, s_mov, s_pick, s_bin, s_una, s_conv, s_fld, s_idx, s_ida, s_build, s_extr, s_nilck, s_len, s_mx, s_ld1, s_ldn, s_st, s_call, s_new, s_box, s_make, s_app, bin_int, i_add, i_sub, i_mul, i_eql, i_neq, i_lss, i_gtr, i_leq, i_geq, pick_mk, wantB_mk, una_not, fld_mk, nilck_mk, valO_some, lor_zero', zero_lor', cond_true, cond_false, Nat.beq_refl, natOf_mk, natOf_zero, natOf_one, obind_some, w_skip, Bool.not_true, Bool.not_false, wantB_undef, newb_fm, ptrP_mk, slcP_mk, cells_agg, hM1, hM2, s_st, s_build, s_ldn, aggO_some, parts3_nil, fill_nil, hdn, h34, x0, x1, x2, retV_two, resO_cells, u_regD, isOkC_ok, belowV_undef, belowV_addr, z_nil, z_cons, y_nil, y_cons, y_nop, y_op, y_eff, y_opg, y_effg, keepD_ok, outX_ok, apart_nil, apart_cons, zero_land', land_zero', stepD_ok', below_all, opds, List.all_cons, List.all_nil, belowV_int, belowV_bool, belowV_ptr, belowV_nils, Bool.and_self, Bool.and_true, Bool.true_and, Bool.or_true, Bool.true_or, Bool.false_or, Nat.reduceAdd, Nat.testBit, Nat.reduceShiftRight, Nat.reduceAnd, Nat.reduceBNe, List.map_cons, List.map_nil, h00, decide_true, decide_false, hd4, hgv1, hix0, hld0, hg0l, hgl, hba, hbg, hb0v, q1, q2, q3, l1, l2, hbL, hbX, parts3_cons, hfill, hM3, hs4, w4, t4, s4, hst4, hrs4, c1, c2, c3]
      exact ⟨rfl, by omega, k4, by (repeat (first | exact mod_zero _ | exact mod_bit_ge (by omega) | refine mod_lor' ?_ ?_))⟩
    by_cases c4 : 256 < tiles
    · simp (implicitDefEqProofs := false) only [Gv_add, w_seq, v_reg, q_cons, q_nil, q_nop, q_op, q_eff, q_opg, q_effg, keep_ok, drop1_ok, out_ok, crRec_mk, onNorm_norm, onNorm_exit, onNorm_ret, addRW_mk, w_cond, onCond_mk, w_block, onBlock_norm, onBlock_ret, onBlock_exit, w_pre, w_post, onPost_norm, onPost_exit, onPost_ret, w_exit, w_ret, onRet_mk, res_nil, res_cons, resO_v, retV_one, fixE_mk, lmap_nil, lmap_cons, ldrop_z, ldrop_s, ev_v, ev_c, lget_z, lget_s, evs_nil, evs_cons, s_mov, s_pick, s_bin, s_una, s_conv, s_fld, s_idx, s_ida, s_build, s_extr, s_nilck, s_len, s_mx, s_ld1, s_ldn, s_st, s_call, s_new, s_box, s_make, s_app, bin_int, i_add, i_sub, i_mul, i_eql, i_neq, i_lss, i_gtr, i_leq, i_geq, pick_mk, wantB_mk, una_not, fld_mk, nilck_mk, valO_some, lor_zero', zero_lor', cond_true, cond_false, Nat.beq_refl, natOf_mk, natOf_zero, natOf_one, obind_some, w_skip, Bool.not_true, Bool.not_false, wantB_undef, newb_fm, ptrP_mk, slcP_mk, cells_agg, hM1, hM2, s_st, s_build, s_ldn, aggO_some, parts3_nil, fill_nil, hdn, h34, x0, x1, x2, retV_two, resO_cells, u_regD, isOkC_ok, belowV_undef, belowV_addr, z_nil, z_cons, y_nil, y_cons, y_nop, y_op, y_eff, y_opg, y_effg, keepD_ok, outX_ok, apart_nil, apart_cons, zero_land', land_zero', stepD_ok', below_all, opds, List.all_cons, List.all_nil, belowV_int, belowV_bool, belowV_ptr, belowV_nils, Bool.and_self, Bool.and_true, Bool.true_and, Bool.or_true, Bool.true_or, Bool.false_or, Nat.reduceAdd, Nat.testBit, Nat.reduceShiftRight, Nat.reduceAnd, Nat.reduceBNe, List.map_cons, List.map_nil, h00, decide_true, decide_false, hd4, hgv1, hix0, hld0, hg0l, hgl, hba, hbg, hb0v, q1, q2, q3, l1, l2, hbL, hbX, parts3_cons, hfill, hM3, hs4, w4, t4, s4, hst4, hrs4, c1, c2, c3, c4]
      exact ⟨rfl, by omega, k4, by (repeat (first | exact mod_zero _ | exact mod_bit_ge (by omega) | refine mod_lor' ?_ ?_))⟩
    by_cases c5 : spare < 0
    · simp (implicitDefEqProofs := false) only [Gv_add, w_seq, v_reg, q_cons, q_nil, q_nop, q_op, q_eff, q_opg, q_effg, keep_ok, drop1_ok, out_ok, crRec_mk, onNorm_norm, onNorm_exit, onNorm_ret, addRW_mk, w_cond, onCond_mk, w_block, onBlock_norm, onBlock_ret, onBlock_exit, w_pre, w_post, onPost_norm, onPost_exit, onPost_ret, w_exit, w_ret, onRet_mk, res_nil, res_cons, resO_v, retV_one, fixE_mk, lmap_nil, lmap_cons, ldrop_z, ldrop_s, ev_v, ev_c, lget_z, lget_s, evs_nil, evs_cons, s_mov, s_pick, s_bin, s_una, s_conv, s_fld, s_idx, s_ida, s_build, s_extr, s_nilck, s_len, s_mx, s_ld1, s_ldn, s_st, s_call, s_new, s_box, s_make, s_app, bin_int, i_add, i_sub, i_mul, i_eql, i_neq, i_lss, i_gtr, i_leq, i_geq, pick_mk, wantB_mk, una_not, fld_mk, nilck_mk, valO_some, lor_zero', zero_lor', cond_true, cond_false, Nat.beq_refl, natOf_mk, natOf_zero, natOf_one, obind_some, w_skip, Bool.not_true, Bool.not_false, wantB_undef, newb_fm, ptrP_mk, slcP_mk, cells_agg, hM1, hM2, s_st, s_build, s_ldn, aggO_some, parts3_nil, fill_nil, hdn, h34, x0, x1, x2, retV_two, resO_cells, u_regD, isOkC_ok, belowV_undef, belowV_addr, z_nil, z_cons, y_nil, y_cons, y_nop, y_op, y_eff, y_opg, y_effg, keepD_ok, outX_ok, apart_nil, apart_cons, zero_land', land_zero', stepD_ok', below_all, opds, List.all_cons, List.all_nil, belowV_int, belowV_bool, belowV_ptr, belowV_nils, Bool.and_self, Bool.and_true, Bool.true_and, Bool.or_true, Bool.true_or, Bool.false_or, Nat.reduceAdd, Nat.testBit, Nat.reduceShiftRight, Nat.reduceAnd, Nat.reduceBNe, List.map_cons, List.map_nil, h00, decide_true, decide_false, hd4, hgv1, hix0, hld0, hg0l, hgl, hba, hbg, hb0v, q1, q2, q3, l1, l2, hbL, hbX, parts3_cons, hfill, hM3, hs4, w4, t4, s4, hst4, hrs4, c1, c2, c3, c4, c5]
      exact ⟨rfl, by omega, k4, by (repeat (first | exact mod_zero _ | exact mod_bit_ge (by omega) | refine mod_lor' ?_ ?_))⟩
    by_cases c6 : 65536 < spare
    · simp (implicitDefEqProofs := false) only [Gv_add, w_seq, v_reg, q_cons, q_nil, q_nop, q_op, q_eff, q_opg, q_effg, keep_ok, drop1_ok, out_ok, crRec_mk, onNorm_norm, onNorm_exit, onNorm_ret, addRW_mk, w_cond, onCond_mk, w_block, onBlock_norm, onBlock_ret, onBlock_exit, w_pre, w_post, onPost_norm, onPost_exit, onPost_ret, w_exit, w_ret, onRet_mk, res_nil, res_cons, resO_v, retV_one, fixE_mk, lmap_nil, lmap_cons, ldrop_z, ldrop_s, ev_v, ev_c, lget_z, lget_s, evs_nil, evs_cons, s_mov, s_pick, s_bin, s_una, s_conv, s_fld, s_idx, s_ida, s_build, s_extr, s_nilck, s_len, s_mx, s_ld1, s_ldn, s_st, s_call, s_new, s_box, s_make, s_app, bin_int, i_add, i_sub, i_mul, i_eql, i_neq, i_lss, i_gtr, i_leq, i_geq, pick_mk, wantB_mk, una_not, fld_mk, nilck_mk, valO_some, lor_zero', zero_lor', cond_true, cond_false, Nat.beq_refl, natOf_mk, natOf_zero, natOf_one, obind_some, w_skip, Bool.not_true, Bool.not_false, wantB_undef, newb_fm, ptrP_mk, slcP_mk, cells_agg, hM1, hM2, s_st, s_build, s_ldn, aggO_some, parts3_nil, fill_nil, hdn, h34, x0, x1, x2, retV_two, resO_cells, u_regD, isOkC_ok, belowV_undef, belowV_addr, z_nil, z_cons, y_nil, y_cons, y_nop, y_op, y_eff, y_opg, y_effg, keepD_ok, outX_ok, apart_nil, apart_cons, zero_land', land_zero', stepD_ok', below_all, opds, List.all_cons, List.all_nil, belowV_int, belowV_bool, belowV_ptr, belowV_nils, Bool.and_self, Bool.and_true, Bool.true_and, Bool.or_true, Bool.true_or, Bool.false_or, Nat.reduceAdd, Nat.testBit, Nat.reduceShiftRight, Nat.reduceAnd, Nat.reduceBNe, List.map_cons, List.map_nil, h00, decide_true, decide_false, hd4, hgv1, hix0, hld0, hg0l, hgl, hba, hbg, hb0v, q1, q2, q3, l1, l2, hbL, hbX, parts3_cons, hfill, hM3, hs4, w4, t4, s4, hst4, hrs4, c1, c2, c3, c4, c5, c6]
      exact ⟨rfl, by omega, k4, by (repeat (first | exact mod_zero _ | exact mod_bit_ge (by omega) | refine mod_lor' ?_ ?_))⟩
    obtain ⟨M5, hM5⟩ : ∃ M5 : FM, AMem.put M4 (n + 2) (some (.cells [.int .i64 disks, gv, .int .i64 tiles, .int .i64 spare, .int .i64 W, .int .i64 r, .int .i64 K, .slice none 0 0, .slice none 0 0, .int .i64 (IntKind.i64.wrap (tiles * r)), .int .i64 0] 0 false true)) = M5 := ⟨_, rfl⟩
    have hx5 : M5 (n + 2) = (some (.cells [.int .i64 disks, gv, .int .i64 tiles, .int .i64 spare, .int .i64 W, .int .i64 r, .int .i64 K, .slice none 0 0, .slice none 0 0, .int .i64 (IntKind.i64.wrap (tiles * r)), .int .i64 0] 0 false true)) := by rw [← hM5, fput_same]
    obtain ⟨M6, hM6⟩ : ∃ M6 : FM, AMem.put M5 (n + 2) (some (.cells [.int .i64 disks, gv, .int .i64 tiles, .int .i64 spare, .int .i64 W, .int .i64 r, .int .i64 K, .slice none 0 0, .slice none 0 0, .int .i64 (IntKind.i64.wrap (tiles * r)), .int .i64 (IntKind.i64.wrap (IntKind.i64.wrap (tiles * r) + spare))] 0 false true)) = M6 := ⟨_, rfl⟩
    have hx6 : M6 (n + 2) = (some (.cells [.int .i64 disks, gv, .int .i64 tiles, .int .i64 spare, .int .i64 W, .int .i64 r, .int .i64 K, .slice none 0 0, .slice none 0 0, .int .i64 (IntKind.i64.wrap (tiles * r)), .int .i64 (IntKind.i64.wrap (IntKind.i64.wrap (tiles * r) + spare))] 0 false true)) := by rw [← hM6, fput_same]
    have e5 : ∀ b, b < n + 2 → M5 b = M2 b := fun b hb => by rw [← hM5, fput_ne _ _ _ _ (by omega), e4 b hb]
    have e6 : ∀ b, b < n + 2 → M6 b = M2 b := fun b hb => by rw [← hM6, fput_ne _ _ _ _ (by omega), e5 b hb]
    have hp5 : M5 n = (some (.cells [.int .i64 disks, gv, .int .i64 tiles, .int .i64 spare] 0 false true)) := (e5 n (by omega)).trans hp2
    have hp6 : M6 n = (some (.cells [.int .i64 disks, gv, .int .i64 tiles, .int .i64 spare] 0 false true)) := (e6 n (by omega)).trans hp2
    have hq6 : M6 (n + 1) = (some (.cells [.int .i64 0, .slice none 0 0, .int .i64 0, .int .i64 0, .int .i64 0, .int .i64 0, .int .i64 0, .slice none 0 0, .slice none 0 0, .int .i64 0, .int .i64 0] 0 false true)) := (e6 (n + 1) (by omega)).trans hq2
    have hs5 : stV 1 [.int .i64 (IntKind.i64.wrap (tiles * r))] M4 (n + 3) (.pointer (some ⟨n + 2, 0 + 9, none⟩)) = .ok undef M5 (n + 3) (bit (n + 2)) (bit (n + 2)) :=
      (st1_at (by omega) hx4 (by simp) rfl).trans (by rw [← hM5]; rfl)
    have hs6 : stV 1 [.int .i64 (IntKind.i64.wrap (IntKind.i64.wrap (tiles * r) + spare))] M5 (n + 3) (.pointer (some ⟨n + 2, 0 + 10, none⟩)) = .ok undef M6 (n + 3) (bit (n + 2)) (bit (n + 2)) :=
      (st1_at (by omega) hx5 (by simp) rfl).trans (by rw [← hM6]; rfl)
    have h5 : ld1V M5 (n + 3) (.pointer (some ⟨n + 2, 0 + 9, none⟩)) = .ok (.int .i64 (IntKind.i64.wrap (tiles * r))) M5 (n + 3) (bit (n + 2)) 0 := ld1_at (by omega) hx5 rfl
    have s5 : ld1V M5 (n + 3) (.pointer (some ⟨n, 0 + 3, none⟩)) = .ok (.int .i64 spare) M5 (n + 3) (bit n) 0 := ld1_at (by omega) hp5 rfl
    have t6 : ld1V M6 (n + 3) (.pointer (some ⟨n, 0 + 2, none⟩)) = .ok (.int .i64 tiles) M6 (n + 3) (bit n) 0 := ld1_at (by omega) hp6 rfl
    have n6 : ld1V M6 (n + 3) (.pointer (some ⟨n + 2, 0 + 6, none⟩)) = .ok (.int .i64 K) M6 (n + 3) (bit (n + 2)) 0 := ld1_at (by omega) hx6 rfl
    have c6' : ld1V M6 (n + 3) (.pointer (some ⟨n + 2, 0 + 10, none⟩)) = .ok (.int .i64 (IntKind.i64.wrap (IntKind.i64.wrap (tiles * r) + spare))) M6 (n + 3) (bit (n + 2)) 0 := ld1_at (by omega) hx6 rfl
    have d6 : ldnV 11 M6 (n + 3) (.pointer (some ⟨n + 2, 0, none⟩)) = .ok (.agg #[.int .i64 disks, gv, .int .i64 tiles, .int .i64 spare, .int .i64 W, .int .i64 r, .int .i64 K, .slice none 0 0, .slice none 0 0, .int .i64 (IntKind.i64.wrap (tiles * r)), .int .i64 (IntKind.i64.wrap (IntKind.i64.wrap (tiles * r) + spare))]) M6 (n + 3) (bit (n + 2)) 0 := ldn_at (by omega) hx6 rfl
    obtain ⟨r46, h46⟩ := data_spec (E := E) (Y := Y) hE4 M6 (n + 3) disks tiles spare W r K gv (.int .i64 (IntKind.i64.wrap (tiles * r))) (.int .i64 (IntKind.i64.wrap (IntKind.i64.wrap (tiles * r) + spare)))
    have hst6 := hst M6 (n + 3) (by omega) hq6
    have hrs6 := hrs M6 (n + 3) (by omega) hq6
    have k6 : ∀ b, b < n → M6 b = m b := fun b hb => (e6 b (by omega)).trans (hfr2 b hb)
    by_cases c7 : 4096 < IntKind.i64.wrap (tiles * K)
    · simp (implicitDefEqProofs := false) only [Gv_add, w_seq, v_reg, q_cons, q_nil, q_nop, q_op, q_eff, q_opg, q_effg, keep_ok, drop1_ok, out_ok, crRec_mk, onNorm_norm, onNorm_exit, onNorm_ret, addRW_mk, w_cond, onCond_mk, w_block, onBlock_norm, onBlock_ret, onBlock_exit, w_pre, w_post, onPost_norm, onPost_exit, onPost_ret, w_exit, w_ret, onRet_mk, res_nil, res_cons, resO_v, retV_one, fixE_mk, lmap_nil, lmap_cons, ldrop_z, ldrop_s, ev_v, ev_c, lget_z, lget_s, evs_nil, evs_cons, s_mov, s_pick, s_bin, s_una, s_conv, s_fld, s_idx, s_ida, s_build, s_extr, s_nilck, s_len, s_mx, s_ld1, s_ldn, s_st, s_call, s_new, s_box, s_make, s_app, bin_int, i_add, i_sub, i_mul, i_eql, i_neq, i_lss, i_gtr, i_leq, i_geq, pick_mk, wantB_mk, una_not, fld_mk, nilck_mk, valO_some, lor_zero', zero_lor', cond_true, cond_false, Nat.beq_refl, natOf_mk, natOf_zero, natOf_one, obind_some, w_skip, Bool.not_true, Bool.not_false, wantB_undef, newb_fm, ptrP_mk, slcP_mk, cells_agg, hM1, hM2, s_st, s_build, s_ldn, aggO_some, parts3_nil, fill_nil, hdn, h34, x0, x1, x2, retV_two, resO_cells, u_regD, isOkC_ok, belowV_undef, belowV_addr, z_nil, z_cons, y_nil, y_cons, y_nop, y_op, y_eff, y_opg, y_effg, keepD_ok, outX_ok, apart_nil, apart_cons, zero_land', land_zero', stepD_ok', below_all, opds, List.all_cons, List.all_nil, belowV_int, belowV_bool, belowV_ptr, belowV_nils, Bool.and_self, Bool.and_true, Bool.true_and, Bool.or_true, Bool.true_or, Bool.false_or, Nat.reduceAdd, Nat.testBit, Nat.reduceShiftRight, Nat.reduceAnd, Nat.reduceBNe, List.map_cons, List.map_nil, h00, decide_true, decide_false, hd4, hgv1, hix0, hld0, hg0l, hgl, hba, hbg, hb0v, q1, q2, q3, l1, l2, hbL, hbX, parts3_cons, hfill, hM3, hs4, w4, t4, s4, cells_int, hs5, hs6, h5, s5, t6, n6, c6', d6, h46, hst6, hrs6, c1, c2, c3, c4, c5, c6, c7]
      exact ⟨rfl, by omega, k6, by (repeat (first | exact mod_zero _ | exact mod_bit_ge (by omega) | refine mod_lor' ?_ ?_))⟩
    by_cases c8 : 65536 < IntKind.i64.wrap (IntKind.i64.wrap (tiles * K) * IntKind.i64.wrap (W - 3))
    · simp (implicitDefEqProofs := false) only [Gv_add, w_seq, v_reg, q_cons, q_nil, q_nop, q_op, q_eff, q_opg, q_effg, keep_ok, drop1_ok, out_ok, crRec_mk, onNorm_norm, onNorm_exit, onNorm_ret, addRW_mk, w_cond, onCond_mk, w_block, onBlock_norm, onBlock_ret, onBlock_exit, w_pre, w_post, onPost_norm, onPost_exit, onPost_ret, w_exit, w_ret, onRet_mk, res_nil, res_cons, resO_v, retV_one, fixE_mk, lmap_nil, lmap_cons, ldrop_z, ldrop_s, ev_v, ev_c, lget_z, lget_s, evs_nil, evs_cons, s_mov, s_pick, s_bin, s_una, s_conv, s_fld, s_idx, s_ida, s_build, s_extr, s_nilck, s_len, s_mx, s_ld1, s_ldn, s_st, s_call, s_new, s_box, s_make, s_app, bin_int, i_add, i_sub, i_mul, i_eql, i_neq, i_lss, i_gtr, i_leq, i_geq, pick_mk, wantB_mk, una_not, fld_mk, nilck_mk, valO_some, lor_zero', zero_lor', cond_true, cond_false, Nat.beq_refl, natOf_mk, natOf_zero, natOf_one, obind_some, w_skip, Bool.not_true, Bool.not_false, wantB_undef, newb_fm, ptrP_mk, slcP_mk, cells_agg, hM1, hM2, s_st, s_build, s_ldn, aggO_some, parts3_nil, fill_nil, hdn, h34, x0, x1, x2, retV_two, resO_cells, u_regD, isOkC_ok, belowV_undef, belowV_addr, z_nil, z_cons, y_nil, y_cons, y_nop, y_op, y_eff, y_opg, y_effg, keepD_ok, outX_ok, apart_nil, apart_cons, zero_land', land_zero', stepD_ok', below_all, opds, List.all_cons, List.all_nil, belowV_int, belowV_bool, belowV_ptr, belowV_nils, Bool.and_self, Bool.and_true, Bool.true_and, Bool.or_true, Bool.true_or, Bool.false_or, Nat.reduceAdd, Nat.testBit, Nat.reduceShiftRight, Nat.reduceAnd, Nat.reduceBNe, List.map_cons, List.map_nil, h00, decide_true, decide_false, hd4, hgv1, hix0, hld0, hg0l, hgl, hba, hbg, hb0v, q1, q2, q3, l1, l2, hbL, hbX, parts3_cons, hfill, hM3, hs4, w4, t4, s4, cells_int, hs5, hs6, h5, s5, t6, n6, c6', d6, h46, hst6, hrs6, c1, c2, c3, c4, c5, c6, c7, c8]
      exact ⟨rfl, by omega, k6, by (repeat (first | exact mod_zero _ | exact mod_bit_ge (by omega) | refine mod_lor' ?_ ?_))⟩
    by_cases c9 : 65536 < IntKind.i64.wrap (IntKind.i64.wrap (tiles * r) + spare)
    · simp (implicitDefEqProofs := false) only [Gv_add, w_seq, v_reg, q_cons, q_nil, q_nop, q_op, q_eff, q_opg, q_effg, keep_ok, drop1_ok, out_ok, crRec_mk, onNorm_norm, onNorm_exit, onNorm_ret, addRW_mk, w_cond, onCond_mk, w_block, onBlock_norm, onBlock_ret, onBlock_exit, w_pre, w_post, onPost_norm, onPost_exit, onPost_ret, w_exit, w_ret, onRet_mk, res_nil, res_cons, resO_v, retV_one, fixE_mk, lmap_nil, lmap_cons, ldrop_z, ldrop_s, ev_v, ev_c, lget_z, lget_s, evs_nil, evs_cons, s_mov, s_pick, s_bin, s_una, s_conv, s_fld, s_idx, s_ida, s_build, s_extr, s_nilck, s_len, s_mx, s_ld1, s_ldn, s_st, s_call, s_new, s_box, s_make, s_app, bin_int, i_add, i_sub, i_mul, i_eql, i_neq, i_lss, i_gtr, i_leq, i_geq, pick_mk, wantB_mk, una_not, fld_mk, nilck_mk, valO_some, lor_zero', zero_lor', cond_true, cond_false, Nat.beq_refl, natOf_mk, natOf_zero, natOf_one, obind_some, w_skip, Bool.not_true, Bool.not_false, wantB_undef, newb_fm, ptrP_mk, slcP_mk, cells_agg, hM1, hM2, s_st, s_build, s_ldn, aggO_some, parts3_nil, fill_nil, hdn, h34, x0, x1, x2, retV_two, resO_cells, u_regD, isOkC_ok, belowV_undef, belowV_addr, z_nil, z_cons, y_nil, y_cons, y_nop, y_op, y_eff, y_opg, y_effg, keepD_ok, outX_ok, apart_nil, apart_cons, zero_land', land_zero', stepD_ok', below_all, opds, List.all_cons, List.all_nil, belowV_int, belowV_bool, belowV_ptr, belowV_nils, Bool.and_self, Bool.and_true, Bool.true_and, Bool.or_true, Bool.true_or, Bool.false_or, Nat.reduceAdd, Nat.testBit, Nat.reduceShiftRight, Nat.reduceAnd, Nat.reduceBNe, List.map_cons, List.map_nil, h00, decide_true, decide_false, hd4, hgv1, hix0, hld0, hg0l, hgl, hba, hbg, hb0v, q1, q2, q3, l1, l2, hbL, hbX, parts3_cons, hfill, hM3, hs4, w4, t4, s4, cells_int, hs5, hs6, h5, s5, t6, n6, c6', d6, h46, hst6, hrs6, c1, c2, c3, c4, c5, c6, c7, c8, c9]
      exact ⟨rfl, by omega, k6, by (repeat (first | exact mod_zero _ | exact mod_bit_ge (by omega) | refine mod_lor' ?_ ?_))⟩
    exact absurd ⟨by omega, by omega, by omega, by omega, by omega, by omega, by omega, by omega, by omega⟩ hVR
  · rw [checkV_bad hg, errT] at h34
    have h50 : decide ((5 : Int) = 0) = false := rfl
    simp only [Gv_add, w_seq, v_reg, q_cons, q_nil, q_nop, q_op, q_eff, q_opg, q_effg, keep_ok, drop1_ok, out_ok, crRec_mk, onNorm_norm, onNorm_exit, onNorm_ret, addRW_mk, w_cond, onCond_mk, w_block, onBlock_norm, onBlock_ret, onBlock_exit, w_pre, w_post, onPost_norm, onPost_exit, onPost_ret, w_exit, w_ret, onRet_mk, res_nil, res_cons, resO_v, retV_one, fixE_mk, lmap_nil, lmap_cons, ldrop_z, ldrop_s, ev_v, ev_c, lget_z, lget_s, evs_nil, evs_cons, s_mov, s_pick, s_bin, s_una, s_conv, s_fld, s_idx, s_ida, s_build, s_extr, s_nilck, s_len, s_mx, s_ld1, s_ldn, s_st, s_call, s_new, s_box, s_make, s_app, bin_int, i_add, i_sub, i_mul, i_eql, i_neq, i_lss, i_gtr, i_leq, i_geq, pick_mk, wantB_mk, una_not, fld_mk, nilck_mk, valO_some, lor_zero', zero_lor', cond_true, cond_false, Nat.beq_refl, natOf_mk, natOf_zero, natOf_one, obind_some, w_skip, Bool.not_true, Bool.not_false, wantB_undef, newb_fm, ptrP_mk, slcP_mk, cells_agg, hM1, hM2, s_st, s_build, s_ldn, aggO_some, parts3_nil, fill_nil, hdn, h34, x0, x1, x2, retV_two, resO_cells, h50, hst2, hrs2]
    exact ⟨rfl, by omega, hfr2, by (repeat (first | exact mod_zero _ | exact mod_bit_ge (by omega) | refine mod_lor' ?_ ?_))⟩
end Go.Am.C21
