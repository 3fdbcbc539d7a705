/- Chapter 21: design.Check, the second part. -/
import Derived.Test.YtaohgpgbphlblaaAm21c
set_option linter.unusedVariables false
set_option linter.unusedSimpArgs false
set_option linter.unusedSectionVars false
namespace Go.Am.C21
open Go Go.Am
set_option linter.unusedVariables false
variable {E : Nat → Option AFn} {Y : Nat → List Value → FM → Nat → OR FM}
def errT : Value := .tuple #[.int .i64 0, .int .i64 0, .int .i64 5]
theorem retV_three (a b c : Value) : retV [a, b, c] = .tuple #[a, b, c] := rfl
/-- a row of the counts is as it must be, from a place on -/
def BalRow (A : List Int) (D : Nat) (r lam : Int) (a j : Nat) : Prop := ∀ b, j ≤ b → b < D → A[60 * a + b]?.getD 0 = if a = b then r else lam
theorem balRow_step {A : List Int} {D : Nat} {r lam : Int} {a j : Nat} (h : j < D) : BalRow A D r lam a j ↔ (A[60 * a + j]?.getD 0 = if a = j then r else lam) ∧ BalRow A D r lam a (j + 1) :=
  ⟨fun hr => ⟨hr j (Nat.le_refl _) h, fun i h1 h2 => hr i (by omega) h2⟩, fun ⟨h1, h2⟩ i h3 h4 => by
    rcases Nat.eq_or_lt_of_le h3 with rfl | h5
    · exact h1
    · exact h2 i h5 h4⟩
theorem check_L3 (M : FM) (N q : Nat) (hqN : q < N) (A : List Int) (hA : A.length = 3600) (D : Nat) (hD : D ≤ 60) (r lam : Int) (a : Nat) (ha : a < D) (x0 x1 x2 x4 x6 x7 x8 x9 x10 x12 x13 x16 x17 x18 x20 x21 x22 x23 x24 x25 : Value) : ∀ d j, j + d = D →
    Gv (execW PG E Y ac34L3 [x0, x1, x2, .int .i64 (j : Int), x4, .int .i64 (D : Int), x6, x7, x8, x9, x10, .int .i64 (a : Int), x12, x13, .int .i64 lam, .int .i64 r, x16, x17, x18, .pointer (some ⟨q, 0, none⟩), x20, x21, x22, x23, x24, x25] (arr M q A) N) fun X e' m' n' w => m' = arr M q A ∧ n' = N ∧ w = 0 ∧
      ((BalRow A D r lam a j ∧ X = .exit 8 ∧ e' = [x0, x1, x2, .int .i64 (D : Int), x4, .int .i64 (D : Int), x6, x7, x8, x9, x10, .int .i64 (a : Int), x12, x13, .int .i64 lam, .int .i64 r, x16, x17, x18, .pointer (some ⟨q, 0, none⟩), x20, x21, x22, x23, x24, x25]) ∨ (¬ BalRow A D r lam a j ∧ X = .ret errT)) := by
  intro d
  induction d with
  | zero =>
    intro j hj
    have hjl : (j : Int) = (D : Int) := by omega
    have hlt : ¬ ((D : Int) < (D : Int)) := by omega
    rw [ac34L3_w, hjl]
    simp only [ac34L3b, Gv_add, w_seq, v_reg, q_cons, q_nil, q_nop, q_op, q_eff, q_opg, q_effg, keep_ok, drop1_ok, out_ok, crRec_mk, onNorm_norm, onNorm_exit, onNorm_ret, addRW_mk, w_cond, onCond_mk, w_block, onBlock_norm, onBlock_ret, onBlock_exit, w_pre, w_post, onPost_norm, onPost_exit, onPost_ret, w_exit, w_ret, onRet_mk, res_nil, res_cons, resO_v, retV_one, fixE_mk, lmap_nil, lmap_cons, ldrop_z, ldrop_s, ev_v, ev_c, lget_z, lget_s, evs_nil, evs_cons, s_mov, s_pick, s_bin, s_una, s_conv, s_fld, s_idx, s_ida, s_build, s_extr, s_nilck, s_len, s_mx, s_ld1, s_ldn, s_st, s_call, s_new, s_box, s_make, s_app, bin_int, i_add, i_sub, i_mul, i_eql, i_neq, i_lss, i_gtr, i_leq, i_geq, pick_mk, wantB_mk, una_not, fld_mk, nilck_mk, valO_some, lor_zero', zero_lor', cond_true, cond_false, Nat.beq_refl, natOf_mk, natOf_zero, natOf_one, obind_some, w_skip, Bool.not_true, Bool.not_false, wantB_undef, newb_fm, ptrP_mk, slcP_mk, cells_agg, hlt, decide_false]
    exact ⟨rfl, rfl, rfl, .inl ⟨fun b h1 h2 => by omega, rfl, rfl⟩⟩
  | succ d ih =>
    intro j hj
    have hlt : (j : Int) < (D : Int) := by omega
    have hjl : j < D := by omega
    have hw : IntKind.i64.wrap ((j : Int) + 1) = ((j + 1 : Nat) : Int) := by rw [wrap_small (by omega) (by omega)]; omega
    have hk : 0 + a * 60 + j * 1 < A.length := by omega
    have hcell : ((A.map (Value.int .i64)))[0 + a * 60 + j * 1]? = some (.int .i64 A[0 + a * 60 + j * 1]) := by simp [List.getElem?_eq_getElem hk]
    have hl1 : ld1V (arr M q A) N (.pointer (some ⟨q, 0 + a * 60 + j * 1, none⟩)) = .ok (.int .i64 A[0 + a * 60 + j * 1]) (arr M q A) N (bit q) 0 := ld1_at hqN (fput_same M q _) hcell
    have hda : idaV 60 60 a (.pointer (some ⟨q, 0, none⟩)) = _ := ida_ok (by omega)
    have hdb : idaV 60 1 j (.pointer (some ⟨q, 0 + a * 60, none⟩)) = _ := ida_ok (by omega)
    have hAe : A[60 * a + j]?.getD 0 = A[0 + a * 60 + j * 1] := by
      have e : 60 * a + j = 0 + a * 60 + j * 1 := by omega
      rw [e, List.getElem?_eq_getElem hk]; rfl
    have hstep := balRow_step (A := A) (r := r) (lam := lam) (a := a) hjl
    rw [hAe] at hstep
    rw [ac34L3_w]
    by_cases hab0 : (a : Int) = (j : Int)
    · have hab : decide ((a : Int) = (j : Int)) = true := decide_eq_true hab0
      have hab' : a = j := by omega
      rw [if_pos hab'] at hstep
      by_cases hv0 : A[0 + a * 60 + j * 1] = r
      · have hv : decide (A[0 + a * 60 + j * 1] = r) = true := decide_eq_true hv0
        simp only [ac34L3b, Gv_add, w_seq, v_reg, q_cons, q_nil, q_nop, q_op, q_eff, q_opg, q_effg, keep_ok, drop1_ok, out_ok, crRec_mk, onNorm_norm, onNorm_exit, onNorm_ret, addRW_mk, w_cond, onCond_mk, w_block, onBlock_norm, onBlock_ret, onBlock_exit, w_pre, w_post, onPost_norm, onPost_exit, onPost_ret, w_exit, w_ret, onRet_mk, res_nil, res_cons, resO_v, retV_one, fixE_mk, lmap_nil, lmap_cons, ldrop_z, ldrop_s, ev_v, ev_c, lget_z, lget_s, evs_nil, evs_cons, s_mov, s_pick, s_bin, s_una, s_conv, s_fld, s_idx, s_ida, s_build, s_extr, s_nilck, s_len, s_mx, s_ld1, s_ldn, s_st, s_call, s_new, s_box, s_make, s_app, bin_int, i_add, i_sub, i_mul, i_eql, i_neq, i_lss, i_gtr, i_leq, i_geq, pick_mk, wantB_mk, una_not, fld_mk, nilck_mk, valO_some, lor_zero', zero_lor', cond_true, cond_false, Nat.beq_refl, natOf_mk, natOf_zero, natOf_one, obind_some, w_skip, Bool.not_true, Bool.not_false, wantB_undef, newb_fm, ptrP_mk, slcP_mk, cells_agg, hlt, decide_true, hda, hdb, hl1, hab, hv, retV_three, hw]
        refine Gv.mono (ih (j + 1) (by omega)) fun X e' m' n' w h => ?_
        have hiff : BalRow A D r lam a j ↔ BalRow A D r lam a (j + 1) := by rw [hstep]; exact ⟨fun h => h.2, fun h => ⟨hv0, h⟩⟩
        rw [hiff]
        simpa only [zero_lor'] using h
      · have hv : decide (A[0 + a * 60 + j * 1] = r) = false := decide_eq_false hv0
        simp only [ac34L3b, Gv_add, w_seq, v_reg, q_cons, q_nil, q_nop, q_op, q_eff, q_opg, q_effg, keep_ok, drop1_ok, out_ok, crRec_mk, onNorm_norm, onNorm_exit, onNorm_ret, addRW_mk, w_cond, onCond_mk, w_block, onBlock_norm, onBlock_ret, onBlock_exit, w_pre, w_post, onPost_norm, onPost_exit, onPost_ret, w_exit, w_ret, onRet_mk, res_nil, res_cons, resO_v, retV_one, fixE_mk, lmap_nil, lmap_cons, ldrop_z, ldrop_s, ev_v, ev_c, lget_z, lget_s, evs_nil, evs_cons, s_mov, s_pick, s_bin, s_una, s_conv, s_fld, s_idx, s_ida, s_build, s_extr, s_nilck, s_len, s_mx, s_ld1, s_ldn, s_st, s_call, s_new, s_box, s_make, s_app, bin_int, i_add, i_sub, i_mul, i_eql, i_neq, i_lss, i_gtr, i_leq, i_geq, pick_mk, wantB_mk, una_not, fld_mk, nilck_mk, valO_some, lor_zero', zero_lor', cond_true, cond_false, Nat.beq_refl, natOf_mk, natOf_zero, natOf_one, obind_some, w_skip, Bool.not_true, Bool.not_false, wantB_undef, newb_fm, ptrP_mk, slcP_mk, cells_agg, hlt, decide_true, decide_false, hda, hdb, hl1, hab, hv, retV_three]
        exact ⟨rfl, rfl, rfl, .inr ⟨fun h => hv0 (hstep.1 h).1, rfl⟩⟩
    · have hab : decide ((a : Int) = (j : Int)) = false := decide_eq_false hab0
      have hab' : ¬ a = j := by omega
      rw [if_neg hab'] at hstep
      by_cases hv0 : A[0 + a * 60 + j * 1] = lam
      · have hv : decide (A[0 + a * 60 + j * 1] = lam) = true := decide_eq_true hv0
        simp only [ac34L3b, Gv_add, w_seq, v_reg, q_cons, q_nil, q_nop, q_op, q_eff, q_opg, q_effg, keep_ok, drop1_ok, out_ok, crRec_mk, onNorm_norm, onNorm_exit, onNorm_ret, addRW_mk, w_cond, onCond_mk, w_block, onBlock_norm, onBlock_ret, onBlock_exit, w_pre, w_post, onPost_norm, onPost_exit, onPost_ret, w_exit, w_ret, onRet_mk, res_nil, res_cons, resO_v, retV_one, fixE_mk, lmap_nil, lmap_cons, ldrop_z, ldrop_s, ev_v, ev_c, lget_z, lget_s, evs_nil, evs_cons, s_mov, s_pick, s_bin, s_una, s_conv, s_fld, s_idx, s_ida, s_build, s_extr, s_nilck, s_len, s_mx, s_ld1, s_ldn, s_st, s_call, s_new, s_box, s_make, s_app, bin_int, i_add, i_sub, i_mul, i_eql, i_neq, i_lss, i_gtr, i_leq, i_geq, pick_mk, wantB_mk, una_not, fld_mk, nilck_mk, valO_some, lor_zero', zero_lor', cond_true, cond_false, Nat.beq_refl, natOf_mk, natOf_zero, natOf_one, obind_some, w_skip, Bool.not_true, Bool.not_false, wantB_undef, newb_fm, ptrP_mk, slcP_mk, cells_agg, hlt, decide_true, decide_false, hda, hdb, hl1, hab, hv, retV_three, hw]
        refine Gv.mono (ih (j + 1) (by omega)) fun X e' m' n' w h => ?_
        have hiff : BalRow A D r lam a j ↔ BalRow A D r lam a (j + 1) := by rw [hstep]; exact ⟨fun h => h.2, fun h => ⟨hv0, h⟩⟩
        rw [hiff]
        simpa only [zero_lor'] using h
      · have hv : decide (A[0 + a * 60 + j * 1] = lam) = false := decide_eq_false hv0
        simp only [ac34L3b, Gv_add, w_seq, v_reg, q_cons, q_nil, q_nop, q_op, q_eff, q_opg, q_effg, keep_ok, drop1_ok, out_ok, crRec_mk, onNorm_norm, onNorm_exit, onNorm_ret, addRW_mk, w_cond, onCond_mk, w_block, onBlock_norm, onBlock_ret, onBlock_exit, w_pre, w_post, onPost_norm, onPost_exit, onPost_ret, w_exit, w_ret, onRet_mk, res_nil, res_cons, resO_v, retV_one, fixE_mk, lmap_nil, lmap_cons, ldrop_z, ldrop_s, ev_v, ev_c, lget_z, lget_s, evs_nil, evs_cons, s_mov, s_pick, s_bin, s_una, s_conv, s_fld, s_idx, s_ida, s_build, s_extr, s_nilck, s_len, s_mx, s_ld1, s_ldn, s_st, s_call, s_new, s_box, s_make, s_app, bin_int, i_add, i_sub, i_mul, i_eql, i_neq, i_lss, i_gtr, i_leq, i_geq, pick_mk, wantB_mk, una_not, fld_mk, nilck_mk, valO_some, lor_zero', zero_lor', cond_true, cond_false, Nat.beq_refl, natOf_mk, natOf_zero, natOf_one, obind_some, w_skip, Bool.not_true, Bool.not_false, wantB_undef, newb_fm, ptrP_mk, slcP_mk, cells_agg, hlt, decide_true, decide_false, hda, hdb, hl1, hab, hv, retV_three]
        exact ⟨rfl, rfl, rfl, .inr ⟨fun h => hv0 (hstep.1 h).1, rfl⟩⟩
theorem check_L3_yes (M : FM) (N q : Nat) (hqN : q < N) (A : List Int) (hA : A.length = 3600) (D : Nat) (hD : D ≤ 60) (r lam : Int) (a : Nat) (ha : a < D) (hb : BalRow A D r lam a 0) : ∃ rf : List Value → Nat, ∀ x0 x1 x2 x4 x6 x7 x8 x9 x10 x12 x13 x16 x17 x18 x20 x21 x22 x23 x24 x25, execW PG E Y ac34L3 [x0, x1, x2, .int .i64 0, x4, .int .i64 (D : Int), x6, x7, x8, x9, x10, .int .i64 (a : Int), x12, x13, .int .i64 lam, .int .i64 r, x16, x17, x18, .pointer (some ⟨q, 0, none⟩), x20, x21, x22, x23, x24, x25] (arr M q A) N = .ok (.exit 8) [x0, x1, x2, .int .i64 (D : Int), x4, .int .i64 (D : Int), x6, x7, x8, x9, x10, .int .i64 (a : Int), x12, x13, .int .i64 lam, .int .i64 r, x16, x17, x18, .pointer (some ⟨q, 0, none⟩), x20, x21, x22, x23, x24, x25] (arr M q A) N (rf [x0, x1, x2, .int .i64 0, x4, .int .i64 (D : Int), x6, x7, x8, x9, x10, .int .i64 (a : Int), x12, x13, .int .i64 lam, .int .i64 r, x16, x17, x18, .pointer (some ⟨q, 0, none⟩), x20, x21, x22, x23, x24, x25]) 0 := by
  obtain ⟨rf, ef, h⟩ := named_r (fun l => execW PG E Y ac34L3 l (arr M q A) N)
  refine ⟨rf, fun x0 x1 x2 x4 x6 x7 x8 x9 x10 x12 x13 x16 x17 x18 x20 x21 x22 x23 x24 x25 => ?_⟩
  rw [(h _).1]
  refine gv_norm (Gv.mono (check_L3 (E := E) (Y := Y) M N q hqN A hA D hD r lam a ha x0 x1 x2 x4 x6 x7 x8 x9 x10 x12 x13 x16 x17 x18 x20 x21 x22 x23 x24 x25 D 0 (by omega)) fun X e' m' n' w hh => ?_)
  obtain ⟨h1, h2, h3, h4⟩ := hh
  rcases h4 with ⟨_, h5, h6⟩ | ⟨h5, _⟩
  · exact ⟨h5, h6, h1, h2, h3⟩
  · exact absurd hb h5
theorem check_L3_no (M : FM) (N q : Nat) (hqN : q < N) (A : List Int) (hA : A.length = 3600) (D : Nat) (hD : D ≤ 60) (r lam : Int) (a : Nat) (ha : a < D) (hb : ¬ BalRow A D r lam a 0) : ∃ (rf : List Value → Nat) (ef : List Value → List Value), ∀ x0 x1 x2 x4 x6 x7 x8 x9 x10 x12 x13 x16 x17 x18 x20 x21 x22 x23 x24 x25, execW PG E Y ac34L3 [x0, x1, x2, .int .i64 0, x4, .int .i64 (D : Int), x6, x7, x8, x9, x10, .int .i64 (a : Int), x12, x13, .int .i64 lam, .int .i64 r, x16, x17, x18, .pointer (some ⟨q, 0, none⟩), x20, x21, x22, x23, x24, x25] (arr M q A) N = .ok (.ret errT) (ef [x0, x1, x2, .int .i64 0, x4, .int .i64 (D : Int), x6, x7, x8, x9, x10, .int .i64 (a : Int), x12, x13, .int .i64 lam, .int .i64 r, x16, x17, x18, .pointer (some ⟨q, 0, none⟩), x20, x21, x22, x23, x24, x25]) (arr M q A) N (rf [x0, x1, x2, .int .i64 0, x4, .int .i64 (D : Int), x6, x7, x8, x9, x10, .int .i64 (a : Int), x12, x13, .int .i64 lam, .int .i64 r, x16, x17, x18, .pointer (some ⟨q, 0, none⟩), x20, x21, x22, x23, x24, x25]) 0 := by
  obtain ⟨rf, ef, h⟩ := named_r (fun l => execW PG E Y ac34L3 l (arr M q A) N)
  refine ⟨rf, ef, fun x0 x1 x2 x4 x6 x7 x8 x9 x10 x12 x13 x16 x17 x18 x20 x21 x22 x23 x24 x25 => ?_⟩
  rw [(h _).1, (h _).2]
  refine gv_ret (Gv.mono (check_L3 (E := E) (Y := Y) M N q hqN A hA D hD r lam a ha x0 x1 x2 x4 x6 x7 x8 x9 x10 x12 x13 x16 x17 x18 x20 x21 x22 x23 x24 x25 D 0 (by omega)) fun X e' m' n' w hh => ?_)
  obtain ⟨h1, h2, h3, h4⟩ := hh
  rcases h4 with ⟨h5, _, _⟩ | ⟨_, h5⟩
  · exact absurd h5 hb
  · exact ⟨h5, h1, h2, h3⟩
def Bal (A : List Int) (D : Nat) (r lam : Int) (j : Nat) : Prop := ∀ a, j ≤ a → a < D → BalRow A D r lam a 0
theorem bal_step {A : List Int} {D : Nat} {r lam : Int} {j : Nat} (h : j < D) : Bal A D r lam j ↔ BalRow A D r lam j 0 ∧ Bal A D r lam (j + 1) :=
  ⟨fun hr => ⟨hr j (Nat.le_refl _) h, fun i h1 h2 => hr i (by omega) h2⟩, fun ⟨h1, h2⟩ i h3 h4 => by
    rcases Nat.eq_or_lt_of_le h3 with rfl | h5
    · exact h1
    · exact h2 i h5 h4⟩
theorem check_L4 (M : FM) (N q : Nat) (hqN : q < N) (A : List Int) (hA : A.length = 3600) (D : Nat) (hD : D ≤ 60) (r lam : Int) (p : Nat) (hpd : ld1V (arr M q A) N (.pointer (some ⟨p, 0 + 0, none⟩)) = .ok (.int .i64 (D : Int)) (arr M q A) N (bit p) 0) (x0 x1 x2 x4 x8 x9 x10 x12 x13 x14 x15 x17 : Value) : ∀ d j, j + d = D →
    Gv (execW PG E Y ac34L4 [x0, x1, x2, .int .i64 (j : Int), x4, .int .i64 (D : Int), .int .i64 lam, .int .i64 r, x8, x9, x10, .pointer (some ⟨q, 0, none⟩), x12, x13, x14, x15, .pointer (some ⟨p, 0, none⟩), x17] (arr M q A) N) fun X e' m' n' w => m' = arr M q A ∧ n' = N ∧ w = 0 ∧
      ((Bal A D r lam j ∧ X = .exit 6 ∧ e' = [x0, x1, x2, x4, .int .i64 (D : Int), .int .i64 lam, .int .i64 r, x8, x9, x10, .pointer (some ⟨q, 0, none⟩), x12, x13, x14, x15, .pointer (some ⟨p, 0, none⟩), x17]) ∨ (¬ Bal A D r lam j ∧ X = .ret errT)) := by
  intro d
  induction d with
  | zero =>
    intro j hj
    have hjl : (j : Int) = (D : Int) := by omega
    have hlt : ¬ ((D : Int) < (D : Int)) := by omega
    rw [ac34L4_w, hjl]
    simp only [ac34L4b, Gv_add, w_seq, v_reg, q_cons, q_nil, q_nop, q_op, q_eff, q_opg, q_effg, keep_ok, drop1_ok, out_ok, crRec_mk, onNorm_norm, onNorm_exit, onNorm_ret, addRW_mk, w_cond, onCond_mk, w_block, onBlock_norm, onBlock_ret, onBlock_exit, w_pre, w_post, onPost_norm, onPost_exit, onPost_ret, w_exit, w_ret, onRet_mk, res_nil, res_cons, resO_v, retV_one, fixE_mk, lmap_nil, lmap_cons, ldrop_z, ldrop_s, ev_v, ev_c, lget_z, lget_s, evs_nil, evs_cons, s_mov, s_pick, s_bin, s_una, s_conv, s_fld, s_idx, s_ida, s_build, s_extr, s_nilck, s_len, s_mx, s_ld1, s_ldn, s_st, s_call, s_new, s_box, s_make, s_app, bin_int, i_add, i_sub, i_mul, i_eql, i_neq, i_lss, i_gtr, i_leq, i_geq, pick_mk, wantB_mk, una_not, fld_mk, nilck_mk, valO_some, lor_zero', zero_lor', cond_true, cond_false, Nat.beq_refl, natOf_mk, natOf_zero, natOf_one, obind_some, w_skip, Bool.not_true, Bool.not_false, wantB_undef, newb_fm, ptrP_mk, slcP_mk, cells_agg, hlt, decide_false]
    exact ⟨rfl, rfl, rfl, .inl ⟨fun b h1 h2 => by omega, rfl, rfl⟩⟩
  | succ d ih =>
    intro j hj
    have hlt : (j : Int) < (D : Int) := by omega
    have hjl : j < D := by omega
    have hw : IntKind.i64.wrap ((j : Int) + 1) = ((j + 1 : Nat) : Int) := by rw [wrap_small (by omega) (by omega)]; omega
    have hstep := bal_step (A := A) (r := r) (lam := lam) hjl
    rw [ac34L4_w]
    by_cases hb : BalRow A D r lam j 0
    · obtain ⟨rf, hrf⟩ := check_L3_yes (E := E) (Y := Y) M N q hqN A hA D hD r lam j hjl hb
      simp only [ac34L4b, Gv_add, w_seq, v_reg, q_cons, q_nil, q_nop, q_op, q_eff, q_opg, q_effg, keep_ok, drop1_ok, out_ok, crRec_mk, onNorm_norm, onNorm_exit, onNorm_ret, addRW_mk, w_cond, onCond_mk, w_block, onBlock_norm, onBlock_ret, onBlock_exit, w_pre, w_post, onPost_norm, onPost_exit, onPost_ret, w_exit, w_ret, onRet_mk, res_nil, res_cons, resO_v, retV_one, fixE_mk, lmap_nil, lmap_cons, ldrop_z, ldrop_s, ev_v, ev_c, lget_z, lget_s, evs_nil, evs_cons, s_mov, s_pick, s_bin, s_una, s_conv, s_fld, s_idx, s_ida, s_build, s_extr, s_nilck, s_len, s_mx, s_ld1, s_ldn, s_st, s_call, s_new, s_box, s_make, s_app, bin_int, i_add, i_sub, i_mul, i_eql, i_neq, i_lss, i_gtr, i_leq, i_geq, pick_mk, wantB_mk, una_not, fld_mk, nilck_mk, valO_some, lor_zero', zero_lor', cond_true, cond_false, Nat.beq_refl, natOf_mk, natOf_zero, natOf_one, obind_some, w_skip, Bool.not_true, Bool.not_false, wantB_undef, newb_fm, ptrP_mk, slcP_mk, cells_agg, hlt, decide_true, hpd, hrf, hw]
      refine Gv.mono (ih (j + 1) (by omega)) fun X e' m' n' w h => ?_
      have hiff : Bal A D r lam j ↔ Bal A D r lam (j + 1) := by rw [hstep]; exact ⟨fun h => h.2, fun h => ⟨hb, h⟩⟩
      rw [hiff]
      simpa only [zero_lor'] using h
    · obtain ⟨rf, ef, hrf⟩ := check_L3_no (E := E) (Y := Y) M N q hqN A hA D hD r lam j hjl hb
      simp only [ac34L4b, Gv_add, w_seq, v_reg, q_cons, q_nil, q_nop, q_op, q_eff, q_opg, q_effg, keep_ok, drop1_ok, out_ok, crRec_mk, onNorm_norm, onNorm_exit, onNorm_ret, addRW_mk, w_cond, onCond_mk, w_block, onBlock_norm, onBlock_ret, onBlock_exit, w_pre, w_post, onPost_norm, onPost_exit, onPost_ret, w_exit, w_ret, onRet_mk, res_nil, res_cons, resO_v, retV_one, fixE_mk, lmap_nil, lmap_cons, ldrop_z, ldrop_s, ev_v, ev_c, lget_z, lget_s, evs_nil, evs_cons, s_mov, s_pick, s_bin, s_una, s_conv, s_fld, s_idx, s_ida, s_build, s_extr, s_nilck, s_len, s_mx, s_ld1, s_ldn, s_st, s_call, s_new, s_box, s_make, s_app, bin_int, i_add, i_sub, i_mul, i_eql, i_neq, i_lss, i_gtr, i_leq, i_geq, pick_mk, wantB_mk, una_not, fld_mk, nilck_mk, valO_some, lor_zero', zero_lor', cond_true, cond_false, Nat.beq_refl, natOf_mk, natOf_zero, natOf_one, obind_some, w_skip, Bool.not_true, Bool.not_false, wantB_undef, newb_fm, ptrP_mk, slcP_mk, cells_agg, hlt, decide_true, hpd, hrf, hw]
      exact ⟨rfl, rfl, rfl, .inr ⟨fun h => hb (hstep.1 h).1, rfl⟩⟩
end Go.Am.C21
