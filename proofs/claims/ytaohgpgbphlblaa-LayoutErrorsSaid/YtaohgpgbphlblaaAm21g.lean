/- Chapter 21: tegularef07.Check, the counts. -/
import Derived.Test.YtaohgpgbphlblaaAm21f
set_option linter.unusedVariables false
set_option linter.unusedSimpArgs false
set_option linter.unusedSectionVars false
namespace Go.Am.C21
open Go Go.Am
set_option linter.unusedVariables false
variable {E : Nat → Option AFn} {Y : Nat → List Value → FM → Nat → OR FM}
theorem ref_L1 (M : FM) (N q n0 : Nat) (hqN : q < N) (hn0 : n0 ≤ q) (g : List Int) (gval : Value) (hg : ∀ A, Ints (arr M q A) N gval g) (hl : g.length < 4611686018427387904) (hin : ∀ (i : Nat) (x : Int), g[i]? = some x → 0 ≤ x ∧ x < 60) (a : Nat) (ha : a < 60) (i : Nat) (hi : i < g.length) (hai : g[i] = (a : Int))
    (x1 x2 x3 x5 x6 x7 x8 x9 x10 x11 x12 x13 x14 x15 x16 x17 x18 x19 x20 x21 x23 x24 x25 x26 x27 x28 x29 x30 x31 x32 x33 x34 x36 x37 x38 x39 x40 x41 : Value) : ∀ d j, j + d = g.length → ∀ A : List Int, A.length = 3600 →
    Gv (execW PG E Y ac44L1 [.int .i64 (j : Int), x1, x2, x3, .int .i64 (i : Int), x5, x6, x7, x8, x9, x10, x11, x12, x13, x14, x15, x16, x17, x18, x19, x20, x21, gval, x23, x24, x25, x26, x27, x28, x29, x30, x31, x32, x33, x34, .pointer (some ⟨q, 0, none⟩), x36, x37, x38, x39, x40, x41] (arr M q A) N) fun X e' m' n' w =>
      X = .exit 6 ∧ e' = [.int .i64 (g.length : Int), x1, x2, x3, .int .i64 (i : Int), x5, x6, x7, x8, x9, x10, x11, x12, x13, x14, x15, x16, x17, x18, x19, x20, x21, gval, x23, x24, x25, x26, x27, x28, x29, x30, x31, x32, x33, x34, .pointer (some ⟨q, 0, none⟩), x36, x37, x38, x39, x40, x41] ∧ m' = arr M q (bumpRow A a (g.drop j)) ∧ n' = N ∧ Nat.mod w (bit n0) = 0 := by
  intro d
  induction d with
  | zero =>
    intro j hj A hA
    have hjl : (j : Int) = (g.length : Int) := by omega
    have hlt : ¬ ((g.length : Int) < (g.length : Int)) := by omega
    rw [ac44L1_w, hjl]
    simp only [ac44L1b, Gv_add, w_seq, v_reg, q_cons, q_nil, q_nop, q_op, q_eff, q_opg, q_effg, keep_ok, drop1_ok, out_ok, crRec_mk, onNorm_norm, onNorm_exit, onNorm_ret, addRW_mk, w_cond, onCond_mk, w_block, onBlock_norm, onBlock_ret, onBlock_exit, w_pre, w_post, onPost_norm, onPost_exit, onPost_ret, w_exit, w_ret, onRet_mk, res_nil, res_cons, resO_v, retV_one, fixE_mk, lmap_nil, lmap_cons, ldrop_z, ldrop_s, ev_v, ev_c, lget_z, lget_s, evs_nil, evs_cons, s_mov, s_pick, s_bin, s_una, s_conv, s_fld, s_idx, s_ida, s_build, s_extr, s_nilck, s_len, s_mx, s_ld1, s_ldn, s_st, s_call, s_new, s_box, s_make, s_app, bin_int, i_add, i_sub, i_mul, i_eql, i_neq, i_lss, i_gtr, i_leq, i_geq, pick_mk, wantB_mk, una_not, fld_mk, nilck_mk, valO_some, lor_zero', zero_lor', cond_true, cond_false, Nat.beq_refl, natOf_mk, natOf_zero, natOf_one, obind_some, w_skip, Bool.not_true, Bool.not_false, wantB_undef, newb_fm, ptrP_mk, slcP_mk, cells_agg, (hg A).len, hlt, decide_false]
    exact ⟨rfl, rfl, by rw [List.drop_eq_nil_of_le (by omega)]; rfl, rfl, mod_zero _⟩
  | succ d ih =>
    intro j hj A hA
    have hlt : (j : Int) < (g.length : Int) := by omega
    have hjl : j < g.length := by omega
    have hbg : belowV N gval = true := Sl.below (hg A)
    obtain ⟨p0, b0, hix0, hld0, hb0⟩ := (hg A).at hi
    have hba0 := idx_block hix0 hbg
    rw [hai] at hld0
    obtain ⟨p1, b1, hix, hld, hb⟩ := (hg A).at hjl
    have hba := idx_block hix hbg
    obtain ⟨hx0, hx60⟩ := hin j g[j] (List.getElem?_eq_getElem hjl)
    obtain ⟨b, hbx⟩ : ∃ b : Nat, g[j] = (b : Int) := ⟨g[j].toNat, by omega⟩
    have hb60 : b < 60 := by omega
    rw [hbx] at hld
    have hw : IntKind.i64.wrap ((j : Int) + 1) = ((j + 1 : Nat) : Int) := by rw [wrap_small (by omega) (by omega)]; omega
    have hk : 0 + a * 60 + b * 1 < A.length := by omega
    have hcell : ((A.map (Value.int .i64)))[0 + a * 60 + b * 1]? = some (.int .i64 A[0 + a * 60 + b * 1]) := by simp [List.getElem?_eq_getElem hk]
    have hl1 : ld1V (arr M q A) N (.pointer (some ⟨q, 0 + a * 60 + b * 1, none⟩)) = .ok (.int .i64 A[0 + a * 60 + b * 1]) (arr M q A) N (bit q) 0 := ld1_at hqN (fput_same M q _) hcell
    have hs1 := fun z => st1_at (m := arr M q A) (n := N) (b := q) (o := 0 + a * 60 + b * 1) (x := .int .i64 z) hqN (fput_same M q _) (by simpa using hk) rfl
    have hda : idaV 60 60 a (.pointer (some ⟨q, 0, none⟩)) = _ := ida_ok ha
    have hdb : idaV 60 1 b (.pointer (some ⟨q, 0 + a * 60, none⟩)) = _ := ida_ok hb60
    have hq := blt_true hqN
    rw [ac44L1_w]
    simp (implicitDefEqProofs := false) only [ac44L1b, Gv_add, w_seq, v_reg, q_cons, q_nil, q_nop, q_op, q_eff, q_opg, q_effg, keep_ok, drop1_ok, out_ok, crRec_mk, onNorm_norm, onNorm_exit, onNorm_ret, addRW_mk, w_cond, onCond_mk, w_block, onBlock_norm, onBlock_ret, onBlock_exit, w_pre, w_post, onPost_norm, onPost_exit, onPost_ret, w_exit, w_ret, onRet_mk, res_nil, res_cons, resO_v, retV_one, fixE_mk, lmap_nil, lmap_cons, ldrop_z, ldrop_s, ev_v, ev_c, lget_z, lget_s, evs_nil, evs_cons, s_mov, s_pick, s_bin, s_una, s_conv, s_fld, s_idx, s_ida, s_build, s_extr, s_nilck, s_len, s_mx, s_ld1, s_ldn, s_st, s_call, s_new, s_box, s_make, s_app, bin_int, i_add, i_sub, i_mul, i_eql, i_neq, i_lss, i_gtr, i_leq, i_geq, pick_mk, wantB_mk, una_not, fld_mk, nilck_mk, valO_some, lor_zero', zero_lor', cond_true, cond_false, Nat.beq_refl, natOf_mk, natOf_zero, natOf_one, obind_some, w_skip, Bool.not_true, Bool.not_false, wantB_undef, newb_fm, ptrP_mk, slcP_mk, cells_agg, u_regD, isOkC_ok, belowV_undef, belowV_addr, z_nil, z_cons, y_nil, y_cons, y_nop, y_op, y_eff, y_opg, y_effg, keepD_ok, outX_ok, apart_nil, apart_cons, zero_land', land_zero', stepD_ok', below_all, opds, List.all_cons, List.all_nil, belowV_int, belowV_bool, belowV_ptr, belowV_nils, Bool.and_self, Bool.and_true, Bool.true_and, Bool.or_true, Bool.true_or, Bool.false_or, Nat.reduceAdd, Nat.testBit, Nat.reduceShiftRight, Nat.reduceAnd, Nat.reduceBNe, (hg A).len, hlt, decide_true, hix0, hld0, hba0, hix, hld, hba, hbg, hda, hdb, hl1, cells_int, hs1, hq, hw]
    have hmem : AMem.put (arr M q A) q (some (.cells ((A.map (Value.int .i64)).set (0 + a * 60 + b * 1) (.int .i64 (IntKind.i64.wrap (A[0 + a * 60 + b * 1] + 1)))) 0 false true)) = arr M q (bump A (60 * a + b)) := by
      have e : 60 * a + b = 0 + a * 60 + b * 1 := by omega
      have hset : (A.map (Value.int .i64)).set (0 + a * 60 + b * 1) (.int .i64 (IntKind.i64.wrap (A[0 + a * 60 + b * 1] + 1))) = (A.set (0 + a * 60 + b * 1) (IntKind.i64.wrap (A[0 + a * 60 + b * 1] + 1))).map (Value.int .i64) := List.map_set.symm
      rw [hset, arr_arr, bump, e, List.getElem?_eq_getElem hk]; rfl
    rw [hmem]
    refine Gv.mono (ih (j + 1) (by omega) _ (by rw [bump_length, hA])) fun X e' m' n' w h => ?_
    obtain ⟨h1, h2, h3, h4, h5⟩ := h
    refine ⟨h1, h2, ?_, h4, mod_lor' (mod_bit_ge hn0) h5⟩
    rw [h3, List.drop_eq_getElem_cons hjl]
    show _ = arr M q ((g.drop (j + 1)).foldl _ (bump A (60 * a + g[j].toNat)))
    rw [hbx]; rfl
theorem ref_L1_eq (M : FM) (N q n0 : Nat) (hqN : q < N) (hn0 : n0 ≤ q) (g : List Int) (gval : Value) (hg : ∀ A, Ints (arr M q A) N gval g) (hl : g.length < 4611686018427387904) (hin : ∀ (i : Nat) (x : Int), g[i]? = some x → 0 ≤ x ∧ x < 60) (a : Nat) (ha : a < 60) (i : Nat) (hi : i < g.length) (hai : g[i] = (a : Int)) (A : List Int) (hA : A.length = 3600) :
    ∃ rf wf : List Value → Nat, ∀ x1 x2 x3 x5 x6 x7 x8 x9 x10 x11 x12 x13 x14 x15 x16 x17 x18 x19 x20 x21 x23 x24 x25 x26 x27 x28 x29 x30 x31 x32 x33 x34 x36 x37 x38 x39 x40 x41, execW PG E Y ac44L1 [.int .i64 0, x1, x2, x3, .int .i64 (i : Int), x5, x6, x7, x8, x9, x10, x11, x12, x13, x14, x15, x16, x17, x18, x19, x20, x21, gval, x23, x24, x25, x26, x27, x28, x29, x30, x31, x32, x33, x34, .pointer (some ⟨q, 0, none⟩), x36, x37, x38, x39, x40, x41] (arr M q A) N = .ok (.exit 6) [.int .i64 (g.length : Int), x1, x2, x3, .int .i64 (i : Int), x5, x6, x7, x8, x9, x10, x11, x12, x13, x14, x15, x16, x17, x18, x19, x20, x21, gval, x23, x24, x25, x26, x27, x28, x29, x30, x31, x32, x33, x34, .pointer (some ⟨q, 0, none⟩), x36, x37, x38, x39, x40, x41] (arr M q (bumpRow A a g)) N (rf [.int .i64 0, x1, x2, x3, .int .i64 (i : Int), x5, x6, x7, x8, x9, x10, x11, x12, x13, x14, x15, x16, x17, x18, x19, x20, x21, gval, x23, x24, x25, x26, x27, x28, x29, x30, x31, x32, x33, x34, .pointer (some ⟨q, 0, none⟩), x36, x37, x38, x39, x40, x41]) (wf [.int .i64 0, x1, x2, x3, .int .i64 (i : Int), x5, x6, x7, x8, x9, x10, x11, x12, x13, x14, x15, x16, x17, x18, x19, x20, x21, gval, x23, x24, x25, x26, x27, x28, x29, x30, x31, x32, x33, x34, .pointer (some ⟨q, 0, none⟩), x36, x37, x38, x39, x40, x41]) ∧ Nat.mod (wf [.int .i64 0, x1, x2, x3, .int .i64 (i : Int), x5, x6, x7, x8, x9, x10, x11, x12, x13, x14, x15, x16, x17, x18, x19, x20, x21, gval, x23, x24, x25, x26, x27, x28, x29, x30, x31, x32, x33, x34, .pointer (some ⟨q, 0, none⟩), x36, x37, x38, x39, x40, x41]) (bit n0) = 0 := by
  obtain ⟨rf, wf, h⟩ := named_w (fun l => execW PG E Y ac44L1 l (arr M q A) N)
  refine ⟨rf, wf, fun x1 x2 x3 x5 x6 x7 x8 x9 x10 x11 x12 x13 x14 x15 x16 x17 x18 x19 x20 x21 x23 x24 x25 x26 x27 x28 x29 x30 x31 x32 x33 x34 x36 x37 x38 x39 x40 x41 => ?_⟩
  obtain ⟨X, e', m', n', r, w, hx, h1, h2, h3, h4, h5⟩ := Gv_some (ref_L1 (E := E) (Y := Y) M N q n0 hqN hn0 g gval hg hl hin a ha i hi hai x1 x2 x3 x5 x6 x7 x8 x9 x10 x11 x12 x13 x14 x15 x16 x17 x18 x19 x20 x21 x23 x24 x25 x26 x27 x28 x29 x30 x31 x32 x33 x34 x36 x37 x38 x39 x40 x41 g.length 0 (by omega) A hA)
  obtain ⟨hr, hw⟩ := h _ _ _ _ _ _ _ hx
  have hr' : rf [.int .i64 0, x1, x2, x3, .int .i64 (i : Int), x5, x6, x7, x8, x9, x10, x11, x12, x13, x14, x15, x16, x17, x18, x19, x20, x21, gval, x23, x24, x25, x26, x27, x28, x29, x30, x31, x32, x33, x34, .pointer (some ⟨q, 0, none⟩), x36, x37, x38, x39, x40, x41] = r := hr
  have hw' : wf [.int .i64 0, x1, x2, x3, .int .i64 (i : Int), x5, x6, x7, x8, x9, x10, x11, x12, x13, x14, x15, x16, x17, x18, x19, x20, x21, gval, x23, x24, x25, x26, x27, x28, x29, x30, x31, x32, x33, x34, .pointer (some ⟨q, 0, none⟩), x36, x37, x38, x39, x40, x41] = w := hw
  rw [hr', hw']
  subst h1; subst h2; subst h3; subst h4
  exact ⟨hx, h5⟩

theorem ref_L2 (M : FM) (N q n0 : Nat) (hqN : q < N) (hn0 : n0 ≤ q) (g : List Int) (gval : Value) (hg : ∀ A, Ints (arr M q A) N gval g) (hl : g.length < 4611686018427387904) (hin : ∀ (i : Nat) (x : Int), g[i]? = some x → 0 ≤ x ∧ x < 60) (x1 x2 x3 x4 x5 x6 x7 x8 x9 x10 x11 x12 x13 x14 x15 x16 x17 x19 x20 x21 x22 x23 x24 x25 x26 x27 x28 x29 x30 x32 x33 x34 x35 x36 x37 : Value) : ∀ d i, i + d = g.length → ∀ A : List Int, A.length = 3600 →
    Gv (execW PG E Y ac44L2 [.int .i64 (i : Int), x1, x2, x3, x4, x5, x6, x7, x8, x9, x10, x11, x12, x13, x14, x15, x16, x17, gval, x19, x20, x21, x22, x23, x24, x25, x26, x27, x28, x29, x30, .pointer (some ⟨q, 0, none⟩), x32, x33, x34, x35, x36, x37] (arr M q A) N) fun X e' m' n' w =>
      X = .exit 4 ∧ e' = [.int .i64 (g.length : Int), x1, x2, x3, x4, x5, x6, x7, x8, x9, x10, x11, x12, x13, x14, x15, x16, x17, gval, x19, x20, x21, x22, x23, x24, x25, x26, x27, x28, x29, x30, .pointer (some ⟨q, 0, none⟩), x32, x33, x34, x35, x36, x37] ∧ m' = arr M q (bumpGroup A g (g.drop i)) ∧ n' = N ∧ Nat.mod w (bit n0) = 0 := by
  intro d
  induction d with
  | zero =>
    intro j hj A hA
    have hjl : (j : Int) = (g.length : Int) := by omega
    have hlt : ¬ ((g.length : Int) < (g.length : Int)) := by omega
    rw [ac44L2_w, hjl]
    simp only [ac44L2b, Gv_add, w_seq, v_reg, q_cons, q_nil, q_nop, q_op, q_eff, q_opg, q_effg, keep_ok, drop1_ok, out_ok, crRec_mk, onNorm_norm, onNorm_exit, onNorm_ret, addRW_mk, w_cond, onCond_mk, w_block, onBlock_norm, onBlock_ret, onBlock_exit, w_pre, w_post, onPost_norm, onPost_exit, onPost_ret, w_exit, w_ret, onRet_mk, res_nil, res_cons, resO_v, retV_one, fixE_mk, lmap_nil, lmap_cons, ldrop_z, ldrop_s, ev_v, ev_c, lget_z, lget_s, evs_nil, evs_cons, s_mov, s_pick, s_bin, s_una, s_conv, s_fld, s_idx, s_ida, s_build, s_extr, s_nilck, s_len, s_mx, s_ld1, s_ldn, s_st, s_call, s_new, s_box, s_make, s_app, bin_int, i_add, i_sub, i_mul, i_eql, i_neq, i_lss, i_gtr, i_leq, i_geq, pick_mk, wantB_mk, una_not, fld_mk, nilck_mk, valO_some, lor_zero', zero_lor', cond_true, cond_false, Nat.beq_refl, natOf_mk, natOf_zero, natOf_one, obind_some, w_skip, Bool.not_true, Bool.not_false, wantB_undef, newb_fm, ptrP_mk, slcP_mk, cells_agg, (hg A).len, hlt, decide_false]
    exact ⟨rfl, rfl, by rw [List.drop_eq_nil_of_le (by omega)]; rfl, rfl, mod_zero _⟩
  | succ d ih =>
    intro j hj A hA
    have hlt : (j : Int) < (g.length : Int) := by omega
    have hjl : j < g.length := by omega
    obtain ⟨hx0, hx60⟩ := hin j g[j] (List.getElem?_eq_getElem hjl)
    obtain ⟨a, hax⟩ : ∃ a : Nat, g[j] = (a : Int) := ⟨g[j].toNat, by omega⟩
    have ha60 : a < 60 := by omega
    have hw : IntKind.i64.wrap ((j : Int) + 1) = ((j + 1 : Nat) : Int) := by rw [wrap_small (by omega) (by omega)]; omega
    obtain ⟨rf, wf, hin2⟩ := ref_L1_eq (E := E) (Y := Y) M N q n0 hqN hn0 g gval hg hl hin a ha60 j hjl hax A hA
    have heq := fun x1 x2 x3 x5 x6 x7 x8 x9 x10 x11 x12 x13 x14 x15 x16 x17 x18 x19 x20 x21 x23 x24 x25 x26 x27 x28 x29 x30 x31 x32 x33 x34 x36 x37 x38 x39 x40 x41 => (hin2 x1 x2 x3 x5 x6 x7 x8 x9 x10 x11 x12 x13 x14 x15 x16 x17 x18 x19 x20 x21 x23 x24 x25 x26 x27 x28 x29 x30 x31 x32 x33 x34 x36 x37 x38 x39 x40 x41).1
    have hmod := fun x1 x2 x3 x5 x6 x7 x8 x9 x10 x11 x12 x13 x14 x15 x16 x17 x18 x19 x20 x21 x23 x24 x25 x26 x27 x28 x29 x30 x31 x32 x33 x34 x36 x37 x38 x39 x40 x41 => (hin2 x1 x2 x3 x5 x6 x7 x8 x9 x10 x11 x12 x13 x14 x15 x16 x17 x18 x19 x20 x21 x23 x24 x25 x26 x27 x28 x29 x30 x31 x32 x33 x34 x36 x37 x38 x39 x40 x41).2
    rw [ac44L2_w]
    simp only [ac44L2b, Gv_add, w_seq, v_reg, q_cons, q_nil, q_nop, q_op, q_eff, q_opg, q_effg, keep_ok, drop1_ok, out_ok, crRec_mk, onNorm_norm, onNorm_exit, onNorm_ret, addRW_mk, w_cond, onCond_mk, w_block, onBlock_norm, onBlock_ret, onBlock_exit, w_pre, w_post, onPost_norm, onPost_exit, onPost_ret, w_exit, w_ret, onRet_mk, res_nil, res_cons, resO_v, retV_one, fixE_mk, lmap_nil, lmap_cons, ldrop_z, ldrop_s, ev_v, ev_c, lget_z, lget_s, evs_nil, evs_cons, s_mov, s_pick, s_bin, s_una, s_conv, s_fld, s_idx, s_ida, s_build, s_extr, s_nilck, s_len, s_mx, s_ld1, s_ldn, s_st, s_call, s_new, s_box, s_make, s_app, bin_int, i_add, i_sub, i_mul, i_eql, i_neq, i_lss, i_gtr, i_leq, i_geq, pick_mk, wantB_mk, una_not, fld_mk, nilck_mk, valO_some, lor_zero', zero_lor', cond_true, cond_false, Nat.beq_refl, natOf_mk, natOf_zero, natOf_one, obind_some, w_skip, Bool.not_true, Bool.not_false, wantB_undef, newb_fm, ptrP_mk, slcP_mk, cells_agg, (hg A).len, hlt, decide_true, hw, heq]
    refine Gv.mono (ih (j + 1) (by omega) _ (by rw [bumpRow_length, hA])) fun X e' m' n' w h => ?_
    obtain ⟨h1, h2, h3, h4, h5⟩ := h
    refine ⟨h1, h2, ?_, h4, mod_lor' (hmod ..) h5⟩
    rw [h3, List.drop_eq_getElem_cons hjl]
    show _ = arr M q (bumpGroup (bumpRow A g[j].toNat g) g (g.drop (j + 1)))
    rw [hax]; rfl
theorem ref_L2_eq (M : FM) (N q n0 : Nat) (hqN : q < N) (hn0 : n0 ≤ q) (g : List Int) (gval : Value) (hg : ∀ A, Ints (arr M q A) N gval g) (hl : g.length < 4611686018427387904) (hin : ∀ (i : Nat) (x : Int), g[i]? = some x → 0 ≤ x ∧ x < 60) (A : List Int) (hA : A.length = 3600) :
    ∃ rf wf : List Value → Nat, ∀ x1 x2 x3 x4 x5 x6 x7 x8 x9 x10 x11 x12 x13 x14 x15 x16 x17 x19 x20 x21 x22 x23 x24 x25 x26 x27 x28 x29 x30 x32 x33 x34 x35 x36 x37, execW PG E Y ac44L2 [.int .i64 0, x1, x2, x3, x4, x5, x6, x7, x8, x9, x10, x11, x12, x13, x14, x15, x16, x17, gval, x19, x20, x21, x22, x23, x24, x25, x26, x27, x28, x29, x30, .pointer (some ⟨q, 0, none⟩), x32, x33, x34, x35, x36, x37] (arr M q A) N = .ok (.exit 4) [.int .i64 (g.length : Int), x1, x2, x3, x4, x5, x6, x7, x8, x9, x10, x11, x12, x13, x14, x15, x16, x17, gval, x19, x20, x21, x22, x23, x24, x25, x26, x27, x28, x29, x30, .pointer (some ⟨q, 0, none⟩), x32, x33, x34, x35, x36, x37] (arr M q (bumpGroup A g g)) N (rf [.int .i64 0, x1, x2, x3, x4, x5, x6, x7, x8, x9, x10, x11, x12, x13, x14, x15, x16, x17, gval, x19, x20, x21, x22, x23, x24, x25, x26, x27, x28, x29, x30, .pointer (some ⟨q, 0, none⟩), x32, x33, x34, x35, x36, x37]) (wf [.int .i64 0, x1, x2, x3, x4, x5, x6, x7, x8, x9, x10, x11, x12, x13, x14, x15, x16, x17, gval, x19, x20, x21, x22, x23, x24, x25, x26, x27, x28, x29, x30, .pointer (some ⟨q, 0, none⟩), x32, x33, x34, x35, x36, x37]) ∧ Nat.mod (wf [.int .i64 0, x1, x2, x3, x4, x5, x6, x7, x8, x9, x10, x11, x12, x13, x14, x15, x16, x17, gval, x19, x20, x21, x22, x23, x24, x25, x26, x27, x28, x29, x30, .pointer (some ⟨q, 0, none⟩), x32, x33, x34, x35, x36, x37]) (bit n0) = 0 := by
  obtain ⟨rf, wf, h⟩ := named_w (fun l => execW PG E Y ac44L2 l (arr M q A) N)
  refine ⟨rf, wf, fun x1 x2 x3 x4 x5 x6 x7 x8 x9 x10 x11 x12 x13 x14 x15 x16 x17 x19 x20 x21 x22 x23 x24 x25 x26 x27 x28 x29 x30 x32 x33 x34 x35 x36 x37 => ?_⟩
  obtain ⟨X, e', m', n', r, w, hx, h1, h2, h3, h4, h5⟩ := Gv_some (ref_L2 (E := E) (Y := Y) M N q n0 hqN hn0 g gval hg hl hin x1 x2 x3 x4 x5 x6 x7 x8 x9 x10 x11 x12 x13 x14 x15 x16 x17 x19 x20 x21 x22 x23 x24 x25 x26 x27 x28 x29 x30 x32 x33 x34 x35 x36 x37 g.length 0 (by omega) A hA)
  obtain ⟨hr, hw⟩ := h _ _ _ _ _ _ _ hx
  have hr' : rf [.int .i64 0, x1, x2, x3, x4, x5, x6, x7, x8, x9, x10, x11, x12, x13, x14, x15, x16, x17, gval, x19, x20, x21, x22, x23, x24, x25, x26, x27, x28, x29, x30, .pointer (some ⟨q, 0, none⟩), x32, x33, x34, x35, x36, x37] = r := hr
  have hw' : wf [.int .i64 0, x1, x2, x3, x4, x5, x6, x7, x8, x9, x10, x11, x12, x13, x14, x15, x16, x17, gval, x19, x20, x21, x22, x23, x24, x25, x26, x27, x28, x29, x30, .pointer (some ⟨q, 0, none⟩), x32, x33, x34, x35, x36, x37] = w := hw
  rw [hr', hw']
  subst h1; subst h2; subst h3; subst h4
  exact ⟨hx, h5⟩

end Go.Am.C21
