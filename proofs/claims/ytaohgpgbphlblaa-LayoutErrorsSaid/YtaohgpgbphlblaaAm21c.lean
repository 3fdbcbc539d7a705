/- Chapter 21: design.Check. -/
import Derived.Test.YtaohgpgbphlblaaAm21b
set_option linter.unusedVariables false
set_option linter.unusedSimpArgs false
set_option linter.unusedSectionVars false
namespace Go.Am.C21
open Go Go.Am
set_option linter.unusedVariables false
variable {E : Nat → Option AFn} {Y : Nat → List Value → FM → Nat → OR FM}
/-- one more at a place -/
def bump (A : List Int) (k : Nat) : List Int := A.set k (IntKind.i64.wrap (A[k]?.getD 0 + 1))
theorem bump_length (A : List Int) (k : Nat) : (bump A k).length = A.length := by simp [bump]
def bumpRow (A : List Int) (a : Nat) (g : List Int) : List Int := g.foldl (fun A b => bump A (60 * a + b.toNat)) A
theorem bumpRow_length (A : List Int) (a : Nat) (g : List Int) : (bumpRow A a g).length = A.length := by
  induction g generalizing A with
  | nil => rfl
  | cons b g ih => show (bumpRow (bump A _) a g).length = _; rw [ih, bump_length]
noncomputable def arr (M : FM) (q : Nat) (A : List Int) : FM := AMem.put M q (some (.cells (A.map (Value.int .i64)) 0 false true))
theorem arr_arr (M : FM) (q : Nat) (A B : List Int) : AMem.put (arr M q A) q (some (.cells (B.map (Value.int .i64)) 0 false true)) = arr M q B := fput_put _ _ _ _
theorem check_L0 (M : FM) (N q n0 : Nat) (hqN : q < N) (hn0 : n0 ≤ q) (a : Nat) (ha : a < 60) (g : List Int) (gval : Value) (hg : ∀ A, Ints (arr M q A) N gval g) (hl : g.length < 4611686018427387904) (hin : ∀ (i : Nat) (x : Int), g[i]? = some x → 0 ≤ x ∧ x < 60)
    (x1 x4 x5 x6 x7 x8 x10 x11 x12 x13 x14 x15 x17 x18 x19 x20 x21 x22 : Value) : ∀ d j, j + d = g.length → ∀ A : List Int, A.length = 3600 →
    Gv (execW PG E Y ac34L0 [.int .i64 (j : Int), x1, .int .i64 (g.length : Int), .int .i64 (a : Int), x4, x5, x6, x7, x8, gval, x10, x11, x12, x13, x14, x15, .pointer (some ⟨q, 0, none⟩), x17, x18, x19, x20, x21, x22] (arr M q A) N) fun X e' m' n' w =>
      X = .exit 4 ∧ e' = [.int .i64 (g.length : Int), x1, .int .i64 (g.length : Int), .int .i64 (a : Int), x4, x5, x6, x7, x8, gval, x10, x11, x12, x13, x14, x15, .pointer (some ⟨q, 0, none⟩), x17, x18, x19, x20, x21, x22] ∧ m' = arr M q (bumpRow A a (g.drop j)) ∧ n' = N ∧ Nat.mod w (bit n0) = 0 := by
  intro d
  induction d with
  | zero =>
    intro j hj A hA
    have hjl : (j : Int) = (g.length : Int) := by omega
    have hlt : ¬ ((g.length : Int) < (g.length : Int)) := by omega
    rw [ac34L0_w, hjl]
    simp only [ac34L0b, Gv_add, w_seq, v_reg, q_cons, q_nil, q_nop, q_op, q_eff, q_opg, q_effg, keep_ok, drop1_ok, out_ok, crRec_mk, onNorm_norm, onNorm_exit, onNorm_ret, addRW_mk, w_cond, onCond_mk, w_block, onBlock_norm, onBlock_ret, onBlock_exit, w_pre, w_post, onPost_norm, onPost_exit, onPost_ret, w_exit, w_ret, onRet_mk, res_nil, res_cons, resO_v, retV_one, fixE_mk, lmap_nil, lmap_cons, ldrop_z, ldrop_s, ev_v, ev_c, lget_z, lget_s, evs_nil, evs_cons, s_mov, s_pick, s_bin, s_una, s_conv, s_fld, s_idx, s_ida, s_build, s_extr, s_nilck, s_len, s_mx, s_ld1, s_ldn, s_st, s_call, s_new, s_box, s_make, s_app, bin_int, i_add, i_sub, i_mul, i_eql, i_neq, i_lss, i_gtr, i_leq, i_geq, pick_mk, wantB_mk, una_not, fld_mk, nilck_mk, valO_some, lor_zero', zero_lor', cond_true, cond_false, Nat.beq_refl, natOf_mk, natOf_zero, natOf_one, obind_some, w_skip, Bool.not_true, Bool.not_false, wantB_undef, newb_fm, ptrP_mk, slcP_mk, cells_agg, hlt, decide_false]
    exact ⟨rfl, rfl, by rw [List.drop_eq_nil_of_le (by omega)]; rfl, rfl, mod_zero _⟩
  | succ d ih =>
    intro j hj A hA
    have hlt : (j : Int) < (g.length : Int) := by omega
    have hjl : j < g.length := by omega
    obtain ⟨p1, b1, hix, hld, hb⟩ := (hg A).at hjl
    obtain ⟨hx0, hx60⟩ := hin j g[j] (List.getElem?_eq_getElem hjl)
    obtain ⟨b, hbx⟩ : ∃ b : Nat, g[j] = (b : Int) := ⟨g[j].toNat, by omega⟩
    have hb60 : b < 60 := by omega
    rw [hbx] at hld
    have hw : IntKind.i64.wrap ((j : Int) + 1) = ((j + 1 : Nat) : Int) := by rw [wrap_small (by omega) (by omega)]; omega
    have hk : 0 + a * 60 + b * 1 < A.length := by omega
    have hcell : ((A.map (Value.int .i64)))[0 + a * 60 + b * 1]? = some (.int .i64 A[0 + a * 60 + b * 1]) := by simp [List.getElem?_eq_getElem hk]
    have hl1 : ld1V (arr M q A) N (.pointer (some ⟨q, 0 + a * 60 + b * 1, none⟩)) = .ok (.int .i64 A[0 + a * 60 + b * 1]) (arr M q A) N (bit q) 0 := ld1_at hqN (fput_same M q _) hcell
    have hs1 := fun z => st1_at (m := arr M q A) (n := N) (b := q) (o := 0 + a * 60 + b * 1) (x := .int .i64 z) hqN (fput_same M q _) (by simpa using hk) rfl
    have hda : idaV 60 60 a (.pointer (some ⟨q, 0, none⟩)) = _ := ida_ok ha
    have hdb : idaV 60 1 b (.pointer (some ⟨q, 0 + a * 60, none⟩)) = _ := ida_ok hb60
    have hq := blt_true hqN
    rw [ac34L0_w]
    simp (implicitDefEqProofs := false) only [ac34L0b, Gv_add, w_seq, v_reg, q_cons, q_nil, q_nop, q_op, q_eff, q_opg, q_effg, keep_ok, drop1_ok, out_ok, crRec_mk, onNorm_norm, onNorm_exit, onNorm_ret, addRW_mk, w_cond, onCond_mk, w_block, onBlock_norm, onBlock_ret, onBlock_exit, w_pre, w_post, onPost_norm, onPost_exit, onPost_ret, w_exit, w_ret, onRet_mk, res_nil, res_cons, resO_v, retV_one, fixE_mk, lmap_nil, lmap_cons, ldrop_z, ldrop_s, ev_v, ev_c, lget_z, lget_s, evs_nil, evs_cons, s_mov, s_pick, s_bin, s_una, s_conv, s_fld, s_idx, s_ida, s_build, s_extr, s_nilck, s_len, s_mx, s_ld1, s_ldn, s_st, s_call, s_new, s_box, s_make, s_app, bin_int, i_add, i_sub, i_mul, i_eql, i_neq, i_lss, i_gtr, i_leq, i_geq, pick_mk, wantB_mk, una_not, fld_mk, nilck_mk, valO_some, lor_zero', zero_lor', cond_true, cond_false, Nat.beq_refl, natOf_mk, natOf_zero, natOf_one, obind_some, w_skip, Bool.not_true, Bool.not_false, wantB_undef, newb_fm, ptrP_mk, slcP_mk, cells_agg, u_regD, isOkC_ok, belowV_undef, belowV_addr, z_nil, z_cons, y_nil, y_cons, y_nop, y_op, y_eff, y_opg, y_effg, keepD_ok, outX_ok, apart_nil, apart_cons, zero_land', land_zero', stepD_ok', below_all, opds, List.all_cons, List.all_nil, belowV_int, belowV_bool, belowV_ptr, belowV_nils, Bool.and_self, Bool.and_true, Bool.true_and, Bool.or_true, Bool.true_or, Bool.false_or, Nat.reduceAdd, Nat.testBit, Nat.reduceShiftRight, Nat.reduceAnd, Nat.reduceBNe, hlt, decide_true, hix, hld, hda, hdb, hl1, cells_int, hs1, hq, hw]
    have hmem : AMem.put (arr M q A) q (some (.cells ((A.map (Value.int .i64)).set (0 + a * 60 + b * 1) (.int .i64 (IntKind.i64.wrap (A[0 + a * 60 + b * 1] + 1)))) 0 false true)) = arr M q (bump A (60 * a + b)) := by
      have e : 60 * a + b = 0 + a * 60 + b * 1 := by omega
      have hset : (A.map (Value.int .i64)).set (0 + a * 60 + b * 1) (.int .i64 (IntKind.i64.wrap (A[0 + a * 60 + b * 1] + 1))) = (A.set (0 + a * 60 + b * 1) (IntKind.i64.wrap (A[0 + a * 60 + b * 1] + 1))).map (Value.int .i64) := List.map_set.symm
      rw [hset, arr_arr, bump, e, List.getElem?_eq_getElem hk]; rfl
    rw [hmem]
    refine Gv.mono (ih (j + 1) (by omega) _ (by rw [bump_length, hA])) fun X e' m' n' w h => ?_
    obtain ⟨h1, h2, h3, h4, h5⟩ := h
    refine ⟨h1, h2, ?_, h4, mod_lor' (mod_bit_ge hn0) h5⟩
    rw [h3, List.drop_eq_getElem_cons hjl]
    show _ = arr M q ((g.drop (j + 1)).foldl _ (bump A (60 * a + g[j].toNat)))
    rw [hbx]; rfl

/-- the name of what a code writes -/
theorem named_w (f : List Value → CR FM) : ∃ (rf wf : List Value → Nat), ∀ l X e m n r w, f l = .ok X e m n r w → rf l = r ∧ wf l = w :=
  ⟨fun l => rOf (f l), fun l => match f l with | .no => 0 | .ok _ _ _ _ _ w => w, fun l X e m n r w h => by constructor <;> simp [h, rOf]⟩
theorem check_L0_eq (M : FM) (N q n0 : Nat) (hqN : q < N) (hn0 : n0 ≤ q) (a : Nat) (ha : a < 60) (g : List Int) (gval : Value) (hg : ∀ A, Ints (arr M q A) N gval g) (hl : g.length < 4611686018427387904) (hin : ∀ (i : Nat) (x : Int), g[i]? = some x → 0 ≤ x ∧ x < 60) (A : List Int) (hA : A.length = 3600) :
    ∃ rf wf : List Value → Nat, ∀ x1 x4 x5 x6 x7 x8 x10 x11 x12 x13 x14 x15 x17 x18 x19 x20 x21 x22, execW PG E Y ac34L0 [.int .i64 0, x1, .int .i64 (g.length : Int), .int .i64 (a : Int), x4, x5, x6, x7, x8, gval, x10, x11, x12, x13, x14, x15, .pointer (some ⟨q, 0, none⟩), x17, x18, x19, x20, x21, x22] (arr M q A) N = .ok (.exit 4) [.int .i64 (g.length : Int), x1, .int .i64 (g.length : Int), .int .i64 (a : Int), x4, x5, x6, x7, x8, gval, x10, x11, x12, x13, x14, x15, .pointer (some ⟨q, 0, none⟩), x17, x18, x19, x20, x21, x22] (arr M q (bumpRow A a g)) N (rf [.int .i64 0, x1, .int .i64 (g.length : Int), .int .i64 (a : Int), x4, x5, x6, x7, x8, gval, x10, x11, x12, x13, x14, x15, .pointer (some ⟨q, 0, none⟩), x17, x18, x19, x20, x21, x22]) (wf [.int .i64 0, x1, .int .i64 (g.length : Int), .int .i64 (a : Int), x4, x5, x6, x7, x8, gval, x10, x11, x12, x13, x14, x15, .pointer (some ⟨q, 0, none⟩), x17, x18, x19, x20, x21, x22]) ∧ Nat.mod (wf [.int .i64 0, x1, .int .i64 (g.length : Int), .int .i64 (a : Int), x4, x5, x6, x7, x8, gval, x10, x11, x12, x13, x14, x15, .pointer (some ⟨q, 0, none⟩), x17, x18, x19, x20, x21, x22]) (bit n0) = 0 := by
  obtain ⟨rf, wf, h⟩ := named_w (fun l => execW PG E Y ac34L0 l (arr M q A) N)
  refine ⟨rf, wf, fun x1 x4 x5 x6 x7 x8 x10 x11 x12 x13 x14 x15 x17 x18 x19 x20 x21 x22 => ?_⟩
  obtain ⟨X, e', m', n', r, w, hx, h1, h2, h3, h4, h5⟩ := Gv_some (check_L0 (E := E) (Y := Y) M N q n0 hqN hn0 a ha g gval hg hl hin x1 x4 x5 x6 x7 x8 x10 x11 x12 x13 x14 x15 x17 x18 x19 x20 x21 x22 g.length 0 (by omega) A hA)
  obtain ⟨hr, hw⟩ := h _ _ _ _ _ _ _ hx
  have hr' : rf [.int .i64 0, x1, .int .i64 (g.length : Int), .int .i64 (a : Int), x4, x5, x6, x7, x8, gval, x10, x11, x12, x13, x14, x15, .pointer (some ⟨q, 0, none⟩), x17, x18, x19, x20, x21, x22] = r := hr
  have hw' : wf [.int .i64 0, x1, .int .i64 (g.length : Int), .int .i64 (a : Int), x4, x5, x6, x7, x8, gval, x10, x11, x12, x13, x14, x15, .pointer (some ⟨q, 0, none⟩), x17, x18, x19, x20, x21, x22] = w := hw
  rw [hr', hw']
  subst h1; subst h2; subst h3; subst h4
  exact ⟨hx, h5⟩
def bumpGroup (A : List Int) (g l : List Int) : List Int := l.foldl (fun A a => bumpRow A a.toNat g) A
theorem bumpGroup_length (A g : List Int) : ∀ l, (bumpGroup A g l).length = A.length := by
  intro l
  induction l generalizing A with
  | nil => rfl
  | cons b l ih => show (bumpGroup (bumpRow A b.toNat g) g l).length = _; rw [ih, bumpRow_length]
theorem check_L1 (M : FM) (N q n0 : Nat) (hqN : q < N) (hn0 : n0 ≤ q) (g : List Int) (gval : Value) (hg : ∀ A, Ints (arr M q A) N gval g) (hl : g.length < 4611686018427387904) (hin : ∀ (i : Nat) (x : Int), g[i]? = some x → 0 ≤ x ∧ x < 60) (x1 x4 x5 x6 x7 x8 x9 x11 x12 x13 x14 x15 x16 : Value) : ∀ d j, j + d = g.length → ∀ A : List Int, A.length = 3600 →
    Gv (execW PG E Y ac34L1 [.int .i64 (j : Int), x1, .int .i64 (g.length : Int), gval, x4, x5, x6, x7, x8, x9, .pointer (some ⟨q, 0, none⟩), x11, x12, x13, x14, x15, x16] (arr M q A) N) fun X e' m' n' w =>
      X = .exit 2 ∧ e' = [.int .i64 (g.length : Int), x1, .int .i64 (g.length : Int), gval, x4, x5, x6, x7, x8, x9, .pointer (some ⟨q, 0, none⟩), x11, x12, x13, x14, x15, x16] ∧ m' = arr M q (bumpGroup A g (g.drop j)) ∧ n' = N ∧ Nat.mod w (bit n0) = 0 := by
  intro d
  induction d with
  | zero =>
    intro j hj A hA
    have hjl : (j : Int) = (g.length : Int) := by omega
    have hlt : ¬ ((g.length : Int) < (g.length : Int)) := by omega
    rw [ac34L1_w, hjl]
    simp only [ac34L1b, Gv_add, w_seq, v_reg, q_cons, q_nil, q_nop, q_op, q_eff, q_opg, q_effg, keep_ok, drop1_ok, out_ok, crRec_mk, onNorm_norm, onNorm_exit, onNorm_ret, addRW_mk, w_cond, onCond_mk, w_block, onBlock_norm, onBlock_ret, onBlock_exit, w_pre, w_post, onPost_norm, onPost_exit, onPost_ret, w_exit, w_ret, onRet_mk, res_nil, res_cons, resO_v, retV_one, fixE_mk, lmap_nil, lmap_cons, ldrop_z, ldrop_s, ev_v, ev_c, lget_z, lget_s, evs_nil, evs_cons, s_mov, s_pick, s_bin, s_una, s_conv, s_fld, s_idx, s_ida, s_build, s_extr, s_nilck, s_len, s_mx, s_ld1, s_ldn, s_st, s_call, s_new, s_box, s_make, s_app, bin_int, i_add, i_sub, i_mul, i_eql, i_neq, i_lss, i_gtr, i_leq, i_geq, pick_mk, wantB_mk, una_not, fld_mk, nilck_mk, valO_some, lor_zero', zero_lor', cond_true, cond_false, Nat.beq_refl, natOf_mk, natOf_zero, natOf_one, obind_some, w_skip, Bool.not_true, Bool.not_false, wantB_undef, newb_fm, ptrP_mk, slcP_mk, cells_agg, hlt, decide_false]
    exact ⟨rfl, rfl, by rw [List.drop_eq_nil_of_le (by omega)]; rfl, rfl, mod_zero _⟩
  | succ d ih =>
    intro j hj A hA
    have hlt : (j : Int) < (g.length : Int) := by omega
    have hjl : j < g.length := by omega
    obtain ⟨p1, b1, hix, hld, hb⟩ := (hg A).at hjl
    obtain ⟨hx0, hx60⟩ := hin j g[j] (List.getElem?_eq_getElem hjl)
    obtain ⟨a, hax⟩ : ∃ a : Nat, g[j] = (a : Int) := ⟨g[j].toNat, by omega⟩
    have ha60 : a < 60 := by omega
    rw [hax] at hld
    have hw : IntKind.i64.wrap ((j : Int) + 1) = ((j + 1 : Nat) : Int) := by rw [wrap_small (by omega) (by omega)]; omega
    obtain ⟨rf, wf, hin2⟩ := check_L0_eq (E := E) (Y := Y) M N q n0 hqN hn0 a ha60 g gval hg hl hin A hA
    have heq := fun x1 x4 x5 x6 x7 x8 x10 x11 x12 x13 x14 x15 x17 x18 x19 x20 x21 x22 => (hin2 x1 x4 x5 x6 x7 x8 x10 x11 x12 x13 x14 x15 x17 x18 x19 x20 x21 x22).1
    have hmod := fun x1 x4 x5 x6 x7 x8 x10 x11 x12 x13 x14 x15 x17 x18 x19 x20 x21 x22 => (hin2 x1 x4 x5 x6 x7 x8 x10 x11 x12 x13 x14 x15 x17 x18 x19 x20 x21 x22).2
    rw [ac34L1_w]
    simp only [ac34L1b, Gv_add, w_seq, v_reg, q_cons, q_nil, q_nop, q_op, q_eff, q_opg, q_effg, keep_ok, drop1_ok, out_ok, crRec_mk, onNorm_norm, onNorm_exit, onNorm_ret, addRW_mk, w_cond, onCond_mk, w_block, onBlock_norm, onBlock_ret, onBlock_exit, w_pre, w_post, onPost_norm, onPost_exit, onPost_ret, w_exit, w_ret, onRet_mk, res_nil, res_cons, resO_v, retV_one, fixE_mk, lmap_nil, lmap_cons, ldrop_z, ldrop_s, ev_v, ev_c, lget_z, lget_s, evs_nil, evs_cons, s_mov, s_pick, s_bin, s_una, s_conv, s_fld, s_idx, s_ida, s_build, s_extr, s_nilck, s_len, s_mx, s_ld1, s_ldn, s_st, s_call, s_new, s_box, s_make, s_app, bin_int, i_add, i_sub, i_mul, i_eql, i_neq, i_lss, i_gtr, i_leq, i_geq, pick_mk, wantB_mk, una_not, fld_mk, nilck_mk, valO_some, lor_zero', zero_lor', cond_true, cond_false, Nat.beq_refl, natOf_mk, natOf_zero, natOf_one, obind_some, w_skip, Bool.not_true, Bool.not_false, wantB_undef, newb_fm, ptrP_mk, slcP_mk, cells_agg, hlt, decide_true, hix, hld, (hg A).len, hw, heq]
    refine Gv.mono (ih (j + 1) (by omega) _ (by rw [bumpRow_length, hA])) fun X e' m' n' w h => ?_
    obtain ⟨h1, h2, h3, h4, h5⟩ := h
    refine ⟨h1, h2, ?_, h4, mod_lor' (hmod ..) h5⟩
    rw [h3, List.drop_eq_getElem_cons hjl]
    show _ = arr M q (bumpGroup (bumpRow A g[j].toNat g) g (g.drop (j + 1)))
    rw [hax]; rfl
theorem check_L1_eq (M : FM) (N q n0 : Nat) (hqN : q < N) (hn0 : n0 ≤ q) (g : List Int) (gval : Value) (hg : ∀ A, Ints (arr M q A) N gval g) (hl : g.length < 4611686018427387904) (hin : ∀ (i : Nat) (x : Int), g[i]? = some x → 0 ≤ x ∧ x < 60) (A : List Int) (hA : A.length = 3600) :
    ∃ rf wf : List Value → Nat, ∀ x1 x4 x5 x6 x7 x8 x9 x11 x12 x13 x14 x15 x16, execW PG E Y ac34L1 [.int .i64 0, x1, .int .i64 (g.length : Int), gval, x4, x5, x6, x7, x8, x9, .pointer (some ⟨q, 0, none⟩), x11, x12, x13, x14, x15, x16] (arr M q A) N = .ok (.exit 2) [.int .i64 (g.length : Int), x1, .int .i64 (g.length : Int), gval, x4, x5, x6, x7, x8, x9, .pointer (some ⟨q, 0, none⟩), x11, x12, x13, x14, x15, x16] (arr M q (bumpGroup A g g)) N (rf [.int .i64 0, x1, .int .i64 (g.length : Int), gval, x4, x5, x6, x7, x8, x9, .pointer (some ⟨q, 0, none⟩), x11, x12, x13, x14, x15, x16]) (wf [.int .i64 0, x1, .int .i64 (g.length : Int), gval, x4, x5, x6, x7, x8, x9, .pointer (some ⟨q, 0, none⟩), x11, x12, x13, x14, x15, x16]) ∧ Nat.mod (wf [.int .i64 0, x1, .int .i64 (g.length : Int), gval, x4, x5, x6, x7, x8, x9, .pointer (some ⟨q, 0, none⟩), x11, x12, x13, x14, x15, x16]) (bit n0) = 0 := by
  obtain ⟨rf, wf, h⟩ := named_w (fun l => execW PG E Y ac34L1 l (arr M q A) N)
  refine ⟨rf, wf, fun x1 x4 x5 x6 x7 x8 x9 x11 x12 x13 x14 x15 x16 => ?_⟩
  obtain ⟨X, e', m', n', r, w, hx, h1, h2, h3, h4, h5⟩ := Gv_some (check_L1 (E := E) (Y := Y) M N q n0 hqN hn0 g gval hg hl hin x1 x4 x5 x6 x7 x8 x9 x11 x12 x13 x14 x15 x16 g.length 0 (by omega) A hA)
  obtain ⟨hr, hw⟩ := h _ _ _ _ _ _ _ hx
  have hr' : rf [.int .i64 0, x1, .int .i64 (g.length : Int), gval, x4, x5, x6, x7, x8, x9, .pointer (some ⟨q, 0, none⟩), x11, x12, x13, x14, x15, x16] = r := hr
  have hw' : wf [.int .i64 0, x1, .int .i64 (g.length : Int), gval, x4, x5, x6, x7, x8, x9, .pointer (some ⟨q, 0, none⟩), x11, x12, x13, x14, x15, x16] = w := hw
  rw [hr', hw']
  subst h1; subst h2; subst h3; subst h4
  exact ⟨hx, h5⟩
def counts (A : List Int) (gs : List (List Int)) : List Int := gs.foldl (fun A g => bumpGroup A g g) A
theorem counts_length (A : List Int) (gs : List (List Int)) : (counts A gs).length = A.length := by
  induction gs generalizing A with
  | nil => rfl
  | cons g gs ih => show (counts (bumpGroup A g g) gs).length = _; rw [ih, bumpGroup_length]
theorem check_L2 (M : FM) (N q n0 : Nat) (hqN : q < N) (hn0 : n0 ≤ q) (n1 : Nat) (hn1 : n1 ≤ q) (gs : List (List Int)) (gv : Value) (hgs : Rows M n1 gv gs) (hl : gs.length < 4611686018427387904) (hrow : ∀ g ∈ gs, g.length < 4611686018427387904 ∧ ∀ (i : Nat) (x : Int), g[i]? = some x → 0 ≤ x ∧ x < 60) (x1 x5 x6 x7 x8 x9 x10 : Value) : ∀ d j, j + d = gs.length → ∀ A : List Int, A.length = 3600 →
    Gv (execW PG E Y ac34L2 [.int .i64 (j : Int), x1, .int .i64 (gs.length : Int), gv, .pointer (some ⟨q, 0, none⟩), x5, x6, x7, x8, x9, x10] (arr M q A) N) fun X e' m' n' w =>
      X = .exit 0 ∧ e' = [x1, .int .i64 (gs.length : Int), gv, .pointer (some ⟨q, 0, none⟩), x5, x6, x7, x8, x9, x10] ∧ m' = arr M q (counts A (gs.drop j)) ∧ n' = N ∧ Nat.mod w (bit n0) = 0 := by
  have hfr : ∀ A b, b < n1 → arr M q A b = M b := fun A b hb => fput_ne M q b _ (by omega)
  intro d
  induction d with
  | zero =>
    intro j hj A hA
    have hjl : (j : Int) = (gs.length : Int) := by omega
    have hlt : ¬ ((gs.length : Int) < (gs.length : Int)) := by omega
    rw [ac34L2_w, hjl]
    simp only [ac34L2b, Gv_add, w_seq, v_reg, q_cons, q_nil, q_nop, q_op, q_eff, q_opg, q_effg, keep_ok, drop1_ok, out_ok, crRec_mk, onNorm_norm, onNorm_exit, onNorm_ret, addRW_mk, w_cond, onCond_mk, w_block, onBlock_norm, onBlock_ret, onBlock_exit, w_pre, w_post, onPost_norm, onPost_exit, onPost_ret, w_exit, w_ret, onRet_mk, res_nil, res_cons, resO_v, retV_one, fixE_mk, lmap_nil, lmap_cons, ldrop_z, ldrop_s, ev_v, ev_c, lget_z, lget_s, evs_nil, evs_cons, s_mov, s_pick, s_bin, s_una, s_conv, s_fld, s_idx, s_ida, s_build, s_extr, s_nilck, s_len, s_mx, s_ld1, s_ldn, s_st, s_call, s_new, s_box, s_make, s_app, bin_int, i_add, i_sub, i_mul, i_eql, i_neq, i_lss, i_gtr, i_leq, i_geq, pick_mk, wantB_mk, una_not, fld_mk, nilck_mk, valO_some, lor_zero', zero_lor', cond_true, cond_false, Nat.beq_refl, natOf_mk, natOf_zero, natOf_one, obind_some, w_skip, Bool.not_true, Bool.not_false, wantB_undef, newb_fm, ptrP_mk, slcP_mk, cells_agg, hlt, decide_false]
    exact ⟨rfl, rfl, by rw [List.drop_eq_nil_of_le (by omega)]; rfl, rfl, mod_zero _⟩
  | succ d ih =>
    intro j hj A hA
    have hlt : (j : Int) < (gs.length : Int) := by omega
    have hjl : j < gs.length := by omega
    obtain ⟨p1, b1, gval, hix, hld, hg0⟩ := hgs.at2 hjl (m' := arr M q A) (n' := N) (by omega) (hfr A)
    have hg : Ints (arr M q A) N gval gs[j] := hg0.frame (by omega) (hfr A)
    obtain ⟨hl2, hin⟩ := hrow gs[j] (List.getElem_mem hjl)
    have hw : IntKind.i64.wrap ((j : Int) + 1) = ((j + 1 : Nat) : Int) := by rw [wrap_small (by omega) (by omega)]; omega
    obtain ⟨rf, wf, hin2⟩ := check_L1_eq (E := E) (Y := Y) M N q n0 hqN hn0 gs[j] gval (fun B => hg0.frame (by omega) (hfr B)) hl2 hin A hA
    have heq := fun x1 x4 x5 x6 x7 x8 x9 x11 x12 x13 x14 x15 x16 => (hin2 x1 x4 x5 x6 x7 x8 x9 x11 x12 x13 x14 x15 x16).1
    have hmod := fun x1 x4 x5 x6 x7 x8 x9 x11 x12 x13 x14 x15 x16 => (hin2 x1 x4 x5 x6 x7 x8 x9 x11 x12 x13 x14 x15 x16).2
    rw [ac34L2_w]
    simp only [ac34L2b, Gv_add, w_seq, v_reg, q_cons, q_nil, q_nop, q_op, q_eff, q_opg, q_effg, keep_ok, drop1_ok, out_ok, crRec_mk, onNorm_norm, onNorm_exit, onNorm_ret, addRW_mk, w_cond, onCond_mk, w_block, onBlock_norm, onBlock_ret, onBlock_exit, w_pre, w_post, onPost_norm, onPost_exit, onPost_ret, w_exit, w_ret, onRet_mk, res_nil, res_cons, resO_v, retV_one, fixE_mk, lmap_nil, lmap_cons, ldrop_z, ldrop_s, ev_v, ev_c, lget_z, lget_s, evs_nil, evs_cons, s_mov, s_pick, s_bin, s_una, s_conv, s_fld, s_idx, s_ida, s_build, s_extr, s_nilck, s_len, s_mx, s_ld1, s_ldn, s_st, s_call, s_new, s_box, s_make, s_app, bin_int, i_add, i_sub, i_mul, i_eql, i_neq, i_lss, i_gtr, i_leq, i_geq, pick_mk, wantB_mk, una_not, fld_mk, nilck_mk, valO_some, lor_zero', zero_lor', cond_true, cond_false, Nat.beq_refl, natOf_mk, natOf_zero, natOf_one, obind_some, w_skip, Bool.not_true, Bool.not_false, wantB_undef, newb_fm, ptrP_mk, slcP_mk, cells_agg, hlt, decide_true, hix, hld, hg.len, hw, heq]
    refine Gv.mono (ih (j + 1) (by omega) _ (by rw [bumpGroup_length, hA])) fun X e' m' n' w h => ?_
    obtain ⟨h1, h2, h3, h4, h5⟩ := h
    refine ⟨h1, h2, ?_, h4, mod_lor' (hmod ..) h5⟩
    rw [h3, List.drop_eq_getElem_cons hjl]
    rfl
end Go.Am.C21
