/- The machine and its runs, part 14: Am07la Am07ka Am07kb Am07kc Am07kd. -/
import Derived.Test.YtfkbmdhlopkfnaaB13
set_option linter.unusedVariables false
set_option linter.unusedSimpArgs false
set_option linter.unusedSectionVars false
namespace Go.Am.C07
open Go Go.Am
variable {E : Nat → Option AFn} {Y : Nat → List Value → FM → Nat → OR FM}
def Few7 (gs : List (List Int)) : Prop := gs.length ≤ 200 ∧ ∀ i (h : i < gs.length), gs[i].length ≤ 70
theorem findI_mem (x : Int) : ∀ (xs : List Int) (i : Nat), 0 ≤ findI x xs i ↔ x ∈ xs
  | [], i => by
    show 0 ≤ (-1 : Int) ↔ _
    simp
  | y :: l, i => by
    have ih := findI_mem x l (i + 1)
    unfold findI
    by_cases h : x = y
    · rw [if_pos (by first | exact h | exact h.symm)]
      subst h
      simp
    · rw [if_neg (by first | exact h | exact fun e => h e.symm), ih]
      simp [h]
theorem contains_spec (hE : E 31 = some ac31) (h42 : E 42 = some ac42) {m : FM} {n : Nat} {lv : Value} {xs : List Int} (h : Ints m n lv xs) (hs : xs.length < 1000000) (x : Int) : Pure (callW PG E Y 31 [lv, .int .i64 x] m n) m n (.bool (decide (x ∈ xs))) := by
  refine pure_spec hE rfl rfl ?_
  simp only [ac31]
  have hb := h.bel n (Nat.le_refl _)
  simp (implicitDefEqProofs := false) (disch := omega) only [W2, opds, Nat.testBit, Nat.reduceAdd, Nat.reduceShiftRight, Nat.reduceAnd, Nat.reduceBNe, Nat.reduceMul, hb]
  refine use_pure (index_spec h42 h hs x) fun _ => ?_
  rw [show decide (x ∈ xs) = decide (0 ≤ findI x xs 0) from decide_eq_decide.2 (findI_mem x xs 0).symm]
  simp (implicitDefEqProofs := false) (disch := omega) only [W2, opds, Nat.testBit, Nat.reduceAdd, Nat.reduceShiftRight, Nat.reduceAnd, Nat.reduceBNe, Nat.reduceMul]
def shQ (a b : Int) (g : List Int) : Bool := decide (a ∈ g) && decide (b ∈ g)
def shC (gs : List (List Int)) (a b : Int) : Nat := (gs.filter (shQ a b)).length
theorem shC_app (gs : List (List Int)) (a b : Int) (g : List Int) : shC (gs ++ [g]) a b = shC gs a b + cond (shQ a b g) 1 0 := by
  unfold shC
  rw [List.filter_append, List.length_append, List.filter_cons]
  cases shQ a b g <;> rfl
theorem shC_le (gs : List (List Int)) (a b : Int) : shC gs a b ≤ gs.length := List.length_filter_le _ _
theorem shared_L0 (h31 : E 31 = some ac31) (h42 : E 42 = some ac42) {m : FM} {n : Nat} {rv : Value} {gs : List (List Int)} (hR : Rows m n rv gs) (hs : gs.length < 1000000) (hr : ∀ r ∈ gs, r.length < 1000000) (a b : Int) (y2 y5 y6 y7 y8 y9 : Value) (ys : List Value) {Q : AX → List Value → FM → Nat → Nat → Prop}
    (hQ : Q (.exit 0) (.int .i64 (shC gs a b : Int) :: y2 :: .int .i64 (gs.length : Int) :: rv :: y5 :: y6 :: y7 :: y8 :: y9 :: .int .i64 a :: .int .i64 b :: ys) m n 0) :
    ∀ d j, j + d = gs.length → Gv (execW PG E Y ac21L0 (.int .i64 (shC (gs.take j) a b : Int) :: .int .i64 (j : Int) :: y2 :: .int .i64 (gs.length : Int) :: rv :: y5 :: y6 :: y7 :: y8 :: y9 :: .int .i64 a :: .int .i64 b :: ys) m n) Q := by
  intro d
  have hbel := hR.bel n (Nat.le_refl _)
  induction d with
  | zero =>
    intro j hj
    obtain rfl : j = gs.length := by omega
    refine wr_loopN (L := ac21L0) (b := ac21L0b) rfl ?_
    simp only [ac21L0b, List.take_length]
    simp (implicitDefEqProofs := false) (disch := omega) only [W2, opds, Nat.testBit, Nat.reduceAdd, Nat.reduceShiftRight, Nat.reduceAnd, Nat.reduceBNe, Nat.reduceMul]
    exact hQ
  | succ d ih =>
    intro j hj
    have hjl : j < gs.length := by omega
    have ih' := ih (j + 1) (by omega)
    rw [List.take_add_one, List.getElem?_eq_getElem hjl, Option.toList_some, shC_app] at ih'
    obtain ⟨bb, o, c, p, w, x, i1, i2, i3, i4, i5⟩ := hR.cell hjl
    have hrl := hr _ (List.getElem_mem hjl)
    have ibel := i5.bel n (Nat.le_refl _)
    have hcl := shC_le (gs.take j) a b
    have htl : (gs.take j).length ≤ 1000000 := by rw [List.length_take]; omega
    unfold shQ at ih'
    generalize gs[j] = r at *
    generalize shC (gs.take j) a b = cn at *
    refine wr_loopN (L := ac21L0) (b := ac21L0b) rfl ?_
    simp only [ac21L0b]
    simp (implicitDefEqProofs := false) (disch := omega) only [W2, opds, Nat.testBit, Nat.reduceAdd, Nat.reduceShiftRight, Nat.reduceAnd, Nat.reduceBNe, Nat.reduceMul, hbel, i1, i3, i4, ibel]
    refine use_pure (contains_spec h31 h42 i5 hrl a) fun _ => ?_
    by_cases hx : a ∈ r
    · rw [decide_eq_true hx] at ih'
      simp (implicitDefEqProofs := false) (disch := omega) only [W2, opds, Nat.testBit, Nat.reduceAdd, Nat.reduceShiftRight, Nat.reduceAnd, Nat.reduceBNe, Nat.reduceMul, decide_eq_true hx, ibel]
      refine use_pure (contains_spec h31 h42 i5 hrl b) fun _ => ?_
      by_cases hy : b ∈ r
      · rw [decide_eq_true hy] at ih'
        simp (implicitDefEqProofs := false) (disch := omega) only [W2, opds, Nat.testBit, Nat.reduceAdd, Nat.reduceShiftRight, Nat.reduceAnd, Nat.reduceBNe, Nat.reduceMul, decide_eq_true hy]
        exact wr_end ih' fun X e m n w hq => by simpa only [zero_lor'] using hq
      · rw [decide_eq_false hy] at ih'
        simp (implicitDefEqProofs := false) (disch := omega) only [W2, opds, Nat.testBit, Nat.reduceAdd, Nat.reduceShiftRight, Nat.reduceAnd, Nat.reduceBNe, Nat.reduceMul, decide_eq_false hy]
        exact wr_end ih' fun X e m n w hq => by simpa only [zero_lor'] using hq
    · rw [decide_eq_false hx] at ih'
      simp (implicitDefEqProofs := false) (disch := omega) only [W2, opds, Nat.testBit, Nat.reduceAdd, Nat.reduceShiftRight, Nat.reduceAnd, Nat.reduceBNe, Nat.reduceMul, decide_eq_false hx]
      exact wr_end ih' fun X e m n w hq => by simpa only [zero_lor'] using hq
theorem t_min {P : Program} {k k' : IntKind} {a b : Int} : purV P .min [.int k a, .int k' b] = some (.int k (if b < a then b else a)) := by
  show some (Value.int k (cond (ltB b a) b a)) = _
  rw [ltB_eq]
  by_cases h : b < a <;> simp [h]
theorem t_purm (P : Program) (rec : Nat → List Value → FM → Nat → OR FM) (e : List Value) (m : FM) (n : Nat) (xs : List Opd) : stepA P rec e m n (.pur .min xs) = valO m n (purV P .min (evs e xs)) := rfl
theorem t_mx {k k' : IntKind} {a b : Int} : mxV (.int k a) (.int k' b) = some (.int k (if a < b then b else a)) := by
  show some (Value.int k (cond (ltB a b) b a)) = _
  rw [ltB_eq]
  by_cases h : a < b
  · rw [if_pos h, decide_eq_true h]; rfl
  · rw [if_neg h, decide_eq_false h]; rfl
def sharedR (D : Int) (gs : List (List Int)) (a b : Int) : Int := if a < 0 ∨ b < 0 ∨ D ≤ a ∨ D ≤ b then 0 else (shC gs a b : Int)
theorem shared_spec (hE : E 21 = some ac21) (h31 : E 31 = some ac31) (h42 : E 42 = some ac42) {m : FM} {n : Nat} {D : Int} {rv : Value} {gs : List (List Int)} (hR : Rows m n rv gs) (hs : gs.length < 1000000) (hr : ∀ r ∈ gs, r.length < 1000000) (a b : Int) :
    Pure (callW PG E Y 21 [.agg #[.int .i64 D, rv], .int .i64 a, .int .i64 b] m n) m n (.int .i64 (sharedR D gs a b)) := by
  refine pure_spec hE rfl rfl ?_
  simp only [ac21]
  have o1 := hR.one
  have fza : Nat.mod (bit n) (bit n) = 0 := frz_bit (Nat.le_refl _)
  simp (implicitDefEqProofs := false) (disch := omega) only [W2, opds, Nat.testBit, Nat.reduceAdd, Nat.reduceShiftRight, Nat.reduceAnd, Nat.reduceBNe, Nat.reduceMul, o1]
  generalize hM1 : (AMem.put m n (some (.cells [.int .i64 D, rv] 0 false true)) : FM) = M1
  have m1 : M1 n = some (.cells [.int .i64 D, rv] 0 false true) := by rw [← hM1]; exact fput_same _ _ _
  have k1 := hR.frame (m' := M1) (n' := n + 1) (by omega) (fun b hb => by rw [← hM1, fput_ne _ _ _ _ (by omega)])
  have hbel := k1.bel (n + 1) (Nat.le_refl _)
  have hcl := shC_le gs a b
  unfold sharedR
  by_cases h0 : a < 0 ∨ b < 0
  · rw [if_pos (h0.elim .inl fun h => .inr (.inl h))]
    have hmn : (if b < a then b else a) < 0 := by split <;> omega
    simp (implicitDefEqProofs := false) (disch := omega) only [W2, opds, Nat.testBit, Nat.reduceAdd, Nat.reduceShiftRight, Nat.reduceAnd, Nat.reduceBNe, Nat.reduceMul, t_purm, t_min, decide_eq_true hmn, fza]
  · have hmn : ¬ (if b < a then b else a) < 0 := by split <;> omega
    by_cases h1 : D ≤ a ∨ D ≤ b
    · rw [if_pos (h1.elim (fun h => .inr (.inr (.inl h))) fun h => .inr (.inr (.inr h)))]
      have hmx : (if a < b then b else a) ≥ D := by split <;> omega
      simp (implicitDefEqProofs := false) (disch := omega) only [W2, opds, Nat.testBit, Nat.reduceAdd, Nat.reduceShiftRight, Nat.reduceAnd, Nat.reduceBNe, Nat.reduceMul, t_purm, t_min, decide_eq_false hmn, t_mx, m1, decide_eq_true hmx, fza]
    · rw [if_neg (by omega)]
      have hmx : ¬ (if a < b then b else a) ≥ D := by split <;> omega
      simp (implicitDefEqProofs := false) (disch := omega) only [W2, opds, Nat.testBit, Nat.reduceAdd, Nat.reduceShiftRight, Nat.reduceAnd, Nat.reduceBNe, Nat.reduceMul, t_purm, t_min, decide_eq_false hmn, t_mx, m1, decide_eq_false hmx, k1.len, hbel]
      refine wr_kont (shared_L0 h31 h42 k1 hs hr a b _ _ _ _ _ _ _ (fun rr => ?_) gs.length 0 (by omega))
      simp (implicitDefEqProofs := false) (disch := omega) only [W2, opds, Nat.testBit, Nat.reduceAdd, Nat.reduceShiftRight, Nat.reduceAnd, Nat.reduceBNe, Nat.reduceMul, fza]
end Go.Am.C07
namespace Go.Am.C07.K
open Go Go.Am
variable {E : Nat → Option AFn} {Y : Nat → List Value → FM → Nat → OR FM}
theorem has_loop (m : FM) (n : Nat) (v : Value) (xs : List Int) (k : Int) (hs : Ints m n v xs) (hl : xs.length < 9223372036854775807) : ∀ d j, j + d = xs.length →
    Gv (execW PG E Y ac20L0 [.bool false, .int .i64 (j : Int), .int .i64 0, .bool false, v, .int .i64 k] m n) fun X e' m' n' w => m' = m ∧ n' = n ∧ w = 0 ∧
      ((k ∈ xs.drop j ∧ X = .ret (.bool true)) ∨ (k ∉ xs.drop j ∧ X = .exit 0 ∧ e' = [.bool false, .int .i64 0, .bool false, v, .int .i64 k])) := by
  intro d
  induction d with
  | zero =>
    intro j hj
    have hlt : ¬ ((j : Int) < (xs.length : Int)) := by omega
    rw [ac20L0_w]
    simp only [ac20L0b, Gv_add, w_seq, v_reg, q_cons, q_nil, q_nop, q_op, q_eff, q_opg, q_effg, keep_ok, drop1_ok, out_ok, crRec_mk, onNorm_norm, onNorm_exit, onNorm_ret, addRW_mk, w_cond, onCond_mk, w_block, onBlock_norm, onBlock_ret, onBlock_exit, w_pre, w_post, onPost_norm, onPost_exit, onPost_ret, w_exit, w_ret, onRet_mk, res_nil, res_cons, resO_v, retV_one, fixE_mk, lmap_nil, lmap_cons, ldrop_z, ldrop_s, ev_v, ev_c, lget_z, lget_s, evs_nil, evs_cons, s_mov, s_pick, s_bin, s_una, s_conv, s_fld, s_idx, s_ida, s_build, s_extr, s_nilck, s_len, s_mx, s_ld1, s_ldn, s_st, s_call, s_new, s_box, s_make, s_app, bin_int, i_add, i_sub, i_mul, i_eql, i_neq, i_lss, i_gtr, i_leq, i_geq, pick_mk, wantB_mk, una_not, fld_mk, nilck_mk, valO_some, lor_zero', zero_lor', cond_true, cond_false, Nat.beq_refl, natOf_mk, natOf_zero, natOf_one, obind_some, w_skip, Bool.not_true, Bool.not_false, wantB_undef, newb_fm, ptrP_mk, slcP_mk, cells_agg, hs.len, hlt, decide_false]
    exact ⟨rfl, rfl, rfl, .inr ⟨by rw [List.drop_eq_nil_of_le (by omega)]; simp, rfl, rfl⟩⟩
  | succ d ih =>
    intro j hj
    have hlt : (j : Int) < (xs.length : Int) := by omega
    obtain ⟨a, b, hix, hld, hb⟩ := hs.at (i := j) (by omega)
    have hw : IntKind.i64.wrap ((j : Int) + 1) = ((j + 1 : Nat) : Int) := by rw [wrap_small (by omega) (by omega)]; omega
    rw [ac20L0_w]
    by_cases hx : xs[j] = k
    · simp only [ac20L0b, Gv_add, w_seq, v_reg, q_cons, q_nil, q_nop, q_op, q_eff, q_opg, q_effg, keep_ok, drop1_ok, out_ok, crRec_mk, onNorm_norm, onNorm_exit, onNorm_ret, addRW_mk, w_cond, onCond_mk, w_block, onBlock_norm, onBlock_ret, onBlock_exit, w_pre, w_post, onPost_norm, onPost_exit, onPost_ret, w_exit, w_ret, onRet_mk, res_nil, res_cons, resO_v, retV_one, fixE_mk, lmap_nil, lmap_cons, ldrop_z, ldrop_s, ev_v, ev_c, lget_z, lget_s, evs_nil, evs_cons, s_mov, s_pick, s_bin, s_una, s_conv, s_fld, s_idx, s_ida, s_build, s_extr, s_nilck, s_len, s_mx, s_ld1, s_ldn, s_st, s_call, s_new, s_box, s_make, s_app, bin_int, i_add, i_sub, i_mul, i_eql, i_neq, i_lss, i_gtr, i_leq, i_geq, pick_mk, wantB_mk, una_not, fld_mk, nilck_mk, valO_some, lor_zero', zero_lor', cond_true, cond_false, Nat.beq_refl, natOf_mk, natOf_zero, natOf_one, obind_some, w_skip, Bool.not_true, Bool.not_false, wantB_undef, newb_fm, ptrP_mk, slcP_mk, cells_agg, hs.len, hlt, decide_true, hix, hld, hx]
      exact ⟨rfl, rfl, rfl, .inl ⟨by rw [List.drop_eq_getElem_cons (by omega), hx]; simp, rfl⟩⟩
    · simp only [ac20L0b, Gv_add, w_seq, v_reg, q_cons, q_nil, q_nop, q_op, q_eff, q_opg, q_effg, keep_ok, drop1_ok, out_ok, crRec_mk, onNorm_norm, onNorm_exit, onNorm_ret, addRW_mk, w_cond, onCond_mk, w_block, onBlock_norm, onBlock_ret, onBlock_exit, w_pre, w_post, onPost_norm, onPost_exit, onPost_ret, w_exit, w_ret, onRet_mk, res_nil, res_cons, resO_v, retV_one, fixE_mk, lmap_nil, lmap_cons, ldrop_z, ldrop_s, ev_v, ev_c, lget_z, lget_s, evs_nil, evs_cons, s_mov, s_pick, s_bin, s_una, s_conv, s_fld, s_idx, s_ida, s_build, s_extr, s_nilck, s_len, s_mx, s_ld1, s_ldn, s_st, s_call, s_new, s_box, s_make, s_app, bin_int, i_add, i_sub, i_mul, i_eql, i_neq, i_lss, i_gtr, i_leq, i_geq, pick_mk, wantB_mk, una_not, fld_mk, nilck_mk, valO_some, lor_zero', zero_lor', cond_true, cond_false, Nat.beq_refl, natOf_mk, natOf_zero, natOf_one, obind_some, w_skip, Bool.not_true, Bool.not_false, wantB_undef, newb_fm, ptrP_mk, slcP_mk, cells_agg, hs.len, hlt, decide_true, decide_false, hix, hld, hx, hw]
      refine Gv.mono (ih (j + 1) (by omega)) fun X e' m' n' w h => ?_
      have hm : k ∈ xs.drop j ↔ k ∈ xs.drop (j + 1) := by
        rw [List.drop_eq_getElem_cons (by omega)]
        exact ⟨fun h => (List.mem_cons.1 h).resolve_left (Ne.symm hx), fun h => List.mem_cons.2 (.inr h)⟩
      rw [hm]
      simpa only [zero_lor'] using h
theorem has_spec (hE : E 20 = some ac20) (m : FM) (n : Nat) (v : Value) (xs : List Int) (k : Int) (hs : Ints m n v xs) (hl : xs.length < 9223372036854775807) :
    Pure (callW PG E Y 20 [v, .int .i64 k] m n) m n (.bool (decide (k ∈ xs))) := by
  rw [callW_fn hE rfl]
  refine pure_of rfl ?_
  obtain ⟨X, e', m', n', r, w, hx, rfl, rfl, rfl, h⟩ := Gv_some (has_loop (E := E) (Y := Y) m n v xs k hs hl xs.length 0 (by omega))
  replace hx : execW PG E Y ac20L0 [.bool false, .int .i64 0, .int .i64 0, .bool false, v, .int .i64 k] m' n' = _ := hx
  rcases h with ⟨h, rfl⟩ | ⟨h, rfl, rfl⟩
  · simp only [ac20, Gv_add, w_seq, v_reg, q_cons, q_nil, q_nop, q_op, q_eff, q_opg, q_effg, keep_ok, drop1_ok, out_ok, crRec_mk, onNorm_norm, onNorm_exit, onNorm_ret, addRW_mk, w_cond, onCond_mk, w_block, onBlock_norm, onBlock_ret, onBlock_exit, w_pre, w_post, onPost_norm, onPost_exit, onPost_ret, w_exit, w_ret, onRet_mk, res_nil, res_cons, resO_v, retV_one, fixE_mk, lmap_nil, lmap_cons, ldrop_z, ldrop_s, ev_v, ev_c, lget_z, lget_s, evs_nil, evs_cons, s_mov, s_pick, s_bin, s_una, s_conv, s_fld, s_idx, s_ida, s_build, s_extr, s_nilck, s_len, s_mx, s_ld1, s_ldn, s_st, s_call, s_new, s_box, s_make, s_app, bin_int, i_add, i_sub, i_mul, i_eql, i_neq, i_lss, i_gtr, i_leq, i_geq, pick_mk, wantB_mk, una_not, fld_mk, nilck_mk, valO_some, lor_zero', zero_lor', cond_true, cond_false, Nat.beq_refl, natOf_mk, natOf_zero, natOf_one, obind_some, w_skip, Bool.not_true, Bool.not_false, wantB_undef, newb_fm, ptrP_mk, slcP_mk, cells_agg, hx]
    exact ⟨by simp at h; simp [h], mod_zero _⟩
  · simp only [ac20, Gv_add, w_seq, v_reg, q_cons, q_nil, q_nop, q_op, q_eff, q_opg, q_effg, keep_ok, drop1_ok, out_ok, crRec_mk, onNorm_norm, onNorm_exit, onNorm_ret, addRW_mk, w_cond, onCond_mk, w_block, onBlock_norm, onBlock_ret, onBlock_exit, w_pre, w_post, onPost_norm, onPost_exit, onPost_ret, w_exit, w_ret, onRet_mk, res_nil, res_cons, resO_v, retV_one, fixE_mk, lmap_nil, lmap_cons, ldrop_z, ldrop_s, ev_v, ev_c, lget_z, lget_s, evs_nil, evs_cons, s_mov, s_pick, s_bin, s_una, s_conv, s_fld, s_idx, s_ida, s_build, s_extr, s_nilck, s_len, s_mx, s_ld1, s_ldn, s_st, s_call, s_new, s_box, s_make, s_app, bin_int, i_add, i_sub, i_mul, i_eql, i_neq, i_lss, i_gtr, i_leq, i_geq, pick_mk, wantB_mk, una_not, fld_mk, nilck_mk, valO_some, lor_zero', zero_lor', cond_true, cond_false, Nat.beq_refl, natOf_mk, natOf_zero, natOf_one, obind_some, w_skip, Bool.not_true, Bool.not_false, wantB_undef, newb_fm, ptrP_mk, slcP_mk, cells_agg, hx]
    exact ⟨by simp at h; simp [h], mod_zero _⟩
end Go.Am.C07.K
namespace Go.Am.C07.K
open Go Go.Am
variable {E : Nat → Option AFn} {Y : Nat → List Value → FM → Nat → OR FM}
def PlaceOk (disks : Int) (g : List Int) (i : Nat) : Prop := ∀ x, g[i]? = some x → 0 ≤ x ∧ x < disks ∧ (0 < i → ∀ y, g[i - 1]? = some y → y < x)
def RowFrom (disks : Int) (g : List Int) (j : Nat) : Prop := ∀ i, j ≤ i → i < g.length → PlaceOk disks g i
theorem rowFrom_end {disks : Int} {g : List Int} {j : Nat} (h : g.length ≤ j) : RowFrom disks g j := fun i h1 h2 => by omega
theorem rowFrom_step {disks : Int} {g : List Int} {j : Nat} (h : j < g.length) : RowFrom disks g j ↔ PlaceOk disks g j ∧ RowFrom disks g (j + 1) :=
  ⟨fun hr => ⟨hr j (Nat.le_refl _) h, fun i h1 h2 => hr i (by omega) h2⟩, fun ⟨h1, h2⟩ i h3 h4 => by
    rcases Nat.eq_or_lt_of_le h3 with rfl | h5
    · exact h1
    · exact h2 i h5 h4⟩
theorem placeOk_iff {disks : Int} {g : List Int} {j : Nat} (h : j < g.length) : PlaceOk disks g j ↔ 0 ≤ g[j] ∧ g[j] < disks ∧ (0 < j → g[j - 1] < g[j]) := by
  unfold PlaceOk
  rw [List.getElem?_eq_getElem h]
  constructor
  · intro hp
    obtain ⟨h1, h2, h3⟩ := hp _ rfl
    exact ⟨h1, h2, fun hj => h3 hj _ (List.getElem?_eq_getElem (by omega))⟩
  · rintro ⟨h1, h2, h3⟩ x hx
    injection hx with hx; subst hx
    refine ⟨h1, h2, fun hj y hy => ?_⟩
    rw [List.getElem?_eq_getElem (by omega)] at hy
    injection hy with hy; subst hy
    exact h3 hj
theorem formed_L0 (M : FM) (N p : Nat) (disks : Int) (gv : Value) (hp : M p = some (.cells [.int .i64 disks, gv] 0 false true)) (hpN : p < N) (g : List Int) (gval : Value) (hg : Ints M N gval g) (hl : g.length < 4611686018427387904)
    (x2 x4 x5 x6 x7 x8 x9 x10 x12 x13 x14 x15 x16 x17 x18 x19 x20 x22 : Value) : ∀ d j, j + d = g.length →
    Gv (execW PG E Y ac26L0 [.bool false, .int .i64 (j : Int), x2, .int .i64 (g.length : Int), x4, x5, x6, x7, x8, x9, x10, gval, x12, x13, x14, x15, x16, x17, x18, x19, x20, .pointer (some ⟨p, 0, none⟩), x22] M N) fun X e' m' n' w => m' = M ∧ n' = N ∧ w = 0 ∧
      ((RowFrom disks g j ∧ X = .exit 2 ∧ e' = [.bool false, .int .i64 (g.length : Int), x2, .int .i64 (g.length : Int), x4, x5, x6, x7, x8, x9, x10, gval, x12, x13, x14, x15, x16, x17, x18, x19, x20, .pointer (some ⟨p, 0, none⟩), x22])
        ∨ (¬ RowFrom disks g j ∧ X = .ret (.bool false))) := by
  intro d
  have hd : ld1V M N (.pointer (some ⟨p, 0 + 0, none⟩)) = .ok (.int .i64 disks) M N (bit p) 0 := ld1_at hpN hp rfl
  induction d with
  | zero =>
    intro j hj
    have hjl : (j : Int) = (g.length : Int) := by omega
    have hlt : ¬ ((g.length : Int) < (g.length : Int)) := by omega
    rw [ac26L0_w, hjl]
    simp only [ac26L0b, Gv_add, w_seq, v_reg, q_cons, q_nil, q_nop, q_op, q_eff, q_opg, q_effg, keep_ok, drop1_ok, out_ok, crRec_mk, onNorm_norm, onNorm_exit, onNorm_ret, addRW_mk, w_cond, onCond_mk, w_block, onBlock_norm, onBlock_ret, onBlock_exit, w_pre, w_post, onPost_norm, onPost_exit, onPost_ret, w_exit, w_ret, onRet_mk, res_nil, res_cons, resO_v, retV_one, fixE_mk, lmap_nil, lmap_cons, ldrop_z, ldrop_s, ev_v, ev_c, lget_z, lget_s, evs_nil, evs_cons, s_mov, s_pick, s_bin, s_una, s_conv, s_fld, s_idx, s_ida, s_build, s_extr, s_nilck, s_len, s_mx, s_ld1, s_ldn, s_st, s_call, s_new, s_box, s_make, s_app, bin_int, i_add, i_sub, i_mul, i_eql, i_neq, i_lss, i_gtr, i_leq, i_geq, pick_mk, wantB_mk, una_not, fld_mk, nilck_mk, valO_some, lor_zero', zero_lor', cond_true, cond_false, Nat.beq_refl, natOf_mk, natOf_zero, natOf_one, obind_some, w_skip, Bool.not_true, Bool.not_false, wantB_undef, newb_fm, ptrP_mk, slcP_mk, cells_agg, hlt, decide_false]
    exact ⟨rfl, rfl, rfl, .inl ⟨rowFrom_end (by omega), rfl, rfl⟩⟩
  | succ d ih =>
    intro j hj
    have hlt : (j : Int) < (g.length : Int) := by omega
    have hjl : j < g.length := by omega
    obtain ⟨a, b, hix, hld, hb⟩ := hg.at hjl
    have hw : IntKind.i64.wrap ((j : Int) + 1) = ((j + 1 : Nat) : Int) := by rw [wrap_small (by omega) (by omega)]; omega
    have hiff := placeOk_iff (disks := disks) hjl
    have hstep := rowFrom_step (disks := disks) hjl
    rw [ac26L0_w]
    by_cases h1 : g[j] < 0
    · simp only [ac26L0b, Gv_add, w_seq, v_reg, q_cons, q_nil, q_nop, q_op, q_eff, q_opg, q_effg, keep_ok, drop1_ok, out_ok, crRec_mk, onNorm_norm, onNorm_exit, onNorm_ret, addRW_mk, w_cond, onCond_mk, w_block, onBlock_norm, onBlock_ret, onBlock_exit, w_pre, w_post, onPost_norm, onPost_exit, onPost_ret, w_exit, w_ret, onRet_mk, res_nil, res_cons, resO_v, retV_one, fixE_mk, lmap_nil, lmap_cons, ldrop_z, ldrop_s, ev_v, ev_c, lget_z, lget_s, evs_nil, evs_cons, s_mov, s_pick, s_bin, s_una, s_conv, s_fld, s_idx, s_ida, s_build, s_extr, s_nilck, s_len, s_mx, s_ld1, s_ldn, s_st, s_call, s_new, s_box, s_make, s_app, bin_int, i_add, i_sub, i_mul, i_eql, i_neq, i_lss, i_gtr, i_leq, i_geq, pick_mk, wantB_mk, una_not, fld_mk, nilck_mk, valO_some, lor_zero', zero_lor', cond_true, cond_false, Nat.beq_refl, natOf_mk, natOf_zero, natOf_one, obind_some, w_skip, Bool.not_true, Bool.not_false, wantB_undef, newb_fm, ptrP_mk, slcP_mk, cells_agg, hlt, decide_true, hix, hld, h1]
      exact ⟨rfl, rfl, rfl, .inr ⟨fun h => by have := (hiff.1 (hstep.1 h).1).1; omega, rfl⟩⟩
    · by_cases h2 : disks ≤ g[j]
      · simp only [ac26L0b, Gv_add, w_seq, v_reg, q_cons, q_nil, q_nop, q_op, q_eff, q_opg, q_effg, keep_ok, drop1_ok, out_ok, crRec_mk, onNorm_norm, onNorm_exit, onNorm_ret, addRW_mk, w_cond, onCond_mk, w_block, onBlock_norm, onBlock_ret, onBlock_exit, w_pre, w_post, onPost_norm, onPost_exit, onPost_ret, w_exit, w_ret, onRet_mk, res_nil, res_cons, resO_v, retV_one, fixE_mk, lmap_nil, lmap_cons, ldrop_z, ldrop_s, ev_v, ev_c, lget_z, lget_s, evs_nil, evs_cons, s_mov, s_pick, s_bin, s_una, s_conv, s_fld, s_idx, s_ida, s_build, s_extr, s_nilck, s_len, s_mx, s_ld1, s_ldn, s_st, s_call, s_new, s_box, s_make, s_app, bin_int, i_add, i_sub, i_mul, i_eql, i_neq, i_lss, i_gtr, i_leq, i_geq, pick_mk, wantB_mk, una_not, fld_mk, nilck_mk, valO_some, lor_zero', zero_lor', cond_true, cond_false, Nat.beq_refl, natOf_mk, natOf_zero, natOf_one, obind_some, w_skip, Bool.not_true, Bool.not_false, wantB_undef, newb_fm, ptrP_mk, slcP_mk, cells_agg, hlt, decide_true, decide_false, hix, hld, h1, h2, hd, Bool.not_false, Bool.not_true]
        exact ⟨rfl, rfl, rfl, .inr ⟨fun h => by have := (hiff.1 (hstep.1 h).1).2.1; omega, rfl⟩⟩
      · by_cases h3 : 0 < (j : Int)
        · obtain ⟨a2, b2, hix2, hld2, hb2⟩ := hg.at (i := j - 1) (by omega)
          have hw2 : IntKind.i64.wrap ((j : Int) - 1) = ((j - 1 : Nat) : Int) := by rw [wrap_small (by omega) (by omega)]; omega
          by_cases h4 : g[j] ≤ g[j - 1]
          · simp only [ac26L0b, Gv_add, w_seq, v_reg, q_cons, q_nil, q_nop, q_op, q_eff, q_opg, q_effg, keep_ok, drop1_ok, out_ok, crRec_mk, onNorm_norm, onNorm_exit, onNorm_ret, addRW_mk, w_cond, onCond_mk, w_block, onBlock_norm, onBlock_ret, onBlock_exit, w_pre, w_post, onPost_norm, onPost_exit, onPost_ret, w_exit, w_ret, onRet_mk, res_nil, res_cons, resO_v, retV_one, fixE_mk, lmap_nil, lmap_cons, ldrop_z, ldrop_s, ev_v, ev_c, lget_z, lget_s, evs_nil, evs_cons, s_mov, s_pick, s_bin, s_una, s_conv, s_fld, s_idx, s_ida, s_build, s_extr, s_nilck, s_len, s_mx, s_ld1, s_ldn, s_st, s_call, s_new, s_box, s_make, s_app, bin_int, i_add, i_sub, i_mul, i_eql, i_neq, i_lss, i_gtr, i_leq, i_geq, pick_mk, wantB_mk, una_not, fld_mk, nilck_mk, valO_some, lor_zero', zero_lor', cond_true, cond_false, Nat.beq_refl, natOf_mk, natOf_zero, natOf_one, obind_some, w_skip, Bool.not_true, Bool.not_false, wantB_undef, newb_fm, ptrP_mk, slcP_mk, cells_agg, hlt, decide_true, decide_false, hix, hld, h1, h2, hd, Bool.not_false, Bool.not_true, h3, hw2, hix2, hld2, h4]
            exact ⟨rfl, rfl, rfl, .inr ⟨fun h => by have := (hiff.1 (hstep.1 h).1).2.2 (by omega); omega, rfl⟩⟩
          · simp only [ac26L0b, Gv_add, w_seq, v_reg, q_cons, q_nil, q_nop, q_op, q_eff, q_opg, q_effg, keep_ok, drop1_ok, out_ok, crRec_mk, onNorm_norm, onNorm_exit, onNorm_ret, addRW_mk, w_cond, onCond_mk, w_block, onBlock_norm, onBlock_ret, onBlock_exit, w_pre, w_post, onPost_norm, onPost_exit, onPost_ret, w_exit, w_ret, onRet_mk, res_nil, res_cons, resO_v, retV_one, fixE_mk, lmap_nil, lmap_cons, ldrop_z, ldrop_s, ev_v, ev_c, lget_z, lget_s, evs_nil, evs_cons, s_mov, s_pick, s_bin, s_una, s_conv, s_fld, s_idx, s_ida, s_build, s_extr, s_nilck, s_len, s_mx, s_ld1, s_ldn, s_st, s_call, s_new, s_box, s_make, s_app, bin_int, i_add, i_sub, i_mul, i_eql, i_neq, i_lss, i_gtr, i_leq, i_geq, pick_mk, wantB_mk, una_not, fld_mk, nilck_mk, valO_some, lor_zero', zero_lor', cond_true, cond_false, Nat.beq_refl, natOf_mk, natOf_zero, natOf_one, obind_some, w_skip, Bool.not_true, Bool.not_false, wantB_undef, newb_fm, ptrP_mk, slcP_mk, cells_agg, hlt, decide_true, decide_false, hix, hld, h1, h2, hd, Bool.not_false, Bool.not_true, h3, hw2, hix2, hld2, h4, hw]
            refine Gv.mono (ih (j + 1) (by omega)) fun X e' m' n' w h => ?_
            have : (0 ≤ g[j] ∧ g[j] < disks ∧ (0 < j → g[j - 1] < g[j])) := ⟨by omega, by omega, fun _ => by omega⟩
            have hr : RowFrom disks g j ↔ RowFrom disks g (j + 1) := by rw [hstep, hiff]; exact ⟨fun h => h.2, fun h => ⟨this, h⟩⟩
            rw [hr]
            simpa only [zero_lor'] using h
        · simp only [ac26L0b, Gv_add, w_seq, v_reg, q_cons, q_nil, q_nop, q_op, q_eff, q_opg, q_effg, keep_ok, drop1_ok, out_ok, crRec_mk, onNorm_norm, onNorm_exit, onNorm_ret, addRW_mk, w_cond, onCond_mk, w_block, onBlock_norm, onBlock_ret, onBlock_exit, w_pre, w_post, onPost_norm, onPost_exit, onPost_ret, w_exit, w_ret, onRet_mk, res_nil, res_cons, resO_v, retV_one, fixE_mk, lmap_nil, lmap_cons, ldrop_z, ldrop_s, ev_v, ev_c, lget_z, lget_s, evs_nil, evs_cons, s_mov, s_pick, s_bin, s_una, s_conv, s_fld, s_idx, s_ida, s_build, s_extr, s_nilck, s_len, s_mx, s_ld1, s_ldn, s_st, s_call, s_new, s_box, s_make, s_app, bin_int, i_add, i_sub, i_mul, i_eql, i_neq, i_lss, i_gtr, i_leq, i_geq, pick_mk, wantB_mk, una_not, fld_mk, nilck_mk, valO_some, lor_zero', zero_lor', cond_true, cond_false, Nat.beq_refl, natOf_mk, natOf_zero, natOf_one, obind_some, w_skip, Bool.not_true, Bool.not_false, wantB_undef, newb_fm, ptrP_mk, slcP_mk, cells_agg, hlt, decide_true, decide_false, hix, hld, h1, h2, hd, Bool.not_false, Bool.not_true, h3, hw]
          refine Gv.mono (ih (j + 1) (by omega)) fun X e' m' n' w h => ?_
          have : (0 ≤ g[j] ∧ g[j] < disks ∧ (0 < j → g[j - 1] < g[j])) := ⟨by omega, by omega, fun _ => by omega⟩
          have hr : RowFrom disks g j ↔ RowFrom disks g (j + 1) := by rw [hstep, hiff]; exact ⟨fun h => h.2, fun h => ⟨this, h⟩⟩
          rw [hr]
          simpa only [zero_lor'] using h

theorem formed_L0_yes (M : FM) (N p : Nat) (disks : Int) (gv : Value) (hp : M p = some (.cells [.int .i64 disks, gv] 0 false true)) (hpN : p < N) (g : List Int) (gval : Value) (hg : Ints M N gval g) (hl : g.length < 4611686018427387904) (hr : RowFrom disks g 0) :
    ∃ rf : List Value → Nat, ∀ x2 x4 x5 x6 x7 x8 x9 x10 x12 x13 x14 x15 x16 x17 x18 x19 x20 x22, execW PG E Y ac26L0 [.bool false, .int .i64 0, x2, .int .i64 (g.length : Int), x4, x5, x6, x7, x8, x9, x10, gval, x12, x13, x14, x15, x16, x17, x18, x19, x20, .pointer (some ⟨p, 0, none⟩), x22] M N = .ok (.exit 2) [.bool false, .int .i64 (g.length : Int), x2, .int .i64 (g.length : Int), x4, x5, x6, x7, x8, x9, x10, gval, x12, x13, x14, x15, x16, x17, x18, x19, x20, .pointer (some ⟨p, 0, none⟩), x22] M N (rf [.bool false, .int .i64 0, x2, .int .i64 (g.length : Int), x4, x5, x6, x7, x8, x9, x10, gval, x12, x13, x14, x15, x16, x17, x18, x19, x20, .pointer (some ⟨p, 0, none⟩), x22]) 0 := by
  obtain ⟨rf, ef, h⟩ := named_r (fun l => execW PG E Y ac26L0 l M N)
  refine ⟨rf, fun x2 x4 x5 x6 x7 x8 x9 x10 x12 x13 x14 x15 x16 x17 x18 x19 x20 x22 => ?_⟩
  rw [(h _).1]
  refine gv_norm (Gv.mono (formed_L0 (E := E) (Y := Y) M N p disks gv hp hpN g gval hg hl x2 x4 x5 x6 x7 x8 x9 x10 x12 x13 x14 x15 x16 x17 x18 x19 x20 x22 g.length 0 (by omega)) fun X e' m' n' w hh => ?_)
  obtain ⟨h1, h2, h3, h4⟩ := hh
  rcases h4 with ⟨_, h5, h6⟩ | ⟨h5, _⟩
  · exact ⟨h5, h6, h1, h2, h3⟩
  · exact absurd hr h5
theorem formed_L0_no (M : FM) (N p : Nat) (disks : Int) (gv : Value) (hp : M p = some (.cells [.int .i64 disks, gv] 0 false true)) (hpN : p < N) (g : List Int) (gval : Value) (hg : Ints M N gval g) (hl : g.length < 4611686018427387904) (hr : ¬ RowFrom disks g 0) :
    ∃ (rf : List Value → Nat) (ef : List Value → List Value), ∀ x2 x4 x5 x6 x7 x8 x9 x10 x12 x13 x14 x15 x16 x17 x18 x19 x20 x22, execW PG E Y ac26L0 [.bool false, .int .i64 0, x2, .int .i64 (g.length : Int), x4, x5, x6, x7, x8, x9, x10, gval, x12, x13, x14, x15, x16, x17, x18, x19, x20, .pointer (some ⟨p, 0, none⟩), x22] M N = .ok (.ret (.bool false)) (ef [.bool false, .int .i64 0, x2, .int .i64 (g.length : Int), x4, x5, x6, x7, x8, x9, x10, gval, x12, x13, x14, x15, x16, x17, x18, x19, x20, .pointer (some ⟨p, 0, none⟩), x22]) M N (rf [.bool false, .int .i64 0, x2, .int .i64 (g.length : Int), x4, x5, x6, x7, x8, x9, x10, gval, x12, x13, x14, x15, x16, x17, x18, x19, x20, .pointer (some ⟨p, 0, none⟩), x22]) 0 := by
  obtain ⟨rf, ef, h⟩ := named_r (fun l => execW PG E Y ac26L0 l M N)
  refine ⟨rf, ef, fun x2 x4 x5 x6 x7 x8 x9 x10 x12 x13 x14 x15 x16 x17 x18 x19 x20 x22 => ?_⟩
  rw [(h _).1, (h _).2]
  refine gv_ret (Gv.mono (formed_L0 (E := E) (Y := Y) M N p disks gv hp hpN g gval hg hl x2 x4 x5 x6 x7 x8 x9 x10 x12 x13 x14 x15 x16 x17 x18 x19 x20 x22 g.length 0 (by omega)) fun X e' m' n' w hh => ?_)
  obtain ⟨h1, h2, h3, h4⟩ := hh
  rcases h4 with ⟨h5, _, _⟩ | ⟨_, h5⟩
  · exact absurd h5 hr
  · exact ⟨h5, h1, h2, h3⟩

def GroupsFrom (disks : Int) (w : Nat) (gs : List (List Int)) (j : Nat) : Prop := ∀ i g, j ≤ i → gs[i]? = some g → g.length = w ∧ RowFrom disks g 0
theorem groupsFrom_end {disks : Int} {w : Nat} {gs : List (List Int)} {j : Nat} (h : gs.length ≤ j) : GroupsFrom disks w gs j := fun i g h1 h2 => by
  have := (List.getElem?_eq_some_iff.1 h2).1; omega
theorem groupsFrom_step {disks : Int} {w : Nat} {gs : List (List Int)} {j : Nat} (h : j < gs.length) : GroupsFrom disks w gs j ↔ (gs[j].length = w ∧ RowFrom disks gs[j] 0) ∧ GroupsFrom disks w gs (j + 1) :=
  ⟨fun hr => ⟨hr j _ (Nat.le_refl _) (List.getElem?_eq_getElem h), fun i g h1 h2 => hr i g (by omega) h2⟩, fun ⟨h1, h2⟩ i g h3 h4 => by
    rcases Nat.eq_or_lt_of_le h3 with rfl | h5
    · rw [List.getElem?_eq_getElem h] at h4; injection h4 with h4; subst h4; exact h1
    · exact h2 i g h5 h4⟩
theorem formed_L1 (M : FM) (N p : Nat) (disks : Int) (gv : Value) (hp : M p = some (.cells [.int .i64 disks, gv] 0 false true)) (hpN : p < N) (gs : List (List Int)) (hgs : Rows M N gv gs) (hl : gs.length < 4611686018427387904) (hrow : ∀ g ∈ gs, g.length < 4611686018427387904) (h0 : 0 < gs.length)
    (x2 x5 x6 x8 : Value) : ∀ d j, j + d = gs.length →
    Gv (execW PG E Y ac26L1 [.bool false, .int .i64 (j : Int), x2, .int .i64 (gs.length : Int), gv, x5, x6, .pointer (some ⟨p, 0, none⟩), x8] M N) fun X e' m' n' w => m' = M ∧ n' = N ∧ w = 0 ∧
      ((GroupsFrom disks gs[0].length gs j ∧ X = .exit 0 ∧ e' = [.bool false, x2, .int .i64 (gs.length : Int), gv, x5, x6, .pointer (some ⟨p, 0, none⟩), x8]) ∨ (¬ GroupsFrom disks gs[0].length gs j ∧ X = .ret (.bool false))) := by
  intro d
  have hgv : ld1V M N (.pointer (some ⟨p, 0 + 1, none⟩)) = .ok gv M N (bit p) 0 := ld1_at hpN hp rfl
  obtain ⟨a0, b0, g0v, hix0, hld0, _, hg0⟩ := hgs.at h0
  replace hix0 : idxV 1 0 gv = some (.pointer (some a0)) := hix0
  induction d with
  | zero =>
    intro j hj
    have hjl : (j : Int) = (gs.length : Int) := by omega
    have hlt : ¬ ((gs.length : Int) < (gs.length : Int)) := by omega
    rw [ac26L1_w, hjl]
    simp only [ac26L1b, Gv_add, w_seq, v_reg, q_cons, q_nil, q_nop, q_op, q_eff, q_opg, q_effg, keep_ok, drop1_ok, out_ok, crRec_mk, onNorm_norm, onNorm_exit, onNorm_ret, addRW_mk, w_cond, onCond_mk, w_block, onBlock_norm, onBlock_ret, onBlock_exit, w_pre, w_post, onPost_norm, onPost_exit, onPost_ret, w_exit, w_ret, onRet_mk, res_nil, res_cons, resO_v, retV_one, fixE_mk, lmap_nil, lmap_cons, ldrop_z, ldrop_s, ev_v, ev_c, lget_z, lget_s, evs_nil, evs_cons, s_mov, s_pick, s_bin, s_una, s_conv, s_fld, s_idx, s_ida, s_build, s_extr, s_nilck, s_len, s_mx, s_ld1, s_ldn, s_st, s_call, s_new, s_box, s_make, s_app, bin_int, i_add, i_sub, i_mul, i_eql, i_neq, i_lss, i_gtr, i_leq, i_geq, pick_mk, wantB_mk, una_not, fld_mk, nilck_mk, valO_some, lor_zero', zero_lor', cond_true, cond_false, Nat.beq_refl, natOf_mk, natOf_zero, natOf_one, obind_some, w_skip, Bool.not_true, Bool.not_false, wantB_undef, newb_fm, ptrP_mk, slcP_mk, cells_agg, hlt, decide_false]
    exact ⟨rfl, rfl, rfl, .inl ⟨groupsFrom_end (by omega), rfl, rfl⟩⟩
  | succ d ih =>
    intro j hj
    have hlt : (j : Int) < (gs.length : Int) := by omega
    have hjl : j < gs.length := by omega
    obtain ⟨a, b, gval, hix, hld, hb, hg⟩ := hgs.at hjl
    have hw : IntKind.i64.wrap ((j : Int) + 1) = ((j + 1 : Nat) : Int) := by rw [wrap_small (by omega) (by omega)]; omega
    have hstep := groupsFrom_step (disks := disks) (w := gs[0].length) hjl
    rw [ac26L1_w]
    by_cases h1 : (gs[j].length : Int) = (gs[0].length : Int)
    · have h1' : decide ((gs[j].length : Int) = (gs[0].length : Int)) = true := decide_eq_true h1
      have hlj := hrow gs[j] (List.getElem_mem hjl)
      by_cases hr : RowFrom disks gs[j] 0
      · obtain ⟨rf, hrf⟩ := formed_L0_yes (E := E) (Y := Y) M N p disks gv hp hpN gs[j] gval hg hlj hr
        simp only [ac26L1b, Gv_add, w_seq, v_reg, q_cons, q_nil, q_nop, q_op, q_eff, q_opg, q_effg, keep_ok, drop1_ok, out_ok, crRec_mk, onNorm_norm, onNorm_exit, onNorm_ret, addRW_mk, w_cond, onCond_mk, w_block, onBlock_norm, onBlock_ret, onBlock_exit, w_pre, w_post, onPost_norm, onPost_exit, onPost_ret, w_exit, w_ret, onRet_mk, res_nil, res_cons, resO_v, retV_one, fixE_mk, lmap_nil, lmap_cons, ldrop_z, ldrop_s, ev_v, ev_c, lget_z, lget_s, evs_nil, evs_cons, s_mov, s_pick, s_bin, s_una, s_conv, s_fld, s_idx, s_ida, s_build, s_extr, s_nilck, s_len, s_mx, s_ld1, s_ldn, s_st, s_call, s_new, s_box, s_make, s_app, bin_int, i_add, i_sub, i_mul, i_eql, i_neq, i_lss, i_gtr, i_leq, i_geq, pick_mk, wantB_mk, una_not, fld_mk, nilck_mk, valO_some, lor_zero', zero_lor', cond_true, cond_false, Nat.beq_refl, natOf_mk, natOf_zero, natOf_one, obind_some, w_skip, Bool.not_true, Bool.not_false, wantB_undef, newb_fm, ptrP_mk, slcP_mk, cells_agg, hlt, decide_true, decide_false, hix, hld, hg.len, hg0.len, hgv, hix0, hld0, h1', hrf, hw]
        refine Gv.mono (ih (j + 1) (by omega)) fun X e' m' n' w h => ?_
        have hiff : GroupsFrom disks gs[0].length gs j ↔ GroupsFrom disks gs[0].length gs (j + 1) := by rw [hstep]; exact ⟨fun h => h.2, fun h => ⟨⟨by omega, hr⟩, h⟩⟩
        rw [hiff]
        simpa only [zero_lor'] using h
      · obtain ⟨rf, ef, hrf⟩ := formed_L0_no (E := E) (Y := Y) M N p disks gv hp hpN gs[j] gval hg hlj hr
        simp only [ac26L1b, Gv_add, w_seq, v_reg, q_cons, q_nil, q_nop, q_op, q_eff, q_opg, q_effg, keep_ok, drop1_ok, out_ok, crRec_mk, onNorm_norm, onNorm_exit, onNorm_ret, addRW_mk, w_cond, onCond_mk, w_block, onBlock_norm, onBlock_ret, onBlock_exit, w_pre, w_post, onPost_norm, onPost_exit, onPost_ret, w_exit, w_ret, onRet_mk, res_nil, res_cons, resO_v, retV_one, fixE_mk, lmap_nil, lmap_cons, ldrop_z, ldrop_s, ev_v, ev_c, lget_z, lget_s, evs_nil, evs_cons, s_mov, s_pick, s_bin, s_una, s_conv, s_fld, s_idx, s_ida, s_build, s_extr, s_nilck, s_len, s_mx, s_ld1, s_ldn, s_st, s_call, s_new, s_box, s_make, s_app, bin_int, i_add, i_sub, i_mul, i_eql, i_neq, i_lss, i_gtr, i_leq, i_geq, pick_mk, wantB_mk, una_not, fld_mk, nilck_mk, valO_some, lor_zero', zero_lor', cond_true, cond_false, Nat.beq_refl, natOf_mk, natOf_zero, natOf_one, obind_some, w_skip, Bool.not_true, Bool.not_false, wantB_undef, newb_fm, ptrP_mk, slcP_mk, cells_agg, hlt, decide_true, decide_false, hix, hld, hg.len, hg0.len, hgv, hix0, hld0, h1', hrf, hw]
        exact ⟨rfl, rfl, rfl, .inr ⟨fun h => hr (hstep.1 h).1.2, rfl⟩⟩
    · have h1' : decide ((gs[j].length : Int) = (gs[0].length : Int)) = false := decide_eq_false h1
      simp only [ac26L1b, Gv_add, w_seq, v_reg, q_cons, q_nil, q_nop, q_op, q_eff, q_opg, q_effg, keep_ok, drop1_ok, out_ok, crRec_mk, onNorm_norm, onNorm_exit, onNorm_ret, addRW_mk, w_cond, onCond_mk, w_block, onBlock_norm, onBlock_ret, onBlock_exit, w_pre, w_post, onPost_norm, onPost_exit, onPost_ret, w_exit, w_ret, onRet_mk, res_nil, res_cons, resO_v, retV_one, fixE_mk, lmap_nil, lmap_cons, ldrop_z, ldrop_s, ev_v, ev_c, lget_z, lget_s, evs_nil, evs_cons, s_mov, s_pick, s_bin, s_una, s_conv, s_fld, s_idx, s_ida, s_build, s_extr, s_nilck, s_len, s_mx, s_ld1, s_ldn, s_st, s_call, s_new, s_box, s_make, s_app, bin_int, i_add, i_sub, i_mul, i_eql, i_neq, i_lss, i_gtr, i_leq, i_geq, pick_mk, wantB_mk, una_not, fld_mk, nilck_mk, valO_some, lor_zero', zero_lor', cond_true, cond_false, Nat.beq_refl, natOf_mk, natOf_zero, natOf_one, obind_some, w_skip, Bool.not_true, Bool.not_false, wantB_undef, newb_fm, ptrP_mk, slcP_mk, cells_agg, hlt, decide_true, decide_false, hix, hld, hg.len, hg0.len, hgv, hix0, hld0, h1']
      exact ⟨rfl, rfl, rfl, .inr ⟨fun h => by have := (hstep.1 h).1.1; omega, rfl⟩⟩
def Formed (disks : Int) (gs : List (List Int)) : Prop :=
  2 ≤ disks ∧ disks ≤ 60 ∧ gs.length ≤ 4096 ∧ ∃ g0, gs[0]? = some g0 ∧ 2 ≤ g0.length ∧ GroupsFrom disks g0.length gs 0
open Classical in
theorem formed_spec (hE : E 26 = some ac26) (m : FM) (n : Nat) (disks : Int) (gv : Value) (gs : List (List Int)) (hgs : Rows m n gv gs) (hl : gs.length < 4611686018427387904) (hrow : ∀ g ∈ gs, g.length < 4611686018427387904) :
    Pure (callW PG E Y 26 [.agg #[.int .i64 disks, gv]] m n) m n (.bool (decide (Formed disks gs))) := by
  rw [callW_fn hE rfl]
  refine pure_of rfl ?_
  have hfr : ∀ b, b < n → (AMem.put m n (some (.cells [.int .i64 disks, gv] 0 false true)) : FM) b = m b := fun b hb => fput_ne m n b _ (by omega)
  have hgs' := hgs.frame (n' := n + 1) (by omega) hfr
  have hp : (AMem.put m n (some (.cells [.int .i64 disks, gv] 0 false true)) : FM) n = some (.cells [.int .i64 disks, gv] 0 false true) := fput_same m n _
  obtain ⟨M, hM⟩ : ∃ M : FM, AMem.put m n (some (.cells [.int .i64 disks, gv] 0 false true)) = M := ⟨_, rfl⟩
  rw [hM] at hgs' hp
  have hd : ld1V M (n + 1) (.pointer (some ⟨n, 0 + 0, none⟩)) = .ok (.int .i64 disks) M (n + 1) (bit n) 0 := ld1_at (by omega) hp rfl
  have hgv : ld1V M (n + 1) (.pointer (some ⟨n, 0 + 1, none⟩)) = .ok gv M (n + 1) (bit n) 0 := ld1_at (by omega) hp rfl
  have hbn : Nat.mod (bit n) (bit n) = 0 := mod_bit_ge (Nat.le_refl n)
  have no : ∀ {v : Value} {w : Nat}, v = .bool false → ¬ Formed disks gs → Nat.mod w (bit n) = 0 → (AX.ret v = AX.ret (.bool (decide (Formed disks gs))) ∧ Nat.mod w (bit n) = 0) := fun hv h hw => ⟨by rw [hv, decide_eq_false h], hw⟩
  rw [ac26]
  by_cases c1 : disks < 2
  · simp only [Gv_add, w_seq, v_reg, q_cons, q_nil, q_nop, q_op, q_eff, q_opg, q_effg, keep_ok, drop1_ok, out_ok, crRec_mk, onNorm_norm, onNorm_exit, onNorm_ret, addRW_mk, w_cond, onCond_mk, w_block, onBlock_norm, onBlock_ret, onBlock_exit, w_pre, w_post, onPost_norm, onPost_exit, onPost_ret, w_exit, w_ret, onRet_mk, res_nil, res_cons, resO_v, retV_one, fixE_mk, lmap_nil, lmap_cons, ldrop_z, ldrop_s, ev_v, ev_c, lget_z, lget_s, evs_nil, evs_cons, s_mov, s_pick, s_bin, s_una, s_conv, s_fld, s_idx, s_ida, s_build, s_extr, s_nilck, s_len, s_mx, s_ld1, s_ldn, s_st, s_call, s_new, s_box, s_make, s_app, bin_int, i_add, i_sub, i_mul, i_eql, i_neq, i_lss, i_gtr, i_leq, i_geq, pick_mk, wantB_mk, una_not, fld_mk, nilck_mk, valO_some, lor_zero', zero_lor', cond_true, cond_false, Nat.beq_refl, natOf_mk, natOf_zero, natOf_one, obind_some, w_skip, Bool.not_true, Bool.not_false, wantB_undef, newb_fm, ptrP_mk, slcP_mk, cells_agg, hM, hd, c1, decide_true]
    exact no rfl (fun h => by have := h.1; omega) hbn
  by_cases c2 : (60 : Int) < disks
  · simp only [Gv_add, w_seq, v_reg, q_cons, q_nil, q_nop, q_op, q_eff, q_opg, q_effg, keep_ok, drop1_ok, out_ok, crRec_mk, onNorm_norm, onNorm_exit, onNorm_ret, addRW_mk, w_cond, onCond_mk, w_block, onBlock_norm, onBlock_ret, onBlock_exit, w_pre, w_post, onPost_norm, onPost_exit, onPost_ret, w_exit, w_ret, onRet_mk, res_nil, res_cons, resO_v, retV_one, fixE_mk, lmap_nil, lmap_cons, ldrop_z, ldrop_s, ev_v, ev_c, lget_z, lget_s, evs_nil, evs_cons, s_mov, s_pick, s_bin, s_una, s_conv, s_fld, s_idx, s_ida, s_build, s_extr, s_nilck, s_len, s_mx, s_ld1, s_ldn, s_st, s_call, s_new, s_box, s_make, s_app, bin_int, i_add, i_sub, i_mul, i_eql, i_neq, i_lss, i_gtr, i_leq, i_geq, pick_mk, wantB_mk, una_not, fld_mk, nilck_mk, valO_some, lor_zero', zero_lor', cond_true, cond_false, Nat.beq_refl, natOf_mk, natOf_zero, natOf_one, obind_some, w_skip, Bool.not_true, Bool.not_false, wantB_undef, newb_fm, ptrP_mk, slcP_mk, cells_agg, hM, hd, c1, c2, decide_true, decide_false]
    exact no rfl (fun h => by have := h.2.1; omega) hbn
  by_cases c3 : (gs.length : Int) < 1
  · simp only [Gv_add, w_seq, v_reg, q_cons, q_nil, q_nop, q_op, q_eff, q_opg, q_effg, keep_ok, drop1_ok, out_ok, crRec_mk, onNorm_norm, onNorm_exit, onNorm_ret, addRW_mk, w_cond, onCond_mk, w_block, onBlock_norm, onBlock_ret, onBlock_exit, w_pre, w_post, onPost_norm, onPost_exit, onPost_ret, w_exit, w_ret, onRet_mk, res_nil, res_cons, resO_v, retV_one, fixE_mk, lmap_nil, lmap_cons, ldrop_z, ldrop_s, ev_v, ev_c, lget_z, lget_s, evs_nil, evs_cons, s_mov, s_pick, s_bin, s_una, s_conv, s_fld, s_idx, s_ida, s_build, s_extr, s_nilck, s_len, s_mx, s_ld1, s_ldn, s_st, s_call, s_new, s_box, s_make, s_app, bin_int, i_add, i_sub, i_mul, i_eql, i_neq, i_lss, i_gtr, i_leq, i_geq, pick_mk, wantB_mk, una_not, fld_mk, nilck_mk, valO_some, lor_zero', zero_lor', cond_true, cond_false, Nat.beq_refl, natOf_mk, natOf_zero, natOf_one, obind_some, w_skip, Bool.not_true, Bool.not_false, wantB_undef, newb_fm, ptrP_mk, slcP_mk, cells_agg, hM, hd, c1, c2, c3, hgv, hgs'.len, decide_true, decide_false]
    exact no rfl (fun ⟨_, _, _, g0, h0, _⟩ => by have := (List.getElem?_eq_some_iff.1 h0).1; omega) hbn
  have h0 : 0 < gs.length := by omega
  by_cases c4 : (4096 : Int) < (gs.length : Int)
  · simp only [Gv_add, w_seq, v_reg, q_cons, q_nil, q_nop, q_op, q_eff, q_opg, q_effg, keep_ok, drop1_ok, out_ok, crRec_mk, onNorm_norm, onNorm_exit, onNorm_ret, addRW_mk, w_cond, onCond_mk, w_block, onBlock_norm, onBlock_ret, onBlock_exit, w_pre, w_post, onPost_norm, onPost_exit, onPost_ret, w_exit, w_ret, onRet_mk, res_nil, res_cons, resO_v, retV_one, fixE_mk, lmap_nil, lmap_cons, ldrop_z, ldrop_s, ev_v, ev_c, lget_z, lget_s, evs_nil, evs_cons, s_mov, s_pick, s_bin, s_una, s_conv, s_fld, s_idx, s_ida, s_build, s_extr, s_nilck, s_len, s_mx, s_ld1, s_ldn, s_st, s_call, s_new, s_box, s_make, s_app, bin_int, i_add, i_sub, i_mul, i_eql, i_neq, i_lss, i_gtr, i_leq, i_geq, pick_mk, wantB_mk, una_not, fld_mk, nilck_mk, valO_some, lor_zero', zero_lor', cond_true, cond_false, Nat.beq_refl, natOf_mk, natOf_zero, natOf_one, obind_some, w_skip, Bool.not_true, Bool.not_false, wantB_undef, newb_fm, ptrP_mk, slcP_mk, cells_agg, hM, hd, c1, c2, c3, c4, hgv, hgs'.len, decide_true, decide_false]
    exact no rfl (fun h => by have := h.2.2.1; omega) hbn
  obtain ⟨a0, b0, g0v, hix0, hld0, _, hg0⟩ := hgs'.at h0
  replace hix0 : idxV 1 0 gv = some (.pointer (some a0)) := hix0
  have hget : gs[0]? = some gs[0] := List.getElem?_eq_getElem h0
  by_cases c5 : (gs[0].length : Int) < 2
  · simp only [Gv_add, w_seq, v_reg, q_cons, q_nil, q_nop, q_op, q_eff, q_opg, q_effg, keep_ok, drop1_ok, out_ok, crRec_mk, onNorm_norm, onNorm_exit, onNorm_ret, addRW_mk, w_cond, onCond_mk, w_block, onBlock_norm, onBlock_ret, onBlock_exit, w_pre, w_post, onPost_norm, onPost_exit, onPost_ret, w_exit, w_ret, onRet_mk, res_nil, res_cons, resO_v, retV_one, fixE_mk, lmap_nil, lmap_cons, ldrop_z, ldrop_s, ev_v, ev_c, lget_z, lget_s, evs_nil, evs_cons, s_mov, s_pick, s_bin, s_una, s_conv, s_fld, s_idx, s_ida, s_build, s_extr, s_nilck, s_len, s_mx, s_ld1, s_ldn, s_st, s_call, s_new, s_box, s_make, s_app, bin_int, i_add, i_sub, i_mul, i_eql, i_neq, i_lss, i_gtr, i_leq, i_geq, pick_mk, wantB_mk, una_not, fld_mk, nilck_mk, valO_some, lor_zero', zero_lor', cond_true, cond_false, Nat.beq_refl, natOf_mk, natOf_zero, natOf_one, obind_some, w_skip, Bool.not_true, Bool.not_false, wantB_undef, newb_fm, ptrP_mk, slcP_mk, cells_agg, hM, hd, c1, c2, c3, c4, c5, hgv, hgs'.len, hix0, hld0, hg0.len, decide_true, decide_false]
    exact no rfl (fun ⟨_, _, _, g0, h0, h1, _⟩ => by rw [hget] at h0; injection h0 with h0; subst h0; omega) hbn
  obtain ⟨rf, ef, hrf⟩ := named_r (fun l => execW PG E Y ac26L1 l M (n + 1))
  have hloop := fun x2 x5 x6 x8 => formed_L1 (E := E) (Y := Y) M (n + 1) n disks gv hp (by omega) gs hgs' hl hrow h0 x2 x5 x6 x8 gs.length 0 (by omega)
  by_cases c6 : GroupsFrom disks gs[0].length gs 0
  · have heq : ∀ x2 x5 x6 x8, execW PG E Y ac26L1 [.bool false, .int .i64 0, x2, .int .i64 (gs.length : Int), gv, x5, x6, .pointer (some ⟨n, 0, none⟩), x8] M (n + 1) = .ok (.exit 0) [.bool false, x2, .int .i64 (gs.length : Int), gv, x5, x6, .pointer (some ⟨n, 0, none⟩), x8] M (n + 1) (rf [.bool false, .int .i64 0, x2, .int .i64 (gs.length : Int), gv, x5, x6, .pointer (some ⟨n, 0, none⟩), x8]) 0 := fun x2 x5 x6 x8 => by
      rw [(hrf _).1]
      refine gv_norm ((hloop x2 x5 x6 x8).mono fun X e' m' n' w hh => ?_)
      obtain ⟨h1, h2, h3, h4⟩ := hh
      rcases h4 with ⟨_, h5, h6⟩ | ⟨h5, _⟩
      · exact ⟨h5, h6, h1, h2, h3⟩
      · exact absurd c6 h5
    simp only [Gv_add, w_seq, v_reg, q_cons, q_nil, q_nop, q_op, q_eff, q_opg, q_effg, keep_ok, drop1_ok, out_ok, crRec_mk, onNorm_norm, onNorm_exit, onNorm_ret, addRW_mk, w_cond, onCond_mk, w_block, onBlock_norm, onBlock_ret, onBlock_exit, w_pre, w_post, onPost_norm, onPost_exit, onPost_ret, w_exit, w_ret, onRet_mk, res_nil, res_cons, resO_v, retV_one, fixE_mk, lmap_nil, lmap_cons, ldrop_z, ldrop_s, ev_v, ev_c, lget_z, lget_s, evs_nil, evs_cons, s_mov, s_pick, s_bin, s_una, s_conv, s_fld, s_idx, s_ida, s_build, s_extr, s_nilck, s_len, s_mx, s_ld1, s_ldn, s_st, s_call, s_new, s_box, s_make, s_app, bin_int, i_add, i_sub, i_mul, i_eql, i_neq, i_lss, i_gtr, i_leq, i_geq, pick_mk, wantB_mk, una_not, fld_mk, nilck_mk, valO_some, lor_zero', zero_lor', cond_true, cond_false, Nat.beq_refl, natOf_mk, natOf_zero, natOf_one, obind_some, w_skip, Bool.not_true, Bool.not_false, wantB_undef, newb_fm, ptrP_mk, slcP_mk, cells_agg, hM, hd, c1, c2, c3, c4, c5, hgv, hgs'.len, hix0, hld0, hg0.len, decide_true, decide_false, heq]
    exact ⟨by rw [decide_eq_true ⟨by omega, by omega, by omega, _, hget, by omega, c6⟩], hbn⟩
  · have heq : ∀ x2 x5 x6 x8, execW PG E Y ac26L1 [.bool false, .int .i64 0, x2, .int .i64 (gs.length : Int), gv, x5, x6, .pointer (some ⟨n, 0, none⟩), x8] M (n + 1) = .ok (.ret (.bool false)) (ef [.bool false, .int .i64 0, x2, .int .i64 (gs.length : Int), gv, x5, x6, .pointer (some ⟨n, 0, none⟩), x8]) M (n + 1) (rf [.bool false, .int .i64 0, x2, .int .i64 (gs.length : Int), gv, x5, x6, .pointer (some ⟨n, 0, none⟩), x8]) 0 := fun x2 x5 x6 x8 => by
      rw [(hrf _).1, (hrf _).2]
      refine gv_ret ((hloop x2 x5 x6 x8).mono fun X e' m' n' w hh => ?_)
      obtain ⟨h1, h2, h3, h4⟩ := hh
      rcases h4 with ⟨h5, _, _⟩ | ⟨_, h5⟩
      · exact absurd h5 c6
      · exact ⟨h5, h1, h2, h3⟩
    simp only [Gv_add, w_seq, v_reg, q_cons, q_nil, q_nop, q_op, q_eff, q_opg, q_effg, keep_ok, drop1_ok, out_ok, crRec_mk, onNorm_norm, onNorm_exit, onNorm_ret, addRW_mk, w_cond, onCond_mk, w_block, onBlock_norm, onBlock_ret, onBlock_exit, w_pre, w_post, onPost_norm, onPost_exit, onPost_ret, w_exit, w_ret, onRet_mk, res_nil, res_cons, resO_v, retV_one, fixE_mk, lmap_nil, lmap_cons, ldrop_z, ldrop_s, ev_v, ev_c, lget_z, lget_s, evs_nil, evs_cons, s_mov, s_pick, s_bin, s_una, s_conv, s_fld, s_idx, s_ida, s_build, s_extr, s_nilck, s_len, s_mx, s_ld1, s_ldn, s_st, s_call, s_new, s_box, s_make, s_app, bin_int, i_add, i_sub, i_mul, i_eql, i_neq, i_lss, i_gtr, i_leq, i_geq, pick_mk, wantB_mk, una_not, fld_mk, nilck_mk, valO_some, lor_zero', zero_lor', cond_true, cond_false, Nat.beq_refl, natOf_mk, natOf_zero, natOf_one, obind_some, w_skip, Bool.not_true, Bool.not_false, wantB_undef, newb_fm, ptrP_mk, slcP_mk, cells_agg, hM, hd, c1, c2, c3, c4, c5, hgv, hgs'.len, hix0, hld0, hg0.len, decide_true, decide_false, heq]
    exact no rfl (fun ⟨_, _, _, g0, h0, h1, h2⟩ => by rw [hget] at h0; injection h0 with h0; subst h0; exact c6 h2) hbn
end Go.Am.C07.K
namespace Go.Am.C07.K
open Go Go.Am
variable {E : Nat → Option AFn} {Y : Nat → List Value → FM → Nat → OR FM}
def bump (A : List Int) (k : Nat) : List Int := A.set k (IntKind.i64.wrap (A[k]?.getD 0 + 1))
theorem bump_length (A : List Int) (k : Nat) : (bump A k).length = A.length := by simp [bump]
def bumpRow (A : List Int) (a : Nat) (g : List Int) : List Int := g.foldl (fun A b => bump A (60 * a + b.toNat)) A
theorem bumpRow_length (A : List Int) (a : Nat) (g : List Int) : (bumpRow A a g).length = A.length := by
  induction g generalizing A with
  | nil => rfl
  | cons b g ih => show (bumpRow (bump A _) a g).length = _; rw [ih, bump_length]
noncomputable def arr (M : FM) (q : Nat) (A : List Int) : FM := AMem.put M q (some (.cells (A.map (Value.int .i64)) 0 false true))
theorem arr_arr (M : FM) (q : Nat) (A B : List Int) : AMem.put (arr M q A) q (some (.cells (B.map (Value.int .i64)) 0 false true)) = arr M q B := fput_put _ _ _ _
theorem check_L0 (M : FM) (N q n0 : Nat) (hqN : q < N) (hn0 : n0 ≤ q) (a : Nat) (ha : a < 60) (g : List Int) (gval : Value) (hg : ∀ A, Ints (arr M q A) N gval g) (hl : g.length < 4611686018427387904) (hin : ∀ (i : Nat) (x : Int), g[i]? = some x → 0 ≤ x ∧ x < 60)
    (x1 x4 x5 x6 x7 x8 x10 x11 x12 x13 x14 x15 x17 x18 x19 x20 x21 x22 : Value) : ∀ d j, j + d = g.length → ∀ A : List Int, A.length = 3600 →
    Gv (execW PG E Y ac16L0 [.int .i64 (j : Int), x1, .int .i64 (g.length : Int), .int .i64 (a : Int), x4, x5, x6, x7, x8, gval, x10, x11, x12, x13, x14, x15, .pointer (some ⟨q, 0, none⟩), x17, x18, x19, x20, x21, x22] (arr M q A) N) fun X e' m' n' w =>
      X = .exit 4 ∧ e' = [.int .i64 (g.length : Int), x1, .int .i64 (g.length : Int), .int .i64 (a : Int), x4, x5, x6, x7, x8, gval, x10, x11, x12, x13, x14, x15, .pointer (some ⟨q, 0, none⟩), x17, x18, x19, x20, x21, x22] ∧ m' = arr M q (bumpRow A a (g.drop j)) ∧ n' = N ∧ Nat.mod w (bit n0) = 0 := by
  intro d
  induction d with
  | zero =>
    intro j hj A hA
    have hjl : (j : Int) = (g.length : Int) := by omega
    have hlt : ¬ ((g.length : Int) < (g.length : Int)) := by omega
    rw [ac16L0_w, hjl]
    simp only [ac16L0b, Gv_add, w_seq, v_reg, q_cons, q_nil, q_nop, q_op, q_eff, q_opg, q_effg, keep_ok, drop1_ok, out_ok, crRec_mk, onNorm_norm, onNorm_exit, onNorm_ret, addRW_mk, w_cond, onCond_mk, w_block, onBlock_norm, onBlock_ret, onBlock_exit, w_pre, w_post, onPost_norm, onPost_exit, onPost_ret, w_exit, w_ret, onRet_mk, res_nil, res_cons, resO_v, retV_one, fixE_mk, lmap_nil, lmap_cons, ldrop_z, ldrop_s, ev_v, ev_c, lget_z, lget_s, evs_nil, evs_cons, s_mov, s_pick, s_bin, s_una, s_conv, s_fld, s_idx, s_ida, s_build, s_extr, s_nilck, s_len, s_mx, s_ld1, s_ldn, s_st, s_call, s_new, s_box, s_make, s_app, bin_int, i_add, i_sub, i_mul, i_eql, i_neq, i_lss, i_gtr, i_leq, i_geq, pick_mk, wantB_mk, una_not, fld_mk, nilck_mk, valO_some, lor_zero', zero_lor', cond_true, cond_false, Nat.beq_refl, natOf_mk, natOf_zero, natOf_one, obind_some, w_skip, Bool.not_true, Bool.not_false, wantB_undef, newb_fm, ptrP_mk, slcP_mk, cells_agg, hlt, decide_false]
    exact ⟨rfl, rfl, by rw [List.drop_eq_nil_of_le (by omega)]; rfl, rfl, mod_zero _⟩
  | succ d ih =>
    intro j hj A hA
    have hlt : (j : Int) < (g.length : Int) := by omega
    have hjl : j < g.length := by omega
    obtain ⟨p1, b1, hix, hld, hb⟩ := (hg A).at hjl
    obtain ⟨hx0, hx60⟩ := hin j g[j] (List.getElem?_eq_getElem hjl)
    obtain ⟨b, hbx⟩ : ∃ b : Nat, g[j] = (b : Int) := ⟨g[j].toNat, by omega⟩
    have hb60 : b < 60 := by omega
    rw [hbx] at hld
    have hw : IntKind.i64.wrap ((j : Int) + 1) = ((j + 1 : Nat) : Int) := by rw [wrap_small (by omega) (by omega)]; omega
    have hk : 0 + a * 60 + b * 1 < A.length := by omega
    have hcell : ((A.map (Value.int .i64)))[0 + a * 60 + b * 1]? = some (.int .i64 A[0 + a * 60 + b * 1]) := by simp [List.getElem?_eq_getElem hk]
    have hl1 : ld1V (arr M q A) N (.pointer (some ⟨q, 0 + a * 60 + b * 1, none⟩)) = .ok (.int .i64 A[0 + a * 60 + b * 1]) (arr M q A) N (bit q) 0 := ld1_at hqN (fput_same M q _) hcell
    have hs1 := fun z => st1_at (m := arr M q A) (n := N) (b := q) (o := 0 + a * 60 + b * 1) (x := .int .i64 z) hqN (fput_same M q _) (by simpa using hk) rfl
    have hda : idaV 60 60 a (.pointer (some ⟨q, 0, none⟩)) = _ := ida_ok ha
    have hdb : idaV 60 1 b (.pointer (some ⟨q, 0 + a * 60, none⟩)) = _ := ida_ok hb60
    have hq := blt_true hqN
    rw [ac16L0_w]
    simp (implicitDefEqProofs := false) only [ac16L0b, Gv_add, w_seq, v_reg, q_cons, q_nil, q_nop, q_op, q_eff, q_opg, q_effg, keep_ok, drop1_ok, out_ok, crRec_mk, onNorm_norm, onNorm_exit, onNorm_ret, addRW_mk, w_cond, onCond_mk, w_block, onBlock_norm, onBlock_ret, onBlock_exit, w_pre, w_post, onPost_norm, onPost_exit, onPost_ret, w_exit, w_ret, onRet_mk, res_nil, res_cons, resO_v, retV_one, fixE_mk, lmap_nil, lmap_cons, ldrop_z, ldrop_s, ev_v, ev_c, lget_z, lget_s, evs_nil, evs_cons, s_mov, s_pick, s_bin, s_una, s_conv, s_fld, s_idx, s_ida, s_build, s_extr, s_nilck, s_len, s_mx, s_ld1, s_ldn, s_st, s_call, s_new, s_box, s_make, s_app, bin_int, i_add, i_sub, i_mul, i_eql, i_neq, i_lss, i_gtr, i_leq, i_geq, pick_mk, wantB_mk, una_not, fld_mk, nilck_mk, valO_some, lor_zero', zero_lor', cond_true, cond_false, Nat.beq_refl, natOf_mk, natOf_zero, natOf_one, obind_some, w_skip, Bool.not_true, Bool.not_false, wantB_undef, newb_fm, ptrP_mk, slcP_mk, cells_agg, u_regD, isOkC_ok, belowV_undef, belowV_addr, z_nil, z_cons, y_nil, y_cons, y_nop, y_op, y_eff, y_opg, y_effg, keepD_ok, outX_ok, apart_nil, apart_cons, zero_land', land_zero', stepD_ok', below_all, opds, List.all_cons, List.all_nil, belowV_int, belowV_bool, belowV_ptr, belowV_nils, Bool.and_self, Bool.and_true, Bool.true_and, Bool.or_true, Bool.true_or, Bool.false_or, Nat.reduceAdd, Nat.testBit, Nat.reduceShiftRight, Nat.reduceAnd, Nat.reduceBNe, hlt, decide_true, hix, hld, hda, hdb, hl1, cells_int, hs1, hq, hw]
    have hmem : AMem.put (arr M q A) q (some (.cells ((A.map (Value.int .i64)).set (0 + a * 60 + b * 1) (.int .i64 (IntKind.i64.wrap (A[0 + a * 60 + b * 1] + 1)))) 0 false true)) = arr M q (bump A (60 * a + b)) := by
      have e : 60 * a + b = 0 + a * 60 + b * 1 := by omega
      have hset : (A.map (Value.int .i64)).set (0 + a * 60 + b * 1) (.int .i64 (IntKind.i64.wrap (A[0 + a * 60 + b * 1] + 1))) = (A.set (0 + a * 60 + b * 1) (IntKind.i64.wrap (A[0 + a * 60 + b * 1] + 1))).map (Value.int .i64) := List.map_set.symm
      rw [hset, arr_arr, bump, e, List.getElem?_eq_getElem hk]; rfl
    rw [hmem]
    refine Gv.mono (ih (j + 1) (by omega) _ (by rw [bump_length, hA])) fun X e' m' n' w h => ?_
    obtain ⟨h1, h2, h3, h4, h5⟩ := h
    refine ⟨h1, h2, ?_, h4, mod_lor' (mod_bit_ge hn0) h5⟩
    rw [h3, List.drop_eq_getElem_cons hjl]
    show _ = arr M q ((g.drop (j + 1)).foldl _ (bump A (60 * a + g[j].toNat)))
    rw [hbx]; rfl

theorem named_w (f : List Value → CR FM) : ∃ (rf wf : List Value → Nat), ∀ l X e m n r w, f l = .ok X e m n r w → rf l = r ∧ wf l = w :=
  ⟨fun l => rOf (f l), fun l => match f l with | .no => 0 | .ok _ _ _ _ _ w => w, fun l X e m n r w h => by constructor <;> simp [h, rOf]⟩
theorem check_L0_eq (M : FM) (N q n0 : Nat) (hqN : q < N) (hn0 : n0 ≤ q) (a : Nat) (ha : a < 60) (g : List Int) (gval : Value) (hg : ∀ A, Ints (arr M q A) N gval g) (hl : g.length < 4611686018427387904) (hin : ∀ (i : Nat) (x : Int), g[i]? = some x → 0 ≤ x ∧ x < 60) (A : List Int) (hA : A.length = 3600) :
    ∃ rf wf : List Value → Nat, ∀ x1 x4 x5 x6 x7 x8 x10 x11 x12 x13 x14 x15 x17 x18 x19 x20 x21 x22, execW PG E Y ac16L0 [.int .i64 0, x1, .int .i64 (g.length : Int), .int .i64 (a : Int), x4, x5, x6, x7, x8, gval, x10, x11, x12, x13, x14, x15, .pointer (some ⟨q, 0, none⟩), x17, x18, x19, x20, x21, x22] (arr M q A) N = .ok (.exit 4) [.int .i64 (g.length : Int), x1, .int .i64 (g.length : Int), .int .i64 (a : Int), x4, x5, x6, x7, x8, gval, x10, x11, x12, x13, x14, x15, .pointer (some ⟨q, 0, none⟩), x17, x18, x19, x20, x21, x22] (arr M q (bumpRow A a g)) N (rf [.int .i64 0, x1, .int .i64 (g.length : Int), .int .i64 (a : Int), x4, x5, x6, x7, x8, gval, x10, x11, x12, x13, x14, x15, .pointer (some ⟨q, 0, none⟩), x17, x18, x19, x20, x21, x22]) (wf [.int .i64 0, x1, .int .i64 (g.length : Int), .int .i64 (a : Int), x4, x5, x6, x7, x8, gval, x10, x11, x12, x13, x14, x15, .pointer (some ⟨q, 0, none⟩), x17, x18, x19, x20, x21, x22]) ∧ Nat.mod (wf [.int .i64 0, x1, .int .i64 (g.length : Int), .int .i64 (a : Int), x4, x5, x6, x7, x8, gval, x10, x11, x12, x13, x14, x15, .pointer (some ⟨q, 0, none⟩), x17, x18, x19, x20, x21, x22]) (bit n0) = 0 := by
  obtain ⟨rf, wf, h⟩ := named_w (fun l => execW PG E Y ac16L0 l (arr M q A) N)
  refine ⟨rf, wf, fun x1 x4 x5 x6 x7 x8 x10 x11 x12 x13 x14 x15 x17 x18 x19 x20 x21 x22 => ?_⟩
  obtain ⟨X, e', m', n', r, w, hx, h1, h2, h3, h4, h5⟩ := Gv_some (check_L0 (E := E) (Y := Y) M N q n0 hqN hn0 a ha g gval hg hl hin x1 x4 x5 x6 x7 x8 x10 x11 x12 x13 x14 x15 x17 x18 x19 x20 x21 x22 g.length 0 (by omega) A hA)
  obtain ⟨hr, hw⟩ := h _ _ _ _ _ _ _ hx
  have hr' : rf [.int .i64 0, x1, .int .i64 (g.length : Int), .int .i64 (a : Int), x4, x5, x6, x7, x8, gval, x10, x11, x12, x13, x14, x15, .pointer (some ⟨q, 0, none⟩), x17, x18, x19, x20, x21, x22] = r := hr
  have hw' : wf [.int .i64 0, x1, .int .i64 (g.length : Int), .int .i64 (a : Int), x4, x5, x6, x7, x8, gval, x10, x11, x12, x13, x14, x15, .pointer (some ⟨q, 0, none⟩), x17, x18, x19, x20, x21, x22] = w := hw
  rw [hr', hw']
  subst h1; subst h2; subst h3; subst h4
  exact ⟨hx, h5⟩
def bumpGroup (A : List Int) (g l : List Int) : List Int := l.foldl (fun A a => bumpRow A a.toNat g) A
theorem bumpGroup_length (A g : List Int) : ∀ l, (bumpGroup A g l).length = A.length := by
  intro l
  induction l generalizing A with
  | nil => rfl
  | cons b l ih => show (bumpGroup (bumpRow A b.toNat g) g l).length = _; rw [ih, bumpRow_length]
theorem check_L1 (M : FM) (N q n0 : Nat) (hqN : q < N) (hn0 : n0 ≤ q) (g : List Int) (gval : Value) (hg : ∀ A, Ints (arr M q A) N gval g) (hl : g.length < 4611686018427387904) (hin : ∀ (i : Nat) (x : Int), g[i]? = some x → 0 ≤ x ∧ x < 60) (x1 x4 x5 x6 x7 x8 x9 x11 x12 x13 x14 x15 x16 : Value) : ∀ d j, j + d = g.length → ∀ A : List Int, A.length = 3600 →
    Gv (execW PG E Y ac16L1 [.int .i64 (j : Int), x1, .int .i64 (g.length : Int), gval, x4, x5, x6, x7, x8, x9, .pointer (some ⟨q, 0, none⟩), x11, x12, x13, x14, x15, x16] (arr M q A) N) fun X e' m' n' w =>
      X = .exit 2 ∧ e' = [.int .i64 (g.length : Int), x1, .int .i64 (g.length : Int), gval, x4, x5, x6, x7, x8, x9, .pointer (some ⟨q, 0, none⟩), x11, x12, x13, x14, x15, x16] ∧ m' = arr M q (bumpGroup A g (g.drop j)) ∧ n' = N ∧ Nat.mod w (bit n0) = 0 := by
  intro d
  induction d with
  | zero =>
    intro j hj A hA
    have hjl : (j : Int) = (g.length : Int) := by omega
    have hlt : ¬ ((g.length : Int) < (g.length : Int)) := by omega
    rw [ac16L1_w, hjl]
    simp only [ac16L1b, Gv_add, w_seq, v_reg, q_cons, q_nil, q_nop, q_op, q_eff, q_opg, q_effg, keep_ok, drop1_ok, out_ok, crRec_mk, onNorm_norm, onNorm_exit, onNorm_ret, addRW_mk, w_cond, onCond_mk, w_block, onBlock_norm, onBlock_ret, onBlock_exit, w_pre, w_post, onPost_norm, onPost_exit, onPost_ret, w_exit, w_ret, onRet_mk, res_nil, res_cons, resO_v, retV_one, fixE_mk, lmap_nil, lmap_cons, ldrop_z, ldrop_s, ev_v, ev_c, lget_z, lget_s, evs_nil, evs_cons, s_mov, s_pick, s_bin, s_una, s_conv, s_fld, s_idx, s_ida, s_build, s_extr, s_nilck, s_len, s_mx, s_ld1, s_ldn, s_st, s_call, s_new, s_box, s_make, s_app, bin_int, i_add, i_sub, i_mul, i_eql, i_neq, i_lss, i_gtr, i_leq, i_geq, pick_mk, wantB_mk, una_not, fld_mk, nilck_mk, valO_some, lor_zero', zero_lor', cond_true, cond_false, Nat.beq_refl, natOf_mk, natOf_zero, natOf_one, obind_some, w_skip, Bool.not_true, Bool.not_false, wantB_undef, newb_fm, ptrP_mk, slcP_mk, cells_agg, hlt, decide_false]
    exact ⟨rfl, rfl, by rw [List.drop_eq_nil_of_le (by omega)]; rfl, rfl, mod_zero _⟩
  | succ d ih =>
    intro j hj A hA
    have hlt : (j : Int) < (g.length : Int) := by omega
    have hjl : j < g.length := by omega
    obtain ⟨p1, b1, hix, hld, hb⟩ := (hg A).at hjl
    obtain ⟨hx0, hx60⟩ := hin j g[j] (List.getElem?_eq_getElem hjl)
    obtain ⟨a, hax⟩ : ∃ a : Nat, g[j] = (a : Int) := ⟨g[j].toNat, by omega⟩
    have ha60 : a < 60 := by omega
    rw [hax] at hld
    have hw : IntKind.i64.wrap ((j : Int) + 1) = ((j + 1 : Nat) : Int) := by rw [wrap_small (by omega) (by omega)]; omega
    obtain ⟨rf, wf, hin2⟩ := check_L0_eq (E := E) (Y := Y) M N q n0 hqN hn0 a ha60 g gval hg hl hin A hA
    have heq := fun x1 x4 x5 x6 x7 x8 x10 x11 x12 x13 x14 x15 x17 x18 x19 x20 x21 x22 => (hin2 x1 x4 x5 x6 x7 x8 x10 x11 x12 x13 x14 x15 x17 x18 x19 x20 x21 x22).1
    have hmod := fun x1 x4 x5 x6 x7 x8 x10 x11 x12 x13 x14 x15 x17 x18 x19 x20 x21 x22 => (hin2 x1 x4 x5 x6 x7 x8 x10 x11 x12 x13 x14 x15 x17 x18 x19 x20 x21 x22).2
    rw [ac16L1_w]
    simp only [ac16L1b, Gv_add, w_seq, v_reg, q_cons, q_nil, q_nop, q_op, q_eff, q_opg, q_effg, keep_ok, drop1_ok, out_ok, crRec_mk, onNorm_norm, onNorm_exit, onNorm_ret, addRW_mk, w_cond, onCond_mk, w_block, onBlock_norm, onBlock_ret, onBlock_exit, w_pre, w_post, onPost_norm, onPost_exit, onPost_ret, w_exit, w_ret, onRet_mk, res_nil, res_cons, resO_v, retV_one, fixE_mk, lmap_nil, lmap_cons, ldrop_z, ldrop_s, ev_v, ev_c, lget_z, lget_s, evs_nil, evs_cons, s_mov, s_pick, s_bin, s_una, s_conv, s_fld, s_idx, s_ida, s_build, s_extr, s_nilck, s_len, s_mx, s_ld1, s_ldn, s_st, s_call, s_new, s_box, s_make, s_app, bin_int, i_add, i_sub, i_mul, i_eql, i_neq, i_lss, i_gtr, i_leq, i_geq, pick_mk, wantB_mk, una_not, fld_mk, nilck_mk, valO_some, lor_zero', zero_lor', cond_true, cond_false, Nat.beq_refl, natOf_mk, natOf_zero, natOf_one, obind_some, w_skip, Bool.not_true, Bool.not_false, wantB_undef, newb_fm, ptrP_mk, slcP_mk, cells_agg, hlt, decide_true, hix, hld, (hg A).len, hw, heq]
    refine Gv.mono (ih (j + 1) (by omega) _ (by rw [bumpRow_length, hA])) fun X e' m' n' w h => ?_
    obtain ⟨h1, h2, h3, h4, h5⟩ := h
    refine ⟨h1, h2, ?_, h4, mod_lor' (hmod ..) h5⟩
    rw [h3, List.drop_eq_getElem_cons hjl]
    show _ = arr M q (bumpGroup (bumpRow A g[j].toNat g) g (g.drop (j + 1)))
    rw [hax]; rfl
theorem check_L1_eq (M : FM) (N q n0 : Nat) (hqN : q < N) (hn0 : n0 ≤ q) (g : List Int) (gval : Value) (hg : ∀ A, Ints (arr M q A) N gval g) (hl : g.length < 4611686018427387904) (hin : ∀ (i : Nat) (x : Int), g[i]? = some x → 0 ≤ x ∧ x < 60) (A : List Int) (hA : A.length = 3600) :
    ∃ rf wf : List Value → Nat, ∀ x1 x4 x5 x6 x7 x8 x9 x11 x12 x13 x14 x15 x16, execW PG E Y ac16L1 [.int .i64 0, x1, .int .i64 (g.length : Int), gval, x4, x5, x6, x7, x8, x9, .pointer (some ⟨q, 0, none⟩), x11, x12, x13, x14, x15, x16] (arr M q A) N = .ok (.exit 2) [.int .i64 (g.length : Int), x1, .int .i64 (g.length : Int), gval, x4, x5, x6, x7, x8, x9, .pointer (some ⟨q, 0, none⟩), x11, x12, x13, x14, x15, x16] (arr M q (bumpGroup A g g)) N (rf [.int .i64 0, x1, .int .i64 (g.length : Int), gval, x4, x5, x6, x7, x8, x9, .pointer (some ⟨q, 0, none⟩), x11, x12, x13, x14, x15, x16]) (wf [.int .i64 0, x1, .int .i64 (g.length : Int), gval, x4, x5, x6, x7, x8, x9, .pointer (some ⟨q, 0, none⟩), x11, x12, x13, x14, x15, x16]) ∧ Nat.mod (wf [.int .i64 0, x1, .int .i64 (g.length : Int), gval, x4, x5, x6, x7, x8, x9, .pointer (some ⟨q, 0, none⟩), x11, x12, x13, x14, x15, x16]) (bit n0) = 0 := by
  obtain ⟨rf, wf, h⟩ := named_w (fun l => execW PG E Y ac16L1 l (arr M q A) N)
  refine ⟨rf, wf, fun x1 x4 x5 x6 x7 x8 x9 x11 x12 x13 x14 x15 x16 => ?_⟩
  obtain ⟨X, e', m', n', r, w, hx, h1, h2, h3, h4, h5⟩ := Gv_some (check_L1 (E := E) (Y := Y) M N q n0 hqN hn0 g gval hg hl hin x1 x4 x5 x6 x7 x8 x9 x11 x12 x13 x14 x15 x16 g.length 0 (by omega) A hA)
  obtain ⟨hr, hw⟩ := h _ _ _ _ _ _ _ hx
  have hr' : rf [.int .i64 0, x1, .int .i64 (g.length : Int), gval, x4, x5, x6, x7, x8, x9, .pointer (some ⟨q, 0, none⟩), x11, x12, x13, x14, x15, x16] = r := hr
  have hw' : wf [.int .i64 0, x1, .int .i64 (g.length : Int), gval, x4, x5, x6, x7, x8, x9, .pointer (some ⟨q, 0, none⟩), x11, x12, x13, x14, x15, x16] = w := hw
  rw [hr', hw']
  subst h1; subst h2; subst h3; subst h4
  exact ⟨hx, h5⟩
def counts (A : List Int) (gs : List (List Int)) : List Int := gs.foldl (fun A g => bumpGroup A g g) A
theorem counts_length (A : List Int) (gs : List (List Int)) : (counts A gs).length = A.length := by
  induction gs generalizing A with
  | nil => rfl
  | cons g gs ih => show (counts (bumpGroup A g g) gs).length = _; rw [ih, bumpGroup_length]
theorem check_L2 (M : FM) (N q n0 : Nat) (hqN : q < N) (hn0 : n0 ≤ q) (n1 : Nat) (hn1 : n1 ≤ q) (gs : List (List Int)) (gv : Value) (hgs : Rows M n1 gv gs) (hl : gs.length < 4611686018427387904) (hrow : ∀ g ∈ gs, g.length < 4611686018427387904 ∧ ∀ (i : Nat) (x : Int), g[i]? = some x → 0 ≤ x ∧ x < 60) (x1 x5 x6 x7 x8 x9 x10 : Value) : ∀ d j, j + d = gs.length → ∀ A : List Int, A.length = 3600 →
    Gv (execW PG E Y ac16L2 [.int .i64 (j : Int), x1, .int .i64 (gs.length : Int), gv, .pointer (some ⟨q, 0, none⟩), x5, x6, x7, x8, x9, x10] (arr M q A) N) fun X e' m' n' w =>
      X = .exit 0 ∧ e' = [x1, .int .i64 (gs.length : Int), gv, .pointer (some ⟨q, 0, none⟩), x5, x6, x7, x8, x9, x10] ∧ m' = arr M q (counts A (gs.drop j)) ∧ n' = N ∧ Nat.mod w (bit n0) = 0 := by
  have hfr : ∀ A b, b < n1 → arr M q A b = M b := fun A b hb => fput_ne M q b _ (by omega)
  intro d
  induction d with
  | zero =>
    intro j hj A hA
    have hjl : (j : Int) = (gs.length : Int) := by omega
    have hlt : ¬ ((gs.length : Int) < (gs.length : Int)) := by omega
    rw [ac16L2_w, hjl]
    simp only [ac16L2b, Gv_add, w_seq, v_reg, q_cons, q_nil, q_nop, q_op, q_eff, q_opg, q_effg, keep_ok, drop1_ok, out_ok, crRec_mk, onNorm_norm, onNorm_exit, onNorm_ret, addRW_mk, w_cond, onCond_mk, w_block, onBlock_norm, onBlock_ret, onBlock_exit, w_pre, w_post, onPost_norm, onPost_exit, onPost_ret, w_exit, w_ret, onRet_mk, res_nil, res_cons, resO_v, retV_one, fixE_mk, lmap_nil, lmap_cons, ldrop_z, ldrop_s, ev_v, ev_c, lget_z, lget_s, evs_nil, evs_cons, s_mov, s_pick, s_bin, s_una, s_conv, s_fld, s_idx, s_ida, s_build, s_extr, s_nilck, s_len, s_mx, s_ld1, s_ldn, s_st, s_call, s_new, s_box, s_make, s_app, bin_int, i_add, i_sub, i_mul, i_eql, i_neq, i_lss, i_gtr, i_leq, i_geq, pick_mk, wantB_mk, una_not, fld_mk, nilck_mk, valO_some, lor_zero', zero_lor', cond_true, cond_false, Nat.beq_refl, natOf_mk, natOf_zero, natOf_one, obind_some, w_skip, Bool.not_true, Bool.not_false, wantB_undef, newb_fm, ptrP_mk, slcP_mk, cells_agg, hlt, decide_false]
    exact ⟨rfl, rfl, by rw [List.drop_eq_nil_of_le (by omega)]; rfl, rfl, mod_zero _⟩
  | succ d ih =>
    intro j hj A hA
    have hlt : (j : Int) < (gs.length : Int) := by omega
    have hjl : j < gs.length := by omega
    obtain ⟨p1, b1, gval, hix, hld, hg0⟩ := hgs.at2 hjl (m' := arr M q A) (n' := N) (by omega) (hfr A)
    have hg : Ints (arr M q A) N gval gs[j] := hg0.frame (by omega) (hfr A)
    obtain ⟨hl2, hin⟩ := hrow gs[j] (List.getElem_mem hjl)
    have hw : IntKind.i64.wrap ((j : Int) + 1) = ((j + 1 : Nat) : Int) := by rw [wrap_small (by omega) (by omega)]; omega
    obtain ⟨rf, wf, hin2⟩ := check_L1_eq (E := E) (Y := Y) M N q n0 hqN hn0 gs[j] gval (fun B => hg0.frame (by omega) (hfr B)) hl2 hin A hA
    have heq := fun x1 x4 x5 x6 x7 x8 x9 x11 x12 x13 x14 x15 x16 => (hin2 x1 x4 x5 x6 x7 x8 x9 x11 x12 x13 x14 x15 x16).1
    have hmod := fun x1 x4 x5 x6 x7 x8 x9 x11 x12 x13 x14 x15 x16 => (hin2 x1 x4 x5 x6 x7 x8 x9 x11 x12 x13 x14 x15 x16).2
    rw [ac16L2_w]
    simp only [ac16L2b, Gv_add, w_seq, v_reg, q_cons, q_nil, q_nop, q_op, q_eff, q_opg, q_effg, keep_ok, drop1_ok, out_ok, crRec_mk, onNorm_norm, onNorm_exit, onNorm_ret, addRW_mk, w_cond, onCond_mk, w_block, onBlock_norm, onBlock_ret, onBlock_exit, w_pre, w_post, onPost_norm, onPost_exit, onPost_ret, w_exit, w_ret, onRet_mk, res_nil, res_cons, resO_v, retV_one, fixE_mk, lmap_nil, lmap_cons, ldrop_z, ldrop_s, ev_v, ev_c, lget_z, lget_s, evs_nil, evs_cons, s_mov, s_pick, s_bin, s_una, s_conv, s_fld, s_idx, s_ida, s_build, s_extr, s_nilck, s_len, s_mx, s_ld1, s_ldn, s_st, s_call, s_new, s_box, s_make, s_app, bin_int, i_add, i_sub, i_mul, i_eql, i_neq, i_lss, i_gtr, i_leq, i_geq, pick_mk, wantB_mk, una_not, fld_mk, nilck_mk, valO_some, lor_zero', zero_lor', cond_true, cond_false, Nat.beq_refl, natOf_mk, natOf_zero, natOf_one, obind_some, w_skip, Bool.not_true, Bool.not_false, wantB_undef, newb_fm, ptrP_mk, slcP_mk, cells_agg, hlt, decide_true, hix, hld, hg.len, hw, heq]
    refine Gv.mono (ih (j + 1) (by omega) _ (by rw [bumpGroup_length, hA])) fun X e' m' n' w h => ?_
    obtain ⟨h1, h2, h3, h4, h5⟩ := h
    refine ⟨h1, h2, ?_, h4, mod_lor' (hmod ..) h5⟩
    rw [h3, List.drop_eq_getElem_cons hjl]
    rfl
end Go.Am.C07.K
namespace Go.Am.C07.K
open Go Go.Am
variable {E : Nat → Option AFn} {Y : Nat → List Value → FM → Nat → OR FM}
def errT : Value := .tuple #[.int .i64 0, .int .i64 0, .int .i64 5]
theorem retV_three (a b c : Value) : retV [a, b, c] = .tuple #[a, b, c] := rfl
def BalRow (A : List Int) (D : Nat) (r lam : Int) (a j : Nat) : Prop := ∀ b, j ≤ b → b < D → A[60 * a + b]?.getD 0 = if a = b then r else lam
theorem balRow_step {A : List Int} {D : Nat} {r lam : Int} {a j : Nat} (h : j < D) : BalRow A D r lam a j ↔ (A[60 * a + j]?.getD 0 = if a = j then r else lam) ∧ BalRow A D r lam a (j + 1) :=
  ⟨fun hr => ⟨hr j (Nat.le_refl _) h, fun i h1 h2 => hr i (by omega) h2⟩, fun ⟨h1, h2⟩ i h3 h4 => by
    rcases Nat.eq_or_lt_of_le h3 with rfl | h5
    · exact h1
    · exact h2 i h5 h4⟩
theorem check_L3 (M : FM) (N q : Nat) (hqN : q < N) (A : List Int) (hA : A.length = 3600) (D : Nat) (hD : D ≤ 60) (r lam : Int) (a : Nat) (ha : a < D) (x0 x1 x2 x4 x6 x7 x8 x9 x10 x12 x13 x16 x17 x18 x20 x21 x22 x23 x24 x25 : Value) : ∀ d j, j + d = D →
    Gv (execW PG E Y ac16L3 [x0, x1, x2, .int .i64 (j : Int), x4, .int .i64 (D : Int), x6, x7, x8, x9, x10, .int .i64 (a : Int), x12, x13, .int .i64 lam, .int .i64 r, x16, x17, x18, .pointer (some ⟨q, 0, none⟩), x20, x21, x22, x23, x24, x25] (arr M q A) N) fun X e' m' n' w => m' = arr M q A ∧ n' = N ∧ w = 0 ∧
      ((BalRow A D r lam a j ∧ X = .exit 8 ∧ e' = [x0, x1, x2, .int .i64 (D : Int), x4, .int .i64 (D : Int), x6, x7, x8, x9, x10, .int .i64 (a : Int), x12, x13, .int .i64 lam, .int .i64 r, x16, x17, x18, .pointer (some ⟨q, 0, none⟩), x20, x21, x22, x23, x24, x25]) ∨ (¬ BalRow A D r lam a j ∧ X = .ret errT)) := by
  intro d
  induction d with
  | zero =>
    intro j hj
    have hjl : (j : Int) = (D : Int) := by omega
    have hlt : ¬ ((D : Int) < (D : Int)) := by omega
    rw [ac16L3_w, hjl]
    simp only [ac16L3b, Gv_add, w_seq, v_reg, q_cons, q_nil, q_nop, q_op, q_eff, q_opg, q_effg, keep_ok, drop1_ok, out_ok, crRec_mk, onNorm_norm, onNorm_exit, onNorm_ret, addRW_mk, w_cond, onCond_mk, w_block, onBlock_norm, onBlock_ret, onBlock_exit, w_pre, w_post, onPost_norm, onPost_exit, onPost_ret, w_exit, w_ret, onRet_mk, res_nil, res_cons, resO_v, retV_one, fixE_mk, lmap_nil, lmap_cons, ldrop_z, ldrop_s, ev_v, ev_c, lget_z, lget_s, evs_nil, evs_cons, s_mov, s_pick, s_bin, s_una, s_conv, s_fld, s_idx, s_ida, s_build, s_extr, s_nilck, s_len, s_mx, s_ld1, s_ldn, s_st, s_call, s_new, s_box, s_make, s_app, bin_int, i_add, i_sub, i_mul, i_eql, i_neq, i_lss, i_gtr, i_leq, i_geq, pick_mk, wantB_mk, una_not, fld_mk, nilck_mk, valO_some, lor_zero', zero_lor', cond_true, cond_false, Nat.beq_refl, natOf_mk, natOf_zero, natOf_one, obind_some, w_skip, Bool.not_true, Bool.not_false, wantB_undef, newb_fm, ptrP_mk, slcP_mk, cells_agg, hlt, decide_false]
    exact ⟨rfl, rfl, rfl, .inl ⟨fun b h1 h2 => by omega, rfl, rfl⟩⟩
  | succ d ih =>
    intro j hj
    have hlt : (j : Int) < (D : Int) := by omega
    have hjl : j < D := by omega
    have hw : IntKind.i64.wrap ((j : Int) + 1) = ((j + 1 : Nat) : Int) := by rw [wrap_small (by omega) (by omega)]; omega
    have hk : 0 + a * 60 + j * 1 < A.length := by omega
    have hcell : ((A.map (Value.int .i64)))[0 + a * 60 + j * 1]? = some (.int .i64 A[0 + a * 60 + j * 1]) := by simp [List.getElem?_eq_getElem hk]
    have hl1 : ld1V (arr M q A) N (.pointer (some ⟨q, 0 + a * 60 + j * 1, none⟩)) = .ok (.int .i64 A[0 + a * 60 + j * 1]) (arr M q A) N (bit q) 0 := ld1_at hqN (fput_same M q _) hcell
    have hda : idaV 60 60 a (.pointer (some ⟨q, 0, none⟩)) = _ := ida_ok (by omega)
    have hdb : idaV 60 1 j (.pointer (some ⟨q, 0 + a * 60, none⟩)) = _ := ida_ok (by omega)
    have hAe : A[60 * a + j]?.getD 0 = A[0 + a * 60 + j * 1] := by
      have e : 60 * a + j = 0 + a * 60 + j * 1 := by omega
      rw [e, List.getElem?_eq_getElem hk]; rfl
    have hstep := balRow_step (A := A) (r := r) (lam := lam) (a := a) hjl
    rw [hAe] at hstep
    rw [ac16L3_w]
    by_cases hab0 : (a : Int) = (j : Int)
    · have hab : decide ((a : Int) = (j : Int)) = true := decide_eq_true hab0
      have hab' : a = j := by omega
      rw [if_pos hab'] at hstep
      by_cases hv0 : A[0 + a * 60 + j * 1] = r
      · have hv : decide (A[0 + a * 60 + j * 1] = r) = true := decide_eq_true hv0
        simp only [ac16L3b, Gv_add, w_seq, v_reg, q_cons, q_nil, q_nop, q_op, q_eff, q_opg, q_effg, keep_ok, drop1_ok, out_ok, crRec_mk, onNorm_norm, onNorm_exit, onNorm_ret, addRW_mk, w_cond, onCond_mk, w_block, onBlock_norm, onBlock_ret, onBlock_exit, w_pre, w_post, onPost_norm, onPost_exit, onPost_ret, w_exit, w_ret, onRet_mk, res_nil, res_cons, resO_v, retV_one, fixE_mk, lmap_nil, lmap_cons, ldrop_z, ldrop_s, ev_v, ev_c, lget_z, lget_s, evs_nil, evs_cons, s_mov, s_pick, s_bin, s_una, s_conv, s_fld, s_idx, s_ida, s_build, s_extr, s_nilck, s_len, s_mx, s_ld1, s_ldn, s_st, s_call, s_new, s_box, s_make, s_app, bin_int, i_add, i_sub, i_mul, i_eql, i_neq, i_lss, i_gtr, i_leq, i_geq, pick_mk, wantB_mk, una_not, fld_mk, nilck_mk, valO_some, lor_zero', zero_lor', cond_true, cond_false, Nat.beq_refl, natOf_mk, natOf_zero, natOf_one, obind_some, w_skip, Bool.not_true, Bool.not_false, wantB_undef, newb_fm, ptrP_mk, slcP_mk, cells_agg, hlt, decide_true, hda, hdb, hl1, hab, hv, retV_three, hw]
        refine Gv.mono (ih (j + 1) (by omega)) fun X e' m' n' w h => ?_
        have hiff : BalRow A D r lam a j ↔ BalRow A D r lam a (j + 1) := by rw [hstep]; exact ⟨fun h => h.2, fun h => ⟨hv0, h⟩⟩
        rw [hiff]
        simpa only [zero_lor'] using h
      · have hv : decide (A[0 + a * 60 + j * 1] = r) = false := decide_eq_false hv0
        simp only [ac16L3b, Gv_add, w_seq, v_reg, q_cons, q_nil, q_nop, q_op, q_eff, q_opg, q_effg, keep_ok, drop1_ok, out_ok, crRec_mk, onNorm_norm, onNorm_exit, onNorm_ret, addRW_mk, w_cond, onCond_mk, w_block, onBlock_norm, onBlock_ret, onBlock_exit, w_pre, w_post, onPost_norm, onPost_exit, onPost_ret, w_exit, w_ret, onRet_mk, res_nil, res_cons, resO_v, retV_one, fixE_mk, lmap_nil, lmap_cons, ldrop_z, ldrop_s, ev_v, ev_c, lget_z, lget_s, evs_nil, evs_cons, s_mov, s_pick, s_bin, s_una, s_conv, s_fld, s_idx, s_ida, s_build, s_extr, s_nilck, s_len, s_mx, s_ld1, s_ldn, s_st, s_call, s_new, s_box, s_make, s_app, bin_int, i_add, i_sub, i_mul, i_eql, i_neq, i_lss, i_gtr, i_leq, i_geq, pick_mk, wantB_mk, una_not, fld_mk, nilck_mk, valO_some, lor_zero', zero_lor', cond_true, cond_false, Nat.beq_refl, natOf_mk, natOf_zero, natOf_one, obind_some, w_skip, Bool.not_true, Bool.not_false, wantB_undef, newb_fm, ptrP_mk, slcP_mk, cells_agg, hlt, decide_true, decide_false, hda, hdb, hl1, hab, hv, retV_three]
        exact ⟨rfl, rfl, rfl, .inr ⟨fun h => hv0 (hstep.1 h).1, rfl⟩⟩
    · have hab : decide ((a : Int) = (j : Int)) = false := decide_eq_false hab0
      have hab' : ¬ a = j := by omega
      rw [if_neg hab'] at hstep
      by_cases hv0 : A[0 + a * 60 + j * 1] = lam
      · have hv : decide (A[0 + a * 60 + j * 1] = lam) = true := decide_eq_true hv0
        simp only [ac16L3b, Gv_add, w_seq, v_reg, q_cons, q_nil, q_nop, q_op, q_eff, q_opg, q_effg, keep_ok, drop1_ok, out_ok, crRec_mk, onNorm_norm, onNorm_exit, onNorm_ret, addRW_mk, w_cond, onCond_mk, w_block, onBlock_norm, onBlock_ret, onBlock_exit, w_pre, w_post, onPost_norm, onPost_exit, onPost_ret, w_exit, w_ret, onRet_mk, res_nil, res_cons, resO_v, retV_one, fixE_mk, lmap_nil, lmap_cons, ldrop_z, ldrop_s, ev_v, ev_c, lget_z, lget_s, evs_nil, evs_cons, s_mov, s_pick, s_bin, s_una, s_conv, s_fld, s_idx, s_ida, s_build, s_extr, s_nilck, s_len, s_mx, s_ld1, s_ldn, s_st, s_call, s_new, s_box, s_make, s_app, bin_int, i_add, i_sub, i_mul, i_eql, i_neq, i_lss, i_gtr, i_leq, i_geq, pick_mk, wantB_mk, una_not, fld_mk, nilck_mk, valO_some, lor_zero', zero_lor', cond_true, cond_false, Nat.beq_refl, natOf_mk, natOf_zero, natOf_one, obind_some, w_skip, Bool.not_true, Bool.not_false, wantB_undef, newb_fm, ptrP_mk, slcP_mk, cells_agg, hlt, decide_true, decide_false, hda, hdb, hl1, hab, hv, retV_three, hw]
        refine Gv.mono (ih (j + 1) (by omega)) fun X e' m' n' w h => ?_
        have hiff : BalRow A D r lam a j ↔ BalRow A D r lam a (j + 1) := by rw [hstep]; exact ⟨fun h => h.2, fun h => ⟨hv0, h⟩⟩
        rw [hiff]
        simpa only [zero_lor'] using h
      · have hv : decide (A[0 + a * 60 + j * 1] = lam) = false := decide_eq_false hv0
        simp only [ac16L3b, Gv_add, w_seq, v_reg, q_cons, q_nil, q_nop, q_op, q_eff, q_opg, q_effg, keep_ok, drop1_ok, out_ok, crRec_mk, onNorm_norm, onNorm_exit, onNorm_ret, addRW_mk, w_cond, onCond_mk, w_block, onBlock_norm, onBlock_ret, onBlock_exit, w_pre, w_post, onPost_norm, onPost_exit, onPost_ret, w_exit, w_ret, onRet_mk, res_nil, res_cons, resO_v, retV_one, fixE_mk, lmap_nil, lmap_cons, ldrop_z, ldrop_s, ev_v, ev_c, lget_z, lget_s, evs_nil, evs_cons, s_mov, s_pick, s_bin, s_una, s_conv, s_fld, s_idx, s_ida, s_build, s_extr, s_nilck, s_len, s_mx, s_ld1, s_ldn, s_st, s_call, s_new, s_box, s_make, s_app, bin_int, i_add, i_sub, i_mul, i_eql, i_neq, i_lss, i_gtr, i_leq, i_geq, pick_mk, wantB_mk, una_not, fld_mk, nilck_mk, valO_some, lor_zero', zero_lor', cond_true, cond_false, Nat.beq_refl, natOf_mk, natOf_zero, natOf_one, obind_some, w_skip, Bool.not_true, Bool.not_false, wantB_undef, newb_fm, ptrP_mk, slcP_mk, cells_agg, hlt, decide_true, decide_false, hda, hdb, hl1, hab, hv, retV_three]
        exact ⟨rfl, rfl, rfl, .inr ⟨fun h => hv0 (hstep.1 h).1, rfl⟩⟩
theorem check_L3_yes (M : FM) (N q : Nat) (hqN : q < N) (A : List Int) (hA : A.length = 3600) (D : Nat) (hD : D ≤ 60) (r lam : Int) (a : Nat) (ha : a < D) (hb : BalRow A D r lam a 0) : ∃ rf : List Value → Nat, ∀ x0 x1 x2 x4 x6 x7 x8 x9 x10 x12 x13 x16 x17 x18 x20 x21 x22 x23 x24 x25, execW PG E Y ac16L3 [x0, x1, x2, .int .i64 0, x4, .int .i64 (D : Int), x6, x7, x8, x9, x10, .int .i64 (a : Int), x12, x13, .int .i64 lam, .int .i64 r, x16, x17, x18, .pointer (some ⟨q, 0, none⟩), x20, x21, x22, x23, x24, x25] (arr M q A) N = .ok (.exit 8) [x0, x1, x2, .int .i64 (D : Int), x4, .int .i64 (D : Int), x6, x7, x8, x9, x10, .int .i64 (a : Int), x12, x13, .int .i64 lam, .int .i64 r, x16, x17, x18, .pointer (some ⟨q, 0, none⟩), x20, x21, x22, x23, x24, x25] (arr M q A) N (rf [x0, x1, x2, .int .i64 0, x4, .int .i64 (D : Int), x6, x7, x8, x9, x10, .int .i64 (a : Int), x12, x13, .int .i64 lam, .int .i64 r, x16, x17, x18, .pointer (some ⟨q, 0, none⟩), x20, x21, x22, x23, x24, x25]) 0 := by
  obtain ⟨rf, ef, h⟩ := named_r (fun l => execW PG E Y ac16L3 l (arr M q A) N)
  refine ⟨rf, fun x0 x1 x2 x4 x6 x7 x8 x9 x10 x12 x13 x16 x17 x18 x20 x21 x22 x23 x24 x25 => ?_⟩
  rw [(h _).1]
  refine gv_norm (Gv.mono (check_L3 (E := E) (Y := Y) M N q hqN A hA D hD r lam a ha x0 x1 x2 x4 x6 x7 x8 x9 x10 x12 x13 x16 x17 x18 x20 x21 x22 x23 x24 x25 D 0 (by omega)) fun X e' m' n' w hh => ?_)
  obtain ⟨h1, h2, h3, h4⟩ := hh
  rcases h4 with ⟨_, h5, h6⟩ | ⟨h5, _⟩
  · exact ⟨h5, h6, h1, h2, h3⟩
  · exact absurd hb h5
theorem check_L3_no (M : FM) (N q : Nat) (hqN : q < N) (A : List Int) (hA : A.length = 3600) (D : Nat) (hD : D ≤ 60) (r lam : Int) (a : Nat) (ha : a < D) (hb : ¬ BalRow A D r lam a 0) : ∃ (rf : List Value → Nat) (ef : List Value → List Value), ∀ x0 x1 x2 x4 x6 x7 x8 x9 x10 x12 x13 x16 x17 x18 x20 x21 x22 x23 x24 x25, execW PG E Y ac16L3 [x0, x1, x2, .int .i64 0, x4, .int .i64 (D : Int), x6, x7, x8, x9, x10, .int .i64 (a : Int), x12, x13, .int .i64 lam, .int .i64 r, x16, x17, x18, .pointer (some ⟨q, 0, none⟩), x20, x21, x22, x23, x24, x25] (arr M q A) N = .ok (.ret errT) (ef [x0, x1, x2, .int .i64 0, x4, .int .i64 (D : Int), x6, x7, x8, x9, x10, .int .i64 (a : Int), x12, x13, .int .i64 lam, .int .i64 r, x16, x17, x18, .pointer (some ⟨q, 0, none⟩), x20, x21, x22, x23, x24, x25]) (arr M q A) N (rf [x0, x1, x2, .int .i64 0, x4, .int .i64 (D : Int), x6, x7, x8, x9, x10, .int .i64 (a : Int), x12, x13, .int .i64 lam, .int .i64 r, x16, x17, x18, .pointer (some ⟨q, 0, none⟩), x20, x21, x22, x23, x24, x25]) 0 := by
  obtain ⟨rf, ef, h⟩ := named_r (fun l => execW PG E Y ac16L3 l (arr M q A) N)
  refine ⟨rf, ef, fun x0 x1 x2 x4 x6 x7 x8 x9 x10 x12 x13 x16 x17 x18 x20 x21 x22 x23 x24 x25 => ?_⟩
  rw [(h _).1, (h _).2]
  refine gv_ret (Gv.mono (check_L3 (E := E) (Y := Y) M N q hqN A hA D hD r lam a ha x0 x1 x2 x4 x6 x7 x8 x9 x10 x12 x13 x16 x17 x18 x20 x21 x22 x23 x24 x25 D 0 (by omega)) fun X e' m' n' w hh => ?_)
  obtain ⟨h1, h2, h3, h4⟩ := hh
  rcases h4 with ⟨h5, _, _⟩ | ⟨_, h5⟩
  · exact absurd h5 hb
  · exact ⟨h5, h1, h2, h3⟩
def Bal (A : List Int) (D : Nat) (r lam : Int) (j : Nat) : Prop := ∀ a, j ≤ a → a < D → BalRow A D r lam a 0
theorem bal_step {A : List Int} {D : Nat} {r lam : Int} {j : Nat} (h : j < D) : Bal A D r lam j ↔ BalRow A D r lam j 0 ∧ Bal A D r lam (j + 1) :=
  ⟨fun hr => ⟨hr j (Nat.le_refl _) h, fun i h1 h2 => hr i (by omega) h2⟩, fun ⟨h1, h2⟩ i h3 h4 => by
    rcases Nat.eq_or_lt_of_le h3 with rfl | h5
    · exact h1
    · exact h2 i h5 h4⟩
theorem check_L4 (M : FM) (N q : Nat) (hqN : q < N) (A : List Int) (hA : A.length = 3600) (D : Nat) (hD : D ≤ 60) (r lam : Int) (p : Nat) (hpd : ld1V (arr M q A) N (.pointer (some ⟨p, 0 + 0, none⟩)) = .ok (.int .i64 (D : Int)) (arr M q A) N (bit p) 0) (x0 x1 x2 x4 x8 x9 x10 x12 x13 x14 x15 x17 : Value) : ∀ d j, j + d = D →
    Gv (execW PG E Y ac16L4 [x0, x1, x2, .int .i64 (j : Int), x4, .int .i64 (D : Int), .int .i64 lam, .int .i64 r, x8, x9, x10, .pointer (some ⟨q, 0, none⟩), x12, x13, x14, x15, .pointer (some ⟨p, 0, none⟩), x17] (arr M q A) N) fun X e' m' n' w => m' = arr M q A ∧ n' = N ∧ w = 0 ∧
      ((Bal A D r lam j ∧ X = .exit 6 ∧ e' = [x0, x1, x2, x4, .int .i64 (D : Int), .int .i64 lam, .int .i64 r, x8, x9, x10, .pointer (some ⟨q, 0, none⟩), x12, x13, x14, x15, .pointer (some ⟨p, 0, none⟩), x17]) ∨ (¬ Bal A D r lam j ∧ X = .ret errT)) := by
  intro d
  induction d with
  | zero =>
    intro j hj
    have hjl : (j : Int) = (D : Int) := by omega
    have hlt : ¬ ((D : Int) < (D : Int)) := by omega
    rw [ac16L4_w, hjl]
    simp only [ac16L4b, Gv_add, w_seq, v_reg, q_cons, q_nil, q_nop, q_op, q_eff, q_opg, q_effg, keep_ok, drop1_ok, out_ok, crRec_mk, onNorm_norm, onNorm_exit, onNorm_ret, addRW_mk, w_cond, onCond_mk, w_block, onBlock_norm, onBlock_ret, onBlock_exit, w_pre, w_post, onPost_norm, onPost_exit, onPost_ret, w_exit, w_ret, onRet_mk, res_nil, res_cons, resO_v, retV_one, fixE_mk, lmap_nil, lmap_cons, ldrop_z, ldrop_s, ev_v, ev_c, lget_z, lget_s, evs_nil, evs_cons, s_mov, s_pick, s_bin, s_una, s_conv, s_fld, s_idx, s_ida, s_build, s_extr, s_nilck, s_len, s_mx, s_ld1, s_ldn, s_st, s_call, s_new, s_box, s_make, s_app, bin_int, i_add, i_sub, i_mul, i_eql, i_neq, i_lss, i_gtr, i_leq, i_geq, pick_mk, wantB_mk, una_not, fld_mk, nilck_mk, valO_some, lor_zero', zero_lor', cond_true, cond_false, Nat.beq_refl, natOf_mk, natOf_zero, natOf_one, obind_some, w_skip, Bool.not_true, Bool.not_false, wantB_undef, newb_fm, ptrP_mk, slcP_mk, cells_agg, hlt, decide_false]
    exact ⟨rfl, rfl, rfl, .inl ⟨fun b h1 h2 => by omega, rfl, rfl⟩⟩
  | succ d ih =>
    intro j hj
    have hlt : (j : Int) < (D : Int) := by omega
    have hjl : j < D := by omega
    have hw : IntKind.i64.wrap ((j : Int) + 1) = ((j + 1 : Nat) : Int) := by rw [wrap_small (by omega) (by omega)]; omega
    have hstep := bal_step (A := A) (r := r) (lam := lam) hjl
    rw [ac16L4_w]
    by_cases hb : BalRow A D r lam j 0
    · obtain ⟨rf, hrf⟩ := check_L3_yes (E := E) (Y := Y) M N q hqN A hA D hD r lam j hjl hb
      simp only [ac16L4b, Gv_add, w_seq, v_reg, q_cons, q_nil, q_nop, q_op, q_eff, q_opg, q_effg, keep_ok, drop1_ok, out_ok, crRec_mk, onNorm_norm, onNorm_exit, onNorm_ret, addRW_mk, w_cond, onCond_mk, w_block, onBlock_norm, onBlock_ret, onBlock_exit, w_pre, w_post, onPost_norm, onPost_exit, onPost_ret, w_exit, w_ret, onRet_mk, res_nil, res_cons, resO_v, retV_one, fixE_mk, lmap_nil, lmap_cons, ldrop_z, ldrop_s, ev_v, ev_c, lget_z, lget_s, evs_nil, evs_cons, s_mov, s_pick, s_bin, s_una, s_conv, s_fld, s_idx, s_ida, s_build, s_extr, s_nilck, s_len, s_mx, s_ld1, s_ldn, s_st, s_call, s_new, s_box, s_make, s_app, bin_int, i_add, i_sub, i_mul, i_eql, i_neq, i_lss, i_gtr, i_leq, i_geq, pick_mk, wantB_mk, una_not, fld_mk, nilck_mk, valO_some, lor_zero', zero_lor', cond_true, cond_false, Nat.beq_refl, natOf_mk, natOf_zero, natOf_one, obind_some, w_skip, Bool.not_true, Bool.not_false, wantB_undef, newb_fm, ptrP_mk, slcP_mk, cells_agg, hlt, decide_true, hpd, hrf, hw]
      refine Gv.mono (ih (j + 1) (by omega)) fun X e' m' n' w h => ?_
      have hiff : Bal A D r lam j ↔ Bal A D r lam (j + 1) := by rw [hstep]; exact ⟨fun h => h.2, fun h => ⟨hb, h⟩⟩
      rw [hiff]
      simpa only [zero_lor'] using h
    · obtain ⟨rf, ef, hrf⟩ := check_L3_no (E := E) (Y := Y) M N q hqN A hA D hD r lam j hjl hb
      simp only [ac16L4b, Gv_add, w_seq, v_reg, q_cons, q_nil, q_nop, q_op, q_eff, q_opg, q_effg, keep_ok, drop1_ok, out_ok, crRec_mk, onNorm_norm, onNorm_exit, onNorm_ret, addRW_mk, w_cond, onCond_mk, w_block, onBlock_norm, onBlock_ret, onBlock_exit, w_pre, w_post, onPost_norm, onPost_exit, onPost_ret, w_exit, w_ret, onRet_mk, res_nil, res_cons, resO_v, retV_one, fixE_mk, lmap_nil, lmap_cons, ldrop_z, ldrop_s, ev_v, ev_c, lget_z, lget_s, evs_nil, evs_cons, s_mov, s_pick, s_bin, s_una, s_conv, s_fld, s_idx, s_ida, s_build, s_extr, s_nilck, s_len, s_mx, s_ld1, s_ldn, s_st, s_call, s_new, s_box, s_make, s_app, bin_int, i_add, i_sub, i_mul, i_eql, i_neq, i_lss, i_gtr, i_leq, i_geq, pick_mk, wantB_mk, una_not, fld_mk, nilck_mk, valO_some, lor_zero', zero_lor', cond_true, cond_false, Nat.beq_refl, natOf_mk, natOf_zero, natOf_one, obind_some, w_skip, Bool.not_true, Bool.not_false, wantB_undef, newb_fm, ptrP_mk, slcP_mk, cells_agg, hlt, decide_true, hpd, hrf, hw]
      exact ⟨rfl, rfl, rfl, .inr ⟨fun h => hb (hstep.1 h).1, rfl⟩⟩
end Go.Am.C07.K
