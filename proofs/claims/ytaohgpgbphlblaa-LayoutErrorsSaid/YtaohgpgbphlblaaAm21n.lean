/- Chapter 21: layout.measure of a layout that is not valid. -/
import Derived.Test.YtaohgpgbphlblaaAm21m
set_option linter.unusedVariables false
set_option linter.unusedSimpArgs false
set_option linter.unusedSectionVars false
namespace Go.Am.C21
open Go Go.Am
set_option linter.unusedVariables false
variable {E : Nat → Option AFn} {Y : Nat → List Value → FM → Nat → OR FM}
theorem fput_self {m : FM} {b : Nat} {x : Option Blk} (h : m b = x) : (AMem.put m b x : FM) = m := by
  funext j
  show (if j = b then x else m j) = m j
  by_cases hj : j = b
  · rw [if_pos hj, hj, h]
  · rw [if_neg hj]
/-- a whole block written -/
theorem stn_at {m : FM} {n b k : Nat} {c l : List Value} {sz : Nat} {opn : Bool} (hb : b < n) (hm : m b = some (.cells c sz opn true)) (hk : l.length = k) (hc : c.length = k) (h1 : l.all one = true) : stV k l m n (.pointer (some ⟨b, 0, none⟩)) = .ok undef (AMem.put m b (some (.cells l sz opn true))) n (bit b) (bit b) := by
  show cond (Nat.beq (llen l) k && l.all one) (stC m n b 0 l (getb m n b)) .no = _
  have h2 : (Nat.beq (llen l) k && l.all one) = true := by rw [h1, llen_eq, hk]; simp
  rw [h2, getb_lt hb, hm]
  show putC m n b sz opn undef (bit b) (setCells c 0 l) = _
  rw [setCells_eq, if_pos (by omega)]
  have : c.take 0 ++ l ++ c.drop (0 + l.length) = l := by rw [List.drop_eq_nil_of_le (by omega)]; simp
  rw [this]; rfl
theorem resP_at {m : FM} {n b o : Nat} {c : List Value} {sz : Nat} {opn wr : Bool} (hb : b < n) (hm : m b = some (.cells c sz opn wr)) (vs : List Value) (r : Nat) (f : Nat → List Value → Option Value) {v : Value} (hf : f o c = some v) : resP m n vs r f (.pointer (some ⟨b, o, none⟩)) = some (v :: vs, Nat.lor r (bit b)) := by
  show resC vs r b (f o) (getb m n b) = _
  rw [getb_lt hb, hm]
  show Option.rec (motive := fun _ => Option (List Value × Nat)) none (fun v => some (v :: vs, Nat.lor r (bit b))) (f o c) = _
  rw [hf]
theorem resO_cells (e : List Value) (m : FM) (n : Nat) (vs : List Value) (r i k : Nat) : resO e m n vs r (.cells i k) = resP m n vs r (fun o c => aggO (cellsAt c o k)) (lget e i) := rfl
theorem aggO_some (c : List Value) : aggO (some c) = some (.agg c.toArray) := rfl
theorem parts3_nil (e : List Value) : parts3 e [] = [] := rfl
theorem parts3_cons (e : List Value) (a b : Nat) (x : Opd) (l : List (Nat × Nat × Opd)) : parts3 e ((a, b, x) :: l) = (a, b, ev e x) :: parts3 e l := rfl
theorem fill_nil (c : List Value) : fillA [] c = some c := rfl
theorem retV_two (a b : Value) : retV [a, b] = .tuple #[a, b] := rfl
theorem land_bit {i j : Nat} (h : i ≠ j) : Nat.land (bit i) (bit j) = 0 := by
  apply Nat.eq_of_testBit_eq
  intro k
  show (bit i &&& bit j).testBit k = _
  rw [Nat.testBit_and, bit_pow, bit_pow, Nat.testBit_two_pow, Nat.testBit_two_pow, Nat.zero_testBit]
  by_cases h1 : i = k
  · by_cases h2 : j = k
    · omega
    · simp [h2]
  · simp [h1]
theorem Sl_belowF {m : FM} {n : Nat} {v : Value} {vs : List Value} (h : Sl m n v vs) : Am.belowF n v = true := by
  rcases h with ⟨rfl, _⟩ | ⟨b, o, cap, c, opn, wr, rfl, hb, _⟩ | ⟨rfl, _, hb⟩
  · rfl
  · exact blt_true hb
  · exact blt_true hb
/-- a call's answer, and nothing below the old memory has turned -/
def Kept (x : OR FM) (m : FM) (n : Nat) (v : Value) : Prop := ∃ m' n' r w, x = .ok v m' n' r w ∧ n ≤ n' ∧ (∀ b, b < n → m' b = m b) ∧ Nat.mod w (bit n) = 0
theorem kept_of {fn : AFn} {m0 : FM} {n0 : Nat} {x : CR FM} {v : Value} (h : Gv x fun X _ m' n' w => X = .ret v ∧ n0 ≤ n' ∧ (∀ b, b < n0 → m' b = m0 b) ∧ Nat.mod w (bit n0) = 0) : Kept (leaveC fn m0 n0 x) m0 n0 v := by
  obtain ⟨X, e, m, n, r, w, rfl, rfl, h1, h2, hw⟩ := Gv_some h
  rw [leave_ret]
  cases hv : addrFree v
  · exact ⟨m, n, r, w, leaveA_keep hv, h1, h2, hw⟩
  · exact ⟨m0, n0, _, 0, leaveA_free hv hw, Nat.le_refl _, fun _ _ => rfl, mod_zero _⟩
def num0 : Value := .agg #[.int .i64 0, .slice none 0 0, .int .i64 0, .int .i64 0, .int .i64 0, .int .i64 0, .int .i64 0, .slice none 0 0, .slice none 0 0, .int .i64 0, .int .i64 0]
theorem data_spec (hE : E 46 = some ac46) (m : FM) (n : Nat) (disks tiles spare W r K : Int) (gv h c : Value) : Pure (callW PG E Y 46 [.agg #[.int .i64 disks, gv, .int .i64 tiles, .int .i64 spare, .int .i64 W, .int .i64 r, .int .i64 K, .slice none 0 0, .slice none 0 0, h, c]] m n) m n (.int .i64 (IntKind.i64.wrap (W - 3))) := by
  rw [callW_fn hE rfl]
  refine pure_of rfl ?_
  have hp : (AMem.put m n (some (.cells [.int .i64 disks, gv, .int .i64 tiles, .int .i64 spare, .int .i64 W, .int .i64 r, .int .i64 K, .slice none 0 0, .slice none 0 0, h, c] 0 false true)) : FM) n = (some (.cells [.int .i64 disks, gv, .int .i64 tiles, .int .i64 spare, .int .i64 W, .int .i64 r, .int .i64 K, .slice none 0 0, .slice none 0 0, h, c] 0 false true)) := fput_same m n _
  obtain ⟨M, hM⟩ : ∃ M : FM, AMem.put m n (some (.cells [.int .i64 disks, gv, .int .i64 tiles, .int .i64 spare, .int .i64 W, .int .i64 r, .int .i64 K, .slice none 0 0, .slice none 0 0, h, c] 0 false true)) = M := ⟨_, rfl⟩
  rw [hM] at hp
  have hl : ld1V M (n + 1) (.pointer (some ⟨n, 0 + 4, none⟩)) = .ok (.int .i64 W) M (n + 1) (bit n) 0 := ld1_at (by omega) hp rfl
  rw [ac46]
  simp only [Gv_add, w_seq, v_reg, q_cons, q_nil, q_nop, q_op, q_eff, q_opg, q_effg, keep_ok, drop1_ok, out_ok, crRec_mk, onNorm_norm, onNorm_exit, onNorm_ret, addRW_mk, w_cond, onCond_mk, w_block, onBlock_norm, onBlock_ret, onBlock_exit, w_pre, w_post, onPost_norm, onPost_exit, onPost_ret, w_exit, w_ret, onRet_mk, res_nil, res_cons, resO_v, retV_one, fixE_mk, lmap_nil, lmap_cons, ldrop_z, ldrop_s, ev_v, ev_c, lget_z, lget_s, evs_nil, evs_cons, s_mov, s_pick, s_bin, s_una, s_conv, s_fld, s_idx, s_ida, s_build, s_extr, s_nilck, s_len, s_mx, s_ld1, s_ldn, s_st, s_call, s_new, s_box, s_make, s_app, bin_int, i_add, i_sub, i_mul, i_eql, i_neq, i_lss, i_gtr, i_leq, i_geq, pick_mk, wantB_mk, una_not, fld_mk, nilck_mk, valO_some, lor_zero', zero_lor', cond_true, cond_false, Nat.beq_refl, natOf_mk, natOf_zero, natOf_one, obind_some, w_skip, Bool.not_true, Bool.not_false, wantB_undef, newb_fm, ptrP_mk, slcP_mk, cells_agg, hM, hl]
  exact ⟨rfl, mod_bit_ge (Nat.le_refl n)⟩
theorem measure_bad (hE : E 39 = some ac39) (hE2 : E 34 = some ac34) (hE3 : E 47 = some ac47) (hE4 : E 46 = some ac46) (m : FM) (n : Nat) (disks tiles spare : Int) (gv : Value) (gs : List (List Int)) (hgs : Rows m n gv gs) (hl : gs.length < 4611686018427387904) (hrow : ∀ g ∈ gs, g.length < 4611686018427387904) (hV : ¬ VR disks gs tiles spare) :
    Kept (callW PG E Y 39 [.agg #[.int .i64 disks, gv, .int .i64 tiles, .int .i64 spare]] m n) m n (.tuple #[num0, .bool false]) := by
  rw [callW_fn hE rfl]
  refine kept_of ?_
  obtain ⟨M1, hM1⟩ : ∃ M1 : FM, AMem.put m n (some (.cells [.int .i64 disks, gv, .int .i64 tiles, .int .i64 spare] 0 false true)) = M1 := ⟨_, rfl⟩
  obtain ⟨M2, hM2⟩ : ∃ M2 : FM, AMem.put M1 (n + 1) (some (.cells [.int .i64 0, .slice none 0 0, .int .i64 0, .int .i64 0, .int .i64 0, .int .i64 0, .int .i64 0, .slice none 0 0, .slice none 0 0, .int .i64 0, .int .i64 0] 0 false true)) = M2 := ⟨_, rfl⟩
  have hp2 : M2 n = (some (.cells [.int .i64 disks, gv, .int .i64 tiles, .int .i64 spare] 0 false true)) := by rw [← hM2, fput_ne _ _ _ _ (by omega), ← hM1, fput_same]
  have hq2 : M2 (n + 1) = (some (.cells [.int .i64 0, .slice none 0 0, .int .i64 0, .int .i64 0, .int .i64 0, .int .i64 0, .int .i64 0, .slice none 0 0, .slice none 0 0, .int .i64 0, .int .i64 0] 0 false true)) := by rw [← hM2, fput_same]
  have hfr2 : ∀ b, b < n → M2 b = m b := fun b hb => by rw [← hM2, fput_ne _ _ _ _ (by omega), ← hM1, fput_ne _ _ _ _ (by omega)]
  have hgs2 : Rows M2 (n + 2) gv gs := hgs.frame (by omega) hfr2
  have hdn : ldnV 2 M2 (n + 2) (.pointer (some ⟨n, 0 + 0, none⟩)) = .ok (.agg #[.int .i64 disks, gv]) M2 (n + 2) (bit n) 0 := ldn_at (by omega) hp2 rfl
  have hbn : Nat.mod (bit n) (bit n) = 0 := mod_bit_ge (Nat.le_refl n)
  have hbn1 : Nat.mod (bit (n + 1)) (bit n) = 0 := mod_bit_ge (by omega)
  have hbn2 : Nat.mod (bit (n + 2)) (bit n) = 0 := mod_bit_ge (by omega)
  obtain ⟨r34, h34⟩ := check_spec (E := E) (Y := Y) hE2 hE3 M2 (n + 2) disks gv gs hgs2 hl hrow
  have x0 : ∀ a b c : Value, extrV 0 (.tuple #[a, b, c]) = some a := fun _ _ _ => rfl
  have x1 : ∀ a b c : Value, extrV 1 (.tuple #[a, b, c]) = some b := fun _ _ _ => rfl
  have x2 : ∀ a b c : Value, extrV 2 (.tuple #[a, b, c]) = some c := fun _ _ _ => rfl
  have hst : ∀ (M : FM) (N : Nat), n + 1 < N → M (n + 1) = (some (.cells [.int .i64 0, .slice none 0 0, .int .i64 0, .int .i64 0, .int .i64 0, .int .i64 0, .int .i64 0, .slice none 0 0, .slice none 0 0, .int .i64 0, .int .i64 0] 0 false true)) → stV 11 [.int .i64 0, .slice none 0 0, .int .i64 0, .int .i64 0, .int .i64 0, .int .i64 0, .int .i64 0, .slice none 0 0, .slice none 0 0, .int .i64 0, .int .i64 0] M N (.pointer (some ⟨n + 1, 0, none⟩)) = .ok undef M N (bit (n + 1)) (bit (n + 1)) := fun M N h1 h2 => by
    rw [stn_at (k := 11) h1 h2 rfl rfl rfl, fput_self h2]
  have hrs : ∀ (M : FM) (N : Nat), n + 1 < N → M (n + 1) = (some (.cells [.int .i64 0, .slice none 0 0, .int .i64 0, .int .i64 0, .int .i64 0, .int .i64 0, .int .i64 0, .slice none 0 0, .slice none 0 0, .int .i64 0, .int .i64 0] 0 false true)) → ∀ vs r, resP M N vs r (fun o c => aggO (cellsAt c o 11)) (.pointer (some ⟨n + 1, 0, none⟩)) = some (num0 :: vs, Nat.lor r (bit (n + 1))) := fun M N h1 h2 vs r => resP_at h1 h2 vs r _ rfl
  have hst2 := hst M2 (n + 2) (by omega) hq2
  have hrs2 := hrs M2 (n + 2) (by omega) hq2
  rw [ac39]
  by_cases hg : GoodR disks gs
  · have h00 : decide ((0 : Int) = 0) = true := rfl
    have h0 : 0 < gs.length := by
      obtain ⟨⟨_, _, _, g0, hg0, _⟩, _⟩ := hg
      exact (List.getElem?_eq_some_iff.1 hg0).1
    obtain ⟨a0, b0, g0v, hix0, hld00, hb0, hg0⟩ := hgs.at h0
    replace hix0 : idxV 1 0 gv = some (.pointer (some a0)) := hix0
    have hld0 := ld1_frame (n' := n + 2) hld00 hb0 (by omega) hfr2
    rw [checkV_good hg] at h34
    have hwd : width gs = (gs[0].length : Int) := by unfold width; rw [List.getElem?_eq_getElem h0]; rfl
    obtain ⟨r, hr⟩ : ∃ r, (counts zeros gs)[0]! = r := ⟨_, rfl⟩
    obtain ⟨W, hW⟩ : ∃ W : Int, (gs[0].length : Int) = W := ⟨_, rfl⟩
    obtain ⟨K, hK⟩ : ∃ K : Int, (gs.length : Int) = K := ⟨_, rfl⟩
    have hVR : ¬ (1 ≤ tiles ∧ tiles ≤ 256 ∧ 0 ≤ spare ∧ spare ≤ 65536 ∧ 4 ≤ W ∧ W ≤ 16 ∧ IntKind.i64.wrap (tiles * K) ≤ 4096 ∧ IntKind.i64.wrap (IntKind.i64.wrap (tiles * K) * IntKind.i64.wrap (W - 3)) ≤ 65536 ∧ IntKind.i64.wrap (IntKind.i64.wrap (tiles * r) + spare) ≤ 65536) := fun h => hV (by
      unfold VR; rw [hwd, hW, hK, hr]; exact ⟨hg, h⟩)
    have hgl : lenV false gv = some (.int .i64 K) := by rw [hgs.len, hK]
    have hg0l : lenV false g0v = some (.int .i64 W) := by rw [hg0.len, hW]
    rw [hr] at h34
    obtain ⟨vs, hsl, _⟩ := hgs2
    have hF2 : Am.belowF (n + 2) gv = true := Sl_belowF hsl
    have hbg : belowV (n + 2) gv = true := hsl.below
    have hF3 : Am.belowF (n + 3) gv = true := Sl_belowF (hsl.frame (n' := n + 3) (by omega) (fun _ _ => rfl))
    have hb0v : belowV (n + 2) g0v = true := Sl.below (Ints.frame hg0 (n' := n + 2) (by omega) hfr2)
    have hba := idx_block hix0 hbg
    have q1 := blt_true (show n < n + 2 by omega)
    have q2 := blt_true (show n < n + 3 by omega)
    have q3 := blt_true (show n + 2 < n + 3 by omega)
    have l1 : Nat.land (bit (n + 2)) (bit n) = 0 := land_bit (by omega)
    have l2 : Nat.land (bit (n + 2)) (bit b0) = 0 := land_bit (by omega)
    have hbL : belowV (n + 2) (.agg #[.int .i64 disks, gv, .int .i64 tiles, .int .i64 spare]) = true := by
      show (true && (Am.belowF (n + 2) gv && (true && (true && true)))) = true
      rw [hF2]; rfl
    have hbX : ∀ h c : Int, belowV (n + 3) (.agg #[.int .i64 disks, gv, .int .i64 tiles, .int .i64 spare, .int .i64 W, .int .i64 r, .int .i64 K, .slice none 0 0, .slice none 0 0, .int .i64 h, .int .i64 c]) = true := fun h c => by
      show (true && (Am.belowF (n + 3) gv && (true && (true && (true && (true && (true && (true && (true && (true && (true && true))))))))))) = true
      rw [hF3]; rfl
    have hd4 : ldnV 4 M2 (n + 2) (.pointer (some ⟨n, 0, none⟩)) = .ok (.agg #[.int .i64 disks, gv, .int .i64 tiles, .int .i64 spare]) M2 (n + 2) (bit n) 0 := ldn_at (by omega) hp2 rfl
    have hgv1 : ld1V M2 (n + 2) (.pointer (some ⟨n, 0 + 0 + 1, none⟩)) = .ok gv M2 (n + 2) (bit n) 0 := ld1_at (by omega) hp2 rfl
    have hfill : fillA [(0, 4, .agg #[.int .i64 disks, gv, .int .i64 tiles, .int .i64 spare]), (4, 1, .int .i64 W), (5, 1, .int .i64 r), (6, 1, .int .i64 K)] [.int .i64 0, .slice none 0 0, .int .i64 0, .int .i64 0, .int .i64 0, .int .i64 0, .int .i64 0, .slice none 0 0, .slice none 0 0, .int .i64 0, .int .i64 0] = some [.int .i64 disks, gv, .int .i64 tiles, .int .i64 spare, .int .i64 W, .int .i64 r, .int .i64 K, .slice none 0 0, .slice none 0 0, .int .i64 0, .int .i64 0] := rfl
    obtain ⟨M3, hM3⟩ : ∃ M3 : FM, AMem.put M2 (n + 2) (some (.cells [.int .i64 0, .slice none 0 0, .int .i64 0, .int .i64 0, .int .i64 0, .int .i64 0, .int .i64 0, .slice none 0 0, .slice none 0 0, .int .i64 0, .int .i64 0] 0 false true)) = M3 := ⟨_, rfl⟩
    have hx3 : M3 (n + 2) = (some (.cells [.int .i64 0, .slice none 0 0, .int .i64 0, .int .i64 0, .int .i64 0, .int .i64 0, .int .i64 0, .slice none 0 0, .slice none 0 0, .int .i64 0, .int .i64 0] 0 false true)) := by rw [← hM3, fput_same]
    obtain ⟨M4, hM4⟩ : ∃ M4 : FM, AMem.put M3 (n + 2) (some (.cells [.int .i64 disks, gv, .int .i64 tiles, .int .i64 spare, .int .i64 W, .int .i64 r, .int .i64 K, .slice none 0 0, .slice none 0 0, .int .i64 0, .int .i64 0] 0 false true)) = M4 := ⟨_, rfl⟩
    have hx4 : M4 (n + 2) = (some (.cells [.int .i64 disks, gv, .int .i64 tiles, .int .i64 spare, .int .i64 W, .int .i64 r, .int .i64 K, .slice none 0 0, .slice none 0 0, .int .i64 0, .int .i64 0] 0 false true)) := by rw [← hM4, fput_same]
    have e4 : ∀ b, b < n + 2 → M4 b = M2 b := fun b hb => by rw [← hM4, fput_ne _ _ _ _ (by omega), ← hM3, fput_ne _ _ _ _ (by omega)]
    have hp4 : M4 n = (some (.cells [.int .i64 disks, gv, .int .i64 tiles, .int .i64 spare] 0 false true)) := (e4 n (by omega)).trans hp2
    have hq4 : M4 (n + 1) = (some (.cells [.int .i64 0, .slice none 0 0, .int .i64 0, .int .i64 0, .int .i64 0, .int .i64 0, .int .i64 0, .slice none 0 0, .slice none 0 0, .int .i64 0, .int .i64 0] 0 false true)) := (e4 (n + 1) (by omega)).trans hq2
    have hs4 : stV 11 [.int .i64 disks, gv, .int .i64 tiles, .int .i64 spare, .int .i64 W, .int .i64 r, .int .i64 K, .slice none 0 0, .slice none 0 0, .int .i64 0, .int .i64 0] M3 (n + 3) (.pointer (some ⟨n + 2, 0, none⟩)) = .ok undef M4 (n + 3) (bit (n + 2)) (bit (n + 2)) := by
      rw [stn_at (k := 11) (by omega) hx3 rfl rfl ?_, hM4]
      cases gv <;> first | rfl | cases hF2
    have w4 : ld1V M4 (n + 3) (.pointer (some ⟨n + 2, 0 + 4, none⟩)) = .ok (.int .i64 W) M4 (n + 3) (bit (n + 2)) 0 := ld1_at (by omega) hx4 rfl
    have t4 : ld1V M4 (n + 3) (.pointer (some ⟨n, 0 + 2, none⟩)) = .ok (.int .i64 tiles) M4 (n + 3) (bit n) 0 := ld1_at (by omega) hp4 rfl
    have s4 : ld1V M4 (n + 3) (.pointer (some ⟨n, 0 + 3, none⟩)) = .ok (.int .i64 spare) M4 (n + 3) (bit n) 0 := ld1_at (by omega) hp4 rfl
    have hst4 := hst M4 (n + 3) (by omega) hq4
    have hrs4 := hrs M4 (n + 3) (by omega) hq4
    have k4 : ∀ b, b < n → M4 b = m b := fun b hb => (e4 b (by omega)).trans (hfr2 b hb)
    by_cases c1 : W ≤ 3
    · simp (implicitDefEqProofs := false) only [Gv_add, w_seq, v_reg, q_cons, q_nil, q_nop, q_op, q_eff, q_opg, q_effg, keep_ok, drop1_ok, out_ok, crRec_mk, onNorm_norm, onNorm_exit, onNorm_ret, addRW_mk, w_cond, onCond_mk, w_block, onBlock_norm, onBlock_ret, onBlock_exit, w_pre, w_post, onPost_norm, onPost_exit, onPost_ret, w_exit, w_ret, onRet_mk, res_nil, res_cons, resO_v, retV_one, fixE_mk, lmap_nil, lmap_cons, ldrop_z, ldrop_s, ev_v, ev_c, lget_z, lget_s, evs_nil, evs_cons, s_mov, s_pick, s_bin, s_una, s_conv, s_fld, s_idx, s_ida, s_build, s_extr, s_nilck, s_len, s_mx, s_ld1, s_ldn, s_st, s_call, s_new, s_box, s_make, s_app, bin_int, i_add, i_sub, i_mul, i_eql, i_neq, i_lss, i_gtr, i_leq, i_geq, pick_mk, wantB_mk, una_not, fld_mk, nilck_mk, valO_some, lor_zero', zero_lor', cond_true, cond_false, Nat.beq_refl, natOf_mk, natOf_zero, natOf_one, obind_some, w_skip, Bool.not_true, Bool.not_false, wantB_undef, newb_fm, ptrP_mk, slcP_mk, cells_agg, hM1, hM2, s_st, s_build, s_ldn, aggO_some, parts3_nil, fill_nil, hdn, h34, x0, x1, x2, retV_two, resO_cells, u_regD, isOkC_ok, belowV_undef, belowV_addr, z_nil, z_cons, y_nil, y_cons, y_nop, y_op, y_eff, y_opg, y_effg, keepD_ok, outX_ok, apart_nil, apart_cons, zero_land', land_zero', stepD_ok', below_all, opds, List.all_cons, List.all_nil, belowV_int, belowV_bool, belowV_ptr, belowV_nils, Bool.and_self, Bool.and_true, Bool.true_and, Bool.or_true, Bool.true_or, Bool.false_or, Nat.reduceAdd, Nat.testBit, Nat.reduceShiftRight, Nat.reduceAnd, Nat.reduceBNe, List.map_cons, List.map_nil, h00, decide_true, decide_false, hd4, hgv1, hix0, hld0, hg0l, hgl, hba, hbg, hb0v, q1, q2, q3, l1, l2, hbL, hbX, parts3_cons, hfill, hM3, hs4, w4, t4, s4, hst4, hrs4, c1]
      exact ⟨rfl, by omega, k4, by (repeat (first | exact mod_zero _ | exact mod_bit_ge (by omega) | refine mod_lor' ?_ ?_))⟩
    by_cases c2 : 16 < W
    · simp (implicitDefEqProofs := false) only [Gv_add, w_seq, v_reg, q_cons, q_nil, q_nop, q_op, q_eff, q_opg, q_effg, keep_ok, drop1_ok, out_ok, crRec_mk, onNorm_norm, onNorm_exit, onNorm_ret, addRW_mk, w_cond, onCond_mk, w_block, onBlock_norm, onBlock_ret, onBlock_exit, w_pre, w_post, onPost_norm, onPost_exit, onPost_ret, w_exit, w_ret, onRet_mk, res_nil, res_cons, resO_v, retV_one, fixE_mk, lmap_nil, lmap_cons, ldrop_z, ldrop_s, ev_v, ev_c, lget_z, lget_s, evs_nil, evs_cons, s_mov, s_pick, s_bin, s_una, s_conv, s_fld, s_idx, s_ida, s_build, s_extr, s_nilck, s_len, s_mx, s_ld1, s_ldn, s_st, s_call, s_new, s_box, s_make, s_app, bin_int, i_add, i_sub, i_mul, i_eql, i_neq, i_lss, i_gtr, i_leq, i_geq, pick_mk, wantB_mk, una_not, fld_mk, nilck_mk, valO_some, lor_zero', zero_lor', cond_true, cond_false, Nat.beq_refl, natOf_mk, natOf_zero, natOf_one, obind_some, w_skip, Bool.not_true, Bool.not_false, wantB_undef, newb_fm, ptrP_mk, slcP_mk, cells_agg, hM1, hM2, s_st, s_build, s_ldn, aggO_some, parts3_nil, fill_nil, hdn, h34, x0, x1, x2, retV_two, resO_cells, u_regD, isOkC_ok, belowV_undef, belowV_addr, z_nil, z_cons, y_nil, y_cons, y_nop, y_op, y_eff, y_opg, y_effg, keepD_ok, outX_ok, apart_nil, apart_cons, zero_land', land_zero', stepD_ok', below_all, opds, List.all_cons, List.all_nil, belowV_int, belowV_bool, belowV_ptr, belowV_nils, Bool.and_self, Bool.and_true, Bool.true_and, Bool.or_true, Bool.true_or, Bool.false_or, Nat.reduceAdd, Nat.testBit, Nat.reduceShiftRight, Nat.reduceAnd, Nat.reduceBNe, List.map_cons, List.map_nil, h00, decide_true, decide_false, hd4, hgv1, hix0, hld0, hg0l, hgl, hba, hbg, hb0v, q1, q2, q3, l1, l2, hbL, hbX, parts3_cons, hfill, hM3, hs4, w4, t4, s4, hst4, hrs4, c1, c2]
      exact ⟨rfl, by omega, k4, by (repeat (first | exact mod_zero _ | exact mod_bit_ge (by omega) | refine mod_lor' ?_ ?_))⟩
    by_cases c3 : tiles < 1
    · simp (implicitDefEqProofs := false) only [Gv_add, w_seq, v_reg, q_cons, q_nil, q_nop, q_op, q_eff, q_opg, q_effg, keep_ok, drop1_ok, out_ok, crRec_mk, onNorm_norm, onNorm_exit, onNorm_ret, addRW_mk, w_cond, onCond_mk, w_block, onBlock_norm, onBlock_ret, onBlock_exit, w_pre, w_post, onPost_norm, onPost_exit, onPost_ret, w_exit, w_ret, onRet_mk, res_nil, res_cons, resO_v, retV_one, fixE_mk, lmap_nil, lmap_cons, ldrop_z, ldrop_s, ev_v, ev_c, lget_z, lget_s, evs_nil, evs_cons, s_mov, s_pick, s_bin, s_una, s_conv, s_fld, s_idx, s_ida, s_build, s_extr, s_nilck, s_len, s_mx, s_ld1, s_ldn, s_st, s_call, s_new, s_box, s_make, s_app, bin_int, i_add, i_sub, i_mul, i_eql, i_neq, i_lss, i_gtr, i_leq, i_geq, pick_mk, wantB_mk, una_not, fld_mk, nilck_mk, valO_some, lor_zero', zero_lor', cond_true, cond_false, Nat.beq_refl, natOf_mk, natOf_zero, natOf_one, obind_some, w_skip, Bool.not_true, Bool.not_false, wantB_undef, newb_fm, ptrP_mk, slcP_mk, cells_agg, hM1, hM2, s_st, s_build, s_ldn, aggO_some, parts3_nil, fill_nil, hdn, h34, x0, x1, x2, retV_two, resO_cells, u_regD, isOkC_ok, belowV_undef, belowV_addr, z_nil, z_cons, y_nil, y_cons, y_nop, y_op, y_eff, y_opg, y_effg, keepD_ok, outX_ok, apart_nil, apart_cons, zero_land', land_zero', stepD_ok', below_all, opds, List.all_cons, List.all_nil, belowV_int, belowV_bool, belowV_ptr, belowV_nils, Bool.and_self, Bool.and_true, Bool.true_and, Bool.or_true, Bool.true_or, Bool.false_or, Nat.reduceAdd, Nat.testBit, Nat.reduceShiftRight, Nat.reduceAnd, Nat.reduceBNe, List.map_cons, List.map_nil, h00, decide_true, decide_false, hd4, hgv1, hix0, hld0, hg0l, hgl, hba, hbg, hb0v, q1, q2, q3, l1, l2, hbL, hbX, parts3_cons, hfill, hM3, hs4, w4, t4, s4, hst4, hrs4, c1, c2, c3]
      exact ⟨rfl, by omega, k4, by (repeat (first | exact mod_zero _ | exact mod_bit_ge (by omega) | refine mod_lor' ?_ ?_))⟩
    by_cases c4 : 256 < tiles
    · simp (implicitDefEqProofs := false) only [Gv_add, w_seq, v_reg, q_cons, q_nil, q_nop, q_op, q_eff, q_opg, q_effg, keep_ok, drop1_ok, out_ok, crRec_mk, onNorm_norm, onNorm_exit, onNorm_ret, addRW_mk, w_cond, onCond_mk, w_block, onBlock_norm, onBlock_ret, onBlock_exit, w_pre, w_post, onPost_norm, onPost_exit, onPost_ret, w_exit, w_ret, onRet_mk, res_nil, res_cons, resO_v, retV_one, fixE_mk, lmap_nil, lmap_cons, ldrop_z, ldrop_s, ev_v, ev_c, lget_z, lget_s, evs_nil, evs_cons, s_mov, s_pick, s_bin, s_una, s_conv, s_fld, s_idx, s_ida, s_build, s_extr, s_nilck, s_len, s_mx, s_ld1, s_ldn, s_st, s_call, s_new, s_box, s_make, s_app, bin_int, i_add, i_sub, i_mul, i_eql, i_neq, i_lss, i_gtr, i_leq, i_geq, pick_mk, wantB_mk, una_not, fld_mk, nilck_mk, valO_some, lor_zero', zero_lor', cond_true, cond_false, Nat.beq_refl, natOf_mk, natOf_zero, natOf_one, obind_some, w_skip, Bool.not_true, Bool.not_false, wantB_undef, newb_fm, ptrP_mk, slcP_mk, cells_agg, hM1, hM2, s_st, s_build, s_ldn, aggO_some, parts3_nil, fill_nil, hdn, h34, x0, x1, x2, retV_two, resO_cells, u_regD, isOkC_ok, belowV_undef, belowV_addr, z_nil, z_cons, y_nil, y_cons, y_nop, y_op, y_eff, y_opg, y_effg, keepD_ok, outX_ok, apart_nil, apart_cons, zero_land', land_zero', stepD_ok', below_all, opds, List.all_cons, List.all_nil, belowV_int, belowV_bool, belowV_ptr, belowV_nils, Bool.and_self, Bool.and_true, Bool.true_and, Bool.or_true, Bool.true_or, Bool.false_or, Nat.reduceAdd, Nat.testBit, Nat.reduceShiftRight, Nat.reduceAnd, Nat.reduceBNe, List.map_cons, List.map_nil, h00, decide_true, decide_false, hd4, hgv1, hix0, hld0, hg0l, hgl, hba, hbg, hb0v, q1, q2, q3, l1, l2, hbL, hbX, parts3_cons, hfill, hM3, hs4, w4, t4, s4, hst4, hrs4, c1, c2, c3, c4]
      exact ⟨rfl, by omega, k4, by (repeat (first | exact mod_zero _ | exact mod_bit_ge (by omega) | refine mod_lor' ?_ ?_))⟩
    by_cases c5 : spare < 0
    · simp (implicitDefEqProofs := false) only [Gv_add, w_seq, v_reg, q_cons, q_nil, q_nop, q_op, q_eff, q_opg, q_effg, keep_ok, drop1_ok, out_ok, crRec_mk, onNorm_norm, onNorm_exit, onNorm_ret, addRW_mk, w_cond, onCond_mk, w_block, onBlock_norm, onBlock_ret, onBlock_exit, w_pre, w_post, onPost_norm, onPost_exit, onPost_ret, w_exit, w_ret, onRet_mk, res_nil, res_cons, resO_v, retV_one, fixE_mk, lmap_nil, lmap_cons, ldrop_z, ldrop_s, ev_v, ev_c, lget_z, lget_s, evs_nil, evs_cons, s_mov, s_pick, s_bin, s_una, s_conv, s_fld, s_idx, s_ida, s_build, s_extr, s_nilck, s_len, s_mx, s_ld1, s_ldn, s_st, s_call, s_new, s_box, s_make, s_app, bin_int, i_add, i_sub, i_mul, i_eql, i_neq, i_lss, i_gtr, i_leq, i_geq, pick_mk, wantB_mk, una_not, fld_mk, nilck_mk, valO_some, lor_zero', zero_lor', cond_true, cond_false, Nat.beq_refl, natOf_mk, natOf_zero, natOf_one, obind_some, w_skip, Bool.not_true, Bool.not_false, wantB_undef, newb_fm, ptrP_mk, slcP_mk, cells_agg, hM1, hM2, s_st, s_build, s_ldn, aggO_some, parts3_nil, fill_nil, hdn, h34, x0, x1, x2, retV_two, resO_cells, u_regD, isOkC_ok, belowV_undef, belowV_addr, z_nil, z_cons, y_nil, y_cons, y_nop, y_op, y_eff, y_opg, y_effg, keepD_ok, outX_ok, apart_nil, apart_cons, zero_land', land_zero', stepD_ok', below_all, opds, List.all_cons, List.all_nil, belowV_int, belowV_bool, belowV_ptr, belowV_nils, Bool.and_self, Bool.and_true, Bool.true_and, Bool.or_true, Bool.true_or, Bool.false_or, Nat.reduceAdd, Nat.testBit, Nat.reduceShiftRight, Nat.reduceAnd, Nat.reduceBNe, List.map_cons, List.map_nil, h00, decide_true, decide_false, hd4, hgv1, hix0, hld0, hg0l, hgl, hba, hbg, hb0v, q1, q2, q3, l1, l2, hbL, hbX, parts3_cons, hfill, hM3, hs4, w4, t4, s4, hst4, hrs4, c1, c2, c3, c4, c5]
      exact ⟨rfl, by omega, k4, by (repeat (first | exact mod_zero _ | exact mod_bit_ge (by omega) | refine mod_lor' ?_ ?_))⟩
    by_cases c6 : 65536 < spare
    · simp (implicitDefEqProofs := false) only [Gv_add, w_seq, v_reg, q_cons, q_nil, q_nop, q_op, q_eff, q_opg, q_effg, keep_ok, drop1_ok, out_ok, crRec_mk, onNorm_norm, onNorm_exit, onNorm_ret, addRW_mk, w_cond, onCond_mk, w_block, onBlock_norm, onBlock_ret, onBlock_exit, w_pre, w_post, onPost_norm, onPost_exit, onPost_ret, w_exit, w_ret, onRet_mk, res_nil, res_cons, resO_v, retV_one, fixE_mk, lmap_nil, lmap_cons, ldrop_z, ldrop_s, ev_v, ev_c, lget_z, lget_s, evs_nil, evs_cons, s_mov, s_pick, s_bin, s_una, s_conv, s_fld, s_idx, s_ida, s_build, s_extr, s_nilck, s_len, s_mx, s_ld1, s_ldn, s_st, s_call, s_new, s_box, s_make, s_app, bin_int, i_add, i_sub, i_mul, i_eql, i_neq, i_lss, i_gtr, i_leq, i_geq, pick_mk, wantB_mk, una_not, fld_mk, nilck_mk, valO_some, lor_zero', zero_lor', cond_true, cond_false, Nat.beq_refl, natOf_mk, natOf_zero, natOf_one, obind_some, w_skip, Bool.not_true, Bool.not_false, wantB_undef, newb_fm, ptrP_mk, slcP_mk, cells_agg, hM1, hM2, s_st, s_build, s_ldn, aggO_some, parts3_nil, fill_nil, hdn, h34, x0, x1, x2, retV_two, resO_cells, u_regD, isOkC_ok, belowV_undef, belowV_addr, z_nil, z_cons, y_nil, y_cons, y_nop, y_op, y_eff, y_opg, y_effg, keepD_ok, outX_ok, apart_nil, apart_cons, zero_land', land_zero', stepD_ok', below_all, opds, List.all_cons, List.all_nil, belowV_int, belowV_bool, belowV_ptr, belowV_nils, Bool.and_self, Bool.and_true, Bool.true_and, Bool.or_true, Bool.true_or, Bool.false_or, Nat.reduceAdd, Nat.testBit, Nat.reduceShiftRight, Nat.reduceAnd, Nat.reduceBNe, List.map_cons, List.map_nil, h00, decide_true, decide_false, hd4, hgv1, hix0, hld0, hg0l, hgl, hba, hbg, hb0v, q1, q2, q3, l1, l2, hbL, hbX, parts3_cons, hfill, hM3, hs4, w4, t4, s4, hst4, hrs4, c1, c2, c3, c4, c5, c6]
      exact ⟨rfl, by omega, k4, by (repeat (first | exact mod_zero _ | exact mod_bit_ge (by omega) | refine mod_lor' ?_ ?_))⟩
    obtain ⟨M5, hM5⟩ : ∃ M5 : FM, AMem.put M4 (n + 2) (some (.cells [.int .i64 disks, gv, .int .i64 tiles, .int .i64 spare, .int .i64 W, .int .i64 r, .int .i64 K, .slice none 0 0, .slice none 0 0, .int .i64 (IntKind.i64.wrap (tiles * r)), .int .i64 0] 0 false true)) = M5 := ⟨_, rfl⟩
    have hx5 : M5 (n + 2) = (some (.cells [.int .i64 disks, gv, .int .i64 tiles, .int .i64 spare, .int .i64 W, .int .i64 r, .int .i64 K, .slice none 0 0, .slice none 0 0, .int .i64 (IntKind.i64.wrap (tiles * r)), .int .i64 0] 0 false true)) := by rw [← hM5, fput_same]
    obtain ⟨M6, hM6⟩ : ∃ M6 : FM, AMem.put M5 (n + 2) (some (.cells [.int .i64 disks, gv, .int .i64 tiles, .int .i64 spare, .int .i64 W, .int .i64 r, .int .i64 K, .slice none 0 0, .slice none 0 0, .int .i64 (IntKind.i64.wrap (tiles * r)), .int .i64 (IntKind.i64.wrap (IntKind.i64.wrap (tiles * r) + spare))] 0 false true)) = M6 := ⟨_, rfl⟩
    have hx6 : M6 (n + 2) = (some (.cells [.int .i64 disks, gv, .int .i64 tiles, .int .i64 spare, .int .i64 W, .int .i64 r, .int .i64 K, .slice none 0 0, .slice none 0 0, .int .i64 (IntKind.i64.wrap (tiles * r)), .int .i64 (IntKind.i64.wrap (IntKind.i64.wrap (tiles * r) + spare))] 0 false true)) := by rw [← hM6, fput_same]
    have e5 : ∀ b, b < n + 2 → M5 b = M2 b := fun b hb => by rw [← hM5, fput_ne _ _ _ _ (by omega), e4 b hb]
    have e6 : ∀ b, b < n + 2 → M6 b = M2 b := fun b hb => by rw [← hM6, fput_ne _ _ _ _ (by omega), e5 b hb]
    have hp5 : M5 n = (some (.cells [.int .i64 disks, gv, .int .i64 tiles, .int .i64 spare] 0 false true)) := (e5 n (by omega)).trans hp2
    have hp6 : M6 n = (some (.cells [.int .i64 disks, gv, .int .i64 tiles, .int .i64 spare] 0 false true)) := (e6 n (by omega)).trans hp2
    have hq6 : M6 (n + 1) = (some (.cells [.int .i64 0, .slice none 0 0, .int .i64 0, .int .i64 0, .int .i64 0, .int .i64 0, .int .i64 0, .slice none 0 0, .slice none 0 0, .int .i64 0, .int .i64 0] 0 false true)) := (e6 (n + 1) (by omega)).trans hq2
    have hs5 : stV 1 [.int .i64 (IntKind.i64.wrap (tiles * r))] M4 (n + 3) (.pointer (some ⟨n + 2, 0 + 9, none⟩)) = .ok undef M5 (n + 3) (bit (n + 2)) (bit (n + 2)) :=
      (st1_at (by omega) hx4 (by simp) rfl).trans (by rw [← hM5]; rfl)
    have hs6 : stV 1 [.int .i64 (IntKind.i64.wrap (IntKind.i64.wrap (tiles * r) + spare))] M5 (n + 3) (.pointer (some ⟨n + 2, 0 + 10, none⟩)) = .ok undef M6 (n + 3) (bit (n + 2)) (bit (n + 2)) :=
      (st1_at (by omega) hx5 (by simp) rfl).trans (by rw [← hM6]; rfl)
    have h5 : ld1V M5 (n + 3) (.pointer (some ⟨n + 2, 0 + 9, none⟩)) = .ok (.int .i64 (IntKind.i64.wrap (tiles * r))) M5 (n + 3) (bit (n + 2)) 0 := ld1_at (by omega) hx5 rfl
    have s5 : ld1V M5 (n + 3) (.pointer (some ⟨n, 0 + 3, none⟩)) = .ok (.int .i64 spare) M5 (n + 3) (bit n) 0 := ld1_at (by omega) hp5 rfl
    have t6 : ld1V M6 (n + 3) (.pointer (some ⟨n, 0 + 2, none⟩)) = .ok (.int .i64 tiles) M6 (n + 3) (bit n) 0 := ld1_at (by omega) hp6 rfl
    have n6 : ld1V M6 (n + 3) (.pointer (some ⟨n + 2, 0 + 6, none⟩)) = .ok (.int .i64 K) M6 (n + 3) (bit (n + 2)) 0 := ld1_at (by omega) hx6 rfl
    have c6' : ld1V M6 (n + 3) (.pointer (some ⟨n + 2, 0 + 10, none⟩)) = .ok (.int .i64 (IntKind.i64.wrap (IntKind.i64.wrap (tiles * r) + spare))) M6 (n + 3) (bit (n + 2)) 0 := ld1_at (by omega) hx6 rfl
    have d6 : ldnV 11 M6 (n + 3) (.pointer (some ⟨n + 2, 0, none⟩)) = .ok (.agg #[.int .i64 disks, gv, .int .i64 tiles, .int .i64 spare, .int .i64 W, .int .i64 r, .int .i64 K, .slice none 0 0, .slice none 0 0, .int .i64 (IntKind.i64.wrap (tiles * r)), .int .i64 (IntKind.i64.wrap (IntKind.i64.wrap (tiles * r) + spare))]) M6 (n + 3) (bit (n + 2)) 0 := ldn_at (by omega) hx6 rfl
    obtain ⟨r46, h46⟩ := data_spec (E := E) (Y := Y) hE4 M6 (n + 3) disks tiles spare W r K gv (.int .i64 (IntKind.i64.wrap (tiles * r))) (.int .i64 (IntKind.i64.wrap (IntKind.i64.wrap (tiles * r) + spare)))
    have hst6 := hst M6 (n + 3) (by omega) hq6
    have hrs6 := hrs M6 (n + 3) (by omega) hq6
    have k6 : ∀ b, b < n → M6 b = m b := fun b hb => (e6 b (by omega)).trans (hfr2 b hb)
    by_cases c7 : 4096 < IntKind.i64.wrap (tiles * K)
    · simp (implicitDefEqProofs := false) only [Gv_add, w_seq, v_reg, q_cons, q_nil, q_nop, q_op, q_eff, q_opg, q_effg, keep_ok, drop1_ok, out_ok, crRec_mk, onNorm_norm, onNorm_exit, onNorm_ret, addRW_mk, w_cond, onCond_mk, w_block, onBlock_norm, onBlock_ret, onBlock_exit, w_pre, w_post, onPost_norm, onPost_exit, onPost_ret, w_exit, w_ret, onRet_mk, res_nil, res_cons, resO_v, retV_one, fixE_mk, lmap_nil, lmap_cons, ldrop_z, ldrop_s, ev_v, ev_c, lget_z, lget_s, evs_nil, evs_cons, s_mov, s_pick, s_bin, s_una, s_conv, s_fld, s_idx, s_ida, s_build, s_extr, s_nilck, s_len, s_mx, s_ld1, s_ldn, s_st, s_call, s_new, s_box, s_make, s_app, bin_int, i_add, i_sub, i_mul, i_eql, i_neq, i_lss, i_gtr, i_leq, i_geq, pick_mk, wantB_mk, una_not, fld_mk, nilck_mk, valO_some, lor_zero', zero_lor', cond_true, cond_false, Nat.beq_refl, natOf_mk, natOf_zero, natOf_one, obind_some, w_skip, Bool.not_true, Bool.not_false, wantB_undef, newb_fm, ptrP_mk, slcP_mk, cells_agg, hM1, hM2, s_st, s_build, s_ldn, aggO_some, parts3_nil, fill_nil, hdn, h34, x0, x1, x2, retV_two, resO_cells, u_regD, isOkC_ok, belowV_undef, belowV_addr, z_nil, z_cons, y_nil, y_cons, y_nop, y_op, y_eff, y_opg, y_effg, keepD_ok, outX_ok, apart_nil, apart_cons, zero_land', land_zero', stepD_ok', below_all, opds, List.all_cons, List.all_nil, belowV_int, belowV_bool, belowV_ptr, belowV_nils, Bool.and_self, Bool.and_true, Bool.true_and, Bool.or_true, Bool.true_or, Bool.false_or, Nat.reduceAdd, Nat.testBit, Nat.reduceShiftRight, Nat.reduceAnd, Nat.reduceBNe, List.map_cons, List.map_nil, h00, decide_true, decide_false, hd4, hgv1, hix0, hld0, hg0l, hgl, hba, hbg, hb0v, q1, q2, q3, l1, l2, hbL, hbX, parts3_cons, hfill, hM3, hs4, w4, t4, s4, cells_int, hs5, hs6, h5, s5, t6, n6, c6', d6, h46, hst6, hrs6, c1, c2, c3, c4, c5, c6, c7]
      exact ⟨rfl, by omega, k6, by (repeat (first | exact mod_zero _ | exact mod_bit_ge (by omega) | refine mod_lor' ?_ ?_))⟩
    by_cases c8 : 65536 < IntKind.i64.wrap (IntKind.i64.wrap (tiles * K) * IntKind.i64.wrap (W - 3))
    · simp (implicitDefEqProofs := false) only [Gv_add, w_seq, v_reg, q_cons, q_nil, q_nop, q_op, q_eff, q_opg, q_effg, keep_ok, drop1_ok, out_ok, crRec_mk, onNorm_norm, onNorm_exit, onNorm_ret, addRW_mk, w_cond, onCond_mk, w_block, onBlock_norm, onBlock_ret, onBlock_exit, w_pre, w_post, onPost_norm, onPost_exit, onPost_ret, w_exit, w_ret, onRet_mk, res_nil, res_cons, resO_v, retV_one, fixE_mk, lmap_nil, lmap_cons, ldrop_z, ldrop_s, ev_v, ev_c, lget_z, lget_s, evs_nil, evs_cons, s_mov, s_pick, s_bin, s_una, s_conv, s_fld, s_idx, s_ida, s_build, s_extr, s_nilck, s_len, s_mx, s_ld1, s_ldn, s_st, s_call, s_new, s_box, s_make, s_app, bin_int, i_add, i_sub, i_mul, i_eql, i_neq, i_lss, i_gtr, i_leq, i_geq, pick_mk, wantB_mk, una_not, fld_mk, nilck_mk, valO_some, lor_zero', zero_lor', cond_true, cond_false, Nat.beq_refl, natOf_mk, natOf_zero, natOf_one, obind_some, w_skip, Bool.not_true, Bool.not_false, wantB_undef, newb_fm, ptrP_mk, slcP_mk, cells_agg, hM1, hM2, s_st, s_build, s_ldn, aggO_some, parts3_nil, fill_nil, hdn, h34, x0, x1, x2, retV_two, resO_cells, u_regD, isOkC_ok, belowV_undef, belowV_addr, z_nil, z_cons, y_nil, y_cons, y_nop, y_op, y_eff, y_opg, y_effg, keepD_ok, outX_ok, apart_nil, apart_cons, zero_land', land_zero', stepD_ok', below_all, opds, List.all_cons, List.all_nil, belowV_int, belowV_bool, belowV_ptr, belowV_nils, Bool.and_self, Bool.and_true, Bool.true_and, Bool.or_true, Bool.true_or, Bool.false_or, Nat.reduceAdd, Nat.testBit, Nat.reduceShiftRight, Nat.reduceAnd, Nat.reduceBNe, List.map_cons, List.map_nil, h00, decide_true, decide_false, hd4, hgv1, hix0, hld0, hg0l, hgl, hba, hbg, hb0v, q1, q2, q3, l1, l2, hbL, hbX, parts3_cons, hfill, hM3, hs4, w4, t4, s4, cells_int, hs5, hs6, h5, s5, t6, n6, c6', d6, h46, hst6, hrs6, c1, c2, c3, c4, c5, c6, c7, c8]
      exact ⟨rfl, by omega, k6, by (repeat (first | exact mod_zero _ | exact mod_bit_ge (by omega) | refine mod_lor' ?_ ?_))⟩
    by_cases c9 : 65536 < IntKind.i64.wrap (IntKind.i64.wrap (tiles * r) + spare)
    · simp (implicitDefEqProofs := false) only [Gv_add, w_seq, v_reg, q_cons, q_nil, q_nop, q_op, q_eff, q_opg, q_effg, keep_ok, drop1_ok, out_ok, crRec_mk, onNorm_norm, onNorm_exit, onNorm_ret, addRW_mk, w_cond, onCond_mk, w_block, onBlock_norm, onBlock_ret, onBlock_exit, w_pre, w_post, onPost_norm, onPost_exit, onPost_ret, w_exit, w_ret, onRet_mk, res_nil, res_cons, resO_v, retV_one, fixE_mk, lmap_nil, lmap_cons, ldrop_z, ldrop_s, ev_v, ev_c, lget_z, lget_s, evs_nil, evs_cons, s_mov, s_pick, s_bin, s_una, s_conv, s_fld, s_idx, s_ida, s_build, s_extr, s_nilck, s_len, s_mx, s_ld1, s_ldn, s_st, s_call, s_new, s_box, s_make, s_app, bin_int, i_add, i_sub, i_mul, i_eql, i_neq, i_lss, i_gtr, i_leq, i_geq, pick_mk, wantB_mk, una_not, fld_mk, nilck_mk, valO_some, lor_zero', zero_lor', cond_true, cond_false, Nat.beq_refl, natOf_mk, natOf_zero, natOf_one, obind_some, w_skip, Bool.not_true, Bool.not_false, wantB_undef, newb_fm, ptrP_mk, slcP_mk, cells_agg, hM1, hM2, s_st, s_build, s_ldn, aggO_some, parts3_nil, fill_nil, hdn, h34, x0, x1, x2, retV_two, resO_cells, u_regD, isOkC_ok, belowV_undef, belowV_addr, z_nil, z_cons, y_nil, y_cons, y_nop, y_op, y_eff, y_opg, y_effg, keepD_ok, outX_ok, apart_nil, apart_cons, zero_land', land_zero', stepD_ok', below_all, opds, List.all_cons, List.all_nil, belowV_int, belowV_bool, belowV_ptr, belowV_nils, Bool.and_self, Bool.and_true, Bool.true_and, Bool.or_true, Bool.true_or, Bool.false_or, Nat.reduceAdd, Nat.testBit, Nat.reduceShiftRight, Nat.reduceAnd, Nat.reduceBNe, List.map_cons, List.map_nil, h00, decide_true, decide_false, hd4, hgv1, hix0, hld0, hg0l, hgl, hba, hbg, hb0v, q1, q2, q3, l1, l2, hbL, hbX, parts3_cons, hfill, hM3, hs4, w4, t4, s4, cells_int, hs5, hs6, h5, s5, t6, n6, c6', d6, h46, hst6, hrs6, c1, c2, c3, c4, c5, c6, c7, c8, c9]
      exact ⟨rfl, by omega, k6, by (repeat (first | exact mod_zero _ | exact mod_bit_ge (by omega) | refine mod_lor' ?_ ?_))⟩
    exact absurd ⟨by omega, by omega, by omega, by omega, by omega, by omega, by omega, by omega, by omega⟩ hVR
  · rw [checkV_bad hg, errT] at h34
    have h50 : decide ((5 : Int) = 0) = false := rfl
    simp only [Gv_add, w_seq, v_reg, q_cons, q_nil, q_nop, q_op, q_eff, q_opg, q_effg, keep_ok, drop1_ok, out_ok, crRec_mk, onNorm_norm, onNorm_exit, onNorm_ret, addRW_mk, w_cond, onCond_mk, w_block, onBlock_norm, onBlock_ret, onBlock_exit, w_pre, w_post, onPost_norm, onPost_exit, onPost_ret, w_exit, w_ret, onRet_mk, res_nil, res_cons, resO_v, retV_one, fixE_mk, lmap_nil, lmap_cons, ldrop_z, ldrop_s, ev_v, ev_c, lget_z, lget_s, evs_nil, evs_cons, s_mov, s_pick, s_bin, s_una, s_conv, s_fld, s_idx, s_ida, s_build, s_extr, s_nilck, s_len, s_mx, s_ld1, s_ldn, s_st, s_call, s_new, s_box, s_make, s_app, bin_int, i_add, i_sub, i_mul, i_eql, i_neq, i_lss, i_gtr, i_leq, i_geq, pick_mk, wantB_mk, una_not, fld_mk, nilck_mk, valO_some, lor_zero', zero_lor', cond_true, cond_false, Nat.beq_refl, natOf_mk, natOf_zero, natOf_one, obind_some, w_skip, Bool.not_true, Bool.not_false, wantB_undef, newb_fm, ptrP_mk, slcP_mk, cells_agg, hM1, hM2, s_st, s_build, s_ldn, aggO_some, parts3_nil, fill_nil, hdn, h34, x0, x1, x2, retV_two, resO_cells, h50, hst2, hrs2]
    exact ⟨rfl, by omega, hfr2, by (repeat (first | exact mod_zero _ | exact mod_bit_ge (by omega) | refine mod_lor' ?_ ?_))⟩
end Go.Am.C21
