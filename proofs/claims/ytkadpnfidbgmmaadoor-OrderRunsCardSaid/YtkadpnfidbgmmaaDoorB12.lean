/- The machine and its runs, part 12: Am40s Am40t Am40u Am40v Am40x Am40c Am40d Am40d0. -/
import Derived.Test.YtkadpnfidbgmmaaDoorB11
set_option linter.unusedVariables false
set_option linter.unusedSimpArgs false
set_option linter.unusedSectionVars false
namespace Go.Am.C40
open Go Go.Am C40q
variable {E : Nat → Option AFn} {Y : Nat → List Value → FM → Nat → OR FM}
theorem sameInts_L0 (m : FM) (n : Nat) (av bv : Value) (xs : List Int) (ha : Ints m n av xs) (hb : Ints m n bv xs) (hs : xs.length ≤ 9223372036854775807) {Q : AX → List Value → FM → Nat → Nat → Prop}
    (hQ : ∀ e', Q (.exit 0) e' m n 0) : ∀ d j, j + d = xs.length → ∀ x0 x2 x3 x4, Gv (execW PG E Y ac15L0 [x0, .int .i64 (j : Int), x2, x3, x4, av, bv] m n) Q := by
  intro d
  induction d with
  | zero =>
    intro j hj x0 x2 x3 x4
    refine wr_loopN (L := ac15L0) (b := ac15L0b) rfl ?_
    simp only [ac15L0b]
    simp (implicitDefEqProofs := false) (disch := omega) only [WPs, opds, List.all_cons, List.all_nil, List.cons_append, List.nil_append, cond_true, cond_false, eq_self, List.map_cons, List.map_nil, Nat.reduceAdd, Nat.testBit, Nat.reduceShiftRight, Nat.reduceAnd, Nat.reduceBNe, Nat.reduceMul, ha.len, hb.len]
    exact hQ _
  | succ d ih =>
    intro j hj x0 x2 x3 x4
    have hjl : j < xs.length := by omega
    obtain ⟨b, o, c, opn, wr, i1, i2, i3, i4⟩ := ha.cell hjl
    obtain ⟨b', o', c', opn', wr', k1, k2, k3, k4⟩ := hb.cell hjl
    refine wr_loopN (L := ac15L0) (b := ac15L0b) rfl ?_
    simp only [ac15L0b]
    simp (implicitDefEqProofs := false) (disch := omega) only [WPs, opds, List.all_cons, List.all_nil, List.cons_append, List.nil_append, cond_true, cond_false, eq_self, List.map_cons, List.map_nil, Nat.reduceAdd, Nat.testBit, Nat.reduceShiftRight, Nat.reduceAnd, Nat.reduceBNe, Nat.reduceMul, ha.len, hb.len, ha.bel, hb.bel, i1, i3, i4, k1, k3, k4]
    exact wr_end' ((ih (j + 1) (by omega) _ _ _ _).mono fun X e m n w hq => by simpa only [zero_lor'] using hq)
theorem sameInts_spec (hE : E 15 = some ac15) (m : FM) (n : Nat) (av bv : Value) (xs : List Int) (ha : Ints m n av xs) (hb : Ints m n bv xs) (hs : xs.length ≤ 9223372036854775807) :
    Pure (callW PG E Y 15 [av, bv] m n) m n (.bool true) := by
  refine pure_spec hE rfl rfl ?_
  simp only [ac15]
  simp (implicitDefEqProofs := false) (disch := omega) only [WPs, opds, List.all_cons, List.all_nil, List.cons_append, List.nil_append, cond_true, cond_false, eq_self, List.map_cons, List.map_nil, Nat.reduceAdd, Nat.testBit, Nat.reduceShiftRight, Nat.reduceAnd, Nat.reduceBNe, Nat.reduceMul, ha.len, hb.len]
  refine wr_cps (sameInts_L0 m n av bv xs ha hb hs (fun e' r => ?_) xs.length 0 (by omega) _ _ _ _)
  simp (implicitDefEqProofs := false) (disch := omega) only [WPs, opds, List.all_cons, List.all_nil, List.cons_append, List.nil_append, cond_true, cond_false, eq_self, List.map_cons, List.map_nil, Nat.reduceAdd, Nat.testBit, Nat.reduceShiftRight, Nat.reduceAnd, Nat.reduceBNe, Nat.reduceMul]
/-- what both functions stand on: the list, what is done, which commands must precede which -/
structure Lst (m : FM) (n : Nat) (lv : Value) (cs : List (Cmd × Value)) : Prop where
  l : CmdsV m n lv cs
  len : cs.length ≤ 1000
def cmdC (cs : List (Cmd × Value)) (i : Nat) : List Value := (cmdAt cs i).cells (datAt cs i)
def Bef (E : Nat → Option AFn) (Y : Nat → List Value → FM → Nat → OR FM) (f : Nat) (m : FM) (n : Nat) (cs : List (Cmd × Value)) (bf : Nat → Nat → Bool) : Prop :=
  ∀ (M : FM) (N i k : Nat), n ≤ N → (∀ b, b < n → M b = m b) → i < cs.length → k < cs.length → Pure (callW PG E Y f [.agg (cmdC cs i).toArray, .agg (cmdC cs k).toArray] M N) M N (.bool (bf i k))
theorem CmdsV.at' {m : FM} {n : Nat} {v : Value} {cs : List (Cmd × Value)} (h : CmdsV m n v cs) {i : Nat} (hi : i < cs.length) :
    ∃ b o cells opn wr, idxV 9 i v = some (.pointer (some ⟨b, o, none⟩)) ∧ b < n ∧ m b = some (.cells cells 9 opn wr) ∧ ctake (ldrop cells o) 9 = some (cmdC cs i) ∧ ∀ k, n ≤ k → (cmdC cs i).all (belowF k) = true := by
  obtain ⟨b, o, cells, opn, wr, i1, i2, i3, i4, i5, i6, i7, i8, i9⟩ := h.at hi
  exact ⟨b, o, cells, opn, wr, i1, i2, i3, i4, fun k hk => by
    have := i9.bel k hk
    obtain ⟨a, c, e, _⟩ := i9
    rw [e] at this
    have hb : belowF k (datAt cs i) = true := by rw [e]; exact this
    simp only [cmdC, Cmd.cells, List.all_cons, List.all_nil, belowF_int, belowF_bool, belowF_str, hb, Bool.and_self]⟩
theorem elig_L0 (m : FM) (n : Nat) (lv : Value) (cs : List (Cmd × Value)) (hL : Lst m n lv cs) (bf : Nat → Nat → Bool) (D : Nat → Bool) (hB : Bef E Y 12 m n cs bf) (bx : Nat)
    (M : FM) (N : Nat) (hF : ∀ i : Nat, i ≤ 1000 → Pure (callW PG E Y 27 [.int .i64 (i : Int), .pointer (some ⟨bx, 0, none⟩)] M N) M N (.bool (D i))) (hN : n ≤ N) (hbx : bx < N) (hM : ∀ b, b < n → M b = m b) (i : Nat) (hi : i < cs.length) (x6 x7 x8 x9 ov dv : Value)
    {Q : AX → List Value → FM → Nat → Nat → Prop}
    (hQ1 : ((List.range i).all fun k => D k || !bf k i) = false → ∀ e0, Q (.exit 1) [ov, e0, ov, .int .i64 (i : Int), x6, x7, x8, .func (.func 27) #[] #[.pointer (some ⟨bx, 0, none⟩)], x9, .pointer (some ⟨bx, 0, none⟩), lv, dv] M N 0)
    (hQ2 : ((List.range i).all fun k => D k || !bf k i) = true → ∀ e0 e1 e2 e3, Q (.exit 2) [e0, e1, e2, e3, ov, .int .i64 (i : Int), x6, x7, x8, .func (.func 27) #[] #[.pointer (some ⟨bx, 0, none⟩)], x9, .pointer (some ⟨bx, 0, none⟩), lv, dv] M N 0) :
    ∀ d k, k + d = i → (∀ k', k' < k → (D k' || !bf k' i) = true) → ∀ x1 x2 x3, Gv (execW PG E Y ac16L0 [.int .i64 (k : Int), x1, x2, x3, ov, .int .i64 (i : Int), x6, x7, x8, .func (.func 27) #[] #[.pointer (some ⟨bx, 0, none⟩)], x9, .pointer (some ⟨bx, 0, none⟩), lv, dv] M N) Q := by
  have hl := hL.l.frame hN hM
  have hs := hL.len
  intro d
  induction d with
  | zero =>
    intro k hk ha x1 x2 x3
    refine wr_loopN (L := ac16L0) (b := ac16L0b) rfl ?_
    simp only [ac16L0b]
    simp (implicitDefEqProofs := false) (disch := omega) only [WPs, opds, List.all_cons, List.all_nil, List.cons_append, List.nil_append, cond_true, cond_false, eq_self, List.map_cons, List.map_nil, Nat.reduceAdd, Nat.testBit, Nat.reduceShiftRight, Nat.reduceAnd, Nat.reduceBNe, Nat.reduceMul]
    exact hQ2 (List.all_eq_true.2 fun k' hk' => ha k' (by have := List.mem_range.1 hk'; omega)) _ _ _ _
  | succ d ih =>
    intro k hk ha x1 x2 x3
    have hkl : k < cs.length := by omega
    obtain ⟨b, o, c, opn, wr, i1, i2, i3, i4, i5⟩ := hl.at' hkl
    obtain ⟨b', o', c', opn', wr', j1, j2, j3, j4, j5⟩ := hl.at' hi
    refine wr_loopN (L := ac16L0) (b := ac16L0b) rfl ?_
    simp only [ac16L0b]
    simp (implicitDefEqProofs := false) (disch := omega) only [WPs, opds, List.all_cons, List.all_nil, List.cons_append, List.nil_append, cond_true, cond_false, eq_self, List.map_cons, List.map_nil, Nat.reduceAdd, Nat.testBit, Nat.reduceShiftRight, Nat.reduceAnd, Nat.reduceBNe, Nat.reduceMul, s_callv, callv_mk, belowV_func, below1_ptr, hl.bel]
    refine use_pureX (hF k (by omega)) fun r1 => ?_
    cases hD : D k
    · simp (implicitDefEqProofs := false) (disch := omega) only [WPs, opds, List.all_cons, List.all_nil, List.cons_append, List.nil_append, cond_true, cond_false, eq_self, List.map_cons, List.map_nil, Nat.reduceAdd, Nat.testBit, Nat.reduceShiftRight, Nat.reduceAnd, Nat.reduceBNe, Nat.reduceMul, hl.bel, i1, i3, i4, j1, j3, j4, i5, j5]
      refine use_pureX (hB _ _ k i hN hM hkl hi) fun r2 => ?_
      cases hb : bf k i
      · simp (implicitDefEqProofs := false) (disch := omega) only [WPs, opds, List.all_cons, List.all_nil, List.cons_append, List.nil_append, cond_true, cond_false, eq_self, List.map_cons, List.map_nil, Nat.reduceAdd, Nat.testBit, Nat.reduceShiftRight, Nat.reduceAnd, Nat.reduceBNe, Nat.reduceMul]
        exact wr_end' ((ih (k + 1) (by omega) (fun k' hk' => by
          rcases Nat.lt_or_ge k' k with h | h
          · exact ha k' h
          · rw [show k' = k by omega, hD, hb]; rfl) _ _ _).mono fun X e m n w hq => by simpa only [zero_lor'] using hq)
      · simp (implicitDefEqProofs := false) (disch := omega) only [WPs, opds, List.all_cons, List.all_nil, List.cons_append, List.nil_append, cond_true, cond_false, eq_self, List.map_cons, List.map_nil, Nat.reduceAdd, Nat.testBit, Nat.reduceShiftRight, Nat.reduceAnd, Nat.reduceBNe, Nat.reduceMul]
        refine hQ1 ?_ _
        rw [← Bool.not_eq_true, List.all_eq_true]
        intro h
        have := h k (List.mem_range.2 (by omega))
        rw [hD, hb] at this; cases this
    · simp (implicitDefEqProofs := false) (disch := omega) only [WPs, opds, List.all_cons, List.all_nil, List.cons_append, List.nil_append, cond_true, cond_false, eq_self, List.map_cons, List.map_nil, Nat.reduceAdd, Nat.testBit, Nat.reduceShiftRight, Nat.reduceAnd, Nat.reduceBNe, Nat.reduceMul]
      exact wr_end' ((ih (k + 1) (by omega) (fun k' hk' => by
          rcases Nat.lt_or_ge k' k with h | h
          · exact ha k' h
          · rw [show k' = k by omega, hD]; rfl) _ _ _).mono fun X e m n w hq => by simpa only [zero_lor'] using hq)
theorem elig_L1 (m : FM) (n : Nat) (lv dv : Value) (cs : List (Cmd × Value)) (hL : Lst m n lv cs) (bf : Nat → Nat → Bool) (D : Nat → Bool) (hB : Bef E Y 12 m n cs bf)
    (hF : ∀ (M : FM) (N i : Nat), n < N → (∀ b, b < n → M b = m b) → M n = some (.cells [dv] 0 false true) → i ≤ 1000 → Pure (callW PG E Y 27 [.int .i64 (i : Int), .pointer (some ⟨n, 0, none⟩)] M N) M N (.bool (D i)))
    {Q : AX → List Value → FM → Nat → Nat → Prop}
    (hQ : ∀ M N w ov, n < N → (∀ b, b < n → M b = m b) → (∀ j, j ≤ n → Nat.mod w (bit j) = 0) → IntZ M (n + 1) N ov (natsI (elig bf cs.length D)) → ∀ e', Q (.exit 0) (ov :: e') M N w) :
    ∀ d j, j + d = cs.length → ∀ (M : FM) (N w0 : Nat) (x2 x4 x6 ov : Value), n < N → (∀ b, b < n → M b = m b) → M n = some (.cells [dv] 0 false true) → (∀ j, j ≤ n → Nat.mod w0 (bit j) = 0) → IntZ M (n + 1) N ov (natsI (elig bf j D)) →
    Gv (execW PG E Y ac16L1 [ov, .int .i64 (j : Int), x2, .int .i64 (cs.length : Int), x4, .func (.func 27) #[] #[.pointer (some ⟨n, 0, none⟩)], x6, .pointer (some ⟨n, 0, none⟩), lv, dv] M N) fun X e m n w => Q X e m n (Nat.lor w0 w) := by
  have hs := hL.len
  intro d
  induction d with
  | zero =>
    intro j hj M N w0 x2 x4 x6 ov hN hM hn hw ho
    obtain rfl : j = cs.length := by omega
    refine wr_loopN (L := ac16L1) (b := ac16L1b) rfl ?_
    simp only [ac16L1b]
    simp (implicitDefEqProofs := false) (disch := omega) only [WPs, opds, List.all_cons, List.all_nil, List.cons_append, List.nil_append, cond_true, cond_false, eq_self, List.map_cons, List.map_nil, Nat.reduceAdd, Nat.testBit, Nat.reduceShiftRight, Nat.reduceAnd, Nat.reduceBNe, Nat.reduceMul]
    exact hQ _ _ _ _ hN hM hw ho _
  | succ d ih =>
    intro j hj M N w0 x2 x4 x6 ov hN hM hn hw ho
    have hjl : j < cs.length := by omega
    refine wr_loopN (L := ac16L1) (b := ac16L1b) rfl ?_
    simp only [ac16L1b]
    simp (implicitDefEqProofs := false) (disch := omega) only [WPs, opds, List.all_cons, List.all_nil, List.cons_append, List.nil_append, cond_true, cond_false, eq_self, List.map_cons, List.map_nil, Nat.reduceAdd, Nat.testBit, Nat.reduceShiftRight, Nat.reduceAnd, Nat.reduceBNe, Nat.reduceMul, s_callv, callv_mk]
    refine use_pure (hF _ _ j hN hM hn (by omega)) fun r1 => ?_
    have hsucc := elig_succ (bf := bf) j D
    cases hD : D j
    · simp (implicitDefEqProofs := false) (disch := omega) only [WPs, opds, List.all_cons, List.all_nil, List.cons_append, List.nil_append, cond_true, cond_false, eq_self, List.map_cons, List.map_nil, Nat.reduceAdd, Nat.testBit, Nat.reduceShiftRight, Nat.reduceAnd, Nat.reduceBNe, Nat.reduceMul]
      refine wr_cps (elig_L0 m n lv cs hL bf D hB n M N (fun i hi => hF M N i hN hM hn hi) (by omega) (by omega) hM j hjl _ _ _ _ _ _ (fun hf e0 r => ?_) (fun hf e0 e1 e2 e3 r => ?_) j 0 (by omega) (fun k hk => by omega) _ _ _)
      · rw [show free bf D j = false by rw [free, hD, hf]; rfl, if_neg (by decide), List.append_nil] at hsucc
        simp (implicitDefEqProofs := false) (disch := omega) only [WPs, opds, List.all_cons, List.all_nil, List.cons_append, List.nil_append, cond_true, cond_false, eq_self, List.map_cons, List.map_nil, Nat.reduceAdd, Nat.testBit, Nat.reduceShiftRight, Nat.reduceAnd, Nat.reduceBNe, Nat.reduceMul]
        exact wr_end' ((ih (j + 1) (by omega) M N w0 _ _ _ _ hN hM hn hw (by rw [hsucc]; exact ho)).mono fun X e m n w hq => by simpa only [zero_lor'] using hq)
      · rw [show free bf D j = true by rw [free, hD, hf]; rfl, if_pos rfl] at hsucc
        have hle := elig_len (bf := bf) j D
        simp (implicitDefEqProofs := false) (disch := omega) only [WPs, opds, List.all_cons, List.all_nil, List.cons_append, List.nil_append, cond_true, cond_false, eq_self, List.map_cons, List.map_nil, Nat.reduceAdd, Nat.testBit, Nat.reduceShiftRight, Nat.reduceAnd, Nat.reduceBNe, Nat.reduceMul, ho.len, ho.one]
        refine use_rt (app_intZ (n0 := n + 1) (N := N + 1) (ho.frame (N' := N + 1) (by omega) (fun b h1 h2 => fput_ne _ _ _ _ (by omega))) (j : Int) _ _ _ (by omega) (by rw [natsI_len]; omega)) fun v' M' N' r' w' hA => ?_
        obtain ⟨rfl, ha, hlow, hw'⟩ := hA
        simp (implicitDefEqProofs := false) (disch := omega) only [WPs, opds, List.all_cons, List.all_nil, List.cons_append, List.nil_append, cond_true, cond_false, eq_self, List.map_cons, List.map_nil, Nat.reduceAdd, Nat.testBit, Nat.reduceShiftRight, Nat.reduceAnd, Nat.reduceBNe, Nat.reduceMul]
        refine wr_end' ((ih (j + 1) (by omega) M' (N + 1 + 1) (Nat.lor w0 (Nat.lor (bit N) w')) _ _ _ _ (by omega) (fun b hb => by rw [hlow b (by omega), fput_ne _ _ _ _ (by omega)]; exact hM b hb) (by rw [hlow n (by omega), fput_ne _ _ _ _ (by omega)]; exact hn) (fun i hi => by rw [frz_iff, frz_iff]; exact ⟨hw i hi, frz_bit (by omega), hw' i (by omega)⟩) (by rw [hsucc, natsI_app]; exact ha)).mono fun X e m n w hq => ?_)
        rw [← lor_assoc']; exact hq
    · rw [show free bf D j = false by rw [free, hD]; rfl, if_neg (by decide), List.append_nil] at hsucc
      simp (implicitDefEqProofs := false) (disch := omega) only [WPs, opds, List.all_cons, List.all_nil, List.cons_append, List.nil_append, cond_true, cond_false, eq_self, List.map_cons, List.map_nil, Nat.reduceAdd, Nat.testBit, Nat.reduceShiftRight, Nat.reduceAnd, Nat.reduceBNe, Nat.reduceMul]
      exact wr_end' ((ih (j + 1) (by omega) M N w0 _ _ _ _ hN hM hn hw (by rw [hsucc]; exact ho)).mono fun X e m n w hq => by simpa only [zero_lor'] using hq)
theorem elig_spec (hE : E 16 = some ac16) (h27 : E 27 = some ac27) (m : FM) (n : Nat) (lv dv : Value) (cs : List (Cmd × Value)) (dn : List Bool) (hL : Lst m n lv cs) (hd : Sl m n dv (dn.map .bool)) (hds : dn.length ≤ 9223372036854775807) (bf : Nat → Nat → Bool) (hB : Bef E Y 12 m n cs bf) :
    Rt (callW PG E Y 16 [lv, dv] m n) fun v m' n' w => n ≤ n' ∧ (∀ b, b < n → m' b = m b) ∧ (∀ j, j ≤ n → Nat.mod w (bit j) = 0) ∧ Ints m' n' v (natsI (elig bf cs.length (doneB dn))) := by
  refine kept_specA hE rfl fun Q hQ => ?_
  simp only [ac16]
  simp (implicitDefEqProofs := false) (disch := omega) only [WPs, opds, List.all_cons, List.all_nil, List.cons_append, List.nil_append, cond_true, cond_false, eq_self, List.map_cons, List.map_nil, Nat.reduceAdd, Nat.testBit, Nat.reduceShiftRight, Nat.reduceAnd, Nat.reduceBNe, Nat.reduceMul, hL.l.len, s_func, cells_of_one hd.one]
  have key := elig_L1 (E := E) (Y := Y) m n lv dv cs hL bf (doneB dn) hB (fun M N i hN hM hn hi => fin_spec h27 M N dv dn (hd.frame (by omega) hM) hds i (by omega) n 0 false true hN hn)
    (Q := fun X e M N w => ∀ r, Wr PG E Y [Frm.bl 0, Frm.sq ((AC.reg [AI.nop 0, AI.nop 0]).seq (AC.ret [ROp.v 0]))] (bit n) (.ok X e M N r w) Q) (fun M N w ov hN hM hw ho e' r => by
      simp (implicitDefEqProofs := false) (disch := omega) only [WPs, opds, List.all_cons, List.all_nil, List.cons_append, List.nil_append, cond_true, cond_false, eq_self, List.map_cons, List.map_nil, Nat.reduceAdd, Nat.testBit, Nat.reduceShiftRight, Nat.reduceAnd, Nat.reduceBNe, Nat.reduceMul]
      exact hQ _ _ _ _ _ (by omega) hM (by rw [frz_iff]; exact ⟨frz_bit (by omega), hw n (by omega)⟩) (fun _ => ho.ints) (fun hv => ho.free hv)) cs.length 0 (by omega) (AMem.put m n (some (.cells [dv] 0 false true))) (n + 1) 0 (.int .i64 0) (.slice none 0 0) (.slice none 0 0) (.slice none 0 0) (by omega) (fun b hb => fput_ne _ _ _ _ (by omega)) (fput_same _ _ _) (fun j _ => Nat.zero_mod _) (IntZ.nil _ _ _)
  exact wr_cps (key.mono fun X e m n w hq r => by simpa only [zero_lor'] using hq r)
end Go.Am.C40
namespace Go.Am.C40
open Go Go.Am C40q
variable {E : Nat → Option AFn} {Y : Nat → List Value → FM → Nat → OR FM}
def frK (bf : Nat → Nat → Bool) (D : Nat → Bool) (i k : Nat) : Bool := !D i && (List.range k).all fun k => D k || !bf k i
theorem frK_succ (bf : Nat → Nat → Bool) (D : Nat → Bool) (i k : Nat) : frK bf D i (k + 1) = (frK bf D i k && (D k || !bf k i)) := by
  simp only [frK, List.range_succ, List.all_append, List.all_cons, List.all_nil, Bool.and_true, Bool.and_assoc]
theorem refElig_L0 (m : FM) (n : Nat) (lv dv : Value) (cs : List (Cmd × Value)) (hL : Lst m n lv cs) (bf : Nat → Nat → Bool) (D : Nat → Bool) (hB : Bef E Y 13 m n cs bf)
    (M : FM) (N : Nat) (hbd : belowV N dv = true) (hF : ∀ i : Nat, i ≤ 1000 → Pure (callW PG E Y 28 [dv, .int .i64 (i : Int)] M N) M N (.bool (D i))) (hN : n ≤ N) (hM : ∀ b, b < n → M b = m b) (i : Nat) (hi : i < cs.length) (x2 x3 x4 x5 x6 x7 x8 x9 ov : Value)
    {Q : AX → List Value → FM → Nat → Nat → Prop} (hQ : ∀ e1, Q (.exit 2) [.bool (free bf D i), e1, x2, x3, x4, x5, x6, x7, .int .i64 (i : Int), x8, ov, x9, lv, dv] M N 0) :
    ∀ d k, k + d = i → Gv (execW PG E Y ac17L0 [.bool (frK bf D i k), .int .i64 (k : Int), x2, x3, x4, x5, x6, x7, .int .i64 (i : Int), x8, ov, x9, lv, dv] M N) Q := by
  have hl := hL.l.frame hN hM
  have hs := hL.len
  intro d
  induction d with
  | zero =>
    intro k hk
    obtain rfl : k = i := by omega
    refine wr_loopN (L := ac17L0) (b := ac17L0b) rfl ?_
    simp only [ac17L0b]
    simp (implicitDefEqProofs := false) (disch := omega) only [WPs, opds, List.all_cons, List.all_nil, List.cons_append, List.nil_append, cond_true, cond_false, eq_self, List.map_cons, List.map_nil, Nat.reduceAdd, Nat.testBit, Nat.reduceShiftRight, Nat.reduceAnd, Nat.reduceBNe, Nat.reduceMul]
    exact hQ _
  | succ d ih =>
    intro k hk
    have hkl : k < cs.length := by omega
    have ih := ih (k + 1) (by omega)
    rw [frK_succ] at ih
    obtain ⟨b, o, c, opn, wr, i1, i2, i3, i4, i5⟩ := hl.at' hkl
    obtain ⟨b', o', c', opn', wr', j1, j2, j3, j4, j5⟩ := hl.at' hi
    refine wr_loopN (L := ac17L0) (b := ac17L0b) rfl ?_
    simp only [ac17L0b]
    cases hf : frK bf D i k
    · rw [hf, Bool.false_and] at ih
      simp (implicitDefEqProofs := false) (disch := omega) only [WPs, opds, List.all_cons, List.all_nil, List.cons_append, List.nil_append, cond_true, cond_false, eq_self, List.map_cons, List.map_nil, Nat.reduceAdd, Nat.testBit, Nat.reduceShiftRight, Nat.reduceAnd, Nat.reduceBNe, Nat.reduceMul]
      exact wr_end' (ih.mono fun X e m n w hq => by simpa only [zero_lor'] using hq)
    · rw [hf, Bool.true_and] at ih
      simp (implicitDefEqProofs := false) (disch := omega) only [WPs, opds, List.all_cons, List.all_nil, List.cons_append, List.nil_append, cond_true, cond_false, eq_self, List.map_cons, List.map_nil, Nat.reduceAdd, Nat.testBit, Nat.reduceShiftRight, Nat.reduceAnd, Nat.reduceBNe, Nat.reduceMul, hbd]
      refine use_pureX (hF k (by omega)) fun r1 => ?_
      cases hD : D k
      · simp (implicitDefEqProofs := false) (disch := omega) only [WPs, opds, List.all_cons, List.all_nil, List.cons_append, List.nil_append, cond_true, cond_false, eq_self, List.map_cons, List.map_nil, Nat.reduceAdd, Nat.testBit, Nat.reduceShiftRight, Nat.reduceAnd, Nat.reduceBNe, Nat.reduceMul, hl.bel, i1, i3, i4, j1, j3, j4, i5, j5]
        refine use_pureX (hB _ _ k i hN hM hkl hi) fun r2 => ?_
        rw [hD, Bool.false_or] at ih
        cases hb : bf k i
        · rw [hb] at ih
          simp (implicitDefEqProofs := false) (disch := omega) only [WPs, opds, List.all_cons, List.all_nil, List.cons_append, List.nil_append, cond_true, cond_false, eq_self, List.map_cons, List.map_nil, Nat.reduceAdd, Nat.testBit, Nat.reduceShiftRight, Nat.reduceAnd, Nat.reduceBNe, Nat.reduceMul]
          exact wr_end' (ih.mono fun X e m n w hq => by simpa only [zero_lor'] using hq)
        · rw [hb] at ih
          simp (implicitDefEqProofs := false) (disch := omega) only [WPs, opds, List.all_cons, List.all_nil, List.cons_append, List.nil_append, cond_true, cond_false, eq_self, List.map_cons, List.map_nil, Nat.reduceAdd, Nat.testBit, Nat.reduceShiftRight, Nat.reduceAnd, Nat.reduceBNe, Nat.reduceMul]
          exact wr_end' (ih.mono fun X e m n w hq => by simpa only [zero_lor'] using hq)
      · rw [hD, Bool.true_or] at ih
        simp (implicitDefEqProofs := false) (disch := omega) only [WPs, opds, List.all_cons, List.all_nil, List.cons_append, List.nil_append, cond_true, cond_false, eq_self, List.map_cons, List.map_nil, Nat.reduceAdd, Nat.testBit, Nat.reduceShiftRight, Nat.reduceAnd, Nat.reduceBNe, Nat.reduceMul]
        exact wr_end' (ih.mono fun X e m n w hq => by simpa only [zero_lor'] using hq)
theorem refElig_L1 (m : FM) (n : Nat) (lv dv : Value) (cs : List (Cmd × Value)) (hL : Lst m n lv cs) (bf : Nat → Nat → Bool) (D : Nat → Bool) (hB : Bef E Y 13 m n cs bf) (hbd : ∀ k, n ≤ k → belowV k dv = true)
    (hF : ∀ (M : FM) (N i : Nat), n ≤ N → (∀ b, b < n → M b = m b) → i ≤ 1000 → Pure (callW PG E Y 28 [dv, .int .i64 (i : Int)] M N) M N (.bool (D i)))
    {Q : AX → List Value → FM → Nat → Nat → Prop}
    (hQ : ∀ M N w ov, n ≤ N → (∀ b, b < n → M b = m b) → (∀ j, j ≤ n → Nat.mod w (bit j) = 0) → IntZ M n N ov (natsI (elig bf cs.length D)) → ∀ e', Q (.exit 0) (ov :: e') M N w) :
    ∀ d j, j + d = cs.length → ∀ (M : FM) (N w0 : Nat) (x2 x3 x4 ov : Value), n ≤ N → (∀ b, b < n → M b = m b) → (∀ j, j ≤ n → Nat.mod w0 (bit j) = 0) → IntZ M n N ov (natsI (elig bf j D)) →
    Gv (execW PG E Y ac17L1 [ov, .int .i64 (j : Int), x2, x3, x4, lv, dv] M N) fun X e m n w => Q X e m n (Nat.lor w0 w) := by
  have hs := hL.len
  intro d
  induction d with
  | zero =>
    intro j hj M N w0 x2 x3 x4 ov hN hM hw ho
    obtain rfl : j = cs.length := by omega
    refine wr_loopN (L := ac17L1) (b := ac17L1b) rfl ?_
    simp only [ac17L1b]
    simp (implicitDefEqProofs := false) (disch := omega) only [WPs, opds, List.all_cons, List.all_nil, List.cons_append, List.nil_append, cond_true, cond_false, eq_self, List.map_cons, List.map_nil, Nat.reduceAdd, Nat.testBit, Nat.reduceShiftRight, Nat.reduceAnd, Nat.reduceBNe, Nat.reduceMul, (hL.l.frame hN hM).len]
    exact hQ _ _ _ _ hN hM hw ho _
  | succ d ih =>
    intro j hj M N w0 x2 x3 x4 ov hN hM hw ho
    have hjl : j < cs.length := by omega
    refine wr_loopN (L := ac17L1) (b := ac17L1b) rfl ?_
    simp only [ac17L1b]
    simp (implicitDefEqProofs := false) (disch := omega) only [WPs, opds, List.all_cons, List.all_nil, List.cons_append, List.nil_append, cond_true, cond_false, eq_self, List.map_cons, List.map_nil, Nat.reduceAdd, Nat.testBit, Nat.reduceShiftRight, Nat.reduceAnd, Nat.reduceBNe, Nat.reduceMul, (hL.l.frame hN hM).len]
    refine use_pure (hF _ _ j hN hM (by omega)) fun r1 => ?_
    have hsucc := elig_succ (bf := bf) j D
    have h0 : frK bf D j 0 = !D j := by simp [frK]
    have hle := elig_len (bf := bf) j D
    simp (implicitDefEqProofs := false) (disch := omega) only [WPs, opds, List.all_cons, List.all_nil, List.cons_append, List.nil_append, cond_true, cond_false, eq_self, List.map_cons, List.map_nil, Nat.reduceAdd, Nat.testBit, Nat.reduceShiftRight, Nat.reduceAnd, Nat.reduceBNe, Nat.reduceMul]
    rw [← h0]
    refine wr_cps (refElig_L0 m n lv dv cs hL bf D hB M N (hbd N hN) (fun i hi => hF M N i hN hM hi) hN hM j hjl _ _ _ _ _ _ _ _ _ (fun e1 r => ?_) j 0 (by omega))
    cases hf : free bf D j
    · rw [hf, if_neg (by decide), List.append_nil] at hsucc
      simp (implicitDefEqProofs := false) (disch := omega) only [WPs, opds, List.all_cons, List.all_nil, List.cons_append, List.nil_append, cond_true, cond_false, eq_self, List.map_cons, List.map_nil, Nat.reduceAdd, Nat.testBit, Nat.reduceShiftRight, Nat.reduceAnd, Nat.reduceBNe, Nat.reduceMul]
      exact wr_end' ((ih (j + 1) (by omega) M N w0 _ _ _ _ hN hM hw (by rw [hsucc]; exact ho)).mono fun X e m n w hq => by simpa only [zero_lor'] using hq)
    · rw [hf, if_pos rfl] at hsucc
      simp (implicitDefEqProofs := false) (disch := omega) only [WPs, opds, List.all_cons, List.all_nil, List.cons_append, List.nil_append, cond_true, cond_false, eq_self, List.map_cons, List.map_nil, Nat.reduceAdd, Nat.testBit, Nat.reduceShiftRight, Nat.reduceAnd, Nat.reduceBNe, Nat.reduceMul, ho.len, ho.one]
      refine use_rt (app_intZ (n0 := n) (N := N + 1) (ho.frame (N' := N + 1) (by omega) (fun b h1 h2 => fput_ne _ _ _ _ (by omega))) (j : Int) _ _ _ (by omega) (by rw [natsI_len]; omega)) fun v' M' N' r' w' hA => ?_
      obtain ⟨rfl, ha, hlow, hw'⟩ := hA
      simp (implicitDefEqProofs := false) (disch := omega) only [WPs, opds, List.all_cons, List.all_nil, List.cons_append, List.nil_append, cond_true, cond_false, eq_self, List.map_cons, List.map_nil, Nat.reduceAdd, Nat.testBit, Nat.reduceShiftRight, Nat.reduceAnd, Nat.reduceBNe, Nat.reduceMul]
      refine wr_end' ((ih (j + 1) (by omega) M' (N + 1 + 1) (Nat.lor w0 (Nat.lor (bit N) w')) _ _ _ _ (by omega) (fun b hb => by rw [hlow b (by omega), fput_ne _ _ _ _ (by omega)]; exact hM b hb) (fun i hi => by rw [frz_iff, frz_iff]; exact ⟨hw i hi, frz_bit (by omega), hw' i (by omega)⟩) (by rw [hsucc, natsI_app]; exact ha)).mono fun X e m n w hq => ?_)
      rw [← lor_assoc']; exact hq
theorem refElig_spec (hE : E 17 = some ac17) (h28 : E 28 = some ac28) (m : FM) (n : Nat) (lv dv : Value) (cs : List (Cmd × Value)) (dn : List Bool) (hL : Lst m n lv cs) (hd : Sl m n dv (dn.map .bool)) (hds : dn.length ≤ 9223372036854775807) (bf : Nat → Nat → Bool) (hB : Bef E Y 13 m n cs bf) :
    Rt (callW PG E Y 17 [lv, dv] m n) fun v m' n' w => n ≤ n' ∧ (∀ b, b < n → m' b = m b) ∧ (∀ j, j ≤ n → Nat.mod w (bit j) = 0) ∧ Ints m' n' v (natsI (elig bf cs.length (doneB dn))) := by
  refine kept_specA hE rfl fun Q hQ => ?_
  simp only [ac17]
  simp (implicitDefEqProofs := false) (disch := omega) only [WPs, opds, List.all_cons, List.all_nil, List.cons_append, List.nil_append, cond_true, cond_false, eq_self, List.map_cons, List.map_nil, Nat.reduceAdd, Nat.testBit, Nat.reduceShiftRight, Nat.reduceAnd, Nat.reduceBNe, Nat.reduceMul]
  have key := refElig_L1 (E := E) (Y := Y) m n lv dv cs hL bf (doneB dn) hB (fun k hk => hd.bel k hk) (fun M N i hN hM hi => isDone_spec h28 M N dv dn (hd.frame hN hM) hds i (by omega))
    (Q := fun X e M N w => ∀ r, Wr PG E Y [Frm.bl 0, Frm.sq ((AC.reg [AI.nop 0, AI.nop 0]).seq (AC.ret [ROp.v 0]))] 0 (.ok X e M N r w) Q) (fun M N w ov hN hM hw ho e' r => by
      simp (implicitDefEqProofs := false) (disch := omega) only [WPs, opds, List.all_cons, List.all_nil, List.cons_append, List.nil_append, cond_true, cond_false, eq_self, List.map_cons, List.map_nil, Nat.reduceAdd, Nat.testBit, Nat.reduceShiftRight, Nat.reduceAnd, Nat.reduceBNe, Nat.reduceMul]
      exact hQ _ _ _ _ _ (by omega) hM (hw n (by omega)) (fun _ => ho.ints) (fun hv => ho.free hv)) cs.length 0 (by omega) m n 0 (.int .i64 0) (.slice none 0 0) (.slice none 0 0) (.slice none 0 0) (by omega) (fun b hb => rfl) (fun j _ => Nat.zero_mod _) (IntZ.nil _ _ _)
  exact wr_cps (key.mono fun X e m n w hq r => by simpa only [zero_lor'] using hq r)
end Go.Am.C40
namespace Go.Am.C40
open Go Go.Am C40q
variable {E : Nat → Option AFn} {Y : Nat → List Value → FM → Nat → OR FM}
/-- a table of what is done, in memory -/
def doneT (L : Nat) (D : Nat → Bool) : List Value := (tbl L D).map Value.bool
theorem doneT_len (L : Nat) (D : Nat → Bool) : (doneT L D).length = L := by rw [doneT, List.length_map, tbl_len]
theorem doneT_at {L i : Nat} (D : Nat → Bool) (h : i < L) : cget (doneT L D) i = some (.bool (D i)) := by
  rw [cget_eq, doneT, List.getElem?_map, tbl_at _ h]; rfl
theorem doneT_set {L i : Nat} (D : Nat → Bool) (h : i < L) : setCells (doneT L D) i [.bool true] = some (doneT L (updF D i true)) := by
  rw [Go.Am.set_one (by rw [doneT_len]; exact h), doneT, doneT, ← tbl_set, List.map_set]
theorem doneT_sl {M : FM} {N b L : Nat} {D : Nat → Bool} {cap : Nat} {opn wr : Bool} (hb : b < N) (hm : M b = some (.cells (doneT L D) 1 opn wr)) : Sl M N (.slice (some ⟨b, 0, none⟩) L cap) ((tbl L D).map .bool) :=
  .inr <| .inl ⟨b, 0, cap, _, opn, wr, by rw [List.length_map, tbl_len], hb, hm, fun i x hx => by rw [Nat.zero_add]; exact hx⟩
theorem doneT_rep (L : Nat) : List.replicate L (Value.bool false) = doneT L (fun _ => false) := by
  rw [doneT, ← tbl_rep, List.map_replicate]
theorem resp_L0 (m : FM) (n : Nat) (lv ov : Value) (cs : List (Cmd × Value)) (hL : Lst m n lv cs) (bf : Nat → Nat → Bool) (hB : Bef E Y 12 m n cs bf)
    (M : FM) (N : Nat) (D : Nat → Bool) (hN : n < N) (hM : ∀ b, b < n → M b = m b) (hn : M n = some (.cells (doneT cs.length D) 1 false true)) (k : Nat) (hk : k < cs.length) (cap : Nat) (y3 y4 y5 y6 y7 y8 y9 y10 y11 y12 y13 y15 y16 y17 y18 y19 y20 y22 y23 : Value)
    {Q : AX → List Value → FM → Nat → Nat → Prop}
    (hQ1 : ((List.range k).all fun i => D i || !bf i k) = false → ∀ e', Q (.ret (.bool false)) e' M N 0)
    (hQ2 : ((List.range k).all fun i => D i || !bf i k) = true → ∀ e0 e1 e2, Q (.exit 2) [e0, e1, e2, y3, y4, y5, y6, y7, y8, y9, y10, y11, y12, y13, .int .i64 (k : Int), y15, y16, y17, y18, y19, y20, .slice (some ⟨n, 0, none⟩) cs.length cap, y22, y23, lv, ov] M N 0) :
    ∀ d i, i + d = k → (∀ i', i' < i → (D i' || !bf i' k) = true) → ∀ y0 y2, Gv (execW PG E Y ac18L0 [y0, .int .i64 (i : Int), y2, y3, y4, y5, y6, y7, y8, y9, y10, y11, y12, y13, .int .i64 (k : Int), y15, y16, y17, y18, y19, y20, .slice (some ⟨n, 0, none⟩) cs.length cap, y22, y23, lv, ov] M N) Q := by
  have hl := hL.l.frame (by omega : n ≤ N) hM
  have hs := hL.len
  intro d
  induction d with
  | zero =>
    intro i hi ha y0 y2
    refine wr_loopN (L := ac18L0) (b := ac18L0b) rfl ?_
    simp only [ac18L0b]
    simp (implicitDefEqProofs := false) (disch := omega) only [WPs, opds, List.all_cons, List.all_nil, List.cons_append, List.nil_append, cond_true, cond_false, eq_self, List.map_cons, List.map_nil, Nat.reduceAdd, Nat.testBit, Nat.reduceShiftRight, Nat.reduceAnd, Nat.reduceBNe, Nat.reduceMul]
    exact hQ2 (List.all_eq_true.2 fun k' hk' => ha k' (by have := List.mem_range.1 hk'; omega)) _ _ _
  | succ d ih =>
    intro i hi ha y0 y2
    have hil : i < cs.length := by omega
    have hd := doneT_at D hil
    obtain ⟨b, o, c, opn, wr, i1, i2, i3, i4, i5⟩ := hl.at' hil
    obtain ⟨b', o', c', opn', wr', j1, j2, j3, j4, j5⟩ := hl.at' hk
    refine wr_loopN (L := ac18L0) (b := ac18L0b) rfl ?_
    simp only [ac18L0b]
    cases hD : D i
    · rw [hD] at hd
      simp (implicitDefEqProofs := false) (disch := omega) only [WPs, opds, List.all_cons, List.all_nil, List.cons_append, List.nil_append, cond_true, cond_false, eq_self, List.map_cons, List.map_nil, Nat.reduceAdd, Nat.testBit, Nat.reduceShiftRight, Nat.reduceAnd, Nat.reduceBNe, Nat.reduceMul, hl.bel, hn, hd, i1, i3, i4, j1, j3, j4, i5, j5]
      refine use_pureX (hB _ _ i k (by omega) hM hil hk) fun r2 => ?_
      cases hb : bf i k
      · simp (implicitDefEqProofs := false) (disch := omega) only [WPs, opds, List.all_cons, List.all_nil, List.cons_append, List.nil_append, cond_true, cond_false, eq_self, List.map_cons, List.map_nil, Nat.reduceAdd, Nat.testBit, Nat.reduceShiftRight, Nat.reduceAnd, Nat.reduceBNe, Nat.reduceMul]
        exact wr_end' ((ih (i + 1) (by omega) (fun k' hk' => by
          rcases Nat.lt_or_ge k' i with h | h
          · exact ha k' h
          · rw [show k' = i by omega, hD, hb]; rfl) _ _).mono fun X e m n w hq => by simpa only [zero_lor'] using hq)
      · simp (implicitDefEqProofs := false) (disch := omega) only [WPs, opds, List.all_cons, List.all_nil, List.cons_append, List.nil_append, cond_true, cond_false, eq_self, List.map_cons, List.map_nil, Nat.reduceAdd, Nat.testBit, Nat.reduceShiftRight, Nat.reduceAnd, Nat.reduceBNe, Nat.reduceMul]
        refine hQ1 ?_ _
        rw [← Bool.not_eq_true, List.all_eq_true]
        intro h
        have := h i (List.mem_range.2 (by omega))
        rw [hD, hb] at this; cases this
    · rw [hD] at hd
      simp (implicitDefEqProofs := false) (disch := omega) only [WPs, opds, List.all_cons, List.all_nil, List.cons_append, List.nil_append, cond_true, cond_false, eq_self, List.map_cons, List.map_nil, Nat.reduceAdd, Nat.testBit, Nat.reduceShiftRight, Nat.reduceAnd, Nat.reduceBNe, Nat.reduceMul, hl.bel, hn, hd]
      exact wr_end' ((ih (i + 1) (by omega) (fun k' hk' => by
          rcases Nat.lt_or_ge k' i with h | h
          · exact ha k' h
          · rw [show k' = i by omega, hD]; rfl) _ _).mono fun X e m n w hq => by simpa only [zero_lor'] using hq)
theorem resp_L1 (m : FM) (n : Nat) (lv ov : Value) (cs : List (Cmd × Value)) (o : List Int) (hL : Lst m n lv cs) (ho : Ints m n ov o) (hos : o.length ≤ 9223372036854775807) (bf : Nat → Nat → Bool) (hB : Bef E Y 12 m n cs bf) (N : Nat) (hN : n < N) (t : Bool) (cap : Nat)
    {Q : AX → List Value → FM → Nat → Nat → Prop}
    (hQt : t = true → ∀ e' M w, Nat.mod w (bit n) = 0 → Q (.exit 0) e' M N w) (hQf : t = false → ∀ e' M w, Nat.mod w (bit n) = 0 → Q (.ret (.bool false)) e' M N w) :
    ∀ d j, j + d = o.length → ∀ (M : FM) (w0 : Nat) (D : Nat → Bool) (hM : ∀ b, b < n → M b = m b) (hn : M n = some (.cells (doneT cs.length D) 1 false true)) (hw : Nat.mod w0 (bit n) = 0) (ht : resp bf cs.length D (o.drop j) = t) (x0 x2 x5 x6 : Value),
    Gv (execW PG E Y ac18L1 [x0, .int .i64 (j : Int), x2, .int .i64 (o.length : Int), .slice (some ⟨n, 0, none⟩) cs.length cap, x5, x6, lv, ov] M N) fun X e m n w => Q X e m n (Nat.lor w0 w) := by
  have hs := hL.len
  intro d
  induction d with
  | zero =>
    intro j hj M w0 D hM hn hw ht x0 x2 x5 x6
    rw [List.drop_eq_nil_of_le (by omega)] at ht
    refine wr_loopN (L := ac18L1) (b := ac18L1b) rfl ?_
    simp only [ac18L1b]
    simp (implicitDefEqProofs := false) (disch := omega) only [WPs, opds, List.all_cons, List.all_nil, List.cons_append, List.nil_append, cond_true, cond_false, eq_self, List.map_cons, List.map_nil, Nat.reduceAdd, Nat.testBit, Nat.reduceShiftRight, Nat.reduceAnd, Nat.reduceBNe, Nat.reduceMul]
    exact hQt ht.symm _ _ _ hw
  | succ d ih =>
    intro j hj M w0 D hM hn hw ht x0 x2 x5 x6
    have hl := hL.l.frame (by omega : n ≤ N) hM
    have ho' := ho.frame (by omega : n ≤ N) hM
    have hjl : j < o.length := by omega
    obtain ⟨b, o1, c, opn, wr, i1, i2, i3, i4⟩ := ho'.cell hjl
    rw [List.drop_eq_getElem_cons hjl] at ht
    generalize hx : o[j] = x at i4 ht
    refine wr_loopN (L := ac18L1) (b := ac18L1b) rfl ?_
    simp only [ac18L1b]
    by_cases c1 : x < 0
    · rw [resp, decide_eq_false (by omega : ¬ 0 ≤ x)] at ht
      simp (implicitDefEqProofs := false) (disch := omega) only [WPs, opds, List.all_cons, List.all_nil, List.cons_append, List.nil_append, cond_true, cond_false, eq_self, List.map_cons, List.map_nil, Nat.reduceAdd, Nat.testBit, Nat.reduceShiftRight, Nat.reduceAnd, Nat.reduceBNe, Nat.reduceMul, i1, i3, i4, hl.len]
      exact hQf (by rw [← ht]; rfl) _ _ _ hw
    by_cases c2 : (cs.length : Int) ≤ x
    · rw [resp, decide_eq_false (by omega : ¬ x < (cs.length : Int)), Bool.and_false] at ht
      simp (implicitDefEqProofs := false) (disch := omega) only [WPs, opds, List.all_cons, List.all_nil, List.cons_append, List.nil_append, cond_true, cond_false, eq_self, List.map_cons, List.map_nil, Nat.reduceAdd, Nat.testBit, Nat.reduceShiftRight, Nat.reduceAnd, Nat.reduceBNe, Nat.reduceMul, i1, i3, i4, hl.len]
      exact hQf (by rw [← ht]; rfl) _ _ _ hw
    obtain ⟨k, rfl⟩ := Int.eq_ofNat_of_zero_le (by omega : 0 ≤ x)
    have hk : k < cs.length := by omega
    have hd := doneT_at D hk
    rw [resp, decide_eq_true (by omega : 0 ≤ (k : Int)), decide_eq_true (by omega : (k : Int) < (cs.length : Int)), Int.toNat_natCast, Bool.and_self, Bool.true_and] at ht
    cases hD : D k
    · rw [hD] at hd
      rw [free, hD, Bool.not_false, Bool.true_and] at ht
      simp (implicitDefEqProofs := false) (disch := omega) only [WPs, opds, List.all_cons, List.all_nil, List.cons_append, List.nil_append, cond_true, cond_false, eq_self, List.map_cons, List.map_nil, Nat.reduceAdd, Nat.testBit, Nat.reduceShiftRight, Nat.reduceAnd, Nat.reduceBNe, Nat.reduceMul, i1, i3, i4, hl.len, hn, hd]
      refine wr_cps (resp_L0 m n lv ov cs hL bf hB M N D hN hM hn k hk cap _ _ _ _ _ _ _ _ _ _ _ _ _ _ _ _ _ _ _ (fun hf e' r => ?_) (fun hf e0 e1 e2 r => ?_) k 0 (by omega) (fun i hi => by omega) _ _)
      · simp (implicitDefEqProofs := false) (disch := omega) only [WPs, opds, List.all_cons, List.all_nil, List.cons_append, List.nil_append, cond_true, cond_false, eq_self, List.map_cons, List.map_nil, Nat.reduceAdd, Nat.testBit, Nat.reduceShiftRight, Nat.reduceAnd, Nat.reduceBNe, Nat.reduceMul]
        exact hQf (by rw [← ht, hf]; rfl) _ _ _ hw
      · rw [hf, Bool.true_and] at ht
        have hset := doneT_set D hk
        simp (implicitDefEqProofs := false) (disch := omega) only [WPs, opds, List.all_cons, List.all_nil, List.cons_append, List.nil_append, cond_true, cond_false, eq_self, List.map_cons, List.map_nil, Nat.reduceAdd, Nat.testBit, Nat.reduceShiftRight, Nat.reduceAnd, Nat.reduceBNe, Nat.reduceMul, hn, hset]
        refine wr_end' ((ih (j + 1) (by omega) (AMem.put M n (some (.cells (doneT cs.length (updF D k true)) 1 false true))) (Nat.lor w0 (bit n)) (updF D k true) (fun b hb => by rw [fput_ne _ _ _ _ (by omega)]; exact hM b hb) (fput_same _ _ _) (by rw [frz_iff]; exact ⟨hw, frz_bit (by omega)⟩) ht _ _ _ _).mono fun X e m n w hq => ?_)
        rw [← lor_assoc']; exact hq
    · rw [hD] at hd
      rw [free, hD, Bool.not_true, Bool.false_and] at ht
      simp (implicitDefEqProofs := false) (disch := omega) only [WPs, opds, List.all_cons, List.all_nil, List.cons_append, List.nil_append, cond_true, cond_false, eq_self, List.map_cons, List.map_nil, Nat.reduceAdd, Nat.testBit, Nat.reduceShiftRight, Nat.reduceAnd, Nat.reduceBNe, Nat.reduceMul, i1, i3, i4, hl.len, hn, hd]
      exact hQf (by rw [← ht]; rfl) _ _ _ hw
theorem respects_spec (hE : E 18 = some ac18) (m : FM) (n : Nat) (lv ov : Value) (cs : List (Cmd × Value)) (o : List Int) (hL : Lst m n lv cs) (ho : Ints m n ov o) (hos : o.length ≤ 9223372036854775807) (bf : Nat → Nat → Bool) (hB : Bef E Y 12 m n cs bf) :
    Pure (callW PG E Y 18 [lv, ov] m n) m n (.bool (respects bf cs.length o)) := by
  refine pure_spec hE rfl rfl ?_
  have hs := hL.len
  simp only [ac18]
  by_cases h : o.length = cs.length
  · simp (implicitDefEqProofs := false) (disch := omega) only [WPs, opds, List.all_cons, List.all_nil, List.cons_append, List.nil_append, cond_true, cond_false, eq_self, List.map_cons, List.map_nil, Nat.reduceAdd, Nat.testBit, Nat.reduceShiftRight, Nat.reduceAnd, Nat.reduceBNe, Nat.reduceMul, hL.l.len, ho.len]
    have key := resp_L1 (E := E) (Y := Y) m n lv ov cs o hL ho hos bf hB (n + 1) (by omega) (resp bf cs.length (fun _ => false) o) cs.length
      (Q := fun X e M N w => ∀ r, Wr PG E Y [Frm.bl 0, Frm.sq ((AC.reg [AI.op (AOp.mov (Opd.c (Value.bool true)))]).seq (AC.ret [ROp.v 0]))] (bit n) (.ok X e M N r w) fun X x x_1 x_2 w => X = AX.ret (Value.bool (respects bf cs.length o)) ∧ w.mod (bit n) = 0)
      (fun ht e' M w hw r => by
        have hr : respects bf cs.length o = true := by rw [respects, ht, h]; simp
        simp (implicitDefEqProofs := false) (disch := omega) only [WPs, opds, List.all_cons, List.all_nil, List.cons_append, List.nil_append, cond_true, cond_false, eq_self, List.map_cons, List.map_nil, Nat.reduceAdd, Nat.testBit, Nat.reduceShiftRight, Nat.reduceAnd, Nat.reduceBNe, Nat.reduceMul, hw, hr])
      (fun ht e' M w hw r => by
        have hr : respects bf cs.length o = false := by rw [respects, ht, Bool.and_false]
        simp (implicitDefEqProofs := false) (disch := omega) only [WPs, opds, List.all_cons, List.all_nil, List.cons_append, List.nil_append, cond_true, cond_false, eq_self, List.map_cons, List.map_nil, Nat.reduceAdd, Nat.testBit, Nat.reduceShiftRight, Nat.reduceAnd, Nat.reduceBNe, Nat.reduceMul, hw, hr]) o.length 0 (by omega) (AMem.put m n (some (.cells (List.replicate cs.length (.bool false)) 1 false true))) 0 (fun _ => false) (fun b hb => fput_ne _ _ _ _ (by omega)) (by rw [doneT_rep]; exact fput_same _ _ _) (Nat.zero_mod _) rfl (.bool false) (.int .i64 0) (.bool false) (.bool false)
    exact wr_cps (key.mono fun X e m n w hq r => by simpa only [zero_lor'] using hq r)
  · have hr : respects bf cs.length o = false := by rw [respects, decide_eq_false h]; rfl
    simp (implicitDefEqProofs := false) (disch := omega) only [WPs, opds, List.all_cons, List.all_nil, List.cons_append, List.nil_append, cond_true, cond_false, eq_self, List.map_cons, List.map_nil, Nat.reduceAdd, Nat.testBit, Nat.reduceShiftRight, Nat.reduceAnd, Nat.reduceBNe, Nat.reduceMul, hL.l.len, ho.len, hr]
end Go.Am.C40
namespace Go.Am.C40
open Go Go.Am C40q
variable {E : Nat → Option AFn} {Y : Nat → List Value → FM → Nat → OR FM}
def numsT (L : Nat) (f : Nat → Nat) : List Value := (tbl L f).map fun x : Nat => Value.int .i64 (x : Int)
theorem numsT_len (L : Nat) (D : Nat → Nat) : (numsT L D).length = L := by rw [numsT, List.length_map, tbl_len]
theorem numsT_at {L i : Nat} (D : Nat → Nat) (h : i < L) : cget (numsT L D) i = some (.int .i64 (D i : Int)) := by
  rw [cget_eq, numsT, List.getElem?_map, tbl_at _ h]; rfl
theorem numsT_set {L i x : Nat} (D : Nat → Nat) (h : i < L) : setCells (numsT L D) i [.int .i64 (x : Int)] = some (numsT L (updF D i x)) := by
  rw [Go.Am.set_one (by rw [numsT_len]; exact h), numsT, numsT, ← tbl_set, List.map_set]
theorem numsT_rep (L : Nat) : List.replicate L (Value.int .i64 0) = numsT L (fun _ => 0) := by
  rw [numsT, ← tbl_rep, List.map_replicate]; rfl
theorem numsT_ints {M : FM} {N b L : Nat} {D : Nat → Nat} {cap : Nat} {opn wr : Bool} (hb : b < N) (hm : M b = some (.cells (numsT L D) 1 opn wr)) : Ints M N (.slice (some ⟨b, 0, none⟩) L cap) (natsI (tbl L D)) :=
  .inr <| .inl ⟨b, 0, cap, _, opn, wr, by rw [List.length_map, natsI_len, tbl_len], hb, hm, fun i x hx => by
    rw [Nat.zero_add, numsT]
    rw [natsI, List.map_map] at hx
    exact hx⟩
theorem place_L0 (m : FM) (n : Nat) (lv ov : Value) (cs : List (Cmd × Value)) (o : List Int) (hL : Lst m n lv cs) (ho : Ints m n ov o) (hos : o.length ≤ 9223372036854775806) (N : Nat) (hN : n < N) (t : Option (Nat → Nat)) (cap : Nat)
    {Q : AX → List Value → FM → Nat → Nat → Prop}
    (hQs : ∀ pl, t = some pl → ∀ e0 e1 e2 e3 M w, (∀ b, b < n → M b = m b) → M n = some (.cells (numsT cs.length pl) 1 false true) → Nat.mod w (bit n) = 0 → Q (.exit 0) [e0, e1, .slice (some ⟨n, 0, none⟩) cs.length cap, e2, e3, lv, ov] M N w) (hQf : t = none → ∀ e' M w, Nat.mod w (bit n) = 0 → Q (.ret (.bool false)) e' M N w) :
    ∀ d j, j + d = o.length → ∀ (M : FM) (w0 : Nat) (pl : Nat → Nat) (hM : ∀ b, b < n → M b = m b) (hn : M n = some (.cells (numsT cs.length pl) 1 false true)) (hw : Nat.mod w0 (bit n) = 0) (ht : place cs.length (o.drop j) j pl = t) (x0 x2 x5 x6 : Value),
    Gv (execW PG E Y ac19L0 [x0, .int .i64 (j : Int), x2, .slice (some ⟨n, 0, none⟩) cs.length cap, x5, x6, lv, ov] M N) fun X e m n w => Q X e m n (Nat.lor w0 w) := by
  have hs := hL.len
  intro d
  induction d with
  | zero =>
    intro j hj M w0 pl hM hn hw ht x0 x2 x5 x6
    rw [List.drop_eq_nil_of_le (by omega)] at ht
    have ho' := ho.frame (by omega : n ≤ N) hM
    refine wr_loopN (L := ac19L0) (b := ac19L0b) rfl ?_
    simp only [ac19L0b]
    simp (implicitDefEqProofs := false) (disch := omega) only [WPs, opds, List.all_cons, List.all_nil, List.cons_append, List.nil_append, cond_true, cond_false, eq_self, List.map_cons, List.map_nil, Nat.reduceAdd, Nat.testBit, Nat.reduceShiftRight, Nat.reduceAnd, Nat.reduceBNe, Nat.reduceMul, ho'.len]
    exact hQs _ ht.symm _ _ _ _ _ _ hM hn hw
  | succ d ih =>
    intro j hj M w0 pl hM hn hw ht x0 x2 x5 x6
    have hl := hL.l.frame (by omega : n ≤ N) hM
    have ho' := ho.frame (by omega : n ≤ N) hM
    have hjl : j < o.length := by omega
    obtain ⟨b, o1, c, opn, wr, i1, i2, i3, i4⟩ := ho'.cell hjl
    rw [List.drop_eq_getElem_cons hjl] at ht
    generalize hx : o[j] = x at i4 ht
    refine wr_loopN (L := ac19L0) (b := ac19L0b) rfl ?_
    simp only [ac19L0b]
    rw [place] at ht
    by_cases c1 : x < 0
    · rw [if_neg (by omega)] at ht
      simp (implicitDefEqProofs := false) (disch := omega) only [WPs, opds, List.all_cons, List.all_nil, List.cons_append, List.nil_append, cond_true, cond_false, eq_self, List.map_cons, List.map_nil, Nat.reduceAdd, Nat.testBit, Nat.reduceShiftRight, Nat.reduceAnd, Nat.reduceBNe, Nat.reduceMul, ho'.len, i1, i3, i4, hl.len]
      exact hQf ht.symm _ _ _ hw
    by_cases c2 : (cs.length : Int) ≤ x
    · rw [if_neg (by omega)] at ht
      simp (implicitDefEqProofs := false) (disch := omega) only [WPs, opds, List.all_cons, List.all_nil, List.cons_append, List.nil_append, cond_true, cond_false, eq_self, List.map_cons, List.map_nil, Nat.reduceAdd, Nat.testBit, Nat.reduceShiftRight, Nat.reduceAnd, Nat.reduceBNe, Nat.reduceMul, ho'.len, i1, i3, i4, hl.len]
      exact hQf ht.symm _ _ _ hw
    obtain ⟨k, rfl⟩ := Int.eq_ofNat_of_zero_le (by omega : 0 ≤ x)
    have hk : k < cs.length := by omega
    have hd := numsT_at pl hk
    rw [Int.toNat_natCast] at ht
    by_cases c3 : pl k = 0
    · rw [if_pos ⟨by omega, by omega, c3⟩] at ht
      rw [c3] at hd
      have hset := numsT_set (x := j + 1) pl hk
      simp (implicitDefEqProofs := false) (disch := omega) only [WPs, opds, List.all_cons, List.all_nil, List.cons_append, List.nil_append, cond_true, cond_false, eq_self, List.map_cons, List.map_nil, Nat.reduceAdd, Nat.testBit, Nat.reduceShiftRight, Nat.reduceAnd, Nat.reduceBNe, Nat.reduceMul, ho'.len, i1, i3, i4, hl.len, hn, hd, hset]
      refine wr_end' ((ih (j + 1) (by omega) (AMem.put M n (some (.cells (numsT cs.length (updF pl k (j + 1))) 1 false true))) (Nat.lor w0 (bit n)) (updF pl k (j + 1)) (fun b hb => by rw [fput_ne _ _ _ _ (by omega)]; exact hM b hb) (fput_same _ _ _) (by rw [frz_iff]; exact ⟨hw, frz_bit (by omega)⟩) ht _ _ _ _).mono fun X e m n w hq => ?_)
      rw [← lor_assoc']; exact hq
    · rw [if_neg (fun h => c3 h.2.2)] at ht
      simp (implicitDefEqProofs := false) (disch := omega) only [WPs, opds, List.all_cons, List.all_nil, List.cons_append, List.nil_append, cond_true, cond_false, eq_self, List.map_cons, List.map_nil, Nat.reduceAdd, Nat.testBit, Nat.reduceShiftRight, Nat.reduceAnd, Nat.reduceBNe, Nat.reduceMul, ho'.len, i1, i3, i4, hl.len, hn, hd]
      exact hQf ht.symm _ _ _ hw
theorem inOrd_L1 (m : FM) (n : Nat) (lv ov : Value) (cs : List (Cmd × Value)) (hL : Lst m n lv cs) (bf : Nat → Nat → Bool) (hB : Bef E Y 13 m n cs bf) (M : FM) (N : Nat) (pl : Nat → Nat) (hN : n < N) (hM : ∀ b, b < n → M b = m b) (hn : M n = some (.cells (numsT cs.length pl) 1 false true)) (cap : Nat)
    {Q : AX → List Value → FM → Nat → Nat → Prop} (k : Nat) (hk : k < cs.length) (y3 y4 y5 y7 y8 y9 y11 y12 : Value)
    (hQ1 : ((List.range k).all fun i => !(bf i k && decide (pl k < pl i))) = false → ∀ e', Q (.ret (.bool false)) e' M N 0)
    (hQ2 : ((List.range k).all fun i => !(bf i k && decide (pl k < pl i))) = true → ∀ e0 e1 e2, Q (.exit 4) [e0, e1, e2, y3, y4, y5, .int .i64 (k : Int), y7, y8, y9, .slice (some ⟨n, 0, none⟩) cs.length cap, y11, y12, lv, ov] M N 0) :
    ∀ d i, i + d = k → (∀ i', i' < i → (!(bf i' k && decide (pl k < pl i'))) = true) → ∀ y0 y2, Gv (execW PG E Y ac19L1 [y0, .int .i64 (i : Int), y2, y3, y4, y5, .int .i64 (k : Int), y7, y8, y9, .slice (some ⟨n, 0, none⟩) cs.length cap, y11, y12, lv, ov] M N) Q := by
  have hl := hL.l.frame (by omega : n ≤ N) hM
  have hs := hL.len
  intro d
  induction d with
  | zero =>
    intro i hi ha y0 y2
    refine wr_loopN (L := ac19L1) (b := ac19L1b) rfl ?_
    simp only [ac19L1b]
    simp (implicitDefEqProofs := false) (disch := omega) only [WPs, opds, List.all_cons, List.all_nil, List.cons_append, List.nil_append, cond_true, cond_false, eq_self, List.map_cons, List.map_nil, Nat.reduceAdd, Nat.testBit, Nat.reduceShiftRight, Nat.reduceAnd, Nat.reduceBNe, Nat.reduceMul]
    exact hQ2 (List.all_eq_true.2 fun k' hk' => ha k' (by have := List.mem_range.1 hk'; omega)) _ _ _
  | succ d ih =>
    intro i hi ha y0 y2
    have hil : i < cs.length := by omega
    have hdi := numsT_at pl hil
    have hdk := numsT_at pl hk
    obtain ⟨b, o, c, opn, wr, i1, i2, i3, i4, i5⟩ := hl.at' hil
    obtain ⟨b', o', c', opn', wr', j1, j2, j3, j4, j5⟩ := hl.at' hk
    refine wr_loopN (L := ac19L1) (b := ac19L1b) rfl ?_
    simp only [ac19L1b]
    simp (implicitDefEqProofs := false) (disch := omega) only [WPs, opds, List.all_cons, List.all_nil, List.cons_append, List.nil_append, cond_true, cond_false, eq_self, List.map_cons, List.map_nil, Nat.reduceAdd, Nat.testBit, Nat.reduceShiftRight, Nat.reduceAnd, Nat.reduceBNe, Nat.reduceMul, hl.bel, i1, i3, i4, j1, j3, j4, i5, j5]
    refine use_pureX (hB _ _ i k (by omega) hM hil hk) fun r2 => ?_
    have step : (!(bf i k && decide (pl k < pl i))) = true → ∀ i', i' < i + 1 → (!(bf i' k && decide (pl k < pl i'))) = true := fun h0 i' hi' => by
      rcases Nat.lt_or_ge i' i with h | h
      · exact ha i' h
      · rw [show i' = i by omega]; exact h0
    cases hb : bf i k
    · simp (implicitDefEqProofs := false) (disch := omega) only [WPs, opds, List.all_cons, List.all_nil, List.cons_append, List.nil_append, cond_true, cond_false, eq_self, List.map_cons, List.map_nil, Nat.reduceAdd, Nat.testBit, Nat.reduceShiftRight, Nat.reduceAnd, Nat.reduceBNe, Nat.reduceMul]
      exact wr_end' ((ih (i + 1) (by omega) (step (by rw [hb]; rfl)) _ _).mono fun X e m n w hq => by simpa only [zero_lor'] using hq)
    · by_cases hc : pl k < pl i
      · simp (implicitDefEqProofs := false) (disch := omega) only [WPs, opds, List.all_cons, List.all_nil, List.cons_append, List.nil_append, cond_true, cond_false, eq_self, List.map_cons, List.map_nil, Nat.reduceAdd, Nat.testBit, Nat.reduceShiftRight, Nat.reduceAnd, Nat.reduceBNe, Nat.reduceMul, hn, hdi, hdk]
        refine hQ1 ?_ _
        rw [← Bool.not_eq_true, List.all_eq_true]
        intro h
        have := h i (List.mem_range.2 (by omega))
        rw [hb, decide_eq_true hc] at this; cases this
      · simp (implicitDefEqProofs := false) (disch := omega) only [WPs, opds, List.all_cons, List.all_nil, List.cons_append, List.nil_append, cond_true, cond_false, eq_self, List.map_cons, List.map_nil, Nat.reduceAdd, Nat.testBit, Nat.reduceShiftRight, Nat.reduceAnd, Nat.reduceBNe, Nat.reduceMul, hn, hdi, hdk]
        exact wr_end' ((ih (i + 1) (by omega) (step (by rw [hb, decide_eq_false hc]; rfl)) _ _).mono fun X e m n w hq => by simpa only [zero_lor'] using hq)
theorem inOrd_L2 (m : FM) (n : Nat) (lv ov : Value) (cs : List (Cmd × Value)) (hL : Lst m n lv cs) (bf : Nat → Nat → Bool) (hB : Bef E Y 13 m n cs bf) (M : FM) (N : Nat) (pl : Nat → Nat) (hN : n < N) (hM : ∀ b, b < n → M b = m b) (hn : M n = some (.cells (numsT cs.length pl) 1 false true)) (cap : Nat)
    {Q : AX → List Value → FM → Nat → Nat → Prop}
    (hQ1 : inOrder bf cs.length pl = false → ∀ e', Q (.ret (.bool false)) e' M N 0) (hQ2 : inOrder bf cs.length pl = true → ∀ e', Q (.exit 2) e' M N 0) :
    ∀ d k, k + d = cs.length → (∀ k', k' < k → ((List.range k').all fun i => !(bf i k' && decide (pl k' < pl i))) = true) → ∀ (x0 x2 x3 x4 x6 x7 : Value),
    Gv (execW PG E Y ac19L2 [x0, .int .i64 (k : Int), x2, x3, x4, .slice (some ⟨n, 0, none⟩) cs.length cap, x6, x7, lv, ov] M N) Q := by
  have hl := hL.l.frame (by omega : n ≤ N) hM
  have hs := hL.len
  intro d
  induction d with
  | zero =>
    intro k hk ha x0 x2 x3 x4 x6 x7
    refine wr_loopN (L := ac19L2) (b := ac19L2b) rfl ?_
    simp only [ac19L2b]
    simp (implicitDefEqProofs := false) (disch := omega) only [WPs, opds, List.all_cons, List.all_nil, List.cons_append, List.nil_append, cond_true, cond_false, eq_self, List.map_cons, List.map_nil, Nat.reduceAdd, Nat.testBit, Nat.reduceShiftRight, Nat.reduceAnd, Nat.reduceBNe, Nat.reduceMul, hl.len]
    exact hQ2 (List.all_eq_true.2 fun k' hk' => ha k' (by have := List.mem_range.1 hk'; omega)) _
  | succ d ih =>
    intro k hk ha x0 x2 x3 x4 x6 x7
    refine wr_loopN (L := ac19L2) (b := ac19L2b) rfl ?_
    simp only [ac19L2b]
    simp (implicitDefEqProofs := false) (disch := omega) only [WPs, opds, List.all_cons, List.all_nil, List.cons_append, List.nil_append, cond_true, cond_false, eq_self, List.map_cons, List.map_nil, Nat.reduceAdd, Nat.testBit, Nat.reduceShiftRight, Nat.reduceAnd, Nat.reduceBNe, Nat.reduceMul, hl.len]
    refine wr_cps (inOrd_L1 m n lv ov cs hL bf hB M N pl hN hM hn cap k (by omega) _ _ _ _ _ _ _ _ (fun hf e' r => ?_) (fun hf e0 e1 e2 r => ?_) k 0 (by omega) (fun i hi => by omega) _ _)
    · simp (implicitDefEqProofs := false) (disch := omega) only [WPs, opds, List.all_cons, List.all_nil, List.cons_append, List.nil_append, cond_true, cond_false, eq_self, List.map_cons, List.map_nil, Nat.reduceAdd, Nat.testBit, Nat.reduceShiftRight, Nat.reduceAnd, Nat.reduceBNe, Nat.reduceMul]
      refine hQ1 ?_ _
      rw [← Bool.not_eq_true, inOrder, List.all_eq_true]
      intro h
      have := h k (List.mem_range.2 (by omega))
      rw [hf] at this; cases this
    · simp (implicitDefEqProofs := false) (disch := omega) only [WPs, opds, List.all_cons, List.all_nil, List.cons_append, List.nil_append, cond_true, cond_false, eq_self, List.map_cons, List.map_nil, Nat.reduceAdd, Nat.testBit, Nat.reduceShiftRight, Nat.reduceAnd, Nat.reduceBNe, Nat.reduceMul]
      exact wr_end' ((ih (k + 1) (by omega) (fun k' hk' => by
        rcases Nat.lt_or_ge k' k with h | h
        · exact ha k' h
        · rw [show k' = k by omega]; exact hf) _ _ _ _ _ _).mono fun X e m n w hq => by simpa only [zero_lor'] using hq)
theorem refResp_spec (hE : E 19 = some ac19) (m : FM) (n : Nat) (lv ov : Value) (cs : List (Cmd × Value)) (o : List Int) (hL : Lst m n lv cs) (ho : Ints m n ov o) (hos : o.length ≤ 9223372036854775806) (bf : Nat → Nat → Bool) (hB : Bef E Y 13 m n cs bf) :
    Pure (callW PG E Y 19 [lv, ov] m n) m n (.bool (respects bf cs.length o)) := by
  rw [respects_ref]
  refine pure_spec hE rfl rfl ?_
  have hs := hL.len
  simp only [ac19]
  by_cases h : o.length = cs.length
  · simp (implicitDefEqProofs := false) (disch := omega) only [WPs, opds, List.all_cons, List.all_nil, List.cons_append, List.nil_append, cond_true, cond_false, eq_self, List.map_cons, List.map_nil, Nat.reduceAdd, Nat.testBit, Nat.reduceShiftRight, Nat.reduceAnd, Nat.reduceBNe, Nat.reduceMul, hL.l.len, ho.len]
    have key := place_L0 (E := E) (Y := Y) m n lv ov cs o hL ho hos (n + 1) (by omega) (place cs.length o 0 (fun _ => 0)) cs.length
      (Q := fun X e M N w => ∀ r, Wr PG E Y [Frm.bl 0, Frm.sq (((AC.reg [AI.op (AOp.mov (Opd.c (Value.int IntKind.i64 0)))]).seq (AC.block 2 [[4], [], [], [], [17, 5], [14], [], [0, 12, 15], [1, 10]] (AC.pre [1, 0] 0 ac19L2))).seq ((AC.reg [AI.op (AOp.mov (Opd.c (Value.bool true)))]).seq (AC.ret [ROp.v 0])))] (bit n) (.ok X e M N r w) fun X x x_1 x_2 w => X = AX.ret (Value.bool (refResp bf cs.length o)) ∧ w.mod (bit n) = 0)
      (fun pl hp e0 e1 e2 e3 M w hM hn hw r => by
        simp (implicitDefEqProofs := false) (disch := omega) only [WPs, opds, List.all_cons, List.all_nil, List.cons_append, List.nil_append, cond_true, cond_false, eq_self, List.map_cons, List.map_nil, Nat.reduceAdd, Nat.testBit, Nat.reduceShiftRight, Nat.reduceAnd, Nat.reduceBNe, Nat.reduceMul]
        have hr : refResp bf cs.length o = inOrder bf cs.length pl := by rw [refResp, hp, h]; simp
        refine wr_cps (inOrd_L2 m n lv ov cs hL bf hB M (n + 1) pl (by omega) hM hn cs.length (fun ht e' r => ?_) (fun ht e' r => ?_) cs.length 0 (by omega) (fun i hi => by omega) _ _ _ _ _ _)
        · simp (implicitDefEqProofs := false) (disch := omega) only [WPs, opds, List.all_cons, List.all_nil, List.cons_append, List.nil_append, cond_true, cond_false, eq_self, List.map_cons, List.map_nil, Nat.reduceAdd, Nat.testBit, Nat.reduceShiftRight, Nat.reduceAnd, Nat.reduceBNe, Nat.reduceMul, hw, hr, ht]
        · simp (implicitDefEqProofs := false) (disch := omega) only [WPs, opds, List.all_cons, List.all_nil, List.cons_append, List.nil_append, cond_true, cond_false, eq_self, List.map_cons, List.map_nil, Nat.reduceAdd, Nat.testBit, Nat.reduceShiftRight, Nat.reduceAnd, Nat.reduceBNe, Nat.reduceMul, hw, hr, ht])
      (fun ht e' M w hw r => by
        have hr : refResp bf cs.length o = false := by rw [refResp, ht, h]; simp
        simp (implicitDefEqProofs := false) (disch := omega) only [WPs, opds, List.all_cons, List.all_nil, List.cons_append, List.nil_append, cond_true, cond_false, eq_self, List.map_cons, List.map_nil, Nat.reduceAdd, Nat.testBit, Nat.reduceShiftRight, Nat.reduceAnd, Nat.reduceBNe, Nat.reduceMul, hw, hr]) o.length 0 (by omega) (AMem.put m n (some (.cells (List.replicate cs.length (.int .i64 0)) 1 false true))) 0 (fun _ => 0) (fun b hb => fput_ne _ _ _ _ (by omega)) (by rw [numsT_rep]; exact fput_same _ _ _) (Nat.zero_mod _) rfl (.bool false) (.int .i64 0) (.bool false) (.bool false)
    exact wr_cps (key.mono fun X e m n w hq r => by simpa only [zero_lor'] using hq r)
  · have hr : refResp bf cs.length o = false := by rw [refResp, decide_eq_false h]; rfl
    simp (implicitDefEqProofs := false) (disch := omega) only [WPs, opds, List.all_cons, List.all_nil, List.cons_append, List.nil_append, cond_true, cond_false, eq_self, List.map_cons, List.map_nil, Nat.reduceAdd, Nat.testBit, Nat.reduceShiftRight, Nat.reduceAnd, Nat.reduceBNe, Nat.reduceMul, hL.l.len, ho.len, hr]
end Go.Am.C40
namespace Go.Am.C40
open Go Go.Am C40q
variable {E : Nat → Option AFn} {Y : Nat → List Value → FM → Nat → OR FM}
theorem ltB_nat (a b : Nat) : ltB (a : Int) (b : Int) = decide (a < b) := by
  show Nat.blt a b = _
  cases h : Nat.blt a b
  · exact (decide_eq_false fun h1 => by rw [show Nat.blt a b = true from Nat.ble_eq_true_of_le h1] at h; cases h).symm
  · exact (decide_eq_true (Nat.le_of_ble_eq_true h)).symm
theorem mx_nat (a b : Nat) : mxV (.int .i64 (a : Int)) (.int .i64 (b : Int)) = some (.int .i64 ((max a b : Nat) : Int)) := by
  show some (Value.int .i64 (cond (ltB (a : Int) (b : Int)) (b : Int) (a : Int))) = _
  rw [ltB_nat]
  by_cases h : a < b
  · rw [decide_eq_true h, show max a b = b by omega]; rfl
  · rw [decide_eq_false h, show max a b = a by omega]; rfl
def levF (bf : Nat → Nat → Bool) (i k : Nat) : Nat → Nat := updF (levs bf i) i (pm bf (levs bf i) i k)
theorem levF_start (bf : Nat → Nat → Bool) (i : Nat) : levF bf i 0 = levs bf i := by
  funext x
  by_cases h : x = i
  · subst h; rw [levF, updF_same, levs_out (Nat.le_refl _)]; rfl
  · rw [levF, updF_ne _ _ h]
theorem levF_end (bf : Nat → Nat → Bool) (i : Nat) : levF bf i i = levs bf (i + 1) := rfl
theorem levF_i (bf : Nat → Nat → Bool) (i k : Nat) : levF bf i k i = pm bf (levs bf i) i k := updF_same _ _ _
theorem levF_k (bf : Nat → Nat → Bool) {i k : Nat} (h : k < i) : levF bf i k k = levs bf i k := updF_ne _ _ (by omega)
theorem levF_stay {bf : Nat → Nat → Bool} {i k : Nat} (h : bf k i = false) : levF bf i (k + 1) = levF bf i k := by
  simp only [levF, pm, h]; rfl
theorem levF_step {bf : Nat → Nat → Bool} {i k : Nat} (h : bf k i = true) : levF bf i (k + 1) = updF (levF bf i k) i (max (pm bf (levs bf i) i k) (levs bf i k + 1)) := by
  funext x
  by_cases hx : x = i
  · subst hx; rw [updF_same, levF_i]; simp only [pm, h, if_true]
  · rw [levF, levF, updF_ne _ _ hx, updF_ne _ _ hx, updF_ne _ _ hx]
theorem lev_L0 (m : FM) (n : Nat) (lv : Value) (cs : List (Cmd × Value)) (hL : Lst m n lv cs) (bf : Nat → Nat → Bool) (hB : Bef E Y 12 m n cs bf) (N : Nat) (hN : n < N) (cap : Nat) (i : Nat) (hi : i < cs.length)
    {Q : AX → List Value → FM → Nat → Nat → Prop} (x4 x5 x7 : Value) (hQ : ∀ M w, (∀ b, b < n → M b = m b) → M n = some (.cells (numsT cs.length (levs bf (i + 1))) 1 false true) → Nat.mod w (bit n) = 0 → ∀ x0 x1 x2, Q (.exit 2) [x0, x1, x2, .int .i64 (i : Int), x4, x5, .slice (some ⟨n, 0, none⟩) cs.length cap, x7, lv] M N w) :
    ∀ d k, k + d = i → ∀ (M : FM) (w0 : Nat) (hM : ∀ b, b < n → M b = m b) (hn : M n = some (.cells (numsT cs.length (levF bf i k)) 1 false true)) (hw : Nat.mod w0 (bit n) = 0) (x1 x2 : Value),
    Gv (execW PG E Y ac20L0 [.int .i64 (k : Int), x1, x2, .int .i64 (i : Int), x4, x5, .slice (some ⟨n, 0, none⟩) cs.length cap, x7, lv] M N) fun X e m n w => Q X e m n (Nat.lor w0 w) := by
  have hs := hL.len
  intro d
  induction d with
  | zero =>
    intro k hk M w0 hM hn hw x1 x2
    obtain rfl : k = i := by omega
    have hl := hL.l.frame (by omega : n ≤ N) hM
    refine wr_loopN (L := ac20L0) (b := ac20L0b) rfl ?_
    simp only [ac20L0b]
    simp (implicitDefEqProofs := false) (disch := omega) only [WPs, opds, List.all_cons, List.all_nil, List.cons_append, List.nil_append, cond_true, cond_false, eq_self, List.map_cons, List.map_nil, Nat.reduceAdd, Nat.testBit, Nat.reduceShiftRight, Nat.reduceAnd, Nat.reduceBNe, Nat.reduceMul]
    exact hQ _ _ hM hn hw _ _ _
  | succ d ih =>
    intro k hk M w0 hM hn hw x1 x2
    have hl := hL.l.frame (by omega : n ≤ N) hM
    have hkl : k < cs.length := by omega
    obtain ⟨b, o, c, opn, wr, i1, i2, i3, i4, i5⟩ := hl.at' hkl
    obtain ⟨b', o', c', opn', wr', j1, j2, j3, j4, j5⟩ := hl.at' hi
    refine wr_loopN (L := ac20L0) (b := ac20L0b) rfl ?_
    simp only [ac20L0b]
    simp (implicitDefEqProofs := false) (disch := omega) only [WPs, opds, List.all_cons, List.all_nil, List.cons_append, List.nil_append, cond_true, cond_false, eq_self, List.map_cons, List.map_nil, Nat.reduceAdd, Nat.testBit, Nat.reduceShiftRight, Nat.reduceAnd, Nat.reduceBNe, Nat.reduceMul, hl.bel, i1, i3, i4, j1, j3, j4, i5, j5]
    refine use_pureX (hB _ _ k i (by omega) hM hkl hi) fun r2 => ?_
    cases hb : bf k i
    · simp (implicitDefEqProofs := false) (disch := omega) only [WPs, opds, List.all_cons, List.all_nil, List.cons_append, List.nil_append, cond_true, cond_false, eq_self, List.map_cons, List.map_nil, Nat.reduceAdd, Nat.testBit, Nat.reduceShiftRight, Nat.reduceAnd, Nat.reduceBNe, Nat.reduceMul]
      exact wr_end' ((ih (k + 1) (by omega) M w0 hM (by rw [levF_stay hb]; exact hn) hw _ _).mono fun X e m n w hq => by simpa only [zero_lor'] using hq)
    · have h1 := numsT_at (levF bf i k) hkl
      have h2 := numsT_at (levF bf i k) hi
      rw [levF_k bf (by omega)] at h1
      rw [levF_i] at h2
      have h3 := levs_le (bf := bf) i k
      have h4 := pm_le (bf := bf) (L := levs bf i) (i := i) (fun k _ => levs_le i k) (j := k) (by omega)
      have h5 := numsT_set (x := max (pm bf (levs bf i) i k) (levs bf i k + 1)) (levF bf i k) hi
      rw [← levF_step hb] at h5
      simp (implicitDefEqProofs := false) (disch := omega) only [WPs, opds, List.all_cons, List.all_nil, List.cons_append, List.nil_append, cond_true, cond_false, eq_self, List.map_cons, List.map_nil, Nat.reduceAdd, Nat.testBit, Nat.reduceShiftRight, Nat.reduceAnd, Nat.reduceBNe, Nat.reduceMul, hn, h1, h2, mx_nat, h5]
      refine wr_end' ((ih (k + 1) (by omega) (AMem.put M n (some (.cells (numsT cs.length (levF bf i (k + 1))) 1 false true))) (Nat.lor w0 (bit n)) (fun b hb => by rw [fput_ne _ _ _ _ (by omega)]; exact hM b hb) (fput_same _ _ _) (by rw [frz_iff]; exact ⟨hw, frz_bit (by omega)⟩) _ _).mono fun X e m n w hq => ?_)
      rw [← lor_assoc']; exact hq
theorem lev_L1 (m : FM) (n : Nat) (lv : Value) (cs : List (Cmd × Value)) (hL : Lst m n lv cs) (bf : Nat → Nat → Bool) (hB : Bef E Y 12 m n cs bf) (N : Nat) (hN : n < N) (cap : Nat)
    {Q : AX → List Value → FM → Nat → Nat → Prop} (x4 : Value) (hQ : ∀ M w, (∀ b, b < n → M b = m b) → M n = some (.cells (numsT cs.length (levs bf cs.length)) 1 false true) → Nat.mod w (bit n) = 0 → ∀ x0 x1 : Value, Q (.exit 0) [x0, x1, .slice (some ⟨n, 0, none⟩) cs.length cap, x4, lv] M N w) :
    ∀ d j, j + d = cs.length → ∀ (M : FM) (w0 : Nat) (hM : ∀ b, b < n → M b = m b) (hn : M n = some (.cells (numsT cs.length (levs bf j)) 1 false true)) (hw : Nat.mod w0 (bit n) = 0) (x1 : Value),
    Gv (execW PG E Y ac20L1 [.int .i64 (j : Int), x1, .int .i64 (cs.length : Int), .slice (some ⟨n, 0, none⟩) cs.length cap, x4, lv] M N) fun X e m n w => Q X e m n (Nat.lor w0 w) := by
  have hs := hL.len
  intro d
  induction d with
  | zero =>
    intro j hj M w0 hM hn hw x1
    obtain rfl : j = cs.length := by omega
    have hl := hL.l.frame (by omega : n ≤ N) hM
    refine wr_loopN (L := ac20L1) (b := ac20L1b) rfl ?_
    simp only [ac20L1b]
    simp (implicitDefEqProofs := false) (disch := omega) only [WPs, opds, List.all_cons, List.all_nil, List.cons_append, List.nil_append, cond_true, cond_false, eq_self, List.map_cons, List.map_nil, Nat.reduceAdd, Nat.testBit, Nat.reduceShiftRight, Nat.reduceAnd, Nat.reduceBNe, Nat.reduceMul, hl.len]
    exact hQ _ _ hM hn hw _ _
  | succ d ih =>
    intro j hj M w0 hM hn hw x1
    have hl := hL.l.frame (by omega : n ≤ N) hM
    refine wr_loopN (L := ac20L1) (b := ac20L1b) rfl ?_
    simp only [ac20L1b]
    simp (implicitDefEqProofs := false) (disch := omega) only [WPs, opds, List.all_cons, List.all_nil, List.cons_append, List.nil_append, cond_true, cond_false, eq_self, List.map_cons, List.map_nil, Nat.reduceAdd, Nat.testBit, Nat.reduceShiftRight, Nat.reduceAnd, Nat.reduceBNe, Nat.reduceMul, hl.len]
    have key := lev_L0 (E := E) (Y := Y) m n lv cs hL bf hB N hN cap j (by omega) (Q := fun X e M N w => ∀ r, Wr PG E Y [Frm.bl 2, Frm.ps [] 2, Frm.bl 1, Frm.sq (AC.reg [AI.op (AOp.bin BinOp.add 3 (Opd.v 1) (Opd.c (Value.int IntKind.i64 1))), AI.nop 0]), Frm.ps [0] 3, Frm.sq ac20L1] 0 (.ok X e M N r w) fun X e m n w => Q X e m n (Nat.lor w0 w))
    refine wr_cps ((key _ _ _ (fun M' w' hM' hn' hw' z0 z1 z2 r => ?_) j 0 (by omega) M 0 hM (by rw [levF_start]; exact hn) (Nat.zero_mod _) _ _).mono fun X e m n w hq r => by simpa only [zero_lor'] using hq r)
    simp (implicitDefEqProofs := false) (disch := omega) only [WPs, opds, List.all_cons, List.all_nil, List.cons_append, List.nil_append, cond_true, cond_false, eq_self, List.map_cons, List.map_nil, Nat.reduceAdd, Nat.testBit, Nat.reduceShiftRight, Nat.reduceAnd, Nat.reduceBNe, Nat.reduceMul]
    refine wr_end' ((ih (j + 1) (by omega) M' (Nat.lor w0 w') hM' hn' (by rw [frz_iff]; exact ⟨hw, hw'⟩) _).mono fun X e m n w hq => ?_)
    rw [← lor_assoc']; exact hq
theorem levels_spec (hE : E 20 = some ac20) (m : FM) (n : Nat) (lv : Value) (cs : List (Cmd × Value)) (hL : Lst m n lv cs) (bf : Nat → Nat → Bool) (hB : Bef E Y 12 m n cs bf) :
    Rt (callW PG E Y 20 [lv] m n) fun v m' n' w => n ≤ n' ∧ (∀ b, b < n → m' b = m b) ∧ (∀ j, j ≤ n → Nat.mod w (bit j) = 0) ∧ Ints m' n' v (natsI (tbl cs.length (levs bf cs.length))) := by
  refine kept_specA hE rfl fun Q hQ => ?_
  have hs := hL.len
  simp only [ac20]
  simp (implicitDefEqProofs := false) (disch := omega) only [WPs, opds, List.all_cons, List.all_nil, List.cons_append, List.nil_append, cond_true, cond_false, eq_self, List.map_cons, List.map_nil, Nat.reduceAdd, Nat.testBit, Nat.reduceShiftRight, Nat.reduceAnd, Nat.reduceBNe, Nat.reduceMul, hL.l.len]
  have key := lev_L1 (E := E) (Y := Y) m n lv cs hL bf hB (n + 1) (by omega) cs.length (Q := fun X e M N w => ∀ r, Wr PG E Y [Frm.bl 0, Frm.sq ((AC.reg [AI.nop 2, AI.nop 2]).seq (AC.ret [ROp.v 2]))] (bit n) (.ok X e M N r w) Q) (.slice none 0 0) (fun M w hM hn hw x0 x1 r => by
      simp (implicitDefEqProofs := false) (disch := omega) only [WPs, opds, List.all_cons, List.all_nil, List.cons_append, List.nil_append, cond_true, cond_false, eq_self, List.map_cons, List.map_nil, Nat.reduceAdd, Nat.testBit, Nat.reduceShiftRight, Nat.reduceAnd, Nat.reduceBNe, Nat.reduceMul]
      exact hQ _ _ _ _ _ (by omega) hM (by rw [frz_iff]; exact ⟨frz_bit (by omega), hw⟩) (fun _ => numsT_ints (by omega) hn) (fun hv => by cases hv)) cs.length 0 (by omega) (AMem.put m n (some (.cells (List.replicate cs.length (.int .i64 0)) 1 false true))) 0 (fun b hb => fput_ne _ _ _ _ (by omega)) (by rw [numsT_rep]; exact fput_same _ _ _) (Nat.zero_mod _) (.int .i64 0)
  exact wr_cps (key.mono fun X e m n w hq r => by simpa only [zero_lor'] using hq r)
theorem refLev_L0 (m : FM) (n : Nat) (lv : Value) (cs : List (Cmd × Value)) (hL : Lst m n lv cs) (bf : Nat → Nat → Bool) (hB : Bef E Y 13 m n cs bf) (N : Nat) (hN : n < N) (cap : Nat) (i : Nat) (hi : i < cs.length)
    {Q : AX → List Value → FM → Nat → Nat → Prop} (x3 x5 x7 : Value) (hQ : ∀ M w, (∀ b, b < n → M b = m b) → M n = some (.cells (numsT cs.length (levs bf (i + 1))) 1 false true) → Nat.mod w (bit n) = 0 → ∀ x0 x1 x2, Q (.exit 2) [x0, x1, x2, x3, .int .i64 (i : Int), x5, .slice (some ⟨n, 0, none⟩) cs.length cap, x7, lv] M N w) :
    ∀ d k, k + d = i → ∀ (M : FM) (w0 : Nat) (hM : ∀ b, b < n → M b = m b) (hn : M n = some (.cells (numsT cs.length (levF bf i k)) 1 false true)) (hw : Nat.mod w0 (bit n) = 0) (x1 x2 : Value),
    Gv (execW PG E Y ac21L0 [.int .i64 (k : Int), x1, x2, x3, .int .i64 (i : Int), x5, .slice (some ⟨n, 0, none⟩) cs.length cap, x7, lv] M N) fun X e m n w => Q X e m n (Nat.lor w0 w) := by
  have hs := hL.len
  intro d
  induction d with
  | zero =>
    intro k hk M w0 hM hn hw x1 x2
    obtain rfl : k = i := by omega
    have hl := hL.l.frame (by omega : n ≤ N) hM
    refine wr_loopN (L := ac21L0) (b := ac21L0b) rfl ?_
    simp only [ac21L0b]
    simp (implicitDefEqProofs := false) (disch := omega) only [WPs, opds, List.all_cons, List.all_nil, List.cons_append, List.nil_append, cond_true, cond_false, eq_self, List.map_cons, List.map_nil, Nat.reduceAdd, Nat.testBit, Nat.reduceShiftRight, Nat.reduceAnd, Nat.reduceBNe, Nat.reduceMul]
    exact hQ _ _ hM hn hw _ _ _
  | succ d ih =>
    intro k hk M w0 hM hn hw x1 x2
    have hl := hL.l.frame (by omega : n ≤ N) hM
    have hkl : k < cs.length := by omega
    obtain ⟨b, o, c, opn, wr, i1, i2, i3, i4, i5⟩ := hl.at' hkl
    obtain ⟨b', o', c', opn', wr', j1, j2, j3, j4, j5⟩ := hl.at' hi
    refine wr_loopN (L := ac21L0) (b := ac21L0b) rfl ?_
    simp only [ac21L0b]
    simp (implicitDefEqProofs := false) (disch := omega) only [WPs, opds, List.all_cons, List.all_nil, List.cons_append, List.nil_append, cond_true, cond_false, eq_self, List.map_cons, List.map_nil, Nat.reduceAdd, Nat.testBit, Nat.reduceShiftRight, Nat.reduceAnd, Nat.reduceBNe, Nat.reduceMul, hl.bel, i1, i3, i4, j1, j3, j4, i5, j5]
    refine use_pureX (hB _ _ k i (by omega) hM hkl hi) fun r2 => ?_
    cases hb : bf k i
    · simp (implicitDefEqProofs := false) (disch := omega) only [WPs, opds, List.all_cons, List.all_nil, List.cons_append, List.nil_append, cond_true, cond_false, eq_self, List.map_cons, List.map_nil, Nat.reduceAdd, Nat.testBit, Nat.reduceShiftRight, Nat.reduceAnd, Nat.reduceBNe, Nat.reduceMul]
      exact wr_end' ((ih (k + 1) (by omega) M w0 hM (by rw [levF_stay hb]; exact hn) hw _ _).mono fun X e m n w hq => by simpa only [zero_lor'] using hq)
    · have h1 := numsT_at (levF bf i k) hkl
      have h2 := numsT_at (levF bf i k) hi
      rw [levF_k bf (by omega)] at h1
      rw [levF_i] at h2
      have h3 := levs_le (bf := bf) i k
      have h4 := pm_le (bf := bf) (L := levs bf i) (i := i) (fun k _ => levs_le i k) (j := k) (by omega)
      have h5 := numsT_set (x := max (pm bf (levs bf i) i k) (levs bf i k + 1)) (levF bf i k) hi
      rw [← levF_step hb] at h5
      simp (implicitDefEqProofs := false) (disch := omega) only [WPs, opds, List.all_cons, List.all_nil, List.cons_append, List.nil_append, cond_true, cond_false, eq_self, List.map_cons, List.map_nil, Nat.reduceAdd, Nat.testBit, Nat.reduceShiftRight, Nat.reduceAnd, Nat.reduceBNe, Nat.reduceMul, hn, h1, h2, mx_nat, h5]
      refine wr_end' ((ih (k + 1) (by omega) (AMem.put M n (some (.cells (numsT cs.length (levF bf i (k + 1))) 1 false true))) (Nat.lor w0 (bit n)) (fun b hb => by rw [fput_ne _ _ _ _ (by omega)]; exact hM b hb) (fput_same _ _ _) (by rw [frz_iff]; exact ⟨hw, frz_bit (by omega)⟩) _ _).mono fun X e m n w hq => ?_)
      rw [← lor_assoc']; exact hq
theorem refLev_L1 (m : FM) (n : Nat) (lv : Value) (cs : List (Cmd × Value)) (hL : Lst m n lv cs) (bf : Nat → Nat → Bool) (hB : Bef E Y 13 m n cs bf) (N : Nat) (hN : n < N) (cap : Nat)
    {Q : AX → List Value → FM → Nat → Nat → Prop} (x4 : Value) (hQ : ∀ M w, (∀ b, b < n → M b = m b) → M n = some (.cells (numsT cs.length (levs bf cs.length)) 1 false true) → Nat.mod w (bit n) = 0 → ∀ x0 x1 : Value, Q (.exit 0) [x0, .slice (some ⟨n, 0, none⟩) cs.length cap, x4, lv] M N w) :
    ∀ d j, j + d = cs.length → ∀ (M : FM) (w0 : Nat) (hM : ∀ b, b < n → M b = m b) (hn : M n = some (.cells (numsT cs.length (levs bf j)) 1 false true)) (hw : Nat.mod w0 (bit n) = 0) (x1 : Value),
    Gv (execW PG E Y ac21L1 [.int .i64 (j : Int), x1, .slice (some ⟨n, 0, none⟩) cs.length cap, x4, lv] M N) fun X e m n w => Q X e m n (Nat.lor w0 w) := by
  have hs := hL.len
  intro d
  induction d with
  | zero =>
    intro j hj M w0 hM hn hw x1
    obtain rfl : j = cs.length := by omega
    have hl := hL.l.frame (by omega : n ≤ N) hM
    refine wr_loopN (L := ac21L1) (b := ac21L1b) rfl ?_
    simp only [ac21L1b]
    simp (implicitDefEqProofs := false) (disch := omega) only [WPs, opds, List.all_cons, List.all_nil, List.cons_append, List.nil_append, cond_true, cond_false, eq_self, List.map_cons, List.map_nil, Nat.reduceAdd, Nat.testBit, Nat.reduceShiftRight, Nat.reduceAnd, Nat.reduceBNe, Nat.reduceMul, hl.len]
    exact hQ _ _ hM hn hw _ (.bool true)
  | succ d ih =>
    intro j hj M w0 hM hn hw x1
    have hl := hL.l.frame (by omega : n ≤ N) hM
    refine wr_loopN (L := ac21L1) (b := ac21L1b) rfl ?_
    simp only [ac21L1b]
    simp (implicitDefEqProofs := false) (disch := omega) only [WPs, opds, List.all_cons, List.all_nil, List.cons_append, List.nil_append, cond_true, cond_false, eq_self, List.map_cons, List.map_nil, Nat.reduceAdd, Nat.testBit, Nat.reduceShiftRight, Nat.reduceAnd, Nat.reduceBNe, Nat.reduceMul, hl.len]
    have key := refLev_L0 (E := E) (Y := Y) m n lv cs hL bf hB N hN cap j (by omega) (Q := fun X e M N w => ∀ r, Wr PG E Y [Frm.bl 2, Frm.ps [] 2, Frm.bl 1, Frm.sq (AC.reg [AI.nop 2, AI.op (AOp.bin BinOp.add 3 (Opd.v 2) (Opd.c (Value.int IntKind.i64 1))), AI.nop 0]), Frm.ps [0] 4, Frm.sq ac21L1] 0 (.ok X e M N r w) fun X e m n w => Q X e m n (Nat.lor w0 w))
    refine wr_cps ((key _ _ _ (fun M' w' hM' hn' hw' z0 z1 z2 r => ?_) j 0 (by omega) M 0 hM (by rw [levF_start]; exact hn) (Nat.zero_mod _) _ _).mono fun X e m n w hq r => by simpa only [zero_lor'] using hq r)
    simp (implicitDefEqProofs := false) (disch := omega) only [WPs, opds, List.all_cons, List.all_nil, List.cons_append, List.nil_append, cond_true, cond_false, eq_self, List.map_cons, List.map_nil, Nat.reduceAdd, Nat.testBit, Nat.reduceShiftRight, Nat.reduceAnd, Nat.reduceBNe, Nat.reduceMul]
    refine wr_end' ((ih (j + 1) (by omega) M' (Nat.lor w0 w') hM' hn' (by rw [frz_iff]; exact ⟨hw, hw'⟩) _).mono fun X e m n w hq => ?_)
    rw [← lor_assoc']; exact hq
theorem refLevels_spec (hE : E 21 = some ac21) (m : FM) (n : Nat) (lv : Value) (cs : List (Cmd × Value)) (hL : Lst m n lv cs) (bf : Nat → Nat → Bool) (hB : Bef E Y 13 m n cs bf) :
    Rt (callW PG E Y 21 [lv] m n) fun v m' n' w => n ≤ n' ∧ (∀ b, b < n → m' b = m b) ∧ (∀ j, j ≤ n → Nat.mod w (bit j) = 0) ∧ Ints m' n' v (natsI (tbl cs.length (levs bf cs.length))) := by
  refine kept_specA hE rfl fun Q hQ => ?_
  have hs := hL.len
  simp only [ac21]
  simp (implicitDefEqProofs := false) (disch := omega) only [WPs, opds, List.all_cons, List.all_nil, List.cons_append, List.nil_append, cond_true, cond_false, eq_self, List.map_cons, List.map_nil, Nat.reduceAdd, Nat.testBit, Nat.reduceShiftRight, Nat.reduceAnd, Nat.reduceBNe, Nat.reduceMul, hL.l.len]
  have key := refLev_L1 (E := E) (Y := Y) m n lv cs hL bf hB (n + 1) (by omega) cs.length (Q := fun X e M N w => ∀ r, Wr PG E Y [Frm.bl 0, Frm.sq ((AC.reg [AI.nop 1, AI.nop 1]).seq (AC.ret [ROp.v 1]))] (bit n) (.ok X e M N r w) Q) (.slice none 0 0) (fun M w hM hn hw x0 x1 r => by
      simp (implicitDefEqProofs := false) (disch := omega) only [WPs, opds, List.all_cons, List.all_nil, List.cons_append, List.nil_append, cond_true, cond_false, eq_self, List.map_cons, List.map_nil, Nat.reduceAdd, Nat.testBit, Nat.reduceShiftRight, Nat.reduceAnd, Nat.reduceBNe, Nat.reduceMul]
      exact hQ _ _ _ _ _ (by omega) hM (by rw [frz_iff]; exact ⟨frz_bit (by omega), hw⟩) (fun _ => numsT_ints (by omega) hn) (fun hv => by cases hv)) cs.length 0 (by omega) (AMem.put m n (some (.cells (List.replicate cs.length (.int .i64 0)) 1 false true))) 0 (fun b hb => fput_ne _ _ _ _ (by omega)) (by rw [numsT_rep]; exact fput_same _ _ _) (Nat.zero_mod _) (.int .i64 0)
  exact wr_cps (key.mono fun X e m n w hq r => by simpa only [zero_lor'] using hq r)
end Go.Am.C40
namespace Go.Am.C40
open Go Go.Am
variable {E : Nat → Option AFn} {Y : Nat → List Value → FM → Nat → OR FM}
def HeadP (c : Cmd) : Prop := 0 ≤ c.tag ∧ c.tag ≤ 2147483647 ∧ (c.ord = 0 ∨ c.ord = 1)
def K1 (c : Cmd) : Prop := NameP c.vol ∧ c.oth = ⟨#[]⟩ ∧ c.data = [] ∧ c.force = false ∧ insideP c.at_ c.len ∧ c.len ≤ 16
def K2 (c : Cmd) : Prop := NameP c.vol ∧ c.oth = ⟨#[]⟩ ∧ insideP c.at_ c.len ∧ c.len ≤ 16 ∧ (c.data.length : Int) = c.len
def K3 (c : Cmd) : Prop := NameP c.vol ∧ c.oth = ⟨#[]⟩ ∧ c.data = [] ∧ insideP c.at_ c.len
def K4 (c : Cmd) : Prop := c.vol = ⟨#[]⟩ ∧ c.oth = ⟨#[]⟩ ∧ c.data = [] ∧ c.force = false ∧ c.at_ = 0 ∧ c.len = 0
def K5 (c : Cmd) : Prop := NameP c.vol ∧ c.oth = ⟨#[]⟩ ∧ c.data = [] ∧ c.force = false ∧ 1 ≤ c.len ∧ c.len ≤ 65536 ∧ 0 ≤ c.at_ ∧ c.at_ ≤ c.len
def K6 (c : Cmd) : Prop := NameP c.vol ∧ NameP c.oth ∧ c.oth ≠ c.vol ∧ c.data = [] ∧ c.force = false ∧ c.at_ = 0 ∧ c.len = 0
def K7 (c : Cmd) : Prop := NameP c.vol ∧ c.oth = ⟨#[]⟩ ∧ c.data = [] ∧ c.force = false ∧ c.at_ = 0 ∧ c.len = 0
def ValidP (c : Cmd) : Prop := HeadP c ∧ ((c.kind = 1 ∧ K1 c) ∨ (c.kind = 2 ∧ K2 c) ∨ (c.kind = 3 ∧ K3 c) ∨ (c.kind = 4 ∧ K4 c) ∨ (c.kind = 5 ∧ K5 c) ∨ (c.kind = 6 ∧ K6 c) ∨ (c.kind = 7 ∧ K7 c))
open Classical in
noncomputable def validB (c : Cmd) : Bool := decide (ValidP c)
open Classical in
theorem validB_t {c : Cmd} (h : ValidP c) : validB c = true := by unfold validB; exact decide_eq_true h
open Classical in
theorem validB_f {c : Cmd} (h : ¬ ValidP c) : validB c = false := by unfold validB; exact decide_eq_false h
theorem valid_1 {c : Cmd} (hk : c.kind = 1) : ValidP c ↔ HeadP c ∧ K1 c := by
  unfold ValidP
  refine and_congr_right fun _ => ⟨fun h => ?_, fun h => .inl ⟨hk, h⟩⟩
  rcases h with ⟨h1, h2⟩ | ⟨h1, h2⟩ | ⟨h1, h2⟩ | ⟨h1, h2⟩ | ⟨h1, h2⟩ | ⟨h1, h2⟩ | ⟨h1, h2⟩
  · exact h2
  · omega
  · omega
  · omega
  · omega
  · omega
  · omega
theorem valid_2 {c : Cmd} (hk : c.kind = 2) : ValidP c ↔ HeadP c ∧ K2 c := by
  unfold ValidP
  refine and_congr_right fun _ => ⟨fun h => ?_, fun h => .inr (.inl ⟨hk, h⟩)⟩
  rcases h with ⟨h1, h2⟩ | ⟨h1, h2⟩ | ⟨h1, h2⟩ | ⟨h1, h2⟩ | ⟨h1, h2⟩ | ⟨h1, h2⟩ | ⟨h1, h2⟩
  · omega
  · exact h2
  · omega
  · omega
  · omega
  · omega
  · omega
theorem valid_3 {c : Cmd} (hk : c.kind = 3) : ValidP c ↔ HeadP c ∧ K3 c := by
  unfold ValidP
  refine and_congr_right fun _ => ⟨fun h => ?_, fun h => .inr (.inr (.inl ⟨hk, h⟩))⟩
  rcases h with ⟨h1, h2⟩ | ⟨h1, h2⟩ | ⟨h1, h2⟩ | ⟨h1, h2⟩ | ⟨h1, h2⟩ | ⟨h1, h2⟩ | ⟨h1, h2⟩
  · omega
  · omega
  · exact h2
  · omega
  · omega
  · omega
  · omega
theorem valid_4 {c : Cmd} (hk : c.kind = 4) : ValidP c ↔ HeadP c ∧ K4 c := by
  unfold ValidP
  refine and_congr_right fun _ => ⟨fun h => ?_, fun h => .inr (.inr (.inr (.inl ⟨hk, h⟩)))⟩
  rcases h with ⟨h1, h2⟩ | ⟨h1, h2⟩ | ⟨h1, h2⟩ | ⟨h1, h2⟩ | ⟨h1, h2⟩ | ⟨h1, h2⟩ | ⟨h1, h2⟩
  · omega
  · omega
  · omega
  · exact h2
  · omega
  · omega
  · omega
theorem valid_5 {c : Cmd} (hk : c.kind = 5) : ValidP c ↔ HeadP c ∧ K5 c := by
  unfold ValidP
  refine and_congr_right fun _ => ⟨fun h => ?_, fun h => .inr (.inr (.inr (.inr (.inl ⟨hk, h⟩))))⟩
  rcases h with ⟨h1, h2⟩ | ⟨h1, h2⟩ | ⟨h1, h2⟩ | ⟨h1, h2⟩ | ⟨h1, h2⟩ | ⟨h1, h2⟩ | ⟨h1, h2⟩
  · omega
  · omega
  · omega
  · omega
  · exact h2
  · omega
  · omega
theorem valid_6 {c : Cmd} (hk : c.kind = 6) : ValidP c ↔ HeadP c ∧ K6 c := by
  unfold ValidP
  refine and_congr_right fun _ => ⟨fun h => ?_, fun h => .inr (.inr (.inr (.inr (.inr (.inl ⟨hk, h⟩)))))⟩
  rcases h with ⟨h1, h2⟩ | ⟨h1, h2⟩ | ⟨h1, h2⟩ | ⟨h1, h2⟩ | ⟨h1, h2⟩ | ⟨h1, h2⟩ | ⟨h1, h2⟩
  · omega
  · omega
  · omega
  · omega
  · omega
  · exact h2
  · omega
theorem valid_7 {c : Cmd} (hk : c.kind = 7) : ValidP c ↔ HeadP c ∧ K7 c := by
  unfold ValidP
  refine and_congr_right fun _ => ⟨fun h => ?_, fun h => .inr (.inr (.inr (.inr (.inr (.inr (⟨hk, h⟩))))))⟩
  rcases h with ⟨h1, h2⟩ | ⟨h1, h2⟩ | ⟨h1, h2⟩ | ⟨h1, h2⟩ | ⟨h1, h2⟩ | ⟨h1, h2⟩ | ⟨h1, h2⟩
  · omega
  · omega
  · omega
  · omega
  · omega
  · omega
  · exact h2
theorem valid_x {c : Cmd} (h : ¬ (1 ≤ c.kind ∧ c.kind ≤ 7)) : ¬ ValidP c := fun hv => by
  rcases hv.2 with ⟨h1, _⟩ | ⟨h1, _⟩ | ⟨h1, _⟩ | ⟨h1, _⟩ | ⟨h1, _⟩ | ⟨h1, _⟩ | ⟨h1, _⟩ <;> omega
end Go.Am.C40
namespace Go.Am.C40
open Go Go.Am
variable {E : Nat → Option AFn} {Y : Nat → List Value → FM → Nat → OR FM}
theorem sameB_iff {c d : Cmd} : sameB c d = true ↔ c = d := by
  cases c; cases d
  simp only [sameB, Bool.and_eq_true, decide_eq_true_eq, Cmd.mk.injEq]
  exact ⟨fun ⟨a, b, c, d, e, f, g, h, i⟩ => ⟨b, c, d, e, f, g, h, i, a⟩, fun ⟨b, c, d, e, f, g, h, i, a⟩ => ⟨a, b, c, d, e, f, g, h, i⟩⟩
theorem validB_iff {c : Cmd} : validB c = true ↔ ValidP c := by
  by_cases h : ValidP c
  · rw [validB_t h]; simp [h]
  · rw [validB_f h]; simp [h]
def used1 (c : Cmd) : Cmd := { tag := c.tag, kind := c.kind, ord := c.ord, force := false, vol := c.vol, oth := ⟨#[]⟩, at_ := c.at_, len := c.len, data := [] }
theorem vs_1 {c : Cmd} (hh : HeadP c) (hk : c.kind = 1) (h0 : NameP c.vol) (h1 : insideP c.at_ c.len) (h2 : c.len ≤ 16) : validB c = sameB c (used1 c) := by
  rw [Bool.eq_iff_iff, sameB_iff, validB_iff, valid_1 hk]
  constructor
  · rintro ⟨_, _, r1, r2, r3, _, _⟩
    cases c
    simp_all [used1]
  · intro h
    exact ⟨hh, h0, congrArg Cmd.oth h, congrArg Cmd.data h, congrArg Cmd.force h, h1, h2⟩
def used2 (c : Cmd) : Cmd := { tag := c.tag, kind := c.kind, ord := c.ord, force := c.force, vol := c.vol, oth := ⟨#[]⟩, at_ := c.at_, len := c.len, data := c.data }
theorem vs_2 {c : Cmd} (hh : HeadP c) (hk : c.kind = 2) (h0 : NameP c.vol) (h1 : insideP c.at_ c.len) (h2 : c.len ≤ 16) (h3 : (c.data.length : Int) = c.len) : validB c = sameB c (used2 c) := by
  rw [Bool.eq_iff_iff, sameB_iff, validB_iff, valid_2 hk]
  constructor
  · rintro ⟨_, _, r1, _, _, _⟩
    cases c
    simp_all [used2]
  · intro h
    exact ⟨hh, h0, congrArg Cmd.oth h, h1, h2, h3⟩
def used3 (c : Cmd) : Cmd := { tag := c.tag, kind := c.kind, ord := c.ord, force := c.force, vol := c.vol, oth := ⟨#[]⟩, at_ := c.at_, len := c.len, data := [] }
theorem vs_3 {c : Cmd} (hh : HeadP c) (hk : c.kind = 3) (h0 : NameP c.vol) (h1 : insideP c.at_ c.len) : validB c = sameB c (used3 c) := by
  rw [Bool.eq_iff_iff, sameB_iff, validB_iff, valid_3 hk]
  constructor
  · rintro ⟨_, _, r1, r2, _⟩
    cases c
    simp_all [used3]
  · intro h
    exact ⟨hh, h0, congrArg Cmd.oth h, congrArg Cmd.data h, h1⟩
def used4 (c : Cmd) : Cmd := { tag := c.tag, kind := c.kind, ord := c.ord, force := false, vol := c.vol, oth := ⟨#[]⟩, at_ := 0, len := 0, data := [] }
theorem vs_4 {c : Cmd} (hh : HeadP c) (hk : c.kind = 4) (h0 : c.vol = ⟨#[]⟩) : validB c = sameB c (used4 c) := by
  rw [Bool.eq_iff_iff, sameB_iff, validB_iff, valid_4 hk]
  constructor
  · rintro ⟨_, _, r1, r2, r3, r4, r5⟩
    cases c
    simp_all [used4]
  · intro h
    exact ⟨hh, h0, congrArg Cmd.oth h, congrArg Cmd.data h, congrArg Cmd.force h, congrArg Cmd.at_ h, congrArg Cmd.len h⟩
def used5 (c : Cmd) : Cmd := { tag := c.tag, kind := c.kind, ord := c.ord, force := false, vol := c.vol, oth := ⟨#[]⟩, at_ := c.at_, len := c.len, data := [] }
theorem vs_5 {c : Cmd} (hh : HeadP c) (hk : c.kind = 5) (h0 : NameP c.vol) (h1 : 1 ≤ c.len) (h2 : c.len ≤ 65536) (h3 : 0 ≤ c.at_) (h4 : c.at_ ≤ c.len) : validB c = sameB c (used5 c) := by
  rw [Bool.eq_iff_iff, sameB_iff, validB_iff, valid_5 hk]
  constructor
  · rintro ⟨_, _, r1, r2, r3, _, _, _, _⟩
    cases c
    simp_all [used5]
  · intro h
    exact ⟨hh, h0, congrArg Cmd.oth h, congrArg Cmd.data h, congrArg Cmd.force h, h1, h2, h3, h4⟩
def used6 (c : Cmd) : Cmd := { tag := c.tag, kind := c.kind, ord := c.ord, force := false, vol := c.vol, oth := c.oth, at_ := 0, len := 0, data := [] }
theorem vs_6 {c : Cmd} (hh : HeadP c) (hk : c.kind = 6) (h0 : NameP c.vol) (h1 : NameP c.oth) (h2 : c.oth ≠ c.vol) : validB c = sameB c (used6 c) := by
  rw [Bool.eq_iff_iff, sameB_iff, validB_iff, valid_6 hk]
  constructor
  · rintro ⟨_, _, _, _, r3, r4, r5, r6⟩
    cases c
    simp_all [used6]
  · intro h
    exact ⟨hh, h0, h1, h2, congrArg Cmd.data h, congrArg Cmd.force h, congrArg Cmd.at_ h, congrArg Cmd.len h⟩
def used7 (c : Cmd) : Cmd := { tag := c.tag, kind := c.kind, ord := c.ord, force := false, vol := c.vol, oth := ⟨#[]⟩, at_ := 0, len := 0, data := [] }
theorem vs_7 {c : Cmd} (hh : HeadP c) (hk : c.kind = 7) (h0 : NameP c.vol) : validB c = sameB c (used7 c) := by
  rw [Bool.eq_iff_iff, sameB_iff, validB_iff, valid_7 hk]
  constructor
  · rintro ⟨_, _, r1, r2, r3, r4, r5⟩
    cases c
    simp_all [used7]
  · intro h
    exact ⟨hh, h0, congrArg Cmd.oth h, congrArg Cmd.data h, congrArg Cmd.force h, congrArg Cmd.at_ h, congrArg Cmd.len h⟩
end Go.Am.C40
namespace Go.Am.C40
open Go Go.Am
variable {E : Nat → Option AFn} {Y : Nat → List Value → FM → Nat → OR FM}
set_option maxHeartbeats 8000000 in
theorem cmdValid_1 (hE : E 29 = some ac29) (hN : E 36 = some ac36) (hT : Trims E Y) (hI : E 37 = some ac37) (hO : E 35 = some ac35) (hS : E 38 = some ac38) (m : FM) (n : Nat) (c : Cmd) (d : Value) (hF : c.Fit) (hc : DatV m n d c.data) (hh : HeadP c) (hk : c.kind = 1) :
    Pure (callW PG E Y 29 [cmdV c d] m n) m n (.bool (validB c)) := by
  obtain ⟨f1, f2, f3, f4, f5, f6, f7, f8⟩ := hF
  have hNv : ∀ m n, Pure (callW PG E Y 36 [.string c.vol] m n) m n (.bool (nameB c.vol)) := fun m n => name_spec hN hT m n _ f6
  have hNo : ∀ m n, Pure (callW PG E Y 36 [.string c.oth] m n) m n (.bool (nameB c.oth)) := fun m n => name_spec hN hT m n _ f7
  have hIn : ∀ m n, Pure (callW PG E Y 37 [.int .i64 c.at_, .int .i64 c.len] m n) m n (.bool (decide (insideP c.at_ c.len))) := fun m n => inside_spec hI m n _ _ f4 f5
  have hOn : ∀ m n, Pure (callW PG E Y 35 [cmdV c d] m n) m n (.agg #[.int .i64 c.tag, .int .i64 c.kind, .int .i64 c.ord, .bool false, .string ⟨#[]⟩, .string ⟨#[]⟩, .int .i64 0, .int .i64 0, .slice none 0 0]) := fun m n => only_spec hO m n c d hc.one
  clear f1 f2 f3 f4 f5 f6 f7
  refine pure_spec hE rfl rfl ?_
  simp only [ac29, cmdV]
  rcases hh.2.2 with t4 | t4
  all_goals
    have t1 := hh.1
    have t2 := hh.2.1
    by_cases nv : NameP c.vol
    case neg =>
      rw [validB_f fun h => nv ((valid_1 hk).1 h).2.1]
      repeat (first | refine use_pure (hOn _ _) fun _ => ?_ | refine use_pure (hNv _ _) fun _ => ?_ | refine use_pure (hNo _ _) fun _ => ?_ | refine use_pure (hIn _ _) fun _ => ?_ | simp (implicitDefEqProofs := false) (disch := omega) only [WPs, opds, List.all_cons, List.all_nil, List.cons_append, List.nil_append, cond_true, cond_false, eq_self, List.map_cons, List.map_nil, Nat.reduceAdd, Nat.testBit, Nat.reduceShiftRight, Nat.reduceAnd, Nat.reduceBNe, Nat.reduceMul, hc.one, cells_of_one hc.one, hc.len, hc.bel, STs, Bool.not_true, Bool.not_false, nameB_f nv])
    by_cases hi : insideP c.at_ c.len
    case neg =>
      rw [validB_f fun h => hi ((valid_1 hk).1 h).2.2.2.2.2.1]
      repeat (first | refine use_pure (hOn _ _) fun _ => ?_ | refine use_pure (hNv _ _) fun _ => ?_ | refine use_pure (hNo _ _) fun _ => ?_ | refine use_pure (hIn _ _) fun _ => ?_ | simp (implicitDefEqProofs := false) (disch := omega) only [WPs, opds, List.all_cons, List.all_nil, List.cons_append, List.nil_append, cond_true, cond_false, eq_self, List.map_cons, List.map_nil, Nat.reduceAdd, Nat.testBit, Nat.reduceShiftRight, Nat.reduceAnd, Nat.reduceBNe, Nat.reduceMul, hc.one, cells_of_one hc.one, hc.len, hc.bel, STs, Bool.not_true, Bool.not_false, nameB_t nv, decide_eq_false hi])
    by_cases g5 : c.len ≤ 16
    case neg =>
      rw [validB_f fun h => g5 ((valid_1 hk).1 h).2.2.2.2.2.2]
      repeat (first | refine use_pure (hOn _ _) fun _ => ?_ | refine use_pure (hNv _ _) fun _ => ?_ | refine use_pure (hNo _ _) fun _ => ?_ | refine use_pure (hIn _ _) fun _ => ?_ | simp (implicitDefEqProofs := false) (disch := omega) only [WPs, opds, List.all_cons, List.all_nil, List.cons_append, List.nil_append, cond_true, cond_false, eq_self, List.map_cons, List.map_nil, Nat.reduceAdd, Nat.testBit, Nat.reduceShiftRight, Nat.reduceAnd, Nat.reduceBNe, Nat.reduceMul, hc.one, cells_of_one hc.one, hc.len, hc.bel, STs, Bool.not_true, Bool.not_false, nameB_t nv, decide_eq_true hi])
    rw [vs_1 hh hk nv hi g5]
    repeat (first | refine use_pure (hOn _ _) fun _ => ?_ | refine use_pure (hNv _ _) fun _ => ?_ | refine use_pure (hNo _ _) fun _ => ?_ | refine use_pure (hIn _ _) fun _ => ?_ | simp (implicitDefEqProofs := false) (disch := omega) only [WPs, opds, List.all_cons, List.all_nil, List.cons_append, List.nil_append, cond_true, cond_false, eq_self, List.map_cons, List.map_nil, Nat.reduceAdd, Nat.testBit, Nat.reduceShiftRight, Nat.reduceAnd, Nat.reduceBNe, Nat.reduceMul, hc.one, cells_of_one hc.one, hc.len, hc.bel, STs, Bool.not_true, Bool.not_false, nameB_t nv, decide_eq_true hi])
    refine use_pure (same_spec hS _ _ c (used1 c) d (.slice none 0 0) (hc.frame (by omega) fun b hb => by simp (implicitDefEqProofs := false) (disch := omega) only [WPs, opds, List.all_cons, List.all_nil, List.cons_append, List.nil_append, cond_true, cond_false, eq_self, List.map_cons, List.map_nil, Nat.reduceAdd, Nat.testBit, Nat.reduceShiftRight, Nat.reduceAnd, Nat.reduceBNe, Nat.reduceMul]) (DatV.nil _ _) f8 (Nat.zero_le _)) fun _ => ?_
    repeat (first | refine use_pure (hOn _ _) fun _ => ?_ | refine use_pure (hNv _ _) fun _ => ?_ | refine use_pure (hNo _ _) fun _ => ?_ | refine use_pure (hIn _ _) fun _ => ?_ | simp (implicitDefEqProofs := false) (disch := omega) only [WPs, opds, List.all_cons, List.all_nil, List.cons_append, List.nil_append, cond_true, cond_false, eq_self, List.map_cons, List.map_nil, Nat.reduceAdd, Nat.testBit, Nat.reduceShiftRight, Nat.reduceAnd, Nat.reduceBNe, Nat.reduceMul, hc.one, cells_of_one hc.one, hc.len, hc.bel, STs, Bool.not_true, Bool.not_false, nameB_t nv, decide_eq_true hi])
set_option maxHeartbeats 8000000 in
theorem cmdValid_2 (hE : E 29 = some ac29) (hN : E 36 = some ac36) (hT : Trims E Y) (hI : E 37 = some ac37) (hO : E 35 = some ac35) (hS : E 38 = some ac38) (m : FM) (n : Nat) (c : Cmd) (d : Value) (hF : c.Fit) (hc : DatV m n d c.data) (hh : HeadP c) (hk : c.kind = 2) :
    Pure (callW PG E Y 29 [cmdV c d] m n) m n (.bool (validB c)) := by
  obtain ⟨f1, f2, f3, f4, f5, f6, f7, f8⟩ := hF
  have hNv : ∀ m n, Pure (callW PG E Y 36 [.string c.vol] m n) m n (.bool (nameB c.vol)) := fun m n => name_spec hN hT m n _ f6
  have hNo : ∀ m n, Pure (callW PG E Y 36 [.string c.oth] m n) m n (.bool (nameB c.oth)) := fun m n => name_spec hN hT m n _ f7
  have hIn : ∀ m n, Pure (callW PG E Y 37 [.int .i64 c.at_, .int .i64 c.len] m n) m n (.bool (decide (insideP c.at_ c.len))) := fun m n => inside_spec hI m n _ _ f4 f5
  have hOn : ∀ m n, Pure (callW PG E Y 35 [cmdV c d] m n) m n (.agg #[.int .i64 c.tag, .int .i64 c.kind, .int .i64 c.ord, .bool false, .string ⟨#[]⟩, .string ⟨#[]⟩, .int .i64 0, .int .i64 0, .slice none 0 0]) := fun m n => only_spec hO m n c d hc.one
  clear f1 f2 f3 f4 f5 f6 f7
  refine pure_spec hE rfl rfl ?_
  simp only [ac29, cmdV]
  rcases hh.2.2 with t4 | t4
  all_goals
    have t1 := hh.1
    have t2 := hh.2.1
    by_cases nv : NameP c.vol
    case neg =>
      rw [validB_f fun h => nv ((valid_2 hk).1 h).2.1]
      repeat (first | refine use_pure (hOn _ _) fun _ => ?_ | refine use_pure (hNv _ _) fun _ => ?_ | refine use_pure (hNo _ _) fun _ => ?_ | refine use_pure (hIn _ _) fun _ => ?_ | simp (implicitDefEqProofs := false) (disch := omega) only [WPs, opds, List.all_cons, List.all_nil, List.cons_append, List.nil_append, cond_true, cond_false, eq_self, List.map_cons, List.map_nil, Nat.reduceAdd, Nat.testBit, Nat.reduceShiftRight, Nat.reduceAnd, Nat.reduceBNe, Nat.reduceMul, hc.one, cells_of_one hc.one, hc.len, hc.bel, STs, Bool.not_true, Bool.not_false, nameB_f nv])
    by_cases hi : insideP c.at_ c.len
    case neg =>
      rw [validB_f fun h => hi ((valid_2 hk).1 h).2.2.2.1]
      repeat (first | refine use_pure (hOn _ _) fun _ => ?_ | refine use_pure (hNv _ _) fun _ => ?_ | refine use_pure (hNo _ _) fun _ => ?_ | refine use_pure (hIn _ _) fun _ => ?_ | simp (implicitDefEqProofs := false) (disch := omega) only [WPs, opds, List.all_cons, List.all_nil, List.cons_append, List.nil_append, cond_true, cond_false, eq_self, List.map_cons, List.map_nil, Nat.reduceAdd, Nat.testBit, Nat.reduceShiftRight, Nat.reduceAnd, Nat.reduceBNe, Nat.reduceMul, hc.one, cells_of_one hc.one, hc.len, hc.bel, STs, Bool.not_true, Bool.not_false, nameB_t nv, decide_eq_false hi])
    by_cases g3 : c.len ≤ 16
    case neg =>
      rw [validB_f fun h => g3 ((valid_2 hk).1 h).2.2.2.2.1]
      repeat (first | refine use_pure (hOn _ _) fun _ => ?_ | refine use_pure (hNv _ _) fun _ => ?_ | refine use_pure (hNo _ _) fun _ => ?_ | refine use_pure (hIn _ _) fun _ => ?_ | simp (implicitDefEqProofs := false) (disch := omega) only [WPs, opds, List.all_cons, List.all_nil, List.cons_append, List.nil_append, cond_true, cond_false, eq_self, List.map_cons, List.map_nil, Nat.reduceAdd, Nat.testBit, Nat.reduceShiftRight, Nat.reduceAnd, Nat.reduceBNe, Nat.reduceMul, hc.one, cells_of_one hc.one, hc.len, hc.bel, STs, Bool.not_true, Bool.not_false, nameB_t nv, decide_eq_true hi])
    by_cases g4 : (c.data.length : Int) = c.len
    case neg =>
      rw [validB_f fun h => g4 ((valid_2 hk).1 h).2.2.2.2.2]
      repeat (first | refine use_pure (hOn _ _) fun _ => ?_ | refine use_pure (hNv _ _) fun _ => ?_ | refine use_pure (hNo _ _) fun _ => ?_ | refine use_pure (hIn _ _) fun _ => ?_ | simp (implicitDefEqProofs := false) (disch := omega) only [WPs, opds, List.all_cons, List.all_nil, List.cons_append, List.nil_append, cond_true, cond_false, eq_self, List.map_cons, List.map_nil, Nat.reduceAdd, Nat.testBit, Nat.reduceShiftRight, Nat.reduceAnd, Nat.reduceBNe, Nat.reduceMul, hc.one, cells_of_one hc.one, hc.len, hc.bel, STs, Bool.not_true, Bool.not_false, nameB_t nv, decide_eq_true hi])
    rw [vs_2 hh hk nv hi g3 g4]
    repeat (first | refine use_pure (hOn _ _) fun _ => ?_ | refine use_pure (hNv _ _) fun _ => ?_ | refine use_pure (hNo _ _) fun _ => ?_ | refine use_pure (hIn _ _) fun _ => ?_ | simp (implicitDefEqProofs := false) (disch := omega) only [WPs, opds, List.all_cons, List.all_nil, List.cons_append, List.nil_append, cond_true, cond_false, eq_self, List.map_cons, List.map_nil, Nat.reduceAdd, Nat.testBit, Nat.reduceShiftRight, Nat.reduceAnd, Nat.reduceBNe, Nat.reduceMul, hc.one, cells_of_one hc.one, hc.len, hc.bel, STs, Bool.not_true, Bool.not_false, nameB_t nv, decide_eq_true hi])
    refine use_pure (same_spec hS _ _ c (used2 c) d d (hc.frame (by omega) fun b hb => by simp (implicitDefEqProofs := false) (disch := omega) only [WPs, opds, List.all_cons, List.all_nil, List.cons_append, List.nil_append, cond_true, cond_false, eq_self, List.map_cons, List.map_nil, Nat.reduceAdd, Nat.testBit, Nat.reduceShiftRight, Nat.reduceAnd, Nat.reduceBNe, Nat.reduceMul]) (hc.frame (by omega) fun b hb => by simp (implicitDefEqProofs := false) (disch := omega) only [WPs, opds, List.all_cons, List.all_nil, List.cons_append, List.nil_append, cond_true, cond_false, eq_self, List.map_cons, List.map_nil, Nat.reduceAdd, Nat.testBit, Nat.reduceShiftRight, Nat.reduceAnd, Nat.reduceBNe, Nat.reduceMul]) f8 f8) fun _ => ?_
    repeat (first | refine use_pure (hOn _ _) fun _ => ?_ | refine use_pure (hNv _ _) fun _ => ?_ | refine use_pure (hNo _ _) fun _ => ?_ | refine use_pure (hIn _ _) fun _ => ?_ | simp (implicitDefEqProofs := false) (disch := omega) only [WPs, opds, List.all_cons, List.all_nil, List.cons_append, List.nil_append, cond_true, cond_false, eq_self, List.map_cons, List.map_nil, Nat.reduceAdd, Nat.testBit, Nat.reduceShiftRight, Nat.reduceAnd, Nat.reduceBNe, Nat.reduceMul, hc.one, cells_of_one hc.one, hc.len, hc.bel, STs, Bool.not_true, Bool.not_false, nameB_t nv, decide_eq_true hi])
end Go.Am.C40
