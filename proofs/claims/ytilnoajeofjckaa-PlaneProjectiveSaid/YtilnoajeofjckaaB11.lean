/- The machine and its runs, part 11: Am06f Am06g AmRowsZ Am06h Am06i Am06j Am06r Am06jb. -/
import Derived.Test.YtilnoajeofjckaaB10
set_option linter.unusedVariables false
set_option linter.unusedSimpArgs false
set_option linter.unusedSectionVars false
namespace Go.Am.C06
open Go Go.Am
variable {E : Nat → Option AFn} {Y : Nat → List Value → FM → Nat → OR FM}
theorem stepP_len (T : Tab) (ps : List P3) (p : P3) : (stepP T ps p).length ≤ ps.length + 1 := by
  unfold stepP
  split
  · rw [List.length_append]; exact Nat.le_refl _
  · omega
theorem foldZ_len (T : Tab) (x y : Nat) (ps : List P3) : ∀ k, (foldZ T x y ps k).length ≤ ps.length + k
  | 0 => Nat.le_refl _
  | k + 1 => by
    have := foldZ_len T x y ps k
    have h2 := stepP_len T (foldZ T x y ps k) ⟨x, y, k⟩
    show (stepP T (foldZ T x y ps k) ⟨x, y, k⟩).length ≤ _
    omega
theorem foldY_len (T : Tab) (q x : Nat) (ps : List P3) : ∀ k, (foldY T q x ps k).length ≤ ps.length + k * q
  | 0 => Nat.le_add_right _ _
  | k + 1 => by
    have := foldY_len T q x ps k
    have h2 := foldZ_len T x k (foldY T q x ps k) q
    show (foldZ T x k (foldY T q x ps k) q).length ≤ _
    rw [Nat.succ_mul]; omega
theorem foldX_len (T : Tab) (q : Nat) : ∀ k, (foldX T q k).length ≤ k * (q * q)
  | 0 => Nat.zero_le _
  | k + 1 => by
    have := foldX_len T q k
    have h2 := foldY_len T q k (foldX T q k) q
    show (foldY T q k (foldX T q k) q).length ≤ _
    rw [Nat.succ_mul]; omega
theorem Low.nextY {ps : List P3} {q x y : Nat} (h : Low ps q x y q) : Low ps q x (y + 1) 0 := fun r hr => ⟨(h r hr).1, by have := (h r hr).2; omega⟩
theorem Low.nextX {ps : List P3} {q x : Nat} (h : Low ps q x q 0) : Low ps q (x + 1) 0 0 := fun r hr => ⟨(h r hr).1, by have h1 := (h r hr).1; have := (h r hr).2; omega⟩
theorem open_L1 (h33 : E 33 = some ac33) (h44 : E 44 = some ac44) (h45 : E 45 = some ac45) (h46 : E 46 = some ac46) (h42 : E 42 = some ac42) (h51 : E 51 = some ac51) (h31 : E 31 = some ac31)
    {m : FM} {nf n1 sb mb : Nat} {pf : Value} {q : Nat} {A T : Tab} (hn1 : nf ≤ mb) (hn2 : nf ≤ sb) (hne : sb ≠ mb) (hsb : sb < n1) (hmb : mb < n1) (hF : FieldM m nf pf q A T) (hg : GoodT q A T) {x : Nat} (hx : x < q) (a1 a2 a4 a6 a7 a8 a9 a10 a11 : Value) {ps0 : List P3} (hlen : ps0.length ≤ 1000000) {Q : AX → List Value → FM → Nat → Nat → Prop}
    (hQ : ∀ M' N' w, OpS m n1 sb mb pf M' N' (foldY T q x ps0 q) → Low (foldY T q x ps0 q) q x q 0 → (∀ j, j ≤ nf → Nat.mod w (bit j) = 0) → Q (.exit 2) [.int .i64 (q : Int), a1, a2, .int .i64 (x : Int), a4, .pointer (some ⟨sb, 0, none⟩), a6, a7, a8, a9, a10, a11, .int .i64 (q : Int)] M' N' w) :
    ∀ d y, y + d = q → ∀ (M' : FM) (N' w0 : Nat), OpS m n1 sb mb pf M' N' (foldY T q x ps0 y) → Low (foldY T q x ps0 y) q x y 0 → (∀ j, j ≤ nf → Nat.mod w0 (bit j) = 0) →
    Gv (execW PG E Y ac23L1 [.int .i64 (y : Int), a1, a2, .int .i64 (x : Int), a4, .pointer (some ⟨sb, 0, none⟩), a6, a7, a8, a9, a10, a11, .int .i64 (q : Int)] M' N') fun X e m n w => Q X e m n (Nat.lor w0 w) := by
  have hq := hg.small
  intro d
  induction d with
  | zero =>
    intro y hy M' N' w0 hS hL hw
    obtain rfl : y = q := by omega
    refine wr_loopN (L := ac23L1) (b := ac23L1b) rfl ?_
    simp only [ac23L1b]
    simp (implicitDefEqProofs := false) (disch := omega) only [WPs, opds, List.all_cons, List.all_nil, List.cons_append, List.nil_append, cond_true, cond_false, eq_self, List.map_cons, List.map_nil, Nat.reduceAdd, Nat.testBit, Nat.reduceShiftRight, Nat.reduceAnd, Nat.reduceBNe, Nat.reduceMul]
    exact hQ _ _ _ hS hL hw
  | succ d ih =>
    intro y hy M' N' w0 hS hL hw
    have hyq : y < q := by omega
    have hl := foldY_len T q x ps0 y
    have hyy : y * q ≤ 1000 * 1000 := Nat.mul_le_mul (by omega) (by omega)
    refine wr_loopN (L := ac23L1) (b := ac23L1b) rfl ?_
    simp only [ac23L1b]
    simp (implicitDefEqProofs := false) (disch := omega) only [WPs, opds, List.all_cons, List.all_nil, List.cons_append, List.nil_append, cond_true, cond_false, eq_self, List.map_cons, List.map_nil, Nat.reduceAdd, Nat.testBit, Nat.reduceShiftRight, Nat.reduceAnd, Nat.reduceBNe, Nat.reduceMul]
    refine wr_kont (open_L0 (Y := Y) h33 h44 h45 h46 h42 h51 h31 hn1 hn2 hne hsb hmb hF hg hx hyq _ _ _ _ _ _ _ _ _ _ _ (ps0 := foldY T q x ps0 y) (by omega) (fun M2 N2 w2 hS2 hL2 hw2 rr => ?_) q 0 (by omega) M' N' 0 hS hL (by show (foldY T q x ps0 y).length ≤ _; omega) (fun _ _ => Nat.zero_mod _))
    simp (implicitDefEqProofs := false) (disch := omega) only [WPs, opds, List.all_cons, List.all_nil, List.cons_append, List.nil_append, cond_true, cond_false, eq_self, List.map_cons, List.map_nil, Nat.reduceAdd, Nat.testBit, Nat.reduceShiftRight, Nat.reduceAnd, Nat.reduceBNe, Nat.reduceMul]
    refine wr_end (ih (y + 1) (by omega) M2 N2 (Nat.lor w0 w2) hS2 hL2.nextY (fun j hj => by rw [frz_iff]; exact ⟨hw j hj, hw2 j hj⟩)) fun X e m n w hq => ?_
    rw [← lor_assoc']; exact hq
theorem open_L2 (h33 : E 33 = some ac33) (h44 : E 44 = some ac44) (h45 : E 45 = some ac45) (h46 : E 46 = some ac46) (h42 : E 42 = some ac42) (h51 : E 51 = some ac51) (h31 : E 31 = some ac31)
    {m : FM} {nf n1 sb mb : Nat} {pf : Value} {q : Nat} {A T : Tab} (hq2 : 2 ≤ q) (hn1 : nf ≤ mb) (hn2 : nf ≤ sb) (hne : sb ≠ mb) (hsb : sb < n1) (hmb : mb < n1) (hF : FieldM m nf pf q A T) (hg : GoodT q A T) (a1 a3 a4 a5 a6 a7 a8 : Value) {Q : AX → List Value → FM → Nat → Nat → Prop}
    (hQ : ∀ M' N' w, OpS m n1 sb mb pf M' N' (foldX T q 2) → Low (foldX T q 2) q 2 0 0 → (∀ j, j ≤ nf → Nat.mod w (bit j) = 0) → Q (.exit 0) [a1, .pointer (some ⟨sb, 0, none⟩), a3, a4, a5, a6, a7, a8, .int .i64 (q : Int)] M' N' w) :
    ∀ d x, x + d = 2 → ∀ (M' : FM) (N' w0 : Nat), OpS m n1 sb mb pf M' N' (foldX T q x) → Low (foldX T q x) q x 0 0 → (∀ j, j ≤ nf → Nat.mod w0 (bit j) = 0) →
    Gv (execW PG E Y ac23L2 [.int .i64 (x : Int), a1, .pointer (some ⟨sb, 0, none⟩), a3, a4, a5, a6, a7, a8, .int .i64 (q : Int)] M' N') fun X e m n w => Q X e m n (Nat.lor w0 w) := by
  have hq := hg.small
  intro d
  induction d with
  | zero =>
    intro x hx M' N' w0 hS hL hw
    obtain rfl : x = 2 := by omega
    refine wr_loopN (L := ac23L2) (b := ac23L2b) rfl ?_
    simp only [ac23L2b]
    simp (implicitDefEqProofs := false) (disch := omega) only [WPs, opds, List.all_cons, List.all_nil, List.cons_append, List.nil_append, cond_true, cond_false, eq_self, List.map_cons, List.map_nil, Nat.reduceAdd, Nat.testBit, Nat.reduceShiftRight, Nat.reduceAnd, Nat.reduceBNe, Nat.reduceMul]
    exact hQ _ _ _ hS hL hw
  | succ d ih =>
    intro x hx M' N' w0 hS hL hw
    have hl := foldX_len T q x
    have hxx : x * (q * q) ≤ 1 * (1000 * 1000) := Nat.mul_le_mul (by omega) (Nat.mul_le_mul (by omega) (by omega))
    refine wr_loopN (L := ac23L2) (b := ac23L2b) rfl ?_
    simp only [ac23L2b]
    simp (implicitDefEqProofs := false) (disch := omega) only [WPs, opds, List.all_cons, List.all_nil, List.cons_append, List.nil_append, cond_true, cond_false, eq_self, List.map_cons, List.map_nil, Nat.reduceAdd, Nat.testBit, Nat.reduceShiftRight, Nat.reduceAnd, Nat.reduceBNe, Nat.reduceMul]
    refine wr_kont (open_L1 (Y := Y) h33 h44 h45 h46 h42 h51 h31 hn1 hn2 hne hsb hmb hF hg (x := x) (by omega) _ _ _ _ _ _ _ _ _ (ps0 := foldX T q x) (by omega) (fun M2 N2 w2 hS2 hL2 hw2 rr => ?_) q 0 (by omega) M' N' 0 hS hL (fun _ _ => Nat.zero_mod _))
    simp (implicitDefEqProofs := false) (disch := omega) only [WPs, opds, List.all_cons, List.all_nil, List.cons_append, List.nil_append, cond_true, cond_false, eq_self, List.map_cons, List.map_nil, Nat.reduceAdd, Nat.testBit, Nat.reduceShiftRight, Nat.reduceAnd, Nat.reduceBNe, Nat.reduceMul]
    refine wr_end (ih (x + 1) (by omega) M2 N2 (Nat.lor w0 w2) hS2 hL2.nextX (fun j hj => by rw [frz_iff]; exact ⟨hw j hj, hw2 j hj⟩)) fun X e m n w hq => ?_
    rw [← lor_assoc']; exact hq
def SpaceM (m : FM) (N : Nat) (sv : Value) (q : Nat) (A T : Tab) (ps : List P3) : Prop :=
  ∃ sb mb pf allv n1, sv = .pointer (some ⟨sb, 0, none⟩) ∧ sb < N ∧ mb < N ∧ m sb = some (.cells [pf, allv, .map (some mb)] 0 false true) ∧ SlZ 3 m n1 N allv ps.length (ptCells ps) ∧ m mb = some (.map (mapC3 (numMC ps 0))) ∧ FieldM m N pf q A T ∧ ∀ r ∈ ps, r.lt q
theorem SpaceM.frame {m m' : FM} {n n' : Nat} {sv : Value} {q : Nat} {A M : Tab} {ps : List P3} (h : SpaceM m n sv q A M ps) (hn : n ≤ n') (hf : ∀ b, b < n → m' b = m b) : SpaceM m' n' sv q A M ps := by
  obtain ⟨sb, mb, pf, allv, n1, h1, h2, h3, h4, h5, h6, h7, h8⟩ := h
  exact ⟨sb, mb, pf, allv, n1, h1, by omega, by omega, (hf sb h2).trans h4, SlZ.frame h5 hn fun b _ hb => hf b hb, (hf mb h3).trans h6, h7.frame hn hf, h8⟩
theorem SpaceM.sp {m : FM} {n : Nat} {sv : Value} {q : Nat} {A M : Tab} {ps : List P3} (h : SpaceM m n sv q A M ps) : SpaceP m n sv q A M := by
  obtain ⟨sb, mb, pf, allv, n1, h1, h2, h3, h4, h5, h6, h7, h8⟩ := h
  exact ⟨sb, pf, allv, _, h1, h2, h4, h7⟩
abbrev Kpt (m : FM) (n : Nat) (R : Value → FM → Nat → Prop) (v : Value) (m' : FM) (n' w : Nat) : Prop := n ≤ n' ∧ (∀ b, b < n → m' b = m b) ∧ (∀ j, j ≤ n → Nat.mod w (bit j) = 0) ∧ R v m' n'
theorem open_spec (hE : E 23 = some ac23) (h33 : E 33 = some ac33) (h44 : E 44 = some ac44) (h45 : E 45 = some ac45) (h46 : E 46 = some ac46) (h42 : E 42 = some ac42) (h51 : E 51 = some ac51) (h31 : E 31 = some ac31)
    {q : Nat} {A T : Tab} (hq2 : 2 ≤ q) (hq7 : q ≤ 7) (hg : GoodT q A T) (m : FM) (n : Nat) (hNew : Rt (callW PG E Y 29 [.int .i64 (q : Int)] m n) (Kpt m n fun v M' N' => ∃ pv, v = .tuple #[pv, .int .i64 0] ∧ FieldM M' N' pv q A T)) :
    Rt (callW PG E Y 23 [.int .i64 (q : Int)] m n) (Kpt m n fun v M' N' => ∃ sv, v = .tuple #[sv, .int .i64 0] ∧ SpaceM M' N' sv q A T (foldX T q 2)) := by
  refine kept_specQ hE rfl fun Q hQ => ?_
  simp only [ac23]
  simp (implicitDefEqProofs := false) (disch := omega) only [WPs, opds, List.all_cons, List.all_nil, List.cons_append, List.nil_append, cond_true, cond_false, eq_self, List.map_cons, List.map_nil, Nat.reduceAdd, Nat.testBit, Nat.reduceShiftRight, Nat.reduceAnd, Nat.reduceBNe, Nat.reduceMul]
  refine use_rt hNew fun v M1 N1 r1 w1 ⟨n1, m1, f1, pv, hv, hF⟩ => ?_
  subst hv
  have hqq : q * q ≤ 7 * 7 := Nat.mul_le_mul hq7 hq7
  have hbp := hF.bel
  obtain ⟨fb, fp, fs, fm, rfl, fl, _⟩ := id hF
  simp (implicitDefEqProofs := false) (disch := omega) only [WPs, opds, List.all_cons, List.all_nil, List.cons_append, List.nil_append, cond_true, cond_false, eq_self, List.map_cons, List.map_nil, Nat.reduceAdd, Nat.testBit, Nat.reduceShiftRight, Nat.reduceAnd, Nat.reduceBNe, Nat.reduceMul, s_mp, mapc_mk, cells_mapv, one_map]
  generalize hM2 : (AMem.put (AMem.put M1 N1 (some (.map (mapC3 [])))) (N1 + 1) (some (.cells [.pointer (some ⟨fb, 0, none⟩), .slice none 0 0, .map (some N1)] 0 false true)) : FM) = M2
  have l2 : ∀ b, b < N1 → M2 b = M1 b := fun b hb => by rw [← hM2, fput_ne _ _ _ _ (by omega), fput_ne _ _ _ _ (by omega)]
  have hS0 : OpS M2 (N1 + 2) (N1 + 1) N1 (.pointer (some ⟨fb, 0, none⟩)) M2 (N1 + 2) [] := ⟨Nat.le_refl _, fun _ _ _ _ => rfl, ⟨_, by rw [← hM2]; exact fput_same _ _ _, .inl ⟨rfl, rfl, rfl⟩⟩, by rw [← hM2, fput_ne _ _ _ _ (by omega)]; exact fput_same _ _ _⟩
  have hF2 : FieldM M2 N1 (.pointer (some ⟨fb, 0, none⟩)) q A T := hF.frame (Nat.le_refl _) l2
  have fzn := f1 n (Nat.le_refl _)
  have fza : Nat.mod (bit N1) (bit n) = 0 := frz_bit (by omega)
  have fzb : Nat.mod (bit (N1 + 1)) (bit n) = 0 := frz_bit (by omega)
  refine wr_kont (open_L2 (Y := Y) h33 h44 h45 h46 h42 h51 h31 (m := M2) (nf := N1) (n1 := N1 + 2) (sb := N1 + 1) (mb := N1) hq2 (Nat.le_refl _) (by omega) (by omega) (by omega) (by omega) hF2 hg _ _ _ _ _ _ _ (fun M' N' w hS hL hw rr => ?_) 2 0 (by omega) M2 (N1 + 2) 0 hS0 (fun r hr => by cases hr) (fun _ _ => Nat.zero_mod _))
  obtain ⟨le, low, ⟨allv, s1, s2⟩, mp⟩ := hS
  have fzw := hw n n1
  simp (implicitDefEqProofs := false) (disch := omega) only [WPs, opds, List.all_cons, List.all_nil, List.cons_append, List.nil_append, cond_true, cond_false, eq_self, List.map_cons, List.map_nil, Nat.reduceAdd, Nat.testBit, Nat.reduceShiftRight, Nat.reduceAnd, Nat.reduceBNe, Nat.reduceMul]
  refine hQ _ _ _ _ _ (by omega) (fun b hb => by rw [low b (by omega) (by omega) (by omega), l2 b (by omega)]; exact m1 b hb) ?_ rfl ⟨_, rfl, N1 + 1, N1, .pointer (some ⟨fb, 0, none⟩), allv, N1 + 2, rfl, by omega, by omega, s1, s2, mp, hF2.frame (by omega) (fun b hb => low b (by omega) (by omega) (by omega)), fun r hr => (hL r hr).1⟩
  simp only [frz_iff]
  exact ⟨⟨fzn, fza, fzb⟩, fzw⟩
theorem open_bad (hE : E 23 = some ac23) {q : Int} (m : FM) (n : Nat) (hNew : Pure (callW PG E Y 29 [.int .i64 q] m n) m n (.tuple #[.pointer none, .int .i64 1])) :
    Pure (callW PG E Y 23 [.int .i64 q] m n) m n (.tuple #[.pointer none, .int .i64 1]) := by
  refine pure_spec hE rfl rfl ?_
  simp only [ac23]
  simp (implicitDefEqProofs := false) (disch := omega) only [WPs, opds, List.all_cons, List.all_nil, List.cons_append, List.nil_append, cond_true, cond_false, eq_self, List.map_cons, List.map_nil, Nat.reduceAdd, Nat.testBit, Nat.reduceShiftRight, Nat.reduceAnd, Nat.reduceBNe, Nat.reduceMul]
  refine use_pure hNew fun _ => ?_
  simp (implicitDefEqProofs := false) (disch := omega) only [WPs, opds, List.all_cons, List.all_nil, List.cons_append, List.nil_append, cond_true, cond_false, eq_self, List.map_cons, List.map_nil, Nat.reduceAdd, Nat.testBit, Nat.reduceShiftRight, Nat.reduceAnd, Nat.reduceBNe, Nat.reduceMul]
theorem open_big (hE : E 23 = some ac23) {q : Nat} {A T : Tab} (hq2 : 8 ≤ q) (hq7 : q ≤ 9) (m : FM) (n : Nat) (hNew : Rt (callW PG E Y 29 [.int .i64 (q : Int)] m n) (Kpt m n fun v M' N' => ∃ pv, v = .tuple #[pv, .int .i64 0] ∧ FieldM M' N' pv q A T)) :
    Pure (callW PG E Y 23 [.int .i64 (q : Int)] m n) m n (.tuple #[.pointer none, .int .i64 7]) := by
  refine pure_spec hE rfl rfl ?_
  simp only [ac23]
  simp (implicitDefEqProofs := false) (disch := omega) only [WPs, opds, List.all_cons, List.all_nil, List.cons_append, List.nil_append, cond_true, cond_false, eq_self, List.map_cons, List.map_nil, Nat.reduceAdd, Nat.testBit, Nat.reduceShiftRight, Nat.reduceAnd, Nat.reduceBNe, Nat.reduceMul]
  refine use_rt hNew fun v M1 N1 r1 w1 ⟨n1, m1, f1, pv, hv, hF⟩ => ?_
  subst hv
  have hqq : 8 * 8 ≤ q * q := Nat.mul_le_mul hq2 hq2
  have hqq2 : q * q ≤ 9 * 9 := Nat.mul_le_mul hq7 hq7
  have fz := f1 n (Nat.le_refl _)
  simp (implicitDefEqProofs := false) (disch := omega) only [WPs, opds, List.all_cons, List.all_nil, List.cons_append, List.nil_append, cond_true, cond_false, eq_self, List.map_cons, List.map_nil, Nat.reduceAdd, Nat.testBit, Nat.reduceShiftRight, Nat.reduceAnd, Nat.reduceBNe, Nat.reduceMul, fz]
end Go.Am.C06
namespace Go.Am.C06
open Go Go.Am
variable {E : Nat → Option AFn} {Y : Nat → List Value → FM → Nat → OR FM}
theorem ptCells_len : ∀ l : List P3, (ptCells l).length = l.length * 3
  | [] => rfl
  | x :: l => by
    show (x.cells ++ ptCells l).length = _
    rw [List.length_append, ptCells_len l, List.length_cons]
    show 3 + _ = _
    omega
theorem ptCells_get : ∀ (l : List P3) (i k : Nat), k < 3 → (ptCells l)[i * 3 + k]? = (l[i]?).bind fun x => x.cells[k]?
  | [], i, k, _ => by simp [ptCells]
  | x :: l, 0, k, h => by
    show (x.cells ++ ptCells l)[0 * 3 + k]? = _
    rw [Nat.zero_mul, Nat.zero_add, List.getElem?_append_left (by show k < 3; exact h)]; rfl
  | x :: l, i + 1, k, h => by
    show (x.cells ++ ptCells l)[(i + 1) * 3 + k]? = _
    rw [List.getElem?_append_right (by show 3 ≤ _; omega), show (i + 1) * 3 + k - x.cells.length = i * 3 + k by show (i + 1) * 3 + k - 3 = _; omega, ptCells_get l i k h]; rfl
theorem ptCells_at (l : List P3) {i : Nat} (hi : i < l.length) : ctake (ldrop (ptCells l) (i * 3)) 3 = some l[i].cells := by
  rw [ldrop_eq, ctake_eq, if_pos (by rw [List.length_drop, ptCells_len]; omega)]
  congr 1
  apply List.ext_getElem?
  intro k
  rw [List.getElem?_take]
  split
  · rw [List.getElem?_drop, ptCells_get l i k (by omega), List.getElem?_eq_getElem hi]; rfl
  · exact (List.getElem?_eq_none (by show 3 ≤ k; omega)).symm
def posP (p : P3) : List P3 → Nat → Int
  | [], _ => 0
  | r :: l, i => if p = r then (i : Int) else posP p l (i + 1)
def comE (A T : Tab) (ps : List P3) (a b : Int) : Int × Int :=
  if a < 0 ∨ (ps.length : Int) ≤ a ∨ b < 0 ∨ (ps.length : Int) ≤ b then (0, 2) else if a = b then (0, 9) else (posP (crossP A T (ps.getD a.toNat p0) (ps.getD b.toNat p0)) ps 0, 0)
structure Fns (E : Nat → Option AFn) : Prop where
  e23 : E 23 = some ac23
  e24 : E 24 = some ac24
  e30 : E 30 = some ac30
  e31 : E 31 = some ac31
  e33 : E 33 = some ac33
  e42 : E 42 = some ac42
  e43 : E 43 = some ac43
  e44 : E 44 = some ac44
  e45 : E 45 = some ac45
  e46 : E 46 = some ac46
  e49 : E 49 = some ac49
  e50 : E 50 = some ac50
  e51 : E 51 = some ac51
end Go.Am.C06
namespace Go.Am
open Go
def RowZ (M : FM) (n0 N b : Nat) (x : Value) (g : List Int) : Prop :=
  (g = [] ∧ x = .slice none 0 0) ∨ (g ≠ [] ∧ ∃ c, x = .slice (some ⟨c, 0, none⟩) g.length UNK ∧ n0 ≤ c ∧ c < N ∧ c ≠ b ∧ M c = some (.cells (g.map (Value.int .i64)) 1 true true))
def RowsZ (M : FM) (n0 N : Nat) (v : Value) (gs : List (List Int)) : Prop :=
  (gs = [] ∧ v = .slice none 0 0) ∨ (gs ≠ [] ∧ ∃ vs b, v = .slice (some ⟨b, 0, none⟩) gs.length UNK ∧ n0 ≤ b ∧ b < N ∧ M b = some (.cells vs 1 true true) ∧ vs.length = gs.length ∧ ∀ (i : Nat) x g, vs[i]? = some x → gs[i]? = some g → RowZ M n0 N b x g)
theorem RowZ.mv {M M' : FM} {n0 N N' b b' : Nat} {x : Value} {g : List Int} (h : RowZ M n0 N b x g) (hN : N ≤ N') (hf : ∀ c, n0 ≤ c → c < N → c ≠ b → M' c = M c) (hb : ∀ c, c < N → c ≠ b → c ≠ b') : RowZ M' n0 N' b' x g := by
  rcases h with h | ⟨h0, c, h1, h2, h3, h4, h5⟩
  · exact .inl h
  · exact .inr ⟨h0, c, h1, h2, by omega, hb c h3 h4, (hf c h2 h3 h4).trans h5⟩
theorem RowsZ.frame {M M' : FM} {n0 N N' : Nat} {v : Value} {gs : List (List Int)} (h : RowsZ M n0 N v gs) (hN : N ≤ N') (hf : ∀ b, n0 ≤ b → b < N → M' b = M b) : RowsZ M' n0 N' v gs := by
  rcases h with h | ⟨h0, vs, b, h1, h2, h3, h4, h5, h6⟩
  · exact .inl h
  · exact .inr ⟨h0, vs, b, h1, h2, by omega, (hf b h2 h3).trans h4, h5, fun i x g hx hg => (h6 i x g hx hg).mv hN (fun c k1 k2 _ => hf c k1 k2) fun c _ k => k⟩
theorem RowsZ.nil (M : FM) (n0 N : Nat) : RowsZ M n0 N (.slice none 0 0) [] := .inl ⟨rfl, rfl⟩
theorem RowZ.ints {M : FM} {n0 N b : Nat} {x : Value} {g : List Int} (h : RowZ M n0 N b x g) : Ints M N x g := by
  rcases h with ⟨rfl, rfl⟩ | ⟨h0, c, h1, h2, h3, h4, h5⟩
  · exact .inl ⟨rfl, rfl⟩
  · exact .inr <| .inl ⟨c, 0, UNK, _, true, true, by rw [List.length_map]; exact h1, h3, h5, fun i x hx => by rw [Nat.zero_add]; exact hx⟩
theorem RowsZ.rows {M : FM} {n0 N : Nat} {v : Value} {gs : List (List Int)} (h : RowsZ M n0 N v gs) : Rows M N v gs := by
  rcases h with ⟨rfl, rfl⟩ | ⟨h0, vs, b, h1, h2, h3, h4, h5, h6⟩
  · exact ⟨[], .inl ⟨rfl, rfl⟩, rfl, fun i x g hx => by simp at hx⟩
  · exact ⟨vs, .inr <| .inl ⟨b, 0, UNK, vs, true, true, by rw [h5]; exact h1, h3, h4, fun i x hx => by rw [Nat.zero_add]; exact hx⟩, h5, fun i x g hx hg => (h6 i x g hx hg).ints⟩
theorem RowsZ.len {M : FM} {n0 N : Nat} {v : Value} {gs : List (List Int)} (h : RowsZ M n0 N v gs) : lenV false v = some (.int .i64 (gs.length : Int)) := h.rows.len
theorem RowsZ.bel {M : FM} {n0 N : Nat} {v : Value} {gs : List (List Int)} (h : RowsZ M n0 N v gs) (k : Nat) (hk : N ≤ k) : belowV k v = true := by
  rcases h with ⟨_, rfl⟩ | ⟨_, vs, b, rfl, _, hb, _⟩
  · rfl
  · exact blt_true (show b < k by omega)
theorem RowsZ.one {M : FM} {n0 N : Nat} {v : Value} {gs : List (List Int)} (h : RowsZ M n0 N v gs) : Am.one v = true := by
  rcases h with ⟨_, rfl⟩ | ⟨_, vs, b, rfl, _⟩ <;> rfl
theorem RowsZ.low {M : FM} {n0 n1 N : Nat} {v : Value} {gs : List (List Int)} (h : RowsZ M n0 N v gs) (hn : n1 ≤ n0) : RowsZ M n1 N v gs := by
  rcases h with h | ⟨h0, vs, b, h1, h2, h3, h4, h5, h6⟩
  · exact .inl h
  · refine .inr ⟨h0, vs, b, h1, by omega, h3, h4, h5, fun i x g hx hg => ?_⟩
    rcases h6 i x g hx hg with h | ⟨k0, c, k1, k2, k3, k4, k5⟩
    · exact .inl h
    · exact .inr ⟨k0, c, k1, by omega, k3, k4, k5⟩
structure AppR (M : FM) (n0 N : Nat) (gs : List (List Int)) (v' : Value) (M' : FM) (N' w : Nat) : Prop where
  v : v' = .slice (some ⟨N, 0, none⟩) gs.length UNK
  n : N' = N + 1
  s : RowsZ M' n0 N' v' gs
  low : ∀ b, b < n0 → M' b = M b
  w : ∀ j, j ≤ n0 → Nat.mod w (bit j) = 0
theorem app_rowsZ {M : FM} {n0 n1 N : Nat} {v x : Value} {gs : List (List Int)} {g : List Int} (h : RowsZ M n0 n1 v gs) (hx : IntZ M n1 N x g) (h01 : n0 ≤ n1) (h1N : n1 ≤ N) (ya : Option Addr) (yc ry : Nat) (hl : gs.length ≤ 1000000) :
    Rt (appO 1 24 M N v (.slice ya 1 yc) (shown M N 1 v) (some ([x], ry))) fun v' M' N' w => AppR M n0 N (gs ++ [g]) v' M' N' w := by
  have ho : Am.one x = true := SlZ.one hx
  have newRow : ∀ (M' : FM) (b : Nat), (∀ c, n1 ≤ c → c < N → M' c = M c) → RowZ M' n0 (N + 1) N x g := fun M' b hf => by
    rcases hx with ⟨h1, h2, h3⟩ | ⟨h1, h2, c, h3, h4, h5, h6⟩
    · exact .inl ⟨List.length_eq_zero_iff.1 h1, h3⟩
    · exact .inr ⟨List.length_pos_iff.1 h1, c, h3, by omega, by omega, by omega, (hf c h4 h5).trans h6⟩
  rcases h with ⟨rfl, rfl⟩ | ⟨h0, vs, b, rfl, hb1, hb2, hm, hvl, hr⟩
  · refine (app_slT (n0 := n0) (N := N) (t := 1) (tag := fun _ => 0) (bytes := 24) (v := .slice none 0 0) (z := x) (vs := []) (.inl ⟨rfl, rfl⟩) ya yc ry (by omega) ho (by omega) (by simp)).mono fun v' M' N' w hA => ?_
    have hfr : ∀ c, c < N → M' c = M c := fun c hc => hA.fr c (by omega) (fun e => by cases e)
    refine ⟨hA.v, hA.n, .inr ⟨by simp, [x], N, hA.v, by omega, by rw [hA.n]; omega, hA.m, rfl, fun i y g' hy hg => ?_⟩, hA.low, hA.frz (by omega)⟩
    match i, hy, hg with
    | 0, hy, hg =>
      injection hy with hy; injection hg with hg
      subst hy; subst hg
      rw [hA.n]
      exact newRow M' 0 fun c _ hc => hfr c hc
    | i + 1, hy, _ => simp at hy
  · have hvne : vs ≠ [] := fun e => h0 (List.length_eq_zero_iff.1 (by rw [← hvl, e]; rfl))
    have hS : SlT M n0 N 1 (fun c => if c = b then 1 else 0) (.slice (some ⟨b, 0, none⟩) gs.length UNK) vs := .inr ⟨hvne, b, by rw [hvl], hb1, by omega, if_pos rfl, hm⟩
    refine (app_slT (n0 := n0) (N := N) (bytes := 24) (z := x) hS ya yc ry (by omega) ho (by omega) (by rw [hvl]; omega)).mono fun v' M' N' w hA => ?_
    have hfr : ∀ c, c < N → c ≠ b → M' c = M c := fun c hc hcb => hA.fr c (by omega) (by simp [hcb])
    have hlen : (vs ++ [x]).length = (gs ++ [g]).length := by rw [List.length_append, List.length_append, hvl]; rfl
    refine ⟨by rw [hA.v, hlen], hA.n, .inr ⟨by simp, vs ++ [x], N, by rw [hA.v, hlen], by omega, by rw [hA.n]; omega, hA.m, hlen, fun i y g' hy hg => ?_⟩, hA.low, hA.frz (by omega)⟩
    rw [hA.n]
    rcases Nat.lt_or_ge i gs.length with hi | hi
    · rw [List.getElem?_append_left (by rw [hvl]; exact hi)] at hy
      rw [List.getElem?_append_left hi] at hg
      exact (hr i y g' hy hg).mv (by omega) (fun c _ k2 k3 => hfr c (by omega) k3) (fun c k2 _ => by omega)
    · rw [List.getElem?_append_right (by rw [hvl]; exact hi), hvl] at hy
      rw [List.getElem?_append_right hi] at hg
      have hi0 : i - gs.length = 0 := by
        rcases Nat.eq_zero_or_pos (i - gs.length) with e | e
        · exact e
        · rw [List.getElem?_eq_none (by simp; omega)] at hy; cases hy
      rw [hi0] at hy hg
      injection hy with hy; injection hg with hg
      subst hy; subst hg
      exact newRow M' b fun c k1 hc => hfr c hc (by omega)
end Go.Am
namespace Go.Am.C06
open Go Go.Am
variable {E : Nat → Option AFn} {Y : Nat → List Value → FM → Nat → OR FM}
def lineR (A T : Tab) (l : P3) : List P3 → Nat → List Int
  | [], _ => []
  | r :: rs, i => if dotP A T l r = 0 then (i : Int) :: lineR A T l rs (i + 1) else lineR A T l rs (i + 1)
theorem lineR_app (A T : Tab) (l r : P3) : ∀ (rs : List P3) (i : Nat), lineR A T l (rs ++ [r]) i = lineR A T l rs i ++ (if dotP A T l r = 0 then [((i + rs.length : Nat) : Int)] else [])
  | [], i => by
    show (if _ then _ else _) = _
    split <;> simp [lineR]
  | x :: rs, i => by
    have ih := lineR_app A T l r rs (i + 1)
    rw [List.length_cons, show i + (rs.length + 1) = i + 1 + rs.length by omega]
    rw [List.cons_append, lineR, lineR, ih]
    split <;> simp
theorem lineR_len (A T : Tab) (l : P3) : ∀ (rs : List P3) (i : Nat), (lineR A T l rs i).length ≤ rs.length
  | [], i => Nat.le_refl _
  | x :: rs, i => by
    have ih := lineR_len A T l rs (i + 1)
    rw [lineR]
    split <;> simp only [List.length_cons] <;> omega
theorem proj_L0 (F : Fns E) {m : FM} {n1 lb : Nat} {sv allv : Value} {q : Nat} {A T : Tab} {ps : List P3} (hg : GoodT q A T) (hSp : SpaceP m n1 sv q A T) {k1 : Nat} (hA : SlZ 3 m k1 n1 allv ps.length (ptCells ps)) (hps : ∀ r ∈ ps, r.lt q) (hpl : ps.length ≤ 100000) {l : P3} (hl : l.lt q) (hlb : lb < n1) (hlm : m lb = some (.cells l.cells 0 false true))
    (y2 y5 y6 y7 y9 y10 y11 y12 y13 y14 y15 y16 y17 y18 y20 y21 y22 : Value) {Q : AX → List Value → FM → Nat → Nat → Prop}
    (hQ : ∀ gv M' N' w, n1 ≤ N' → (∀ b, b < n1 → M' b = m b) → IntZ M' n1 N' gv (lineR A T l ps 0) → (∀ j, j ≤ n1 → Nat.mod w (bit j) = 0) → ∀ y1, Q (.exit 2) [gv, y1, y2, .int .i64 (ps.length : Int), allv, y5, y6, y7, .pointer (some ⟨lb, 0, none⟩), y9, y10, y11, y12, y13, y14, y15, y16, y17, y18, sv, y20, y21, y22] M' N' w) :
    ∀ d j, j + d = ps.length → ∀ (M' : FM) (N' w0 : Nat) (gv : Value), n1 ≤ N' → (∀ b, b < n1 → M' b = m b) → IntZ M' n1 N' gv (lineR A T l (ps.take j) 0) → (∀ j, j ≤ n1 → Nat.mod w0 (bit j) = 0) →
    Gv (execW PG E Y ac12L0 [gv, .int .i64 (j : Int), y2, .int .i64 (ps.length : Int), allv, y5, y6, y7, .pointer (some ⟨lb, 0, none⟩), y9, y10, y11, y12, y13, y14, y15, y16, y17, y18, sv, y20, y21, y22] M' N') fun X e m n w => Q X e m n (Nat.lor w0 w) := by
  intro d
  induction d with
  | zero =>
    intro j hj M' N' w0 gv hN hM hZ hw
    obtain rfl : j = ps.length := by omega
    rw [List.take_length] at hZ
    refine wr_loopN (L := ac12L0) (b := ac12L0b) rfl ?_
    simp only [ac12L0b]
    simp (implicitDefEqProofs := false) (disch := omega) only [WPs, opds, List.all_cons, List.all_nil, List.cons_append, List.nil_append, cond_true, cond_false, eq_self, List.map_cons, List.map_nil, Nat.reduceAdd, Nat.testBit, Nat.reduceShiftRight, Nat.reduceAnd, Nat.reduceBNe, Nat.reduceMul]
    exact hQ _ _ _ _ hN hM hZ hw _
  | succ d ih =>
    intro j hj M' N' w0 gv hN hM hZ hw
    have hjl : j < ps.length := by omega
    have ih' := ih (j + 1) (by omega)
    rw [List.take_add_one, List.getElem?_eq_getElem hjl, Option.toList_some, lineR_app, List.length_take, Nat.min_eq_left (by omega), Nat.zero_add] at ih'
    have hA' := SlZ.frame (M' := M') (N' := N') hA hN fun b _ hb => hM b hb
    obtain ⟨b1, i1, i2, i3, i4, i5⟩ := hA'.at hjl
    have i6 := ptCells_at ps hjl
    have hr := hps _ (List.getElem_mem hjl)
    have hll := lineR_len A T l (ps.take j) 0
    rw [List.length_take] at hll
    generalize ps[j] = r at *
    have lm : ∀ B : Option Blk, (AMem.put M' N' B : FM) lb = some (.cells l.cells 0 false true) := fun B => by rw [fput_ne _ _ _ _ (by omega), hM lb hlb]; exact hlm
    have hSp2 : ∀ B : Option Blk, SpaceP (AMem.put M' N' B) (N' + 1) sv q A T := fun B => hSp.frame (by omega) fun b hb => by rw [fput_ne _ _ _ _ (by omega)]; exact hM b hb
    have fz0 : ∀ j, j ≤ n1 → Nat.mod (bit N') (bit j) = 0 := fun j hj => frz_bit (by omega)
    refine wr_loopN (L := ac12L0) (b := ac12L0b) rfl ?_
    simp only [ac12L0b]
    simp only [P3.cells] at lm i6
    simp (implicitDefEqProofs := false) (disch := omega) only [WPs, opds, List.all_cons, List.all_nil, List.cons_append, List.nil_append, cond_true, cond_false, eq_self, List.map_cons, List.map_nil, Nat.reduceAdd, Nat.testBit, Nat.reduceShiftRight, Nat.reduceAnd, Nat.reduceBNe, Nat.reduceMul, i1, i4, i6, lm]
    refine use_pure (dot_spec (Y := Y) F.e24 F.e42 F.e31 F.e30 (hSp2 _) hg hl hr) fun _ => ?_
    by_cases h0 : dotP A T l r = 0
    · rw [if_pos h0] at ih'
      simp (implicitDefEqProofs := false) (disch := omega) only [WPs, opds, List.all_cons, List.all_nil, List.cons_append, List.nil_append, cond_true, cond_false, eq_self, List.map_cons, List.map_nil, Nat.reduceAdd, Nat.testBit, Nat.reduceShiftRight, Nat.reduceAnd, Nat.reduceBNe, Nat.reduceMul, h0]
      refine use_rt (app_intZ (IntZ.frame hZ (by omega) fun b _ hb => by rw [fput_ne _ _ _ _ (by omega), fput_ne _ _ _ _ (by omega)]) (j : Int) (some ⟨N' + 1, 0, none⟩) 1 (bit (N' + 1)) (by omega) (by omega)) fun v5 M5 N5 r5 w5 ⟨e5, z5, l5, f5⟩ => ?_
      subst e5
      simp (implicitDefEqProofs := false) (disch := omega) only [WPs, opds, List.all_cons, List.all_nil, List.cons_append, List.nil_append, cond_true, cond_false, eq_self, List.map_cons, List.map_nil, Nat.reduceAdd, Nat.testBit, Nat.reduceShiftRight, Nat.reduceAnd, Nat.reduceBNe, Nat.reduceMul]
      refine wr_end (ih' _ (N' + 3) (Nat.lor w0 (Nat.lor (Nat.lor (bit N') (bit N')) (Nat.lor (bit (N' + 1)) w5))) v5 (by omega) (fun b hb => by rw [l5 b hb, fput_ne _ _ _ _ (by omega), fput_ne _ _ _ _ (by omega)]; exact hM b hb) z5 (fun j hj => by simp only [frz_iff]; exact ⟨hw j hj, ⟨fz0 j hj, fz0 j hj⟩, frz_bit (by omega), f5 j hj⟩)) fun X e m n w hq => ?_
      rw [← lor_assoc']; exact hq
    · rw [if_neg h0, List.append_nil] at ih'
      have h0' : ¬ ((dotP A T l r : Nat) : Int) = 0 := by omega
      simp (implicitDefEqProofs := false) (disch := omega) only [WPs, opds, List.all_cons, List.all_nil, List.cons_append, List.nil_append, cond_true, cond_false, eq_self, List.map_cons, List.map_nil, Nat.reduceAdd, Nat.testBit, Nat.reduceShiftRight, Nat.reduceAnd, Nat.reduceBNe, Nat.reduceMul, decide_eq_false h0']
      refine wr_end (ih' _ (N' + 1) (Nat.lor w0 (Nat.lor (bit N') (bit N'))) gv (by omega) (fun b hb => by rw [fput_ne _ _ _ _ (by omega)]; exact hM b hb) (IntZ.frame hZ (by omega) fun b _ hb => fput_ne _ _ _ _ (by omega)) (fun j hj => by simp only [frz_iff]; exact ⟨hw j hj, fz0 j hj, fz0 j hj⟩)) fun X e m n w hq => ?_
      rw [← lor_assoc']; exact hq
def projR (A T : Tab) (ps : List P3) : List (List Int) := ps.map fun l => lineR A T l ps 0
structure PrS (m : FM) (n1 db : Nat) (D : Int) (M' : FM) (N' : Nat) (gs : List (List Int)) : Prop where
  le : n1 ≤ N'
  low : ∀ b, b < n1 → b ≠ db → M' b = m b
  d : ∃ rv, M' db = some (.cells [.int .i64 D, rv] 0 false true) ∧ RowsZ M' n1 N' rv gs
theorem proj_L1 (F : Fns E) {m : FM} {nf n1 db : Nat} {D : Int} {sv allv : Value} {q : Nat} {A T : Tab} {ps : List P3} (hg : GoodT q A T) (hS : SpaceM m nf sv q A T ps) (hnf : nf ≤ db) (hdb : db < n1) {k1 : Nat} (hA : SlZ 3 m k1 nf allv ps.length (ptCells ps)) (hps : ∀ r ∈ ps, r.lt q) (hpl : ps.length ≤ 100000)
    (y1 y5 y6 y8 y9 y10 : Value) {Q : AX → List Value → FM → Nat → Nat → Prop}
    (hQ : ∀ M' N' w, PrS m n1 db D M' N' (projR A T ps) → (∀ j, j ≤ nf → Nat.mod w (bit j) = 0) → Q (.exit 0) [y1, .int .i64 (ps.length : Int), allv, .pointer (some ⟨db, 0, none⟩), y5, y6, sv, y8, y9, y10] M' N' w) :
    ∀ d j, j + d = ps.length → ∀ (M' : FM) (N' w0 : Nat), PrS m n1 db D M' N' (projR A T ps |>.take j) → (∀ j, j ≤ nf → Nat.mod w0 (bit j) = 0) →
    Gv (execW PG E Y ac12L1 [.int .i64 (j : Int), y1, .int .i64 (ps.length : Int), allv, .pointer (some ⟨db, 0, none⟩), y5, y6, sv, y8, y9, y10] M' N') fun X e m n w => Q X e m n (Nat.lor w0 w) := by
  intro d
  induction d with
  | zero =>
    intro j hj M' N' w0 hP hw
    refine wr_loopN (L := ac12L1) (b := ac12L1b) rfl ?_
    simp only [ac12L1b]
    simp (implicitDefEqProofs := false) (disch := omega) only [WPs, opds, List.all_cons, List.all_nil, List.cons_append, List.nil_append, cond_true, cond_false, eq_self, List.map_cons, List.map_nil, Nat.reduceAdd, Nat.testBit, Nat.reduceShiftRight, Nat.reduceAnd, Nat.reduceBNe, Nat.reduceMul]
    have hpl2 : (projR A T ps).length = ps.length := List.length_map ..
    rw [show j = ps.length by omega, ← hpl2, List.take_length] at hP
    exact hQ _ _ _ hP hw
  | succ d ih =>
    intro j hj M' N' w0 hP hw
    refine wr_loopN (L := ac12L1) (b := ac12L1b) rfl ?_
    simp only [ac12L1b]
    have hjl : j < ps.length := by omega
    obtain ⟨le, low, rv, d1, d2⟩ := hP
    have hA' := SlZ.frame (M' := M') (N' := N') hA (by omega) fun b _ hb => low b (by omega) (by omega)
    obtain ⟨b1, i1, i2, i3, i4, i5⟩ := hA'.at hjl
    have i6 := ptCells_at ps hjl
    have hl := hps _ (List.getElem_mem hjl)
    have hps2 : (projR A T ps).take (j + 1) = (projR A T ps).take j ++ [lineR A T ps[j] ps 0] := by
      rw [List.take_add_one, projR, List.getElem?_map, List.getElem?_eq_getElem hjl]; rfl
    have ih' := ih (j + 1) (by omega)
    rw [hps2] at ih'
    have htl : ((projR A T ps).take j).length ≤ 100000 := by rw [List.length_take]; omega
    generalize (projR A T ps).take j = gs at *
    generalize ps[j] = l at *
    simp only [P3.cells] at i6
    have hSm : SpaceM M' N' sv q A T ps := hS.frame (by omega) fun b hb => low b (by omega) (by omega)
    obtain ⟨sb, mb, pf, allv2, k2, rfl, s2, s3, s4, s5, s6, s7, s8⟩ := id hSm
    simp (implicitDefEqProofs := false) (disch := omega) only [WPs, opds, List.all_cons, List.all_nil, List.cons_append, List.nil_append, cond_true, cond_false, eq_self, List.map_cons, List.map_nil, Nat.reduceAdd, Nat.testBit, Nat.reduceShiftRight, Nat.reduceAnd, Nat.reduceBNe, Nat.reduceMul, i1, i4, i6]
    generalize hM1 : (AMem.put M' N' (some (.cells [.int .i64 (l.x : Int), .int .i64 (l.y : Int), .int .i64 (l.z : Int)] 0 false true)) : FM) = M1
    have l1 : ∀ b, b < N' → M1 b = M' b := fun b hb => by rw [← hM1, fput_ne _ _ _ _ (by omega)]
    have lb1 : M1 N' = some (.cells l.cells 0 false true) := by rw [← hM1]; exact fput_same _ _ _
    have s4' : M1 sb = some (.cells [pf, allv2, .map (some mb)] 0 false true) := (l1 sb s2).trans s4
    simp (implicitDefEqProofs := false) (disch := omega) only [WPs, opds, List.all_cons, List.all_nil, List.cons_append, List.nil_append, cond_true, cond_false, eq_self, List.map_cons, List.map_nil, Nat.reduceAdd, Nat.testBit, Nat.reduceShiftRight, Nat.reduceAnd, Nat.reduceBNe, Nat.reduceMul, s4, nilckV, s5.len]
    refine wr_kont (proj_L0 F hg (m := M1) (n1 := N' + 1) (lb := N') (sv := .pointer (some ⟨sb, 0, none⟩)) (k1 := k2) ((hSm.sp).frame (by omega) l1) (SlZ.frame s5 (by omega) fun b _ hb => l1 b hb) hps hpl hl (Nat.lt_succ_self _) lb1 _ _ _ _ _ _ _ _ _ _ _ _ _ _ _ _ _ (fun gv M2 N2 w2 n2 m2 z2 f2 y1 rr => ?_) ps.length 0 (by omega) M1 (N' + 1) 0 _ (Nat.le_refl _) (fun _ _ => rfl) (IntZ.nil _ _ _) (fun _ _ => Nat.zero_mod _))
    have d1' : M2 db = some (.cells [.int .i64 D, rv] 0 false true) := by rw [m2 db (by omega), l1 db (by omega)]; exact d1
    have hgc : gv.cells.toList = [gv] := by rcases z2 with ⟨_, _, rfl⟩ | ⟨_, _, b, rfl, _⟩ <;> rfl
    have hgo : Am.one gv = true := SlZ.one z2
    simp (implicitDefEqProofs := false) (disch := omega) only [WPs, opds, List.all_cons, List.all_nil, List.cons_append, List.nil_append, cond_true, cond_false, eq_self, List.map_cons, List.map_nil, Nat.reduceAdd, Nat.testBit, Nat.reduceShiftRight, Nat.reduceAnd, Nat.reduceBNe, Nat.reduceMul, d1', hgo, hgc]
    refine use_rt (app_rowsZ (n0 := n1) (n1 := N') (gs := gs) (g := lineR A T l ps 0) (RowsZ.frame d2 (Nat.le_refl _) fun b h1 h2 => by rw [fput_ne _ _ _ _ (by omega), m2 b (by omega), l1 b h2]) (IntZ.frame (SlZ.low z2 (by omega)) (by omega) fun b _ hb => by rw [fput_ne _ _ _ _ (by omega)]) (by omega) (by omega) (some ⟨N2, 0, none⟩) 1 (bit N2) (by omega)) fun v5 M5 N5 r5 w5 hA => ?_
    obtain ⟨av, an, as5, al, aw⟩ := hA
    subst an
    subst av
    have d5 : M5 db = some (.cells [.int .i64 D, rv] 0 false true) := by rw [al db hdb, fput_ne _ _ _ _ (by omega)]; exact d1'
    simp (implicitDefEqProofs := false) (disch := omega) only [WPs, opds, List.all_cons, List.all_nil, List.cons_append, List.nil_append, cond_true, cond_false, eq_self, List.map_cons, List.map_nil, Nat.reduceAdd, Nat.testBit, Nat.reduceShiftRight, Nat.reduceAnd, Nat.reduceBNe, Nat.reduceMul, d5]
    refine wr_end (ih' _ (N2 + 2) (Nat.lor w0 (Nat.lor (Nat.lor (Nat.lor (bit N') (bit N')) w2) (Nat.lor (Nat.lor (bit N2) w5) (bit db)))) ⟨by omega, fun b h1 h2 => by rw [fput_ne _ _ _ _ h2, al b h1, fput_ne _ _ _ _ (by omega), m2 b (by omega), l1 b (by omega)]; exact low b h1 h2, ⟨_, fput_same _ _ _, RowsZ.frame as5 (Nat.le_refl _) fun b h1 _ => fput_ne _ _ _ _ (by omega)⟩⟩ (fun j hj => by
      simp only [frz_iff]
      exact ⟨hw j hj, ⟨⟨frz_bit (by omega), frz_bit (by omega)⟩, f2 j (by omega)⟩, ⟨frz_bit (by omega), aw j (by omega)⟩, frz_bit (by omega)⟩)) fun X e m n w hq => ?_
    rw [← lor_assoc']; exact hq
def DesV (M : FM) (n0 N : Nat) (v : Value) (D : Int) (gs : List (List Int)) : Prop := ∃ rv, v = .agg #[.int .i64 D, rv] ∧ RowsZ M n0 N rv gs
theorem proj_spec (F : Fns E) (hE : E 12 = some ac12) {q : Nat} {A T : Tab} {ps : List P3} (hg : GoodT q A T) (m : FM) (n : Nat) (hpl : ps.length ≤ 100000) (hOpen : ∀ m n, Rt (callW PG E Y 23 [.int .i64 (q : Int)] m n) (Kpt m n fun v M' N' => ∃ sv, v = .tuple #[sv, .int .i64 0] ∧ SpaceM M' N' sv q A T ps)) :
    Rt (callW PG E Y 12 [.int .i64 (q : Int)] m n) (Kpt m n fun v M' N' => ∃ dv, v = .tuple #[dv, .int .i64 0] ∧ DesV M' n N' dv (ps.length : Int) (projR A T ps)) := by
  refine kept_specQ hE rfl fun Q hQ => ?_
  simp only [ac12]
  simp (implicitDefEqProofs := false) (disch := omega) only [WPs, opds, List.all_cons, List.all_nil, List.cons_append, List.nil_append, cond_true, cond_false, eq_self, List.map_cons, List.map_nil, Nat.reduceAdd, Nat.testBit, Nat.reduceShiftRight, Nat.reduceAnd, Nat.reduceBNe, Nat.reduceMul]
  refine use_rt (hOpen _ _) fun v M1 N1 r1 w1 ⟨n1, m1, f1, sv, hv, hS⟩ => ?_
  subst hv
  obtain ⟨sb, mb, pf, allv, k1, rfl, s2, s3, s4, s5, s6, s7, s8⟩ := id hS
  have hlen := s5.len
  simp (implicitDefEqProofs := false) (disch := omega) only [WPs, opds, List.all_cons, List.all_nil, List.cons_append, List.nil_append, cond_true, cond_false, eq_self, List.map_cons, List.map_nil, Nat.reduceAdd, Nat.testBit, Nat.reduceShiftRight, Nat.reduceAnd, Nat.reduceBNe, Nat.reduceMul, s4, nilckV, hlen]
  generalize hM2 : (AMem.put M1 N1 (some (.cells [.int .i64 (ps.length : Int), .slice none 0 0] 0 false true)) : FM) = M2
  have l2 : ∀ b, b < N1 → M2 b = M1 b := fun b hb => by rw [← hM2, fput_ne _ _ _ _ (by omega)]
  have d2 : M2 N1 = some (.cells [.int .i64 (ps.length : Int), .slice none 0 0] 0 false true) := by rw [← hM2]; exact fput_same _ _ _
  have hm1 : M1 n = some (.cells [.int .i64 0, .slice none 0 0] 0 false true) := (m1 n (by omega)).trans (fput_same _ _ _)
  have s4' : M2 sb = some (.cells [pf, allv, .map (some mb)] 0 false true) := (l2 sb s2).trans s4
  have fzn := f1 n (by omega)
  have fza : Nat.mod (bit N1) (bit n) = 0 := frz_bit (by omega)
  have fzb : Nat.mod (bit n) (bit n) = 0 := frz_bit (Nat.le_refl _)
  refine wr_kont (proj_L1 F hg (m := M2) (nf := N1) (n1 := N1 + 1) (db := N1) (D := (ps.length : Int)) (sv := .pointer (some ⟨sb, 0, none⟩)) (hS.frame (Nat.le_refl _) l2) (Nat.le_refl _) (Nat.lt_succ_self _) (SlZ.frame s5 (Nat.le_refl _) fun b _ hb => l2 b hb) s8 hpl _ _ _ _ _ _ (fun M3 N3 w3 hP f3 rr => ?_) ps.length 0 (by omega) M2 (N1 + 1) 0 ⟨Nat.le_refl _, fun _ _ _ => rfl, ⟨_, d2, RowsZ.nil _ _ _⟩⟩ (fun _ _ => Nat.zero_mod _))
  obtain ⟨le3, low3, rv, e3, g3⟩ := hP
  have hm3 : M3 n = some (.cells [.int .i64 0, .slice none 0 0] 0 false true) := by rw [low3 n (by omega) (by omega), l2 n (by omega)]; exact hm1
  have hrb : Am.one rv = true := g3.one
  have fz3 := f3 n (by omega)
  simp (implicitDefEqProofs := false) (disch := omega) only [WPs, opds, List.all_cons, List.all_nil, List.cons_append, List.nil_append, cond_true, cond_false, eq_self, List.map_cons, List.map_nil, Nat.reduceAdd, Nat.testBit, Nat.reduceShiftRight, Nat.reduceAnd, Nat.reduceBNe, Nat.reduceMul, e3, hm3, hrb]
  refine hQ _ _ _ _ _ (by omega) (fun b hb => by rw [fput_ne _ _ _ _ (by omega), low3 b (by omega) (by omega), l2 b (by omega), m1 b (by omega), fput_ne _ _ _ _ (by omega)]) ?_ rfl ⟨_, rfl, rv, rfl, RowsZ.low (RowsZ.frame g3 (Nat.le_refl _) fun b h1 _ => fput_ne _ _ _ _ (by omega)) (by omega)⟩
  simp only [frz_iff]
  exact ⟨⟨⟨⟨fzb, fzn⟩, fza, fza⟩, fz3⟩, fzb⟩
theorem proj_bad (hE : E 12 = some ac12) {q er : Int} (hne : er ≠ 0) (m : FM) (n : Nat) (hOpen : ∀ m n, Pure (callW PG E Y 23 [.int .i64 q] m n) m n (.tuple #[.pointer none, .int .i64 er])) :
    Rt (callW PG E Y 12 [.int .i64 q] m n) (Kpt m n fun v M' N' => ∃ dv, v = .tuple #[dv, .int .i64 er] ∧ DesV M' n N' dv 0 []) := by
  refine kept_specQ hE rfl fun Q hQ => ?_
  simp only [ac12]
  have fzb : Nat.mod (bit n) (bit n) = 0 := frz_bit (Nat.le_refl _)
  simp (implicitDefEqProofs := false) (disch := omega) only [WPs, opds, List.all_cons, List.all_nil, List.cons_append, List.nil_append, cond_true, cond_false, eq_self, List.map_cons, List.map_nil, Nat.reduceAdd, Nat.testBit, Nat.reduceShiftRight, Nat.reduceAnd, Nat.reduceBNe, Nat.reduceMul]
  refine use_pure (hOpen _ _) fun _ => ?_
  simp (implicitDefEqProofs := false) (disch := omega) only [WPs, opds, List.all_cons, List.all_nil, List.cons_append, List.nil_append, cond_true, cond_false, eq_self, List.map_cons, List.map_nil, Nat.reduceAdd, Nat.testBit, Nat.reduceShiftRight, Nat.reduceAnd, Nat.reduceBNe, Nat.reduceMul, decide_eq_false hne]
  refine hQ _ _ _ _ _ (by omega) (fun b hb => by rw [fput_ne _ _ _ _ (by omega)]) ?_ rfl ⟨_, rfl, _, rfl, RowsZ.nil _ _ _⟩
  simp only [frz_iff, fzb, and_self]
end Go.Am.C06
namespace Go.Am.C06
open Go Go.Am
variable {E : Nat → Option AFn} {Y : Nat → List Value → FM → Nat → OR FM}
def rowA (A T : Tab) (q m b j : Nat) : List Int := (List.range j).map fun x => ((q * x + addN A (addN T m x) b : Nat) : Int)
theorem rowA_succ (A T : Tab) (q m b j : Nat) : rowA A T q m b (j + 1) = rowA A T q m b j ++ [((q * j + addN A (addN T m j) b : Nat) : Int)] := by
  rw [rowA, List.range_succ, List.map_append]; rfl
theorem rowA_len (A T : Tab) (q m b j : Nat) : (rowA A T q m b j).length = j := by simp [rowA]
def rowV (q x j : Nat) : List Int := (List.range j).map fun y => ((q * x + y : Nat) : Int)
theorem rowV_succ (q x j : Nat) : rowV q x (j + 1) = rowV q x j ++ [((q * x + j : Nat) : Int)] := by
  rw [rowV, List.range_succ, List.map_append]; rfl
theorem rowV_len (q x j : Nat) : (rowV q x j).length = j := by simp [rowV]
def rowsB (A T : Tab) (q m : Nat) (gs : List (List Int)) : Nat → List (List Int)
  | 0 => gs
  | b + 1 => rowsB A T q m gs b ++ [rowA A T q m b q]
def rowsM (A T : Tab) (q : Nat) : Nat → List (List Int)
  | 0 => []
  | m + 1 => rowsB A T q m (rowsM A T q m) q
def rowsX (q : Nat) (gs : List (List Int)) : Nat → List (List Int)
  | 0 => gs
  | x + 1 => rowsX q gs x ++ [rowV q x q]
def affR (A T : Tab) (q : Nat) : List (List Int) := rowsX q (rowsM A T q q) q
theorem rowsB_len (A T : Tab) (q m : Nat) (gs : List (List Int)) : ∀ b, (rowsB A T q m gs b).length = gs.length + b
  | 0 => rfl
  | b + 1 => by rw [rowsB, List.length_append, rowsB_len A T q m gs b]; rfl
theorem rowsM_len (A T : Tab) (q : Nat) : ∀ m, (rowsM A T q m).length = m * q
  | 0 => by rw [Nat.zero_mul]; rfl
  | m + 1 => by rw [rowsM, rowsB_len, rowsM_len A T q m, Nat.succ_mul]
theorem rowsX_len (q : Nat) (gs : List (List Int)) : ∀ x, (rowsX q gs x).length = gs.length + x
  | 0 => rfl
  | x + 1 => by rw [rowsX, List.length_append, rowsX_len q gs x]; rfl
theorem aff_L0 (h30 : E 30 = some ac30) (h31 : E 31 = some ac31) (h42 : E 42 = some ac42) {m0 : FM} {n1 : Nat} {pf : Value} {q : Nat} {A T : Tab} (hg : GoodT q A T) (hF : FieldM m0 n1 pf q A T) {m b : Nat} (hm : m < q) (hb : b < q)
    (y2 y3 y4 y6 y7 y9 y10 y11 y12 y13 y15 y16 : Value) {Q : AX → List Value → FM → Nat → Nat → Prop}
    (hQ : ∀ gv M' N' w, n1 ≤ N' → (∀ b, b < n1 → M' b = m0 b) → IntZ M' n1 N' gv (rowA A T q m b q) → (∀ j, j ≤ n1 → Nat.mod w (bit j) = 0) → ∀ y1, Q (.exit 4) [gv, y1, y2, y3, y4, .int .i64 (b : Int), y6, y7, .int .i64 (m : Int), y9, y10, y11, y12, y13, pf, y15, y16, .int .i64 (q : Int)] M' N' w) :
    ∀ d x, x + d = q → ∀ (M' : FM) (N' w0 : Nat) (gv : Value), n1 ≤ N' → (∀ b, b < n1 → M' b = m0 b) → IntZ M' n1 N' gv (rowA A T q m b x) → (∀ j, j ≤ n1 → Nat.mod w0 (bit j) = 0) →
    Gv (execW PG E Y ac16L0 [gv, .int .i64 (x : Int), y2, y3, y4, .int .i64 (b : Int), y6, y7, .int .i64 (m : Int), y9, y10, y11, y12, y13, pf, y15, y16, .int .i64 (q : Int)] M' N') fun X e m n w => Q X e m n (Nat.lor w0 w) := by
  have hq := hg.small
  intro d
  induction d with
  | zero =>
    intro x hx M' N' w0 gv hN hM hZ hw
    obtain rfl : x = q := by omega
    refine wr_loopN (L := ac16L0) (b := ac16L0b) rfl ?_
    simp only [ac16L0b]
    simp (implicitDefEqProofs := false) (disch := omega) only [WPs, opds, List.all_cons, List.all_nil, List.cons_append, List.nil_append, cond_true, cond_false, eq_self, List.map_cons, List.map_nil, Nat.reduceAdd, Nat.testBit, Nat.reduceShiftRight, Nat.reduceAnd, Nat.reduceBNe, Nat.reduceMul]
    exact hQ _ _ _ _ hN hM hZ hw _
  | succ d ih =>
    intro x hx M' N' w0 gv hN hM hZ hw
    have hxq : x < q := by omega
    have ih' := ih (x + 1) (by omega)
    rw [rowA_succ] at ih'
    obtain ⟨t1, t2⟩ := hg.mulE hm hxq
    obtain ⟨u1, u2⟩ := hg.addE t2 hb
    have hll := rowA_len A T q m b x
    have hF' := hF.frame hN hM
    have hqx : q * x ≤ 1000 * 1000 := Nat.mul_le_mul (by omega) (by omega)
    refine wr_loopN (L := ac16L0) (b := ac16L0b) rfl ?_
    simp only [ac16L0b]
    simp (implicitDefEqProofs := false) (disch := omega) only [WPs, opds, List.all_cons, List.all_nil, List.cons_append, List.nil_append, cond_true, cond_false, eq_self, List.map_cons, List.map_nil, Nat.reduceAdd, Nat.testBit, Nat.reduceShiftRight, Nat.reduceAnd, Nat.reduceBNe, Nat.reduceMul]
    refine use_pure (mul_spec h31 h42 hF' hm hxq) fun _ => ?_
    rw [t1]
    simp (implicitDefEqProofs := false) (disch := omega) only [WPs, opds, List.all_cons, List.all_nil, List.cons_append, List.nil_append, cond_true, cond_false, eq_self, List.map_cons, List.map_nil, Nat.reduceAdd, Nat.testBit, Nat.reduceShiftRight, Nat.reduceAnd, Nat.reduceBNe, Nat.reduceMul]
    refine use_pure (add_spec h30 h42 hF' t2 hb) fun _ => ?_
    rw [u1]
    generalize addN A (addN T m x) b = u at *
    simp (implicitDefEqProofs := false) (disch := omega) only [WPs, opds, List.all_cons, List.all_nil, List.cons_append, List.nil_append, cond_true, cond_false, eq_self, List.map_cons, List.map_nil, Nat.reduceAdd, Nat.testBit, Nat.reduceShiftRight, Nat.reduceAnd, Nat.reduceBNe, Nat.reduceMul]
    refine use_rt (app_intZ (IntZ.frame hZ (by omega) fun b _ hb => by rw [fput_ne _ _ _ _ (by omega)]) ((q * x + u : Nat) : Int) (some ⟨N', 0, none⟩) 1 (bit N') (by omega) (by omega)) fun v5 M5 N5 r5 w5 ⟨e5, z5, l5, f5⟩ => ?_
    subst e5
    simp (implicitDefEqProofs := false) (disch := omega) only [WPs, opds, List.all_cons, List.all_nil, List.cons_append, List.nil_append, cond_true, cond_false, eq_self, List.map_cons, List.map_nil, Nat.reduceAdd, Nat.testBit, Nat.reduceShiftRight, Nat.reduceAnd, Nat.reduceBNe, Nat.reduceMul]
    refine wr_end (ih' _ (N' + 2) (Nat.lor w0 (Nat.lor (bit N') w5)) v5 (by omega) (fun b hb => by rw [l5 b hb, fput_ne _ _ _ _ (by omega)]; exact hM b hb) z5 (fun j hj => by simp only [frz_iff]; exact ⟨hw j hj, frz_bit (by omega), f5 j hj⟩)) fun X e m n w hq => ?_
    rw [← lor_assoc']; exact hq
theorem aff_L3 {m0 : FM} {n1 : Nat} {q : Nat} (hq : q < 1000) {x : Nat} (hx : x < q)
    (y2 y3 y4 y6 y7 y8 y9 y10 y11 y12 y13 y14 : Value) {Q : AX → List Value → FM → Nat → Nat → Prop}
    (hQ : ∀ gv M' N' w, n1 ≤ N' → (∀ b, b < n1 → M' b = m0 b) → IntZ M' n1 N' gv (rowV q x q) → (∀ j, j ≤ n1 → Nat.mod w (bit j) = 0) → ∀ y1, Q (.exit 8) [gv, y1, y2, y3, y4, .int .i64 (x : Int), y6, y7, y8, y9, y10, y11, y12, y13, y14, .int .i64 (q : Int)] M' N' w) :
    ∀ d y, y + d = q → ∀ (M' : FM) (N' w0 : Nat) (gv : Value), n1 ≤ N' → (∀ b, b < n1 → M' b = m0 b) → IntZ M' n1 N' gv (rowV q x y) → (∀ j, j ≤ n1 → Nat.mod w0 (bit j) = 0) →
    Gv (execW PG E Y ac16L3 [gv, .int .i64 (y : Int), y2, y3, y4, .int .i64 (x : Int), y6, y7, y8, y9, y10, y11, y12, y13, y14, .int .i64 (q : Int)] M' N') fun X e m n w => Q X e m n (Nat.lor w0 w) := by
  intro d
  induction d with
  | zero =>
    intro y hy M' N' w0 gv hN hM hZ hw
    obtain rfl : y = q := by omega
    refine wr_loopN (L := ac16L3) (b := ac16L3b) rfl ?_
    simp only [ac16L3b]
    simp (implicitDefEqProofs := false) (disch := omega) only [WPs, opds, List.all_cons, List.all_nil, List.cons_append, List.nil_append, cond_true, cond_false, eq_self, List.map_cons, List.map_nil, Nat.reduceAdd, Nat.testBit, Nat.reduceShiftRight, Nat.reduceAnd, Nat.reduceBNe, Nat.reduceMul]
    exact hQ _ _ _ _ hN hM hZ hw _
  | succ d ih =>
    intro y hy M' N' w0 gv hN hM hZ hw
    have ih' := ih (y + 1) (by omega)
    rw [rowV_succ] at ih'
    have hll := rowV_len q x y
    have hqx : q * x ≤ 1000 * 1000 := Nat.mul_le_mul (by omega) (by omega)
    refine wr_loopN (L := ac16L3) (b := ac16L3b) rfl ?_
    simp only [ac16L3b]
    simp (implicitDefEqProofs := false) (disch := omega) only [WPs, opds, List.all_cons, List.all_nil, List.cons_append, List.nil_append, cond_true, cond_false, eq_self, List.map_cons, List.map_nil, Nat.reduceAdd, Nat.testBit, Nat.reduceShiftRight, Nat.reduceAnd, Nat.reduceBNe, Nat.reduceMul]
    refine use_rt (app_intZ (IntZ.frame hZ (by omega) fun b _ hb => by rw [fput_ne _ _ _ _ (by omega)]) ((q * x + y : Nat) : Int) (some ⟨N', 0, none⟩) 1 (bit N') (by omega) (by omega)) fun v5 M5 N5 r5 w5 ⟨e5, z5, l5, f5⟩ => ?_
    subst e5
    simp (implicitDefEqProofs := false) (disch := omega) only [WPs, opds, List.all_cons, List.all_nil, List.cons_append, List.nil_append, cond_true, cond_false, eq_self, List.map_cons, List.map_nil, Nat.reduceAdd, Nat.testBit, Nat.reduceShiftRight, Nat.reduceAnd, Nat.reduceBNe, Nat.reduceMul]
    refine wr_end (ih' _ (N' + 2) (Nat.lor w0 (Nat.lor (bit N') w5)) v5 (by omega) (fun b hb => by rw [l5 b hb, fput_ne _ _ _ _ (by omega)]; exact hM b hb) z5 (fun j hj => by simp only [frz_iff]; exact ⟨hw j hj, frz_bit (by omega), f5 j hj⟩)) fun X e m n w hq => ?_
    rw [← lor_assoc']; exact hq
theorem aff_L1 (h30 : E 30 = some ac30) (h31 : E 31 = some ac31) (h42 : E 42 = some ac42) {m0 : FM} {nf n1 db : Nat} {D : Int} {pf : Value} {q : Nat} {A T : Tab} (hg : GoodT q A T) (hF : FieldM m0 nf pf q A T) (hnf : nf ≤ db) (hdb : db < n1) {m : Nat} (hm : m < q) {gs : List (List Int)} (hgl : gs.length ≤ 100000)
    (y1 y2 y4 y6 y7 y8 y10 y11 : Value) {Q : AX → List Value → FM → Nat → Nat → Prop}
    (hQ : ∀ M' N' w, PrS m0 n1 db D M' N' (rowsB A T q m gs q) → (∀ j, j ≤ nf → Nat.mod w (bit j) = 0) → ∀ y0, Q (.exit 2) [y0, y1, y2, .int .i64 (m : Int), y4, .pointer (some ⟨db, 0, none⟩), y6, y7, y8, pf, y10, y11, .int .i64 (q : Int)] M' N' w) :
    ∀ d b, b + d = q → ∀ (M' : FM) (N' w0 : Nat), PrS m0 n1 db D M' N' (rowsB A T q m gs b) → (∀ j, j ≤ nf → Nat.mod w0 (bit j) = 0) →
    Gv (execW PG E Y ac16L1 [.int .i64 (b : Int), y1, y2, .int .i64 (m : Int), y4, .pointer (some ⟨db, 0, none⟩), y6, y7, y8, pf, y10, y11, .int .i64 (q : Int)] M' N') fun X e m n w => Q X e m n (Nat.lor w0 w) := by
  have hq := hg.small
  intro d
  induction d with
  | zero =>
    intro b hb M' N' w0 hP hw
    obtain rfl : b = q := by omega
    refine wr_loopN (L := ac16L1) (b := ac16L1b) rfl ?_
    simp only [ac16L1b]
    simp (implicitDefEqProofs := false) (disch := omega) only [WPs, opds, List.all_cons, List.all_nil, List.cons_append, List.nil_append, cond_true, cond_false, eq_self, List.map_cons, List.map_nil, Nat.reduceAdd, Nat.testBit, Nat.reduceShiftRight, Nat.reduceAnd, Nat.reduceBNe, Nat.reduceMul]
    exact hQ _ _ _ hP hw _
  | succ d ih =>
    intro b hb M' N' w0 hP hw
    have hbq : b < q := by omega
    have ih' := ih (b + 1) (by omega)
    rw [rowsB] at ih'
    have hgl2 := rowsB_len A T q m gs b
    generalize rowsB A T q m gs b = hs at *
    obtain ⟨le, low, rv, d1, d2⟩ := hP
    have hF' : FieldM M' N' pf q A T := hF.frame (by omega) fun b hb => low b (by omega) (by omega)
    refine wr_loopN (L := ac16L1) (b := ac16L1b) rfl ?_
    simp only [ac16L1b]
    simp (implicitDefEqProofs := false) (disch := omega) only [WPs, opds, List.all_cons, List.all_nil, List.cons_append, List.nil_append, cond_true, cond_false, eq_self, List.map_cons, List.map_nil, Nat.reduceAdd, Nat.testBit, Nat.reduceShiftRight, Nat.reduceAnd, Nat.reduceBNe, Nat.reduceMul]
    refine wr_kont (aff_L0 h30 h31 h42 (m0 := M') (n1 := N') hg hF' hm hbq _ _ _ _ _ _ _ _ _ _ _ _ (fun gv M2 N2 w2 n2 m2 z2 f2 y1 rr => ?_) q 0 (by omega) M' N' 0 _ (Nat.le_refl _) (fun _ _ => rfl) (IntZ.nil _ _ _) (fun _ _ => Nat.zero_mod _))
    have d1' : M2 db = some (.cells [.int .i64 D, rv] 0 false true) := by rw [m2 db (by omega)]; exact d1
    have hgc : gv.cells.toList = [gv] := by rcases z2 with ⟨_, _, rfl⟩ | ⟨_, _, b, rfl, _⟩ <;> rfl
    have hgo : Am.one gv = true := SlZ.one z2
    simp (implicitDefEqProofs := false) (disch := omega) only [WPs, opds, List.all_cons, List.all_nil, List.cons_append, List.nil_append, cond_true, cond_false, eq_self, List.map_cons, List.map_nil, Nat.reduceAdd, Nat.testBit, Nat.reduceShiftRight, Nat.reduceAnd, Nat.reduceBNe, Nat.reduceMul, d1', hgo, hgc]
    refine use_rt (app_rowsZ (n0 := n1) (n1 := N') (gs := hs) (g := rowA A T q m b q) (RowsZ.frame d2 (Nat.le_refl _) fun b h1 h2 => by rw [fput_ne _ _ _ _ (by omega), m2 b (by omega)]) (IntZ.frame z2 (by omega) fun b _ hb => by rw [fput_ne _ _ _ _ (by omega)]) (by omega) (by omega) (some ⟨N2, 0, none⟩) 1 (bit N2) (by omega)) fun v5 M5 N5 r5 w5 hA => ?_
    obtain ⟨av, an, as5, al, aw⟩ := hA
    subst an
    subst av
    have d5 : M5 db = some (.cells [.int .i64 D, rv] 0 false true) := by rw [al db hdb, fput_ne _ _ _ _ (by omega)]; exact d1'
    simp (implicitDefEqProofs := false) (disch := omega) only [WPs, opds, List.all_cons, List.all_nil, List.cons_append, List.nil_append, cond_true, cond_false, eq_self, List.map_cons, List.map_nil, Nat.reduceAdd, Nat.testBit, Nat.reduceShiftRight, Nat.reduceAnd, Nat.reduceBNe, Nat.reduceMul, d5]
    refine wr_end (ih' _ (N2 + 2) (Nat.lor w0 (Nat.lor w2 (Nat.lor (Nat.lor (bit N2) w5) (bit db)))) ⟨by omega, fun b h1 h2 => by rw [fput_ne _ _ _ _ h2, al b h1, fput_ne _ _ _ _ (by omega), m2 b (by omega)]; exact low b h1 h2, ⟨_, fput_same _ _ _, RowsZ.frame as5 (Nat.le_refl _) fun b h1 _ => fput_ne _ _ _ _ (by omega)⟩⟩ (fun j hj => by
      simp only [frz_iff]
      exact ⟨hw j hj, f2 j (by omega), ⟨frz_bit (by omega), aw j (by omega)⟩, frz_bit (by omega)⟩)) fun X e m n w hq => ?_
    rw [← lor_assoc']; exact hq
theorem aff_L4 {m0 : FM} {nf n1 db : Nat} {D : Int} {q : Nat} (hq : q < 1000) (hnf : nf ≤ db) (hdb : db < n1) {gs : List (List Int)} (hgl : gs.length ≤ 100000)
    (y1 y2 y4 y5 y6 y7 y8 y9 : Value) {Q : AX → List Value → FM → Nat → Nat → Prop}
    (hQ : ∀ M' N' w, PrS m0 n1 db D M' N' (rowsX q gs q) → (∀ j, j ≤ nf → Nat.mod w (bit j) = 0) → Q (.exit 6) [y1, y2, .pointer (some ⟨db, 0, none⟩), y4, y5, y6, y7, y8, y9, .int .i64 (q : Int)] M' N' w) :
    ∀ d x, x + d = q → ∀ (M' : FM) (N' w0 : Nat), PrS m0 n1 db D M' N' (rowsX q gs x) → (∀ j, j ≤ nf → Nat.mod w0 (bit j) = 0) →
    Gv (execW PG E Y ac16L4 [.int .i64 (x : Int), y1, y2, .pointer (some ⟨db, 0, none⟩), y4, y5, y6, y7, y8, y9, .int .i64 (q : Int)] M' N') fun X e m n w => Q X e m n (Nat.lor w0 w) := by
  intro d
  induction d with
  | zero =>
    intro x hx M' N' w0 hP hw
    obtain rfl : x = q := by omega
    refine wr_loopN (L := ac16L4) (b := ac16L4b) rfl ?_
    simp only [ac16L4b]
    simp (implicitDefEqProofs := false) (disch := omega) only [WPs, opds, List.all_cons, List.all_nil, List.cons_append, List.nil_append, cond_true, cond_false, eq_self, List.map_cons, List.map_nil, Nat.reduceAdd, Nat.testBit, Nat.reduceShiftRight, Nat.reduceAnd, Nat.reduceBNe, Nat.reduceMul]
    exact hQ _ _ _ hP hw
  | succ d ih =>
    intro x hx M' N' w0 hP hw
    have hxq : x < q := by omega
    have ih' := ih (x + 1) (by omega)
    rw [rowsX] at ih'
    have hgl2 := rowsX_len q gs x
    generalize rowsX q gs x = hs at *
    obtain ⟨le, low, rv, d1, d2⟩ := hP
    refine wr_loopN (L := ac16L4) (b := ac16L4b) rfl ?_
    simp only [ac16L4b]
    simp (implicitDefEqProofs := false) (disch := omega) only [WPs, opds, List.all_cons, List.all_nil, List.cons_append, List.nil_append, cond_true, cond_false, eq_self, List.map_cons, List.map_nil, Nat.reduceAdd, Nat.testBit, Nat.reduceShiftRight, Nat.reduceAnd, Nat.reduceBNe, Nat.reduceMul]
    refine wr_kont (aff_L3 (m0 := M') (n1 := N') hq hxq _ _ _ _ _ _ _ _ _ _ _ _ (fun gv M2 N2 w2 n2 m2 z2 f2 y1 rr => ?_) q 0 (by omega) M' N' 0 _ (Nat.le_refl _) (fun _ _ => rfl) (IntZ.nil _ _ _) (fun _ _ => Nat.zero_mod _))
    have d1' : M2 db = some (.cells [.int .i64 D, rv] 0 false true) := by rw [m2 db (by omega)]; exact d1
    have hgc : gv.cells.toList = [gv] := by rcases z2 with ⟨_, _, rfl⟩ | ⟨_, _, b, rfl, _⟩ <;> rfl
    have hgo : Am.one gv = true := SlZ.one z2
    simp (implicitDefEqProofs := false) (disch := omega) only [WPs, opds, List.all_cons, List.all_nil, List.cons_append, List.nil_append, cond_true, cond_false, eq_self, List.map_cons, List.map_nil, Nat.reduceAdd, Nat.testBit, Nat.reduceShiftRight, Nat.reduceAnd, Nat.reduceBNe, Nat.reduceMul, d1', hgo, hgc]
    refine use_rt (app_rowsZ (n0 := n1) (n1 := N') (gs := hs) (g := rowV q x q) (RowsZ.frame d2 (Nat.le_refl _) fun b h1 h2 => by rw [fput_ne _ _ _ _ (by omega), m2 b (by omega)]) (IntZ.frame z2 (by omega) fun b _ hb => by rw [fput_ne _ _ _ _ (by omega)]) (by omega) (by omega) (some ⟨N2, 0, none⟩) 1 (bit N2) (by omega)) fun v5 M5 N5 r5 w5 hA => ?_
    obtain ⟨av, an, as5, al, aw⟩ := hA
    subst an
    subst av
    have d5 : M5 db = some (.cells [.int .i64 D, rv] 0 false true) := by rw [al db hdb, fput_ne _ _ _ _ (by omega)]; exact d1'
    simp (implicitDefEqProofs := false) (disch := omega) only [WPs, opds, List.all_cons, List.all_nil, List.cons_append, List.nil_append, cond_true, cond_false, eq_self, List.map_cons, List.map_nil, Nat.reduceAdd, Nat.testBit, Nat.reduceShiftRight, Nat.reduceAnd, Nat.reduceBNe, Nat.reduceMul, d5]
    refine wr_end (ih' _ (N2 + 2) (Nat.lor w0 (Nat.lor w2 (Nat.lor (Nat.lor (bit N2) w5) (bit db)))) ⟨by omega, fun b h1 h2 => by rw [fput_ne _ _ _ _ h2, al b h1, fput_ne _ _ _ _ (by omega), m2 b (by omega)]; exact low b h1 h2, ⟨_, fput_same _ _ _, RowsZ.frame as5 (Nat.le_refl _) fun b h1 _ => fput_ne _ _ _ _ (by omega)⟩⟩ (fun j hj => by
      simp only [frz_iff]
      exact ⟨hw j hj, f2 j (by omega), ⟨frz_bit (by omega), aw j (by omega)⟩, frz_bit (by omega)⟩)) fun X e m n w hq => ?_
    rw [← lor_assoc']; exact hq
theorem aff_L2 (h30 : E 30 = some ac30) (h31 : E 31 = some ac31) (h42 : E 42 = some ac42) {m0 : FM} {nf n1 db : Nat} {D : Int} {pf : Value} {q : Nat} {A T : Tab} (hg : GoodT q A T) (hq9 : q ≤ 9) (hF : FieldM m0 nf pf q A T) (hnf : nf ≤ db) (hdb : db < n1)
    (y1 y3 y4 y5 y7 y8 : Value) {Q : AX → List Value → FM → Nat → Nat → Prop}
    (hQ : ∀ M' N' w, PrS m0 n1 db D M' N' (rowsM A T q q) → (∀ j, j ≤ nf → Nat.mod w (bit j) = 0) → Q (.exit 0) [y1, .pointer (some ⟨db, 0, none⟩), y3, y4, y5, pf, y7, y8, .int .i64 (q : Int)] M' N' w) :
    ∀ d m, m + d = q → ∀ (M' : FM) (N' w0 : Nat), PrS m0 n1 db D M' N' (rowsM A T q m) → (∀ j, j ≤ nf → Nat.mod w0 (bit j) = 0) →
    Gv (execW PG E Y ac16L2 [.int .i64 (m : Int), y1, .pointer (some ⟨db, 0, none⟩), y3, y4, y5, pf, y7, y8, .int .i64 (q : Int)] M' N') fun X e m n w => Q X e m n (Nat.lor w0 w) := by
  intro d
  induction d with
  | zero =>
    intro m hm M' N' w0 hP hw
    obtain rfl : m = q := by omega
    refine wr_loopN (L := ac16L2) (b := ac16L2b) rfl ?_
    simp only [ac16L2b]
    simp (implicitDefEqProofs := false) (disch := omega) only [WPs, opds, List.all_cons, List.all_nil, List.cons_append, List.nil_append, cond_true, cond_false, eq_self, List.map_cons, List.map_nil, Nat.reduceAdd, Nat.testBit, Nat.reduceShiftRight, Nat.reduceAnd, Nat.reduceBNe, Nat.reduceMul]
    exact hQ _ _ _ hP hw
  | succ d ih =>
    intro m hm M' N' w0 hP hw
    have hl := rowsM_len A T q m
    have hmq : m * q ≤ 9 * 9 := Nat.mul_le_mul (by omega) hq9
    refine wr_loopN (L := ac16L2) (b := ac16L2b) rfl ?_
    simp only [ac16L2b]
    simp (implicitDefEqProofs := false) (disch := omega) only [WPs, opds, List.all_cons, List.all_nil, List.cons_append, List.nil_append, cond_true, cond_false, eq_self, List.map_cons, List.map_nil, Nat.reduceAdd, Nat.testBit, Nat.reduceShiftRight, Nat.reduceAnd, Nat.reduceBNe, Nat.reduceMul]
    refine wr_kont (aff_L1 h30 h31 h42 hg hF hnf hdb (m := m) (by omega) (gs := rowsM A T q m) (by omega) _ _ _ _ _ _ _ _ (fun M2 N2 w2 hP2 hw2 y0 rr => ?_) q 0 (by omega) M' N' 0 hP (fun _ _ => Nat.zero_mod _))
    simp (implicitDefEqProofs := false) (disch := omega) only [WPs, opds, List.all_cons, List.all_nil, List.cons_append, List.nil_append, cond_true, cond_false, eq_self, List.map_cons, List.map_nil, Nat.reduceAdd, Nat.testBit, Nat.reduceShiftRight, Nat.reduceAnd, Nat.reduceBNe, Nat.reduceMul]
    refine wr_end (ih (m + 1) (by omega) M2 N2 (Nat.lor w0 w2) hP2 (fun j hj => by rw [frz_iff]; exact ⟨hw j hj, hw2 j hj⟩)) fun X e m n w hq => ?_
    rw [← lor_assoc']; exact hq
theorem aff_spec (hE : E 16 = some ac16) (h30 : E 30 = some ac30) (h31 : E 31 = some ac31) (h42 : E 42 = some ac42) {q : Nat} {A T : Tab} (hq7 : q ≤ 7) (hg : GoodT q A T) (m : FM) (n : Nat) (hNew : ∀ m n, Rt (callW PG E Y 29 [.int .i64 (q : Int)] m n) (Kpt m n fun v M' N' => ∃ pv, v = .tuple #[pv, .int .i64 0] ∧ FieldM M' N' pv q A T)) :
    Rt (callW PG E Y 16 [.int .i64 (q : Int)] m n) (Kpt m n fun v M' N' => ∃ dv, v = .tuple #[dv, .int .i64 0] ∧ DesV M' n N' dv ((q * q : Nat) : Int) (affR A T q)) := by
  refine kept_specQ hE rfl fun Q hQ => ?_
  simp only [ac16]
  have hqq : q * q ≤ 7 * 7 := Nat.mul_le_mul hq7 hq7
  simp (implicitDefEqProofs := false) (disch := omega) only [WPs, opds, List.all_cons, List.all_nil, List.cons_append, List.nil_append, cond_true, cond_false, eq_self, List.map_cons, List.map_nil, Nat.reduceAdd, Nat.testBit, Nat.reduceShiftRight, Nat.reduceAnd, Nat.reduceBNe, Nat.reduceMul]
  refine use_rt (hNew _ _) fun v M1 N1 r1 w1 ⟨n1, m1, f1, pv, hv, hF⟩ => ?_
  subst hv
  simp (implicitDefEqProofs := false) (disch := omega) only [WPs, opds, List.all_cons, List.all_nil, List.cons_append, List.nil_append, cond_true, cond_false, eq_self, List.map_cons, List.map_nil, Nat.reduceAdd, Nat.testBit, Nat.reduceShiftRight, Nat.reduceAnd, Nat.reduceBNe, Nat.reduceMul]
  generalize hM2 : (AMem.put M1 N1 (some (.cells [.int .i64 ((q * q : Nat) : Int), .slice none 0 0] 0 false true)) : FM) = M2
  have l2 : ∀ b, b < N1 → M2 b = M1 b := fun b hb => by rw [← hM2, fput_ne _ _ _ _ (by omega)]
  have d2 : M2 N1 = some (.cells [.int .i64 ((q * q : Nat) : Int), .slice none 0 0] 0 false true) := by rw [← hM2]; exact fput_same _ _ _
  have hm1 : M1 n = some (.cells [.int .i64 0, .slice none 0 0] 0 false true) := (m1 n (by omega)).trans (fput_same _ _ _)
  have fzn := f1 n (by omega)
  have fza : Nat.mod (bit N1) (bit n) = 0 := frz_bit (by omega)
  have fzb : Nat.mod (bit n) (bit n) = 0 := frz_bit (Nat.le_refl _)
  refine wr_kont (aff_L2 h30 h31 h42 (m0 := M2) (nf := N1) (n1 := N1 + 1) (db := N1) (D := ((q * q : Nat) : Int)) hg (by omega) (hF.frame (Nat.le_refl _) l2) (Nat.le_refl _) (Nat.lt_succ_self _) _ _ _ _ _ _ (fun M3 N3 w3 hP f3 rr => ?_) q 0 (by omega) M2 (N1 + 1) 0 ⟨Nat.le_refl _, fun _ _ _ => rfl, ⟨_, d2, RowsZ.nil _ _ _⟩⟩ (fun _ _ => Nat.zero_mod _))
  have hml := rowsM_len A T q q
  simp (implicitDefEqProofs := false) (disch := omega) only [WPs, opds, List.all_cons, List.all_nil, List.cons_append, List.nil_append, cond_true, cond_false, eq_self, List.map_cons, List.map_nil, Nat.reduceAdd, Nat.testBit, Nat.reduceShiftRight, Nat.reduceAnd, Nat.reduceBNe, Nat.reduceMul]
  refine wr_kont (aff_L4 (m0 := M2) (nf := N1) (n1 := N1 + 1) (db := N1) (D := ((q * q : Nat) : Int)) hg.small (Nat.le_refl _) (Nat.lt_succ_self _) (gs := rowsM A T q q) (by omega) _ _ _ _ _ _ _ _ (fun M4 N4 w4 hP f4 rr => ?_) q 0 (by omega) M3 N3 0 hP (fun _ _ => Nat.zero_mod _))
  obtain ⟨le3, low3, rv, e3, g3⟩ := hP
  have hm3 : M4 n = some (.cells [.int .i64 0, .slice none 0 0] 0 false true) := by rw [low3 n (by omega) (by omega), l2 n (by omega)]; exact hm1
  have hrb : Am.one rv = true := g3.one
  have fz3 := f3 n (by omega)
  have fz4 := f4 n (by omega)
  simp (implicitDefEqProofs := false) (disch := omega) only [WPs, opds, List.all_cons, List.all_nil, List.cons_append, List.nil_append, cond_true, cond_false, eq_self, List.map_cons, List.map_nil, Nat.reduceAdd, Nat.testBit, Nat.reduceShiftRight, Nat.reduceAnd, Nat.reduceBNe, Nat.reduceMul, e3, hm3, hrb]
  refine hQ _ _ _ _ _ (by omega) (fun b hb => by rw [fput_ne _ _ _ _ (by omega), low3 b (by omega) (by omega), l2 b (by omega), m1 b (by omega), fput_ne _ _ _ _ (by omega)]) ?_ rfl ⟨_, rfl, rv, rfl, RowsZ.low (RowsZ.frame g3 (Nat.le_refl _) fun b h1 _ => fput_ne _ _ _ _ (by omega)) (by omega)⟩
  simp only [frz_iff]
  exact ⟨⟨⟨⟨⟨fzb, fzn⟩, fza, fza⟩, fz3⟩, fz4⟩, fzb⟩
theorem aff_bad (hE : E 16 = some ac16) {q : Int} (m : FM) (n : Nat) (hNew : ∀ m n, Pure (callW PG E Y 29 [.int .i64 q] m n) m n (.tuple #[.pointer none, .int .i64 1])) :
    Rt (callW PG E Y 16 [.int .i64 q] m n) (Kpt m n fun v M' N' => ∃ dv, v = .tuple #[dv, .int .i64 1] ∧ DesV M' n N' dv 0 []) := by
  refine kept_specQ hE rfl fun Q hQ => ?_
  simp only [ac16]
  have fzb : Nat.mod (bit n) (bit n) = 0 := frz_bit (Nat.le_refl _)
  simp (implicitDefEqProofs := false) (disch := omega) only [WPs, opds, List.all_cons, List.all_nil, List.cons_append, List.nil_append, cond_true, cond_false, eq_self, List.map_cons, List.map_nil, Nat.reduceAdd, Nat.testBit, Nat.reduceShiftRight, Nat.reduceAnd, Nat.reduceBNe, Nat.reduceMul]
  refine use_pure (hNew _ _) fun _ => ?_
  simp (implicitDefEqProofs := false) (disch := omega) only [WPs, opds, List.all_cons, List.all_nil, List.cons_append, List.nil_append, cond_true, cond_false, eq_self, List.map_cons, List.map_nil, Nat.reduceAdd, Nat.testBit, Nat.reduceShiftRight, Nat.reduceAnd, Nat.reduceBNe, Nat.reduceMul]
  refine hQ _ _ _ _ _ (by omega) (fun b hb => by rw [fput_ne _ _ _ _ (by omega)]) ?_ rfl ⟨_, rfl, _, rfl, RowsZ.nil _ _ _⟩
  simp only [frz_iff, fzb, and_self]
theorem aff_big (hE : E 16 = some ac16) {q : Nat} {A T : Tab} (hq2 : 8 ≤ q) (hq7 : q ≤ 9) (m : FM) (n : Nat) (hNew : ∀ m n, Rt (callW PG E Y 29 [.int .i64 (q : Int)] m n) (Kpt m n fun v M' N' => ∃ pv, v = .tuple #[pv, .int .i64 0] ∧ FieldM M' N' pv q A T)) :
    Rt (callW PG E Y 16 [.int .i64 (q : Int)] m n) (Kpt m n fun v M' N' => ∃ dv, v = .tuple #[dv, .int .i64 7] ∧ DesV M' n N' dv 0 []) := by
  refine kept_specQ hE rfl fun Q hQ => ?_
  simp only [ac16]
  have fzb : Nat.mod (bit n) (bit n) = 0 := frz_bit (Nat.le_refl _)
  have hqq : 8 * 8 ≤ q * q := Nat.mul_le_mul hq2 hq2
  have hqq2 : q * q ≤ 9 * 9 := Nat.mul_le_mul hq7 hq7
  simp (implicitDefEqProofs := false) (disch := omega) only [WPs, opds, List.all_cons, List.all_nil, List.cons_append, List.nil_append, cond_true, cond_false, eq_self, List.map_cons, List.map_nil, Nat.reduceAdd, Nat.testBit, Nat.reduceShiftRight, Nat.reduceAnd, Nat.reduceBNe, Nat.reduceMul]
  refine use_rt (hNew _ _) fun v M1 N1 r1 w1 ⟨n1, m1, f1, pv, hv, hF⟩ => ?_
  subst hv
  have hm1 : M1 n = some (.cells [.int .i64 0, .slice none 0 0] 0 false true) := (m1 n (by omega)).trans (fput_same _ _ _)
  have fz1 := f1 n (by omega)
  simp (implicitDefEqProofs := false) (disch := omega) only [WPs, opds, List.all_cons, List.all_nil, List.cons_append, List.nil_append, cond_true, cond_false, eq_self, List.map_cons, List.map_nil, Nat.reduceAdd, Nat.testBit, Nat.reduceShiftRight, Nat.reduceAnd, Nat.reduceBNe, Nat.reduceMul, hm1]
  refine hQ _ _ _ _ _ (by omega) (fun b hb => by rw [fput_ne _ _ _ _ (by omega), m1 b (by omega), fput_ne _ _ _ _ (by omega)]) ?_ rfl ⟨_, rfl, _, rfl, RowsZ.nil _ _ _⟩
  simp only [frz_iff, fzb, fz1, and_self]
end Go.Am.C06
namespace Go.Am.C06
open Go Go.Am
variable {E : Nat → Option AFn} {Y : Nat → List Value → FM → Nat → OR FM}
def comR (a b : List Int) : List Int := a.filter fun x => decide (x ∈ b)
theorem same_L0 {m : FM} {n ab bb : Nat} {D1 D2 : Int} {av bv : Value} {g1 g2 : List (List Int)} (hab : ab < n) (hbb : bb < n) (hma : m ab = some (.cells [.int .i64 D1, av] 0 false true)) (hmb : m bb = some (.cells [.int .i64 D2, bv] 0 false true)) (h1 : Rows m n av g1) (h2 : Rows m n bv g2) {i : Nat} {r1 r2 : List Int} (hi1 : g1[i]? = some r1) (hi2 : g2[i]? = some r2) (hl : r1.length = r2.length) (hs : r1.length < 1000000)
    (y2 y3 y4 y5 y6 y7 y8 y9 y10 y11 y12 y13 y14 y15 y16 y17 y18 y20 y21 y22 y25 y26 : Value) {R : Bool} {Q : AX → List Value → FM → Nat → Nat → Prop}
    (hQ0 : R = true → ∀ y0 y1, Q (.exit 2) [y0, y1, y2, y3, y4, y5, y6, y7, y8, y9, y10, y11, y12, y13, y14, y15, y16, y17, y18, .int .i64 (i : Int), y20, y21, y22, .pointer (some ⟨bb, 0, none⟩), .pointer (some ⟨ab, 0, none⟩), y25, y26] m n 0) (hQ1 : R = false → ∀ e, Q (.ret (.bool false)) e m n 0) :
    ∀ d k, k + d = r1.length → ∀ y0, decide (r1.drop k = r2.drop k) = R → Gv (execW PG E Y ac14L0 [y0, .int .i64 (k : Int), y2, y3, y4, y5, y6, y7, y8, y9, y10, y11, y12, y13, y14, y15, y16, y17, y18, .int .i64 (i : Int), y20, y21, y22, .pointer (some ⟨bb, 0, none⟩), .pointer (some ⟨ab, 0, none⟩), y25, y26] m n) Q := by
  have hil1 := (List.getElem?_eq_some_iff.1 hi1).1
  have hil2 := (List.getElem?_eq_some_iff.1 hi2).1
  obtain ⟨a1, a2, a3, a4, a5, ax, p1, p2, p3, p4, p5⟩ := h1.cell hil1
  obtain ⟨b1, b2, b3, b4, b5, bx, q1, q2, q3, q4, q5⟩ := h2.cell hil2
  rw [show g1[i] = r1 by rw [List.getElem?_eq_getElem hil1] at hi1; injection hi1] at p5
  rw [show g2[i] = r2 by rw [List.getElem?_eq_getElem hil2] at hi2; injection hi2] at q5
  have hba := ld1_below h1
  have hbb' := ld1_below h2
  have hbx := Sl.below p5
  have hby := Sl.below q5
  intro d
  induction d with
  | zero =>
    intro k hk y0 hR
    rw [List.drop_eq_nil_of_le (by omega), List.drop_eq_nil_of_le (by omega)] at hR
    refine wr_loopN (L := ac14L0) (b := ac14L0b) rfl ?_
    simp only [ac14L0b]
    simp (implicitDefEqProofs := false) (disch := omega) only [WPs, opds, List.all_cons, List.all_nil, List.cons_append, List.nil_append, cond_true, cond_false, eq_self, List.map_cons, List.map_nil, Nat.reduceAdd, Nat.testBit, Nat.reduceShiftRight, Nat.reduceAnd, Nat.reduceBNe, Nat.reduceMul, hma, p1, p3, p4, p5.len]
    exact hQ0 (by rw [← hR]; rfl) _ _
  | succ d ih =>
    intro k hk y0 hR
    have hk1 : k < r1.length := by omega
    have hk2 : k < r2.length := by omega
    obtain ⟨c1, c2, c3, c4, c5, s1, s2, s3, s4⟩ := p5.cell hk1
    obtain ⟨d1, d2, d3, d4, d5, t1, t2, t3, t4⟩ := q5.cell hk2
    rw [List.drop_eq_getElem_cons hk1, List.drop_eq_getElem_cons hk2] at hR
    refine wr_loopN (L := ac14L0) (b := ac14L0b) rfl ?_
    simp only [ac14L0b]
    by_cases he : r1[k] = r2[k]
    · have hR2 : decide (r1.drop (k + 1) = r2.drop (k + 1)) = R := by
        rw [← hR]
        exact decide_eq_decide.2 ⟨fun h => by rw [he, h], fun h => by injection h⟩
      simp (implicitDefEqProofs := false) (disch := omega) only [WPs, opds, List.all_cons, List.all_nil, List.cons_append, List.nil_append, cond_true, cond_false, eq_self, List.map_cons, List.map_nil, Nat.reduceAdd, Nat.testBit, Nat.reduceShiftRight, Nat.reduceAnd, Nat.reduceBNe, Nat.reduceMul, hma, hmb, p1, p3, p4, p5.len, q1, q3, q4, s1, s3, s4, t1, t3, t4, hba, hbb', hbx, hby, he]
      exact wr_end (ih (k + 1) (by omega) _ hR2) fun X e m n w hq => by simpa only [zero_lor'] using hq
    · have hR2 : R = false := by
        rw [← hR]
        exact decide_eq_false fun h => he (by injection h)
      simp (implicitDefEqProofs := false) (disch := omega) only [WPs, opds, List.all_cons, List.all_nil, List.cons_append, List.nil_append, cond_true, cond_false, eq_self, List.map_cons, List.map_nil, Nat.reduceAdd, Nat.testBit, Nat.reduceShiftRight, Nat.reduceAnd, Nat.reduceBNe, Nat.reduceMul, hma, hmb, p1, p3, p4, p5.len, q1, q3, q4, s1, s3, s4, t1, t3, t4, hba, hbb', hbx, hby, decide_eq_false he]
      exact hQ1 hR2 _
theorem same_L1 {m : FM} {n ab bb : Nat} {D1 D2 : Int} {av bv : Value} {g1 g2 : List (List Int)} (hab : ab < n) (hbb : bb < n) (hma : m ab = some (.cells [.int .i64 D1, av] 0 false true)) (hmb : m bb = some (.cells [.int .i64 D2, bv] 0 false true)) (h1 : Rows m n av g1) (h2 : Rows m n bv g2) (hl : g1.length = g2.length) (hs : g1.length < 1000000) (hr : ∀ r ∈ g1, r.length < 1000000) (hr2 : ∀ r ∈ g2, r.length < 1000000)
    (y2 y3 y4 y7 y8 : Value) {R : Bool} {Q : AX → List Value → FM → Nat → Nat → Prop}
    (hQ0 : R = true → ∀ e, Q (.exit 0) e m n 0) (hQ1 : R = false → ∀ e, Q (.ret (.bool false)) e m n 0) :
    ∀ d i, i + d = g1.length → ∀ y0, decide (g1.drop i = g2.drop i) = R → Gv (execW PG E Y ac14L1 [y0, .int .i64 (i : Int), y2, y3, y4, .pointer (some ⟨bb, 0, none⟩), .pointer (some ⟨ab, 0, none⟩), y7, y8] m n) Q := by
  have hba := ld1_below h1
  have hbb' := ld1_below h2
  intro d
  induction d with
  | zero =>
    intro i hi y0 hR
    rw [List.drop_eq_nil_of_le (by omega), List.drop_eq_nil_of_le (by omega)] at hR
    refine wr_loopN (L := ac14L1) (b := ac14L1b) rfl ?_
    simp only [ac14L1b]
    simp (implicitDefEqProofs := false) (disch := omega) only [WPs, opds, List.all_cons, List.all_nil, List.cons_append, List.nil_append, cond_true, cond_false, eq_self, List.map_cons, List.map_nil, Nat.reduceAdd, Nat.testBit, Nat.reduceShiftRight, Nat.reduceAnd, Nat.reduceBNe, Nat.reduceMul, hma, h1.len]
    exact hQ0 (by rw [← hR]; rfl) _
  | succ d ih =>
    intro i hi y0 hR
    have hi1 : i < g1.length := by omega
    have hi2 : i < g2.length := by omega
    obtain ⟨a1, a2, a3, a4, a5, ax, p1, p2, p3, p4, p5⟩ := h1.cell hi1
    obtain ⟨b1, b2, b3, b4, b5, bx, q1, q2, q3, q4, q5⟩ := h2.cell hi2
    have hbx := Sl.below p5
    have hby := Sl.below q5
    have hra := hr _ (List.getElem_mem hi1)
    have hrb := hr2 _ (List.getElem_mem hi2)
    rw [List.drop_eq_getElem_cons hi1, List.drop_eq_getElem_cons hi2] at hR
    refine wr_loopN (L := ac14L1) (b := ac14L1b) rfl ?_
    simp only [ac14L1b]
    by_cases hle : g1[i].length = g2[i].length
    · have hle' : ((g1[i].length : Nat) : Int) = ((g2[i].length : Nat) : Int) := by rw [hle]
      simp (implicitDefEqProofs := false) (disch := omega) only [WPs, opds, List.all_cons, List.all_nil, List.cons_append, List.nil_append, cond_true, cond_false, eq_self, List.map_cons, List.map_nil, Nat.reduceAdd, Nat.testBit, Nat.reduceShiftRight, Nat.reduceAnd, Nat.reduceBNe, Nat.reduceMul, hma, hmb, h1.len, p1, p3, p4, p5.len, q1, q3, q4, q5.len, hba, hbb', hbx, hby, hle']
      refine wr_kont (same_L0 hab hbb hma hmb h1 h2 (List.getElem?_eq_getElem hi1) (List.getElem?_eq_getElem hi2) hle hra _ _ _ _ _ _ _ _ _ _ _ _ _ _ _ _ _ _ _ _ _ _ (R := decide (g1[i] = g2[i])) (fun hR0 y0 y1 rr => ?_) (fun hR0 e rr => ?_) g1[i].length 0 (by omega) _ rfl)
      · have he := of_decide_eq_true hR0
        have hR2 : decide (g1.drop (i + 1) = g2.drop (i + 1)) = R := by
          rw [← hR]
          exact decide_eq_decide.2 ⟨fun h => by rw [he, h], fun h => by injection h⟩
        simp (implicitDefEqProofs := false) (disch := omega) only [WPs, opds, List.all_cons, List.all_nil, List.cons_append, List.nil_append, cond_true, cond_false, eq_self, List.map_cons, List.map_nil, Nat.reduceAdd, Nat.testBit, Nat.reduceShiftRight, Nat.reduceAnd, Nat.reduceBNe, Nat.reduceMul]
        exact wr_end (ih (i + 1) (by omega) _ hR2) fun X e m n w hq => by simpa only [zero_lor'] using hq
      · have he := of_decide_eq_false hR0
        simp (implicitDefEqProofs := false) (disch := omega) only [WPs, opds, List.all_cons, List.all_nil, List.cons_append, List.nil_append, cond_true, cond_false, eq_self, List.map_cons, List.map_nil, Nat.reduceAdd, Nat.testBit, Nat.reduceShiftRight, Nat.reduceAnd, Nat.reduceBNe, Nat.reduceMul]
        exact hQ1 (by rw [← hR]; exact decide_eq_false fun h => he (by injection h)) _
    · have hle' : ¬ ((g1[i].length : Nat) : Int) = ((g2[i].length : Nat) : Int) := by omega
      simp (implicitDefEqProofs := false) (disch := omega) only [WPs, opds, List.all_cons, List.all_nil, List.cons_append, List.nil_append, cond_true, cond_false, eq_self, List.map_cons, List.map_nil, Nat.reduceAdd, Nat.testBit, Nat.reduceShiftRight, Nat.reduceAnd, Nat.reduceBNe, Nat.reduceMul, hma, hmb, h1.len, p1, p3, p4, p5.len, q1, q3, q4, q5.len, hba, hbb', hbx, hby, decide_eq_false hle']
      exact hQ1 (by rw [← hR]; exact decide_eq_false fun h => hle (by injection h with h _; rw [h])) _
theorem same_spec (hE : E 14 = some ac14) {m : FM} {n : Nat} {D1 D2 : Int} {av bv : Value} {g1 g2 : List (List Int)} (h1 : Rows m n av g1) (h2 : Rows m n bv g2) (hs : g1.length < 1000000) (hs2 : g2.length < 1000000) (hr : ∀ r ∈ g1, r.length < 1000000) (hr2 : ∀ r ∈ g2, r.length < 1000000) :
    Pure (callW PG E Y 14 [.agg #[.int .i64 D1, av], .agg #[.int .i64 D2, bv]] m n) m n (.bool (decide (D1 = D2 ∧ g1 = g2))) := by
  refine pure_spec hE rfl rfl ?_
  simp only [ac14]
  obtain ⟨vs1, hv1, _⟩ := id h1
  obtain ⟨vs2, hv2, _⟩ := id h2
  have o1 := hv1.one
  have o2 := hv2.one
  have fza : Nat.mod (bit n) (bit n) = 0 := frz_bit (Nat.le_refl _)
  have fzb : Nat.mod (bit (n + 1)) (bit n) = 0 := frz_bit (by omega)
  simp (implicitDefEqProofs := false) (disch := omega) only [WPs, opds, List.all_cons, List.all_nil, List.cons_append, List.nil_append, cond_true, cond_false, eq_self, List.map_cons, List.map_nil, Nat.reduceAdd, Nat.testBit, Nat.reduceShiftRight, Nat.reduceAnd, Nat.reduceBNe, Nat.reduceMul, o1, o2]
  generalize hM1 : (AMem.put (AMem.put m n (some (.cells [.int .i64 D1, av] 0 false true))) (n + 1) (some (.cells [.int .i64 D2, bv] 0 false true)) : FM) = M1
  have m1 : M1 n = some (.cells [.int .i64 D1, av] 0 false true) := by rw [← hM1, fput_ne _ _ _ _ (by omega)]; exact fput_same _ _ _
  have m2 : M1 (n + 1) = some (.cells [.int .i64 D2, bv] 0 false true) := by rw [← hM1]; exact fput_same _ _ _
  have l1 : ∀ b, b < n → M1 b = m b := fun b hb => by rw [← hM1, fput_ne _ _ _ _ (by omega), fput_ne _ _ _ _ (by omega)]
  have k1 := h1.frame (m' := M1) (n' := n + 2) (by omega) l1
  have k2 := h2.frame (m' := M1) (n' := n + 2) (by omega) l1
  by_cases hD : D1 = D2
  · by_cases hl : g1.length = g2.length
    · have hl' : ((g1.length : Nat) : Int) = ((g2.length : Nat) : Int) := by rw [hl]
      simp (implicitDefEqProofs := false) (disch := omega) only [WPs, opds, List.all_cons, List.all_nil, List.cons_append, List.nil_append, cond_true, cond_false, eq_self, List.map_cons, List.map_nil, Nat.reduceAdd, Nat.testBit, Nat.reduceShiftRight, Nat.reduceAnd, Nat.reduceBNe, Nat.reduceMul, m1, m2, decide_eq_true hD, k1.len, k2.len, hl']
      refine wr_kont (same_L1 (by omega) (by omega) m1 m2 k1 k2 hl hs hr hr2 _ _ _ _ _ (R := decide (g1 = g2)) (fun hR e rr => ?_) (fun hR e rr => ?_) g1.length 0 (by omega) _ rfl)
      · rw [decide_eq_true ⟨hD, of_decide_eq_true hR⟩]
        simp (implicitDefEqProofs := false) (disch := omega) only [WPs, opds, List.all_cons, List.all_nil, List.cons_append, List.nil_append, cond_true, cond_false, eq_self, List.map_cons, List.map_nil, Nat.reduceAdd, Nat.testBit, Nat.reduceShiftRight, Nat.reduceAnd, Nat.reduceBNe, Nat.reduceMul]
      · rw [decide_eq_false (p := D1 = D2 ∧ g1 = g2) fun h => of_decide_eq_false hR h.2]
        simp (implicitDefEqProofs := false) (disch := omega) only [WPs, opds, List.all_cons, List.all_nil, List.cons_append, List.nil_append, cond_true, cond_false, eq_self, List.map_cons, List.map_nil, Nat.reduceAdd, Nat.testBit, Nat.reduceShiftRight, Nat.reduceAnd, Nat.reduceBNe, Nat.reduceMul]
    · have hl' : ¬ ((g1.length : Nat) : Int) = ((g2.length : Nat) : Int) := by omega
      rw [decide_eq_false (p := D1 = D2 ∧ g1 = g2) fun h => hl (by rw [h.2])]
      simp (implicitDefEqProofs := false) (disch := omega) only [WPs, opds, List.all_cons, List.all_nil, List.cons_append, List.nil_append, cond_true, cond_false, eq_self, List.map_cons, List.map_nil, Nat.reduceAdd, Nat.testBit, Nat.reduceShiftRight, Nat.reduceAnd, Nat.reduceBNe, Nat.reduceMul, m1, m2, decide_eq_true hD, k1.len, k2.len, decide_eq_false hl']
  · rw [decide_eq_false (p := D1 = D2 ∧ g1 = g2) fun h => hD h.1]
    simp (implicitDefEqProofs := false) (disch := omega) only [WPs, opds, List.all_cons, List.all_nil, List.cons_append, List.nil_append, cond_true, cond_false, eq_self, List.map_cons, List.map_nil, Nat.reduceAdd, Nat.testBit, Nat.reduceShiftRight, Nat.reduceAnd, Nat.reduceBNe, Nat.reduceMul, m1, m2, decide_eq_false hD]
end Go.Am.C06
namespace Go.Am.C06
open Go Go.Am Go.Am.V Go.RowKit
set_option maxRecDepth 1000000
theorem alt_miss {a b : Nat → List Value → FM → Nat → OR FM} {f : Nat} {args : List Value} {m : FM} {n : Nat} (h : a f args m n = .no) : altA a b f args m n = b f args m n := by
  unfold altA; rw [h]
theorem alt_hit {a b : Nat → List Value → FM → Nat → OR FM} {f : Nat} {args : List Value} {m : FM} {n : Nat} {v : Value} {m' : FM} {n' r w : Nat} (h : a f args m n = .ok v m' n' r w) : altA a b f args m n = .ok v m' n' r w := by
  unfold altA; rw [h]
theorem memo_miss {M : Memo} {f : Nat} {args : List Value} (h : (Nat.beq f M.f && veqL args M.args) = false) (m : FM) (n : Nat) : memoA M f args m n = .no := by
  unfold memoA; rw [h]; rfl
inductive Size : Nat → Tab → Tab → Prop
  | s2 : Size 2 A2 T2
  | s3 : Size 3 A3 T3
  | s4 : Size 4 A4 T4
  | s5 : Size 5 A5 T5
  | s7 : Size 7 A7 T7
  | s8 : Size 8 A8 T8
  | s9 : Size 9 A9 T9
theorem Size.good {q : Nat} {A T : Tab} (h : Size q A T) : GoodT q A T := by
  cases h
  · exact goodT2
  · exact goodT3
  · exact goodT4
  · exact goodT5
  · exact goodT7
  · exact goodT8
  · exact goodT9
abbrev NewR (E : Nat → Option AFn) (Y : Nat → List Value → FM → Nat → OR FM) (q : Nat) (A T : Tab) : Prop := ∀ m n, Rt (callW PG E Y 29 [.int .i64 (q : Int)] m n) (Kpt m n fun v M' N' => ∃ pv, v = .tuple #[pv, .int .i64 0] ∧ FieldM M' N' pv q A T)
theorem newR_of {E : Nat → Option AFn} {Y : Nat → List Value → FM → Nat → OR FM} {q p : Nat} {A T : Tab} {pi : List Nat} (hE : E 29 = none) (hA : square A q) (hT : square T q) (h : ∀ m n v m' n' r w, memoA (fM q p A T pi) 29 [.int .i64 (q : Int)] m n = .ok v m' n' r w → Y 29 [.int .i64 (q : Int)] m n = .ok v m' n' r w) : NewR E Y q A T := fun m n => by
  obtain ⟨m', w, h1, h2, h3, h4⟩ := fM_spec (p := p) (pi := pi) hA hT m n
  rw [callW_Y hE, h _ _ _ _ _ _ _ h1]
  exact ⟨by omega, h2, h3, _, rfl, h4⟩
noncomputable abbrev YC : Nat → List Value → FM → Nat → OR FM := altA errA (memosA memLC Y5)
theorem errA_no {q : Nat} (h : notIn (q : Int) = false) (m : FM) (n : Nat) : errA 29 [.int .i64 (q : Int)] m n = .no := by
  show cond (Nat.beq 29 29 && notIn (q : Int)) _ _ = _
  rw [h]; rfl
variable {E : Nat → Option AFn} {Y : Nat → List Value → FM → Nat → OR FM}
structure En (E : Nat → Option AFn) (Y : Nat → List Value → FM → Nat → OR FM) : Prop where
  F : Fns E
  e3 : E 3 = some ac3
  e4 : E 4 = some ac4
  e5 : E 5 = some ac5
  e6 : E 6 = some ac6
  e7 : E 7 = some ac7
  e8 : E 8 = some ac8
  e9 : E 9 = some ac9
  e10 : E 10 = some ac10
  e12 : E 12 = some ac12
  e13 : E 13 = some ac13
  e14 : E 14 = some ac14
  e15 : E 15 = some ac15
  e16 : E 16 = some ac16
  e17 : E 17 = some ac17
  e18 : E 18 = some ac18
  e19 : E 19 = some ac19
  e20 : E 20 = some ac20
  e21 : E 21 = some ac21
  e22 : E 22 = some ac22
  e25 : E 25 = some ac25
  e32 : E 32 = some ac32
  e34 : E 34 = some ac34
  e35 : E 35 = some ac35
  e36 : E 36 = some ac36
  e37 : E 37 = some ac37
  e38 : E 38 = some ac38
  e39 : E 39 = some ac39
  e40 : E 40 = some ac40
  e41 : E 41 = some ac41
  e47 : E 47 = some ac47
  aw : ∀ m n, Pure (callW PG E Y 11 [] m n) m n (.bool true)
  new : ∀ {q A T}, Size q A T → NewR E Y q A T
  err : ∀ q, notIn q = true → ∀ m n, Pure (callW PG E Y 29 [.int .i64 q] m n) m n (.tuple #[.pointer none, .int .i64 1])
end Go.Am.C06
namespace Go.Am.C06
open Go Go.Am Go.Am.V Go.RowKit
set_option maxRecDepth 1000000
def arT : Nat → Nat → Option Tab
  | 27, 2 => some A2
  | 28, 2 => some T2
  | 27, 3 => some A3
  | 28, 3 => some T3
  | 27, 4 => some A4
  | 28, 4 => some T4
  | 27, 5 => some A5
  | 28, 5 => some T5
  | 27, 7 => some A7
  | 28, 7 => some T7
  | _, _ => none
theorem arT_ok {f q : Nat} {T : Tab} (h : arT f q = some T) : arB f q T = true := by
  unfold arT at h
  split at h
  · injection h with h; subst h; exact ad2
  · injection h with h; subst h; exact mu2
  · injection h with h; subst h; exact ad3
  · injection h with h; subst h; exact mu3
  · injection h with h; subst h; exact ad4
  · injection h with h; subst h; exact mu4
  · injection h with h; subst h; exact ad5
  · injection h with h; subst h; exact mu5
  · injection h with h; subst h; exact ad7
  · injection h with h; subst h; exact mu7
  · cases h
theorem arT_f {f q : Nat} {T : Tab} (h : arT f q = some T) : f = 27 ∨ f = 28 := by
  unfold arT at h
  split at h
  · exact .inl rfl
  · exact .inr rfl
  · exact .inl rfl
  · exact .inr rfl
  · exact .inl rfl
  · exact .inr rfl
  · exact .inl rfl
  · exact .inr rfl
  · exact .inl rfl
  · exact .inr rfl
  · cases h
def arA (f : Nat) (args : List Value) (m : FM) (n : Nat) : OR FM :=
  match args with
  | [.int .i64 (.ofNat q), .int .i64 (.ofNat a), .int .i64 (.ofNat b)] =>
    match arT f q with
    | some T => cond (Nat.blt a q && Nat.blt b q) (.ok (.int .i64 (tget T a b)) m n 0 0) .no
    | none => .no
  | _ => .no
theorem arA_memo {f : Nat} {args : List Value} {m m' : FM} {n n' r w : Nat} {v : Value} (h : arA f args m n = .ok v m' n' r w) : ∃ q a b T, CallSim Proofs.Try.prog (memoA (arM f q a b T)) ∧ memoA (arM f q a b T) f args m n = .ok v m' n' r w := by
  unfold arA at h
  split at h
  · rename_i q a b
    split at h
    · rename_i T hT
      cases hc : (Nat.blt a q && Nat.blt b q)
      · rw [hc] at h; cases h
      · rw [hc] at h
        rw [Bool.and_eq_true] at hc
        refine ⟨q, a, b, T, ar_sim (arT_ok hT) (Nat.le_of_ble_eq_true hc.1) (Nat.le_of_ble_eq_true hc.2), ?_⟩
        rw [← h]
        have hv : veqL [Value.int .i64 (Int.ofNat q), Value.int .i64 (Int.ofNat a), Value.int .i64 (Int.ofNat b)] [Value.int .i64 (Int.ofNat q), Value.int .i64 (Int.ofNat a), Value.int .i64 (Int.ofNat b)] = true := by simp [veqL, veqF_int]
        have hw : newW n 0 = 0 := by show (2 ^ 0 - 1) <<< n = 0; simp
        show cond (Nat.beq f f && veqL [Value.int .i64 (Int.ofNat q), Value.int .i64 (Int.ofNat a), Value.int .i64 (Int.ofNat b)] [Value.int .i64 (Int.ofNat q), Value.int .i64 (Int.ofNat a), Value.int .i64 (Int.ofNat b)]) (OR.ok (.int .i64 (tget T a b)) m (n + 0) 0 (newW n 0)) OR.no = OR.ok (.int .i64 (tget T a b)) m n 0 0
        rw [Nat.beq_refl, hv, hw]; rfl
    · cases h
  · cases h
theorem arA_loc : CallLoc arA := fun f args m n v m' n' r wm h => by
  obtain ⟨q, a, b, T, _, h⟩ := arA_memo h
  exact memo_loc (arM f q a b T) f args m n v m' n' r wm h
theorem arA_sim : CallSim Proofs.Try.prog arA := fun f args m n v m' n' r wm h => by
  obtain ⟨q, a, b, T, hs, h⟩ := arA_memo h
  exact hs f args m n v m' n' r wm h
theorem arA_ne {f : Nat} (h7 : f ≠ 27) (h8 : f ≠ 28) (args : List Value) (m : FM) (n : Nat) : arA f args m n = .no := by
  unfold arA
  split
  · split
    · rename_i hT
      rcases arT_f hT with h | h
      · exact absurd h h7
      · exact absurd h h8
    · rfl
  · rfl
theorem arA_apart {t : List (Nat × AFn)} (h : look t 27 = none) (h2 : look t 28 = none) : V.Apart t arA := by
  intro f fn hf args m n
  exact arA_ne (fun e => by rw [e, h] at hf; cases hf) (fun e => by rw [e, h2] at hf; cases hf) args m n
abbrev c2 : Memo := coM 2 Co2 [13]
abbrev c3 : Memo := coM 3 Co3 [25]
abbrev c4 : Memo := coM 4 Co4 [41]
abbrev c5 : Memo := coM 5 Co5 [61]
abbrev c7 : Memo := coM 7 Co7 [113]
noncomputable def tabD : List (Nat × AFn) := [(3, ac3), (4, ac4), (5, ac5), (6, ac6), (7, ac7), (8, ac8), (9, ac9), (10, ac10), (12, ac12), (13, ac13), (14, ac14), (15, ac15), (16, ac16), (17, ac17), (18, ac18), (19, ac19), (20, ac20), (21, ac21), (22, ac22), (23, ac23), (24, ac24), (25, ac25), (30, ac30), (31, ac31), (32, ac32), (33, ac33), (34, ac34), (35, ac35), (36, ac36), (37, ac37), (38, ac38), (39, ac39), (40, ac40), (41, ac41), (42, ac42), (43, ac43), (44, ac44), (45, ac45), (46, ac46), (47, ac47), (49, ac49), (50, ac50), (51, ac51)]
theorem tabD_good : Good Proofs.Try.prog tabD := (.cons Proofs.Try.func3 chk3 (.cons Proofs.Try.func4 chk4 (.cons Proofs.Try.func5 chk5 (.cons Proofs.Try.func6 chk6 (.cons Proofs.Try.func7 chk7 (.cons Proofs.Try.func8 chk8 (.cons Proofs.Try.func9 chk9 (.cons Proofs.Try.func10 chk10 (.cons Proofs.Try.func12 chk12 (.cons Proofs.Try.func13 chk13 (.cons Proofs.Try.func14 chk14 (.cons Proofs.Try.func15 chk15 (.cons Proofs.Try.func16 chk16 (.cons Proofs.Try.func17 chk17 (.cons Proofs.Try.func18 chk18 (.cons Proofs.Try.func19 chk19 (.cons Proofs.Try.func20 chk20 (.cons Proofs.Try.func21 chk21 (.cons Proofs.Try.func22 chk22 (.cons Proofs.Try.func23 chk23 (.cons Proofs.Try.func24 chk24 (.cons Proofs.Try.func25 chk25 (.cons Proofs.Try.func30 chk30 (.cons Proofs.Try.func31 chk31 (.cons Proofs.Try.func32 chk32 (.cons Proofs.Try.func33 chk33 (.cons Proofs.Try.func34 chk34 (.cons Proofs.Try.func35 chk35 (.cons Proofs.Try.func36 chk36 (.cons Proofs.Try.func37 chk37 (.cons Proofs.Try.func38 chk38 (.cons Proofs.Try.func39 chk39 (.cons Proofs.Try.func40 chk40 (.cons Proofs.Try.func41 chk41 (.cons Proofs.Try.func42 chk42 (.cons Proofs.Try.func43 chk43 (.cons Proofs.Try.func44 chk44 (.cons Proofs.Try.func45 chk45 (.cons Proofs.Try.func46 chk46 (.cons Proofs.Try.func47 chk47 (.cons Proofs.Try.func49 chk49 (.cons Proofs.Try.func50 chk50 (.cons Proofs.Try.func51 chk51 .nil)))))))))))))))))))))))))))))))))))))))))))
def memLD : List Memo := [mA, m2, m3, m4, m5, m7, m8, m9, c2, c3, c4, c5, c7]
theorem envD : Env Proofs.Try.prog tabD (altA arA (altA errA (memosA memLD Y5))) noF :=
  ⟨mix, tabD_good, by kernel_rfl, alt_loc arA_loc (alt_loc errA_loc (memos_loc Y5_loc)), alt_sim arA_sim (alt_sim errA_sim (sim_memos Y5_sim (by
    intro M h
    simp only [memLD, List.mem_cons, List.not_mem_nil, or_false] at h
    rcases h with rfl | rfl | rfl | rfl | rfl | rfl | rfl | rfl | rfl | rfl | rfl | rfl | rfl
    · exact simA
    · exact sim2
    · exact sim3
    · exact sim4
    · exact sim5
    · exact sim7
    · exact sim8
    · exact sim9
    · exact simc2
    · exact simc3
    · exact simc4
    · exact simc5
    · exact simc7))), fun _ _ _ _ => trivial, apart_alt (arA_apart (by kernel_rfl) (by kernel_rfl)) (apart_alt (errA_apart (by kernel_rfl)) (apart_memos (apart5 (by kernel_rfl)) (by
    intro M h
    simp only [memLD, List.mem_cons, List.not_mem_nil, or_false] at h
    rcases h with rfl | rfl | rfl | rfl | rfl | rfl | rfl | rfl | rfl | rfl | rfl | rfl | rfl <;> kernel_rfl)))⟩
noncomputable abbrev YD : Nat → List Value → FM → Nat → OR FM := altA arA (altA errA (memosA memLD Y5))
theorem memLD_eq : memosA memLD Y5 = altA (memoA mA) (altA (memoA m2) (altA (memoA m3) (altA (memoA m4) (altA (memoA m5) (altA (memoA m7) (altA (memoA m8) (altA (memoA m9) (altA (memoA c2) (altA (memoA c3) (altA (memoA c4) (altA (memoA c5) (altA (memoA c7) (Y5))))))))))))) := rfl
theorem newD2 : NewR (look tabD) YD 2 A2 T2 := newR_of (by kernel_rfl) sq2.1 sq2.2 fun m n v m' n' r w h => by
  refine (alt_miss (arA_ne (by omega) (by omega) _ m n)).trans ?_
  refine (alt_miss (errA_no (by kernel_rfl) m n)).trans ?_
  rw [memLD_eq]
  refine (alt_miss (memo_miss (M := mA) (by kernel_rfl) m n)).trans ?_
  exact alt_hit h
theorem newD3 : NewR (look tabD) YD 3 A3 T3 := newR_of (by kernel_rfl) sq3.1 sq3.2 fun m n v m' n' r w h => by
  refine (alt_miss (arA_ne (by omega) (by omega) _ m n)).trans ?_
  refine (alt_miss (errA_no (by kernel_rfl) m n)).trans ?_
  rw [memLD_eq]
  refine (alt_miss (memo_miss (M := mA) (by kernel_rfl) m n)).trans ?_
  refine (alt_miss (memo_miss (M := m2) (by kernel_rfl) m n)).trans ?_
  exact alt_hit h
theorem newD4 : NewR (look tabD) YD 4 A4 T4 := newR_of (by kernel_rfl) sq4.1 sq4.2 fun m n v m' n' r w h => by
  refine (alt_miss (arA_ne (by omega) (by omega) _ m n)).trans ?_
  refine (alt_miss (errA_no (by kernel_rfl) m n)).trans ?_
  rw [memLD_eq]
  refine (alt_miss (memo_miss (M := mA) (by kernel_rfl) m n)).trans ?_
  refine (alt_miss (memo_miss (M := m2) (by kernel_rfl) m n)).trans ?_
  refine (alt_miss (memo_miss (M := m3) (by kernel_rfl) m n)).trans ?_
  exact alt_hit h
theorem newD5 : NewR (look tabD) YD 5 A5 T5 := newR_of (by kernel_rfl) sq5.1 sq5.2 fun m n v m' n' r w h => by
  refine (alt_miss (arA_ne (by omega) (by omega) _ m n)).trans ?_
  refine (alt_miss (errA_no (by kernel_rfl) m n)).trans ?_
  rw [memLD_eq]
  refine (alt_miss (memo_miss (M := mA) (by kernel_rfl) m n)).trans ?_
  refine (alt_miss (memo_miss (M := m2) (by kernel_rfl) m n)).trans ?_
  refine (alt_miss (memo_miss (M := m3) (by kernel_rfl) m n)).trans ?_
  refine (alt_miss (memo_miss (M := m4) (by kernel_rfl) m n)).trans ?_
  exact alt_hit h
theorem newD7 : NewR (look tabD) YD 7 A7 T7 := newR_of (by kernel_rfl) sq7.1 sq7.2 fun m n v m' n' r w h => by
  refine (alt_miss (arA_ne (by omega) (by omega) _ m n)).trans ?_
  refine (alt_miss (errA_no (by kernel_rfl) m n)).trans ?_
  rw [memLD_eq]
  refine (alt_miss (memo_miss (M := mA) (by kernel_rfl) m n)).trans ?_
  refine (alt_miss (memo_miss (M := m2) (by kernel_rfl) m n)).trans ?_
  refine (alt_miss (memo_miss (M := m3) (by kernel_rfl) m n)).trans ?_
  refine (alt_miss (memo_miss (M := m4) (by kernel_rfl) m n)).trans ?_
  refine (alt_miss (memo_miss (M := m5) (by kernel_rfl) m n)).trans ?_
  exact alt_hit h
theorem newD8 : NewR (look tabD) YD 8 A8 T8 := newR_of (by kernel_rfl) sq8.1 sq8.2 fun m n v m' n' r w h => by
  refine (alt_miss (arA_ne (by omega) (by omega) _ m n)).trans ?_
  refine (alt_miss (errA_no (by kernel_rfl) m n)).trans ?_
  rw [memLD_eq]
  refine (alt_miss (memo_miss (M := mA) (by kernel_rfl) m n)).trans ?_
  refine (alt_miss (memo_miss (M := m2) (by kernel_rfl) m n)).trans ?_
  refine (alt_miss (memo_miss (M := m3) (by kernel_rfl) m n)).trans ?_
  refine (alt_miss (memo_miss (M := m4) (by kernel_rfl) m n)).trans ?_
  refine (alt_miss (memo_miss (M := m5) (by kernel_rfl) m n)).trans ?_
  refine (alt_miss (memo_miss (M := m7) (by kernel_rfl) m n)).trans ?_
  exact alt_hit h
theorem newD9 : NewR (look tabD) YD 9 A9 T9 := newR_of (by kernel_rfl) sq9.1 sq9.2 fun m n v m' n' r w h => by
  refine (alt_miss (arA_ne (by omega) (by omega) _ m n)).trans ?_
  refine (alt_miss (errA_no (by kernel_rfl) m n)).trans ?_
  rw [memLD_eq]
  refine (alt_miss (memo_miss (M := mA) (by kernel_rfl) m n)).trans ?_
  refine (alt_miss (memo_miss (M := m2) (by kernel_rfl) m n)).trans ?_
  refine (alt_miss (memo_miss (M := m3) (by kernel_rfl) m n)).trans ?_
  refine (alt_miss (memo_miss (M := m4) (by kernel_rfl) m n)).trans ?_
  refine (alt_miss (memo_miss (M := m5) (by kernel_rfl) m n)).trans ?_
  refine (alt_miss (memo_miss (M := m7) (by kernel_rfl) m n)).trans ?_
  refine (alt_miss (memo_miss (M := m8) (by kernel_rfl) m n)).trans ?_
  exact alt_hit h
theorem newD_size {q : Nat} {A T : Tab} (h : Size q A T) : NewR (look tabD) YD q A T := by
  cases h
  · exact newD2
  · exact newD3
  · exact newD4
  · exact newD5
  · exact newD7
  · exact newD8
  · exact newD9
theorem newD_err (q : Int) (h : notIn q = true) (m : FM) (n : Nat) : Pure (callW PG (look tabD) YD 29 [.int .i64 q] m n) m n (.tuple #[.pointer none, .int .i64 1]) := by
  rw [callW_Y (by kernel_rfl)]
  refine ⟨0, (alt_miss (arA_ne (by omega) (by omega) _ m n)).trans (alt_hit ?_)⟩
  show cond (Nat.beq 29 29 && notIn q) (OR.ok errV m n 0 0) OR.no = _
  rw [h]; rfl
theorem awakeD (m : FM) (n : Nat) : Pure (callW PG (look tabD) YD 11 [] m n) m n (.bool true) := by
  rw [callW_Y (by kernel_rfl)]
  have hw : newW n 0 = 0 := Nat.zero_shiftLeft n
  have hm : memoA mA 11 [] m n = .ok (.bool true) m n 0 0 := by
    show OR.ok (.bool true) m n 0 (newW n 0) = _
    rw [hw]
  refine ⟨0, (alt_miss (arA_ne (by omega) (by omega) _ m n)).trans ((alt_miss rfl).trans ?_)⟩
  rw [memLD_eq]
  exact alt_hit hm
theorem arD {f q : Nat} {T : Tab} (hT : arT f q = some T) (hf : look tabD f = none) {a b : Nat} (ha : a < q) (hb : b < q) (m : FM) (n : Nat) : Pure (callW PG (look tabD) YD f [.int .i64 (q : Int), .int .i64 (a : Int), .int .i64 (b : Int)] m n) m n (.int .i64 (tget T a b)) := by
  rw [callW_Y hf]
  refine ⟨0, alt_hit ?_⟩
  show (match arT f q with | some T => cond (Nat.blt a q && Nat.blt b q) (OR.ok (.int .i64 (tget T a b)) m n 0 0) .no | none => .no) = _
  rw [hT]
  show cond (Nat.blt a q && Nat.blt b q) (OR.ok (.int .i64 (tget T a b)) m n 0 0) .no = _
  rw [show Nat.blt a q = true from Nat.ble_eq_true_of_le ha, show Nat.blt b q = true from Nat.ble_eq_true_of_le hb]; rfl
theorem enD : En (look tabD) YD where
  F := ⟨by kernel_rfl, by kernel_rfl, by kernel_rfl, by kernel_rfl, by kernel_rfl, by kernel_rfl, by kernel_rfl, by kernel_rfl, by kernel_rfl, by kernel_rfl, by kernel_rfl, by kernel_rfl, by kernel_rfl⟩
  e3 := by kernel_rfl
  e4 := by kernel_rfl
  e5 := by kernel_rfl
  e6 := by kernel_rfl
  e7 := by kernel_rfl
  e8 := by kernel_rfl
  e9 := by kernel_rfl
  e10 := by kernel_rfl
  e12 := by kernel_rfl
  e13 := by kernel_rfl
  e14 := by kernel_rfl
  e15 := by kernel_rfl
  e16 := by kernel_rfl
  e17 := by kernel_rfl
  e18 := by kernel_rfl
  e19 := by kernel_rfl
  e20 := by kernel_rfl
  e21 := by kernel_rfl
  e22 := by kernel_rfl
  e25 := by kernel_rfl
  e32 := by kernel_rfl
  e34 := by kernel_rfl
  e35 := by kernel_rfl
  e36 := by kernel_rfl
  e37 := by kernel_rfl
  e38 := by kernel_rfl
  e39 := by kernel_rfl
  e40 := by kernel_rfl
  e41 := by kernel_rfl
  e47 := by kernel_rfl
  aw := awakeD
  new := newD_size
  err := newD_err
end Go.Am.C06
