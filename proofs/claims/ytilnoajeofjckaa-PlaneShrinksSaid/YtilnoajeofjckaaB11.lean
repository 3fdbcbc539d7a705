/- The machine and its runs, part 11: Am06f Am06g AmRowsZ Am06h Am06i Am06j Am06r Am06s Am06t Am06v Am06w Am06y Am06z Am06xa. -/
import Derived.Test.YtilnoajeofjckaaB10
set_option linter.unusedVariables false
set_option linter.unusedSimpArgs false
set_option linter.unusedSectionVars false
namespace Go.Am.C06
open Go Go.Am
variable {E : Nat → Option AFn} {Y : Nat → List Value → FM → Nat → OR FM}
theorem stepP_len (T : Tab) (ps : List P3) (p : P3) : (stepP T ps p).length ≤ ps.length + 1 := by
  unfold stepP
  split
  · rw [List.length_append]; exact Nat.le_refl _
  · omega
theorem foldZ_len (T : Tab) (x y : Nat) (ps : List P3) : ∀ k, (foldZ T x y ps k).length ≤ ps.length + k
  | 0 => Nat.le_refl _
  | k + 1 => by
    have := foldZ_len T x y ps k
    have h2 := stepP_len T (foldZ T x y ps k) ⟨x, y, k⟩
    show (stepP T (foldZ T x y ps k) ⟨x, y, k⟩).length ≤ _
    omega
theorem foldY_len (T : Tab) (q x : Nat) (ps : List P3) : ∀ k, (foldY T q x ps k).length ≤ ps.length + k * q
  | 0 => Nat.le_add_right _ _
  | k + 1 => by
    have := foldY_len T q x ps k
    have h2 := foldZ_len T x k (foldY T q x ps k) q
    show (foldZ T x k (foldY T q x ps k) q).length ≤ _
    rw [Nat.succ_mul]; omega
theorem foldX_len (T : Tab) (q : Nat) : ∀ k, (foldX T q k).length ≤ k * (q * q)
  | 0 => Nat.zero_le _
  | k + 1 => by
    have := foldX_len T q k
    have h2 := foldY_len T q k (foldX T q k) q
    show (foldY T q k (foldX T q k) q).length ≤ _
    rw [Nat.succ_mul]; omega
theorem Low.nextY {ps : List P3} {q x y : Nat} (h : Low ps q x y q) : Low ps q x (y + 1) 0 := fun r hr => ⟨(h r hr).1, by have := (h r hr).2; omega⟩
theorem Low.nextX {ps : List P3} {q x : Nat} (h : Low ps q x q 0) : Low ps q (x + 1) 0 0 := fun r hr => ⟨(h r hr).1, by have h1 := (h r hr).1; have := (h r hr).2; omega⟩
theorem open_L1 (h33 : E 33 = some ac33) (h44 : E 44 = some ac44) (h45 : E 45 = some ac45) (h46 : E 46 = some ac46) (h42 : E 42 = some ac42) (h51 : E 51 = some ac51) (h31 : E 31 = some ac31)
    {m : FM} {nf n1 sb mb : Nat} {pf : Value} {q : Nat} {A T : Tab} (hn1 : nf ≤ mb) (hn2 : nf ≤ sb) (hne : sb ≠ mb) (hsb : sb < n1) (hmb : mb < n1) (hF : FieldM m nf pf q A T) (hg : GoodT q A T) {x : Nat} (hx : x < q) (a1 a2 a4 a6 a7 a8 a9 a10 a11 : Value) {ps0 : List P3} (hlen : ps0.length ≤ 1000000) {Q : AX → List Value → FM → Nat → Nat → Prop}
    (hQ : ∀ M' N' w, OpS m n1 sb mb pf M' N' (foldY T q x ps0 q) → Low (foldY T q x ps0 q) q x q 0 → (∀ j, j ≤ nf → Nat.mod w (bit j) = 0) → Q (.exit 2) [.int .i64 (q : Int), a1, a2, .int .i64 (x : Int), a4, .pointer (some ⟨sb, 0, none⟩), a6, a7, a8, a9, a10, a11, .int .i64 (q : Int)] M' N' w) :
    ∀ d y, y + d = q → ∀ (M' : FM) (N' w0 : Nat), OpS m n1 sb mb pf M' N' (foldY T q x ps0 y) → Low (foldY T q x ps0 y) q x y 0 → (∀ j, j ≤ nf → Nat.mod w0 (bit j) = 0) →
    Gv (execW PG E Y ac23L1 [.int .i64 (y : Int), a1, a2, .int .i64 (x : Int), a4, .pointer (some ⟨sb, 0, none⟩), a6, a7, a8, a9, a10, a11, .int .i64 (q : Int)] M' N') fun X e m n w => Q X e m n (Nat.lor w0 w) := by
  have hq := hg.small
  intro d
  induction d with
  | zero =>
    intro y hy M' N' w0 hS hL hw
    obtain rfl : y = q := by omega
    refine wr_loopN (L := ac23L1) (b := ac23L1b) rfl ?_
    simp only [ac23L1b]
    simp (implicitDefEqProofs := false) (disch := omega) only [WPs, opds, List.all_cons, List.all_nil, List.cons_append, List.nil_append, cond_true, cond_false, eq_self, List.map_cons, List.map_nil, Nat.reduceAdd, Nat.testBit, Nat.reduceShiftRight, Nat.reduceAnd, Nat.reduceBNe, Nat.reduceMul]
    exact hQ _ _ _ hS hL hw
  | succ d ih =>
    intro y hy M' N' w0 hS hL hw
    have hyq : y < q := by omega
    have hl := foldY_len T q x ps0 y
    have hyy : y * q ≤ 1000 * 1000 := Nat.mul_le_mul (by omega) (by omega)
    refine wr_loopN (L := ac23L1) (b := ac23L1b) rfl ?_
    simp only [ac23L1b]
    simp (implicitDefEqProofs := false) (disch := omega) only [WPs, opds, List.all_cons, List.all_nil, List.cons_append, List.nil_append, cond_true, cond_false, eq_self, List.map_cons, List.map_nil, Nat.reduceAdd, Nat.testBit, Nat.reduceShiftRight, Nat.reduceAnd, Nat.reduceBNe, Nat.reduceMul]
    refine wr_kont (open_L0 (Y := Y) h33 h44 h45 h46 h42 h51 h31 hn1 hn2 hne hsb hmb hF hg hx hyq _ _ _ _ _ _ _ _ _ _ _ (ps0 := foldY T q x ps0 y) (by omega) (fun M2 N2 w2 hS2 hL2 hw2 rr => ?_) q 0 (by omega) M' N' 0 hS hL (by show (foldY T q x ps0 y).length ≤ _; omega) (fun _ _ => Nat.zero_mod _))
    simp (implicitDefEqProofs := false) (disch := omega) only [WPs, opds, List.all_cons, List.all_nil, List.cons_append, List.nil_append, cond_true, cond_false, eq_self, List.map_cons, List.map_nil, Nat.reduceAdd, Nat.testBit, Nat.reduceShiftRight, Nat.reduceAnd, Nat.reduceBNe, Nat.reduceMul]
    refine wr_end (ih (y + 1) (by omega) M2 N2 (Nat.lor w0 w2) hS2 hL2.nextY (fun j hj => by rw [frz_iff]; exact ⟨hw j hj, hw2 j hj⟩)) fun X e m n w hq => ?_
    rw [← lor_assoc']; exact hq
theorem open_L2 (h33 : E 33 = some ac33) (h44 : E 44 = some ac44) (h45 : E 45 = some ac45) (h46 : E 46 = some ac46) (h42 : E 42 = some ac42) (h51 : E 51 = some ac51) (h31 : E 31 = some ac31)
    {m : FM} {nf n1 sb mb : Nat} {pf : Value} {q : Nat} {A T : Tab} (hq2 : 2 ≤ q) (hn1 : nf ≤ mb) (hn2 : nf ≤ sb) (hne : sb ≠ mb) (hsb : sb < n1) (hmb : mb < n1) (hF : FieldM m nf pf q A T) (hg : GoodT q A T) (a1 a3 a4 a5 a6 a7 a8 : Value) {Q : AX → List Value → FM → Nat → Nat → Prop}
    (hQ : ∀ M' N' w, OpS m n1 sb mb pf M' N' (foldX T q 2) → Low (foldX T q 2) q 2 0 0 → (∀ j, j ≤ nf → Nat.mod w (bit j) = 0) → Q (.exit 0) [a1, .pointer (some ⟨sb, 0, none⟩), a3, a4, a5, a6, a7, a8, .int .i64 (q : Int)] M' N' w) :
    ∀ d x, x + d = 2 → ∀ (M' : FM) (N' w0 : Nat), OpS m n1 sb mb pf M' N' (foldX T q x) → Low (foldX T q x) q x 0 0 → (∀ j, j ≤ nf → Nat.mod w0 (bit j) = 0) →
    Gv (execW PG E Y ac23L2 [.int .i64 (x : Int), a1, .pointer (some ⟨sb, 0, none⟩), a3, a4, a5, a6, a7, a8, .int .i64 (q : Int)] M' N') fun X e m n w => Q X e m n (Nat.lor w0 w) := by
  have hq := hg.small
  intro d
  induction d with
  | zero =>
    intro x hx M' N' w0 hS hL hw
    obtain rfl : x = 2 := by omega
    refine wr_loopN (L := ac23L2) (b := ac23L2b) rfl ?_
    simp only [ac23L2b]
    simp (implicitDefEqProofs := false) (disch := omega) only [WPs, opds, List.all_cons, List.all_nil, List.cons_append, List.nil_append, cond_true, cond_false, eq_self, List.map_cons, List.map_nil, Nat.reduceAdd, Nat.testBit, Nat.reduceShiftRight, Nat.reduceAnd, Nat.reduceBNe, Nat.reduceMul]
    exact hQ _ _ _ hS hL hw
  | succ d ih =>
    intro x hx M' N' w0 hS hL hw
    have hl := foldX_len T q x
    have hxx : x * (q * q) ≤ 1 * (1000 * 1000) := Nat.mul_le_mul (by omega) (Nat.mul_le_mul (by omega) (by omega))
    refine wr_loopN (L := ac23L2) (b := ac23L2b) rfl ?_
    simp only [ac23L2b]
    simp (implicitDefEqProofs := false) (disch := omega) only [WPs, opds, List.all_cons, List.all_nil, List.cons_append, List.nil_append, cond_true, cond_false, eq_self, List.map_cons, List.map_nil, Nat.reduceAdd, Nat.testBit, Nat.reduceShiftRight, Nat.reduceAnd, Nat.reduceBNe, Nat.reduceMul]
    refine wr_kont (open_L1 (Y := Y) h33 h44 h45 h46 h42 h51 h31 hn1 hn2 hne hsb hmb hF hg (x := x) (by omega) _ _ _ _ _ _ _ _ _ (ps0 := foldX T q x) (by omega) (fun M2 N2 w2 hS2 hL2 hw2 rr => ?_) q 0 (by omega) M' N' 0 hS hL (fun _ _ => Nat.zero_mod _))
    simp (implicitDefEqProofs := false) (disch := omega) only [WPs, opds, List.all_cons, List.all_nil, List.cons_append, List.nil_append, cond_true, cond_false, eq_self, List.map_cons, List.map_nil, Nat.reduceAdd, Nat.testBit, Nat.reduceShiftRight, Nat.reduceAnd, Nat.reduceBNe, Nat.reduceMul]
    refine wr_end (ih (x + 1) (by omega) M2 N2 (Nat.lor w0 w2) hS2 hL2.nextX (fun j hj => by rw [frz_iff]; exact ⟨hw j hj, hw2 j hj⟩)) fun X e m n w hq => ?_
    rw [← lor_assoc']; exact hq
def SpaceM (m : FM) (N : Nat) (sv : Value) (q : Nat) (A T : Tab) (ps : List P3) : Prop :=
  ∃ sb mb pf allv n1, sv = .pointer (some ⟨sb, 0, none⟩) ∧ sb < N ∧ mb < N ∧ m sb = some (.cells [pf, allv, .map (some mb)] 0 false true) ∧ SlZ 3 m n1 N allv ps.length (ptCells ps) ∧ m mb = some (.map (mapC3 (numMC ps 0))) ∧ FieldM m N pf q A T ∧ ∀ r ∈ ps, r.lt q
theorem SpaceM.frame {m m' : FM} {n n' : Nat} {sv : Value} {q : Nat} {A M : Tab} {ps : List P3} (h : SpaceM m n sv q A M ps) (hn : n ≤ n') (hf : ∀ b, b < n → m' b = m b) : SpaceM m' n' sv q A M ps := by
  obtain ⟨sb, mb, pf, allv, n1, h1, h2, h3, h4, h5, h6, h7, h8⟩ := h
  exact ⟨sb, mb, pf, allv, n1, h1, by omega, by omega, (hf sb h2).trans h4, SlZ.frame h5 hn fun b _ hb => hf b hb, (hf mb h3).trans h6, h7.frame hn hf, h8⟩
theorem SpaceM.sp {m : FM} {n : Nat} {sv : Value} {q : Nat} {A M : Tab} {ps : List P3} (h : SpaceM m n sv q A M ps) : SpaceP m n sv q A M := by
  obtain ⟨sb, mb, pf, allv, n1, h1, h2, h3, h4, h5, h6, h7, h8⟩ := h
  exact ⟨sb, pf, allv, _, h1, h2, h4, h7⟩
abbrev Kpt (m : FM) (n : Nat) (R : Value → FM → Nat → Prop) (v : Value) (m' : FM) (n' w : Nat) : Prop := n ≤ n' ∧ (∀ b, b < n → m' b = m b) ∧ (∀ j, j ≤ n → Nat.mod w (bit j) = 0) ∧ R v m' n'
theorem open_spec (hE : E 23 = some ac23) (h33 : E 33 = some ac33) (h44 : E 44 = some ac44) (h45 : E 45 = some ac45) (h46 : E 46 = some ac46) (h42 : E 42 = some ac42) (h51 : E 51 = some ac51) (h31 : E 31 = some ac31)
    {q : Nat} {A T : Tab} (hq2 : 2 ≤ q) (hq7 : q ≤ 7) (hg : GoodT q A T) (m : FM) (n : Nat) (hNew : Rt (callW PG E Y 29 [.int .i64 (q : Int)] m n) (Kpt m n fun v M' N' => ∃ pv, v = .tuple #[pv, .int .i64 0] ∧ FieldM M' N' pv q A T)) :
    Rt (callW PG E Y 23 [.int .i64 (q : Int)] m n) (Kpt m n fun v M' N' => ∃ sv, v = .tuple #[sv, .int .i64 0] ∧ SpaceM M' N' sv q A T (foldX T q 2)) := by
  refine kept_specQ hE rfl fun Q hQ => ?_
  simp only [ac23]
  simp (implicitDefEqProofs := false) (disch := omega) only [WPs, opds, List.all_cons, List.all_nil, List.cons_append, List.nil_append, cond_true, cond_false, eq_self, List.map_cons, List.map_nil, Nat.reduceAdd, Nat.testBit, Nat.reduceShiftRight, Nat.reduceAnd, Nat.reduceBNe, Nat.reduceMul]
  refine use_rt hNew fun v M1 N1 r1 w1 ⟨n1, m1, f1, pv, hv, hF⟩ => ?_
  subst hv
  have hqq : q * q ≤ 7 * 7 := Nat.mul_le_mul hq7 hq7
  have hbp := hF.bel
  obtain ⟨fb, fp, fs, fm, rfl, fl, _⟩ := id hF
  simp (implicitDefEqProofs := false) (disch := omega) only [WPs, opds, List.all_cons, List.all_nil, List.cons_append, List.nil_append, cond_true, cond_false, eq_self, List.map_cons, List.map_nil, Nat.reduceAdd, Nat.testBit, Nat.reduceShiftRight, Nat.reduceAnd, Nat.reduceBNe, Nat.reduceMul, s_mp, mapc_mk, cells_mapv, one_map]
  generalize hM2 : (AMem.put (AMem.put M1 N1 (some (.map (mapC3 [])))) (N1 + 1) (some (.cells [.pointer (some ⟨fb, 0, none⟩), .slice none 0 0, .map (some N1)] 0 false true)) : FM) = M2
  have l2 : ∀ b, b < N1 → M2 b = M1 b := fun b hb => by rw [← hM2, fput_ne _ _ _ _ (by omega), fput_ne _ _ _ _ (by omega)]
  have hS0 : OpS M2 (N1 + 2) (N1 + 1) N1 (.pointer (some ⟨fb, 0, none⟩)) M2 (N1 + 2) [] := ⟨Nat.le_refl _, fun _ _ _ _ => rfl, ⟨_, by rw [← hM2]; exact fput_same _ _ _, .inl ⟨rfl, rfl, rfl⟩⟩, by rw [← hM2, fput_ne _ _ _ _ (by omega)]; exact fput_same _ _ _⟩
  have hF2 : FieldM M2 N1 (.pointer (some ⟨fb, 0, none⟩)) q A T := hF.frame (Nat.le_refl _) l2
  have fzn := f1 n (Nat.le_refl _)
  have fza : Nat.mod (bit N1) (bit n) = 0 := frz_bit (by omega)
  have fzb : Nat.mod (bit (N1 + 1)) (bit n) = 0 := frz_bit (by omega)
  refine wr_kont (open_L2 (Y := Y) h33 h44 h45 h46 h42 h51 h31 (m := M2) (nf := N1) (n1 := N1 + 2) (sb := N1 + 1) (mb := N1) hq2 (Nat.le_refl _) (by omega) (by omega) (by omega) (by omega) hF2 hg _ _ _ _ _ _ _ (fun M' N' w hS hL hw rr => ?_) 2 0 (by omega) M2 (N1 + 2) 0 hS0 (fun r hr => by cases hr) (fun _ _ => Nat.zero_mod _))
  obtain ⟨le, low, ⟨allv, s1, s2⟩, mp⟩ := hS
  have fzw := hw n n1
  simp (implicitDefEqProofs := false) (disch := omega) only [WPs, opds, List.all_cons, List.all_nil, List.cons_append, List.nil_append, cond_true, cond_false, eq_self, List.map_cons, List.map_nil, Nat.reduceAdd, Nat.testBit, Nat.reduceShiftRight, Nat.reduceAnd, Nat.reduceBNe, Nat.reduceMul]
  refine hQ _ _ _ _ _ (by omega) (fun b hb => by rw [low b (by omega) (by omega) (by omega), l2 b (by omega)]; exact m1 b hb) ?_ rfl ⟨_, rfl, N1 + 1, N1, .pointer (some ⟨fb, 0, none⟩), allv, N1 + 2, rfl, by omega, by omega, s1, s2, mp, hF2.frame (by omega) (fun b hb => low b (by omega) (by omega) (by omega)), fun r hr => (hL r hr).1⟩
  simp only [frz_iff]
  exact ⟨⟨fzn, fza, fzb⟩, fzw⟩
end Go.Am.C06
namespace Go.Am.C06
open Go Go.Am
variable {E : Nat → Option AFn} {Y : Nat → List Value → FM → Nat → OR FM}
theorem ptCells_len : ∀ l : List P3, (ptCells l).length = l.length * 3
  | [] => rfl
  | x :: l => by
    show (x.cells ++ ptCells l).length = _
    rw [List.length_append, ptCells_len l, List.length_cons]
    show 3 + _ = _
    omega
theorem ptCells_get : ∀ (l : List P3) (i k : Nat), k < 3 → (ptCells l)[i * 3 + k]? = (l[i]?).bind fun x => x.cells[k]?
  | [], i, k, _ => by simp [ptCells]
  | x :: l, 0, k, h => by
    show (x.cells ++ ptCells l)[0 * 3 + k]? = _
    rw [Nat.zero_mul, Nat.zero_add, List.getElem?_append_left (by show k < 3; exact h)]; rfl
  | x :: l, i + 1, k, h => by
    show (x.cells ++ ptCells l)[(i + 1) * 3 + k]? = _
    rw [List.getElem?_append_right (by show 3 ≤ _; omega), show (i + 1) * 3 + k - x.cells.length = i * 3 + k by show (i + 1) * 3 + k - 3 = _; omega, ptCells_get l i k h]; rfl
theorem ptCells_at (l : List P3) {i : Nat} (hi : i < l.length) : ctake (ldrop (ptCells l) (i * 3)) 3 = some l[i].cells := by
  rw [ldrop_eq, ctake_eq, if_pos (by rw [List.length_drop, ptCells_len]; omega)]
  congr 1
  apply List.ext_getElem?
  intro k
  rw [List.getElem?_take]
  split
  · rw [List.getElem?_drop, ptCells_get l i k (by omega), List.getElem?_eq_getElem hi]; rfl
  · exact (List.getElem?_eq_none (by show 3 ≤ k; omega)).symm
def posP (p : P3) : List P3 → Nat → Int
  | [], _ => 0
  | r :: l, i => if p = r then (i : Int) else posP p l (i + 1)
def comE (A T : Tab) (ps : List P3) (a b : Int) : Int × Int :=
  if a < 0 ∨ (ps.length : Int) ≤ a ∨ b < 0 ∨ (ps.length : Int) ≤ b then (0, 2) else if a = b then (0, 9) else (posP (crossP A T (ps.getD a.toNat p0) (ps.getD b.toNat p0)) ps 0, 0)
structure Fns (E : Nat → Option AFn) : Prop where
  e23 : E 23 = some ac23
  e24 : E 24 = some ac24
  e30 : E 30 = some ac30
  e31 : E 31 = some ac31
  e33 : E 33 = some ac33
  e42 : E 42 = some ac42
  e43 : E 43 = some ac43
  e44 : E 44 = some ac44
  e45 : E 45 = some ac45
  e46 : E 46 = some ac46
  e49 : E 49 = some ac49
  e50 : E 50 = some ac50
  e51 : E 51 = some ac51
end Go.Am.C06
namespace Go.Am
open Go
def RowZ (M : FM) (n0 N b : Nat) (x : Value) (g : List Int) : Prop :=
  (g = [] ∧ x = .slice none 0 0) ∨ (g ≠ [] ∧ ∃ c, x = .slice (some ⟨c, 0, none⟩) g.length UNK ∧ n0 ≤ c ∧ c < N ∧ c ≠ b ∧ M c = some (.cells (g.map (Value.int .i64)) 1 true true))
def RowsZ (M : FM) (n0 N : Nat) (v : Value) (gs : List (List Int)) : Prop :=
  (gs = [] ∧ v = .slice none 0 0) ∨ (gs ≠ [] ∧ ∃ vs b, v = .slice (some ⟨b, 0, none⟩) gs.length UNK ∧ n0 ≤ b ∧ b < N ∧ M b = some (.cells vs 1 true true) ∧ vs.length = gs.length ∧ ∀ (i : Nat) x g, vs[i]? = some x → gs[i]? = some g → RowZ M n0 N b x g)
theorem RowZ.mv {M M' : FM} {n0 N N' b b' : Nat} {x : Value} {g : List Int} (h : RowZ M n0 N b x g) (hN : N ≤ N') (hf : ∀ c, n0 ≤ c → c < N → c ≠ b → M' c = M c) (hb : ∀ c, c < N → c ≠ b → c ≠ b') : RowZ M' n0 N' b' x g := by
  rcases h with h | ⟨h0, c, h1, h2, h3, h4, h5⟩
  · exact .inl h
  · exact .inr ⟨h0, c, h1, h2, by omega, hb c h3 h4, (hf c h2 h3 h4).trans h5⟩
theorem RowsZ.frame {M M' : FM} {n0 N N' : Nat} {v : Value} {gs : List (List Int)} (h : RowsZ M n0 N v gs) (hN : N ≤ N') (hf : ∀ b, n0 ≤ b → b < N → M' b = M b) : RowsZ M' n0 N' v gs := by
  rcases h with h | ⟨h0, vs, b, h1, h2, h3, h4, h5, h6⟩
  · exact .inl h
  · exact .inr ⟨h0, vs, b, h1, h2, by omega, (hf b h2 h3).trans h4, h5, fun i x g hx hg => (h6 i x g hx hg).mv hN (fun c k1 k2 _ => hf c k1 k2) fun c _ k => k⟩
theorem RowsZ.nil (M : FM) (n0 N : Nat) : RowsZ M n0 N (.slice none 0 0) [] := .inl ⟨rfl, rfl⟩
theorem RowZ.ints {M : FM} {n0 N b : Nat} {x : Value} {g : List Int} (h : RowZ M n0 N b x g) : Ints M N x g := by
  rcases h with ⟨rfl, rfl⟩ | ⟨h0, c, h1, h2, h3, h4, h5⟩
  · exact .inl ⟨rfl, rfl⟩
  · exact .inr <| .inl ⟨c, 0, UNK, _, true, true, by rw [List.length_map]; exact h1, h3, h5, fun i x hx => by rw [Nat.zero_add]; exact hx⟩
theorem RowsZ.rows {M : FM} {n0 N : Nat} {v : Value} {gs : List (List Int)} (h : RowsZ M n0 N v gs) : Rows M N v gs := by
  rcases h with ⟨rfl, rfl⟩ | ⟨h0, vs, b, h1, h2, h3, h4, h5, h6⟩
  · exact ⟨[], .inl ⟨rfl, rfl⟩, rfl, fun i x g hx => by simp at hx⟩
  · exact ⟨vs, .inr <| .inl ⟨b, 0, UNK, vs, true, true, by rw [h5]; exact h1, h3, h4, fun i x hx => by rw [Nat.zero_add]; exact hx⟩, h5, fun i x g hx hg => (h6 i x g hx hg).ints⟩
theorem RowsZ.len {M : FM} {n0 N : Nat} {v : Value} {gs : List (List Int)} (h : RowsZ M n0 N v gs) : lenV false v = some (.int .i64 (gs.length : Int)) := h.rows.len
theorem RowsZ.bel {M : FM} {n0 N : Nat} {v : Value} {gs : List (List Int)} (h : RowsZ M n0 N v gs) (k : Nat) (hk : N ≤ k) : belowV k v = true := by
  rcases h with ⟨_, rfl⟩ | ⟨_, vs, b, rfl, _, hb, _⟩
  · rfl
  · exact blt_true (show b < k by omega)
theorem RowsZ.one {M : FM} {n0 N : Nat} {v : Value} {gs : List (List Int)} (h : RowsZ M n0 N v gs) : Am.one v = true := by
  rcases h with ⟨_, rfl⟩ | ⟨_, vs, b, rfl, _⟩ <;> rfl
theorem RowsZ.low {M : FM} {n0 n1 N : Nat} {v : Value} {gs : List (List Int)} (h : RowsZ M n0 N v gs) (hn : n1 ≤ n0) : RowsZ M n1 N v gs := by
  rcases h with h | ⟨h0, vs, b, h1, h2, h3, h4, h5, h6⟩
  · exact .inl h
  · refine .inr ⟨h0, vs, b, h1, by omega, h3, h4, h5, fun i x g hx hg => ?_⟩
    rcases h6 i x g hx hg with h | ⟨k0, c, k1, k2, k3, k4, k5⟩
    · exact .inl h
    · exact .inr ⟨k0, c, k1, by omega, k3, k4, k5⟩
structure AppR (M : FM) (n0 N : Nat) (gs : List (List Int)) (v' : Value) (M' : FM) (N' w : Nat) : Prop where
  v : v' = .slice (some ⟨N, 0, none⟩) gs.length UNK
  n : N' = N + 1
  s : RowsZ M' n0 N' v' gs
  low : ∀ b, b < n0 → M' b = M b
  w : ∀ j, j ≤ n0 → Nat.mod w (bit j) = 0
theorem app_rowsZ {M : FM} {n0 n1 N : Nat} {v x : Value} {gs : List (List Int)} {g : List Int} (h : RowsZ M n0 n1 v gs) (hx : IntZ M n1 N x g) (h01 : n0 ≤ n1) (h1N : n1 ≤ N) (ya : Option Addr) (yc ry : Nat) (hl : gs.length ≤ 1000000) :
    Rt (appO 1 24 M N v (.slice ya 1 yc) (shown M N 1 v) (some ([x], ry))) fun v' M' N' w => AppR M n0 N (gs ++ [g]) v' M' N' w := by
  have ho : Am.one x = true := SlZ.one hx
  have newRow : ∀ (M' : FM) (b : Nat), (∀ c, n1 ≤ c → c < N → M' c = M c) → RowZ M' n0 (N + 1) N x g := fun M' b hf => by
    rcases hx with ⟨h1, h2, h3⟩ | ⟨h1, h2, c, h3, h4, h5, h6⟩
    · exact .inl ⟨List.length_eq_zero_iff.1 h1, h3⟩
    · exact .inr ⟨List.length_pos_iff.1 h1, c, h3, by omega, by omega, by omega, (hf c h4 h5).trans h6⟩
  rcases h with ⟨rfl, rfl⟩ | ⟨h0, vs, b, rfl, hb1, hb2, hm, hvl, hr⟩
  · refine (app_slT (n0 := n0) (N := N) (t := 1) (tag := fun _ => 0) (bytes := 24) (v := .slice none 0 0) (z := x) (vs := []) (.inl ⟨rfl, rfl⟩) ya yc ry (by omega) ho (by omega) (by simp)).mono fun v' M' N' w hA => ?_
    have hfr : ∀ c, c < N → M' c = M c := fun c hc => hA.fr c (by omega) (fun e => by cases e)
    refine ⟨hA.v, hA.n, .inr ⟨by simp, [x], N, hA.v, by omega, by rw [hA.n]; omega, hA.m, rfl, fun i y g' hy hg => ?_⟩, hA.low, hA.frz (by omega)⟩
    match i, hy, hg with
    | 0, hy, hg =>
      injection hy with hy; injection hg with hg
      subst hy; subst hg
      rw [hA.n]
      exact newRow M' 0 fun c _ hc => hfr c hc
    | i + 1, hy, _ => simp at hy
  · have hvne : vs ≠ [] := fun e => h0 (List.length_eq_zero_iff.1 (by rw [← hvl, e]; rfl))
    have hS : SlT M n0 N 1 (fun c => if c = b then 1 else 0) (.slice (some ⟨b, 0, none⟩) gs.length UNK) vs := .inr ⟨hvne, b, by rw [hvl], hb1, by omega, if_pos rfl, hm⟩
    refine (app_slT (n0 := n0) (N := N) (bytes := 24) (z := x) hS ya yc ry (by omega) ho (by omega) (by rw [hvl]; omega)).mono fun v' M' N' w hA => ?_
    have hfr : ∀ c, c < N → c ≠ b → M' c = M c := fun c hc hcb => hA.fr c (by omega) (by simp [hcb])
    have hlen : (vs ++ [x]).length = (gs ++ [g]).length := by rw [List.length_append, List.length_append, hvl]; rfl
    refine ⟨by rw [hA.v, hlen], hA.n, .inr ⟨by simp, vs ++ [x], N, by rw [hA.v, hlen], by omega, by rw [hA.n]; omega, hA.m, hlen, fun i y g' hy hg => ?_⟩, hA.low, hA.frz (by omega)⟩
    rw [hA.n]
    rcases Nat.lt_or_ge i gs.length with hi | hi
    · rw [List.getElem?_append_left (by rw [hvl]; exact hi)] at hy
      rw [List.getElem?_append_left hi] at hg
      exact (hr i y g' hy hg).mv (by omega) (fun c _ k2 k3 => hfr c (by omega) k3) (fun c k2 _ => by omega)
    · rw [List.getElem?_append_right (by rw [hvl]; exact hi), hvl] at hy
      rw [List.getElem?_append_right hi] at hg
      have hi0 : i - gs.length = 0 := by
        rcases Nat.eq_zero_or_pos (i - gs.length) with e | e
        · exact e
        · rw [List.getElem?_eq_none (by simp; omega)] at hy; cases hy
      rw [hi0] at hy hg
      injection hy with hy; injection hg with hg
      subst hy; subst hg
      exact newRow M' b fun c k1 hc => hfr c hc (by omega)
end Go.Am
namespace Go.Am.C06
open Go Go.Am
variable {E : Nat → Option AFn} {Y : Nat → List Value → FM → Nat → OR FM}
def lineR (A T : Tab) (l : P3) : List P3 → Nat → List Int
  | [], _ => []
  | r :: rs, i => if dotP A T l r = 0 then (i : Int) :: lineR A T l rs (i + 1) else lineR A T l rs (i + 1)
theorem lineR_app (A T : Tab) (l r : P3) : ∀ (rs : List P3) (i : Nat), lineR A T l (rs ++ [r]) i = lineR A T l rs i ++ (if dotP A T l r = 0 then [((i + rs.length : Nat) : Int)] else [])
  | [], i => by
    show (if _ then _ else _) = _
    split <;> simp [lineR]
  | x :: rs, i => by
    have ih := lineR_app A T l r rs (i + 1)
    rw [List.length_cons, show i + (rs.length + 1) = i + 1 + rs.length by omega]
    rw [List.cons_append, lineR, lineR, ih]
    split <;> simp
theorem lineR_len (A T : Tab) (l : P3) : ∀ (rs : List P3) (i : Nat), (lineR A T l rs i).length ≤ rs.length
  | [], i => Nat.le_refl _
  | x :: rs, i => by
    have ih := lineR_len A T l rs (i + 1)
    rw [lineR]
    split <;> simp only [List.length_cons] <;> omega
theorem proj_L0 (F : Fns E) {m : FM} {n1 lb : Nat} {sv allv : Value} {q : Nat} {A T : Tab} {ps : List P3} (hg : GoodT q A T) (hSp : SpaceP m n1 sv q A T) {k1 : Nat} (hA : SlZ 3 m k1 n1 allv ps.length (ptCells ps)) (hps : ∀ r ∈ ps, r.lt q) (hpl : ps.length ≤ 100000) {l : P3} (hl : l.lt q) (hlb : lb < n1) (hlm : m lb = some (.cells l.cells 0 false true))
    (y2 y5 y6 y7 y9 y10 y11 y12 y13 y14 y15 y16 y17 y18 y20 y21 y22 : Value) {Q : AX → List Value → FM → Nat → Nat → Prop}
    (hQ : ∀ gv M' N' w, n1 ≤ N' → (∀ b, b < n1 → M' b = m b) → IntZ M' n1 N' gv (lineR A T l ps 0) → (∀ j, j ≤ n1 → Nat.mod w (bit j) = 0) → ∀ y1, Q (.exit 2) [gv, y1, y2, .int .i64 (ps.length : Int), allv, y5, y6, y7, .pointer (some ⟨lb, 0, none⟩), y9, y10, y11, y12, y13, y14, y15, y16, y17, y18, sv, y20, y21, y22] M' N' w) :
    ∀ d j, j + d = ps.length → ∀ (M' : FM) (N' w0 : Nat) (gv : Value), n1 ≤ N' → (∀ b, b < n1 → M' b = m b) → IntZ M' n1 N' gv (lineR A T l (ps.take j) 0) → (∀ j, j ≤ n1 → Nat.mod w0 (bit j) = 0) →
    Gv (execW PG E Y ac12L0 [gv, .int .i64 (j : Int), y2, .int .i64 (ps.length : Int), allv, y5, y6, y7, .pointer (some ⟨lb, 0, none⟩), y9, y10, y11, y12, y13, y14, y15, y16, y17, y18, sv, y20, y21, y22] M' N') fun X e m n w => Q X e m n (Nat.lor w0 w) := by
  intro d
  induction d with
  | zero =>
    intro j hj M' N' w0 gv hN hM hZ hw
    obtain rfl : j = ps.length := by omega
    rw [List.take_length] at hZ
    refine wr_loopN (L := ac12L0) (b := ac12L0b) rfl ?_
    simp only [ac12L0b]
    simp (implicitDefEqProofs := false) (disch := omega) only [WPs, opds, List.all_cons, List.all_nil, List.cons_append, List.nil_append, cond_true, cond_false, eq_self, List.map_cons, List.map_nil, Nat.reduceAdd, Nat.testBit, Nat.reduceShiftRight, Nat.reduceAnd, Nat.reduceBNe, Nat.reduceMul]
    exact hQ _ _ _ _ hN hM hZ hw _
  | succ d ih =>
    intro j hj M' N' w0 gv hN hM hZ hw
    have hjl : j < ps.length := by omega
    have ih' := ih (j + 1) (by omega)
    rw [List.take_add_one, List.getElem?_eq_getElem hjl, Option.toList_some, lineR_app, List.length_take, Nat.min_eq_left (by omega), Nat.zero_add] at ih'
    have hA' := SlZ.frame (M' := M') (N' := N') hA hN fun b _ hb => hM b hb
    obtain ⟨b1, i1, i2, i3, i4, i5⟩ := hA'.at hjl
    have i6 := ptCells_at ps hjl
    have hr := hps _ (List.getElem_mem hjl)
    have hll := lineR_len A T l (ps.take j) 0
    rw [List.length_take] at hll
    generalize ps[j] = r at *
    have lm : ∀ B : Option Blk, (AMem.put M' N' B : FM) lb = some (.cells l.cells 0 false true) := fun B => by rw [fput_ne _ _ _ _ (by omega), hM lb hlb]; exact hlm
    have hSp2 : ∀ B : Option Blk, SpaceP (AMem.put M' N' B) (N' + 1) sv q A T := fun B => hSp.frame (by omega) fun b hb => by rw [fput_ne _ _ _ _ (by omega)]; exact hM b hb
    have fz0 : ∀ j, j ≤ n1 → Nat.mod (bit N') (bit j) = 0 := fun j hj => frz_bit (by omega)
    refine wr_loopN (L := ac12L0) (b := ac12L0b) rfl ?_
    simp only [ac12L0b]
    simp only [P3.cells] at lm i6
    simp (implicitDefEqProofs := false) (disch := omega) only [WPs, opds, List.all_cons, List.all_nil, List.cons_append, List.nil_append, cond_true, cond_false, eq_self, List.map_cons, List.map_nil, Nat.reduceAdd, Nat.testBit, Nat.reduceShiftRight, Nat.reduceAnd, Nat.reduceBNe, Nat.reduceMul, i1, i4, i6, lm]
    refine use_pure (dot_spec (Y := Y) F.e24 F.e42 F.e31 F.e30 (hSp2 _) hg hl hr) fun _ => ?_
    by_cases h0 : dotP A T l r = 0
    · rw [if_pos h0] at ih'
      simp (implicitDefEqProofs := false) (disch := omega) only [WPs, opds, List.all_cons, List.all_nil, List.cons_append, List.nil_append, cond_true, cond_false, eq_self, List.map_cons, List.map_nil, Nat.reduceAdd, Nat.testBit, Nat.reduceShiftRight, Nat.reduceAnd, Nat.reduceBNe, Nat.reduceMul, h0]
      refine use_rt (app_intZ (IntZ.frame hZ (by omega) fun b _ hb => by rw [fput_ne _ _ _ _ (by omega), fput_ne _ _ _ _ (by omega)]) (j : Int) (some ⟨N' + 1, 0, none⟩) 1 (bit (N' + 1)) (by omega) (by omega)) fun v5 M5 N5 r5 w5 ⟨e5, z5, l5, f5⟩ => ?_
      subst e5
      simp (implicitDefEqProofs := false) (disch := omega) only [WPs, opds, List.all_cons, List.all_nil, List.cons_append, List.nil_append, cond_true, cond_false, eq_self, List.map_cons, List.map_nil, Nat.reduceAdd, Nat.testBit, Nat.reduceShiftRight, Nat.reduceAnd, Nat.reduceBNe, Nat.reduceMul]
      refine wr_end (ih' _ (N' + 3) (Nat.lor w0 (Nat.lor (Nat.lor (bit N') (bit N')) (Nat.lor (bit (N' + 1)) w5))) v5 (by omega) (fun b hb => by rw [l5 b hb, fput_ne _ _ _ _ (by omega), fput_ne _ _ _ _ (by omega)]; exact hM b hb) z5 (fun j hj => by simp only [frz_iff]; exact ⟨hw j hj, ⟨fz0 j hj, fz0 j hj⟩, frz_bit (by omega), f5 j hj⟩)) fun X e m n w hq => ?_
      rw [← lor_assoc']; exact hq
    · rw [if_neg h0, List.append_nil] at ih'
      have h0' : ¬ ((dotP A T l r : Nat) : Int) = 0 := by omega
      simp (implicitDefEqProofs := false) (disch := omega) only [WPs, opds, List.all_cons, List.all_nil, List.cons_append, List.nil_append, cond_true, cond_false, eq_self, List.map_cons, List.map_nil, Nat.reduceAdd, Nat.testBit, Nat.reduceShiftRight, Nat.reduceAnd, Nat.reduceBNe, Nat.reduceMul, decide_eq_false h0']
      refine wr_end (ih' _ (N' + 1) (Nat.lor w0 (Nat.lor (bit N') (bit N'))) gv (by omega) (fun b hb => by rw [fput_ne _ _ _ _ (by omega)]; exact hM b hb) (IntZ.frame hZ (by omega) fun b _ hb => fput_ne _ _ _ _ (by omega)) (fun j hj => by simp only [frz_iff]; exact ⟨hw j hj, fz0 j hj, fz0 j hj⟩)) fun X e m n w hq => ?_
      rw [← lor_assoc']; exact hq
def projR (A T : Tab) (ps : List P3) : List (List Int) := ps.map fun l => lineR A T l ps 0
structure PrS (m : FM) (n1 db : Nat) (D : Int) (M' : FM) (N' : Nat) (gs : List (List Int)) : Prop where
  le : n1 ≤ N'
  low : ∀ b, b < n1 → b ≠ db → M' b = m b
  d : ∃ rv, M' db = some (.cells [.int .i64 D, rv] 0 false true) ∧ RowsZ M' n1 N' rv gs
theorem proj_L1 (F : Fns E) {m : FM} {nf n1 db : Nat} {D : Int} {sv allv : Value} {q : Nat} {A T : Tab} {ps : List P3} (hg : GoodT q A T) (hS : SpaceM m nf sv q A T ps) (hnf : nf ≤ db) (hdb : db < n1) {k1 : Nat} (hA : SlZ 3 m k1 nf allv ps.length (ptCells ps)) (hps : ∀ r ∈ ps, r.lt q) (hpl : ps.length ≤ 100000)
    (y1 y5 y6 y8 y9 y10 : Value) {Q : AX → List Value → FM → Nat → Nat → Prop}
    (hQ : ∀ M' N' w, PrS m n1 db D M' N' (projR A T ps) → (∀ j, j ≤ nf → Nat.mod w (bit j) = 0) → Q (.exit 0) [y1, .int .i64 (ps.length : Int), allv, .pointer (some ⟨db, 0, none⟩), y5, y6, sv, y8, y9, y10] M' N' w) :
    ∀ d j, j + d = ps.length → ∀ (M' : FM) (N' w0 : Nat), PrS m n1 db D M' N' (projR A T ps |>.take j) → (∀ j, j ≤ nf → Nat.mod w0 (bit j) = 0) →
    Gv (execW PG E Y ac12L1 [.int .i64 (j : Int), y1, .int .i64 (ps.length : Int), allv, .pointer (some ⟨db, 0, none⟩), y5, y6, sv, y8, y9, y10] M' N') fun X e m n w => Q X e m n (Nat.lor w0 w) := by
  intro d
  induction d with
  | zero =>
    intro j hj M' N' w0 hP hw
    refine wr_loopN (L := ac12L1) (b := ac12L1b) rfl ?_
    simp only [ac12L1b]
    simp (implicitDefEqProofs := false) (disch := omega) only [WPs, opds, List.all_cons, List.all_nil, List.cons_append, List.nil_append, cond_true, cond_false, eq_self, List.map_cons, List.map_nil, Nat.reduceAdd, Nat.testBit, Nat.reduceShiftRight, Nat.reduceAnd, Nat.reduceBNe, Nat.reduceMul]
    have hpl2 : (projR A T ps).length = ps.length := List.length_map ..
    rw [show j = ps.length by omega, ← hpl2, List.take_length] at hP
    exact hQ _ _ _ hP hw
  | succ d ih =>
    intro j hj M' N' w0 hP hw
    refine wr_loopN (L := ac12L1) (b := ac12L1b) rfl ?_
    simp only [ac12L1b]
    have hjl : j < ps.length := by omega
    obtain ⟨le, low, rv, d1, d2⟩ := hP
    have hA' := SlZ.frame (M' := M') (N' := N') hA (by omega) fun b _ hb => low b (by omega) (by omega)
    obtain ⟨b1, i1, i2, i3, i4, i5⟩ := hA'.at hjl
    have i6 := ptCells_at ps hjl
    have hl := hps _ (List.getElem_mem hjl)
    have hps2 : (projR A T ps).take (j + 1) = (projR A T ps).take j ++ [lineR A T ps[j] ps 0] := by
      rw [List.take_add_one, projR, List.getElem?_map, List.getElem?_eq_getElem hjl]; rfl
    have ih' := ih (j + 1) (by omega)
    rw [hps2] at ih'
    have htl : ((projR A T ps).take j).length ≤ 100000 := by rw [List.length_take]; omega
    generalize (projR A T ps).take j = gs at *
    generalize ps[j] = l at *
    simp only [P3.cells] at i6
    have hSm : SpaceM M' N' sv q A T ps := hS.frame (by omega) fun b hb => low b (by omega) (by omega)
    obtain ⟨sb, mb, pf, allv2, k2, rfl, s2, s3, s4, s5, s6, s7, s8⟩ := id hSm
    simp (implicitDefEqProofs := false) (disch := omega) only [WPs, opds, List.all_cons, List.all_nil, List.cons_append, List.nil_append, cond_true, cond_false, eq_self, List.map_cons, List.map_nil, Nat.reduceAdd, Nat.testBit, Nat.reduceShiftRight, Nat.reduceAnd, Nat.reduceBNe, Nat.reduceMul, i1, i4, i6]
    generalize hM1 : (AMem.put M' N' (some (.cells [.int .i64 (l.x : Int), .int .i64 (l.y : Int), .int .i64 (l.z : Int)] 0 false true)) : FM) = M1
    have l1 : ∀ b, b < N' → M1 b = M' b := fun b hb => by rw [← hM1, fput_ne _ _ _ _ (by omega)]
    have lb1 : M1 N' = some (.cells l.cells 0 false true) := by rw [← hM1]; exact fput_same _ _ _
    have s4' : M1 sb = some (.cells [pf, allv2, .map (some mb)] 0 false true) := (l1 sb s2).trans s4
    simp (implicitDefEqProofs := false) (disch := omega) only [WPs, opds, List.all_cons, List.all_nil, List.cons_append, List.nil_append, cond_true, cond_false, eq_self, List.map_cons, List.map_nil, Nat.reduceAdd, Nat.testBit, Nat.reduceShiftRight, Nat.reduceAnd, Nat.reduceBNe, Nat.reduceMul, s4, nilckV, s5.len]
    refine wr_kont (proj_L0 F hg (m := M1) (n1 := N' + 1) (lb := N') (sv := .pointer (some ⟨sb, 0, none⟩)) (k1 := k2) ((hSm.sp).frame (by omega) l1) (SlZ.frame s5 (by omega) fun b _ hb => l1 b hb) hps hpl hl (Nat.lt_succ_self _) lb1 _ _ _ _ _ _ _ _ _ _ _ _ _ _ _ _ _ (fun gv M2 N2 w2 n2 m2 z2 f2 y1 rr => ?_) ps.length 0 (by omega) M1 (N' + 1) 0 _ (Nat.le_refl _) (fun _ _ => rfl) (IntZ.nil _ _ _) (fun _ _ => Nat.zero_mod _))
    have d1' : M2 db = some (.cells [.int .i64 D, rv] 0 false true) := by rw [m2 db (by omega), l1 db (by omega)]; exact d1
    have hgc : gv.cells.toList = [gv] := by rcases z2 with ⟨_, _, rfl⟩ | ⟨_, _, b, rfl, _⟩ <;> rfl
    have hgo : Am.one gv = true := SlZ.one z2
    simp (implicitDefEqProofs := false) (disch := omega) only [WPs, opds, List.all_cons, List.all_nil, List.cons_append, List.nil_append, cond_true, cond_false, eq_self, List.map_cons, List.map_nil, Nat.reduceAdd, Nat.testBit, Nat.reduceShiftRight, Nat.reduceAnd, Nat.reduceBNe, Nat.reduceMul, d1', hgo, hgc]
    refine use_rt (app_rowsZ (n0 := n1) (n1 := N') (gs := gs) (g := lineR A T l ps 0) (RowsZ.frame d2 (Nat.le_refl _) fun b h1 h2 => by rw [fput_ne _ _ _ _ (by omega), m2 b (by omega), l1 b h2]) (IntZ.frame (SlZ.low z2 (by omega)) (by omega) fun b _ hb => by rw [fput_ne _ _ _ _ (by omega)]) (by omega) (by omega) (some ⟨N2, 0, none⟩) 1 (bit N2) (by omega)) fun v5 M5 N5 r5 w5 hA => ?_
    obtain ⟨av, an, as5, al, aw⟩ := hA
    subst an
    subst av
    have d5 : M5 db = some (.cells [.int .i64 D, rv] 0 false true) := by rw [al db hdb, fput_ne _ _ _ _ (by omega)]; exact d1'
    simp (implicitDefEqProofs := false) (disch := omega) only [WPs, opds, List.all_cons, List.all_nil, List.cons_append, List.nil_append, cond_true, cond_false, eq_self, List.map_cons, List.map_nil, Nat.reduceAdd, Nat.testBit, Nat.reduceShiftRight, Nat.reduceAnd, Nat.reduceBNe, Nat.reduceMul, d5]
    refine wr_end (ih' _ (N2 + 2) (Nat.lor w0 (Nat.lor (Nat.lor (Nat.lor (bit N') (bit N')) w2) (Nat.lor (Nat.lor (bit N2) w5) (bit db)))) ⟨by omega, fun b h1 h2 => by rw [fput_ne _ _ _ _ h2, al b h1, fput_ne _ _ _ _ (by omega), m2 b (by omega), l1 b (by omega)]; exact low b h1 h2, ⟨_, fput_same _ _ _, RowsZ.frame as5 (Nat.le_refl _) fun b h1 _ => fput_ne _ _ _ _ (by omega)⟩⟩ (fun j hj => by
      simp only [frz_iff]
      exact ⟨hw j hj, ⟨⟨frz_bit (by omega), frz_bit (by omega)⟩, f2 j (by omega)⟩, ⟨frz_bit (by omega), aw j (by omega)⟩, frz_bit (by omega)⟩)) fun X e m n w hq => ?_
    rw [← lor_assoc']; exact hq
def DesV (M : FM) (n0 N : Nat) (v : Value) (D : Int) (gs : List (List Int)) : Prop := ∃ rv, v = .agg #[.int .i64 D, rv] ∧ RowsZ M n0 N rv gs
theorem proj_spec (F : Fns E) (hE : E 12 = some ac12) {q : Nat} {A T : Tab} {ps : List P3} (hg : GoodT q A T) (m : FM) (n : Nat) (hpl : ps.length ≤ 100000) (hOpen : ∀ m n, Rt (callW PG E Y 23 [.int .i64 (q : Int)] m n) (Kpt m n fun v M' N' => ∃ sv, v = .tuple #[sv, .int .i64 0] ∧ SpaceM M' N' sv q A T ps)) :
    Rt (callW PG E Y 12 [.int .i64 (q : Int)] m n) (Kpt m n fun v M' N' => ∃ dv, v = .tuple #[dv, .int .i64 0] ∧ DesV M' n N' dv (ps.length : Int) (projR A T ps)) := by
  refine kept_specQ hE rfl fun Q hQ => ?_
  simp only [ac12]
  simp (implicitDefEqProofs := false) (disch := omega) only [WPs, opds, List.all_cons, List.all_nil, List.cons_append, List.nil_append, cond_true, cond_false, eq_self, List.map_cons, List.map_nil, Nat.reduceAdd, Nat.testBit, Nat.reduceShiftRight, Nat.reduceAnd, Nat.reduceBNe, Nat.reduceMul]
  refine use_rt (hOpen _ _) fun v M1 N1 r1 w1 ⟨n1, m1, f1, sv, hv, hS⟩ => ?_
  subst hv
  obtain ⟨sb, mb, pf, allv, k1, rfl, s2, s3, s4, s5, s6, s7, s8⟩ := id hS
  have hlen := s5.len
  simp (implicitDefEqProofs := false) (disch := omega) only [WPs, opds, List.all_cons, List.all_nil, List.cons_append, List.nil_append, cond_true, cond_false, eq_self, List.map_cons, List.map_nil, Nat.reduceAdd, Nat.testBit, Nat.reduceShiftRight, Nat.reduceAnd, Nat.reduceBNe, Nat.reduceMul, s4, nilckV, hlen]
  generalize hM2 : (AMem.put M1 N1 (some (.cells [.int .i64 (ps.length : Int), .slice none 0 0] 0 false true)) : FM) = M2
  have l2 : ∀ b, b < N1 → M2 b = M1 b := fun b hb => by rw [← hM2, fput_ne _ _ _ _ (by omega)]
  have d2 : M2 N1 = some (.cells [.int .i64 (ps.length : Int), .slice none 0 0] 0 false true) := by rw [← hM2]; exact fput_same _ _ _
  have hm1 : M1 n = some (.cells [.int .i64 0, .slice none 0 0] 0 false true) := (m1 n (by omega)).trans (fput_same _ _ _)
  have s4' : M2 sb = some (.cells [pf, allv, .map (some mb)] 0 false true) := (l2 sb s2).trans s4
  have fzn := f1 n (by omega)
  have fza : Nat.mod (bit N1) (bit n) = 0 := frz_bit (by omega)
  have fzb : Nat.mod (bit n) (bit n) = 0 := frz_bit (Nat.le_refl _)
  refine wr_kont (proj_L1 F hg (m := M2) (nf := N1) (n1 := N1 + 1) (db := N1) (D := (ps.length : Int)) (sv := .pointer (some ⟨sb, 0, none⟩)) (hS.frame (Nat.le_refl _) l2) (Nat.le_refl _) (Nat.lt_succ_self _) (SlZ.frame s5 (Nat.le_refl _) fun b _ hb => l2 b hb) s8 hpl _ _ _ _ _ _ (fun M3 N3 w3 hP f3 rr => ?_) ps.length 0 (by omega) M2 (N1 + 1) 0 ⟨Nat.le_refl _, fun _ _ _ => rfl, ⟨_, d2, RowsZ.nil _ _ _⟩⟩ (fun _ _ => Nat.zero_mod _))
  obtain ⟨le3, low3, rv, e3, g3⟩ := hP
  have hm3 : M3 n = some (.cells [.int .i64 0, .slice none 0 0] 0 false true) := by rw [low3 n (by omega) (by omega), l2 n (by omega)]; exact hm1
  have hrb : Am.one rv = true := g3.one
  have fz3 := f3 n (by omega)
  simp (implicitDefEqProofs := false) (disch := omega) only [WPs, opds, List.all_cons, List.all_nil, List.cons_append, List.nil_append, cond_true, cond_false, eq_self, List.map_cons, List.map_nil, Nat.reduceAdd, Nat.testBit, Nat.reduceShiftRight, Nat.reduceAnd, Nat.reduceBNe, Nat.reduceMul, e3, hm3, hrb]
  refine hQ _ _ _ _ _ (by omega) (fun b hb => by rw [fput_ne _ _ _ _ (by omega), low3 b (by omega) (by omega), l2 b (by omega), m1 b (by omega), fput_ne _ _ _ _ (by omega)]) ?_ rfl ⟨_, rfl, rv, rfl, RowsZ.low (RowsZ.frame g3 (Nat.le_refl _) fun b h1 _ => fput_ne _ _ _ _ (by omega)) (by omega)⟩
  simp only [frz_iff]
  exact ⟨⟨⟨⟨fzb, fzn⟩, fza, fza⟩, fz3⟩, fzb⟩
end Go.Am.C06
namespace Go.Am.C06
open Go Go.Am
variable {E : Nat → Option AFn} {Y : Nat → List Value → FM → Nat → OR FM}
def rowA (A T : Tab) (q m b j : Nat) : List Int := (List.range j).map fun x => ((q * x + addN A (addN T m x) b : Nat) : Int)
theorem rowA_succ (A T : Tab) (q m b j : Nat) : rowA A T q m b (j + 1) = rowA A T q m b j ++ [((q * j + addN A (addN T m j) b : Nat) : Int)] := by
  rw [rowA, List.range_succ, List.map_append]; rfl
theorem rowA_len (A T : Tab) (q m b j : Nat) : (rowA A T q m b j).length = j := by simp [rowA]
def rowV (q x j : Nat) : List Int := (List.range j).map fun y => ((q * x + y : Nat) : Int)
theorem rowV_succ (q x j : Nat) : rowV q x (j + 1) = rowV q x j ++ [((q * x + j : Nat) : Int)] := by
  rw [rowV, List.range_succ, List.map_append]; rfl
theorem rowV_len (q x j : Nat) : (rowV q x j).length = j := by simp [rowV]
def rowsB (A T : Tab) (q m : Nat) (gs : List (List Int)) : Nat → List (List Int)
  | 0 => gs
  | b + 1 => rowsB A T q m gs b ++ [rowA A T q m b q]
def rowsM (A T : Tab) (q : Nat) : Nat → List (List Int)
  | 0 => []
  | m + 1 => rowsB A T q m (rowsM A T q m) q
def rowsX (q : Nat) (gs : List (List Int)) : Nat → List (List Int)
  | 0 => gs
  | x + 1 => rowsX q gs x ++ [rowV q x q]
def affR (A T : Tab) (q : Nat) : List (List Int) := rowsX q (rowsM A T q q) q
theorem rowsB_len (A T : Tab) (q m : Nat) (gs : List (List Int)) : ∀ b, (rowsB A T q m gs b).length = gs.length + b
  | 0 => rfl
  | b + 1 => by rw [rowsB, List.length_append, rowsB_len A T q m gs b]; rfl
theorem rowsM_len (A T : Tab) (q : Nat) : ∀ m, (rowsM A T q m).length = m * q
  | 0 => by rw [Nat.zero_mul]; rfl
  | m + 1 => by rw [rowsM, rowsB_len, rowsM_len A T q m, Nat.succ_mul]
theorem rowsX_len (q : Nat) (gs : List (List Int)) : ∀ x, (rowsX q gs x).length = gs.length + x
  | 0 => rfl
  | x + 1 => by rw [rowsX, List.length_append, rowsX_len q gs x]; rfl
theorem aff_L0 (h30 : E 30 = some ac30) (h31 : E 31 = some ac31) (h42 : E 42 = some ac42) {m0 : FM} {n1 : Nat} {pf : Value} {q : Nat} {A T : Tab} (hg : GoodT q A T) (hF : FieldM m0 n1 pf q A T) {m b : Nat} (hm : m < q) (hb : b < q)
    (y2 y3 y4 y6 y7 y9 y10 y11 y12 y13 y15 y16 : Value) {Q : AX → List Value → FM → Nat → Nat → Prop}
    (hQ : ∀ gv M' N' w, n1 ≤ N' → (∀ b, b < n1 → M' b = m0 b) → IntZ M' n1 N' gv (rowA A T q m b q) → (∀ j, j ≤ n1 → Nat.mod w (bit j) = 0) → ∀ y1, Q (.exit 4) [gv, y1, y2, y3, y4, .int .i64 (b : Int), y6, y7, .int .i64 (m : Int), y9, y10, y11, y12, y13, pf, y15, y16, .int .i64 (q : Int)] M' N' w) :
    ∀ d x, x + d = q → ∀ (M' : FM) (N' w0 : Nat) (gv : Value), n1 ≤ N' → (∀ b, b < n1 → M' b = m0 b) → IntZ M' n1 N' gv (rowA A T q m b x) → (∀ j, j ≤ n1 → Nat.mod w0 (bit j) = 0) →
    Gv (execW PG E Y ac16L0 [gv, .int .i64 (x : Int), y2, y3, y4, .int .i64 (b : Int), y6, y7, .int .i64 (m : Int), y9, y10, y11, y12, y13, pf, y15, y16, .int .i64 (q : Int)] M' N') fun X e m n w => Q X e m n (Nat.lor w0 w) := by
  have hq := hg.small
  intro d
  induction d with
  | zero =>
    intro x hx M' N' w0 gv hN hM hZ hw
    obtain rfl : x = q := by omega
    refine wr_loopN (L := ac16L0) (b := ac16L0b) rfl ?_
    simp only [ac16L0b]
    simp (implicitDefEqProofs := false) (disch := omega) only [WPs, opds, List.all_cons, List.all_nil, List.cons_append, List.nil_append, cond_true, cond_false, eq_self, List.map_cons, List.map_nil, Nat.reduceAdd, Nat.testBit, Nat.reduceShiftRight, Nat.reduceAnd, Nat.reduceBNe, Nat.reduceMul]
    exact hQ _ _ _ _ hN hM hZ hw _
  | succ d ih =>
    intro x hx M' N' w0 gv hN hM hZ hw
    have hxq : x < q := by omega
    have ih' := ih (x + 1) (by omega)
    rw [rowA_succ] at ih'
    obtain ⟨t1, t2⟩ := hg.mulE hm hxq
    obtain ⟨u1, u2⟩ := hg.addE t2 hb
    have hll := rowA_len A T q m b x
    have hF' := hF.frame hN hM
    have hqx : q * x ≤ 1000 * 1000 := Nat.mul_le_mul (by omega) (by omega)
    refine wr_loopN (L := ac16L0) (b := ac16L0b) rfl ?_
    simp only [ac16L0b]
    simp (implicitDefEqProofs := false) (disch := omega) only [WPs, opds, List.all_cons, List.all_nil, List.cons_append, List.nil_append, cond_true, cond_false, eq_self, List.map_cons, List.map_nil, Nat.reduceAdd, Nat.testBit, Nat.reduceShiftRight, Nat.reduceAnd, Nat.reduceBNe, Nat.reduceMul]
    refine use_pure (mul_spec h31 h42 hF' hm hxq) fun _ => ?_
    rw [t1]
    simp (implicitDefEqProofs := false) (disch := omega) only [WPs, opds, List.all_cons, List.all_nil, List.cons_append, List.nil_append, cond_true, cond_false, eq_self, List.map_cons, List.map_nil, Nat.reduceAdd, Nat.testBit, Nat.reduceShiftRight, Nat.reduceAnd, Nat.reduceBNe, Nat.reduceMul]
    refine use_pure (add_spec h30 h42 hF' t2 hb) fun _ => ?_
    rw [u1]
    generalize addN A (addN T m x) b = u at *
    simp (implicitDefEqProofs := false) (disch := omega) only [WPs, opds, List.all_cons, List.all_nil, List.cons_append, List.nil_append, cond_true, cond_false, eq_self, List.map_cons, List.map_nil, Nat.reduceAdd, Nat.testBit, Nat.reduceShiftRight, Nat.reduceAnd, Nat.reduceBNe, Nat.reduceMul]
    refine use_rt (app_intZ (IntZ.frame hZ (by omega) fun b _ hb => by rw [fput_ne _ _ _ _ (by omega)]) ((q * x + u : Nat) : Int) (some ⟨N', 0, none⟩) 1 (bit N') (by omega) (by omega)) fun v5 M5 N5 r5 w5 ⟨e5, z5, l5, f5⟩ => ?_
    subst e5
    simp (implicitDefEqProofs := false) (disch := omega) only [WPs, opds, List.all_cons, List.all_nil, List.cons_append, List.nil_append, cond_true, cond_false, eq_self, List.map_cons, List.map_nil, Nat.reduceAdd, Nat.testBit, Nat.reduceShiftRight, Nat.reduceAnd, Nat.reduceBNe, Nat.reduceMul]
    refine wr_end (ih' _ (N' + 2) (Nat.lor w0 (Nat.lor (bit N') w5)) v5 (by omega) (fun b hb => by rw [l5 b hb, fput_ne _ _ _ _ (by omega)]; exact hM b hb) z5 (fun j hj => by simp only [frz_iff]; exact ⟨hw j hj, frz_bit (by omega), f5 j hj⟩)) fun X e m n w hq => ?_
    rw [← lor_assoc']; exact hq
theorem aff_L3 {m0 : FM} {n1 : Nat} {q : Nat} (hq : q < 1000) {x : Nat} (hx : x < q)
    (y2 y3 y4 y6 y7 y8 y9 y10 y11 y12 y13 y14 : Value) {Q : AX → List Value → FM → Nat → Nat → Prop}
    (hQ : ∀ gv M' N' w, n1 ≤ N' → (∀ b, b < n1 → M' b = m0 b) → IntZ M' n1 N' gv (rowV q x q) → (∀ j, j ≤ n1 → Nat.mod w (bit j) = 0) → ∀ y1, Q (.exit 8) [gv, y1, y2, y3, y4, .int .i64 (x : Int), y6, y7, y8, y9, y10, y11, y12, y13, y14, .int .i64 (q : Int)] M' N' w) :
    ∀ d y, y + d = q → ∀ (M' : FM) (N' w0 : Nat) (gv : Value), n1 ≤ N' → (∀ b, b < n1 → M' b = m0 b) → IntZ M' n1 N' gv (rowV q x y) → (∀ j, j ≤ n1 → Nat.mod w0 (bit j) = 0) →
    Gv (execW PG E Y ac16L3 [gv, .int .i64 (y : Int), y2, y3, y4, .int .i64 (x : Int), y6, y7, y8, y9, y10, y11, y12, y13, y14, .int .i64 (q : Int)] M' N') fun X e m n w => Q X e m n (Nat.lor w0 w) := by
  intro d
  induction d with
  | zero =>
    intro y hy M' N' w0 gv hN hM hZ hw
    obtain rfl : y = q := by omega
    refine wr_loopN (L := ac16L3) (b := ac16L3b) rfl ?_
    simp only [ac16L3b]
    simp (implicitDefEqProofs := false) (disch := omega) only [WPs, opds, List.all_cons, List.all_nil, List.cons_append, List.nil_append, cond_true, cond_false, eq_self, List.map_cons, List.map_nil, Nat.reduceAdd, Nat.testBit, Nat.reduceShiftRight, Nat.reduceAnd, Nat.reduceBNe, Nat.reduceMul]
    exact hQ _ _ _ _ hN hM hZ hw _
  | succ d ih =>
    intro y hy M' N' w0 gv hN hM hZ hw
    have ih' := ih (y + 1) (by omega)
    rw [rowV_succ] at ih'
    have hll := rowV_len q x y
    have hqx : q * x ≤ 1000 * 1000 := Nat.mul_le_mul (by omega) (by omega)
    refine wr_loopN (L := ac16L3) (b := ac16L3b) rfl ?_
    simp only [ac16L3b]
    simp (implicitDefEqProofs := false) (disch := omega) only [WPs, opds, List.all_cons, List.all_nil, List.cons_append, List.nil_append, cond_true, cond_false, eq_self, List.map_cons, List.map_nil, Nat.reduceAdd, Nat.testBit, Nat.reduceShiftRight, Nat.reduceAnd, Nat.reduceBNe, Nat.reduceMul]
    refine use_rt (app_intZ (IntZ.frame hZ (by omega) fun b _ hb => by rw [fput_ne _ _ _ _ (by omega)]) ((q * x + y : Nat) : Int) (some ⟨N', 0, none⟩) 1 (bit N') (by omega) (by omega)) fun v5 M5 N5 r5 w5 ⟨e5, z5, l5, f5⟩ => ?_
    subst e5
    simp (implicitDefEqProofs := false) (disch := omega) only [WPs, opds, List.all_cons, List.all_nil, List.cons_append, List.nil_append, cond_true, cond_false, eq_self, List.map_cons, List.map_nil, Nat.reduceAdd, Nat.testBit, Nat.reduceShiftRight, Nat.reduceAnd, Nat.reduceBNe, Nat.reduceMul]
    refine wr_end (ih' _ (N' + 2) (Nat.lor w0 (Nat.lor (bit N') w5)) v5 (by omega) (fun b hb => by rw [l5 b hb, fput_ne _ _ _ _ (by omega)]; exact hM b hb) z5 (fun j hj => by simp only [frz_iff]; exact ⟨hw j hj, frz_bit (by omega), f5 j hj⟩)) fun X e m n w hq => ?_
    rw [← lor_assoc']; exact hq
theorem aff_L1 (h30 : E 30 = some ac30) (h31 : E 31 = some ac31) (h42 : E 42 = some ac42) {m0 : FM} {nf n1 db : Nat} {D : Int} {pf : Value} {q : Nat} {A T : Tab} (hg : GoodT q A T) (hF : FieldM m0 nf pf q A T) (hnf : nf ≤ db) (hdb : db < n1) {m : Nat} (hm : m < q) {gs : List (List Int)} (hgl : gs.length ≤ 100000)
    (y1 y2 y4 y6 y7 y8 y10 y11 : Value) {Q : AX → List Value → FM → Nat → Nat → Prop}
    (hQ : ∀ M' N' w, PrS m0 n1 db D M' N' (rowsB A T q m gs q) → (∀ j, j ≤ nf → Nat.mod w (bit j) = 0) → ∀ y0, Q (.exit 2) [y0, y1, y2, .int .i64 (m : Int), y4, .pointer (some ⟨db, 0, none⟩), y6, y7, y8, pf, y10, y11, .int .i64 (q : Int)] M' N' w) :
    ∀ d b, b + d = q → ∀ (M' : FM) (N' w0 : Nat), PrS m0 n1 db D M' N' (rowsB A T q m gs b) → (∀ j, j ≤ nf → Nat.mod w0 (bit j) = 0) →
    Gv (execW PG E Y ac16L1 [.int .i64 (b : Int), y1, y2, .int .i64 (m : Int), y4, .pointer (some ⟨db, 0, none⟩), y6, y7, y8, pf, y10, y11, .int .i64 (q : Int)] M' N') fun X e m n w => Q X e m n (Nat.lor w0 w) := by
  have hq := hg.small
  intro d
  induction d with
  | zero =>
    intro b hb M' N' w0 hP hw
    obtain rfl : b = q := by omega
    refine wr_loopN (L := ac16L1) (b := ac16L1b) rfl ?_
    simp only [ac16L1b]
    simp (implicitDefEqProofs := false) (disch := omega) only [WPs, opds, List.all_cons, List.all_nil, List.cons_append, List.nil_append, cond_true, cond_false, eq_self, List.map_cons, List.map_nil, Nat.reduceAdd, Nat.testBit, Nat.reduceShiftRight, Nat.reduceAnd, Nat.reduceBNe, Nat.reduceMul]
    exact hQ _ _ _ hP hw _
  | succ d ih =>
    intro b hb M' N' w0 hP hw
    have hbq : b < q := by omega
    have ih' := ih (b + 1) (by omega)
    rw [rowsB] at ih'
    have hgl2 := rowsB_len A T q m gs b
    generalize rowsB A T q m gs b = hs at *
    obtain ⟨le, low, rv, d1, d2⟩ := hP
    have hF' : FieldM M' N' pf q A T := hF.frame (by omega) fun b hb => low b (by omega) (by omega)
    refine wr_loopN (L := ac16L1) (b := ac16L1b) rfl ?_
    simp only [ac16L1b]
    simp (implicitDefEqProofs := false) (disch := omega) only [WPs, opds, List.all_cons, List.all_nil, List.cons_append, List.nil_append, cond_true, cond_false, eq_self, List.map_cons, List.map_nil, Nat.reduceAdd, Nat.testBit, Nat.reduceShiftRight, Nat.reduceAnd, Nat.reduceBNe, Nat.reduceMul]
    refine wr_kont (aff_L0 h30 h31 h42 (m0 := M') (n1 := N') hg hF' hm hbq _ _ _ _ _ _ _ _ _ _ _ _ (fun gv M2 N2 w2 n2 m2 z2 f2 y1 rr => ?_) q 0 (by omega) M' N' 0 _ (Nat.le_refl _) (fun _ _ => rfl) (IntZ.nil _ _ _) (fun _ _ => Nat.zero_mod _))
    have d1' : M2 db = some (.cells [.int .i64 D, rv] 0 false true) := by rw [m2 db (by omega)]; exact d1
    have hgc : gv.cells.toList = [gv] := by rcases z2 with ⟨_, _, rfl⟩ | ⟨_, _, b, rfl, _⟩ <;> rfl
    have hgo : Am.one gv = true := SlZ.one z2
    simp (implicitDefEqProofs := false) (disch := omega) only [WPs, opds, List.all_cons, List.all_nil, List.cons_append, List.nil_append, cond_true, cond_false, eq_self, List.map_cons, List.map_nil, Nat.reduceAdd, Nat.testBit, Nat.reduceShiftRight, Nat.reduceAnd, Nat.reduceBNe, Nat.reduceMul, d1', hgo, hgc]
    refine use_rt (app_rowsZ (n0 := n1) (n1 := N') (gs := hs) (g := rowA A T q m b q) (RowsZ.frame d2 (Nat.le_refl _) fun b h1 h2 => by rw [fput_ne _ _ _ _ (by omega), m2 b (by omega)]) (IntZ.frame z2 (by omega) fun b _ hb => by rw [fput_ne _ _ _ _ (by omega)]) (by omega) (by omega) (some ⟨N2, 0, none⟩) 1 (bit N2) (by omega)) fun v5 M5 N5 r5 w5 hA => ?_
    obtain ⟨av, an, as5, al, aw⟩ := hA
    subst an
    subst av
    have d5 : M5 db = some (.cells [.int .i64 D, rv] 0 false true) := by rw [al db hdb, fput_ne _ _ _ _ (by omega)]; exact d1'
    simp (implicitDefEqProofs := false) (disch := omega) only [WPs, opds, List.all_cons, List.all_nil, List.cons_append, List.nil_append, cond_true, cond_false, eq_self, List.map_cons, List.map_nil, Nat.reduceAdd, Nat.testBit, Nat.reduceShiftRight, Nat.reduceAnd, Nat.reduceBNe, Nat.reduceMul, d5]
    refine wr_end (ih' _ (N2 + 2) (Nat.lor w0 (Nat.lor w2 (Nat.lor (Nat.lor (bit N2) w5) (bit db)))) ⟨by omega, fun b h1 h2 => by rw [fput_ne _ _ _ _ h2, al b h1, fput_ne _ _ _ _ (by omega), m2 b (by omega)]; exact low b h1 h2, ⟨_, fput_same _ _ _, RowsZ.frame as5 (Nat.le_refl _) fun b h1 _ => fput_ne _ _ _ _ (by omega)⟩⟩ (fun j hj => by
      simp only [frz_iff]
      exact ⟨hw j hj, f2 j (by omega), ⟨frz_bit (by omega), aw j (by omega)⟩, frz_bit (by omega)⟩)) fun X e m n w hq => ?_
    rw [← lor_assoc']; exact hq
theorem aff_L4 {m0 : FM} {nf n1 db : Nat} {D : Int} {q : Nat} (hq : q < 1000) (hnf : nf ≤ db) (hdb : db < n1) {gs : List (List Int)} (hgl : gs.length ≤ 100000)
    (y1 y2 y4 y5 y6 y7 y8 y9 : Value) {Q : AX → List Value → FM → Nat → Nat → Prop}
    (hQ : ∀ M' N' w, PrS m0 n1 db D M' N' (rowsX q gs q) → (∀ j, j ≤ nf → Nat.mod w (bit j) = 0) → Q (.exit 6) [y1, y2, .pointer (some ⟨db, 0, none⟩), y4, y5, y6, y7, y8, y9, .int .i64 (q : Int)] M' N' w) :
    ∀ d x, x + d = q → ∀ (M' : FM) (N' w0 : Nat), PrS m0 n1 db D M' N' (rowsX q gs x) → (∀ j, j ≤ nf → Nat.mod w0 (bit j) = 0) →
    Gv (execW PG E Y ac16L4 [.int .i64 (x : Int), y1, y2, .pointer (some ⟨db, 0, none⟩), y4, y5, y6, y7, y8, y9, .int .i64 (q : Int)] M' N') fun X e m n w => Q X e m n (Nat.lor w0 w) := by
  intro d
  induction d with
  | zero =>
    intro x hx M' N' w0 hP hw
    obtain rfl : x = q := by omega
    refine wr_loopN (L := ac16L4) (b := ac16L4b) rfl ?_
    simp only [ac16L4b]
    simp (implicitDefEqProofs := false) (disch := omega) only [WPs, opds, List.all_cons, List.all_nil, List.cons_append, List.nil_append, cond_true, cond_false, eq_self, List.map_cons, List.map_nil, Nat.reduceAdd, Nat.testBit, Nat.reduceShiftRight, Nat.reduceAnd, Nat.reduceBNe, Nat.reduceMul]
    exact hQ _ _ _ hP hw
  | succ d ih =>
    intro x hx M' N' w0 hP hw
    have hxq : x < q := by omega
    have ih' := ih (x + 1) (by omega)
    rw [rowsX] at ih'
    have hgl2 := rowsX_len q gs x
    generalize rowsX q gs x = hs at *
    obtain ⟨le, low, rv, d1, d2⟩ := hP
    refine wr_loopN (L := ac16L4) (b := ac16L4b) rfl ?_
    simp only [ac16L4b]
    simp (implicitDefEqProofs := false) (disch := omega) only [WPs, opds, List.all_cons, List.all_nil, List.cons_append, List.nil_append, cond_true, cond_false, eq_self, List.map_cons, List.map_nil, Nat.reduceAdd, Nat.testBit, Nat.reduceShiftRight, Nat.reduceAnd, Nat.reduceBNe, Nat.reduceMul]
    refine wr_kont (aff_L3 (m0 := M') (n1 := N') hq hxq _ _ _ _ _ _ _ _ _ _ _ _ (fun gv M2 N2 w2 n2 m2 z2 f2 y1 rr => ?_) q 0 (by omega) M' N' 0 _ (Nat.le_refl _) (fun _ _ => rfl) (IntZ.nil _ _ _) (fun _ _ => Nat.zero_mod _))
    have d1' : M2 db = some (.cells [.int .i64 D, rv] 0 false true) := by rw [m2 db (by omega)]; exact d1
    have hgc : gv.cells.toList = [gv] := by rcases z2 with ⟨_, _, rfl⟩ | ⟨_, _, b, rfl, _⟩ <;> rfl
    have hgo : Am.one gv = true := SlZ.one z2
    simp (implicitDefEqProofs := false) (disch := omega) only [WPs, opds, List.all_cons, List.all_nil, List.cons_append, List.nil_append, cond_true, cond_false, eq_self, List.map_cons, List.map_nil, Nat.reduceAdd, Nat.testBit, Nat.reduceShiftRight, Nat.reduceAnd, Nat.reduceBNe, Nat.reduceMul, d1', hgo, hgc]
    refine use_rt (app_rowsZ (n0 := n1) (n1 := N') (gs := hs) (g := rowV q x q) (RowsZ.frame d2 (Nat.le_refl _) fun b h1 h2 => by rw [fput_ne _ _ _ _ (by omega), m2 b (by omega)]) (IntZ.frame z2 (by omega) fun b _ hb => by rw [fput_ne _ _ _ _ (by omega)]) (by omega) (by omega) (some ⟨N2, 0, none⟩) 1 (bit N2) (by omega)) fun v5 M5 N5 r5 w5 hA => ?_
    obtain ⟨av, an, as5, al, aw⟩ := hA
    subst an
    subst av
    have d5 : M5 db = some (.cells [.int .i64 D, rv] 0 false true) := by rw [al db hdb, fput_ne _ _ _ _ (by omega)]; exact d1'
    simp (implicitDefEqProofs := false) (disch := omega) only [WPs, opds, List.all_cons, List.all_nil, List.cons_append, List.nil_append, cond_true, cond_false, eq_self, List.map_cons, List.map_nil, Nat.reduceAdd, Nat.testBit, Nat.reduceShiftRight, Nat.reduceAnd, Nat.reduceBNe, Nat.reduceMul, d5]
    refine wr_end (ih' _ (N2 + 2) (Nat.lor w0 (Nat.lor w2 (Nat.lor (Nat.lor (bit N2) w5) (bit db)))) ⟨by omega, fun b h1 h2 => by rw [fput_ne _ _ _ _ h2, al b h1, fput_ne _ _ _ _ (by omega), m2 b (by omega)]; exact low b h1 h2, ⟨_, fput_same _ _ _, RowsZ.frame as5 (Nat.le_refl _) fun b h1 _ => fput_ne _ _ _ _ (by omega)⟩⟩ (fun j hj => by
      simp only [frz_iff]
      exact ⟨hw j hj, f2 j (by omega), ⟨frz_bit (by omega), aw j (by omega)⟩, frz_bit (by omega)⟩)) fun X e m n w hq => ?_
    rw [← lor_assoc']; exact hq
theorem aff_L2 (h30 : E 30 = some ac30) (h31 : E 31 = some ac31) (h42 : E 42 = some ac42) {m0 : FM} {nf n1 db : Nat} {D : Int} {pf : Value} {q : Nat} {A T : Tab} (hg : GoodT q A T) (hq9 : q ≤ 9) (hF : FieldM m0 nf pf q A T) (hnf : nf ≤ db) (hdb : db < n1)
    (y1 y3 y4 y5 y7 y8 : Value) {Q : AX → List Value → FM → Nat → Nat → Prop}
    (hQ : ∀ M' N' w, PrS m0 n1 db D M' N' (rowsM A T q q) → (∀ j, j ≤ nf → Nat.mod w (bit j) = 0) → Q (.exit 0) [y1, .pointer (some ⟨db, 0, none⟩), y3, y4, y5, pf, y7, y8, .int .i64 (q : Int)] M' N' w) :
    ∀ d m, m + d = q → ∀ (M' : FM) (N' w0 : Nat), PrS m0 n1 db D M' N' (rowsM A T q m) → (∀ j, j ≤ nf → Nat.mod w0 (bit j) = 0) →
    Gv (execW PG E Y ac16L2 [.int .i64 (m : Int), y1, .pointer (some ⟨db, 0, none⟩), y3, y4, y5, pf, y7, y8, .int .i64 (q : Int)] M' N') fun X e m n w => Q X e m n (Nat.lor w0 w) := by
  intro d
  induction d with
  | zero =>
    intro m hm M' N' w0 hP hw
    obtain rfl : m = q := by omega
    refine wr_loopN (L := ac16L2) (b := ac16L2b) rfl ?_
    simp only [ac16L2b]
    simp (implicitDefEqProofs := false) (disch := omega) only [WPs, opds, List.all_cons, List.all_nil, List.cons_append, List.nil_append, cond_true, cond_false, eq_self, List.map_cons, List.map_nil, Nat.reduceAdd, Nat.testBit, Nat.reduceShiftRight, Nat.reduceAnd, Nat.reduceBNe, Nat.reduceMul]
    exact hQ _ _ _ hP hw
  | succ d ih =>
    intro m hm M' N' w0 hP hw
    have hl := rowsM_len A T q m
    have hmq : m * q ≤ 9 * 9 := Nat.mul_le_mul (by omega) hq9
    refine wr_loopN (L := ac16L2) (b := ac16L2b) rfl ?_
    simp only [ac16L2b]
    simp (implicitDefEqProofs := false) (disch := omega) only [WPs, opds, List.all_cons, List.all_nil, List.cons_append, List.nil_append, cond_true, cond_false, eq_self, List.map_cons, List.map_nil, Nat.reduceAdd, Nat.testBit, Nat.reduceShiftRight, Nat.reduceAnd, Nat.reduceBNe, Nat.reduceMul]
    refine wr_kont (aff_L1 h30 h31 h42 hg hF hnf hdb (m := m) (by omega) (gs := rowsM A T q m) (by omega) _ _ _ _ _ _ _ _ (fun M2 N2 w2 hP2 hw2 y0 rr => ?_) q 0 (by omega) M' N' 0 hP (fun _ _ => Nat.zero_mod _))
    simp (implicitDefEqProofs := false) (disch := omega) only [WPs, opds, List.all_cons, List.all_nil, List.cons_append, List.nil_append, cond_true, cond_false, eq_self, List.map_cons, List.map_nil, Nat.reduceAdd, Nat.testBit, Nat.reduceShiftRight, Nat.reduceAnd, Nat.reduceBNe, Nat.reduceMul]
    refine wr_end (ih (m + 1) (by omega) M2 N2 (Nat.lor w0 w2) hP2 (fun j hj => by rw [frz_iff]; exact ⟨hw j hj, hw2 j hj⟩)) fun X e m n w hq => ?_
    rw [← lor_assoc']; exact hq
theorem aff_spec (hE : E 16 = some ac16) (h30 : E 30 = some ac30) (h31 : E 31 = some ac31) (h42 : E 42 = some ac42) {q : Nat} {A T : Tab} (hq7 : q ≤ 7) (hg : GoodT q A T) (m : FM) (n : Nat) (hNew : ∀ m n, Rt (callW PG E Y 29 [.int .i64 (q : Int)] m n) (Kpt m n fun v M' N' => ∃ pv, v = .tuple #[pv, .int .i64 0] ∧ FieldM M' N' pv q A T)) :
    Rt (callW PG E Y 16 [.int .i64 (q : Int)] m n) (Kpt m n fun v M' N' => ∃ dv, v = .tuple #[dv, .int .i64 0] ∧ DesV M' n N' dv ((q * q : Nat) : Int) (affR A T q)) := by
  refine kept_specQ hE rfl fun Q hQ => ?_
  simp only [ac16]
  have hqq : q * q ≤ 7 * 7 := Nat.mul_le_mul hq7 hq7
  simp (implicitDefEqProofs := false) (disch := omega) only [WPs, opds, List.all_cons, List.all_nil, List.cons_append, List.nil_append, cond_true, cond_false, eq_self, List.map_cons, List.map_nil, Nat.reduceAdd, Nat.testBit, Nat.reduceShiftRight, Nat.reduceAnd, Nat.reduceBNe, Nat.reduceMul]
  refine use_rt (hNew _ _) fun v M1 N1 r1 w1 ⟨n1, m1, f1, pv, hv, hF⟩ => ?_
  subst hv
  simp (implicitDefEqProofs := false) (disch := omega) only [WPs, opds, List.all_cons, List.all_nil, List.cons_append, List.nil_append, cond_true, cond_false, eq_self, List.map_cons, List.map_nil, Nat.reduceAdd, Nat.testBit, Nat.reduceShiftRight, Nat.reduceAnd, Nat.reduceBNe, Nat.reduceMul]
  generalize hM2 : (AMem.put M1 N1 (some (.cells [.int .i64 ((q * q : Nat) : Int), .slice none 0 0] 0 false true)) : FM) = M2
  have l2 : ∀ b, b < N1 → M2 b = M1 b := fun b hb => by rw [← hM2, fput_ne _ _ _ _ (by omega)]
  have d2 : M2 N1 = some (.cells [.int .i64 ((q * q : Nat) : Int), .slice none 0 0] 0 false true) := by rw [← hM2]; exact fput_same _ _ _
  have hm1 : M1 n = some (.cells [.int .i64 0, .slice none 0 0] 0 false true) := (m1 n (by omega)).trans (fput_same _ _ _)
  have fzn := f1 n (by omega)
  have fza : Nat.mod (bit N1) (bit n) = 0 := frz_bit (by omega)
  have fzb : Nat.mod (bit n) (bit n) = 0 := frz_bit (Nat.le_refl _)
  refine wr_kont (aff_L2 h30 h31 h42 (m0 := M2) (nf := N1) (n1 := N1 + 1) (db := N1) (D := ((q * q : Nat) : Int)) hg (by omega) (hF.frame (Nat.le_refl _) l2) (Nat.le_refl _) (Nat.lt_succ_self _) _ _ _ _ _ _ (fun M3 N3 w3 hP f3 rr => ?_) q 0 (by omega) M2 (N1 + 1) 0 ⟨Nat.le_refl _, fun _ _ _ => rfl, ⟨_, d2, RowsZ.nil _ _ _⟩⟩ (fun _ _ => Nat.zero_mod _))
  have hml := rowsM_len A T q q
  simp (implicitDefEqProofs := false) (disch := omega) only [WPs, opds, List.all_cons, List.all_nil, List.cons_append, List.nil_append, cond_true, cond_false, eq_self, List.map_cons, List.map_nil, Nat.reduceAdd, Nat.testBit, Nat.reduceShiftRight, Nat.reduceAnd, Nat.reduceBNe, Nat.reduceMul]
  refine wr_kont (aff_L4 (m0 := M2) (nf := N1) (n1 := N1 + 1) (db := N1) (D := ((q * q : Nat) : Int)) hg.small (Nat.le_refl _) (Nat.lt_succ_self _) (gs := rowsM A T q q) (by omega) _ _ _ _ _ _ _ _ (fun M4 N4 w4 hP f4 rr => ?_) q 0 (by omega) M3 N3 0 hP (fun _ _ => Nat.zero_mod _))
  obtain ⟨le3, low3, rv, e3, g3⟩ := hP
  have hm3 : M4 n = some (.cells [.int .i64 0, .slice none 0 0] 0 false true) := by rw [low3 n (by omega) (by omega), l2 n (by omega)]; exact hm1
  have hrb : Am.one rv = true := g3.one
  have fz3 := f3 n (by omega)
  have fz4 := f4 n (by omega)
  simp (implicitDefEqProofs := false) (disch := omega) only [WPs, opds, List.all_cons, List.all_nil, List.cons_append, List.nil_append, cond_true, cond_false, eq_self, List.map_cons, List.map_nil, Nat.reduceAdd, Nat.testBit, Nat.reduceShiftRight, Nat.reduceAnd, Nat.reduceBNe, Nat.reduceMul, e3, hm3, hrb]
  refine hQ _ _ _ _ _ (by omega) (fun b hb => by rw [fput_ne _ _ _ _ (by omega), low3 b (by omega) (by omega), l2 b (by omega), m1 b (by omega), fput_ne _ _ _ _ (by omega)]) ?_ rfl ⟨_, rfl, rv, rfl, RowsZ.low (RowsZ.frame g3 (Nat.le_refl _) fun b h1 _ => fput_ne _ _ _ _ (by omega)) (by omega)⟩
  simp only [frz_iff]
  exact ⟨⟨⟨⟨⟨fzb, fzn⟩, fza, fza⟩, fz3⟩, fz4⟩, fzb⟩
end Go.Am.C06
namespace Go.Am.C06
open Go Go.Am
variable {E : Nat → Option AFn} {Y : Nat → List Value → FM → Nat → OR FM}
theorem has_L0 {m : FM} {n : Nat} {lv : Value} {xs : List Int} (h : Ints m n lv xs) (hs : xs.length < 1000000) (x : Int) (y2 y3 : Value) {R : Bool} {Q : AX → List Value → FM → Nat → Nat → Prop}
    (hQ0 : R = false → ∀ e, Q (.exit 0) e m n 0) (hQ1 : R = true → ∀ e, Q (.ret (.bool true)) e m n 0) :
    ∀ d j, j + d = xs.length → ∀ y0, decide (x ∈ xs.drop j) = R → Gv (execW PG E Y ac21L0 [y0, .int .i64 (j : Int), y2, y3, lv, .int .i64 x] m n) Q := by
  intro d
  induction d with
  | zero =>
    intro j hj y0 hR
    obtain rfl : j = xs.length := by omega
    rw [List.drop_length] at hR
    refine wr_loopN (L := ac21L0) (b := ac21L0b) rfl ?_
    simp only [ac21L0b]
    simp (implicitDefEqProofs := false) (disch := omega) only [WPs, opds, List.all_cons, List.all_nil, List.cons_append, List.nil_append, cond_true, cond_false, eq_self, List.map_cons, List.map_nil, Nat.reduceAdd, Nat.testBit, Nat.reduceShiftRight, Nat.reduceAnd, Nat.reduceBNe, Nat.reduceMul, h.len]
    exact hQ0 hR.symm _
  | succ d ih =>
    intro j hj y0 hR
    have hjl : j < xs.length := by omega
    obtain ⟨b, o, c, p, w, i1, i2, i3, i4⟩ := h.cell hjl
    rw [List.drop_eq_getElem_cons hjl] at hR
    refine wr_loopN (L := ac21L0) (b := ac21L0b) rfl ?_
    simp only [ac21L0b]
    by_cases he : xs[j] = x
    · rw [decide_eq_true (by rw [he]; exact List.mem_cons_self ..)] at hR
      simp (implicitDefEqProofs := false) (disch := omega) only [WPs, opds, List.all_cons, List.all_nil, List.cons_append, List.nil_append, cond_true, cond_false, eq_self, List.map_cons, List.map_nil, Nat.reduceAdd, Nat.testBit, Nat.reduceShiftRight, Nat.reduceAnd, Nat.reduceBNe, Nat.reduceMul, h.len, i1, i3, i4, decide_eq_true he]
      exact hQ1 hR.symm _
    · have hR2 : decide (x ∈ xs.drop (j + 1)) = R := by
        rw [← hR]
        exact decide_eq_decide.2 ⟨fun h => List.mem_cons_of_mem _ h, fun h => (List.mem_cons.1 h).resolve_left fun e => he e.symm⟩
      simp (implicitDefEqProofs := false) (disch := omega) only [WPs, opds, List.all_cons, List.all_nil, List.cons_append, List.nil_append, cond_true, cond_false, eq_self, List.map_cons, List.map_nil, Nat.reduceAdd, Nat.testBit, Nat.reduceShiftRight, Nat.reduceAnd, Nat.reduceBNe, Nat.reduceMul, h.len, i1, i3, i4, decide_eq_false he]
      exact wr_end (ih (j + 1) (by omega) _ hR2) fun X e m n w hq => by simpa only [zero_lor'] using hq
theorem hasR_spec (hE : E 21 = some ac21) {m : FM} {n : Nat} {lv : Value} {xs : List Int} (h : Ints m n lv xs) (hs : xs.length < 1000000) (x : Int) : Pure (callW PG E Y 21 [lv, .int .i64 x] m n) m n (.bool (decide (x ∈ xs))) := by
  refine pure_spec hE rfl rfl ?_
  simp only [ac21]
  simp (implicitDefEqProofs := false) (disch := omega) only [WPs, opds, List.all_cons, List.all_nil, List.cons_append, List.nil_append, cond_true, cond_false, eq_self, List.map_cons, List.map_nil, Nat.reduceAdd, Nat.testBit, Nat.reduceShiftRight, Nat.reduceAnd, Nat.reduceBNe, Nat.reduceMul]
  refine wr_kont (has_L0 h hs x _ _ (R := decide (x ∈ xs)) (fun hR e rr => ?_) (fun hR e rr => ?_) xs.length 0 (by omega) _ rfl)
  · simp (implicitDefEqProofs := false) (disch := omega) only [WPs, opds, List.all_cons, List.all_nil, List.cons_append, List.nil_append, cond_true, cond_false, eq_self, List.map_cons, List.map_nil, Nat.reduceAdd, Nat.testBit, Nat.reduceShiftRight, Nat.reduceAnd, Nat.reduceBNe, Nat.reduceMul]
    rw [hR]
  · simp (implicitDefEqProofs := false) (disch := omega) only [WPs, opds, List.all_cons, List.all_nil, List.cons_append, List.nil_append, cond_true, cond_false, eq_self, List.map_cons, List.map_nil, Nat.reduceAdd, Nat.testBit, Nat.reduceShiftRight, Nat.reduceAnd, Nat.reduceBNe, Nat.reduceMul]
    rw [hR]
def comR (a b : List Int) : List Int := a.filter fun x => decide (x ∈ b)
theorem com_L0 (h21 : E 21 = some ac21) {m : FM} {n : Nat} {av bv : Value} {xs ys : List Int} (ha : Ints m n av xs) (hb : Ints m n bv ys) (hs : xs.length < 1000000) (hs2 : ys.length < 1000000) (y2 y3 y4 : Value) {Q : AX → List Value → FM → Nat → Nat → Prop}
    (hQ : ∀ gv M' N' w, n ≤ N' → (∀ b, b < n → M' b = m b) → IntZ M' n N' gv (comR xs ys) → (∀ j, j ≤ n → Nat.mod w (bit j) = 0) → Q (.exit 0) [gv, y2, y3, y4, av, bv] M' N' w) :
    ∀ d j, j + d = xs.length → ∀ (M' : FM) (N' w0 : Nat) (gv : Value), n ≤ N' → (∀ b, b < n → M' b = m b) → IntZ M' n N' gv (comR (xs.take j) ys) → (∀ j, j ≤ n → Nat.mod w0 (bit j) = 0) →
    Gv (execW PG E Y ac19L0 [gv, .int .i64 (j : Int), y2, y3, y4, av, bv] M' N') fun X e m n w => Q X e m n (Nat.lor w0 w) := by
  intro d
  induction d with
  | zero =>
    intro j hj M' N' w0 gv hN hM hZ hw
    obtain rfl : j = xs.length := by omega
    rw [List.take_length] at hZ
    refine wr_loopN (L := ac19L0) (b := ac19L0b) rfl ?_
    simp only [ac19L0b]
    simp (implicitDefEqProofs := false) (disch := omega) only [WPs, opds, List.all_cons, List.all_nil, List.cons_append, List.nil_append, cond_true, cond_false, eq_self, List.map_cons, List.map_nil, Nat.reduceAdd, Nat.testBit, Nat.reduceShiftRight, Nat.reduceAnd, Nat.reduceBNe, Nat.reduceMul, ha.len]
    exact hQ _ _ _ _ hN hM hZ hw
  | succ d ih =>
    intro j hj M' N' w0 gv hN hM hZ hw
    have hjl : j < xs.length := by omega
    have ih' := ih (j + 1) (by omega)
    have ha' := ha.frame hN hM
    have hb' := hb.frame hN hM
    obtain ⟨b, o, c, p, w, i1, i2, i3, i4⟩ := ha'.cell hjl
    have hll : (comR (xs.take j) ys).length ≤ j := Nat.le_trans (List.length_filter_le _ _) (by rw [List.length_take]; omega)
    rw [List.take_add_one, List.getElem?_eq_getElem hjl, Option.toList_some, comR, List.filter_append] at ih'
    refine wr_loopN (L := ac19L0) (b := ac19L0b) rfl ?_
    simp only [ac19L0b]
    generalize xs[j] = x at *
    simp (implicitDefEqProofs := false) (disch := omega) only [WPs, opds, List.all_cons, List.all_nil, List.cons_append, List.nil_append, cond_true, cond_false, eq_self, List.map_cons, List.map_nil, Nat.reduceAdd, Nat.testBit, Nat.reduceShiftRight, Nat.reduceAnd, Nat.reduceBNe, Nat.reduceMul, ha.len, i1, i3, i4]
    refine use_pure (hasR_spec h21 hb' hs2 x) fun _ => ?_
    by_cases hx : x ∈ ys
    · have hf : List.filter (fun x => decide (x ∈ ys)) [x] = [x] := by simp [hx]
      rw [hf] at ih'
      simp (implicitDefEqProofs := false) (disch := omega) only [WPs, opds, List.all_cons, List.all_nil, List.cons_append, List.nil_append, cond_true, cond_false, eq_self, List.map_cons, List.map_nil, Nat.reduceAdd, Nat.testBit, Nat.reduceShiftRight, Nat.reduceAnd, Nat.reduceBNe, Nat.reduceMul, decide_eq_true hx, i1, i3, i4]
      refine use_rt (app_intZ (IntZ.frame hZ (by omega) fun b _ hb => by rw [fput_ne _ _ _ _ (by omega)]) x (some ⟨N', 0, none⟩) 1 (bit N') (by omega) (by omega)) fun v5 M5 N5 r5 w5 ⟨e5, z5, l5, f5⟩ => ?_
      subst e5
      simp (implicitDefEqProofs := false) (disch := omega) only [WPs, opds, List.all_cons, List.all_nil, List.cons_append, List.nil_append, cond_true, cond_false, eq_self, List.map_cons, List.map_nil, Nat.reduceAdd, Nat.testBit, Nat.reduceShiftRight, Nat.reduceAnd, Nat.reduceBNe, Nat.reduceMul]
      refine wr_end (ih' _ (N' + 2) (Nat.lor w0 (Nat.lor (bit N') w5)) v5 (by omega) (fun b hb => by rw [l5 b hb, fput_ne _ _ _ _ (by omega)]; exact hM b hb) z5 (fun j hj => by simp only [frz_iff]; exact ⟨hw j hj, frz_bit (by omega), f5 j hj⟩)) fun X e m n w hq => ?_
      rw [← lor_assoc']; exact hq
    · have hf : List.filter (fun x => decide (x ∈ ys)) [x] = [] := by simp [hx]
      rw [hf, List.append_nil] at ih'
      simp (implicitDefEqProofs := false) (disch := omega) only [WPs, opds, List.all_cons, List.all_nil, List.cons_append, List.nil_append, cond_true, cond_false, eq_self, List.map_cons, List.map_nil, Nat.reduceAdd, Nat.testBit, Nat.reduceShiftRight, Nat.reduceAnd, Nat.reduceBNe, Nat.reduceMul, decide_eq_false hx]
      exact wr_end (ih' M' N' w0 gv hN hM hZ hw) fun X e m n w hq => by simpa only [zero_lor'] using hq
theorem com_spec (hE : E 19 = some ac19) (h21 : E 21 = some ac21) {m : FM} {n : Nat} {av bv : Value} {xs ys : List Int} (ha : Ints m n av xs) (hb : Ints m n bv ys) (hs : xs.length < 1000000) (hs2 : ys.length < 1000000) :
    Rt (callW PG E Y 19 [av, bv] m n) (Kpt m n fun v M' N' => IntZ M' n N' v (comR xs ys)) := by
  refine kept_specA hE rfl fun Q hQ => ?_
  simp only [ac19]
  simp (implicitDefEqProofs := false) (disch := omega) only [WPs, opds, List.all_cons, List.all_nil, List.cons_append, List.nil_append, cond_true, cond_false, eq_self, List.map_cons, List.map_nil, Nat.reduceAdd, Nat.testBit, Nat.reduceShiftRight, Nat.reduceAnd, Nat.reduceBNe, Nat.reduceMul]
  refine wr_kont (com_L0 h21 ha hb hs hs2 _ _ _ (fun gv M' N' w hN hM hZ hw rr => ?_) xs.length 0 (by omega) m n 0 _ (Nat.le_refl _) (fun _ _ => rfl) (IntZ.nil _ _ _) (fun _ _ => Nat.zero_mod _))
  simp (implicitDefEqProofs := false) (disch := omega) only [WPs, opds, List.all_cons, List.all_nil, List.cons_append, List.nil_append, cond_true, cond_false, eq_self, List.map_cons, List.map_nil, Nat.reduceAdd, Nat.testBit, Nat.reduceShiftRight, Nat.reduceAnd, Nat.reduceBNe, Nat.reduceMul]
  refine hQ _ _ _ _ _ hN hM (hw n (Nat.le_refl _)) (fun _ => hZ) (fun hf => ?_)
  rcases hZ with ⟨h1, h2, rfl⟩ | ⟨_, _, b, rfl, _⟩
  · exact .inl ⟨h1, h2, rfl⟩
  · cases hf
end Go.Am.C06
namespace Go.Am.C06
open Go Go.Am Go.Am.V Go.RowKit
set_option maxRecDepth 1000000
theorem alt_miss {a b : Nat → List Value → FM → Nat → OR FM} {f : Nat} {args : List Value} {m : FM} {n : Nat} (h : a f args m n = .no) : altA a b f args m n = b f args m n := by
  unfold altA; rw [h]
theorem alt_hit {a b : Nat → List Value → FM → Nat → OR FM} {f : Nat} {args : List Value} {m : FM} {n : Nat} {v : Value} {m' : FM} {n' r w : Nat} (h : a f args m n = .ok v m' n' r w) : altA a b f args m n = .ok v m' n' r w := by
  unfold altA; rw [h]
theorem memo_miss {M : Memo} {f : Nat} {args : List Value} (h : (Nat.beq f M.f && veqL args M.args) = false) (m : FM) (n : Nat) : memoA M f args m n = .no := by
  unfold memoA; rw [h]; rfl
theorem memLC_eq : memosA memLC Y5 = altA (memoA mA) (altA (memoA m2) (altA (memoA m3) (altA (memoA m4) (altA (memoA m5) (altA (memoA m7) (altA (memoA m8) (altA (memoA m9) Y5))))))) := rfl
inductive Size : Nat → Tab → Tab → Prop
  | s2 : Size 2 A2 T2
  | s3 : Size 3 A3 T3
  | s4 : Size 4 A4 T4
  | s5 : Size 5 A5 T5
  | s7 : Size 7 A7 T7
  | s8 : Size 8 A8 T8
  | s9 : Size 9 A9 T9
theorem Size.good {q : Nat} {A T : Tab} (h : Size q A T) : GoodT q A T := by
  cases h
  · exact goodT2
  · exact goodT3
  · exact goodT4
  · exact goodT5
  · exact goodT7
  · exact goodT8
  · exact goodT9
abbrev NewR (E : Nat → Option AFn) (Y : Nat → List Value → FM → Nat → OR FM) (q : Nat) (A T : Tab) : Prop := ∀ m n, Rt (callW PG E Y 29 [.int .i64 (q : Int)] m n) (Kpt m n fun v M' N' => ∃ pv, v = .tuple #[pv, .int .i64 0] ∧ FieldM M' N' pv q A T)
theorem newR_of {E : Nat → Option AFn} {Y : Nat → List Value → FM → Nat → OR FM} {q p : Nat} {A T : Tab} {pi : List Nat} (hE : E 29 = none) (hA : square A q) (hT : square T q) (h : ∀ m n v m' n' r w, memoA (fM q p A T pi) 29 [.int .i64 (q : Int)] m n = .ok v m' n' r w → Y 29 [.int .i64 (q : Int)] m n = .ok v m' n' r w) : NewR E Y q A T := fun m n => by
  obtain ⟨m', w, h1, h2, h3, h4⟩ := fM_spec (p := p) (pi := pi) hA hT m n
  rw [callW_Y hE, h _ _ _ _ _ _ _ h1]
  exact ⟨by omega, h2, h3, _, rfl, h4⟩
noncomputable abbrev YC : Nat → List Value → FM → Nat → OR FM := altA errA (memosA memLC Y5)
theorem errA_no {q : Nat} (h : notIn (q : Int) = false) (m : FM) (n : Nat) : errA 29 [.int .i64 (q : Int)] m n = .no := by
  show cond (Nat.beq 29 29 && notIn (q : Int)) _ _ = _
  rw [h]; rfl
theorem new2 : NewR (look tabC) YC 2 A2 T2 := newR_of (by kernel_rfl) sq2.1 sq2.2 fun m n v m' n' r w h => by
  refine (alt_miss (errA_no (by kernel_rfl) m n)).trans ?_
  rw [memLC_eq]
  refine (alt_miss (memo_miss (M := mA) (by kernel_rfl) m n)).trans ?_
  exact alt_hit h
theorem new3 : NewR (look tabC) YC 3 A3 T3 := newR_of (by kernel_rfl) sq3.1 sq3.2 fun m n v m' n' r w h => by
  refine (alt_miss (errA_no (by kernel_rfl) m n)).trans ?_
  rw [memLC_eq]
  refine (alt_miss (memo_miss (M := mA) (by kernel_rfl) m n)).trans ?_
  refine (alt_miss (memo_miss (M := m2) (by kernel_rfl) m n)).trans ?_
  exact alt_hit h
theorem new4 : NewR (look tabC) YC 4 A4 T4 := newR_of (by kernel_rfl) sq4.1 sq4.2 fun m n v m' n' r w h => by
  refine (alt_miss (errA_no (by kernel_rfl) m n)).trans ?_
  rw [memLC_eq]
  refine (alt_miss (memo_miss (M := mA) (by kernel_rfl) m n)).trans ?_
  refine (alt_miss (memo_miss (M := m2) (by kernel_rfl) m n)).trans ?_
  refine (alt_miss (memo_miss (M := m3) (by kernel_rfl) m n)).trans ?_
  exact alt_hit h
theorem new5 : NewR (look tabC) YC 5 A5 T5 := newR_of (by kernel_rfl) sq5.1 sq5.2 fun m n v m' n' r w h => by
  refine (alt_miss (errA_no (by kernel_rfl) m n)).trans ?_
  rw [memLC_eq]
  refine (alt_miss (memo_miss (M := mA) (by kernel_rfl) m n)).trans ?_
  refine (alt_miss (memo_miss (M := m2) (by kernel_rfl) m n)).trans ?_
  refine (alt_miss (memo_miss (M := m3) (by kernel_rfl) m n)).trans ?_
  refine (alt_miss (memo_miss (M := m4) (by kernel_rfl) m n)).trans ?_
  exact alt_hit h
theorem new7 : NewR (look tabC) YC 7 A7 T7 := newR_of (by kernel_rfl) sq7.1 sq7.2 fun m n v m' n' r w h => by
  refine (alt_miss (errA_no (by kernel_rfl) m n)).trans ?_
  rw [memLC_eq]
  refine (alt_miss (memo_miss (M := mA) (by kernel_rfl) m n)).trans ?_
  refine (alt_miss (memo_miss (M := m2) (by kernel_rfl) m n)).trans ?_
  refine (alt_miss (memo_miss (M := m3) (by kernel_rfl) m n)).trans ?_
  refine (alt_miss (memo_miss (M := m4) (by kernel_rfl) m n)).trans ?_
  refine (alt_miss (memo_miss (M := m5) (by kernel_rfl) m n)).trans ?_
  exact alt_hit h
theorem new8 : NewR (look tabC) YC 8 A8 T8 := newR_of (by kernel_rfl) sq8.1 sq8.2 fun m n v m' n' r w h => by
  refine (alt_miss (errA_no (by kernel_rfl) m n)).trans ?_
  rw [memLC_eq]
  refine (alt_miss (memo_miss (M := mA) (by kernel_rfl) m n)).trans ?_
  refine (alt_miss (memo_miss (M := m2) (by kernel_rfl) m n)).trans ?_
  refine (alt_miss (memo_miss (M := m3) (by kernel_rfl) m n)).trans ?_
  refine (alt_miss (memo_miss (M := m4) (by kernel_rfl) m n)).trans ?_
  refine (alt_miss (memo_miss (M := m5) (by kernel_rfl) m n)).trans ?_
  refine (alt_miss (memo_miss (M := m7) (by kernel_rfl) m n)).trans ?_
  exact alt_hit h
theorem new9 : NewR (look tabC) YC 9 A9 T9 := newR_of (by kernel_rfl) sq9.1 sq9.2 fun m n v m' n' r w h => by
  refine (alt_miss (errA_no (by kernel_rfl) m n)).trans ?_
  rw [memLC_eq]
  refine (alt_miss (memo_miss (M := mA) (by kernel_rfl) m n)).trans ?_
  refine (alt_miss (memo_miss (M := m2) (by kernel_rfl) m n)).trans ?_
  refine (alt_miss (memo_miss (M := m3) (by kernel_rfl) m n)).trans ?_
  refine (alt_miss (memo_miss (M := m4) (by kernel_rfl) m n)).trans ?_
  refine (alt_miss (memo_miss (M := m5) (by kernel_rfl) m n)).trans ?_
  refine (alt_miss (memo_miss (M := m7) (by kernel_rfl) m n)).trans ?_
  refine (alt_miss (memo_miss (M := m8) (by kernel_rfl) m n)).trans ?_
  exact alt_hit h
theorem new_size {q : Nat} {A T : Tab} (h : Size q A T) : NewR (look tabC) YC q A T := by
  cases h
  · exact new2
  · exact new3
  · exact new4
  · exact new5
  · exact new7
  · exact new8
  · exact new9
theorem new_err (q : Int) (h : notIn q = true) (m : FM) (n : Nat) : Pure (callW PG (look tabC) YC 29 [.int .i64 q] m n) m n (.tuple #[.pointer none, .int .i64 1]) := by
  rw [callW_Y (by kernel_rfl)]
  refine ⟨0, alt_hit ?_⟩
  show cond (Nat.beq 29 29 && notIn q) (OR.ok errV m n 0 0) OR.no = _
  rw [h]; rfl
theorem awakeC (m : FM) (n : Nat) : Pure (callW PG (look tabC) YC 11 [] m n) m n (.bool true) := by
  rw [callW_Y (by kernel_rfl)]
  have hw : newW n 0 = 0 := Nat.zero_shiftLeft n
  have hm : memoA mA 11 [] m n = .ok (.bool true) m n 0 0 := by
    show OR.ok (.bool true) m n 0 (newW n 0) = _
    rw [hw]
  refine ⟨0, (alt_miss rfl).trans ?_⟩
  rw [memLC_eq]
  exact alt_hit hm
variable {E : Nat → Option AFn} {Y : Nat → List Value → FM → Nat → OR FM}
structure En (E : Nat → Option AFn) (Y : Nat → List Value → FM → Nat → OR FM) : Prop where
  F : Fns E
  e3 : E 3 = some ac3
  e4 : E 4 = some ac4
  e5 : E 5 = some ac5
  e6 : E 6 = some ac6
  e7 : E 7 = some ac7
  e8 : E 8 = some ac8
  e9 : E 9 = some ac9
  e10 : E 10 = some ac10
  e12 : E 12 = some ac12
  e13 : E 13 = some ac13
  e14 : E 14 = some ac14
  e15 : E 15 = some ac15
  e16 : E 16 = some ac16
  e17 : E 17 = some ac17
  e18 : E 18 = some ac18
  e19 : E 19 = some ac19
  e20 : E 20 = some ac20
  e21 : E 21 = some ac21
  e22 : E 22 = some ac22
  e25 : E 25 = some ac25
  e26 : E 26 = some ac26
  e27 : E 27 = some ac27
  e28 : E 28 = some ac28
  e32 : E 32 = some ac32
  e34 : E 34 = some ac34
  e35 : E 35 = some ac35
  e36 : E 36 = some ac36
  e37 : E 37 = some ac37
  e38 : E 38 = some ac38
  e39 : E 39 = some ac39
  e40 : E 40 = some ac40
  e41 : E 41 = some ac41
  e47 : E 47 = some ac47
  aw : ∀ m n, Pure (callW PG E Y 11 [] m n) m n (.bool true)
  new : ∀ {q A T}, Size q A T → NewR E Y q A T
  err : ∀ q, notIn q = true → ∀ m n, Pure (callW PG E Y 29 [.int .i64 q] m n) m n (.tuple #[.pointer none, .int .i64 1])
theorem enC : En (look tabC) YC where
  F := ⟨by kernel_rfl, by kernel_rfl, by kernel_rfl, by kernel_rfl, by kernel_rfl, by kernel_rfl, by kernel_rfl, by kernel_rfl, by kernel_rfl, by kernel_rfl, by kernel_rfl, by kernel_rfl, by kernel_rfl⟩
  e3 := by kernel_rfl
  e4 := by kernel_rfl
  e5 := by kernel_rfl
  e6 := by kernel_rfl
  e7 := by kernel_rfl
  e8 := by kernel_rfl
  e9 := by kernel_rfl
  e10 := by kernel_rfl
  e12 := by kernel_rfl
  e13 := by kernel_rfl
  e14 := by kernel_rfl
  e15 := by kernel_rfl
  e16 := by kernel_rfl
  e17 := by kernel_rfl
  e18 := by kernel_rfl
  e19 := by kernel_rfl
  e20 := by kernel_rfl
  e21 := by kernel_rfl
  e22 := by kernel_rfl
  e25 := by kernel_rfl
  e26 := by kernel_rfl
  e27 := by kernel_rfl
  e28 := by kernel_rfl
  e32 := by kernel_rfl
  e34 := by kernel_rfl
  e35 := by kernel_rfl
  e36 := by kernel_rfl
  e37 := by kernel_rfl
  e38 := by kernel_rfl
  e39 := by kernel_rfl
  e40 := by kernel_rfl
  e41 := by kernel_rfl
  e47 := by kernel_rfl
  aw := awakeC
  new := new_size
  err := new_err
end Go.Am.C06
namespace Go.Am.C06
open Go Go.Am
variable {E : Nat → Option AFn} {Y : Nat → List Value → FM → Nat → OR FM}
def sizeN (z : Nat) : Nat := [2, 3, 4, 5, 7].getD (z % 5) 0
theorem conv_u8 {q : Nat} (h : q < 256) : convV .i64 (.int .u8 (q : Int)) = some (.int .i64 (q : Int)) := by
  show some (Value.int .i64 (wrapF .i64 (q : Int))) = _
  rw [show wrapF .i64 (q : Int) = (q : Int) from by rw [wrapF_eq]; exact wrap_i64 (by omega) (by omega)]
theorem binV_rem_nat {t a b : Nat} (hb : b ≠ 0) : binV PG .rem t (.int .i64 (a : Int)) (.int .i64 (b : Int)) = some (.int .i64 ((a % b : Nat) : Int)) := by
  show intBin .rem .i64 (a : Int) (b : Int) = _
  rw [rem_i64 (by omega), Int.tmod_eq_emod_of_nonneg (by omega)]
  rfl
theorem size_spec (T : En E Y) (m : FM) (n : Nat) {z : Nat} (hz : z < 256) : Pure (callW PG E Y 18 [.int .u8 (z : Int)] m n) m n (.int .i64 (sizeN z : Int)) := by
  refine pure_spec T.e18 rfl rfl ?_
  simp only [ac18]
  have h5 : z % 5 < 5 := Nat.mod_lt _ (by omega)
  have fzb : Nat.mod (bit n) (bit n) = 0 := frz_bit (Nat.le_refl _)
  have hr : binV PG .rem 3 (.int .i64 (z : Int)) (.int .i64 5) = some (.int .i64 ((z % 5 : Nat) : Int)) := binV_rem_nat (b := 5) (by omega)
  have hc : cget [Value.int .i64 2, Value.int .i64 3, Value.int .i64 4, Value.int .i64 5, Value.int .i64 7] (z % 5) = some (.int .i64 (sizeN z : Int)) := by
    unfold sizeN
    generalize z % 5 = k at *
    match k, h5 with
    | 0, _ => rfl
    | 1, _ => rfl
    | 2, _ => rfl
    | 3, _ => rfl
    | 4, _ => rfl
  simp (implicitDefEqProofs := false) (disch := omega) only [WPs, opds, List.all_cons, List.all_nil, List.cons_append, List.nil_append, cond_true, cond_false, eq_self, List.map_cons, List.map_nil, Nat.reduceAdd, Nat.testBit, Nat.reduceShiftRight, Nat.reduceAnd, Nat.reduceBNe, Nat.reduceMul, conv_u8 hz, hr, hc, fzb]
def primeP (q : Int) : Int := if q = 2 then 2 else if q = 3 then 3 else if q = 5 then 5 else if q = 7 then 7 else if q = 4 then 2 else if q = 8 then 2 else if q = 9 then 3 else 0
def primeN (q : Int) : Int := if q = 2 then 1 else if q = 3 then 1 else if q = 5 then 1 else if q = 7 then 1 else if q = 4 then 2 else if q = 8 then 3 else if q = 9 then 2 else 0
def wrongR (q : Int) : Int := if primeP q = 0 then 1 else if q > 7 then 7 else 0
theorem meet_of (T : En E Y) {q a b x y : Int} (m : FM) (n : Nat) (h : Pure (callW PG E Y 32 [.int .i64 q, .int .i64 a, .int .i64 b] m n) m n (.tuple #[.int .i64 x, .int .i64 y])) :
    Pure (callW PG E Y 20 [.int .i64 q, .int .i64 a, .int .i64 b] m n) m n (.tuple #[.int .i64 x, .int .i64 y]) := by
  refine pure_spec T.e20 rfl rfl ?_
  simp only [ac20]
  simp (implicitDefEqProofs := false) (disch := omega) only [WPs, opds, List.all_cons, List.all_nil, List.cons_append, List.nil_append, cond_true, cond_false, eq_self, List.map_cons, List.map_nil, Nat.reduceAdd, Nat.testBit, Nat.reduceShiftRight, Nat.reduceAnd, Nat.reduceBNe, Nat.reduceMul]
  refine use_pure h fun _ => ?_
  simp (implicitDefEqProofs := false) (disch := omega) only [WPs, opds, List.all_cons, List.all_nil, List.cons_append, List.nil_append, cond_true, cond_false, eq_self, List.map_cons, List.map_nil, Nat.reduceAdd, Nat.testBit, Nat.reduceShiftRight, Nat.reduceAnd, Nat.reduceBNe, Nat.reduceMul]
structure Sm (q : Nat) (A T : Tab) : Prop where
  size : Size q A T
  le : q ≤ 7
  ge : 2 ≤ q
abbrev ptsR (q : Nat) (T : Tab) : List P3 := foldX T q 2
theorem open_good (T : En E Y) {q : Nat} {A M : Tab} (h : Sm q A M) (m : FM) (n : Nat) : Rt (callW PG E Y 23 [.int .i64 (q : Int)] m n) (Kpt m n fun v M' N' => ∃ sv, v = .tuple #[sv, .int .i64 0] ∧ SpaceM M' N' sv q A M (ptsR q M)) :=
  open_spec T.F.e23 T.F.e33 T.F.e44 T.F.e45 T.F.e46 T.F.e42 T.F.e51 T.F.e31 h.ge h.le h.size.good m n (T.new h.size m n)
theorem pts_le {q : Nat} (h : q ≤ 7) (M : Tab) : (ptsR q M).length ≤ 98 := by
  have h1 := foldX_len M q 2
  have h2 : q * q ≤ 7 * 7 := Nat.mul_le_mul h h
  show (foldX M q 2).length ≤ 98
  omega
theorem proj_good (T : En E Y) {q : Nat} {A M : Tab} (h : Sm q A M) (m : FM) (n : Nat) :
    Rt (callW PG E Y 12 [.int .i64 (q : Int)] m n) (Kpt m n fun v M' N' => ∃ dv, v = .tuple #[dv, .int .i64 0] ∧ DesV M' n N' dv ((ptsR q M).length : Int) (projR A M (ptsR q M))) :=
  proj_spec T.F T.e12 h.size.good m n (by have := pts_le h.le M; omega) (open_good T h)
theorem aff_good (T : En E Y) {q : Nat} {A M : Tab} (h : Sm q A M) (m : FM) (n : Nat) :
    Rt (callW PG E Y 16 [.int .i64 (q : Int)] m n) (Kpt m n fun v M' N' => ∃ dv, v = .tuple #[dv, .int .i64 0] ∧ DesV M' n N' dv ((q * q : Nat) : Int) (affR A M q)) :=
  aff_spec T.e16 T.F.e30 T.F.e31 T.F.e42 h.le h.size.good m n (T.new h.size)
end Go.Am.C06
namespace Go.Am.C06
open Go Go.Am
set_option maxRecDepth 1000000
noncomputable def okP (q N : Nat) (A T : Tab) (ps : List P3) (L : List (List Int)) : Bool :=
  (List.range N).all fun a => decide ((L.getD a []).length = q + 1) && ((L.getD a []).all fun x => decide (0 ≤ x) && decide (x < (N : Int))) && (List.range N).all fun b =>
    (decide (((b : Nat) : Int) ∈ L.getD a []) == decide (((a : Nat) : Int) ∈ L.getD b [])) && (Nat.beq a b || decide (comR (L.getD a []) (L.getD b []) = [(comE A T ps ((a : Nat) : Int) ((b : Nat) : Int)).1]))
noncomputable def okF (N : Nat) (L : List (List Int)) : Bool :=
  (List.range N).all fun a => decide (((List.range N).map fun g => ((g : Nat) : Int)).filter (fun g => decide (g ∈ L.getD a [])) = L.getD a [])
def Pt2 : List P3 := [⟨0, 0, 1⟩, ⟨0, 1, 0⟩, ⟨0, 1, 1⟩, ⟨1, 0, 0⟩, ⟨1, 0, 1⟩, ⟨1, 1, 0⟩, ⟨1, 1, 1⟩]
def L2 : List (List Int) := [[1, 3, 5], [0, 3, 4], [2, 3, 6], [0, 1, 2], [1, 4, 6], [0, 5, 6], [2, 4, 5]]
theorem pts2 : ptsR 2 T2 = Pt2 := by decide +kernel
theorem proj2 : projR A2 T2 Pt2 = L2 := by decide +kernel
theorem ok2 : okP 2 7 A2 T2 Pt2 L2 = true := by kernel_rfl
theorem okf2 : okF 7 L2 = true := by kernel_rfl
def Pt3 : List P3 := [⟨0, 0, 1⟩, ⟨0, 1, 0⟩, ⟨0, 1, 1⟩, ⟨0, 1, 2⟩, ⟨1, 0, 0⟩, ⟨1, 0, 1⟩, ⟨1, 0, 2⟩, ⟨1, 1, 0⟩, ⟨1, 1, 1⟩, ⟨1, 1, 2⟩, ⟨1, 2, 0⟩, ⟨1, 2, 1⟩, ⟨1, 2, 2⟩]
def L3 : List (List Int) := [[1, 4, 7, 10], [0, 4, 5, 6], [3, 4, 9, 11], [2, 4, 8, 12], [0, 1, 2, 3], [1, 6, 9, 12], [1, 5, 8, 11], [0, 10, 11, 12], [3, 6, 8, 10], [2, 5, 9, 10], [0, 7, 8, 9], [2, 6, 7, 11], [3, 5, 7, 12]]
theorem pts3 : ptsR 3 T3 = Pt3 := by decide +kernel
theorem proj3 : projR A3 T3 Pt3 = L3 := by decide +kernel
theorem ok3 : okP 3 13 A3 T3 Pt3 L3 = true := by kernel_rfl
theorem okf3 : okF 13 L3 = true := by kernel_rfl
def Pt4 : List P3 := [⟨0, 0, 1⟩, ⟨0, 1, 0⟩, ⟨0, 1, 1⟩, ⟨0, 1, 2⟩, ⟨0, 1, 3⟩, ⟨1, 0, 0⟩, ⟨1, 0, 1⟩, ⟨1, 0, 2⟩, ⟨1, 0, 3⟩, ⟨1, 1, 0⟩, ⟨1, 1, 1⟩, ⟨1, 1, 2⟩, ⟨1, 1, 3⟩, ⟨1, 2, 0⟩, ⟨1, 2, 1⟩, ⟨1, 2, 2⟩, ⟨1, 2, 3⟩, ⟨1, 3, 0⟩, ⟨1, 3, 1⟩, ⟨1, 3, 2⟩, ⟨1, 3, 3⟩]
def L4 : List (List Int) := [[1, 5, 9, 13, 17], [0, 5, 6, 7, 8], [2, 5, 10, 15, 20], [4, 5, 12, 14, 19], [3, 5, 11, 16, 18], [0, 1, 2, 3, 4], [1, 6, 10, 14, 18], [1, 8, 12, 16, 20], [1, 7, 11, 15, 19], [0, 9, 10, 11, 12], [2, 6, 9, 16, 19], [4, 8, 9, 15, 18], [3, 7, 9, 14, 20], [0, 17, 18, 19, 20], [3, 6, 12, 15, 17], [2, 8, 11, 14, 17], [4, 7, 10, 16, 17], [0, 13, 14, 15, 16], [4, 6, 11, 13, 20], [3, 8, 10, 13, 19], [2, 7, 12, 13, 18]]
theorem pts4 : ptsR 4 T4 = Pt4 := by decide +kernel
theorem proj4 : projR A4 T4 Pt4 = L4 := by decide +kernel
theorem ok4 : okP 4 21 A4 T4 Pt4 L4 = true := by kernel_rfl
theorem okf4 : okF 21 L4 = true := by kernel_rfl
def Pt5 : List P3 := [⟨0, 0, 1⟩, ⟨0, 1, 0⟩, ⟨0, 1, 1⟩, ⟨0, 1, 2⟩, ⟨0, 1, 3⟩, ⟨0, 1, 4⟩, ⟨1, 0, 0⟩, ⟨1, 0, 1⟩, ⟨1, 0, 2⟩, ⟨1, 0, 3⟩, ⟨1, 0, 4⟩, ⟨1, 1, 0⟩, ⟨1, 1, 1⟩, ⟨1, 1, 2⟩, ⟨1, 1, 3⟩, ⟨1, 1, 4⟩, ⟨1, 2, 0⟩, ⟨1, 2, 1⟩, ⟨1, 2, 2⟩, ⟨1, 2, 3⟩, ⟨1, 2, 4⟩, ⟨1, 3, 0⟩, ⟨1, 3, 1⟩, ⟨1, 3, 2⟩, ⟨1, 3, 3⟩, ⟨1, 3, 4⟩, ⟨1, 4, 0⟩, ⟨1, 4, 1⟩, ⟨1, 4, 2⟩, ⟨1, 4, 3⟩, ⟨1, 4, 4⟩]
def L5 : List (List Int) := [[1, 6, 11, 16, 21, 26], [0, 6, 7, 8, 9, 10], [5, 6, 15, 19, 23, 27], [3, 6, 13, 20, 22, 29], [4, 6, 14, 17, 25, 28], [2, 6, 12, 18, 24, 30], [0, 1, 2, 3, 4, 5], [1, 10, 15, 20, 25, 30], [1, 8, 13, 18, 23, 28], [1, 9, 14, 19, 24, 29], [1, 7, 12, 17, 22, 27], [0, 26, 27, 28, 29, 30], [5, 10, 14, 18, 22, 26], [3, 8, 15, 17, 24, 26], [4, 9, 12, 20, 23, 26], [2, 7, 13, 19, 25, 26], [0, 16, 17, 18, 19, 20], [4, 10, 13, 16, 24, 27], [5, 8, 12, 16, 25, 29], [2, 9, 15, 16, 22, 28], [3, 7, 14, 16, 23, 30], [0, 21, 22, 23, 24, 25], [3, 10, 12, 19, 21, 28], [2, 8, 14, 20, 21, 27], [5, 9, 13, 17, 21, 30], [4, 7, 15, 18, 21, 29], [0, 11, 12, 13, 14, 15], [2, 10, 11, 17, 23, 29], [4, 8, 11, 19, 22, 30], [3, 9, 11, 18, 25, 27], [5, 7, 11, 20, 24, 28]]
theorem pts5 : ptsR 5 T5 = Pt5 := by decide +kernel
theorem proj5 : projR A5 T5 Pt5 = L5 := by decide +kernel
theorem ok5 : okP 5 31 A5 T5 Pt5 L5 = true := by kernel_rfl
theorem okf5 : okF 31 L5 = true := by kernel_rfl
def Pt7 : List P3 := [⟨0, 0, 1⟩, ⟨0, 1, 0⟩, ⟨0, 1, 1⟩, ⟨0, 1, 2⟩, ⟨0, 1, 3⟩, ⟨0, 1, 4⟩, ⟨0, 1, 5⟩, ⟨0, 1, 6⟩, ⟨1, 0, 0⟩, ⟨1, 0, 1⟩, ⟨1, 0, 2⟩, ⟨1, 0, 3⟩, ⟨1, 0, 4⟩, ⟨1, 0, 5⟩, ⟨1, 0, 6⟩, ⟨1, 1, 0⟩, ⟨1, 1, 1⟩, ⟨1, 1, 2⟩, ⟨1, 1, 3⟩, ⟨1, 1, 4⟩, ⟨1, 1, 5⟩, ⟨1, 1, 6⟩, ⟨1, 2, 0⟩, ⟨1, 2, 1⟩, ⟨1, 2, 2⟩, ⟨1, 2, 3⟩, ⟨1, 2, 4⟩, ⟨1, 2, 5⟩, ⟨1, 2, 6⟩, ⟨1, 3, 0⟩, ⟨1, 3, 1⟩, ⟨1, 3, 2⟩, ⟨1, 3, 3⟩, ⟨1, 3, 4⟩, ⟨1, 3, 5⟩, ⟨1, 3, 6⟩, ⟨1, 4, 0⟩, ⟨1, 4, 1⟩, ⟨1, 4, 2⟩, ⟨1, 4, 3⟩, ⟨1, 4, 4⟩, ⟨1, 4, 5⟩, ⟨1, 4, 6⟩, ⟨1, 5, 0⟩, ⟨1, 5, 1⟩, ⟨1, 5, 2⟩, ⟨1, 5, 3⟩, ⟨1, 5, 4⟩, ⟨1, 5, 5⟩, ⟨1, 5, 6⟩, ⟨1, 6, 0⟩, ⟨1, 6, 1⟩, ⟨1, 6, 2⟩, ⟨1, 6, 3⟩, ⟨1, 6, 4⟩, ⟨1, 6, 5⟩, ⟨1, 6, 6⟩]
def L7 : List (List Int) := [[1, 8, 15, 22, 29, 36, 43, 50], [0, 8, 9, 10, 11, 12, 13, 14], [7, 8, 21, 27, 33, 39, 45, 51], [4, 8, 18, 28, 31, 41, 44, 54], [3, 8, 17, 26, 35, 37, 46, 55], [6, 8, 20, 25, 30, 42, 47, 52], [5, 8, 19, 23, 34, 38, 49, 53], [2, 8, 16, 24, 32, 40, 48, 56], [0, 1, 2, 3, 4, 5, 6, 7], [1, 14, 21, 28, 35, 42, 49, 56], [1, 11, 18, 25, 32, 39, 46, 53], [1, 10, 17, 24, 31, 38, 45, 52], [1, 13, 20, 27, 34, 41, 48, 55], [1, 12, 19, 26, 33, 40, 47, 54], [1, 9, 16, 23, 30, 37, 44, 51], [0, 50, 51, 52, 53, 54, 55, 56], [7, 14, 20, 26, 32, 38, 44, 50], [4, 11, 21, 24, 34, 37, 47, 50], [3, 10, 19, 28, 30, 39, 48, 50], [6, 13, 18, 23, 35, 40, 45, 50], [5, 12, 16, 27, 31, 42, 46, 50], [2, 9, 17, 25, 33, 41, 49, 50], [0, 29, 30, 31, 32, 33, 34, 35], [6, 14, 19, 24, 29, 41, 46, 51], [7, 11, 17, 23, 29, 42, 48, 54], [5, 10, 21, 25, 29, 40, 44, 55], [4, 13, 16, 26, 29, 39, 49, 52], [2, 12, 20, 28, 29, 37, 45, 53], [3, 9, 18, 27, 29, 38, 47, 56], [0, 22, 23, 24, 25, 26, 27, 28], [5, 14, 18, 22, 33, 37, 48, 52], [3, 11, 20, 22, 31, 40, 49, 51], [7, 10, 16, 22, 35, 41, 47, 53], [2, 13, 21, 22, 30, 38, 46, 54], [6, 12, 17, 22, 34, 39, 44, 56], [4, 9, 19, 22, 32, 42, 45, 55], [0, 43, 44, 45, 46, 47, 48, 49], [4, 14, 17, 27, 30, 40, 43, 53], [6, 11, 16, 28, 33, 38, 43, 55], [2, 10, 18, 26, 34, 42, 43, 51], [7, 13, 19, 25, 31, 37, 43, 56], [3, 12, 21, 23, 32, 41, 43, 52], [5, 9, 20, 24, 35, 39, 43, 54], [0, 36, 37, 38, 39, 40, 41, 42], [3, 14, 16, 25, 34, 36, 45, 54], [2, 11, 19, 27, 35, 36, 44, 52], [4, 10, 20, 23, 33, 36, 46, 56], [5, 13, 17, 28, 32, 36, 47, 51], [7, 12, 18, 24, 30, 36, 49, 55], [6, 9, 21, 26, 31, 36, 48, 53], [0, 15, 16, 17, 18, 19, 20, 21], [2, 14, 15, 23, 31, 39, 47, 55], [5, 11, 15, 26, 30, 41, 45, 56], [6, 10, 15, 27, 32, 37, 49, 54], [3, 13, 15, 24, 33, 42, 44, 53], [4, 12, 15, 25, 35, 38, 48, 51], [7, 9, 15, 28, 34, 40, 46, 52]]
theorem pts7 : ptsR 7 T7 = Pt7 := by decide +kernel
theorem proj7 : projR A7 T7 Pt7 = L7 := by decide +kernel
theorem ok7 : okP 7 57 A7 T7 Pt7 L7 = true := by kernel_rfl
theorem okf7 : okF 57 L7 = true := by kernel_rfl
end Go.Am.C06
namespace Go.Am.C06
open Go Go.Am
variable {E : Nat → Option AFn} {Y : Nat → List Value → FM → Nat → OR FM}
structure Pl (q N : Nat) (A M : Tab) (L : List (List Int)) : Prop where
  sm : Sm q A M
  n : N = q * q + q + 1
  ln : (ptsR q M).length = N
  lN : L.length = N
  pr : projR A M (ptsR q M) = L
  row : ∀ a, a < N → ∃ r, L[a]? = some r ∧ r.length = q + 1 ∧ ∀ x ∈ r, 0 ≤ x ∧ x < (N : Int)
  sym : ∀ a b, a < N → b < N → (((b : Nat) : Int) ∈ L.getD a [] ↔ ((a : Nat) : Int) ∈ L.getD b [])
  meet : ∀ a b, a < N → b < N → a ≠ b → comR (L.getD a []) (L.getD b []) = [(comE A M (ptsR q M) (a : Int) (b : Int)).1]
theorem Pl.small {q N : Nat} {A M : Tab} {L : List (List Int)} (h : Pl q N A M L) : N ≤ 57 ∧ 0 < N := by
  have h1 : q * q ≤ 7 * 7 := Nat.mul_le_mul h.sm.le h.sm.le
  have := h.n; have := h.sm.le
  omega
theorem rt_imp {x : OR FM} {R R' : Value → FM → Nat → Nat → Prop} (h : Rt x fun v m n w => R v m n w) (hi : ∀ v m n w, R v m n w → R' v m n w) : Rt x fun v m n w => R' v m n w := by
  cases x with
  | no => exact h
  | ok v m n r w => exact hi v m n w h
theorem Pl.proj {q N : Nat} {A M : Tab} {L : List (List Int)} (h : Pl q N A M L) (T : En E Y) (m : FM) (n : Nat) :
    Rt (callW PG E Y 12 [.int .i64 (q : Int)] m n) (Kpt m n fun v M' N' => ∃ rv, v = .tuple #[.agg #[.int .i64 (N : Int), rv], .int .i64 0] ∧ RowsZ M' n N' rv L) := by
  have h1 := proj_good T h.sm m n
  rw [h.pr, h.ln] at h1
  refine rt_imp h1 fun v m' n' w ⟨a1, a2, a3, dv, e1, rv, e2, hr⟩ => ⟨a1, a2, a3, rv, ?_, hr⟩
  rw [e1, e2]
end Go.Am.C06
namespace Go.Am.C06
open Go Go.Am
set_option maxRecDepth 1000000
theorem pl_of {q N : Nat} {A M : Tab} {ps : List P3} {L : List (List Int)} (sm : Sm q A M) (hn : N = q * q + q + 1) (h1 : ptsR q M = ps) (h2 : projR A M ps = L) (hl : ps.length = N) (h : okP q N A M ps L = true) : Pl q N A M L := by
  have hL : L.length = N := by rw [← h2, ← hl]; exact List.length_map _
  unfold okP at h
  simp only [List.all_eq_true, List.mem_range, Bool.and_eq_true, Bool.or_eq_true, decide_eq_true_eq, beq_iff_eq] at h
  refine ⟨sm, hn, by rw [h1, hl], hL, by rw [h1, h2], fun a ha => ?_, fun a b ha hb => ?_, fun a b ha hb hab => ?_⟩
  · have hg : L[a]? = some (L.getD a []) := by rw [List.getD_eq_getElem?_getD, List.getElem?_eq_getElem (by omega)]; rfl
    exact ⟨_, hg, (h a ha).1.1, (h a ha).1.2⟩
  · have h3 := ((h a ha).2 b hb).1
    exact decide_eq_decide.1 h3
  · rcases ((h a ha).2 b hb).2 with h3 | h3
    · exact absurd (Nat.eq_of_beq_eq_true h3) hab
    · rw [h1]; exact h3
theorem pl2 : Pl 2 7 A2 T2 L2 := pl_of ⟨.s2, by omega, by omega⟩ rfl pts2 proj2 rfl ok2
theorem pl3 : Pl 3 13 A3 T3 L3 := pl_of ⟨.s3, by omega, by omega⟩ rfl pts3 proj3 rfl ok3
theorem pl4 : Pl 4 21 A4 T4 L4 := pl_of ⟨.s4, by omega, by omega⟩ rfl pts4 proj4 rfl ok4
theorem pl5 : Pl 5 31 A5 T5 L5 := pl_of ⟨.s5, by omega, by omega⟩ rfl pts5 proj5 rfl ok5
theorem pl7 : Pl 7 57 A7 T7 L7 := pl_of ⟨.s7, by omega, by omega⟩ rfl pts7 proj7 rfl ok7
theorem size_pl (z : Nat) : ∃ q N A M L, sizeN z = q ∧ Pl q N A M L := by
  have h5 : z % 5 < 5 := Nat.mod_lt _ (by omega)
  unfold sizeN
  generalize z % 5 = k at *
  match k, h5 with
  | 0, _ => exact ⟨_, _, _, _, _, rfl, pl2⟩
  | 1, _ => exact ⟨_, _, _, _, _, rfl, pl3⟩
  | 2, _ => exact ⟨_, _, _, _, _, rfl, pl4⟩
  | 3, _ => exact ⟨_, _, _, _, _, rfl, pl5⟩
  | 4, _ => exact ⟨_, _, _, _, _, rfl, pl7⟩
theorem filt_of {q N : Nat} {A M : Tab} {L : List (List Int)} (h : okF N L = true) {a : Nat} (ha : a < N) : ((List.range N).map fun g => ((g : Nat) : Int)).filter (fun g => decide (g ∈ L.getD a [])) = L.getD a [] := by
  unfold okF at h
  simp only [List.all_eq_true, List.mem_range, decide_eq_true_eq] at h
  exact h a ha
end Go.Am.C06
namespace Go.Am.C06
open Go Go.Am
variable {E : Nat → Option AFn} {Y : Nat → List Value → FM → Nat → OR FM}
end Go.Am.C06
namespace Go.Am.C06
open Go Go.Am
variable {E : Nat → Option AFn} {Y : Nat → List Value → FM → Nat → OR FM}
end Go.Am.C06
namespace Go.Am.C06
open Go Go.Am
variable {E : Nat → Option AFn} {Y : Nat → List Value → FM → Nat → OR FM}
def jnL (L : List (List Int)) (a b : Int) (j : Nat) : List Int := ((List.range j).filter fun g => decide (a ∈ L.getD g []) && decide (b ∈ L.getD g [])).map fun g => ((g : Nat) : Int)
end Go.Am.C06
