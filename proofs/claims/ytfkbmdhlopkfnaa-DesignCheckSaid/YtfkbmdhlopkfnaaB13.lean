/- The machine and its runs, part 13: Am07i Am07j Am07jc Am07jd Am07sa Am07sb. -/
import Derived.Test.YtfkbmdhlopkfnaaB12
set_option linter.unusedVariables false
set_option linter.unusedSimpArgs false
set_option linter.unusedSectionVars false
namespace Go.Am.C07
open Go Go.Am
variable {E : Nat → Option AFn} {Y : Nat → List Value → FM → Nat → OR FM}
def rowA (A T : Tab) (q m b j : Nat) : List Int := (List.range j).map fun x => ((q * x + addN A (addN T m x) b : Nat) : Int)
theorem rowA_succ (A T : Tab) (q m b j : Nat) : rowA A T q m b (j + 1) = rowA A T q m b j ++ [((q * j + addN A (addN T m j) b : Nat) : Int)] := by
  rw [rowA, List.range_succ, List.map_append]; rfl
theorem rowA_len (A T : Tab) (q m b j : Nat) : (rowA A T q m b j).length = j := by simp [rowA]
def rowV (q x j : Nat) : List Int := (List.range j).map fun y => ((q * x + y : Nat) : Int)
theorem rowV_succ (q x j : Nat) : rowV q x (j + 1) = rowV q x j ++ [((q * x + j : Nat) : Int)] := by
  rw [rowV, List.range_succ, List.map_append]; rfl
theorem rowV_len (q x j : Nat) : (rowV q x j).length = j := by simp [rowV]
def rowsB (A T : Tab) (q m : Nat) (gs : List (List Int)) : Nat → List (List Int)
  | 0 => gs
  | b + 1 => rowsB A T q m gs b ++ [rowA A T q m b q]
def rowsM (A T : Tab) (q : Nat) : Nat → List (List Int)
  | 0 => []
  | m + 1 => rowsB A T q m (rowsM A T q m) q
def rowsX (q : Nat) (gs : List (List Int)) : Nat → List (List Int)
  | 0 => gs
  | x + 1 => rowsX q gs x ++ [rowV q x q]
def affR (A T : Tab) (q : Nat) : List (List Int) := rowsX q (rowsM A T q q) q
theorem rowsB_len (A T : Tab) (q m : Nat) (gs : List (List Int)) : ∀ b, (rowsB A T q m gs b).length = gs.length + b
  | 0 => rfl
  | b + 1 => by rw [rowsB, List.length_append, rowsB_len A T q m gs b]; rfl
theorem rowsM_len (A T : Tab) (q : Nat) : ∀ m, (rowsM A T q m).length = m * q
  | 0 => by rw [Nat.zero_mul]; rfl
  | m + 1 => by rw [rowsM, rowsB_len, rowsM_len A T q m, Nat.succ_mul]
theorem rowsX_len (q : Nat) (gs : List (List Int)) : ∀ x, (rowsX q gs x).length = gs.length + x
  | 0 => rfl
  | x + 1 => by rw [rowsX, List.length_append, rowsX_len q gs x]; rfl
theorem aff_L0 (h30 : E 37 = some ac37) (h31 : E 38 = some ac38) (h42 : E 50 = some ac50) {m0 : FM} {n1 : Nat} {pf : Value} {q : Nat} {A T : Tab} (hg : GoodT q A T) (hF : FieldM m0 n1 pf q A T) {m b : Nat} (hm : m < q) (hb : b < q)
    (y2 y3 y4 y6 y7 y9 y10 y11 y12 y13 y15 y16 : Value) {Q : AX → List Value → FM → Nat → Nat → Prop}
    (hQ : ∀ gv M' N' w, n1 ≤ N' → (∀ b, b < n1 → M' b = m0 b) → IntZ M' n1 N' gv (rowA A T q m b q) → (∀ j, j ≤ n1 → Nat.mod w (bit j) = 0) → ∀ y1, Q (.exit 4) [gv, y1, y2, y3, y4, .int .i64 (b : Int), y6, y7, .int .i64 (m : Int), y9, y10, y11, y12, y13, pf, y15, y16, .int .i64 (q : Int)] M' N' w) :
    ∀ d x, x + d = q → ∀ (M' : FM) (N' w0 : Nat) (gv : Value), n1 ≤ N' → (∀ b, b < n1 → M' b = m0 b) → IntZ M' n1 N' gv (rowA A T q m b x) → (∀ j, j ≤ n1 → Nat.mod w0 (bit j) = 0) →
    Gv (execW PG E Y ac28L0 [gv, .int .i64 (x : Int), y2, y3, y4, .int .i64 (b : Int), y6, y7, .int .i64 (m : Int), y9, y10, y11, y12, y13, pf, y15, y16, .int .i64 (q : Int)] M' N') fun X e m n w => Q X e m n (Nat.lor w0 w) := by
  have hq := hg.small
  intro d
  induction d with
  | zero =>
    intro x hx M' N' w0 gv hN hM hZ hw
    obtain rfl : x = q := by omega
    refine wr_loopN (L := ac28L0) (b := ac28L0b) rfl ?_
    simp only [ac28L0b]
    simp (implicitDefEqProofs := false) (disch := omega) only [W2, opds, Nat.testBit, Nat.reduceAdd, Nat.reduceShiftRight, Nat.reduceAnd, Nat.reduceBNe, Nat.reduceMul]
    exact hQ _ _ _ _ hN hM hZ hw _
  | succ d ih =>
    intro x hx M' N' w0 gv hN hM hZ hw
    have hxq : x < q := by omega
    have ih' := ih (x + 1) (by omega)
    rw [rowA_succ] at ih'
    obtain ⟨t1, t2⟩ := hg.mulE hm hxq
    obtain ⟨u1, u2⟩ := hg.addE t2 hb
    have hll := rowA_len A T q m b x
    have hF' := hF.frame hN hM
    have hqx : q * x ≤ 1000 * 1000 := Nat.mul_le_mul (by omega) (by omega)
    refine wr_loopN (L := ac28L0) (b := ac28L0b) rfl ?_
    simp only [ac28L0b]
    simp (implicitDefEqProofs := false) (disch := omega) only [W2, opds, Nat.testBit, Nat.reduceAdd, Nat.reduceShiftRight, Nat.reduceAnd, Nat.reduceBNe, Nat.reduceMul]
    refine use_pure (mul_spec h31 h42 hF' hm hxq) fun _ => ?_
    rw [t1]
    simp (implicitDefEqProofs := false) (disch := omega) only [W2, opds, Nat.testBit, Nat.reduceAdd, Nat.reduceShiftRight, Nat.reduceAnd, Nat.reduceBNe, Nat.reduceMul]
    refine use_pure (add_spec h30 h42 hF' t2 hb) fun _ => ?_
    rw [u1]
    generalize addN A (addN T m x) b = u at *
    simp (implicitDefEqProofs := false) (disch := omega) only [W2, opds, Nat.testBit, Nat.reduceAdd, Nat.reduceShiftRight, Nat.reduceAnd, Nat.reduceBNe, Nat.reduceMul]
    refine use_rt (app_intZ (IntZ.frame hZ (by omega) fun b _ hb => by rw [fput_ne _ _ _ _ (by omega)]) ((q * x + u : Nat) : Int) (some ⟨N', 0, none⟩) 1 (bit N') (by omega) (by omega)) fun v5 M5 N5 r5 w5 ⟨e5, z5, l5, f5⟩ => ?_
    subst e5
    simp (implicitDefEqProofs := false) (disch := omega) only [W2, opds, Nat.testBit, Nat.reduceAdd, Nat.reduceShiftRight, Nat.reduceAnd, Nat.reduceBNe, Nat.reduceMul]
    refine wr_end (ih' _ (N' + 2) (Nat.lor w0 (Nat.lor (bit N') w5)) v5 (by omega) (fun b hb => by rw [l5 b hb, fput_ne _ _ _ _ (by omega)]; exact hM b hb) z5 (fun j hj => by simp only [frz_iff]; exact ⟨hw j hj, frz_bit (by omega), f5 j hj⟩)) fun X e m n w hq => ?_
    rw [← lor_assoc']; exact hq
theorem aff_L3 {m0 : FM} {n1 : Nat} {q : Nat} (hq : q < 1000) {x : Nat} (hx : x < q)
    (y2 y3 y4 y6 y7 y8 y9 y10 y11 y12 y13 y14 : Value) {Q : AX → List Value → FM → Nat → Nat → Prop}
    (hQ : ∀ gv M' N' w, n1 ≤ N' → (∀ b, b < n1 → M' b = m0 b) → IntZ M' n1 N' gv (rowV q x q) → (∀ j, j ≤ n1 → Nat.mod w (bit j) = 0) → ∀ y1, Q (.exit 8) [gv, y1, y2, y3, y4, .int .i64 (x : Int), y6, y7, y8, y9, y10, y11, y12, y13, y14, .int .i64 (q : Int)] M' N' w) :
    ∀ d y, y + d = q → ∀ (M' : FM) (N' w0 : Nat) (gv : Value), n1 ≤ N' → (∀ b, b < n1 → M' b = m0 b) → IntZ M' n1 N' gv (rowV q x y) → (∀ j, j ≤ n1 → Nat.mod w0 (bit j) = 0) →
    Gv (execW PG E Y ac28L3 [gv, .int .i64 (y : Int), y2, y3, y4, .int .i64 (x : Int), y6, y7, y8, y9, y10, y11, y12, y13, y14, .int .i64 (q : Int)] M' N') fun X e m n w => Q X e m n (Nat.lor w0 w) := by
  intro d
  induction d with
  | zero =>
    intro y hy M' N' w0 gv hN hM hZ hw
    obtain rfl : y = q := by omega
    refine wr_loopN (L := ac28L3) (b := ac28L3b) rfl ?_
    simp only [ac28L3b]
    simp (implicitDefEqProofs := false) (disch := omega) only [W2, opds, Nat.testBit, Nat.reduceAdd, Nat.reduceShiftRight, Nat.reduceAnd, Nat.reduceBNe, Nat.reduceMul]
    exact hQ _ _ _ _ hN hM hZ hw _
  | succ d ih =>
    intro y hy M' N' w0 gv hN hM hZ hw
    have ih' := ih (y + 1) (by omega)
    rw [rowV_succ] at ih'
    have hll := rowV_len q x y
    have hqx : q * x ≤ 1000 * 1000 := Nat.mul_le_mul (by omega) (by omega)
    refine wr_loopN (L := ac28L3) (b := ac28L3b) rfl ?_
    simp only [ac28L3b]
    simp (implicitDefEqProofs := false) (disch := omega) only [W2, opds, Nat.testBit, Nat.reduceAdd, Nat.reduceShiftRight, Nat.reduceAnd, Nat.reduceBNe, Nat.reduceMul]
    refine use_rt (app_intZ (IntZ.frame hZ (by omega) fun b _ hb => by rw [fput_ne _ _ _ _ (by omega)]) ((q * x + y : Nat) : Int) (some ⟨N', 0, none⟩) 1 (bit N') (by omega) (by omega)) fun v5 M5 N5 r5 w5 ⟨e5, z5, l5, f5⟩ => ?_
    subst e5
    simp (implicitDefEqProofs := false) (disch := omega) only [W2, opds, Nat.testBit, Nat.reduceAdd, Nat.reduceShiftRight, Nat.reduceAnd, Nat.reduceBNe, Nat.reduceMul]
    refine wr_end (ih' _ (N' + 2) (Nat.lor w0 (Nat.lor (bit N') w5)) v5 (by omega) (fun b hb => by rw [l5 b hb, fput_ne _ _ _ _ (by omega)]; exact hM b hb) z5 (fun j hj => by simp only [frz_iff]; exact ⟨hw j hj, frz_bit (by omega), f5 j hj⟩)) fun X e m n w hq => ?_
    rw [← lor_assoc']; exact hq
theorem aff_L1 (h30 : E 37 = some ac37) (h31 : E 38 = some ac38) (h42 : E 50 = some ac50) {m0 : FM} {nf n1 db : Nat} {D : Int} {pf : Value} {q : Nat} {A T : Tab} (hg : GoodT q A T) (hF : FieldM m0 nf pf q A T) (hnf : nf ≤ db) (hdb : db < n1) {m : Nat} (hm : m < q) {gs : List (List Int)} (hgl : gs.length ≤ 100000)
    (y1 y2 y4 y6 y7 y8 y10 y11 : Value) {Q : AX → List Value → FM → Nat → Nat → Prop}
    (hQ : ∀ M' N' w, PrS m0 n1 db D M' N' (rowsB A T q m gs q) → (∀ j, j ≤ nf → Nat.mod w (bit j) = 0) → ∀ y0, Q (.exit 2) [y0, y1, y2, .int .i64 (m : Int), y4, .pointer (some ⟨db, 0, none⟩), y6, y7, y8, pf, y10, y11, .int .i64 (q : Int)] M' N' w) :
    ∀ d b, b + d = q → ∀ (M' : FM) (N' w0 : Nat), PrS m0 n1 db D M' N' (rowsB A T q m gs b) → (∀ j, j ≤ nf → Nat.mod w0 (bit j) = 0) →
    Gv (execW PG E Y ac28L1 [.int .i64 (b : Int), y1, y2, .int .i64 (m : Int), y4, .pointer (some ⟨db, 0, none⟩), y6, y7, y8, pf, y10, y11, .int .i64 (q : Int)] M' N') fun X e m n w => Q X e m n (Nat.lor w0 w) := by
  have hq := hg.small
  intro d
  induction d with
  | zero =>
    intro b hb M' N' w0 hP hw
    obtain rfl : b = q := by omega
    refine wr_loopN (L := ac28L1) (b := ac28L1b) rfl ?_
    simp only [ac28L1b]
    simp (implicitDefEqProofs := false) (disch := omega) only [W2, opds, Nat.testBit, Nat.reduceAdd, Nat.reduceShiftRight, Nat.reduceAnd, Nat.reduceBNe, Nat.reduceMul]
    exact hQ _ _ _ hP hw _
  | succ d ih =>
    intro b hb M' N' w0 hP hw
    have hbq : b < q := by omega
    have ih' := ih (b + 1) (by omega)
    rw [rowsB] at ih'
    have hgl2 := rowsB_len A T q m gs b
    generalize rowsB A T q m gs b = hs at *
    obtain ⟨le, low, rv, d1, d2⟩ := hP
    have hF' : FieldM M' N' pf q A T := hF.frame (by omega) fun b hb => low b (by omega) (by omega)
    refine wr_loopN (L := ac28L1) (b := ac28L1b) rfl ?_
    simp only [ac28L1b]
    simp (implicitDefEqProofs := false) (disch := omega) only [W2, opds, Nat.testBit, Nat.reduceAdd, Nat.reduceShiftRight, Nat.reduceAnd, Nat.reduceBNe, Nat.reduceMul]
    refine wr_kont (aff_L0 h30 h31 h42 (m0 := M') (n1 := N') hg hF' hm hbq _ _ _ _ _ _ _ _ _ _ _ _ (fun gv M2 N2 w2 n2 m2 z2 f2 y1 rr => ?_) q 0 (by omega) M' N' 0 _ (Nat.le_refl _) (fun _ _ => rfl) (IntZ.nil _ _ _) (fun _ _ => Nat.zero_mod _))
    have d1' : M2 db = some (.cells [.int .i64 D, rv] 0 false true) := by rw [m2 db (by omega)]; exact d1
    have hgc : gv.cells.toList = [gv] := by rcases z2 with ⟨_, _, rfl⟩ | ⟨_, _, b, rfl, _⟩ <;> rfl
    have hgo : Am.one gv = true := SlZ.one z2
    simp (implicitDefEqProofs := false) (disch := omega) only [W2, opds, Nat.testBit, Nat.reduceAdd, Nat.reduceShiftRight, Nat.reduceAnd, Nat.reduceBNe, Nat.reduceMul, d1', hgo, hgc]
    refine use_rt (app_rowsZ (n0 := n1) (n1 := N') (gs := hs) (g := rowA A T q m b q) (RowsZ.frame d2 (Nat.le_refl _) fun b h1 h2 => by rw [fput_ne _ _ _ _ (by omega), m2 b (by omega)]) (IntZ.frame z2 (by omega) fun b _ hb => by rw [fput_ne _ _ _ _ (by omega)]) (by omega) (by omega) (some ⟨N2, 0, none⟩) 1 (bit N2) (by omega)) fun v5 M5 N5 r5 w5 hA => ?_
    obtain ⟨av, an, as5, al, aw⟩ := hA
    subst an
    subst av
    have d5 : M5 db = some (.cells [.int .i64 D, rv] 0 false true) := by rw [al db hdb, fput_ne _ _ _ _ (by omega)]; exact d1'
    simp (implicitDefEqProofs := false) (disch := omega) only [W2, opds, Nat.testBit, Nat.reduceAdd, Nat.reduceShiftRight, Nat.reduceAnd, Nat.reduceBNe, Nat.reduceMul, d5]
    refine wr_end (ih' _ (N2 + 2) (Nat.lor w0 (Nat.lor w2 (Nat.lor (Nat.lor (bit N2) w5) (bit db)))) ⟨by omega, fun b h1 h2 => by rw [fput_ne _ _ _ _ h2, al b h1, fput_ne _ _ _ _ (by omega), m2 b (by omega)]; exact low b h1 h2, ⟨_, fput_same _ _ _, RowsZ.frame as5 (Nat.le_refl _) fun b h1 _ => fput_ne _ _ _ _ (by omega)⟩⟩ (fun j hj => by
      simp only [frz_iff]
      exact ⟨hw j hj, f2 j (by omega), ⟨frz_bit (by omega), aw j (by omega)⟩, frz_bit (by omega)⟩)) fun X e m n w hq => ?_
    rw [← lor_assoc']; exact hq
theorem aff_L4 {m0 : FM} {nf n1 db : Nat} {D : Int} {q : Nat} (hq : q < 1000) (hnf : nf ≤ db) (hdb : db < n1) {gs : List (List Int)} (hgl : gs.length ≤ 100000)
    (y1 y2 y4 y5 y6 y7 y8 y9 : Value) {Q : AX → List Value → FM → Nat → Nat → Prop}
    (hQ : ∀ M' N' w, PrS m0 n1 db D M' N' (rowsX q gs q) → (∀ j, j ≤ nf → Nat.mod w (bit j) = 0) → Q (.exit 6) [y1, y2, .pointer (some ⟨db, 0, none⟩), y4, y5, y6, y7, y8, y9, .int .i64 (q : Int)] M' N' w) :
    ∀ d x, x + d = q → ∀ (M' : FM) (N' w0 : Nat), PrS m0 n1 db D M' N' (rowsX q gs x) → (∀ j, j ≤ nf → Nat.mod w0 (bit j) = 0) →
    Gv (execW PG E Y ac28L4 [.int .i64 (x : Int), y1, y2, .pointer (some ⟨db, 0, none⟩), y4, y5, y6, y7, y8, y9, .int .i64 (q : Int)] M' N') fun X e m n w => Q X e m n (Nat.lor w0 w) := by
  intro d
  induction d with
  | zero =>
    intro x hx M' N' w0 hP hw
    obtain rfl : x = q := by omega
    refine wr_loopN (L := ac28L4) (b := ac28L4b) rfl ?_
    simp only [ac28L4b]
    simp (implicitDefEqProofs := false) (disch := omega) only [W2, opds, Nat.testBit, Nat.reduceAdd, Nat.reduceShiftRight, Nat.reduceAnd, Nat.reduceBNe, Nat.reduceMul]
    exact hQ _ _ _ hP hw
  | succ d ih =>
    intro x hx M' N' w0 hP hw
    have hxq : x < q := by omega
    have ih' := ih (x + 1) (by omega)
    rw [rowsX] at ih'
    have hgl2 := rowsX_len q gs x
    generalize rowsX q gs x = hs at *
    obtain ⟨le, low, rv, d1, d2⟩ := hP
    refine wr_loopN (L := ac28L4) (b := ac28L4b) rfl ?_
    simp only [ac28L4b]
    simp (implicitDefEqProofs := false) (disch := omega) only [W2, opds, Nat.testBit, Nat.reduceAdd, Nat.reduceShiftRight, Nat.reduceAnd, Nat.reduceBNe, Nat.reduceMul]
    refine wr_kont (aff_L3 (m0 := M') (n1 := N') hq hxq _ _ _ _ _ _ _ _ _ _ _ _ (fun gv M2 N2 w2 n2 m2 z2 f2 y1 rr => ?_) q 0 (by omega) M' N' 0 _ (Nat.le_refl _) (fun _ _ => rfl) (IntZ.nil _ _ _) (fun _ _ => Nat.zero_mod _))
    have d1' : M2 db = some (.cells [.int .i64 D, rv] 0 false true) := by rw [m2 db (by omega)]; exact d1
    have hgc : gv.cells.toList = [gv] := by rcases z2 with ⟨_, _, rfl⟩ | ⟨_, _, b, rfl, _⟩ <;> rfl
    have hgo : Am.one gv = true := SlZ.one z2
    simp (implicitDefEqProofs := false) (disch := omega) only [W2, opds, Nat.testBit, Nat.reduceAdd, Nat.reduceShiftRight, Nat.reduceAnd, Nat.reduceBNe, Nat.reduceMul, d1', hgo, hgc]
    refine use_rt (app_rowsZ (n0 := n1) (n1 := N') (gs := hs) (g := rowV q x q) (RowsZ.frame d2 (Nat.le_refl _) fun b h1 h2 => by rw [fput_ne _ _ _ _ (by omega), m2 b (by omega)]) (IntZ.frame z2 (by omega) fun b _ hb => by rw [fput_ne _ _ _ _ (by omega)]) (by omega) (by omega) (some ⟨N2, 0, none⟩) 1 (bit N2) (by omega)) fun v5 M5 N5 r5 w5 hA => ?_
    obtain ⟨av, an, as5, al, aw⟩ := hA
    subst an
    subst av
    have d5 : M5 db = some (.cells [.int .i64 D, rv] 0 false true) := by rw [al db hdb, fput_ne _ _ _ _ (by omega)]; exact d1'
    simp (implicitDefEqProofs := false) (disch := omega) only [W2, opds, Nat.testBit, Nat.reduceAdd, Nat.reduceShiftRight, Nat.reduceAnd, Nat.reduceBNe, Nat.reduceMul, d5]
    refine wr_end (ih' _ (N2 + 2) (Nat.lor w0 (Nat.lor w2 (Nat.lor (Nat.lor (bit N2) w5) (bit db)))) ⟨by omega, fun b h1 h2 => by rw [fput_ne _ _ _ _ h2, al b h1, fput_ne _ _ _ _ (by omega), m2 b (by omega)]; exact low b h1 h2, ⟨_, fput_same _ _ _, RowsZ.frame as5 (Nat.le_refl _) fun b h1 _ => fput_ne _ _ _ _ (by omega)⟩⟩ (fun j hj => by
      simp only [frz_iff]
      exact ⟨hw j hj, f2 j (by omega), ⟨frz_bit (by omega), aw j (by omega)⟩, frz_bit (by omega)⟩)) fun X e m n w hq => ?_
    rw [← lor_assoc']; exact hq
theorem aff_L2 (h30 : E 37 = some ac37) (h31 : E 38 = some ac38) (h42 : E 50 = some ac50) {m0 : FM} {nf n1 db : Nat} {D : Int} {pf : Value} {q : Nat} {A T : Tab} (hg : GoodT q A T) (hq9 : q ≤ 9) (hF : FieldM m0 nf pf q A T) (hnf : nf ≤ db) (hdb : db < n1)
    (y1 y3 y4 y5 y7 y8 : Value) {Q : AX → List Value → FM → Nat → Nat → Prop}
    (hQ : ∀ M' N' w, PrS m0 n1 db D M' N' (rowsM A T q q) → (∀ j, j ≤ nf → Nat.mod w (bit j) = 0) → Q (.exit 0) [y1, .pointer (some ⟨db, 0, none⟩), y3, y4, y5, pf, y7, y8, .int .i64 (q : Int)] M' N' w) :
    ∀ d m, m + d = q → ∀ (M' : FM) (N' w0 : Nat), PrS m0 n1 db D M' N' (rowsM A T q m) → (∀ j, j ≤ nf → Nat.mod w0 (bit j) = 0) →
    Gv (execW PG E Y ac28L2 [.int .i64 (m : Int), y1, .pointer (some ⟨db, 0, none⟩), y3, y4, y5, pf, y7, y8, .int .i64 (q : Int)] M' N') fun X e m n w => Q X e m n (Nat.lor w0 w) := by
  intro d
  induction d with
  | zero =>
    intro m hm M' N' w0 hP hw
    obtain rfl : m = q := by omega
    refine wr_loopN (L := ac28L2) (b := ac28L2b) rfl ?_
    simp only [ac28L2b]
    simp (implicitDefEqProofs := false) (disch := omega) only [W2, opds, Nat.testBit, Nat.reduceAdd, Nat.reduceShiftRight, Nat.reduceAnd, Nat.reduceBNe, Nat.reduceMul]
    exact hQ _ _ _ hP hw
  | succ d ih =>
    intro m hm M' N' w0 hP hw
    have hl := rowsM_len A T q m
    have hmq : m * q ≤ 9 * 9 := Nat.mul_le_mul (by omega) hq9
    refine wr_loopN (L := ac28L2) (b := ac28L2b) rfl ?_
    simp only [ac28L2b]
    simp (implicitDefEqProofs := false) (disch := omega) only [W2, opds, Nat.testBit, Nat.reduceAdd, Nat.reduceShiftRight, Nat.reduceAnd, Nat.reduceBNe, Nat.reduceMul]
    refine wr_kont (aff_L1 h30 h31 h42 hg hF hnf hdb (m := m) (by omega) (gs := rowsM A T q m) (by omega) _ _ _ _ _ _ _ _ (fun M2 N2 w2 hP2 hw2 y0 rr => ?_) q 0 (by omega) M' N' 0 hP (fun _ _ => Nat.zero_mod _))
    simp (implicitDefEqProofs := false) (disch := omega) only [W2, opds, Nat.testBit, Nat.reduceAdd, Nat.reduceShiftRight, Nat.reduceAnd, Nat.reduceBNe, Nat.reduceMul]
    refine wr_end (ih (m + 1) (by omega) M2 N2 (Nat.lor w0 w2) hP2 (fun j hj => by rw [frz_iff]; exact ⟨hw j hj, hw2 j hj⟩)) fun X e m n w hq => ?_
    rw [← lor_assoc']; exact hq
theorem aff_spec (hE : E 28 = some ac28) (h30 : E 37 = some ac37) (h31 : E 38 = some ac38) (h42 : E 50 = some ac50) {q : Nat} {A T : Tab} (hq7 : q ≤ 7) (hg : GoodT q A T) (m : FM) (n : Nat) (hNew : ∀ m n, Rt (callW PG E Y 36 [.int .i64 (q : Int)] m n) (Kpt m n fun v M' N' => ∃ pv, v = .tuple #[pv, .int .i64 0] ∧ FieldM M' N' pv q A T)) :
    Rt (callW PG E Y 28 [.int .i64 (q : Int)] m n) (Kpt m n fun v M' N' => ∃ dv, v = .tuple #[dv, .int .i64 0] ∧ DesV M' n N' dv ((q * q : Nat) : Int) (affR A T q)) := by
  refine kept_specQ hE rfl fun Q hQ => ?_
  simp only [ac28]
  have hqq : q * q ≤ 7 * 7 := Nat.mul_le_mul hq7 hq7
  simp (implicitDefEqProofs := false) (disch := omega) only [W2, opds, Nat.testBit, Nat.reduceAdd, Nat.reduceShiftRight, Nat.reduceAnd, Nat.reduceBNe, Nat.reduceMul]
  refine use_rt (hNew _ _) fun v M1 N1 r1 w1 ⟨n1, m1, f1, pv, hv, hF⟩ => ?_
  subst hv
  simp (implicitDefEqProofs := false) (disch := omega) only [W2, opds, Nat.testBit, Nat.reduceAdd, Nat.reduceShiftRight, Nat.reduceAnd, Nat.reduceBNe, Nat.reduceMul]
  generalize hM2 : (AMem.put M1 N1 (some (.cells [.int .i64 ((q * q : Nat) : Int), .slice none 0 0] 0 false true)) : FM) = M2
  have l2 : ∀ b, b < N1 → M2 b = M1 b := fun b hb => by rw [← hM2, fput_ne _ _ _ _ (by omega)]
  have d2 : M2 N1 = some (.cells [.int .i64 ((q * q : Nat) : Int), .slice none 0 0] 0 false true) := by rw [← hM2]; exact fput_same _ _ _
  have hm1 : M1 n = some (.cells [.int .i64 0, .slice none 0 0] 0 false true) := (m1 n (by omega)).trans (fput_same _ _ _)
  have fzn := f1 n (by omega)
  have fza : Nat.mod (bit N1) (bit n) = 0 := frz_bit (by omega)
  have fzb : Nat.mod (bit n) (bit n) = 0 := frz_bit (Nat.le_refl _)
  refine wr_kont (aff_L2 h30 h31 h42 (m0 := M2) (nf := N1) (n1 := N1 + 1) (db := N1) (D := ((q * q : Nat) : Int)) hg (by omega) (hF.frame (Nat.le_refl _) l2) (Nat.le_refl _) (Nat.lt_succ_self _) _ _ _ _ _ _ (fun M3 N3 w3 hP f3 rr => ?_) q 0 (by omega) M2 (N1 + 1) 0 ⟨Nat.le_refl _, fun _ _ _ => rfl, ⟨_, d2, RowsZ.nil _ _ _⟩⟩ (fun _ _ => Nat.zero_mod _))
  have hml := rowsM_len A T q q
  simp (implicitDefEqProofs := false) (disch := omega) only [W2, opds, Nat.testBit, Nat.reduceAdd, Nat.reduceShiftRight, Nat.reduceAnd, Nat.reduceBNe, Nat.reduceMul]
  refine wr_kont (aff_L4 (m0 := M2) (nf := N1) (n1 := N1 + 1) (db := N1) (D := ((q * q : Nat) : Int)) hg.small (Nat.le_refl _) (Nat.lt_succ_self _) (gs := rowsM A T q q) (by omega) _ _ _ _ _ _ _ _ (fun M4 N4 w4 hP f4 rr => ?_) q 0 (by omega) M3 N3 0 hP (fun _ _ => Nat.zero_mod _))
  obtain ⟨le3, low3, rv, e3, g3⟩ := hP
  have hm3 : M4 n = some (.cells [.int .i64 0, .slice none 0 0] 0 false true) := by rw [low3 n (by omega) (by omega), l2 n (by omega)]; exact hm1
  have hrb : Am.one rv = true := g3.one
  have fz3 := f3 n (by omega)
  have fz4 := f4 n (by omega)
  simp (implicitDefEqProofs := false) (disch := omega) only [W2, opds, Nat.testBit, Nat.reduceAdd, Nat.reduceShiftRight, Nat.reduceAnd, Nat.reduceBNe, Nat.reduceMul, e3, hm3, hrb]
  refine hQ _ _ _ _ _ (by omega) (fun b hb => by rw [fput_ne _ _ _ _ (by omega), low3 b (by omega) (by omega), l2 b (by omega), m1 b (by omega), fput_ne _ _ _ _ (by omega)]) ?_ rfl ⟨_, rfl, rv, rfl, RowsZ.low (RowsZ.frame g3 (Nat.le_refl _) fun b h1 _ => fput_ne _ _ _ _ (by omega)) (by omega)⟩
  simp only [frz_iff]
  exact ⟨⟨⟨⟨⟨fzb, fzn⟩, fza, fza⟩, fz3⟩, fz4⟩, fzb⟩
theorem aff_bad (hE : E 28 = some ac28) {q : Int} (m : FM) (n : Nat) (hNew : ∀ m n, Pure (callW PG E Y 36 [.int .i64 q] m n) m n (.tuple #[.pointer none, .int .i64 1])) :
    Rt (callW PG E Y 28 [.int .i64 q] m n) (Kpt m n fun v M' N' => ∃ dv, v = .tuple #[dv, .int .i64 1] ∧ DesV M' n N' dv 0 []) := by
  refine kept_specQ hE rfl fun Q hQ => ?_
  simp only [ac28]
  have fzb : Nat.mod (bit n) (bit n) = 0 := frz_bit (Nat.le_refl _)
  simp (implicitDefEqProofs := false) (disch := omega) only [W2, opds, Nat.testBit, Nat.reduceAdd, Nat.reduceShiftRight, Nat.reduceAnd, Nat.reduceBNe, Nat.reduceMul]
  refine use_pure (hNew _ _) fun _ => ?_
  simp (implicitDefEqProofs := false) (disch := omega) only [W2, opds, Nat.testBit, Nat.reduceAdd, Nat.reduceShiftRight, Nat.reduceAnd, Nat.reduceBNe, Nat.reduceMul]
  refine hQ _ _ _ _ _ (by omega) (fun b hb => by rw [fput_ne _ _ _ _ (by omega)]) ?_ rfl ⟨_, rfl, _, rfl, RowsZ.nil _ _ _⟩
  simp only [frz_iff, fzb, and_self]
theorem aff_big (hE : E 28 = some ac28) {q : Nat} {A T : Tab} (hq2 : 8 ≤ q) (hq7 : q ≤ 9) (m : FM) (n : Nat) (hNew : ∀ m n, Rt (callW PG E Y 36 [.int .i64 (q : Int)] m n) (Kpt m n fun v M' N' => ∃ pv, v = .tuple #[pv, .int .i64 0] ∧ FieldM M' N' pv q A T)) :
    Rt (callW PG E Y 28 [.int .i64 (q : Int)] m n) (Kpt m n fun v M' N' => ∃ dv, v = .tuple #[dv, .int .i64 7] ∧ DesV M' n N' dv 0 []) := by
  refine kept_specQ hE rfl fun Q hQ => ?_
  simp only [ac28]
  have fzb : Nat.mod (bit n) (bit n) = 0 := frz_bit (Nat.le_refl _)
  have hqq : 8 * 8 ≤ q * q := Nat.mul_le_mul hq2 hq2
  have hqq2 : q * q ≤ 9 * 9 := Nat.mul_le_mul hq7 hq7
  simp (implicitDefEqProofs := false) (disch := omega) only [W2, opds, Nat.testBit, Nat.reduceAdd, Nat.reduceShiftRight, Nat.reduceAnd, Nat.reduceBNe, Nat.reduceMul]
  refine use_rt (hNew _ _) fun v M1 N1 r1 w1 ⟨n1, m1, f1, pv, hv, hF⟩ => ?_
  subst hv
  have hm1 : M1 n = some (.cells [.int .i64 0, .slice none 0 0] 0 false true) := (m1 n (by omega)).trans (fput_same _ _ _)
  have fz1 := f1 n (by omega)
  simp (implicitDefEqProofs := false) (disch := omega) only [W2, opds, Nat.testBit, Nat.reduceAdd, Nat.reduceShiftRight, Nat.reduceAnd, Nat.reduceBNe, Nat.reduceMul, hm1]
  refine hQ _ _ _ _ _ (by omega) (fun b hb => by rw [fput_ne _ _ _ _ (by omega), m1 b (by omega), fput_ne _ _ _ _ (by omega)]) ?_ rfl ⟨_, rfl, _, rfl, RowsZ.nil _ _ _⟩
  simp only [frz_iff, fzb, fz1, and_self]
end Go.Am.C07
namespace Go.Am.C07
open Go Go.Am
variable {E : Nat → Option AFn} {Y : Nat → List Value → FM → Nat → OR FM}
theorem same_L0 {m : FM} {n ab bb : Nat} {D1 D2 : Int} {av bv : Value} {g1 g2 : List (List Int)} (hab : ab < n) (hbb : bb < n) (hma : m ab = some (.cells [.int .i64 D1, av] 0 false true)) (hmb : m bb = some (.cells [.int .i64 D2, bv] 0 false true)) (h1 : Rows m n av g1) (h2 : Rows m n bv g2) {i : Nat} {r1 r2 : List Int} (hi1 : g1[i]? = some r1) (hi2 : g2[i]? = some r2) (hl : r1.length = r2.length) (hs : r1.length < 1000000)
    (y2 y3 y4 y5 y6 y7 y8 y9 y10 y11 y12 y13 y14 y15 y16 y17 y18 y20 y21 y22 y25 y26 : Value) {R : Bool} {Q : AX → List Value → FM → Nat → Nat → Prop}
    (hQ0 : R = true → ∀ y0 y1, Q (.exit 2) [y0, y1, y2, y3, y4, y5, y6, y7, y8, y9, y10, y11, y12, y13, y14, y15, y16, y17, y18, .int .i64 (i : Int), y20, y21, y22, .pointer (some ⟨bb, 0, none⟩), .pointer (some ⟨ab, 0, none⟩), y25, y26] m n 0) (hQ1 : R = false → ∀ e, Q (.ret (.bool false)) e m n 0) :
    ∀ d k, k + d = r1.length → ∀ y0, decide (r1.drop k = r2.drop k) = R → Gv (execW PG E Y ac13L0 [y0, .int .i64 (k : Int), y2, y3, y4, y5, y6, y7, y8, y9, y10, y11, y12, y13, y14, y15, y16, y17, y18, .int .i64 (i : Int), y20, y21, y22, .pointer (some ⟨bb, 0, none⟩), .pointer (some ⟨ab, 0, none⟩), y25, y26] m n) Q := by
  have hil1 := (List.getElem?_eq_some_iff.1 hi1).1
  have hil2 := (List.getElem?_eq_some_iff.1 hi2).1
  obtain ⟨a1, a2, a3, a4, a5, ax, p1, p2, p3, p4, p5⟩ := h1.cell hil1
  obtain ⟨b1, b2, b3, b4, b5, bx, q1, q2, q3, q4, q5⟩ := h2.cell hil2
  rw [show g1[i] = r1 by rw [List.getElem?_eq_getElem hil1] at hi1; injection hi1] at p5
  rw [show g2[i] = r2 by rw [List.getElem?_eq_getElem hil2] at hi2; injection hi2] at q5
  have hba := ld1_below h1
  have hbb' := ld1_below h2
  have hbx := Sl.below p5
  have hby := Sl.below q5
  intro d
  induction d with
  | zero =>
    intro k hk y0 hR
    rw [List.drop_eq_nil_of_le (by omega), List.drop_eq_nil_of_le (by omega)] at hR
    refine wr_loopN (L := ac13L0) (b := ac13L0b) rfl ?_
    simp only [ac13L0b]
    simp (implicitDefEqProofs := false) (disch := omega) only [W2, opds, Nat.testBit, Nat.reduceAdd, Nat.reduceShiftRight, Nat.reduceAnd, Nat.reduceBNe, Nat.reduceMul, hma, p1, p3, p4, p5.len]
    exact hQ0 (by rw [← hR]; rfl) _ _
  | succ d ih =>
    intro k hk y0 hR
    have hk1 : k < r1.length := by omega
    have hk2 : k < r2.length := by omega
    obtain ⟨c1, c2, c3, c4, c5, s1, s2, s3, s4⟩ := p5.cell hk1
    obtain ⟨d1, d2, d3, d4, d5, t1, t2, t3, t4⟩ := q5.cell hk2
    rw [List.drop_eq_getElem_cons hk1, List.drop_eq_getElem_cons hk2] at hR
    refine wr_loopN (L := ac13L0) (b := ac13L0b) rfl ?_
    simp only [ac13L0b]
    by_cases he : r1[k] = r2[k]
    · have hR2 : decide (r1.drop (k + 1) = r2.drop (k + 1)) = R := by
        rw [← hR]
        exact decide_eq_decide.2 ⟨fun h => by rw [he, h], fun h => by injection h⟩
      simp (implicitDefEqProofs := false) (disch := omega) only [W2, opds, Nat.testBit, Nat.reduceAdd, Nat.reduceShiftRight, Nat.reduceAnd, Nat.reduceBNe, Nat.reduceMul, hma, hmb, p1, p3, p4, p5.len, q1, q3, q4, s1, s3, s4, t1, t3, t4, hba, hbb', hbx, hby, he]
      exact wr_end (ih (k + 1) (by omega) _ hR2) fun X e m n w hq => by simpa only [zero_lor'] using hq
    · have hR2 : R = false := by
        rw [← hR]
        exact decide_eq_false fun h => he (by injection h)
      simp (implicitDefEqProofs := false) (disch := omega) only [W2, opds, Nat.testBit, Nat.reduceAdd, Nat.reduceShiftRight, Nat.reduceAnd, Nat.reduceBNe, Nat.reduceMul, hma, hmb, p1, p3, p4, p5.len, q1, q3, q4, s1, s3, s4, t1, t3, t4, hba, hbb', hbx, hby, decide_eq_false he]
      exact hQ1 hR2 _
theorem same_L1 {m : FM} {n ab bb : Nat} {D1 D2 : Int} {av bv : Value} {g1 g2 : List (List Int)} (hab : ab < n) (hbb : bb < n) (hma : m ab = some (.cells [.int .i64 D1, av] 0 false true)) (hmb : m bb = some (.cells [.int .i64 D2, bv] 0 false true)) (h1 : Rows m n av g1) (h2 : Rows m n bv g2) (hl : g1.length = g2.length) (hs : g1.length < 1000000) (hr : ∀ r ∈ g1, r.length < 1000000) (hr2 : ∀ r ∈ g2, r.length < 1000000)
    (y2 y3 y4 y7 y8 : Value) {R : Bool} {Q : AX → List Value → FM → Nat → Nat → Prop}
    (hQ0 : R = true → ∀ e, Q (.exit 0) e m n 0) (hQ1 : R = false → ∀ e, Q (.ret (.bool false)) e m n 0) :
    ∀ d i, i + d = g1.length → ∀ y0, decide (g1.drop i = g2.drop i) = R → Gv (execW PG E Y ac13L1 [y0, .int .i64 (i : Int), y2, y3, y4, .pointer (some ⟨bb, 0, none⟩), .pointer (some ⟨ab, 0, none⟩), y7, y8] m n) Q := by
  have hba := ld1_below h1
  have hbb' := ld1_below h2
  intro d
  induction d with
  | zero =>
    intro i hi y0 hR
    rw [List.drop_eq_nil_of_le (by omega), List.drop_eq_nil_of_le (by omega)] at hR
    refine wr_loopN (L := ac13L1) (b := ac13L1b) rfl ?_
    simp only [ac13L1b]
    simp (implicitDefEqProofs := false) (disch := omega) only [W2, opds, Nat.testBit, Nat.reduceAdd, Nat.reduceShiftRight, Nat.reduceAnd, Nat.reduceBNe, Nat.reduceMul, hma, h1.len]
    exact hQ0 (by rw [← hR]; rfl) _
  | succ d ih =>
    intro i hi y0 hR
    have hi1 : i < g1.length := by omega
    have hi2 : i < g2.length := by omega
    obtain ⟨a1, a2, a3, a4, a5, ax, p1, p2, p3, p4, p5⟩ := h1.cell hi1
    obtain ⟨b1, b2, b3, b4, b5, bx, q1, q2, q3, q4, q5⟩ := h2.cell hi2
    have hbx := Sl.below p5
    have hby := Sl.below q5
    have hra := hr _ (List.getElem_mem hi1)
    have hrb := hr2 _ (List.getElem_mem hi2)
    rw [List.drop_eq_getElem_cons hi1, List.drop_eq_getElem_cons hi2] at hR
    refine wr_loopN (L := ac13L1) (b := ac13L1b) rfl ?_
    simp only [ac13L1b]
    by_cases hle : g1[i].length = g2[i].length
    · have hle' : ((g1[i].length : Nat) : Int) = ((g2[i].length : Nat) : Int) := by rw [hle]
      simp (implicitDefEqProofs := false) (disch := omega) only [W2, opds, Nat.testBit, Nat.reduceAdd, Nat.reduceShiftRight, Nat.reduceAnd, Nat.reduceBNe, Nat.reduceMul, hma, hmb, h1.len, p1, p3, p4, p5.len, q1, q3, q4, q5.len, hba, hbb', hbx, hby, hle']
      refine wr_kont (same_L0 hab hbb hma hmb h1 h2 (List.getElem?_eq_getElem hi1) (List.getElem?_eq_getElem hi2) hle hra _ _ _ _ _ _ _ _ _ _ _ _ _ _ _ _ _ _ _ _ _ _ (R := decide (g1[i] = g2[i])) (fun hR0 y0 y1 rr => ?_) (fun hR0 e rr => ?_) g1[i].length 0 (by omega) _ rfl)
      · have he := of_decide_eq_true hR0
        have hR2 : decide (g1.drop (i + 1) = g2.drop (i + 1)) = R := by
          rw [← hR]
          exact decide_eq_decide.2 ⟨fun h => by rw [he, h], fun h => by injection h⟩
        simp (implicitDefEqProofs := false) (disch := omega) only [W2, opds, Nat.testBit, Nat.reduceAdd, Nat.reduceShiftRight, Nat.reduceAnd, Nat.reduceBNe, Nat.reduceMul]
        exact wr_end (ih (i + 1) (by omega) _ hR2) fun X e m n w hq => by simpa only [zero_lor'] using hq
      · have he := of_decide_eq_false hR0
        simp (implicitDefEqProofs := false) (disch := omega) only [W2, opds, Nat.testBit, Nat.reduceAdd, Nat.reduceShiftRight, Nat.reduceAnd, Nat.reduceBNe, Nat.reduceMul]
        exact hQ1 (by rw [← hR]; exact decide_eq_false fun h => he (by injection h)) _
    · have hle' : ¬ ((g1[i].length : Nat) : Int) = ((g2[i].length : Nat) : Int) := by omega
      simp (implicitDefEqProofs := false) (disch := omega) only [W2, opds, Nat.testBit, Nat.reduceAdd, Nat.reduceShiftRight, Nat.reduceAnd, Nat.reduceBNe, Nat.reduceMul, hma, hmb, h1.len, p1, p3, p4, p5.len, q1, q3, q4, q5.len, hba, hbb', hbx, hby, decide_eq_false hle']
      exact hQ1 (by rw [← hR]; exact decide_eq_false fun h => hle (by injection h with h _; rw [h])) _
theorem same_spec (hE : E 13 = some ac13) {m : FM} {n : Nat} {D1 D2 : Int} {av bv : Value} {g1 g2 : List (List Int)} (h1 : Rows m n av g1) (h2 : Rows m n bv g2) (hs : g1.length < 1000000) (hs2 : g2.length < 1000000) (hr : ∀ r ∈ g1, r.length < 1000000) (hr2 : ∀ r ∈ g2, r.length < 1000000) :
    Pure (callW PG E Y 13 [.agg #[.int .i64 D1, av], .agg #[.int .i64 D2, bv]] m n) m n (.bool (decide (D1 = D2 ∧ g1 = g2))) := by
  refine pure_spec hE rfl rfl ?_
  simp only [ac13]
  obtain ⟨vs1, hv1, _⟩ := id h1
  obtain ⟨vs2, hv2, _⟩ := id h2
  have o1 := hv1.one
  have o2 := hv2.one
  have fza : Nat.mod (bit n) (bit n) = 0 := frz_bit (Nat.le_refl _)
  have fzb : Nat.mod (bit (n + 1)) (bit n) = 0 := frz_bit (by omega)
  simp (implicitDefEqProofs := false) (disch := omega) only [W2, opds, Nat.testBit, Nat.reduceAdd, Nat.reduceShiftRight, Nat.reduceAnd, Nat.reduceBNe, Nat.reduceMul, o1, o2]
  generalize hM1 : (AMem.put (AMem.put m n (some (.cells [.int .i64 D1, av] 0 false true))) (n + 1) (some (.cells [.int .i64 D2, bv] 0 false true)) : FM) = M1
  have m1 : M1 n = some (.cells [.int .i64 D1, av] 0 false true) := by rw [← hM1, fput_ne _ _ _ _ (by omega)]; exact fput_same _ _ _
  have m2 : M1 (n + 1) = some (.cells [.int .i64 D2, bv] 0 false true) := by rw [← hM1]; exact fput_same _ _ _
  have l1 : ∀ b, b < n → M1 b = m b := fun b hb => by rw [← hM1, fput_ne _ _ _ _ (by omega), fput_ne _ _ _ _ (by omega)]
  have k1 := h1.frame (m' := M1) (n' := n + 2) (by omega) l1
  have k2 := h2.frame (m' := M1) (n' := n + 2) (by omega) l1
  by_cases hD : D1 = D2
  · by_cases hl : g1.length = g2.length
    · have hl' : ((g1.length : Nat) : Int) = ((g2.length : Nat) : Int) := by rw [hl]
      simp (implicitDefEqProofs := false) (disch := omega) only [W2, opds, Nat.testBit, Nat.reduceAdd, Nat.reduceShiftRight, Nat.reduceAnd, Nat.reduceBNe, Nat.reduceMul, m1, m2, decide_eq_true hD, k1.len, k2.len, hl']
      refine wr_kont (same_L1 (by omega) (by omega) m1 m2 k1 k2 hl hs hr hr2 _ _ _ _ _ (R := decide (g1 = g2)) (fun hR e rr => ?_) (fun hR e rr => ?_) g1.length 0 (by omega) _ rfl)
      · rw [decide_eq_true ⟨hD, of_decide_eq_true hR⟩]
        simp (implicitDefEqProofs := false) (disch := omega) only [W2, opds, Nat.testBit, Nat.reduceAdd, Nat.reduceShiftRight, Nat.reduceAnd, Nat.reduceBNe, Nat.reduceMul]
      · rw [decide_eq_false (p := D1 = D2 ∧ g1 = g2) fun h => of_decide_eq_false hR h.2]
        simp (implicitDefEqProofs := false) (disch := omega) only [W2, opds, Nat.testBit, Nat.reduceAdd, Nat.reduceShiftRight, Nat.reduceAnd, Nat.reduceBNe, Nat.reduceMul]
    · have hl' : ¬ ((g1.length : Nat) : Int) = ((g2.length : Nat) : Int) := by omega
      rw [decide_eq_false (p := D1 = D2 ∧ g1 = g2) fun h => hl (by rw [h.2])]
      simp (implicitDefEqProofs := false) (disch := omega) only [W2, opds, Nat.testBit, Nat.reduceAdd, Nat.reduceShiftRight, Nat.reduceAnd, Nat.reduceBNe, Nat.reduceMul, m1, m2, decide_eq_true hD, k1.len, k2.len, decide_eq_false hl']
  · rw [decide_eq_false (p := D1 = D2 ∧ g1 = g2) fun h => hD h.1]
    simp (implicitDefEqProofs := false) (disch := omega) only [W2, opds, Nat.testBit, Nat.reduceAdd, Nat.reduceShiftRight, Nat.reduceAnd, Nat.reduceBNe, Nat.reduceMul, m1, m2, decide_eq_false hD]
end Go.Am.C07
namespace Go.Am.C07
open Go Go.Am
variable {E : Nat → Option AFn} {Y : Nat → List Value → FM → Nat → OR FM}
structure ArR (E : Nat → Option AFn) (Y : Nat → List Value → FM → Nat → OR FM) (q : Nat) (A T : Tab) : Prop where
  add : ∀ a b, a < q → b < q → ∀ m n, Pure (callW PG E Y 40 [.int .i64 (q : Int), .int .i64 (a : Int), .int .i64 (b : Int)] m n) m n (.int .i64 (tget A a b))
  mul : ∀ a b, a < q → b < q → ∀ m n, Pure (callW PG E Y 41 [.int .i64 (q : Int), .int .i64 (a : Int), .int .i64 (b : Int)] m n) m n (.int .i64 (tget T a b))
theorem rp_L0 {q : Nat} {A T : Tab} (hg : GoodT q A T) (hR : ArR E Y q A T) {M' : FM} {N' k1 : Nat} {lv : Value} {ps : List P3} (hA : SlZ 3 M' k1 N' lv ps.length (ptCells ps)) {i k : Nat} {l r : P3} (hi : ps[i]? = some l) (hk : ps[k]? = some r) (hl : l.lt q) (hr : r.lt q)
    (y2 y3 y4 y5 y6 y8 y9 y10 y11 y13 y14 y16 : Value) (ys : List Value) {K : List Frm} {w0 : Nat} {Q : AX → List Value → FM → Nat → Nat → Prop}
    (hQ : ∀ y1, Wr PG E Y K w0 (.ok (.exit 4) (.int .i64 (dotP A T l r : Int) :: y1 :: y2 :: y3 :: y4 :: y5 :: y6 :: .int .i64 (k : Int) :: y8 :: y9 :: y10 :: y11 :: .int .i64 (i : Int) :: y13 :: y14 :: lv :: y16 :: .int .i64 (q : Int) :: ys) M' N' 0 0) Q) :
    Wr PG E Y K w0 (execW PG E Y ac29L0 (.int .i64 0 :: .int .i64 0 :: y2 :: y3 :: y4 :: y5 :: y6 :: .int .i64 (k : Int) :: y8 :: y9 :: y10 :: y11 :: .int .i64 (i : Int) :: y13 :: y14 :: lv :: y16 :: .int .i64 (q : Int) :: ys) M' N') Q := by
  obtain ⟨hil, hie⟩ := List.getElem?_eq_some_iff.1 hi
  obtain ⟨hkl, hke⟩ := List.getElem?_eq_some_iff.1 hk
  obtain ⟨b1, i1, i2, i3, i4, i5⟩ := hA.at hil
  obtain ⟨b2, j1, j2, j3, j4, j5⟩ := hA.at hkl
  have ci : ∀ c, c < 3 → cget (ptCells ps) (i * 3 + c) = l.cells[c]? := fun c hc => by rw [cget_eq, ptCells_get ps i c hc, hi]; rfl
  have ck : ∀ c, c < 3 → cget (ptCells ps) (k * 3 + c) = r.cells[c]? := fun c hc => by rw [cget_eq, ptCells_get ps k c hc, hk]; rfl
  obtain ⟨x, y, z⟩ := l
  obtain ⟨a, b, c⟩ := r
  have ci0 : cget (ptCells ps) (i * 3) = some (.int .i64 (x : Int)) := ci 0 (by omega)
  have ci1 : cget (ptCells ps) (i * 3 + 1) = some (.int .i64 (y : Int)) := ci 1 (by omega)
  have ci2 : cget (ptCells ps) (i * 3 + 2) = some (.int .i64 (z : Int)) := ci 2 (by omega)
  have ck0 : cget (ptCells ps) (k * 3) = some (.int .i64 (a : Int)) := ck 0 (by omega)
  have ck1 : cget (ptCells ps) (k * 3 + 1) = some (.int .i64 (b : Int)) := ck 1 (by omega)
  have ck2 : cget (ptCells ps) (k * 3 + 2) = some (.int .i64 (c : Int)) := ck 2 (by omega)
  obtain ⟨hx, hy, hz⟩ := hl
  obtain ⟨ha, hb, hc⟩ := hr
  simp only at hx hy hz ha hb hc
  obtain ⟨x1, x2⟩ := hg.mulE hx ha
  obtain ⟨y1, y2'⟩ := hg.mulE hy hb
  obtain ⟨z1, z2⟩ := hg.mulE hz hc
  have hq0 : 0 < q := by omega
  obtain ⟨u1, u2⟩ := hg.addE hq0 x2
  obtain ⟨v1, v2⟩ := hg.addE u2 y2'
  obtain ⟨w1, w2⟩ := hg.addE v2 z2
  have hd : dotP A T ⟨x, y, z⟩ ⟨a, b, c⟩ = addN A (addN A (addN A 0 (addN T x a)) (addN T y b)) (addN T z c) := rfl
  rw [hd] at hQ
  generalize addN A (addN A (addN A 0 (addN T x a)) (addN T y b)) (addN T z c) = t3 at *
  generalize addN A (addN A 0 (addN T x a)) (addN T y b) = t2 at *
  generalize addN A 0 (addN T x a) = t1 at *
  generalize addN T x a = e1 at *
  generalize addN T y b = e2 at *
  generalize addN T z c = e3 at *
  have i01 : (0 : Int) + 1 = 1 := rfl
  have i12 : (1 : Int) + 1 = 2 := rfl
  have i23 : (2 : Int) + 1 = 3 := rfl
  have hbl := hA.bel N' (Nat.le_refl _)
  refine wr_unroll (L := ac29L0) (b := ac29L0b) rfl ?_
  simp only [ac29L0b]
  simp (implicitDefEqProofs := false) (disch := omega) only [W2, opds, Nat.testBit, Nat.reduceAdd, Nat.reduceShiftRight, Nat.reduceAnd, Nat.reduceBNe, Nat.reduceMul, hbl, i1, i4, j1, j4, ci0, ck0]
  refine use_pureX (hR.mul _ _ hx ha _ _) fun _ => ?_
  rw [x1]
  simp (implicitDefEqProofs := false) (disch := omega) only [W2, opds, Nat.testBit, Nat.reduceAdd, Nat.reduceShiftRight, Nat.reduceAnd, Nat.reduceBNe, Nat.reduceMul]
  refine use_pureX (hR.add _ _ hq0 x2 _ _) fun _ => ?_
  rw [u1]
  simp (implicitDefEqProofs := false) (disch := omega) only [W2, opds, Nat.testBit, Nat.reduceAdd, Nat.reduceShiftRight, Nat.reduceAnd, Nat.reduceBNe, Nat.reduceMul, i01]
  refine wr_unroll (L := ac29L0) (b := ac29L0b) rfl ?_
  simp only [ac29L0b]
  simp (implicitDefEqProofs := false) (disch := omega) only [W2, opds, Nat.testBit, Nat.reduceAdd, Nat.reduceShiftRight, Nat.reduceAnd, Nat.reduceBNe, Nat.reduceMul, hbl, i1, i4, j1, j4, ci1, ck1]
  refine use_pureX (hR.mul _ _ hy hb _ _) fun _ => ?_
  rw [y1]
  simp (implicitDefEqProofs := false) (disch := omega) only [W2, opds, Nat.testBit, Nat.reduceAdd, Nat.reduceShiftRight, Nat.reduceAnd, Nat.reduceBNe, Nat.reduceMul]
  refine use_pureX (hR.add _ _ u2 y2' _ _) fun _ => ?_
  rw [v1]
  simp (implicitDefEqProofs := false) (disch := omega) only [W2, opds, Nat.testBit, Nat.reduceAdd, Nat.reduceShiftRight, Nat.reduceAnd, Nat.reduceBNe, Nat.reduceMul, i12]
  refine wr_unroll (L := ac29L0) (b := ac29L0b) rfl ?_
  simp only [ac29L0b]
  simp (implicitDefEqProofs := false) (disch := omega) only [W2, opds, Nat.testBit, Nat.reduceAdd, Nat.reduceShiftRight, Nat.reduceAnd, Nat.reduceBNe, Nat.reduceMul, hbl, i1, i4, j1, j4, ci2, ck2]
  refine use_pureX (hR.mul _ _ hz hc _ _) fun _ => ?_
  rw [z1]
  simp (implicitDefEqProofs := false) (disch := omega) only [W2, opds, Nat.testBit, Nat.reduceAdd, Nat.reduceShiftRight, Nat.reduceAnd, Nat.reduceBNe, Nat.reduceMul]
  refine use_pureX (hR.add _ _ v2 z2 _ _) fun _ => ?_
  rw [w1]
  simp (implicitDefEqProofs := false) (disch := omega) only [W2, opds, Nat.testBit, Nat.reduceAdd, Nat.reduceShiftRight, Nat.reduceAnd, Nat.reduceBNe, Nat.reduceMul, i23]
  refine wr_unroll (L := ac29L0) (b := ac29L0b) rfl ?_
  simp only [ac29L0b]
  simp (implicitDefEqProofs := false) (disch := omega) only [W2, opds, Nat.testBit, Nat.reduceAdd, Nat.reduceShiftRight, Nat.reduceAnd, Nat.reduceBNe, Nat.reduceMul]
  exact hQ _
theorem rp_L1 {q : Nat} {A T : Tab} (hg : GoodT q A T) (hR : ArR E Y q A T) {m : FM} {n1 k1 : Nat} {lv : Value} {ps : List P3} (hA : SlZ 3 m k1 n1 lv ps.length (ptCells ps)) (hpl : ps.length ≤ 100000) {i : Nat} {l : P3} (hi : ps[i]? = some l) (hps : ∀ r ∈ ps, r.lt q)
    (y2 y3 y4 y5 y7 y8 y10 : Value) (ys : List Value) {Q : AX → List Value → FM → Nat → Nat → Prop}
    (hQ : ∀ gv x1 M' N' w, n1 ≤ N' → (∀ b, b < n1 → M' b = m b) → IntZ M' n1 N' gv (lineR A T l ps 0) → (∀ j, j ≤ n1 → Nat.mod w (bit j) = 0) → Q (.exit 2) (gv :: x1 :: y2 :: y3 :: y4 :: y5 :: .int .i64 (i : Int) :: y7 :: y8 :: lv :: y10 :: .int .i64 (q : Int) :: ys) M' N' w) :
    ∀ d j, j + d = ps.length → ∀ (M' : FM) (N' w0 : Nat) (gv : Value), n1 ≤ N' → (∀ b, b < n1 → M' b = m b) → IntZ M' n1 N' gv (lineR A T l (ps.take j) 0) → (∀ j, j ≤ n1 → Nat.mod w0 (bit j) = 0) →
    Gv (execW PG E Y ac29L1 (gv :: .int .i64 (j : Int) :: y2 :: y3 :: y4 :: y5 :: .int .i64 (i : Int) :: y7 :: y8 :: lv :: y10 :: .int .i64 (q : Int) :: ys) M' N') fun X e m n w => Q X e m n (Nat.lor w0 w) := by
  intro d
  have hl := hps l (List.mem_of_getElem? hi)
  have hlen := hA.len
  induction d with
  | zero =>
    intro j hj M' N' w0 gv hN hM hZ hw
    obtain rfl : j = ps.length := by omega
    rw [List.take_length] at hZ
    refine wr_loopN (L := ac29L1) (b := ac29L1b) rfl ?_
    simp only [ac29L1b]
    simp (implicitDefEqProofs := false) (disch := omega) only [W2, opds, Nat.testBit, Nat.reduceAdd, Nat.reduceShiftRight, Nat.reduceAnd, Nat.reduceBNe, Nat.reduceMul, hlen]
    exact hQ _ _ _ _ _ hN hM hZ hw
  | succ d ih =>
    intro j hj M' N' w0 gv hN hM hZ hw
    have hjl : j < ps.length := by omega
    have ih' := ih (j + 1) (by omega)
    rw [List.take_add_one, List.getElem?_eq_getElem hjl, Option.toList_some, lineR_app, List.length_take, Nat.min_eq_left (by omega), Nat.zero_add] at ih'
    have hA' := SlZ.frame (M' := M') (N' := N') hA hN fun b _ hb => hM b hb
    have hr := hps _ (List.getElem_mem hjl)
    have hll := lineR_len A T l (ps.take j) 0
    rw [List.length_take] at hll
    have hjr : ps[j]? = some ps[j] := List.getElem?_eq_getElem hjl
    generalize ps[j] = r at *
    refine wr_loopN (L := ac29L1) (b := ac29L1b) rfl ?_
    simp only [ac29L1b]
    simp (implicitDefEqProofs := false) (disch := omega) only [W2, opds, Nat.testBit, Nat.reduceAdd, Nat.reduceShiftRight, Nat.reduceAnd, Nat.reduceBNe, Nat.reduceMul, hlen]
    refine rp_L0 hg hR hA' hi hjr hl hr _ _ _ _ _ _ _ _ _ _ _ _ _ fun y1 => ?_
    by_cases h0 : dotP A T l r = 0
    · rw [if_pos h0] at ih'
      simp (implicitDefEqProofs := false) (disch := omega) only [W2, opds, Nat.testBit, Nat.reduceAdd, Nat.reduceShiftRight, Nat.reduceAnd, Nat.reduceBNe, Nat.reduceMul, h0]
      refine use_rt (app_intZ (IntZ.frame hZ (by omega) fun b _ hb => by rw [fput_ne _ _ _ _ (by omega)]) (j : Int) (some ⟨N', 0, none⟩) 1 (bit N') (by omega) (by omega)) fun v5 M5 N5 r5 w5 ⟨e5, z5, l5, f5⟩ => ?_
      subst e5
      simp (implicitDefEqProofs := false) (disch := omega) only [W2, opds, Nat.testBit, Nat.reduceAdd, Nat.reduceShiftRight, Nat.reduceAnd, Nat.reduceBNe, Nat.reduceMul]
      refine wr_end (ih' _ (N' + 2) (Nat.lor w0 (Nat.lor (bit N') w5)) v5 (by omega) (fun b hb => by rw [l5 b hb, fput_ne _ _ _ _ (by omega)]; exact hM b hb) z5 (fun j hj => by simp only [frz_iff]; exact ⟨hw j hj, frz_bit (by omega), f5 j hj⟩)) fun X e m n w hq => ?_
      rw [← lor_assoc']; exact hq
    · rw [if_neg h0, List.append_nil] at ih'
      have h0' : ¬ ((dotP A T l r : Nat) : Int) = 0 := by omega
      simp (implicitDefEqProofs := false) (disch := omega) only [W2, opds, Nat.testBit, Nat.reduceAdd, Nat.reduceShiftRight, Nat.reduceAnd, Nat.reduceBNe, Nat.reduceMul, decide_eq_false h0']
      exact wr_end (ih' M' N' w0 gv hN hM hZ hw) fun X e m n w hq => by simpa only [zero_lor'] using hq
theorem rp_L2 {q : Nat} {A T : Tab} (hg : GoodT q A T) (hR : ArR E Y q A T) {m : FM} {nf n1 db k1 : Nat} {D : Int} {lv : Value} {ps : List P3} (hA : SlZ 3 m k1 nf lv ps.length (ptCells ps)) (hnf : nf ≤ db) (hdb : db < n1) (hpl : ps.length ≤ 100000) (hps : ∀ r ∈ ps, r.lt q)
    (y1 y4 : Value) (ys : List Value) {Q : AX → List Value → FM → Nat → Nat → Prop}
    (hQ : ∀ M' N' w, PrS m n1 db D M' N' (projR A T ps) → (∀ j, j ≤ nf → Nat.mod w (bit j) = 0) → Q (.exit 0) (y1 :: .pointer (some ⟨db, 0, none⟩) :: lv :: y4 :: .int .i64 (q : Int) :: ys) M' N' w) :
    ∀ d j, j + d = ps.length → ∀ (M' : FM) (N' w0 : Nat), PrS m n1 db D M' N' (projR A T ps |>.take j) → (∀ j, j ≤ nf → Nat.mod w0 (bit j) = 0) →
    Gv (execW PG E Y ac29L2 (.int .i64 (j : Int) :: y1 :: .pointer (some ⟨db, 0, none⟩) :: lv :: y4 :: .int .i64 (q : Int) :: ys) M' N') fun X e m n w => Q X e m n (Nat.lor w0 w) := by
  intro d
  have hlen := hA.len
  induction d with
  | zero =>
    intro j hj M' N' w0 hP hw
    refine wr_loopN (L := ac29L2) (b := ac29L2b) rfl ?_
    simp only [ac29L2b]
    have hpl2 : (projR A T ps).length = ps.length := List.length_map ..
    rw [show j = ps.length by omega, ← hpl2, List.take_length] at hP
    simp (implicitDefEqProofs := false) (disch := omega) only [W2, opds, Nat.testBit, Nat.reduceAdd, Nat.reduceShiftRight, Nat.reduceAnd, Nat.reduceBNe, Nat.reduceMul, hlen]
    exact hQ _ _ _ hP hw
  | succ d ih =>
    intro j hj M' N' w0 hP hw
    refine wr_loopN (L := ac29L2) (b := ac29L2b) rfl ?_
    simp only [ac29L2b]
    have hjl : j < ps.length := by omega
    obtain ⟨le, low, rv, d1, d2⟩ := hP
    have hA' := SlZ.frame (M' := M') (N' := N') hA (by omega) fun b _ hb => low b (by omega) (by omega)
    have hps2 : (projR A T ps).take (j + 1) = (projR A T ps).take j ++ [lineR A T ps[j] ps 0] := by
      rw [List.take_add_one, projR, List.getElem?_map, List.getElem?_eq_getElem hjl]; rfl
    have ih' := ih (j + 1) (by omega)
    rw [hps2] at ih'
    have htl : ((projR A T ps).take j).length ≤ 100000 := by rw [List.length_take]; omega
    have hjr : ps[j]? = some ps[j] := List.getElem?_eq_getElem hjl
    generalize (projR A T ps).take j = gs at *
    generalize ps[j] = l at *
    simp (implicitDefEqProofs := false) (disch := omega) only [W2, opds, Nat.testBit, Nat.reduceAdd, Nat.reduceShiftRight, Nat.reduceAnd, Nat.reduceBNe, Nat.reduceMul, hlen]
    refine wr_kont (rp_L1 hg hR hA' hpl hjr hps _ _ _ _ _ _ _ _ (fun gv x1 M2 N2 w2 n2 m2 z2 f2 rr => ?_) ps.length 0 (by omega) M' N' 0 _ (Nat.le_refl _) (fun _ _ => rfl) (IntZ.nil _ _ _) (fun _ _ => Nat.zero_mod _))
    have d1' : M2 db = some (.cells [.int .i64 D, rv] 0 false true) := by rw [m2 db (by omega)]; exact d1
    have hgc : gv.cells.toList = [gv] := by rcases z2 with ⟨_, _, rfl⟩ | ⟨_, _, b, rfl, _⟩ <;> rfl
    have hgo : Am.one gv = true := SlZ.one z2
    simp (implicitDefEqProofs := false) (disch := omega) only [W2, opds, Nat.testBit, Nat.reduceAdd, Nat.reduceShiftRight, Nat.reduceAnd, Nat.reduceBNe, Nat.reduceMul, d1', hgo, hgc]
    refine use_rt (app_rowsZ (n0 := n1) (n1 := N') (gs := gs) (g := lineR A T l ps 0) (RowsZ.frame d2 (Nat.le_refl _) fun b h1 h2 => by rw [fput_ne _ _ _ _ (by omega), m2 b (by omega)]) (IntZ.frame (SlZ.low z2 (by omega)) (by omega) fun b _ hb => by rw [fput_ne _ _ _ _ (by omega)]) (by omega) (by omega) (some ⟨N2, 0, none⟩) 1 (bit N2) (by omega)) fun v5 M5 N5 r5 w5 hA => ?_
    obtain ⟨av, an, as5, al, aw⟩ := hA
    subst an
    subst av
    have d5 : M5 db = some (.cells [.int .i64 D, rv] 0 false true) := by rw [al db hdb, fput_ne _ _ _ _ (by omega)]; exact d1'
    simp (implicitDefEqProofs := false) (disch := omega) only [W2, opds, Nat.testBit, Nat.reduceAdd, Nat.reduceShiftRight, Nat.reduceAnd, Nat.reduceBNe, Nat.reduceMul, d5]
    refine wr_end (ih' _ (N2 + 2) (Nat.lor w0 (Nat.lor w2 (Nat.lor (Nat.lor (bit N2) w5) (bit db)))) ⟨by omega, fun b h1 h2 => by rw [fput_ne _ _ _ _ h2, al b h1, fput_ne _ _ _ _ (by omega), m2 b (by omega)]; exact low b h1 h2, ⟨_, fput_same _ _ _, RowsZ.frame as5 (Nat.le_refl _) fun b h1 _ => fput_ne _ _ _ _ (by omega)⟩⟩ (fun j hj => by
      simp only [frz_iff]
      exact ⟨hw j hj, f2 j (by omega), ⟨frz_bit (by omega), aw j (by omega)⟩, frz_bit (by omega)⟩)) fun X e m n w hq => ?_
    rw [← lor_assoc']; exact hq
theorem refProj_spec (hE : E 29 = some ac29) {q : Nat} {A T : Tab} (hg : GoodT q A T) (hR : ArR E Y q A T) {ps : List P3} (hpl : ps.length ≤ 100000) (hp0 : 0 < ps.length) (hps : ∀ r ∈ ps, r.lt q) (m : FM) (n : Nat) (hC : ∀ m n, Rt (callW PG E Y 39 [.int .i64 (q : Int)] m n) (Kpt m n fun v M' N' => SlZ 3 M' n N' v ps.length (ptCells ps))) :
    Rt (callW PG E Y 29 [.int .i64 (q : Int)] m n) (Kpt m n fun v M' N' => DesV M' n N' v (ps.length : Int) (projR A T ps)) := by
  refine kept_specQ hE rfl fun Q hQ => ?_
  simp only [ac29]
  simp (implicitDefEqProofs := false) (disch := omega) only [W2, opds, Nat.testBit, Nat.reduceAdd, Nat.reduceShiftRight, Nat.reduceAnd, Nat.reduceBNe, Nat.reduceMul]
  refine use_rt (hC _ _) fun v M1 N1 r1 w1 ⟨n1, m1, f1, hA⟩ => ?_
  have hlen := hA.len
  simp (implicitDefEqProofs := false) (disch := omega) only [W2, opds, Nat.testBit, Nat.reduceAdd, Nat.reduceShiftRight, Nat.reduceAnd, Nat.reduceBNe, Nat.reduceMul, hlen]
  generalize hM2 : (AMem.put M1 N1 (some (.cells [.int .i64 (ps.length : Int), .slice none 0 0] 0 false true)) : FM) = M2
  have l2 : ∀ b, b < N1 → M2 b = M1 b := fun b hb => by rw [← hM2, fput_ne _ _ _ _ (by omega)]
  have d2 : M2 N1 = some (.cells [.int .i64 (ps.length : Int), .slice none 0 0] 0 false true) := by rw [← hM2]; exact fput_same _ _ _
  have hm1 : M1 n = some (.cells [.int .i64 0, .slice none 0 0] 0 false true) := (m1 n (by omega)).trans (fput_same _ _ _)
  have fzn := f1 n (by omega)
  have fza : Nat.mod (bit N1) (bit n) = 0 := frz_bit (by omega)
  have fzb : Nat.mod (bit n) (bit n) = 0 := frz_bit (Nat.le_refl _)
  refine wr_kont (rp_L2 hg hR (m := M2) (nf := N1) (n1 := N1 + 1) (db := N1) (D := (ps.length : Int)) (SlZ.frame hA (Nat.le_refl _) fun b _ hb => l2 b hb) (Nat.le_refl _) (Nat.lt_succ_self _) hpl hps _ _ _ (fun M3 N3 w3 hP f3 rr => ?_) ps.length 0 (by omega) M2 (N1 + 1) 0 ⟨Nat.le_refl _, fun _ _ _ => rfl, ⟨_, d2, RowsZ.nil _ _ _⟩⟩ (fun _ _ => Nat.zero_mod _))
  obtain ⟨le3, low3, rv, e3, g3⟩ := hP
  have hm3 : M3 n = some (.cells [.int .i64 0, .slice none 0 0] 0 false true) := by rw [low3 n (by omega) (by omega), l2 n (by omega)]; exact hm1
  have hrb : Am.one rv = true := g3.one
  have hpl2 : (projR A T ps).length = ps.length := List.length_map ..
  have ha : addrFree (.agg #[.int .i64 (ps.length : Int), rv]) = false := by
    rcases g3 with ⟨h, e⟩ | ⟨h, vs, b, rfl, _⟩
    · rw [h] at hpl2
      exact absurd hpl2 (by show ¬ 0 = _; omega)
    · rfl
  have fz3 := f3 n (by omega)
  simp (implicitDefEqProofs := false) (disch := omega) only [W2, opds, Nat.testBit, Nat.reduceAdd, Nat.reduceShiftRight, Nat.reduceAnd, Nat.reduceBNe, Nat.reduceMul, e3, hm3, hrb]
  refine hQ _ _ _ _ _ (by omega) (fun b hb => by rw [fput_ne _ _ _ _ (by omega), low3 b (by omega) (by omega), l2 b (by omega), m1 b (by omega), fput_ne _ _ _ _ (by omega)]) ?_ (by rw [ha]) ⟨rv, rfl, RowsZ.low (RowsZ.frame g3 (Nat.le_refl _) fun b h1 _ => fput_ne _ _ _ _ (by omega)) (by omega)⟩
  simp only [frz_iff]
  exact ⟨⟨⟨⟨fzb, fzn⟩, fza, fza⟩, fz3⟩, fzb⟩
end Go.Am.C07
namespace Go.Am.C07
open Go Go.Am
variable {E : Nat → Option AFn} {Y : Nat → List Value → FM → Nat → OR FM}
theorem binV_rem_nat {t a b : Nat} (hb : b ≠ 0) : binV PG .rem t (.int .i64 (a : Int)) (.int .i64 (b : Int)) = some (.int .i64 ((a % b : Nat) : Int)) := by
  show intBin .rem .i64 (a : Int) (b : Int) = _
  rw [rem_i64 (by omega), Int.tmod_eq_emod_of_nonneg (by omega)]
  rfl
def afQ (A T : Tab) (q n p : Nat) : Bool := cond (Nat.blt n (q * q)) (decide (p % q = addN A (addN T (n / q) (p / q)) (n % q))) (decide (p / q = n - q * q))
def afRow (A T : Tab) (q n j : Nat) : List Int := ((List.range j).filter (afQ A T q n)).map fun p => ((p : Nat) : Int)
theorem afRow_succ (A T : Tab) (q n j : Nat) : afRow A T q n (j + 1) = afRow A T q n j ++ (if afQ A T q n j = true then [(j : Int)] else []) := by
  unfold afRow
  rw [List.range_succ, List.filter_append, List.map_append, List.filter_cons]
  cases afQ A T q n j <;> rfl
theorem afRow_len (A T : Tab) (q n j : Nat) : (afRow A T q n j).length ≤ j := by
  unfold afRow
  rw [List.length_map]
  exact Nat.le_trans (List.length_filter_le _ _) (Nat.le_of_eq List.length_range)
def refAff (A T : Tab) (q : Nat) : List (List Int) := (List.range (q * q + q)).map fun n => afRow A T q n (q * q)
theorem binV_quo_nat {t a b : Nat} (ha : a < 1000000) (hb : b ≠ 0) : binV PG .quo t (.int .i64 (a : Int)) (.int .i64 (b : Int)) = some (.int .i64 ((a / b : Nat) : Int)) := by
  show intBin .quo .i64 (a : Int) (b : Int) = _
  rw [quo_i64 (by omega), Int.tdiv_eq_ediv_of_nonneg (by omega)]
  have h1 : (a : Int) / (b : Int) = ((a / b : Nat) : Int) := rfl
  have h2 : a / b ≤ a := Nat.div_le_self _ _
  generalize a / b = c at *
  rw [h1, wrap_i64 (by omega) (by omega)]
theorem ra_L0 {q : Nat} {A T : Tab} (hg : GoodT q A T) (hR : ArR E Y q A T) (hq2 : 2 ≤ q) (hq7 : q ≤ 7) {m : FM} {n1 n : Nat} (hn : n < q * q + q)
    (y2 y3 y4 y5 y6 y8 y9 y10 : Value) (ys : List Value) {Q : AX → List Value → FM → Nat → Nat → Prop}
    (hQ : ∀ gv x1 M' N' w, n1 ≤ N' → (∀ b, b < n1 → M' b = m b) → IntZ M' n1 N' gv (afRow A T q n (q * q)) → (∀ j, j ≤ n1 → Nat.mod w (bit j) = 0) → Q (.exit 2) (gv :: x1 :: y2 :: y3 :: y4 :: y5 :: y6 :: .int .i64 (n : Int) :: y8 :: y9 :: y10 :: .int .i64 (q : Int) :: ys) M' N' w) :
    ∀ d j, j + d = q * q → ∀ (M' : FM) (N' w0 : Nat) (gv : Value), n1 ≤ N' → (∀ b, b < n1 → M' b = m b) → IntZ M' n1 N' gv (afRow A T q n j) → (∀ j, j ≤ n1 → Nat.mod w0 (bit j) = 0) →
    Gv (execW PG E Y ac30L0 (gv :: .int .i64 (j : Int) :: y2 :: y3 :: y4 :: y5 :: y6 :: .int .i64 (n : Int) :: y8 :: y9 :: y10 :: .int .i64 (q : Int) :: ys) M' N') fun X e m n w => Q X e m n (Nat.lor w0 w) := by
  intro d
  have hqq : q * q ≤ 7 * 7 := Nat.mul_le_mul hq7 hq7
  induction d with
  | zero =>
    intro j hj M' N' w0 gv hN hM hZ hw
    obtain rfl : j = q * q := by omega
    refine wr_loopN (L := ac30L0) (b := ac30L0b) rfl ?_
    simp only [ac30L0b]
    simp (implicitDefEqProofs := false) (disch := omega) only [W2, opds, Nat.testBit, Nat.reduceAdd, Nat.reduceShiftRight, Nat.reduceAnd, Nat.reduceBNe, Nat.reduceMul]
    exact hQ _ _ _ _ _ hN hM hZ hw
  | succ d ih =>
    intro j hj M' N' w0 gv hN hM hZ hw
    have hjl : j < q * q := by omega
    have ih' := ih (j + 1) (by omega)
    rw [afRow_succ] at ih'
    have hll := afRow_len A T q n j
    have hx : j / q < q := (Nat.div_lt_iff_lt_mul (by omega)).2 hjl
    have hy : j % q < q := Nat.mod_lt _ (by omega)
    have hz : n % q < q := Nat.mod_lt _ (by omega)
    have hb1 : binV PG .quo 3 (.int .i64 (j : Int)) (.int .i64 (q : Int)) = some (.int .i64 ((j / q : Nat) : Int)) := binV_quo_nat (by omega) (by omega)
    have hb2 : binV PG .rem 3 (.int .i64 (j : Int)) (.int .i64 (q : Int)) = some (.int .i64 ((j % q : Nat) : Int)) := binV_rem_nat (by omega)
    have hb3 : binV PG .quo 3 (.int .i64 (n : Int)) (.int .i64 (q : Int)) = some (.int .i64 ((n / q : Nat) : Int)) := binV_quo_nat (by omega) (by omega)
    have hb4 : binV PG .rem 3 (.int .i64 (n : Int)) (.int .i64 (q : Int)) = some (.int .i64 ((n % q : Nat) : Int)) := binV_rem_nat (by omega)
    refine wr_loopN (L := ac30L0) (b := ac30L0b) rfl ?_
    simp only [ac30L0b]
    by_cases hc : n < q * q
    · have hw' : n / q < q := (Nat.div_lt_iff_lt_mul (by omega)).2 hc
      obtain ⟨x1, x2⟩ := hg.mulE hw' hx
      obtain ⟨u1, u2⟩ := hg.addE x2 hz
      have e1 : afQ A T q n j = decide (j % q = addN A (addN T (n / q) (j / q)) (n % q)) := by
        unfold afQ
        rw [show Nat.blt n (q * q) = true from Nat.ble_eq_true_of_le hc]; rfl
      rw [e1] at ih'
      generalize addN A (addN T (n / q) (j / q)) (n % q) = s at *
      generalize addN T (n / q) (j / q) = t at *
      generalize j / q = x at *
      generalize j % q = y at *
      generalize n / q = nx at *
      generalize n % q = nz at *
      simp (implicitDefEqProofs := false) (disch := omega) only [W2, opds, Nat.testBit, Nat.reduceAdd, Nat.reduceShiftRight, Nat.reduceAnd, Nat.reduceBNe, Nat.reduceMul, hb1, hb2, hb3, hb4]
      refine use_pureX (hR.mul _ _ hw' hx _ _) fun _ => ?_
      rw [x1]
      simp (implicitDefEqProofs := false) (disch := omega) only [W2, opds, Nat.testBit, Nat.reduceAdd, Nat.reduceShiftRight, Nat.reduceAnd, Nat.reduceBNe, Nat.reduceMul, hb4]
      refine use_pureX (hR.add _ _ x2 hz _ _) fun _ => ?_
      rw [u1]
      by_cases hs : y = s
      · rw [decide_eq_true hs, if_pos rfl] at ih'
        have hs' : (y : Int) = (s : Int) := by omega
        simp (implicitDefEqProofs := false) (disch := omega) only [W2, opds, Nat.testBit, Nat.reduceAdd, Nat.reduceShiftRight, Nat.reduceAnd, Nat.reduceBNe, Nat.reduceMul, decide_eq_true hs']
        refine use_rt (app_intZ (IntZ.frame hZ (by omega) fun b _ hb => by rw [fput_ne _ _ _ _ (by omega)]) (j : Int) (some ⟨N', 0, none⟩) 1 (bit N') (by omega) (by omega)) fun v5 M5 N5 r5 w5 ⟨e5, z5, l5, f5⟩ => ?_
        subst e5
        simp (implicitDefEqProofs := false) (disch := omega) only [W2, opds, Nat.testBit, Nat.reduceAdd, Nat.reduceShiftRight, Nat.reduceAnd, Nat.reduceBNe, Nat.reduceMul]
        refine wr_end (ih' _ (N' + 2) (Nat.lor w0 (Nat.lor (bit N') w5)) v5 (by omega) (fun b hb => by rw [l5 b hb, fput_ne _ _ _ _ (by omega)]; exact hM b hb) z5 (fun j hj => by simp only [frz_iff]; exact ⟨hw j hj, frz_bit (by omega), f5 j hj⟩)) fun X e m n w hq => ?_
        rw [← lor_assoc']; exact hq
      · rw [decide_eq_false hs, if_neg (by decide), List.append_nil] at ih'
        have hs' : ¬ (y : Int) = (s : Int) := by omega
        simp (implicitDefEqProofs := false) (disch := omega) only [W2, opds, Nat.testBit, Nat.reduceAdd, Nat.reduceShiftRight, Nat.reduceAnd, Nat.reduceBNe, Nat.reduceMul, decide_eq_false hs']
        exact wr_end (ih' M' N' w0 gv hN hM hZ hw) fun X e m n w hq => by simpa only [zero_lor'] using hq
    · have e1 : afQ A T q n j = decide (j / q = n - q * q) := by
        unfold afQ
        rw [show Nat.blt n (q * q) = false from Bool.eq_false_iff.2 fun e => hc (Nat.le_of_ble_eq_true e)]; rfl
      rw [e1] at ih'
      generalize j / q = x at *
      by_cases hs : x = n - q * q
      · rw [decide_eq_true hs, if_pos rfl] at ih'
        have hs' : (x : Int) = ((n - q * q : Nat) : Int) := by omega
        simp (implicitDefEqProofs := false) (disch := omega) only [W2, opds, Nat.testBit, Nat.reduceAdd, Nat.reduceShiftRight, Nat.reduceAnd, Nat.reduceBNe, Nat.reduceMul, hb1, hb2, decide_eq_true hs']
        refine use_rt (app_intZ (IntZ.frame hZ (by omega) fun b _ hb => by rw [fput_ne _ _ _ _ (by omega)]) (j : Int) (some ⟨N', 0, none⟩) 1 (bit N') (by omega) (by omega)) fun v5 M5 N5 r5 w5 ⟨e5, z5, l5, f5⟩ => ?_
        subst e5
        simp (implicitDefEqProofs := false) (disch := omega) only [W2, opds, Nat.testBit, Nat.reduceAdd, Nat.reduceShiftRight, Nat.reduceAnd, Nat.reduceBNe, Nat.reduceMul]
        refine wr_end (ih' _ (N' + 2) (Nat.lor w0 (Nat.lor (bit N') w5)) v5 (by omega) (fun b hb => by rw [l5 b hb, fput_ne _ _ _ _ (by omega)]; exact hM b hb) z5 (fun j hj => by simp only [frz_iff]; exact ⟨hw j hj, frz_bit (by omega), f5 j hj⟩)) fun X e m n w hq => ?_
        rw [← lor_assoc']; exact hq
      · rw [decide_eq_false hs, if_neg (by decide), List.append_nil] at ih'
        have hs' : ¬ (x : Int) = ((n - q * q : Nat) : Int) := by omega
        simp (implicitDefEqProofs := false) (disch := omega) only [W2, opds, Nat.testBit, Nat.reduceAdd, Nat.reduceShiftRight, Nat.reduceAnd, Nat.reduceBNe, Nat.reduceMul, hb1, hb2, decide_eq_false hs']
        exact wr_end (ih' M' N' w0 gv hN hM hZ hw) fun X e m n w hq => by simpa only [zero_lor'] using hq
theorem ra_L1 {q : Nat} {A T : Tab} (hg : GoodT q A T) (hR : ArR E Y q A T) (hq2 : 2 ≤ q) (hq7 : q ≤ 7) {m : FM} {n1 db : Nat} {D : Int} (hdb : db < n1)
    (y1 y3 : Value) (ys : List Value) {Q : AX → List Value → FM → Nat → Nat → Prop}
    (hQ : ∀ M' N' w, PrS m n1 db D M' N' (refAff A T q) → (∀ j, j ≤ db → Nat.mod w (bit j) = 0) → Q (.exit 0) (y1 :: .pointer (some ⟨db, 0, none⟩) :: y3 :: .int .i64 (q : Int) :: ys) M' N' w) :
    ∀ d j, j + d = q * q + q → ∀ (M' : FM) (N' w0 : Nat), PrS m n1 db D M' N' (refAff A T q |>.take j) → (∀ j, j ≤ db → Nat.mod w0 (bit j) = 0) →
    Gv (execW PG E Y ac30L1 (.int .i64 (j : Int) :: y1 :: .pointer (some ⟨db, 0, none⟩) :: y3 :: .int .i64 (q : Int) :: ys) M' N') fun X e m n w => Q X e m n (Nat.lor w0 w) := by
  intro d
  have hqq : q * q ≤ 7 * 7 := Nat.mul_le_mul hq7 hq7
  have hln : (refAff A T q).length = q * q + q := by rw [refAff, List.length_map, List.length_range]
  induction d with
  | zero =>
    intro j hj M' N' w0 hP hw
    refine wr_loopN (L := ac30L1) (b := ac30L1b) rfl ?_
    simp only [ac30L1b]
    rw [show j = q * q + q by omega, ← hln, List.take_length] at hP
    simp (implicitDefEqProofs := false) (disch := omega) only [W2, opds, Nat.testBit, Nat.reduceAdd, Nat.reduceShiftRight, Nat.reduceAnd, Nat.reduceBNe, Nat.reduceMul]
    exact hQ _ _ _ hP hw
  | succ d ih =>
    intro j hj M' N' w0 hP hw
    refine wr_loopN (L := ac30L1) (b := ac30L1b) rfl ?_
    simp only [ac30L1b]
    obtain ⟨le, low, rv, d1, d2⟩ := hP
    have hjl : j < q * q + q := by omega
    have hps2 : (refAff A T q).take (j + 1) = (refAff A T q).take j ++ [afRow A T q j (q * q)] := by
      rw [List.take_add_one, refAff, List.getElem?_map, List.getElem?_range hjl]; rfl
    have ih' := ih (j + 1) (by omega)
    rw [hps2] at ih'
    have htl : ((refAff A T q).take j).length ≤ 100000 := by rw [List.length_take]; omega
    generalize (refAff A T q).take j = gs at *
    simp (implicitDefEqProofs := false) (disch := omega) only [W2, opds, Nat.testBit, Nat.reduceAdd, Nat.reduceShiftRight, Nat.reduceAnd, Nat.reduceBNe, Nat.reduceMul]
    refine wr_kont (ra_L0 hg hR hq2 hq7 (m := M') (n1 := N') hjl _ _ _ _ _ _ _ _ _ (fun gv x1 M2 N2 w2 n2 m2 z2 f2 rr => ?_) (q * q) 0 (by omega) M' N' 0 _ (Nat.le_refl _) (fun _ _ => rfl) (IntZ.nil _ _ _) (fun _ _ => Nat.zero_mod _))
    have d1' : M2 db = some (.cells [.int .i64 D, rv] 0 false true) := by rw [m2 db (by omega)]; exact d1
    have hgc : gv.cells.toList = [gv] := by rcases z2 with ⟨_, _, rfl⟩ | ⟨_, _, b, rfl, _⟩ <;> rfl
    have hgo : Am.one gv = true := SlZ.one z2
    simp (implicitDefEqProofs := false) (disch := omega) only [W2, opds, Nat.testBit, Nat.reduceAdd, Nat.reduceShiftRight, Nat.reduceAnd, Nat.reduceBNe, Nat.reduceMul, d1', hgo, hgc]
    refine use_rt (app_rowsZ (n0 := n1) (n1 := N') (gs := gs) (g := afRow A T q j (q * q)) (RowsZ.frame d2 (Nat.le_refl _) fun b h1 h2 => by rw [fput_ne _ _ _ _ (by omega), m2 b (by omega)]) (IntZ.frame (SlZ.low z2 (by omega)) (by omega) fun b _ hb => by rw [fput_ne _ _ _ _ (by omega)]) (by omega) (by omega) (some ⟨N2, 0, none⟩) 1 (bit N2) (by omega)) fun v5 M5 N5 r5 w5 hA => ?_
    obtain ⟨av, an, as5, al, aw⟩ := hA
    subst an
    subst av
    have d5 : M5 db = some (.cells [.int .i64 D, rv] 0 false true) := by rw [al db hdb, fput_ne _ _ _ _ (by omega)]; exact d1'
    simp (implicitDefEqProofs := false) (disch := omega) only [W2, opds, Nat.testBit, Nat.reduceAdd, Nat.reduceShiftRight, Nat.reduceAnd, Nat.reduceBNe, Nat.reduceMul, d5]
    refine wr_end (ih' _ (N2 + 2) (Nat.lor w0 (Nat.lor w2 (Nat.lor (Nat.lor (bit N2) w5) (bit db)))) ⟨by omega, fun b h1 h2 => by rw [fput_ne _ _ _ _ h2, al b h1, fput_ne _ _ _ _ (by omega), m2 b (by omega)]; exact low b h1 h2, ⟨_, fput_same _ _ _, RowsZ.frame as5 (Nat.le_refl _) fun b h1 _ => fput_ne _ _ _ _ (by omega)⟩⟩ (fun j hj => by
      simp only [frz_iff]
      exact ⟨hw j hj, f2 j (by omega), ⟨frz_bit (by omega), aw j (by omega)⟩, frz_bit (by omega)⟩)) fun X e m n w hq => ?_
    rw [← lor_assoc']; exact hq
theorem refAff_spec (hE : E 30 = some ac30) {q : Nat} {A T : Tab} (hg : GoodT q A T) (hR : ArR E Y q A T) (hq2 : 2 ≤ q) (hq7 : q ≤ 7) (m : FM) (n : Nat) :
    Rt (callW PG E Y 30 [.int .i64 (q : Int)] m n) (Kpt m n fun v M' N' => DesV M' n N' v ((q * q : Nat) : Int) (refAff A T q)) := by
  refine kept_specQ hE rfl fun Q hQ => ?_
  simp only [ac30]
  have hqq : q * q ≤ 7 * 7 := Nat.mul_le_mul hq7 hq7
  simp (implicitDefEqProofs := false) (disch := omega) only [W2, opds, Nat.testBit, Nat.reduceAdd, Nat.reduceShiftRight, Nat.reduceAnd, Nat.reduceBNe, Nat.reduceMul]
  generalize hM2 : (AMem.put (AMem.put m n (some (.cells [.int .i64 0, .slice none 0 0] 0 false true))) (n + 1) (some (.cells [.int .i64 ((q * q : Nat) : Int), .slice none 0 0] 0 false true)) : FM) = M2
  have l2 : ∀ b, b < n → M2 b = m b := fun b hb => by rw [← hM2, fput_ne _ _ _ _ (by omega), fput_ne _ _ _ _ (by omega)]
  have d2 : M2 (n + 1) = some (.cells [.int .i64 ((q * q : Nat) : Int), .slice none 0 0] 0 false true) := by rw [← hM2]; exact fput_same _ _ _
  have hm1 : M2 n = some (.cells [.int .i64 0, .slice none 0 0] 0 false true) := by rw [← hM2, fput_ne _ _ _ _ (by omega)]; exact fput_same _ _ _
  have fza : Nat.mod (bit (n + 1)) (bit n) = 0 := frz_bit (by omega)
  have fzb : Nat.mod (bit n) (bit n) = 0 := frz_bit (Nat.le_refl _)
  refine wr_kont (ra_L1 hg hR hq2 hq7 (m := M2) (n1 := n + 2) (db := n + 1) (D := ((q * q : Nat) : Int)) (Nat.lt_succ_self _) _ _ _ (fun M3 N3 w3 hP f3 rr => ?_) (q * q + q) 0 (by omega) M2 (n + 2) 0 ⟨Nat.le_refl _, fun _ _ _ => rfl, ⟨_, d2, RowsZ.nil _ _ _⟩⟩ (fun _ _ => Nat.zero_mod _))
  obtain ⟨le3, low3, rv, e3, g3⟩ := hP
  have hm3 : M3 n = some (.cells [.int .i64 0, .slice none 0 0] 0 false true) := by rw [low3 n (by omega) (by omega)]; exact hm1
  have hrb : Am.one rv = true := g3.one
  have ha : addrFree (.agg #[.int .i64 ((q * q : Nat) : Int), rv]) = false := by
    rcases g3 with ⟨h, e⟩ | ⟨h, vs, b, rfl, _⟩
    · have hln : (refAff A T q).length = q * q + q := by rw [refAff, List.length_map, List.length_range]
      rw [h] at hln
      exact absurd hln (by show ¬ 0 = _; omega)
    · rfl
  have fz3 := f3 n (by omega)
  simp (implicitDefEqProofs := false) (disch := omega) only [W2, opds, Nat.testBit, Nat.reduceAdd, Nat.reduceShiftRight, Nat.reduceAnd, Nat.reduceBNe, Nat.reduceMul, e3, hm3, hrb]
  refine hQ _ _ _ _ _ (by omega) (fun b hb => by rw [fput_ne _ _ _ _ (by omega), low3 b (by omega) (by omega), l2 b (by omega)]) ?_ (by rw [ha]) ⟨rv, rfl, RowsZ.low (RowsZ.frame g3 (Nat.le_refl _) fun b h1 _ => fput_ne _ _ _ _ (by omega)) (by omega)⟩
  simp only [frz_iff, fza, fzb, fz3, and_self]
end Go.Am.C07
namespace Go.Am.C07
open Go Go.Am Go.Am.V Go.RowKit
set_option maxRecDepth 1000000
theorem alt_miss {a b : Nat → List Value → FM → Nat → OR FM} {f : Nat} {args : List Value} {m : FM} {n : Nat} (h : a f args m n = .no) : altA a b f args m n = b f args m n := by
  unfold altA; rw [h]
theorem alt_hit {a b : Nat → List Value → FM → Nat → OR FM} {f : Nat} {args : List Value} {m : FM} {n : Nat} {v : Value} {m' : FM} {n' r w : Nat} (h : a f args m n = .ok v m' n' r w) : altA a b f args m n = .ok v m' n' r w := by
  unfold altA; rw [h]
theorem memo_miss {M : Memo} {f : Nat} {args : List Value} (h : (Nat.beq f M.f && veqL args M.args) = false) (m : FM) (n : Nat) : memoA M f args m n = .no := by
  unfold memoA; rw [h]; rfl
inductive Size : Nat → Tab → Tab → Prop
  | s2 : Size 2 A2 T2
  | s3 : Size 3 A3 T3
  | s4 : Size 4 A4 T4
  | s5 : Size 5 A5 T5
  | s7 : Size 7 A7 T7
  | s8 : Size 8 A8 T8
  | s9 : Size 9 A9 T9
theorem Size.good {q : Nat} {A T : Tab} (h : Size q A T) : GoodT q A T := by
  cases h
  · exact goodT2
  · exact goodT3
  · exact goodT4
  · exact goodT5
  · exact goodT7
  · exact goodT8
  · exact goodT9
abbrev NewR (E : Nat → Option AFn) (Y : Nat → List Value → FM → Nat → OR FM) (q : Nat) (A T : Tab) : Prop := ∀ m n, Rt (callW PG E Y 36 [.int .i64 (q : Int)] m n) (Kpt m n fun v M' N' => ∃ pv, v = .tuple #[pv, .int .i64 0] ∧ FieldM M' N' pv q A T)
theorem newR_of {E : Nat → Option AFn} {Y : Nat → List Value → FM → Nat → OR FM} {q p : Nat} {A T : Tab} {pi : List Nat} (hE : E 36 = none) (hA : square A q) (hT : square T q) (h : ∀ m n v m' n' r w, memoA (fM q p A T pi) 36 [.int .i64 (q : Int)] m n = .ok v m' n' r w → Y 36 [.int .i64 (q : Int)] m n = .ok v m' n' r w) : NewR E Y q A T := fun m n => by
  obtain ⟨m', w, h1, h2, h3, h4⟩ := fM_spec (p := p) (pi := pi) hA hT m n
  rw [callW_Y hE, h _ _ _ _ _ _ _ h1]
  exact ⟨by omega, h2, h3, _, rfl, h4⟩
theorem errA_no {q : Nat} (h : notIn (q : Int) = false) (m : FM) (n : Nat) : errA 36 [.int .i64 (q : Int)] m n = .no := by
  show cond (Nat.beq 36 36 && notIn (q : Int)) _ _ = _
  rw [h]; rfl
def arT : Nat → Nat → Option Tab
  | 40, 2 => some A2
  | 41, 2 => some T2
  | 40, 3 => some A3
  | 41, 3 => some T3
  | 40, 4 => some A4
  | 41, 4 => some T4
  | 40, 5 => some A5
  | 41, 5 => some T5
  | 40, 7 => some A7
  | 41, 7 => some T7
  | _, _ => none
theorem arT_ok {f q : Nat} {T : Tab} (h : arT f q = some T) : arB f q T = true := by
  unfold arT at h
  split at h
  · injection h with h; subst h; exact ad2
  · injection h with h; subst h; exact mu2
  · injection h with h; subst h; exact ad3
  · injection h with h; subst h; exact mu3
  · injection h with h; subst h; exact ad4
  · injection h with h; subst h; exact mu4
  · injection h with h; subst h; exact ad5
  · injection h with h; subst h; exact mu5
  · injection h with h; subst h; exact ad7
  · injection h with h; subst h; exact mu7
  · cases h
theorem arT_f {f q : Nat} {T : Tab} (h : arT f q = some T) : f = 40 ∨ f = 41 := by
  unfold arT at h
  split at h
  · exact .inl rfl
  · exact .inr rfl
  · exact .inl rfl
  · exact .inr rfl
  · exact .inl rfl
  · exact .inr rfl
  · exact .inl rfl
  · exact .inr rfl
  · exact .inl rfl
  · exact .inr rfl
  · cases h
def arA (f : Nat) (args : List Value) (m : FM) (n : Nat) : OR FM :=
  match args with
  | [.int .i64 (.ofNat q), .int .i64 (.ofNat a), .int .i64 (.ofNat b)] =>
    match arT f q with
    | some T => cond (Nat.blt a q && Nat.blt b q) (.ok (.int .i64 (tget T a b)) m n 0 0) .no
    | none => .no
  | _ => .no
theorem arA_memo {f : Nat} {args : List Value} {m m' : FM} {n n' r w : Nat} {v : Value} (h : arA f args m n = .ok v m' n' r w) : ∃ q a b T, CallSim Proofs.Try.prog (memoA (arM f q a b T)) ∧ memoA (arM f q a b T) f args m n = .ok v m' n' r w := by
  unfold arA at h
  split at h
  · rename_i q a b
    split at h
    · rename_i T hT
      cases hc : (Nat.blt a q && Nat.blt b q)
      · rw [hc] at h; cases h
      · rw [hc] at h
        rw [Bool.and_eq_true] at hc
        refine ⟨q, a, b, T, ar_sim (arT_ok hT) (Nat.le_of_ble_eq_true hc.1) (Nat.le_of_ble_eq_true hc.2), ?_⟩
        rw [← h]
        have hv : veqL [Value.int .i64 (Int.ofNat q), Value.int .i64 (Int.ofNat a), Value.int .i64 (Int.ofNat b)] [Value.int .i64 (Int.ofNat q), Value.int .i64 (Int.ofNat a), Value.int .i64 (Int.ofNat b)] = true := by simp [veqL, veqF_int]
        have hw : newW n 0 = 0 := by show (2 ^ 0 - 1) <<< n = 0; simp
        show cond (Nat.beq f f && veqL [Value.int .i64 (Int.ofNat q), Value.int .i64 (Int.ofNat a), Value.int .i64 (Int.ofNat b)] [Value.int .i64 (Int.ofNat q), Value.int .i64 (Int.ofNat a), Value.int .i64 (Int.ofNat b)]) (OR.ok (.int .i64 (tget T a b)) m (n + 0) 0 (newW n 0)) OR.no = OR.ok (.int .i64 (tget T a b)) m n 0 0
        rw [Nat.beq_refl, hv, hw]; rfl
    · cases h
  · cases h
theorem arA_loc : CallLoc arA := fun f args m n v m' n' r wm h => by
  obtain ⟨q, a, b, T, _, h⟩ := arA_memo h
  exact memo_loc (arM f q a b T) f args m n v m' n' r wm h
theorem arA_sim : CallSim Proofs.Try.prog arA := fun f args m n v m' n' r wm h => by
  obtain ⟨q, a, b, T, hs, h⟩ := arA_memo h
  exact hs f args m n v m' n' r wm h
theorem arA_ne {f : Nat} (h7 : f ≠ 40) (h8 : f ≠ 41) (args : List Value) (m : FM) (n : Nat) : arA f args m n = .no := by
  unfold arA
  split
  · split
    · rename_i hT
      rcases arT_f hT with h | h
      · exact absurd h h7
      · exact absurd h h8
    · rfl
  · rfl
theorem arA_apart {t : List (Nat × AFn)} (h : look t 40 = none) (h2 : look t 41 = none) : V.Apart t arA := by
  intro f fn hf args m n
  exact arA_ne (fun e => by rw [e, h] at hf; cases hf) (fun e => by rw [e, h2] at hf; cases hf) args m n
abbrev c2 : Memo := coM 2 Co2 [13]
abbrev c3 : Memo := coM 3 Co3 [25]
abbrev c4 : Memo := coM 4 Co4 [41]
abbrev c5 : Memo := coM 5 Co5 [61]
abbrev c7 : Memo := coM 7 Co7 [113]
noncomputable def tabD : List (Nat × AFn) := [(3, ac3), (4, ac4), (5, ac5), (6, ac6), (7, ac7), (8, ac8), (9, ac9), (10, ac10), (12, ac12), (13, ac13), (14, ac14), (15, ac15), (16, ac16), (17, ac17), (18, ac18), (19, ac19), (20, ac20), (21, ac21), (22, ac22), (23, ac23), (24, ac24), (25, ac25), (26, ac26), (27, ac27), (28, ac28), (29, ac29), (30, ac30), (31, ac31), (33, ac33), (34, ac34), (35, ac35), (37, ac37), (38, ac38), (42, ac42), (43, ac43), (44, ac44), (45, ac45), (46, ac46), (47, ac47), (48, ac48), (49, ac49), (50, ac50), (51, ac51), (52, ac52), (53, ac53), (54, ac54), (55, ac55), (56, ac56), (57, ac57), (59, ac59), (60, ac60)]
theorem tabD_good : Good Proofs.Try.prog tabD := (.cons Proofs.Try.func3 chk3 (.cons Proofs.Try.func4 chk4 (.cons Proofs.Try.func5 chk5 (.cons Proofs.Try.func6 chk6 (.cons Proofs.Try.func7 chk7 (.cons Proofs.Try.func8 chk8 (.cons Proofs.Try.func9 chk9 (.cons Proofs.Try.func10 chk10 (.cons Proofs.Try.func12 chk12 (.cons Proofs.Try.func13 chk13 (.cons Proofs.Try.func14 chk14 (.cons Proofs.Try.func15 chk15 (.cons Proofs.Try.func16 chk16 (.cons Proofs.Try.func17 chk17 (.cons Proofs.Try.func18 chk18 (.cons Proofs.Try.func19 chk19 (.cons Proofs.Try.func20 chk20 (.cons Proofs.Try.func21 chk21 (.cons Proofs.Try.func22 chk22 (.cons Proofs.Try.func23 chk23 (.cons Proofs.Try.func24 chk24 (.cons Proofs.Try.func25 chk25 (.cons Proofs.Try.func26 chk26 (.cons Proofs.Try.func27 chk27 (.cons Proofs.Try.func28 chk28 (.cons Proofs.Try.func29 chk29 (.cons Proofs.Try.func30 chk30 (.cons Proofs.Try.func31 chk31 (.cons Proofs.Try.func33 chk33 (.cons Proofs.Try.func34 chk34 (.cons Proofs.Try.func35 chk35 (.cons Proofs.Try.func37 chk37 (.cons Proofs.Try.func38 chk38 (.cons Proofs.Try.func42 chk42 (.cons Proofs.Try.func43 chk43 (.cons Proofs.Try.func44 chk44 (.cons Proofs.Try.func45 chk45 (.cons Proofs.Try.func46 chk46 (.cons Proofs.Try.func47 chk47 (.cons Proofs.Try.func48 chk48 (.cons Proofs.Try.func49 chk49 (.cons Proofs.Try.func50 chk50 (.cons Proofs.Try.func51 chk51 (.cons Proofs.Try.func52 chk52 (.cons Proofs.Try.func53 chk53 (.cons Proofs.Try.func54 chk54 (.cons Proofs.Try.func55 chk55 (.cons Proofs.Try.func56 chk56 (.cons Proofs.Try.func57 chk57 (.cons Proofs.Try.func59 chk59 (.cons Proofs.Try.func60 chk60 .nil)))))))))))))))))))))))))))))))))))))))))))))))))))
def memLD : List Memo := [m2, m3, m4, m5, m7, m8, m9, c2, c3, c4, c5, c7]
theorem cplA_ne {f : Nat} (h : f ≠ 11) (args : List Value) (m : FM) (n : Nat) : cplA f args m n = .no := by
  unfold cplA
  split
  · cases hb : Nat.beq f 11
    · rfl
    · exact absurd (Nat.eq_of_beq_eq_true hb) h
  · rfl
theorem cplA_apart {t : List (Nat × AFn)} (h : look t 11 = none) : V.Apart t cplA := by
  intro f fn hf args m n
  exact cplA_ne (fun e => by rw [e, h] at hf; cases hf) args m n
noncomputable abbrev YD : Nat → List Value → FM → Nat → OR FM := altA cplA (altA arA (altA errA (memosA memLD Y5)))
theorem envD : Env Proofs.Try.prog tabD YD noF :=
  ⟨mix, tabD_good, by kernel_rfl, alt_loc cplA_loc (alt_loc arA_loc (alt_loc errA_loc (memos_loc Y5_loc))), alt_sim cplA_sim (alt_sim arA_sim (alt_sim errA_sim (sim_memos Y5_sim (by
    intro M h
    simp only [memLD, List.mem_cons, List.not_mem_nil, or_false] at h
    rcases h with rfl | rfl | rfl | rfl | rfl | rfl | rfl | rfl | rfl | rfl | rfl | rfl
    · exact sim2
    · exact sim3
    · exact sim4
    · exact sim5
    · exact sim7
    · exact sim8
    · exact sim9
    · exact simc2
    · exact simc3
    · exact simc4
    · exact simc5
    · exact simc7)))), fun _ _ _ _ => trivial, apart_alt (cplA_apart (by kernel_rfl)) (apart_alt (arA_apart (by kernel_rfl) (by kernel_rfl)) (apart_alt (errA_apart (by kernel_rfl)) (apart_memos (apart5 (by kernel_rfl)) (by
    intro M h
    simp only [memLD, List.mem_cons, List.not_mem_nil, or_false] at h
    rcases h with rfl | rfl | rfl | rfl | rfl | rfl | rfl | rfl | rfl | rfl | rfl | rfl <;> kernel_rfl))))⟩
theorem memLD_eq : memosA memLD Y5 = altA (memoA m2) (altA (memoA m3) (altA (memoA m4) (altA (memoA m5) (altA (memoA m7) (altA (memoA m8) (altA (memoA m9) (altA (memoA c2) (altA (memoA c3) (altA (memoA c4) (altA (memoA c5) (altA (memoA c7) (Y5)))))))))))) := rfl
theorem newD2 : NewR (look tabD) YD 2 A2 T2 := newR_of (by kernel_rfl) sq2.1 sq2.2 fun m n v m' n' r w h => by
  refine (alt_miss (cplA_ne (by omega) _ m n)).trans ?_
  refine (alt_miss (arA_ne (by omega) (by omega) _ m n)).trans ?_
  refine (alt_miss (errA_no (by kernel_rfl) m n)).trans ?_
  rw [memLD_eq]
  exact alt_hit h
theorem newD3 : NewR (look tabD) YD 3 A3 T3 := newR_of (by kernel_rfl) sq3.1 sq3.2 fun m n v m' n' r w h => by
  refine (alt_miss (cplA_ne (by omega) _ m n)).trans ?_
  refine (alt_miss (arA_ne (by omega) (by omega) _ m n)).trans ?_
  refine (alt_miss (errA_no (by kernel_rfl) m n)).trans ?_
  rw [memLD_eq]
  refine (alt_miss (memo_miss (M := m2) (by kernel_rfl) m n)).trans ?_
  exact alt_hit h
theorem newD4 : NewR (look tabD) YD 4 A4 T4 := newR_of (by kernel_rfl) sq4.1 sq4.2 fun m n v m' n' r w h => by
  refine (alt_miss (cplA_ne (by omega) _ m n)).trans ?_
  refine (alt_miss (arA_ne (by omega) (by omega) _ m n)).trans ?_
  refine (alt_miss (errA_no (by kernel_rfl) m n)).trans ?_
  rw [memLD_eq]
  refine (alt_miss (memo_miss (M := m2) (by kernel_rfl) m n)).trans ?_
  refine (alt_miss (memo_miss (M := m3) (by kernel_rfl) m n)).trans ?_
  exact alt_hit h
theorem newD5 : NewR (look tabD) YD 5 A5 T5 := newR_of (by kernel_rfl) sq5.1 sq5.2 fun m n v m' n' r w h => by
  refine (alt_miss (cplA_ne (by omega) _ m n)).trans ?_
  refine (alt_miss (arA_ne (by omega) (by omega) _ m n)).trans ?_
  refine (alt_miss (errA_no (by kernel_rfl) m n)).trans ?_
  rw [memLD_eq]
  refine (alt_miss (memo_miss (M := m2) (by kernel_rfl) m n)).trans ?_
  refine (alt_miss (memo_miss (M := m3) (by kernel_rfl) m n)).trans ?_
  refine (alt_miss (memo_miss (M := m4) (by kernel_rfl) m n)).trans ?_
  exact alt_hit h
theorem newD7 : NewR (look tabD) YD 7 A7 T7 := newR_of (by kernel_rfl) sq7.1 sq7.2 fun m n v m' n' r w h => by
  refine (alt_miss (cplA_ne (by omega) _ m n)).trans ?_
  refine (alt_miss (arA_ne (by omega) (by omega) _ m n)).trans ?_
  refine (alt_miss (errA_no (by kernel_rfl) m n)).trans ?_
  rw [memLD_eq]
  refine (alt_miss (memo_miss (M := m2) (by kernel_rfl) m n)).trans ?_
  refine (alt_miss (memo_miss (M := m3) (by kernel_rfl) m n)).trans ?_
  refine (alt_miss (memo_miss (M := m4) (by kernel_rfl) m n)).trans ?_
  refine (alt_miss (memo_miss (M := m5) (by kernel_rfl) m n)).trans ?_
  exact alt_hit h
theorem newD8 : NewR (look tabD) YD 8 A8 T8 := newR_of (by kernel_rfl) sq8.1 sq8.2 fun m n v m' n' r w h => by
  refine (alt_miss (cplA_ne (by omega) _ m n)).trans ?_
  refine (alt_miss (arA_ne (by omega) (by omega) _ m n)).trans ?_
  refine (alt_miss (errA_no (by kernel_rfl) m n)).trans ?_
  rw [memLD_eq]
  refine (alt_miss (memo_miss (M := m2) (by kernel_rfl) m n)).trans ?_
  refine (alt_miss (memo_miss (M := m3) (by kernel_rfl) m n)).trans ?_
  refine (alt_miss (memo_miss (M := m4) (by kernel_rfl) m n)).trans ?_
  refine (alt_miss (memo_miss (M := m5) (by kernel_rfl) m n)).trans ?_
  refine (alt_miss (memo_miss (M := m7) (by kernel_rfl) m n)).trans ?_
  exact alt_hit h
theorem newD9 : NewR (look tabD) YD 9 A9 T9 := newR_of (by kernel_rfl) sq9.1 sq9.2 fun m n v m' n' r w h => by
  refine (alt_miss (cplA_ne (by omega) _ m n)).trans ?_
  refine (alt_miss (arA_ne (by omega) (by omega) _ m n)).trans ?_
  refine (alt_miss (errA_no (by kernel_rfl) m n)).trans ?_
  rw [memLD_eq]
  refine (alt_miss (memo_miss (M := m2) (by kernel_rfl) m n)).trans ?_
  refine (alt_miss (memo_miss (M := m3) (by kernel_rfl) m n)).trans ?_
  refine (alt_miss (memo_miss (M := m4) (by kernel_rfl) m n)).trans ?_
  refine (alt_miss (memo_miss (M := m5) (by kernel_rfl) m n)).trans ?_
  refine (alt_miss (memo_miss (M := m7) (by kernel_rfl) m n)).trans ?_
  refine (alt_miss (memo_miss (M := m8) (by kernel_rfl) m n)).trans ?_
  exact alt_hit h
theorem newD_size {q : Nat} {A T : Tab} (h : Size q A T) : NewR (look tabD) YD q A T := by
  cases h
  · exact newD2
  · exact newD3
  · exact newD4
  · exact newD5
  · exact newD7
  · exact newD8
  · exact newD9
theorem newD_err (q : Int) (h : notIn q = true) (m : FM) (n : Nat) : Pure (callW PG (look tabD) YD 36 [.int .i64 q] m n) m n (.tuple #[.pointer none, .int .i64 1]) := by
  rw [callW_Y (by kernel_rfl)]
  refine ⟨0, (alt_miss (cplA_ne (by omega) _ m n)).trans ((alt_miss (arA_ne (by omega) (by omega) _ m n)).trans (alt_hit ?_))⟩
  show cond (Nat.beq 36 36 && notIn q) (OR.ok errV m n 0 0) OR.no = _
  rw [h]; rfl
theorem arD {f q : Nat} {T : Tab} (hT : arT f q = some T) (hf : look tabD f = none) {a b : Nat} (ha : a < q) (hb : b < q) (m : FM) (n : Nat) : Pure (callW PG (look tabD) YD f [.int .i64 (q : Int), .int .i64 (a : Int), .int .i64 (b : Int)] m n) m n (.int .i64 (tget T a b)) := by
  rw [callW_Y hf]
  have hf11 : f ≠ 11 := fun e => by subst e; rcases arT_f hT with h | h <;> omega
  refine ⟨0, (alt_miss (cplA_ne hf11 _ m n)).trans (alt_hit ?_)⟩
  show (match arT f q with | some T => cond (Nat.blt a q && Nat.blt b q) (OR.ok (.int .i64 (tget T a b)) m n 0 0) .no | none => .no) = _
  rw [hT]
  show cond (Nat.blt a q && Nat.blt b q) (OR.ok (.int .i64 (tget T a b)) m n 0 0) .no = _
  rw [show Nat.blt a q = true from Nat.ble_eq_true_of_le ha, show Nat.blt b q = true from Nat.ble_eq_true_of_le hb]; rfl
theorem cells3_eq (ρ : Nat → Nat) : ∀ ps : List P3, ((cells3 ps).map (rn ρ)).map toV = ptCells ps
  | [] => rfl
  | p :: l => by
    show toV (rn ρ (.i (Int.ofNat p.x))) :: toV (rn ρ (.i (Int.ofNat p.y))) :: toV (rn ρ (.i (Int.ofNat p.z))) :: ((cells3 l).map (rn ρ)).map toV = p.cells ++ ptCells l
    rw [cells3_eq ρ l]; rfl
theorem coM_spec {q : Nat} {ps : List P3} {pi : List Nat} (hp : 0 < ps.length) (m : FM) (n : Nat) : ∃ (m' : FM) (w : Nat) (v : Value), memoA (coM q ps pi) 39 [.int .i64 (q : Int)] m n = .ok v m' (n + 1) 0 w ∧ (∀ b, b < n → m' b = m b) ∧ (∀ j, j ≤ n → Nat.mod w (bit j) = 0) ∧ SlZ 3 m' n (n + 1) v ps.length (ptCells ps) := by
  have hself : veqL [.int .i64 (q : Int)] (coM q ps pi).args = true := by
    show (veqF (.int .i64 (q : Int)) (.int .i64 (Int.ofNat q)) && true) = true
    simp [veqF]
  refine ⟨layA (fun b => n + b) (coM q ps pi).bs n m, newW n (coM q ps pi).bs.length, .slice (some ⟨n, 0, none⟩) ps.length UNK, ?_, fun b hb => ?_, fun j hj => ?_, ?_⟩
  · unfold memoA
    rw [show (coM q ps pi).f = 39 from rfl, Nat.beq_refl, hself]
    rfl
  · rw [layA_get, if_neg (by omega)]
  · apply Nat.eq_of_testBit_eq
    intro i
    rw [mod_test, newW_test, Nat.zero_testBit]
    by_cases h1 : i < j
    · have : decide (n ≤ i) = false := decide_eq_false (by omega)
      simp [this]
    · simp [h1]
  · have h0 : (layA (fun b => n + b) (coM q ps pi).bs n m) (n + 0) = some (toB (rnB (fun b => n + b) ⟨cells3 ps, 3, true, true⟩)) := by
      rw [layA_get, if_pos (by show n ≤ n + 0 ∧ n + 0 < n + 1; omega), Nat.add_sub_cancel_left]; rfl
    rw [rnB_cells] at h0
    rw [cells3_eq] at h0
    exact .inr ⟨hp, by rw [ptCells_len], n, rfl, Nat.le_refl _, Nat.lt_succ_self _, h0⟩
theorem coR_of {E : Nat → Option AFn} {Y : Nat → List Value → FM → Nat → OR FM} {q : Nat} {ps ps' : List P3} {pi : List Nat} (hE : E 39 = none) (hp : 0 < ps.length) (he : ps' = ps) (h : ∀ m n v m' n' r w, memoA (coM q ps pi) 39 [.int .i64 (q : Int)] m n = .ok v m' n' r w → Y 39 [.int .i64 (q : Int)] m n = .ok v m' n' r w) (m : FM) (n : Nat) :
    Rt (callW PG E Y 39 [.int .i64 (q : Int)] m n) (Kpt m n fun v M' N' => SlZ 3 M' n N' v ps'.length (ptCells ps')) := by
  subst he
  obtain ⟨m', w, v, h1, h2, h3, h4⟩ := coM_spec (q := q) (pi := pi) hp m n
  rw [callW_Y hE, h _ _ _ _ _ _ _ h1]
  exact ⟨by omega, h2, h3, h4⟩
variable {E : Nat → Option AFn} {Y : Nat → List Value → FM → Nat → OR FM}
structure Sm (q : Nat) (A T : Tab) : Prop where
  size : Size q A T
  le : q ≤ 7
  ge : 2 ≤ q
abbrev ptsR (q : Nat) (T : Tab) : List P3 := foldX T q 2
structure En (E : Nat → Option AFn) (Y : Nat → List Value → FM → Nat → OR FM) : Prop where
  F : Fns E
  e3 : E 3 = some ac3
  e4 : E 4 = some ac4
  e5 : E 5 = some ac5
  e6 : E 6 = some ac6
  e7 : E 7 = some ac7
  e8 : E 8 = some ac8
  e9 : E 9 = some ac9
  e10 : E 10 = some ac10
  e12 : E 12 = some ac12
  e13 : E 13 = some ac13
  e14 : E 14 = some ac14
  e15 : E 15 = some ac15
  e16 : E 16 = some ac16
  e17 : E 17 = some ac17
  e18 : E 18 = some ac18
  e19 : E 19 = some ac19
  e20 : E 20 = some ac20
  e21 : E 21 = some ac21
  e22 : E 22 = some ac22
  e23 : E 23 = some ac23
  e24 : E 24 = some ac24
  e25 : E 25 = some ac25
  e26 : E 26 = some ac26
  e27 : E 27 = some ac27
  e28 : E 28 = some ac28
  e29 : E 29 = some ac29
  e30 : E 30 = some ac30
  e31 : E 31 = some ac31
  e33 : E 33 = some ac33
  e44 : E 44 = some ac44
  e45 : E 45 = some ac45
  e46 : E 46 = some ac46
  e47 : E 47 = some ac47
  e48 : E 48 = some ac48
  e49 : E 49 = some ac49
  e51 : E 51 = some ac51
  e52 : E 52 = some ac52
  e53 : E 53 = some ac53
  e57 : E 57 = some ac57
  e59 : E 59 = some ac59
  e60 : E 60 = some ac60
  new : ∀ {q A T}, Size q A T → NewR E Y q A T
  err : ∀ q, notIn q = true → ∀ m n, Pure (callW PG E Y 36 [.int .i64 q] m n) m n (.tuple #[.pointer none, .int .i64 1])
  ar : ∀ {q A T}, Sm q A T → ArR E Y q A T
  e39 : E 39 = none
  co2 : ∀ m n v m' n' r w, memoA c2 39 [.int .i64 ((2 : Nat) : Int)] m n = .ok v m' n' r w → Y 39 [.int .i64 ((2 : Nat) : Int)] m n = .ok v m' n' r w
  co3 : ∀ m n v m' n' r w, memoA c3 39 [.int .i64 ((3 : Nat) : Int)] m n = .ok v m' n' r w → Y 39 [.int .i64 ((3 : Nat) : Int)] m n = .ok v m' n' r w
  co4 : ∀ m n v m' n' r w, memoA c4 39 [.int .i64 ((4 : Nat) : Int)] m n = .ok v m' n' r w → Y 39 [.int .i64 ((4 : Nat) : Int)] m n = .ok v m' n' r w
  co5 : ∀ m n v m' n' r w, memoA c5 39 [.int .i64 ((5 : Nat) : Int)] m n = .ok v m' n' r w → Y 39 [.int .i64 ((5 : Nat) : Int)] m n = .ok v m' n' r w
  co7 : ∀ m n v m' n' r w, memoA c7 39 [.int .i64 ((7 : Nat) : Int)] m n = .ok v m' n' r w → Y 39 [.int .i64 ((7 : Nat) : Int)] m n = .ok v m' n' r w
  e11 : E 11 = none
  cpl : ∀ D K m n v m' n' r w, cplR D K m n = .ok v m' n' r w → Y 11 [.int .i64 D, .int .i64 K] m n = .ok v m' n' r w
theorem enD : En (look tabD) YD where
  F := ⟨by kernel_rfl, by kernel_rfl, by kernel_rfl, by kernel_rfl, by kernel_rfl, by kernel_rfl, by kernel_rfl, by kernel_rfl, by kernel_rfl, by kernel_rfl⟩
  e3 := by kernel_rfl
  e4 := by kernel_rfl
  e5 := by kernel_rfl
  e6 := by kernel_rfl
  e7 := by kernel_rfl
  e8 := by kernel_rfl
  e9 := by kernel_rfl
  e10 := by kernel_rfl
  e12 := by kernel_rfl
  e13 := by kernel_rfl
  e14 := by kernel_rfl
  e15 := by kernel_rfl
  e16 := by kernel_rfl
  e17 := by kernel_rfl
  e18 := by kernel_rfl
  e19 := by kernel_rfl
  e20 := by kernel_rfl
  e21 := by kernel_rfl
  e22 := by kernel_rfl
  e23 := by kernel_rfl
  e24 := by kernel_rfl
  e25 := by kernel_rfl
  e26 := by kernel_rfl
  e27 := by kernel_rfl
  e28 := by kernel_rfl
  e29 := by kernel_rfl
  e30 := by kernel_rfl
  e31 := by kernel_rfl
  e33 := by kernel_rfl
  e44 := by kernel_rfl
  e45 := by kernel_rfl
  e46 := by kernel_rfl
  e47 := by kernel_rfl
  e48 := by kernel_rfl
  e49 := by kernel_rfl
  e51 := by kernel_rfl
  e52 := by kernel_rfl
  e53 := by kernel_rfl
  e57 := by kernel_rfl
  e59 := by kernel_rfl
  e60 := by kernel_rfl
  new := newD_size
  err := newD_err
  ar := fun {q A T} h => by
    obtain ⟨hs, h7, h2⟩ := h
    cases hs
    · exact ⟨fun a b ha hb m n => arD rfl (by kernel_rfl) ha hb m n, fun a b ha hb m n => arD rfl (by kernel_rfl) ha hb m n⟩
    · exact ⟨fun a b ha hb m n => arD rfl (by kernel_rfl) ha hb m n, fun a b ha hb m n => arD rfl (by kernel_rfl) ha hb m n⟩
    · exact ⟨fun a b ha hb m n => arD rfl (by kernel_rfl) ha hb m n, fun a b ha hb m n => arD rfl (by kernel_rfl) ha hb m n⟩
    · exact ⟨fun a b ha hb m n => arD rfl (by kernel_rfl) ha hb m n, fun a b ha hb m n => arD rfl (by kernel_rfl) ha hb m n⟩
    · exact ⟨fun a b ha hb m n => arD rfl (by kernel_rfl) ha hb m n, fun a b ha hb m n => arD rfl (by kernel_rfl) ha hb m n⟩
    · omega
    · omega
  e39 := by kernel_rfl
  co2 := fun m n v m' n' r w h => by
    refine (alt_miss (cplA_ne (by omega) _ m n)).trans ?_
    refine (alt_miss (arA_ne (by omega) (by omega) _ m n)).trans ?_
    refine (alt_miss rfl).trans ?_
    rw [memLD_eq]
    refine (alt_miss (memo_miss (M := m2) (by kernel_rfl) m n)).trans ?_
    refine (alt_miss (memo_miss (M := m3) (by kernel_rfl) m n)).trans ?_
    refine (alt_miss (memo_miss (M := m4) (by kernel_rfl) m n)).trans ?_
    refine (alt_miss (memo_miss (M := m5) (by kernel_rfl) m n)).trans ?_
    refine (alt_miss (memo_miss (M := m7) (by kernel_rfl) m n)).trans ?_
    refine (alt_miss (memo_miss (M := m8) (by kernel_rfl) m n)).trans ?_
    refine (alt_miss (memo_miss (M := m9) (by kernel_rfl) m n)).trans ?_
    exact alt_hit h
  co3 := fun m n v m' n' r w h => by
    refine (alt_miss (cplA_ne (by omega) _ m n)).trans ?_
    refine (alt_miss (arA_ne (by omega) (by omega) _ m n)).trans ?_
    refine (alt_miss rfl).trans ?_
    rw [memLD_eq]
    refine (alt_miss (memo_miss (M := m2) (by kernel_rfl) m n)).trans ?_
    refine (alt_miss (memo_miss (M := m3) (by kernel_rfl) m n)).trans ?_
    refine (alt_miss (memo_miss (M := m4) (by kernel_rfl) m n)).trans ?_
    refine (alt_miss (memo_miss (M := m5) (by kernel_rfl) m n)).trans ?_
    refine (alt_miss (memo_miss (M := m7) (by kernel_rfl) m n)).trans ?_
    refine (alt_miss (memo_miss (M := m8) (by kernel_rfl) m n)).trans ?_
    refine (alt_miss (memo_miss (M := m9) (by kernel_rfl) m n)).trans ?_
    refine (alt_miss (memo_miss (M := c2) (by kernel_rfl) m n)).trans ?_
    exact alt_hit h
  co4 := fun m n v m' n' r w h => by
    refine (alt_miss (cplA_ne (by omega) _ m n)).trans ?_
    refine (alt_miss (arA_ne (by omega) (by omega) _ m n)).trans ?_
    refine (alt_miss rfl).trans ?_
    rw [memLD_eq]
    refine (alt_miss (memo_miss (M := m2) (by kernel_rfl) m n)).trans ?_
    refine (alt_miss (memo_miss (M := m3) (by kernel_rfl) m n)).trans ?_
    refine (alt_miss (memo_miss (M := m4) (by kernel_rfl) m n)).trans ?_
    refine (alt_miss (memo_miss (M := m5) (by kernel_rfl) m n)).trans ?_
    refine (alt_miss (memo_miss (M := m7) (by kernel_rfl) m n)).trans ?_
    refine (alt_miss (memo_miss (M := m8) (by kernel_rfl) m n)).trans ?_
    refine (alt_miss (memo_miss (M := m9) (by kernel_rfl) m n)).trans ?_
    refine (alt_miss (memo_miss (M := c2) (by kernel_rfl) m n)).trans ?_
    refine (alt_miss (memo_miss (M := c3) (by kernel_rfl) m n)).trans ?_
    exact alt_hit h
  co5 := fun m n v m' n' r w h => by
    refine (alt_miss (cplA_ne (by omega) _ m n)).trans ?_
    refine (alt_miss (arA_ne (by omega) (by omega) _ m n)).trans ?_
    refine (alt_miss rfl).trans ?_
    rw [memLD_eq]
    refine (alt_miss (memo_miss (M := m2) (by kernel_rfl) m n)).trans ?_
    refine (alt_miss (memo_miss (M := m3) (by kernel_rfl) m n)).trans ?_
    refine (alt_miss (memo_miss (M := m4) (by kernel_rfl) m n)).trans ?_
    refine (alt_miss (memo_miss (M := m5) (by kernel_rfl) m n)).trans ?_
    refine (alt_miss (memo_miss (M := m7) (by kernel_rfl) m n)).trans ?_
    refine (alt_miss (memo_miss (M := m8) (by kernel_rfl) m n)).trans ?_
    refine (alt_miss (memo_miss (M := m9) (by kernel_rfl) m n)).trans ?_
    refine (alt_miss (memo_miss (M := c2) (by kernel_rfl) m n)).trans ?_
    refine (alt_miss (memo_miss (M := c3) (by kernel_rfl) m n)).trans ?_
    refine (alt_miss (memo_miss (M := c4) (by kernel_rfl) m n)).trans ?_
    exact alt_hit h
  co7 := fun m n v m' n' r w h => by
    refine (alt_miss (cplA_ne (by omega) _ m n)).trans ?_
    refine (alt_miss (arA_ne (by omega) (by omega) _ m n)).trans ?_
    refine (alt_miss rfl).trans ?_
    rw [memLD_eq]
    refine (alt_miss (memo_miss (M := m2) (by kernel_rfl) m n)).trans ?_
    refine (alt_miss (memo_miss (M := m3) (by kernel_rfl) m n)).trans ?_
    refine (alt_miss (memo_miss (M := m4) (by kernel_rfl) m n)).trans ?_
    refine (alt_miss (memo_miss (M := m5) (by kernel_rfl) m n)).trans ?_
    refine (alt_miss (memo_miss (M := m7) (by kernel_rfl) m n)).trans ?_
    refine (alt_miss (memo_miss (M := m8) (by kernel_rfl) m n)).trans ?_
    refine (alt_miss (memo_miss (M := m9) (by kernel_rfl) m n)).trans ?_
    refine (alt_miss (memo_miss (M := c2) (by kernel_rfl) m n)).trans ?_
    refine (alt_miss (memo_miss (M := c3) (by kernel_rfl) m n)).trans ?_
    refine (alt_miss (memo_miss (M := c4) (by kernel_rfl) m n)).trans ?_
    refine (alt_miss (memo_miss (M := c5) (by kernel_rfl) m n)).trans ?_
    exact alt_hit h
  e11 := by kernel_rfl
  cpl := fun D K m n v m' n' r w h => alt_hit h
end Go.Am.C07
namespace Go.Am.C07
open Go Go.Am
variable {E : Nat → Option AFn} {Y : Nat → List Value → FM → Nat → OR FM}
def primeP (q : Int) : Int := if q = 2 then 2 else if q = 3 then 3 else if q = 5 then 5 else if q = 7 then 7 else if q = 4 then 2 else if q = 8 then 2 else if q = 9 then 3 else 0
def primeN (q : Int) : Int := if q = 2 then 1 else if q = 3 then 1 else if q = 5 then 1 else if q = 7 then 1 else if q = 4 then 2 else if q = 8 then 3 else if q = 9 then 2 else 0
def wrongR (q : Int) : Int := if primeP q = 0 then 1 else if q > 7 then 7 else 0
theorem open_good (T : En E Y) {q : Nat} {A M : Tab} (h : Sm q A M) (m : FM) (n : Nat) : Rt (callW PG E Y 34 [.int .i64 (q : Int)] m n) (Kpt m n fun v M' N' => ∃ sv, v = .tuple #[sv, .int .i64 0] ∧ SpaceM M' N' sv q A M (ptsR q M)) :=
  open_spec T.F.e23 T.F.e33 T.F.e44 T.F.e45 T.F.e46 T.F.e42 T.F.e51 T.F.e31 h.ge h.le h.size.good m n (T.new h.size m n)
theorem pts_le {q : Nat} (h : q ≤ 7) (M : Tab) : (ptsR q M).length ≤ 98 := by
  have h1 := foldX_len M q 2
  have h2 : q * q ≤ 7 * 7 := Nat.mul_le_mul h h
  show (foldX M q 2).length ≤ 98
  omega
theorem proj_good (T : En E Y) {q : Nat} {A M : Tab} (h : Sm q A M) (m : FM) (n : Nat) :
    Rt (callW PG E Y 27 [.int .i64 (q : Int)] m n) (Kpt m n fun v M' N' => ∃ dv, v = .tuple #[dv, .int .i64 0] ∧ DesV M' n N' dv ((ptsR q M).length : Int) (projR A M (ptsR q M))) :=
  proj_spec T.F T.e27 h.size.good m n (by have := pts_le h.le M; omega) (open_good T h)
theorem aff_good (T : En E Y) {q : Nat} {A M : Tab} (h : Sm q A M) (m : FM) (n : Nat) :
    Rt (callW PG E Y 28 [.int .i64 (q : Int)] m n) (Kpt m n fun v M' N' => ∃ dv, v = .tuple #[dv, .int .i64 0] ∧ DesV M' n N' dv ((q * q : Nat) : Int) (affR A M q)) :=
  aff_spec T.e28 T.F.e30 T.F.e31 T.F.e42 h.le h.size.good m n (T.new h.size)
theorem cases_q (q : Int) : (∃ z A T, q = ((z : Nat) : Int) ∧ Sm z A T ∧ wrongR q = 0) ∨ (∃ z A T, q = ((z : Nat) : Int) ∧ Size z A T ∧ 8 ≤ z ∧ z ≤ 9 ∧ wrongR q = 7) ∨ (notIn q = true ∧ wrongR q = 1) := by
  by_cases h2 : q = 2
  · subst h2; exact .inl ⟨2, _, _, rfl, ⟨.s2, by omega, by omega⟩, rfl⟩
  by_cases h3 : q = 3
  · subst h3; exact .inl ⟨3, _, _, rfl, ⟨.s3, by omega, by omega⟩, rfl⟩
  by_cases h4 : q = 4
  · subst h4; exact .inl ⟨4, _, _, rfl, ⟨.s4, by omega, by omega⟩, rfl⟩
  by_cases h5 : q = 5
  · subst h5; exact .inl ⟨5, _, _, rfl, ⟨.s5, by omega, by omega⟩, rfl⟩
  by_cases h7 : q = 7
  · subst h7; exact .inl ⟨7, _, _, rfl, ⟨.s7, by omega, by omega⟩, rfl⟩
  by_cases h8 : q = 8
  · subst h8; exact .inr (.inl ⟨8, _, _, rfl, .s8, by omega, by omega, rfl⟩)
  by_cases h9 : q = 9
  · subst h9; exact .inr (.inl ⟨9, _, _, rfl, .s9, by omega, by omega, rfl⟩)
  refine .inr (.inr ⟨?_, by unfold wrongR primeP; rw [if_neg h2, if_neg h3, if_neg h5, if_neg h7, if_neg h4, if_neg h8, if_neg h9, if_pos rfl]⟩)
  cases q with
  | negSucc x => rfl
  | ofNat n =>
    match n with
    | 0 => rfl
    | 1 => rfl
    | 2 => exact absurd rfl h2
    | 3 => exact absurd rfl h3
    | 4 => exact absurd rfl h4
    | 5 => exact absurd rfl h5
    | 6 => rfl
    | 7 => exact absurd rfl h7
    | 8 => exact absurd rfl h8
    | 9 => exact absurd rfl h9
    | n + 10 => rfl
theorem open_wrong (T : En E Y) {q : Int} (h : wrongR q ≠ 0) (m : FM) (n : Nat) : Pure (callW PG E Y 34 [.int .i64 q] m n) m n (.tuple #[.pointer none, .int .i64 (wrongR q)]) := by
  rcases cases_q q with ⟨z, A, M, rfl, hs, h0⟩ | ⟨z, A, M, rfl, hs, h8, h9, hw⟩ | ⟨hn, hw⟩
  · exact absurd h0 h
  · rw [hw]; exact open_big T.F.e23 h8 h9 m n (T.new hs m n)
  · rw [hw]; exact open_bad T.F.e23 m n (T.err q hn m n)
theorem proj_wrong (T : En E Y) {q : Int} (h : wrongR q ≠ 0) (m : FM) (n : Nat) :
    Rt (callW PG E Y 27 [.int .i64 q] m n) (Kpt m n fun v M' N' => ∃ dv, v = .tuple #[dv, .int .i64 (wrongR q)] ∧ DesV M' n N' dv 0 []) :=
  proj_bad T.e27 h m n (open_wrong T h)
theorem aff_wrong (T : En E Y) {q : Int} (h : wrongR q ≠ 0) (m : FM) (n : Nat) :
    Rt (callW PG E Y 28 [.int .i64 q] m n) (Kpt m n fun v M' N' => ∃ dv, v = .tuple #[dv, .int .i64 (wrongR q)] ∧ DesV M' n N' dv 0 []) := by
  rcases cases_q q with ⟨z, A, M, rfl, hs, h0⟩ | ⟨z, A, M, rfl, hs, h8, h9, hw⟩ | ⟨hn, hw⟩
  · exact absurd h0 h
  · rw [hw]; exact aff_big T.e28 h8 h9 m n (T.new hs)
  · rw [hw]; exact aff_bad T.e28 m n (T.err q hn)
end Go.Am.C07
