/- The machine and its runs, part 6: Am21z Am21sm Am21sn Am21La Am21Lb Am21Lc AmSz Am21Ld Am21Le AmPost AmArr Am21Lf Am21Lg Am21Lh Am21Li Am21Lj. -/
import Derived.ProofKit
import Derived.OpenShut
import Derived.Test.YtaohgpgbphlblaaB5
set_option linter.unusedVariables false
set_option linter.unusedSimpArgs false
set_option linter.unusedSectionVars false
namespace Go.Am.C21
open Go Go.Am
variable {E : Nat → Option AFn} {Y : Nat → List Value → FM → Nat → OR FM}
theorem eql31 (a b c d : Int) : binV PG .eql 31 (.agg #[.int .i64 a, .int .i64 b]) (.agg #[.int .i64 c, .int .i64 d]) = some (.bool (decide (a = c ∧ b = d))) := eql_ints2 (by kernel_rfl) a b c d
theorem refHome (T : Tab E) (m : FM) (n : Nat) (disks tiles spare W r : Nat) (gv : Value) (gs : List (List Int)) (hgs : Rows m n gv gs) (hV : VN disks gs tiles spare W r) (g p : Nat) (hg : g < tiles * gs.length) (hp : p < W) :
    Pure (callW PG E Y 17 [layV disks gv tiles spare, .int .i64 g, .int .i64 p] m n) m n (.agg #[.int .i64 (homeDisk gs W g p), .int .i64 (homeBlock gs W r g p : Int)]) := by
  refine pure_spec T.e17 rfl rfl ?_
  have hb4 := hV.b4
  have hb3 := hV.b3
  have hb6 := hV.b6
  have hlen := hV.len
  have hrle := hV.rle
  have hb1 := hV.b1
  have hpos := hV.pos
  obtain ⟨hi, ha, d, hD, hd, hdd, ht, hc2, hB⟩ := vn_home hV hg hp
  obtain ⟨b1, o1, e1, p1, q1, rowv, i1, l1, m1, g1, hrow⟩ := hgs.cell hi
  obtain ⟨b2, o2, e2, p2, q2, i2, l2, m2, g2⟩ := hrow.cell ha
  have hBe : homeBlock gs W r g p = g / gs.length * r + cnt gs (g % gs.length) d := by unfold homeBlock; rw [hD]
  have hcr := hV.cnt hdd
  have hnn : (0 : Int) ≤ ((g / gs.length : Nat) : Int) := Int.natCast_nonneg _
  have hnm : (0 : Int) ≤ (((p + g / gs.length) % W : Nat) : Int) := Int.natCast_nonneg _
  have hno : (0 : Int) ≤ ((g % gs.length : Nat) : Int) := Int.natCast_nonneg _
  simp only [ac17, layV]
  simp (implicitDefEqProofs := false) (disch := omega) only [WPs, opds, List.all_cons, List.all_nil, List.cons_append, List.nil_append, cond_true, cond_false, eq_self, List.map_cons, List.map_nil, Nat.reduceAdd, Nat.testBit, Nat.reduceShiftRight, Nat.reduceAnd, Nat.reduceBNe, Nat.reduceMul, hgs.len, hgs.bel, hgs.belF, i1, m1, g1, Sl.bel hrow]
  refine use_pureX (refWidth T _ _ disks tiles spare W r gv gs (hgs.frame (by omega) fun b hb => by simp (implicitDefEqProofs := false) (disch := omega) only [WPs, opds, List.all_cons, List.all_nil, List.cons_append, List.nil_append, cond_true, cond_false, eq_self, List.map_cons, List.map_nil, Nat.reduceAdd, Nat.testBit, Nat.reduceShiftRight, Nat.reduceAnd, Nat.reduceBNe, Nat.reduceMul]) hV) fun r2 => ?_
  simp (implicitDefEqProofs := false) (disch := omega) only [WPs, opds, List.all_cons, List.all_nil, List.cons_append, List.nil_append, cond_true, cond_false, eq_self, List.map_cons, List.map_nil, Nat.reduceAdd, Nat.testBit, Nat.reduceShiftRight, Nat.reduceAnd, Nat.reduceBNe, Nat.reduceMul, i2, m2, g2, hd, Sl.bel hrow]
  refine wr_cps (refHome_L0 T _ _ n (n + 1) (.int .i64 disks) gv (.int .i64 tiles) (.int .i64 spare) gs (n + 2) (hgs.frame (by omega) fun b hb => by simp (implicitDefEqProofs := false) (disch := omega) only [WPs, opds, List.all_cons, List.all_nil, List.cons_append, List.nil_append, cond_true, cond_false, eq_self, List.map_cons, List.map_nil, Nat.reduceAdd, Nat.testBit, Nat.reduceShiftRight, Nat.reduceAnd, Nat.reduceBNe, Nat.reduceMul]) (by omega) (by omega) (by simp (implicitDefEqProofs := false) (disch := omega) only [WPs, opds, List.all_cons, List.all_nil, List.cons_append, List.nil_append, cond_true, cond_false, eq_self, List.map_cons, List.map_nil, Nat.reduceAdd, Nat.testBit, Nat.reduceShiftRight, Nat.reduceAnd, Nat.reduceBNe, Nat.reduceMul]) hlen (fun g hg => by rw [hV.hw g hg]; omega) d (g % gs.length) hi _ _ (fun x3 x4 x5 r3 => ?_) gs.length 0 (by omega) _ _ _)
  simp (implicitDefEqProofs := false) (disch := omega) only [WPs, opds, List.all_cons, List.all_nil, List.cons_append, List.nil_append, cond_true, cond_false, eq_self, List.map_cons, List.map_nil, Nat.reduceAdd, Nat.testBit, Nat.reduceShiftRight, Nat.reduceAnd, Nat.reduceBNe, Nat.reduceMul, hcr]
  rw [hD, hBe]
def HomeIs (gs : List (List Int)) (W r g i : Nat) (d b : Int) : Prop := homeDisk gs W g i = d ∧ (homeBlock gs W r g i : Int) = b
theorem refAt_L0 (T : Tab E) (M : FM) (N pb lb : Nat) (disks tiles spare W r : Nat) (gv : Value) (gs : List (List Int)) (hgs : Rows M N gv gs) (hV : VN disks gs tiles spare W r) (d b : Int) (hpb : pb < N) (hlb : lb < N) (hM1 : M pb = some (.cells [.int .i64 d, .int .i64 b] 0 false true)) (hM2 : M lb = some (.cells [.int .i64 disks, gv, .int .i64 tiles, .int .i64 spare] 0 false true))
    (g : Nat) (hg : g < tiles * gs.length) (x0 x1 x2 x4 x5 x6 x7 x8 x9 x10 x12 x13 x14 x15 : Value) (rest : List Value) {Q : AX → List Value → FM → Nat → Nat → Prop} : ∀ k j, j + k = W →
    (∀ i, j ≤ i → i < W → HomeIs gs W r g i d b → (∀ i', j ≤ i' → i' < i → ¬ HomeIs gs W r g i' d b) → ∀ e', Q (.ret (.tuple #[.int .i64 g, .int .i64 i, .bool true])) e' M N 0) →
    ((∀ i, j ≤ i → i < W → ¬ HomeIs gs W r g i d b) → Q (.exit 2) (x0 :: x1 :: x2 :: .int .i64 (W : Int) :: x4 :: x5 :: x6 :: x7 :: x8 :: x9 :: x10 :: .int .i64 (g : Int) :: x12 :: x13 :: x14 :: x15 :: .pointer (some ⟨pb, 0, none⟩) :: .pointer (some ⟨lb, 0, none⟩) :: rest) M N 0) →
    Gv (execW PG E Y ac20L0 (x0 :: x1 :: x2 :: .int .i64 (j : Int) :: x4 :: x5 :: x6 :: x7 :: x8 :: x9 :: x10 :: .int .i64 (g : Int) :: x12 :: x13 :: x14 :: x15 :: .pointer (some ⟨pb, 0, none⟩) :: .pointer (some ⟨lb, 0, none⟩) :: rest) M N) Q := by
  intro k
  have hb3 := hV.b3
  induction k with
  | zero =>
    intro j hj hf hx
    refine wr_loopN (L := ac20L0) (b := ac20L0b) rfl ?_
    simp only [ac20L0b]
    simp (implicitDefEqProofs := false) (disch := omega) only [WPs, opds, List.all_cons, List.all_nil, List.cons_append, List.nil_append, cond_true, cond_false, eq_self, List.map_cons, List.map_nil, Nat.reduceAdd, Nat.testBit, Nat.reduceShiftRight, Nat.reduceAnd, Nat.reduceBNe, Nat.reduceMul, hM2]
    refine use_pure (refWidth T _ _ disks tiles spare W r gv gs hgs hV) fun r2 => ?_
    simp (implicitDefEqProofs := false) (disch := omega) only [WPs, opds, List.all_cons, List.all_nil, List.cons_append, List.nil_append, cond_true, cond_false, eq_self, List.map_cons, List.map_nil, Nat.reduceAdd, Nat.testBit, Nat.reduceShiftRight, Nat.reduceAnd, Nat.reduceBNe, Nat.reduceMul]
    obtain rfl : j = W := by omega
    exact hx (fun i h1 h2 => by omega)
  | succ k ih =>
    intro j hj hf hx
    refine wr_loopN (L := ac20L0) (b := ac20L0b) rfl ?_
    simp only [ac20L0b]
    simp (implicitDefEqProofs := false) (disch := omega) only [WPs, opds, List.all_cons, List.all_nil, List.cons_append, List.nil_append, cond_true, cond_false, eq_self, List.map_cons, List.map_nil, Nat.reduceAdd, Nat.testBit, Nat.reduceShiftRight, Nat.reduceAnd, Nat.reduceBNe, Nat.reduceMul, hM2]
    refine use_pure (refWidth T _ _ disks tiles spare W r gv gs hgs hV) fun r2 => ?_
    simp (implicitDefEqProofs := false) (disch := omega) only [WPs, opds, List.all_cons, List.all_nil, List.cons_append, List.nil_append, cond_true, cond_false, eq_self, List.map_cons, List.map_nil, Nat.reduceAdd, Nat.testBit, Nat.reduceShiftRight, Nat.reduceAnd, Nat.reduceBNe, Nat.reduceMul, hM2, hgs.belF, hM1]
    refine use_pureX (refHome T _ _ disks tiles spare W r gv gs hgs hV g j hg (by omega)) fun r3 => ?_
    by_cases h : homeDisk gs W g j = d ∧ (homeBlock gs W r g j : Int) = b
    · simp (implicitDefEqProofs := false) (disch := omega) only [WPs, opds, List.all_cons, List.all_nil, List.cons_append, List.nil_append, cond_true, cond_false, eq_self, List.map_cons, List.map_nil, Nat.reduceAdd, Nat.testBit, Nat.reduceShiftRight, Nat.reduceAnd, Nat.reduceBNe, Nat.reduceMul, hM1, eql31, h]
      exact hf j (Nat.le_refl _) (by omega) h (fun i' h1 h2 => by omega) _
    · simp (implicitDefEqProofs := false) (disch := omega) only [WPs, opds, List.all_cons, List.all_nil, List.cons_append, List.nil_append, cond_true, cond_false, eq_self, List.map_cons, List.map_nil, Nat.reduceAdd, Nat.testBit, Nat.reduceShiftRight, Nat.reduceAnd, Nat.reduceBNe, Nat.reduceMul, hM1, eql31, decide_eq_false h]
      refine wr_end' ((ih (j + 1) (by omega) (fun i h1 h2 h3 h4 e' => hf i (by omega) h2 h3 (fun i' k1 k2 => ?_) e') fun h1 => hx fun i k1 k2 => ?_).mono fun X e m n w hq => by rwa [zero_lor'])
      · by_cases e : i' = j
        · subst e; exact h
        · exact h4 i' (by omega) k2
      · by_cases e : i = j
        · subst e; exact h
        · exact h1 i (by omega) k2
theorem refAt_L1 (T : Tab E) (M : FM) (N pb lb : Nat) (disks tiles spare W r : Nat) (gv : Value) (gs : List (List Int)) (hgs : Rows M N gv gs) (hV : VN disks gs tiles spare W r) (d b : Int) (hpb : pb < N) (hlb : lb < N) (hM1 : M pb = some (.cells [.int .i64 d, .int .i64 b] 0 false true)) (hM2 : M lb = some (.cells [.int .i64 disks, gv, .int .i64 tiles, .int .i64 spare] 0 false true))
    (x0 x1 x2 x4 x5 x6 x7 : Value) (rest : List Value) {Q : AX → List Value → FM → Nat → Nat → Prop} : ∀ k j, j + k = tiles * gs.length →
    (∀ g i, j ≤ g → g < tiles * gs.length → i < W → HomeIs gs W r g i d b → ∀ e', Q (.ret (.tuple #[.int .i64 g, .int .i64 i, .bool true])) e' M N 0) →
    ((∀ g i, j ≤ g → g < tiles * gs.length → i < W → ¬ HomeIs gs W r g i d b) → Q (.exit 0) (x0 :: x1 :: x2 :: x4 :: x5 :: x6 :: x7 :: .pointer (some ⟨pb, 0, none⟩) :: .pointer (some ⟨lb, 0, none⟩) :: rest) M N 0) →
    Gv (execW PG E Y ac20L1 (x0 :: x1 :: x2 :: .int .i64 (j : Int) :: x4 :: x5 :: x6 :: x7 :: .pointer (some ⟨pb, 0, none⟩) :: .pointer (some ⟨lb, 0, none⟩) :: rest) M N) Q := by
  intro k
  have hb4 := hV.b4
  induction k with
  | zero =>
    intro j hj hf hx
    refine wr_loopN (L := ac20L1) (b := ac20L1b) rfl ?_
    simp only [ac20L1b]
    simp (implicitDefEqProofs := false) (disch := omega) only [WPs, opds, List.all_cons, List.all_nil, List.cons_append, List.nil_append, cond_true, cond_false, eq_self, List.map_cons, List.map_nil, Nat.reduceAdd, Nat.testBit, Nat.reduceShiftRight, Nat.reduceAnd, Nat.reduceBNe, Nat.reduceMul, hM2]
    refine use_pure (refGroups T _ _ disks tiles spare W r gv gs hgs hV) fun r2 => ?_
    simp (implicitDefEqProofs := false) (disch := omega) only [WPs, opds, List.all_cons, List.all_nil, List.cons_append, List.nil_append, cond_true, cond_false, eq_self, List.map_cons, List.map_nil, Nat.reduceAdd, Nat.testBit, Nat.reduceShiftRight, Nat.reduceAnd, Nat.reduceBNe, Nat.reduceMul]
    obtain rfl : j = tiles * gs.length := by omega
    exact hx (fun g i h1 h2 => by omega)
  | succ k ih =>
    intro j hj hf hx
    refine wr_loopN (L := ac20L1) (b := ac20L1b) rfl ?_
    simp only [ac20L1b]
    simp (implicitDefEqProofs := false) (disch := omega) only [WPs, opds, List.all_cons, List.all_nil, List.cons_append, List.nil_append, cond_true, cond_false, eq_self, List.map_cons, List.map_nil, Nat.reduceAdd, Nat.testBit, Nat.reduceShiftRight, Nat.reduceAnd, Nat.reduceBNe, Nat.reduceMul, hM2]
    refine use_pure (refGroups T _ _ disks tiles spare W r gv gs hgs hV) fun r2 => ?_
    simp (implicitDefEqProofs := false) (disch := omega) only [WPs, opds, List.all_cons, List.all_nil, List.cons_append, List.nil_append, cond_true, cond_false, eq_self, List.map_cons, List.map_nil, Nat.reduceAdd, Nat.testBit, Nat.reduceShiftRight, Nat.reduceAnd, Nat.reduceBNe, Nat.reduceMul]
    refine wr_cps (refAt_L0 T M N pb lb disks tiles spare W r gv gs hgs hV d b hpb hlb hM1 hM2 j (by omega) _ _ _ _ _ _ _ _ _ _ _ _ _ _ _ W 0 (by omega) (fun i _ hi hh _ e' r3 => ?_) fun hno r3 => ?_)
    · simp (implicitDefEqProofs := false) (disch := omega) only [WPs, opds, List.all_cons, List.all_nil, List.cons_append, List.nil_append, cond_true, cond_false, eq_self, List.map_cons, List.map_nil, Nat.reduceAdd, Nat.testBit, Nat.reduceShiftRight, Nat.reduceAnd, Nat.reduceBNe, Nat.reduceMul]
      exact hf j i (Nat.le_refl _) (by omega) hi hh _
    · simp (implicitDefEqProofs := false) (disch := omega) only [WPs, opds, List.all_cons, List.all_nil, List.cons_append, List.nil_append, cond_true, cond_false, eq_self, List.map_cons, List.map_nil, Nat.reduceAdd, Nat.testBit, Nat.reduceShiftRight, Nat.reduceAnd, Nat.reduceBNe, Nat.reduceMul]
      refine wr_end' ((ih (j + 1) (by omega) (fun g i h1 h2 h3 h4 e' => hf g i (by omega) h2 h3 h4 e') fun h1 => hx fun g i k1 k2 k3 => ?_).mono fun X e m n w hq => by rwa [zero_lor'])
      by_cases e : g = j
      · subst e; exact hno i (Nat.zero_le _) k3
      · exact h1 g i (by omega) k2 k3
theorem refAt_some (T : Tab E) (m : FM) (n : Nat) (disks tiles spare W r : Nat) (gv : Value) (gs : List (List Int)) (hgs : Rows m n gv gs) (hV : VN disks gs tiles spare W r) (d b : Int) (g i : Nat) (hu : ∀ g' i', g' < tiles * gs.length → i' < W → HomeIs gs W r g' i' d b → g' = g ∧ i' = i) (hg : g < tiles * gs.length) (hi : i < W) (hh : HomeIs gs W r g i d b) :
    Pure (callW PG E Y 20 [layV disks gv tiles spare, .agg #[.int .i64 d, .int .i64 b]] m n) m n (.tuple #[.int .i64 g, .int .i64 i, .bool true]) := by
  refine pure_spec T.e20 rfl rfl ?_
  simp only [ac20, layV]
  simp (implicitDefEqProofs := false) (disch := omega) only [WPs, opds, List.all_cons, List.all_nil, List.cons_append, List.nil_append, cond_true, cond_false, eq_self, List.map_cons, List.map_nil, Nat.reduceAdd, Nat.testBit, Nat.reduceShiftRight, Nat.reduceAnd, Nat.reduceBNe, Nat.reduceMul]
  refine wr_cps (refAt_L1 T _ _ (n + 1) n disks tiles spare W r gv gs (hgs.frame (by omega) fun b hb => by simp (implicitDefEqProofs := false) (disch := omega) only [WPs, opds, List.all_cons, List.all_nil, List.cons_append, List.nil_append, cond_true, cond_false, eq_self, List.map_cons, List.map_nil, Nat.reduceAdd, Nat.testBit, Nat.reduceShiftRight, Nat.reduceAnd, Nat.reduceBNe, Nat.reduceMul]) hV d b (by omega) (by omega) (by simp (implicitDefEqProofs := false) (disch := omega) only [WPs, opds, List.all_cons, List.all_nil, List.cons_append, List.nil_append, cond_true, cond_false, eq_self, List.map_cons, List.map_nil, Nat.reduceAdd, Nat.testBit, Nat.reduceShiftRight, Nat.reduceAnd, Nat.reduceBNe, Nat.reduceMul]) (by simp (implicitDefEqProofs := false) (disch := omega) only [WPs, opds, List.all_cons, List.all_nil, List.cons_append, List.nil_append, cond_true, cond_false, eq_self, List.map_cons, List.map_nil, Nat.reduceAdd, Nat.testBit, Nat.reduceShiftRight, Nat.reduceAnd, Nat.reduceBNe, Nat.reduceMul]) _ _ _ _ _ _ _ _ (tiles * gs.length) 0 (by omega) (fun g' i' _ k1 k2 k3 e' r3 => ?_) fun hno r3 => ?_)
  · obtain ⟨rfl, rfl⟩ := hu g' i' k1 k2 k3
    simp (implicitDefEqProofs := false) (disch := omega) only [WPs, opds, List.all_cons, List.all_nil, List.cons_append, List.nil_append, cond_true, cond_false, eq_self, List.map_cons, List.map_nil, Nat.reduceAdd, Nat.testBit, Nat.reduceShiftRight, Nat.reduceAnd, Nat.reduceBNe, Nat.reduceMul]
  · exact absurd hh (hno g i (Nat.zero_le _) hg hi)
theorem refAt_none (T : Tab E) (m : FM) (n : Nat) (disks tiles spare W r : Nat) (gv : Value) (gs : List (List Int)) (hgs : Rows m n gv gs) (hV : VN disks gs tiles spare W r) (d b : Int) (hu : ∀ g' i', g' < tiles * gs.length → i' < W → ¬ HomeIs gs W r g' i' d b) :
    Pure (callW PG E Y 20 [layV disks gv tiles spare, .agg #[.int .i64 d, .int .i64 b]] m n) m n (.tuple #[.int .i64 0, .int .i64 0, .bool false]) := by
  refine pure_spec T.e20 rfl rfl ?_
  simp only [ac20, layV]
  simp (implicitDefEqProofs := false) (disch := omega) only [WPs, opds, List.all_cons, List.all_nil, List.cons_append, List.nil_append, cond_true, cond_false, eq_self, List.map_cons, List.map_nil, Nat.reduceAdd, Nat.testBit, Nat.reduceShiftRight, Nat.reduceAnd, Nat.reduceBNe, Nat.reduceMul]
  refine wr_cps (refAt_L1 T _ _ (n + 1) n disks tiles spare W r gv gs (hgs.frame (by omega) fun b hb => by simp (implicitDefEqProofs := false) (disch := omega) only [WPs, opds, List.all_cons, List.all_nil, List.cons_append, List.nil_append, cond_true, cond_false, eq_self, List.map_cons, List.map_nil, Nat.reduceAdd, Nat.testBit, Nat.reduceShiftRight, Nat.reduceAnd, Nat.reduceBNe, Nat.reduceMul]) hV d b (by omega) (by omega) (by simp (implicitDefEqProofs := false) (disch := omega) only [WPs, opds, List.all_cons, List.all_nil, List.cons_append, List.nil_append, cond_true, cond_false, eq_self, List.map_cons, List.map_nil, Nat.reduceAdd, Nat.testBit, Nat.reduceShiftRight, Nat.reduceAnd, Nat.reduceBNe, Nat.reduceMul]) (by simp (implicitDefEqProofs := false) (disch := omega) only [WPs, opds, List.all_cons, List.all_nil, List.cons_append, List.nil_append, cond_true, cond_false, eq_self, List.map_cons, List.map_nil, Nat.reduceAdd, Nat.testBit, Nat.reduceShiftRight, Nat.reduceAnd, Nat.reduceBNe, Nat.reduceMul]) _ _ _ _ _ _ _ _ (tiles * gs.length) 0 (by omega) (fun g' i' _ k1 k2 k3 e' r3 => absurd k3 (hu g' i' k1 k2)) fun hno r3 => ?_)
  simp (implicitDefEqProofs := false) (disch := omega) only [WPs, opds, List.all_cons, List.all_nil, List.cons_append, List.nil_append, cond_true, cond_false, eq_self, List.map_cons, List.map_nil, Nat.reduceAdd, Nat.testBit, Nat.reduceShiftRight, Nat.reduceAnd, Nat.reduceBNe, Nat.reduceMul]
theorem nodup_inj {l : List Int} (h : l.Nodup) {i j : Nat} (hi : i < l.length) (hj : j < l.length) (e : l[i] = l[j]) : i = j := by
  rw [List.nodup_iff_pairwise_ne, List.pairwise_iff_getElem] at h
  rcases Nat.lt_trichotomy i j with k | k | k
  · exact absurd e (h i j hi hj k)
  · exact k
  · exact absurd e.symm (h j i hj hi k)
/-- the homes are different -/
theorem home_inj {disks tiles spare W r : Nat} {gs : List (List Int)} (h : VN disks gs tiles spare W r) {g p g' p' : Nat} (hg : g < tiles * gs.length) (hp : p < W) (hg' : g' < tiles * gs.length) (hp' : p' < W) (h1 : homeDisk gs W g p = homeDisk gs W g' p') (h2 : homeBlock gs W r g p = homeBlock gs W r g' p') : g = g' ∧ p = p' := by
  obtain ⟨hi, ha, d, hD, hd, hdd, ht, hc, hB⟩ := vn_home h hg hp
  obtain ⟨hi', ha', d', hD', hd', hdd', ht', hc', hB'⟩ := vn_home h hg' hp'
  obtain rfl : d = d' := by rw [hD, hD'] at h1; omega
  have hb : g / gs.length * r + cnt gs (g % gs.length) d = g' / gs.length * r + cnt gs (g' % gs.length) d := by
    unfold homeBlock at h2; rwa [hD, hD'] at h2
  have e1 : g / gs.length = g' / gs.length := by
    have k1 : (g / gs.length * r + cnt gs (g % gs.length) d) / r = g / gs.length := by
      rw [Nat.add_comm, Nat.add_mul_div_right _ _ h.r0, Nat.div_eq_of_lt hc, Nat.zero_add]
    have k2 : (g' / gs.length * r + cnt gs (g' % gs.length) d) / r = g' / gs.length := by
      rw [Nat.add_comm, Nat.add_mul_div_right _ _ h.r0, Nat.div_eq_of_lt hc', Nat.zero_add]
    rw [← k1, ← k2, hb]
  rw [e1] at hb
  have e2 : cnt gs (g % gs.length) d = cnt gs (g' % gs.length) d := by omega
  have m1 : (d : Int) ∈ gs[g % gs.length] := by rw [← hd]; exact List.getElem_mem ha
  have m2 : (d : Int) ∈ gs[g' % gs.length] := by rw [← hd']; exact List.getElem_mem ha'
  have e3 : g % gs.length = g' % gs.length := by
    have k1 := idxs_get (d : Int) gs 0 _ hi m1
    have k2 := idxs_get (d : Int) gs 0 _ hi' m2
    rw [e2, k2] at k1
    injection k1 with k1; omega
  have eg : g = g' := by rw [← Nat.div_add_mod g gs.length, ← Nat.div_add_mod g' gs.length, e1, e3]
  refine ⟨eg, ?_⟩
  subst eg
  have hn := (h.rows _ (List.getElem_mem hi)).1
  have e4 : (p + g / gs.length) % W = (p' + g / gs.length) % W := nodup_inj hn _ _ (hd.trans hd'.symm)
  have hW : 0 < W := by omega
  have k1 : ∀ q, q < W → ((q + g / gs.length) % W + (W - (g / gs.length) % W)) % W = q := fun q hq => by
    have hm : (g / gs.length) % W < W := Nat.mod_lt _ hW
    rw [Nat.add_mod, Nat.mod_mod, ← Nat.add_mod]
    have : q + g / gs.length + (W - g / gs.length % W) = q + W * (g / gs.length / W + 1) := by
      have := Nat.div_add_mod (g / gs.length) W
      rw [Nat.mul_add, Nat.mul_one]; omega
    rw [this, Nat.add_mul_mod_self_left, Nat.mod_eq_of_lt hq]
  rw [← k1 p hp, ← k1 p' hp', e4]
/-- the piece that At gives has its home there -/
theorem at_home {disks tiles spare W r : Nat} {gs : List (List Int)} (h : VN disks gs tiles spare W r) {d b gi : Nat} (hd : d < disks) (hb : b < tiles * r) (hgi : gi < gs.length) (hm : (d : Int) ∈ gs[gi]) (hc : cnt gs gi d = b % r) :
    b / r * gs.length + gi < tiles * gs.length ∧ pieceAt gs W (b / r) gi d < W ∧ HomeIs gs W r (b / r * gs.length + gi) (pieceAt gs W (b / r) gi d) d b := by
  have hr0 := h.r0
  have ht : b / r < tiles := Nat.div_lt_of_lt_mul (by rw [Nat.mul_comm]; exact hb)
  have hW := h.b3
  have hpos := h.pos
  have hlt : b / r * gs.length + gi < tiles * gs.length := by
    calc b / r * gs.length + gi < b / r * gs.length + gs.length := by omega
      _ = (b / r + 1) * gs.length := by rw [Nat.add_mul, Nat.one_mul]
      _ ≤ tiles * gs.length := Nat.mul_le_mul_right _ ht
  have hpi := pieceAt_int (gs := gs) (W := W) (t := b / r) (gi := gi) (d := d) (by omega)
  have hp1 : pieceAt gs W (b / r) gi d < W := by
    have := Int.emod_lt_of_pos ((((gs[gi]?.getD []).idxOf (d : Int) : Nat) : Int) - (b / r : Nat)) (show (0 : Int) < (W : Int) by omega)
    omega
  refine ⟨hlt, hp1, ?_⟩
  have q1 : (b / r * gs.length + gi) / gs.length = b / r := by rw [Nat.add_comm, Nat.add_mul_div_right _ _ hpos, Nat.div_eq_of_lt hgi, Nat.zero_add]
  have q2 : (b / r * gs.length + gi) % gs.length = gi := by rw [Nat.add_comm, Nat.add_mul_mod_self_right, Nat.mod_eq_of_lt hgi]
  have hw : gs[gi].length = W := h.hw _ (List.getElem_mem hgi)
  have ha : gs[gi].idxOf (d : Int) < gs[gi].length := List.idxOf_lt_length_iff.2 hm
  rw [List.getElem?_eq_getElem hgi, Option.getD_some] at hpi
  have q3 : (pieceAt gs W (b / r) gi d + b / r) % W = gs[gi].idxOf (d : Int) := by
    have : (((pieceAt gs W (b / r) gi d + b / r) % W : Nat) : Int) = gs[gi].idxOf (d : Int) := by
      rw [Int.natCast_emod, Int.natCast_add, ← hpi, Int.emod_add_emod, Int.sub_add_cancel, Int.emod_eq_of_lt (by omega) (by omega)]
    omega
  have hD : homeDisk gs W (b / r * gs.length + gi) (pieceAt gs W (b / r) gi d) = d := by
    unfold homeDisk
    rw [q1, q2, q3, List.getElem?_eq_getElem hgi, Option.getD_some, List.getElem?_eq_getElem ha, Option.getD_some, List.getElem_idxOf]
  refine ⟨hD, ?_⟩
  unfold homeBlock
  rw [hD, q1, q2, hc, Nat.mul_comm, Nat.div_add_mod]
end Go.Am.C21
namespace Go.Am.V
open Go Go.Am
/-- a closed run that made a design -/
def dMemo (f : Nat) (args : List Value) (disks : Nat) (gs : List (List Int)) (W : Nat) (pi : List Nat) : Memo :=
  { f := f, args := args, rs := [.i (Int.ofNat disks), .s 0 0 gs.length UNK], bs := ⟨(List.range gs.length).map (fun i => FV.s (i + 1) 0 W UNK), 1, true, true⟩ :: gs.map (fun row => ⟨row.map FV.i, 1, true, true⟩), pi := pi, ag := true }
theorem dMemo_rows {f : Nat} {args : List Value} {disks : Nat} {gs : List (List Int)} {W : Nat} {pi : List Nat} (hw : ∀ row ∈ gs, row.length = W) (hf : args.all flat = true) (hself : veqL args args = true) (m : FM) (n : Nat) :
    ∃ (m' : FM) (w : Nat), memoA (dMemo f args disks gs W pi) f args m n = .ok (.agg #[.int .i64 disks, .slice (some ⟨n, 0, none⟩) gs.length UNK]) m' (n + (gs.length + 1)) 0 w ∧ (∀ b, b < n → m' b = m b) ∧ (∀ j, j ≤ n → Nat.mod w (bit j) = 0) ∧ ∀ (m2 : FM) (N : Nat), n + (gs.length + 1) ≤ N → (∀ b, n ≤ b → b < n + (gs.length + 1) → m2 b = m' b) → Rows m2 N (.slice (some ⟨n, 0, none⟩) gs.length UNK) gs := by
  have hl : (dMemo f args disks gs W pi).bs.length = gs.length + 1 := by simp [dMemo]
  refine ⟨layA (fun b => n + b) (dMemo f args disks gs W pi).bs n m, newW n (dMemo f args disks gs W pi).bs.length, ?_, fun b hb => ?_, fun j hj => ?_, ?_⟩
  · unfold memoA
    rw [show (dMemo f args disks gs W pi).f = f from rfl, show (dMemo f args disks gs W pi).args = args from rfl, Nat.beq_refl, hself, hl]
    rfl
  · rw [layA_get, if_neg (by omega)]
  · apply Nat.eq_of_testBit_eq
    intro i
    rw [mod_test, newW_test, Nat.zero_testBit]
    by_cases h1 : i < j
    · have : decide (n ≤ i) = false := decide_eq_false (by omega)
      simp [this]
    · simp [h1]
  · intro m2 N hN hag
    have h0 : m2 n = some (.cells ((List.range gs.length).map (fun i => Value.slice (some ⟨n + (i + 1), 0, none⟩) W UNK)) 1 true true) := by
      rw [hag n (Nat.le_refl _) (by omega)]
      show (layA (fun b => n + b) (dMemo f args disks gs W pi).bs n m) n = _
      rw [layA_get, if_pos (by rw [hl]; omega), Nat.sub_self]
      show some (toB (rnB (fun b => n + b) ⟨(List.range gs.length).map (fun i => FV.s (i + 1) 0 W UNK), 1, true, true⟩)) = _
      rw [rnB_cells, List.map_map, List.map_map]; rfl
    have h1 : ∀ i (hi : i < gs.length), m2 (n + (i + 1)) = some (.cells (gs[i].map (Value.int .i64)) 1 true true) := fun i hi => by
      rw [hag _ (by omega) (by omega)]
      show (layA (fun b => n + b) (dMemo f args disks gs W pi).bs n m) (n + (i + 1)) = _
      rw [layA_get, if_pos (by rw [hl]; omega), Nat.add_sub_cancel_left]
      show ((gs.map (fun row => (⟨row.map FV.i, 1, true, true⟩ : FBlk)))[i]?).map (fun b => toB (rnB (fun b => n + b) b)) = _
      rw [List.getElem?_map, List.getElem?_eq_getElem hi]
      show some (toB (rnB (fun b => n + b) ⟨gs[i].map FV.i, 1, true, true⟩)) = _
      rw [rnB_cells, List.map_map, List.map_map]; rfl
    refine ⟨(List.range gs.length).map (fun i => Value.slice (some ⟨n + (i + 1), 0, none⟩) W UNK), .inr (.inl ⟨n, 0, UNK, _, true, true, by simp, by omega, h0, fun i x hx => by rw [Nat.zero_add]; exact hx⟩), by simp, fun i x g hx hg => ?_⟩
    have hi : i < gs.length := (List.getElem?_eq_some_iff.1 hg).1
    rw [List.getElem?_map, List.getElem?_range hi] at hx
    injection hx with hx; subst hx
    rw [List.getElem?_eq_getElem hi] at hg
    injection hg with hg; subst hg
    exact .inr (.inl ⟨n + (i + 1), 0, UNK, _, true, true, by rw [List.length_map, hw _ (List.getElem_mem hi)], by omega, h1 i hi, fun j x hx => by rw [Nat.zero_add]; exact hx⟩)
end Go.Am.V
namespace Go.Am.C21
open Go Go.Am Go.Am.V
set_option maxRecDepth 1000000
def g54 : List (List Int) := [[0, 1, 2, 3], [0, 1, 2, 4], [0, 1, 3, 4], [0, 2, 3, 4], [1, 2, 3, 4]]
def M54 : Memo := dMemo 37 [.int .i64 (Int.ofNat 5), .int .i64 (Int.ofNat 4)] 5 g54 4 [22, 4, 8, 12, 16, 20]
theorem fit54 : fitsB M54 (fcall Proofs.Try.prog (Fast.treeOf tab) Yf0 5000 10 37 [.i (5), .i (4)] [] 0) = true := by kernel_rfl
theorem sim54 : CallSim Proofs.Try.prog (memoA M54) := env0.memo (M := M54) (fargs := [.i (5), .i (4)]) (by kernel_rfl) (by kernel_rfl) fit54
def g64 : List (List Int) := [[0, 1, 2, 3], [0, 1, 2, 4], [0, 1, 2, 5], [0, 1, 3, 4], [0, 1, 3, 5], [0, 1, 4, 5], [0, 2, 3, 4], [0, 2, 3, 5], [0, 2, 4, 5], [0, 3, 4, 5], [1, 2, 3, 4], [1, 2, 3, 5], [1, 2, 4, 5], [1, 3, 4, 5], [2, 3, 4, 5]]
def M64 : Memo := dMemo 37 [.int .i64 (Int.ofNat 6), .int .i64 (Int.ofNat 4)] 6 g64 4 [62, 4, 8, 12, 16, 20, 24, 28, 32, 36, 40, 44, 48, 52, 56, 60]
theorem fit64 : fitsB M64 (fcall Proofs.Try.prog (Fast.treeOf tab) Yf0 5000 10 37 [.i (6), .i (4)] [] 0) = true := by kernel_rfl
theorem sim64 : CallSim Proofs.Try.prog (memoA M64) := env0.memo (M := M64) (fargs := [.i (6), .i (4)]) (by kernel_rfl) (by kernel_rfl) fit64
def g65 : List (List Int) := [[0, 1, 2, 3, 4], [0, 1, 2, 3, 5], [0, 1, 2, 4, 5], [0, 1, 3, 4, 5], [0, 2, 3, 4, 5], [1, 2, 3, 4, 5]]
def M65 : Memo := dMemo 37 [.int .i64 (Int.ofNat 6), .int .i64 (Int.ofNat 5)] 6 g65 5 [26, 4, 8, 12, 16, 20, 24]
theorem fit65 : fitsB M65 (fcall Proofs.Try.prog (Fast.treeOf tab) Yf0 5000 10 37 [.i (6), .i (5)] [] 0) = true := by kernel_rfl
theorem sim65 : CallSim Proofs.Try.prog (memoA M65) := env0.memo (M := M65) (fargs := [.i (6), .i (5)]) (by kernel_rfl) (by kernel_rfl) fit65
def g44 : List (List Int) := [[0, 1, 2, 3]]
def M44 : Memo := dMemo 37 [.int .i64 (Int.ofNat 4), .int .i64 (Int.ofNat 4)] 4 g44 4 [6, 4]
theorem fit44 : fitsB M44 (fcall Proofs.Try.prog (Fast.treeOf tab) Yf0 5000 10 37 [.i (4), .i (4)] [] 0) = true := by kernel_rfl
theorem sim44 : CallSim Proofs.Try.prog (memoA M44) := env0.memo (M := M44) (fargs := [.i (4), .i (4)]) (by kernel_rfl) (by kernel_rfl) fit44
def g55 : List (List Int) := [[0, 1, 2, 3, 4]]
def M55 : Memo := dMemo 37 [.int .i64 (Int.ofNat 5), .int .i64 (Int.ofNat 5)] 5 g55 5 [6, 4]
theorem fit55 : fitsB M55 (fcall Proofs.Try.prog (Fast.treeOf tab) Yf0 5000 10 37 [.i (5), .i (5)] [] 0) = true := by kernel_rfl
theorem sim55 : CallSim Proofs.Try.prog (memoA M55) := env0.memo (M := M55) (fargs := [.i (5), .i (5)]) (by kernel_rfl) (by kernel_rfl) fit55
def g75 : List (List Int) := [[0, 1, 2, 3, 4], [0, 1, 2, 3, 5], [0, 1, 2, 3, 6], [0, 1, 2, 4, 5], [0, 1, 2, 4, 6], [0, 1, 2, 5, 6], [0, 1, 3, 4, 5], [0, 1, 3, 4, 6], [0, 1, 3, 5, 6], [0, 1, 4, 5, 6], [0, 2, 3, 4, 5], [0, 2, 3, 4, 6], [0, 2, 3, 5, 6], [0, 2, 4, 5, 6], [0, 3, 4, 5, 6], [1, 2, 3, 4, 5], [1, 2, 3, 4, 6], [1, 2, 3, 5, 6], [1, 2, 4, 5, 6], [1, 3, 4, 5, 6], [2, 3, 4, 5, 6]]
def M75 : Memo := dMemo 37 [.int .i64 (Int.ofNat 7), .int .i64 (Int.ofNat 5)] 7 g75 5 [86, 4, 8, 12, 16, 20, 24, 28, 32, 36, 40, 44, 48, 52, 56, 60, 64, 68, 72, 76, 80, 84]
theorem fit75 : fitsB M75 (fcall Proofs.Try.prog (Fast.treeOf tab) Yf0 5000 10 37 [.i (7), .i (5)] [] 0) = true := by kernel_rfl
theorem sim75 : CallSim Proofs.Try.prog (memoA M75) := env0.memo (M := M75) (fargs := [.i (7), .i (5)]) (by kernel_rfl) (by kernel_rfl) fit75
def gp3 : List (List Int) := [[1, 4, 7, 10], [0, 4, 5, 6], [3, 4, 9, 11], [2, 4, 8, 12], [0, 1, 2, 3], [1, 6, 9, 12], [1, 5, 8, 11], [0, 10, 11, 12], [3, 6, 8, 10], [2, 5, 9, 10], [0, 7, 8, 9], [2, 6, 7, 11], [3, 5, 7, 12]]
def Mp3 : Memo := dMemo 38 [.int .i64 (Int.ofNat 3)] 13 gp3 4 [157, 35, 45, 55, 65, 75, 85, 95, 105, 115, 125, 135, 145, 155]
theorem fitp3 : fitsB Mp3 (fcall Proofs.Try.prog (Fast.treeOf tab) Yf0 5000 10 38 [.i (3)] [] 0) = true := by kernel_rfl
theorem simp3 : CallSim Proofs.Try.prog (memoA Mp3) := env0.memo (M := Mp3) (fargs := [.i (3)]) (by kernel_rfl) (by kernel_rfl) fitp3
end Go.Am.C21
namespace Go.Am.C21
open Go Go.Am Go.Am.V
set_option maxRecDepth 1000000
def rowB (D W : Nat) (row : List Int) : Bool := row.length == W && (List.range W).all (fun i => decide (0 ≤ row[i]?.getD 0) && decide (row[i]?.getD 0 < (D : Int)) && (i == 0 || decide (row[i - 1]?.getD 0 < row[i]?.getD 0)))
/-- a balanced design, and small enough -/
def desB (D W r l : Nat) (gs : List (List Int)) : Bool :=
  decide (2 ≤ D ∧ D ≤ 60 ∧ 4 ≤ W ∧ W ≤ 16 ∧ 0 < gs.length ∧ 16 * gs.length ≤ 4096 ∧ 16 * gs.length * (W - 3) ≤ 65536 ∧ 16 * r + 7 ≤ 65536 ∧ 0 < l) && gs.all (rowB D W) && (List.range D).all (fun a => (List.range D).all (fun b => c2 gs (a : Int) (b : Int) == if a = b then r else l))
theorem rowB_ok {D W : Nat} {row : List Int} (h : rowB D W row = true) : row.length = W ∧ RowFrom D row 0 := by
  rw [rowB, Bool.and_eq_true] at h
  obtain ⟨h1, h2⟩ := h
  have hl : row.length = W := by simpa using h1
  refine ⟨hl, fun i _ hi x hx => ?_⟩
  rw [List.all_eq_true] at h2
  have := h2 i (by simp; omega)
  rw [Bool.and_eq_true, Bool.and_eq_true] at this
  obtain ⟨⟨k1, k2⟩, k3⟩ := this
  rw [hx, Option.getD_some] at k1 k2 k3
  refine ⟨of_decide_eq_true k1, of_decide_eq_true k2, fun h0 y hy => ?_⟩
  rw [hy, Option.getD_some] at k3
  rcases Bool.or_eq_true _ _ ▸ k3 with k | k
  · have : i = 0 := by simpa using k
    omega
  · exact of_decide_eq_true k
theorem vn_of {D W r l : Nat} {gs : List (List Int)} (h : desB D W r l gs = true) {tiles spare : Nat} (ht : 1 ≤ tiles ∧ tiles ≤ 16) (hs : spare ≤ 7) : VN D gs tiles spare W r := by
  rw [desB, Bool.and_eq_true, Bool.and_eq_true] at h
  obtain ⟨⟨h1, h2⟩, h3⟩ := h
  obtain ⟨a1, a2, a3, a4, a5, a6, a7, a8, a9⟩ := of_decide_eq_true h1
  rw [List.all_eq_true] at h2
  have hrow : ∀ row ∈ gs, row.length = W ∧ RowFrom D row 0 := fun row hr => rowB_ok (h2 row hr)
  have hnd : ∀ row ∈ gs, row.Nodup ∧ ∀ x ∈ row, 0 ≤ x ∧ x < 60 := fun row hr => by
    refine ⟨rowFrom_nodup (hrow row hr).2, fun x hx => ?_⟩
    obtain ⟨i, hi, rfl⟩ := List.getElem_of_mem hx
    obtain ⟨k1, k2, _⟩ := (hrow row hr).2 i (Nat.zero_le _) hi _ (List.getElem?_eq_getElem hi)
    omega
  have hc : ∀ a b : Nat, a < D → b < D → (counts zeros gs)[60 * a + b]?.getD 0 = if a = b then (r : Int) else l := fun a b ha hb => by
    rw [counts_zeros hnd (by omega) (by omega) (by omega)]
    rw [List.all_eq_true] at h3
    have := h3 a (by simpa using ha)
    rw [List.all_eq_true] at this
    have := this b (by simpa using hb)
    have e : c2 gs (a : Int) (b : Int) = if a = b then r else l := by simpa using this
    rw [e]; split <;> rfl
  have e0 : (counts zeros gs)[0]! = (r : Int) := by
    have := hc 0 0 (by omega) (by omega)
    rw [if_pos rfl] at this
    rw [List.getElem!_eq_getElem?_getD]
    exact this
  have e1 : (counts zeros gs)[1]! = (l : Int) := by
    have := hc 0 1 (by omega) (by omega)
    rw [if_neg (by omega)] at this
    rw [List.getElem!_eq_getElem?_getD]
    exact this
  have hg0 : gs[0]? = some gs[0] := List.getElem?_eq_getElem a5
  have hw0 : gs[0].length = W := (hrow _ (List.getElem_mem a5)).1
  refine ⟨⟨⟨by omega, by omega, by omega, _, hg0, by omega, fun i g _ hi => ?_⟩, ?_, ?_⟩, e0, fun g hg => (hrow g hg).1, ⟨ht.1, by omega⟩, by omega, ⟨a3, a4⟩, ?_, ?_, ?_⟩
  · have := hrow g (List.mem_of_getElem? hi)
    exact ⟨by rw [this.1, hw0], this.2⟩
  · rw [e0, e1]
    intro a _ ha b _ hb
    exact hc a b (by omega) (by omega)
  · rw [e1]; omega
  · exact Nat.le_trans (Nat.mul_le_mul_right _ ht.2) a6
  · exact Nat.le_trans (Nat.mul_le_mul_right _ (Nat.mul_le_mul_right _ ht.2)) a7
  · have := Nat.mul_le_mul_right r ht.2; omega
theorem des54 : desB 5 4 4 3 g54 = true := by decide +kernel
theorem des64 : desB 6 4 10 6 g64 = true := by decide +kernel
theorem des65 : desB 6 5 5 4 g65 = true := by decide +kernel
theorem des44 : desB 4 4 1 1 g44 = true := by decide +kernel
theorem des55 : desB 5 5 1 1 g55 = true := by decide +kernel
theorem des75 : desB 7 5 15 10 g75 = true := by decide +kernel
theorem desp3 : desB 13 4 4 1 gp3 = true := by decide +kernel
variable {E : Nat → Option AFn} {Y : Nat → List Value → FM → Nat → OR FM}
/-- a call that makes a design -/
def Makes (x : OR FM) (m : FM) (n D : Nat) (gs : List (List Int)) : Prop := Rt x fun v m' n' w => n ≤ n' ∧ (∀ b, b < n → m' b = m b) ∧ (∀ j, j ≤ n → Nat.mod w (bit j) = 0) ∧ ∃ l c, v = .agg #[.int .i64 (D : Int), .slice (some ⟨n, 0, none⟩) l c] ∧ (∀ (m2 : FM) (N : Nat), n' ≤ N → (∀ b, n ≤ b → b < n' → m2 b = m' b) → Rows m2 N (.slice (some ⟨n, 0, none⟩) l c) gs) ∧ n < n'
structure Mk (E : Nat → Option AFn) (Y : Nat → List Value → FM → Nat → OR FM) : Prop where
  d54 : ∀ m n, Makes (callW PG E Y 37 [.int .i64 5, .int .i64 4] m n) m n 5 g54
  d64 : ∀ m n, Makes (callW PG E Y 37 [.int .i64 6, .int .i64 4] m n) m n 6 g64
  d65 : ∀ m n, Makes (callW PG E Y 37 [.int .i64 6, .int .i64 5] m n) m n 6 g65
  d44 : ∀ m n, Makes (callW PG E Y 37 [.int .i64 4, .int .i64 4] m n) m n 4 g44
  d55 : ∀ m n, Makes (callW PG E Y 37 [.int .i64 5, .int .i64 5] m n) m n 5 g55
  d75 : ∀ m n, Makes (callW PG E Y 37 [.int .i64 7, .int .i64 5] m n) m n 7 g75
  dp3 : ∀ m n, Makes (callW PG E Y 38 [.int .i64 3] m n) m n 13 gp3
theorem conv_int (k q : IntKind) (z : Int) : convV k (.int q z) = some (.int k (k.wrap z)) := by
  show some (Value.int k (wrapF k z)) = _; rw [wrapF_eq]
/-- the numbers of a small layout's design -/
structure SmallD (D W r l : Nat) (gs : List (List Int)) : Prop where
  ok : desB D W r l gs = true
theorem small_spec (hE : E 14 = some ac14) (hM : Mk E Y) (m : FM) (n : Nat) (k : Nat) (hk : k < 65536) :
    Rt (callW PG E Y 14 [.int .u16 k] m n) fun v m' n' w => n ≤ n' ∧ (∀ b, b < n → m' b = m b) ∧ (∀ j, j ≤ n → Nat.mod w (bit j) = 0) ∧
      ∃ D W r l gs gv, v = layV D gv (1 + k / 16 % 5) (k / 80 % 8) ∧ Rows m' n' gv gs ∧ (D, W, r, l, gs) ∈ [(5, 4, 4, 3, g54), (6, 4, 10, 6, g64), (6, 5, 5, 4, g65), (4, 4, 1, 1, g44), (5, 5, 1, 1, g55), (7, 5, 15, 10, g75), (13, 4, 4, 1, gp3)] := by
  refine kept_specQ hE rfl fun Q hQ => ?_
  simp only [ac14]
  have h16 : 1 + k / 16 % 5 ≤ 5 := by omega
  have hc8 : ((k % 8 : Nat) : Int) = 0 ∨ ((k % 8 : Nat) : Int) = 1 ∨ ((k % 8 : Nat) : Int) = 2 ∨ ((k % 8 : Nat) : Int) = 3 ∨ ((k % 8 : Nat) : Int) = 4 ∨ ((k % 8 : Nat) : Int) = 5 ∨ ((k % 8 : Nat) : Int) = 6 ∨ ((k % 8 : Nat) : Int) = 7 := by omega
  rcases hc8 with hc | hc | hc | hc | hc | hc | hc | hc
  · simp (implicitDefEqProofs := false) (disch := omega) only [WPs, opds, List.all_cons, List.all_nil, List.cons_append, List.nil_append, cond_true, cond_false, eq_self, List.map_cons, List.map_nil, Nat.reduceAdd, Nat.testBit, Nat.reduceShiftRight, Nat.reduceAnd, Nat.reduceBNe, Nat.reduceMul, conv_int, hc]
    refine use_rt (hM.d54 _ _) fun v m' n' r1 w1 h => ?_
    obtain ⟨hn, hf, hw, l, c, rfl, hrw, hlt⟩ := h
    simp (implicitDefEqProofs := false) (disch := omega) only [WPs, opds, List.all_cons, List.all_nil, List.cons_append, List.nil_append, cond_true, cond_false, eq_self, List.map_cons, List.map_nil, Nat.reduceAdd, Nat.testBit, Nat.reduceShiftRight, Nat.reduceAnd, Nat.reduceBNe, Nat.reduceMul, hw, hf]
    exact hQ _ _ _ _ _ (by omega) (fun b hb => by simp (implicitDefEqProofs := false) (disch := omega) only [WPs, opds, List.all_cons, List.all_nil, List.cons_append, List.nil_append, cond_true, cond_false, eq_self, List.map_cons, List.map_nil, Nat.reduceAdd, Nat.testBit, Nat.reduceShiftRight, Nat.reduceAnd, Nat.reduceBNe, Nat.reduceMul, hf]) (by simp (implicitDefEqProofs := false) (disch := omega) only [WPs, opds, List.all_cons, List.all_nil, List.cons_append, List.nil_append, cond_true, cond_false, eq_self, List.map_cons, List.map_nil, Nat.reduceAdd, Nat.testBit, Nat.reduceShiftRight, Nat.reduceAnd, Nat.reduceBNe, Nat.reduceMul, hw]) rfl ⟨5, 4, 4, 3, g54, _, rfl, hrw _ _ (by omega) fun b hb hb2 => by simp (implicitDefEqProofs := false) (disch := omega) only [WPs, opds, List.all_cons, List.all_nil, List.cons_append, List.nil_append, cond_true, cond_false, eq_self, List.map_cons, List.map_nil, Nat.reduceAdd, Nat.testBit, Nat.reduceShiftRight, Nat.reduceAnd, Nat.reduceBNe, Nat.reduceMul], by simp⟩
  · simp (implicitDefEqProofs := false) (disch := omega) only [WPs, opds, List.all_cons, List.all_nil, List.cons_append, List.nil_append, cond_true, cond_false, eq_self, List.map_cons, List.map_nil, Nat.reduceAdd, Nat.testBit, Nat.reduceShiftRight, Nat.reduceAnd, Nat.reduceBNe, Nat.reduceMul, conv_int, hc]
    refine use_rt (hM.d54 _ _) fun v m' n' r1 w1 h => ?_
    obtain ⟨hn, hf, hw, l, c, rfl, hrw, hlt⟩ := h
    simp (implicitDefEqProofs := false) (disch := omega) only [WPs, opds, List.all_cons, List.all_nil, List.cons_append, List.nil_append, cond_true, cond_false, eq_self, List.map_cons, List.map_nil, Nat.reduceAdd, Nat.testBit, Nat.reduceShiftRight, Nat.reduceAnd, Nat.reduceBNe, Nat.reduceMul, hw, hf]
    exact hQ _ _ _ _ _ (by omega) (fun b hb => by simp (implicitDefEqProofs := false) (disch := omega) only [WPs, opds, List.all_cons, List.all_nil, List.cons_append, List.nil_append, cond_true, cond_false, eq_self, List.map_cons, List.map_nil, Nat.reduceAdd, Nat.testBit, Nat.reduceShiftRight, Nat.reduceAnd, Nat.reduceBNe, Nat.reduceMul, hf]) (by simp (implicitDefEqProofs := false) (disch := omega) only [WPs, opds, List.all_cons, List.all_nil, List.cons_append, List.nil_append, cond_true, cond_false, eq_self, List.map_cons, List.map_nil, Nat.reduceAdd, Nat.testBit, Nat.reduceShiftRight, Nat.reduceAnd, Nat.reduceBNe, Nat.reduceMul, hw]) rfl ⟨5, 4, 4, 3, g54, _, rfl, hrw _ _ (by omega) fun b hb hb2 => by simp (implicitDefEqProofs := false) (disch := omega) only [WPs, opds, List.all_cons, List.all_nil, List.cons_append, List.nil_append, cond_true, cond_false, eq_self, List.map_cons, List.map_nil, Nat.reduceAdd, Nat.testBit, Nat.reduceShiftRight, Nat.reduceAnd, Nat.reduceBNe, Nat.reduceMul], by simp⟩
  · simp (implicitDefEqProofs := false) (disch := omega) only [WPs, opds, List.all_cons, List.all_nil, List.cons_append, List.nil_append, cond_true, cond_false, eq_self, List.map_cons, List.map_nil, Nat.reduceAdd, Nat.testBit, Nat.reduceShiftRight, Nat.reduceAnd, Nat.reduceBNe, Nat.reduceMul, conv_int, hc]
    refine use_rt (hM.d54 _ _) fun v m' n' r1 w1 h => ?_
    obtain ⟨hn, hf, hw, l, c, rfl, hrw, hlt⟩ := h
    simp (implicitDefEqProofs := false) (disch := omega) only [WPs, opds, List.all_cons, List.all_nil, List.cons_append, List.nil_append, cond_true, cond_false, eq_self, List.map_cons, List.map_nil, Nat.reduceAdd, Nat.testBit, Nat.reduceShiftRight, Nat.reduceAnd, Nat.reduceBNe, Nat.reduceMul, hw, hf]
    exact hQ _ _ _ _ _ (by omega) (fun b hb => by simp (implicitDefEqProofs := false) (disch := omega) only [WPs, opds, List.all_cons, List.all_nil, List.cons_append, List.nil_append, cond_true, cond_false, eq_self, List.map_cons, List.map_nil, Nat.reduceAdd, Nat.testBit, Nat.reduceShiftRight, Nat.reduceAnd, Nat.reduceBNe, Nat.reduceMul, hf]) (by simp (implicitDefEqProofs := false) (disch := omega) only [WPs, opds, List.all_cons, List.all_nil, List.cons_append, List.nil_append, cond_true, cond_false, eq_self, List.map_cons, List.map_nil, Nat.reduceAdd, Nat.testBit, Nat.reduceShiftRight, Nat.reduceAnd, Nat.reduceBNe, Nat.reduceMul, hw]) rfl ⟨5, 4, 4, 3, g54, _, rfl, hrw _ _ (by omega) fun b hb hb2 => by simp (implicitDefEqProofs := false) (disch := omega) only [WPs, opds, List.all_cons, List.all_nil, List.cons_append, List.nil_append, cond_true, cond_false, eq_self, List.map_cons, List.map_nil, Nat.reduceAdd, Nat.testBit, Nat.reduceShiftRight, Nat.reduceAnd, Nat.reduceBNe, Nat.reduceMul], by simp⟩
  · simp (implicitDefEqProofs := false) (disch := omega) only [WPs, opds, List.all_cons, List.all_nil, List.cons_append, List.nil_append, cond_true, cond_false, eq_self, List.map_cons, List.map_nil, Nat.reduceAdd, Nat.testBit, Nat.reduceShiftRight, Nat.reduceAnd, Nat.reduceBNe, Nat.reduceMul, conv_int, hc]
    refine use_rt (hM.d64 _ _) fun v m' n' r1 w1 h => ?_
    obtain ⟨hn, hf, hw, l, c, rfl, hrw, hlt⟩ := h
    simp (implicitDefEqProofs := false) (disch := omega) only [WPs, opds, List.all_cons, List.all_nil, List.cons_append, List.nil_append, cond_true, cond_false, eq_self, List.map_cons, List.map_nil, Nat.reduceAdd, Nat.testBit, Nat.reduceShiftRight, Nat.reduceAnd, Nat.reduceBNe, Nat.reduceMul, hw, hf]
    exact hQ _ _ _ _ _ (by omega) (fun b hb => by simp (implicitDefEqProofs := false) (disch := omega) only [WPs, opds, List.all_cons, List.all_nil, List.cons_append, List.nil_append, cond_true, cond_false, eq_self, List.map_cons, List.map_nil, Nat.reduceAdd, Nat.testBit, Nat.reduceShiftRight, Nat.reduceAnd, Nat.reduceBNe, Nat.reduceMul, hf]) (by simp (implicitDefEqProofs := false) (disch := omega) only [WPs, opds, List.all_cons, List.all_nil, List.cons_append, List.nil_append, cond_true, cond_false, eq_self, List.map_cons, List.map_nil, Nat.reduceAdd, Nat.testBit, Nat.reduceShiftRight, Nat.reduceAnd, Nat.reduceBNe, Nat.reduceMul, hw]) rfl ⟨6, 4, 10, 6, g64, _, rfl, hrw _ _ (by omega) fun b hb hb2 => by simp (implicitDefEqProofs := false) (disch := omega) only [WPs, opds, List.all_cons, List.all_nil, List.cons_append, List.nil_append, cond_true, cond_false, eq_self, List.map_cons, List.map_nil, Nat.reduceAdd, Nat.testBit, Nat.reduceShiftRight, Nat.reduceAnd, Nat.reduceBNe, Nat.reduceMul], by simp⟩
  · simp (implicitDefEqProofs := false) (disch := omega) only [WPs, opds, List.all_cons, List.all_nil, List.cons_append, List.nil_append, cond_true, cond_false, eq_self, List.map_cons, List.map_nil, Nat.reduceAdd, Nat.testBit, Nat.reduceShiftRight, Nat.reduceAnd, Nat.reduceBNe, Nat.reduceMul, conv_int, hc]
    refine use_rt (hM.d65 _ _) fun v m' n' r1 w1 h => ?_
    obtain ⟨hn, hf, hw, l, c, rfl, hrw, hlt⟩ := h
    simp (implicitDefEqProofs := false) (disch := omega) only [WPs, opds, List.all_cons, List.all_nil, List.cons_append, List.nil_append, cond_true, cond_false, eq_self, List.map_cons, List.map_nil, Nat.reduceAdd, Nat.testBit, Nat.reduceShiftRight, Nat.reduceAnd, Nat.reduceBNe, Nat.reduceMul, hw, hf]
    exact hQ _ _ _ _ _ (by omega) (fun b hb => by simp (implicitDefEqProofs := false) (disch := omega) only [WPs, opds, List.all_cons, List.all_nil, List.cons_append, List.nil_append, cond_true, cond_false, eq_self, List.map_cons, List.map_nil, Nat.reduceAdd, Nat.testBit, Nat.reduceShiftRight, Nat.reduceAnd, Nat.reduceBNe, Nat.reduceMul, hf]) (by simp (implicitDefEqProofs := false) (disch := omega) only [WPs, opds, List.all_cons, List.all_nil, List.cons_append, List.nil_append, cond_true, cond_false, eq_self, List.map_cons, List.map_nil, Nat.reduceAdd, Nat.testBit, Nat.reduceShiftRight, Nat.reduceAnd, Nat.reduceBNe, Nat.reduceMul, hw]) rfl ⟨6, 5, 5, 4, g65, _, rfl, hrw _ _ (by omega) fun b hb hb2 => by simp (implicitDefEqProofs := false) (disch := omega) only [WPs, opds, List.all_cons, List.all_nil, List.cons_append, List.nil_append, cond_true, cond_false, eq_self, List.map_cons, List.map_nil, Nat.reduceAdd, Nat.testBit, Nat.reduceShiftRight, Nat.reduceAnd, Nat.reduceBNe, Nat.reduceMul], by simp⟩
  · by_cases h2 : k / 8 % 2 = 0
    · have hq : ((k / 8 % 2 : Nat) : Int) = 0 := by omega
      simp (implicitDefEqProofs := false) (disch := omega) only [WPs, opds, List.all_cons, List.all_nil, List.cons_append, List.nil_append, cond_true, cond_false, eq_self, List.map_cons, List.map_nil, Nat.reduceAdd, Nat.testBit, Nat.reduceShiftRight, Nat.reduceAnd, Nat.reduceBNe, Nat.reduceMul, conv_int, hc, hq, Int.reduceAdd]
      refine use_rt (hM.d44 _ _) fun v m' n' r1 w1 h => ?_
      obtain ⟨hn, hf, hw, l, c, rfl, hrw, hlt⟩ := h
      simp (implicitDefEqProofs := false) (disch := omega) only [WPs, opds, List.all_cons, List.all_nil, List.cons_append, List.nil_append, cond_true, cond_false, eq_self, List.map_cons, List.map_nil, Nat.reduceAdd, Nat.testBit, Nat.reduceShiftRight, Nat.reduceAnd, Nat.reduceBNe, Nat.reduceMul, hw, hf]
      exact hQ _ _ _ _ _ (by omega) (fun b hb => by simp (implicitDefEqProofs := false) (disch := omega) only [WPs, opds, List.all_cons, List.all_nil, List.cons_append, List.nil_append, cond_true, cond_false, eq_self, List.map_cons, List.map_nil, Nat.reduceAdd, Nat.testBit, Nat.reduceShiftRight, Nat.reduceAnd, Nat.reduceBNe, Nat.reduceMul, hf]) (by simp (implicitDefEqProofs := false) (disch := omega) only [WPs, opds, List.all_cons, List.all_nil, List.cons_append, List.nil_append, cond_true, cond_false, eq_self, List.map_cons, List.map_nil, Nat.reduceAdd, Nat.testBit, Nat.reduceShiftRight, Nat.reduceAnd, Nat.reduceBNe, Nat.reduceMul, hw]) rfl ⟨4, 4, 1, 1, g44, _, rfl, hrw _ _ (by omega) fun b hb hb2 => by simp (implicitDefEqProofs := false) (disch := omega) only [WPs, opds, List.all_cons, List.all_nil, List.cons_append, List.nil_append, cond_true, cond_false, eq_self, List.map_cons, List.map_nil, Nat.reduceAdd, Nat.testBit, Nat.reduceShiftRight, Nat.reduceAnd, Nat.reduceBNe, Nat.reduceMul], by simp⟩
    · have hq : ((k / 8 % 2 : Nat) : Int) = 1 := by omega
      simp (implicitDefEqProofs := false) (disch := omega) only [WPs, opds, List.all_cons, List.all_nil, List.cons_append, List.nil_append, cond_true, cond_false, eq_self, List.map_cons, List.map_nil, Nat.reduceAdd, Nat.testBit, Nat.reduceShiftRight, Nat.reduceAnd, Nat.reduceBNe, Nat.reduceMul, conv_int, hc, hq, Int.reduceAdd]
      refine use_rt (hM.d55 _ _) fun v m' n' r1 w1 h => ?_
      obtain ⟨hn, hf, hw, l, c, rfl, hrw, hlt⟩ := h
      simp (implicitDefEqProofs := false) (disch := omega) only [WPs, opds, List.all_cons, List.all_nil, List.cons_append, List.nil_append, cond_true, cond_false, eq_self, List.map_cons, List.map_nil, Nat.reduceAdd, Nat.testBit, Nat.reduceShiftRight, Nat.reduceAnd, Nat.reduceBNe, Nat.reduceMul, hw, hf]
      exact hQ _ _ _ _ _ (by omega) (fun b hb => by simp (implicitDefEqProofs := false) (disch := omega) only [WPs, opds, List.all_cons, List.all_nil, List.cons_append, List.nil_append, cond_true, cond_false, eq_self, List.map_cons, List.map_nil, Nat.reduceAdd, Nat.testBit, Nat.reduceShiftRight, Nat.reduceAnd, Nat.reduceBNe, Nat.reduceMul, hf]) (by simp (implicitDefEqProofs := false) (disch := omega) only [WPs, opds, List.all_cons, List.all_nil, List.cons_append, List.nil_append, cond_true, cond_false, eq_self, List.map_cons, List.map_nil, Nat.reduceAdd, Nat.testBit, Nat.reduceShiftRight, Nat.reduceAnd, Nat.reduceBNe, Nat.reduceMul, hw]) rfl ⟨5, 5, 1, 1, g55, _, rfl, hrw _ _ (by omega) fun b hb hb2 => by simp (implicitDefEqProofs := false) (disch := omega) only [WPs, opds, List.all_cons, List.all_nil, List.cons_append, List.nil_append, cond_true, cond_false, eq_self, List.map_cons, List.map_nil, Nat.reduceAdd, Nat.testBit, Nat.reduceShiftRight, Nat.reduceAnd, Nat.reduceBNe, Nat.reduceMul], by simp⟩
  · simp (implicitDefEqProofs := false) (disch := omega) only [WPs, opds, List.all_cons, List.all_nil, List.cons_append, List.nil_append, cond_true, cond_false, eq_self, List.map_cons, List.map_nil, Nat.reduceAdd, Nat.testBit, Nat.reduceShiftRight, Nat.reduceAnd, Nat.reduceBNe, Nat.reduceMul, conv_int, hc]
    refine use_rt (hM.dp3 _ _) fun v m' n' r1 w1 h => ?_
    obtain ⟨hn, hf, hw, l, c, rfl, hrw, hlt⟩ := h
    simp (implicitDefEqProofs := false) (disch := omega) only [WPs, opds, List.all_cons, List.all_nil, List.cons_append, List.nil_append, cond_true, cond_false, eq_self, List.map_cons, List.map_nil, Nat.reduceAdd, Nat.testBit, Nat.reduceShiftRight, Nat.reduceAnd, Nat.reduceBNe, Nat.reduceMul, hw, hf]
    exact hQ _ _ _ _ _ (by omega) (fun b hb => by simp (implicitDefEqProofs := false) (disch := omega) only [WPs, opds, List.all_cons, List.all_nil, List.cons_append, List.nil_append, cond_true, cond_false, eq_self, List.map_cons, List.map_nil, Nat.reduceAdd, Nat.testBit, Nat.reduceShiftRight, Nat.reduceAnd, Nat.reduceBNe, Nat.reduceMul, hf]) (by simp (implicitDefEqProofs := false) (disch := omega) only [WPs, opds, List.all_cons, List.all_nil, List.cons_append, List.nil_append, cond_true, cond_false, eq_self, List.map_cons, List.map_nil, Nat.reduceAdd, Nat.testBit, Nat.reduceShiftRight, Nat.reduceAnd, Nat.reduceBNe, Nat.reduceMul, hw]) rfl ⟨13, 4, 4, 1, gp3, _, rfl, hrw _ _ (by omega) fun b hb hb2 => by simp (implicitDefEqProofs := false) (disch := omega) only [WPs, opds, List.all_cons, List.all_nil, List.cons_append, List.nil_append, cond_true, cond_false, eq_self, List.map_cons, List.map_nil, Nat.reduceAdd, Nat.testBit, Nat.reduceShiftRight, Nat.reduceAnd, Nat.reduceBNe, Nat.reduceMul], by simp⟩
  · simp (implicitDefEqProofs := false) (disch := omega) only [WPs, opds, List.all_cons, List.all_nil, List.cons_append, List.nil_append, cond_true, cond_false, eq_self, List.map_cons, List.map_nil, Nat.reduceAdd, Nat.testBit, Nat.reduceShiftRight, Nat.reduceAnd, Nat.reduceBNe, Nat.reduceMul, conv_int, hc]
    refine use_rt (hM.d75 _ _) fun v m' n' r1 w1 h => ?_
    obtain ⟨hn, hf, hw, l, c, rfl, hrw, hlt⟩ := h
    simp (implicitDefEqProofs := false) (disch := omega) only [WPs, opds, List.all_cons, List.all_nil, List.cons_append, List.nil_append, cond_true, cond_false, eq_self, List.map_cons, List.map_nil, Nat.reduceAdd, Nat.testBit, Nat.reduceShiftRight, Nat.reduceAnd, Nat.reduceBNe, Nat.reduceMul, hw, hf]
    exact hQ _ _ _ _ _ (by omega) (fun b hb => by simp (implicitDefEqProofs := false) (disch := omega) only [WPs, opds, List.all_cons, List.all_nil, List.cons_append, List.nil_append, cond_true, cond_false, eq_self, List.map_cons, List.map_nil, Nat.reduceAdd, Nat.testBit, Nat.reduceShiftRight, Nat.reduceAnd, Nat.reduceBNe, Nat.reduceMul, hf]) (by simp (implicitDefEqProofs := false) (disch := omega) only [WPs, opds, List.all_cons, List.all_nil, List.cons_append, List.nil_append, cond_true, cond_false, eq_self, List.map_cons, List.map_nil, Nat.reduceAdd, Nat.testBit, Nat.reduceShiftRight, Nat.reduceAnd, Nat.reduceBNe, Nat.reduceMul, hw]) rfl ⟨7, 5, 15, 10, g75, _, rfl, hrw _ _ (by omega) fun b hb hb2 => by simp (implicitDefEqProofs := false) (disch := omega) only [WPs, opds, List.all_cons, List.all_nil, List.cons_append, List.nil_append, cond_true, cond_false, eq_self, List.map_cons, List.map_nil, Nat.reduceAdd, Nat.testBit, Nat.reduceShiftRight, Nat.reduceAnd, Nat.reduceBNe, Nat.reduceMul], by simp⟩
end Go.Am.C21
namespace Go.Am.C21
open Go Go.Am
variable {E : Nat → Option AFn} {Y : Nat → List Value → FM → Nat → OR FM}
abbrev SmallL : List (Nat × Nat × Nat × Nat × List (List Int)) := [(5, 4, 4, 3, g54), (6, 4, 10, 6, g64), (6, 5, 5, 4, g65), (4, 4, 1, 1, g44), (5, 5, 1, 1, g55), (7, 5, 15, 10, g75), (13, 4, 4, 1, gp3)]
theorem des_mem {D W r l : Nat} {gs : List (List Int)} (h : (D, W, r, l, gs) ∈ SmallL) : desB D W r l gs = true := by
  simp only [SmallL, List.mem_cons, List.not_mem_nil, or_false, Prod.mk.injEq] at h
  rcases h with ⟨rfl, rfl, rfl, rfl, rfl⟩ | ⟨rfl, rfl, rfl, rfl, rfl⟩ | ⟨rfl, rfl, rfl, rfl, rfl⟩ | ⟨rfl, rfl, rfl, rfl, rfl⟩ | ⟨rfl, rfl, rfl, rfl, rfl⟩ | ⟨rfl, rfl, rfl, rfl, rfl⟩ | ⟨rfl, rfl, rfl, rfl, rfl⟩
  · exact des54
  · exact des64
  · exact des65
  · exact des44
  · exact des55
  · exact des75
  · exact desp3
theorem small_vn (hE : E 14 = some ac14) (hM : Mk E Y) (m : FM) (n : Nat) (k : Nat) (hk : k < 65536) :
    Rt (callW PG E Y 14 [.int .u16 k] m n) fun v m' n' w => n ≤ n' ∧ (∀ b, b < n → m' b = m b) ∧ (∀ j, j ≤ n → Nat.mod w (bit j) = 0) ∧
      ∃ D W r l tiles spare gs gv, v = layV D gv tiles spare ∧ Rows m' n' gv gs ∧ VN D gs tiles spare W r ∧ (D, W, r, l, gs) ∈ SmallL ∧ tiles ≤ 5 ∧ spare ≤ 7 := by
  refine (small_spec hE hM m n k hk).mono fun v m' n' w h => ?_
  obtain ⟨hn, hf, hw, D, W, r, l, gs, gv, hv, hgs, hmem⟩ := h
  exact ⟨hn, hf, hw, D, W, r, l, _, _, gs, gv, hv, hgs, vn_of (des_mem hmem) (by omega) (by omega), hmem, by omega, by omega⟩
theorem layoutHome_exec (hE : E 3 = some ac3) (T : Tab E) (h14 : E 14 = some ac14) (hM : Mk E Y) (hA : ∀ m n, Pure (callW PG E Y 13 [] m n) m n (.bool true)) (m : FM) (n : Nat) (k : Nat) (hk : k < 65536) (g p : Int) :
    Pure (callW PG E Y 3 [.int .u16 k, .int .i64 g, .int .i64 p] m n) m n (.bool true) := by
  refine pure_spec hE rfl rfl ?_
  simp only [ac3]
  simp (implicitDefEqProofs := false) (disch := omega) only [WPs, opds, List.all_cons, List.all_nil, List.cons_append, List.nil_append, cond_true, cond_false, eq_self, List.map_cons, List.map_nil, Nat.reduceAdd, Nat.testBit, Nat.reduceShiftRight, Nat.reduceAnd, Nat.reduceBNe, Nat.reduceMul]
  refine use_pure (hA _ _) fun _ => ?_
  simp (implicitDefEqProofs := false) (disch := omega) only [WPs, opds, List.all_cons, List.all_nil, List.cons_append, List.nil_append, cond_true, cond_false, eq_self, List.map_cons, List.map_nil, Nat.reduceAdd, Nat.testBit, Nat.reduceShiftRight, Nat.reduceAnd, Nat.reduceBNe, Nat.reduceMul]
  refine use_rt (small_vn h14 hM _ _ k hk) fun v m1 n1 r1 w1 h => ?_
  obtain ⟨hn1, hf1, hw1, D, W, r, l, tiles, spare, gs, gv, rfl, hgs, hV, hmem, ht5, hs7⟩ := h
  simp (implicitDefEqProofs := false) (disch := omega) only [WPs, opds, List.all_cons, List.all_nil, List.cons_append, List.nil_append, cond_true, cond_false, eq_self, List.map_cons, List.map_nil, Nat.reduceAdd, Nat.testBit, Nat.reduceShiftRight, Nat.reduceAnd, Nat.reduceBNe, Nat.reduceMul, layV, hw1, hf1, cells_of_one hgs.one, hgs.one, hgs.bel, hgs.belF]
  by_cases hin : 0 ≤ g ∧ g < (tiles * gs.length : Nat) ∧ 0 ≤ p ∧ p < W
  · obtain ⟨g, rfl⟩ : ∃ q : Nat, g = q := ⟨g.toNat, by omega⟩
    obtain ⟨p, rfl⟩ : ∃ q : Nat, p = q := ⟨p.toNat, by omega⟩
    refine use_rt (home_in T _ _ D tiles spare W r gv gs (hgs.frame (by omega) fun b hb => by simp (implicitDefEqProofs := false) (disch := omega) only [WPs, opds, List.all_cons, List.all_nil, List.cons_append, List.nil_append, cond_true, cond_false, eq_self, List.map_cons, List.map_nil, Nat.reduceAdd, Nat.testBit, Nat.reduceShiftRight, Nat.reduceAnd, Nat.reduceBNe, Nat.reduceMul]) hV g p (by omega) (by omega)) fun v m2 n2 r2 w2 h => ?_
    obtain ⟨hn2, hf2, hw2, rfl⟩ := h
    simp (implicitDefEqProofs := false) (disch := omega) only [WPs, opds, List.all_cons, List.all_nil, List.cons_append, List.nil_append, cond_true, cond_false, eq_self, List.map_cons, List.map_nil, Nat.reduceAdd, Nat.testBit, Nat.reduceShiftRight, Nat.reduceAnd, Nat.reduceBNe, Nat.reduceMul, hf2, hw2]
    refine use_pure (refIs T _ _ D tiles spare W r gv gs (hgs.frame (by omega) fun b hb => by simp (implicitDefEqProofs := false) (disch := omega) only [WPs, opds, List.all_cons, List.all_nil, List.cons_append, List.nil_append, cond_true, cond_false, eq_self, List.map_cons, List.map_nil, Nat.reduceAdd, Nat.testBit, Nat.reduceShiftRight, Nat.reduceAnd, Nat.reduceBNe, Nat.reduceMul, hf2]) hV g p) fun r3 => ?_
    rw [decide_eq_true hin]
    simp (implicitDefEqProofs := false) (disch := omega) only [WPs, opds, List.all_cons, List.all_nil, List.cons_append, List.nil_append, cond_true, cond_false, eq_self, List.map_cons, List.map_nil, Nat.reduceAdd, Nat.testBit, Nat.reduceShiftRight, Nat.reduceAnd, Nat.reduceBNe, Nat.reduceMul, hf2, hw2, hgs.bel, hgs.belF]
    refine use_pureX (refHome T _ _ D tiles spare W r gv gs (hgs.frame (by omega) fun b hb => by simp (implicitDefEqProofs := false) (disch := omega) only [WPs, opds, List.all_cons, List.all_nil, List.cons_append, List.nil_append, cond_true, cond_false, eq_self, List.map_cons, List.map_nil, Nat.reduceAdd, Nat.testBit, Nat.reduceShiftRight, Nat.reduceAnd, Nat.reduceBNe, Nat.reduceMul, hf2]) hV g p (by omega) (by omega)) fun r4 => ?_
    simp (implicitDefEqProofs := false) (disch := omega) only [WPs, opds, List.all_cons, List.all_nil, List.cons_append, List.nil_append, cond_true, cond_false, eq_self, List.map_cons, List.map_nil, Nat.reduceAdd, Nat.testBit, Nat.reduceShiftRight, Nat.reduceAnd, Nat.reduceBNe, Nat.reduceMul, hf2, hw1, hw2, eql31]
  · refine use_rt (home_out T _ _ D tiles spare W r gv gs (hgs.frame (by omega) fun b hb => by simp (implicitDefEqProofs := false) (disch := omega) only [WPs, opds, List.all_cons, List.all_nil, List.cons_append, List.nil_append, cond_true, cond_false, eq_self, List.map_cons, List.map_nil, Nat.reduceAdd, Nat.testBit, Nat.reduceShiftRight, Nat.reduceAnd, Nat.reduceBNe, Nat.reduceMul]) hV g p hin) fun v m2 n2 r2 w2 h => ?_
    obtain ⟨hn2, hf2, hw2, rfl⟩ := h
    simp (implicitDefEqProofs := false) (disch := omega) only [WPs, opds, List.all_cons, List.all_nil, List.cons_append, List.nil_append, cond_true, cond_false, eq_self, List.map_cons, List.map_nil, Nat.reduceAdd, Nat.testBit, Nat.reduceShiftRight, Nat.reduceAnd, Nat.reduceBNe, Nat.reduceMul, hf2, hw2]
    refine use_pure (refIs T _ _ D tiles spare W r gv gs (hgs.frame (by omega) fun b hb => by simp (implicitDefEqProofs := false) (disch := omega) only [WPs, opds, List.all_cons, List.all_nil, List.cons_append, List.nil_append, cond_true, cond_false, eq_self, List.map_cons, List.map_nil, Nat.reduceAdd, Nat.testBit, Nat.reduceShiftRight, Nat.reduceAnd, Nat.reduceBNe, Nat.reduceMul, hf2]) hV g p) fun r3 => ?_
    rw [decide_eq_false hin]
    simp (implicitDefEqProofs := false) (disch := omega) only [WPs, opds, List.all_cons, List.all_nil, List.cons_append, List.nil_append, cond_true, cond_false, eq_self, List.map_cons, List.map_nil, Nat.reduceAdd, Nat.testBit, Nat.reduceShiftRight, Nat.reduceAnd, Nat.reduceBNe, Nat.reduceMul, hf2, hw1, hw2, hgs.bel, hgs.belF, eql31]
theorem layoutAt_exec (hE : E 4 = some ac4) (T : Tab E) (h14 : E 14 = some ac14) (hM : Mk E Y) (hA : ∀ m n, Pure (callW PG E Y 13 [] m n) m n (.bool true)) (m : FM) (n : Nat) (k : Nat) (hk : k < 65536) (d b : Int) :
    Pure (callW PG E Y 4 [.int .u16 k, .agg #[.int .i64 d, .int .i64 b]] m n) m n (.bool true) := by
  refine pure_spec hE rfl rfl ?_
  simp only [ac4]
  simp (implicitDefEqProofs := false) (disch := omega) only [WPs, opds, List.all_cons, List.all_nil, List.cons_append, List.nil_append, cond_true, cond_false, eq_self, List.map_cons, List.map_nil, Nat.reduceAdd, Nat.testBit, Nat.reduceShiftRight, Nat.reduceAnd, Nat.reduceBNe, Nat.reduceMul]
  refine use_pure (hA _ _) fun _ => ?_
  simp (implicitDefEqProofs := false) (disch := omega) only [WPs, opds, List.all_cons, List.all_nil, List.cons_append, List.nil_append, cond_true, cond_false, eq_self, List.map_cons, List.map_nil, Nat.reduceAdd, Nat.testBit, Nat.reduceShiftRight, Nat.reduceAnd, Nat.reduceBNe, Nat.reduceMul]
  refine use_rt (small_vn h14 hM _ _ k hk) fun v m1 n1 r1 w1 h => ?_
  obtain ⟨hn1, hf1, hw1, D, W, r, l, tiles, spare, gs, gv, rfl, hgs, hV, hmem, ht5, hs7⟩ := h
  simp (implicitDefEqProofs := false) (disch := omega) only [WPs, opds, List.all_cons, List.all_nil, List.cons_append, List.nil_append, cond_true, cond_false, eq_self, List.map_cons, List.map_nil, Nat.reduceAdd, Nat.testBit, Nat.reduceShiftRight, Nat.reduceAnd, Nat.reduceBNe, Nat.reduceMul, layV, hw1, hf1, cells_of_one hgs.one, hgs.one, hgs.bel, hgs.belF]
  have hpos := hV.pos
  have hFr : ∀ (mm : FM) (N : Nat), n1 ≤ N → (∀ b, b < n1 → mm b = m1 b) → Rows mm N gv gs := fun mm N h1 h2 => hgs.frame h1 h2
  by_cases o1 : d < 0
  · refine use_pure (at_out T _ _ D tiles spare W r gv gs (hFr _ _ (by omega) fun b hb => by simp (implicitDefEqProofs := false) (disch := omega) only [WPs, opds, List.all_cons, List.all_nil, List.cons_append, List.nil_append, cond_true, cond_false, eq_self, List.map_cons, List.map_nil, Nat.reduceAdd, Nat.testBit, Nat.reduceShiftRight, Nat.reduceAnd, Nat.reduceBNe, Nat.reduceMul]) hV d b (by omega)) fun r2 => ?_
    simp (implicitDefEqProofs := false) (disch := omega) only [WPs, opds, List.all_cons, List.all_nil, List.cons_append, List.nil_append, cond_true, cond_false, eq_self, List.map_cons, List.map_nil, Nat.reduceAdd, Nat.testBit, Nat.reduceShiftRight, Nat.reduceAnd, Nat.reduceBNe, Nat.reduceMul, hf1, hw1]
  by_cases o2 : D ≤ d
  · refine use_pure (at_out T _ _ D tiles spare W r gv gs (hFr _ _ (by omega) fun b hb => by simp (implicitDefEqProofs := false) (disch := omega) only [WPs, opds, List.all_cons, List.all_nil, List.cons_append, List.nil_append, cond_true, cond_false, eq_self, List.map_cons, List.map_nil, Nat.reduceAdd, Nat.testBit, Nat.reduceShiftRight, Nat.reduceAnd, Nat.reduceBNe, Nat.reduceMul]) hV d b (by omega)) fun r2 => ?_
    simp (implicitDefEqProofs := false) (disch := omega) only [WPs, opds, List.all_cons, List.all_nil, List.cons_append, List.nil_append, cond_true, cond_false, eq_self, List.map_cons, List.map_nil, Nat.reduceAdd, Nat.testBit, Nat.reduceShiftRight, Nat.reduceAnd, Nat.reduceBNe, Nat.reduceMul, hf1, hw1]
  by_cases o3 : b < 0
  · refine use_pure (at_out T _ _ D tiles spare W r gv gs (hFr _ _ (by omega) fun b hb => by simp (implicitDefEqProofs := false) (disch := omega) only [WPs, opds, List.all_cons, List.all_nil, List.cons_append, List.nil_append, cond_true, cond_false, eq_self, List.map_cons, List.map_nil, Nat.reduceAdd, Nat.testBit, Nat.reduceShiftRight, Nat.reduceAnd, Nat.reduceBNe, Nat.reduceMul]) hV d b (by omega)) fun r2 => ?_
    simp (implicitDefEqProofs := false) (disch := omega) only [WPs, opds, List.all_cons, List.all_nil, List.cons_append, List.nil_append, cond_true, cond_false, eq_self, List.map_cons, List.map_nil, Nat.reduceAdd, Nat.testBit, Nat.reduceShiftRight, Nat.reduceAnd, Nat.reduceBNe, Nat.reduceMul, hf1, hw1]
  obtain ⟨d, rfl⟩ : ∃ q : Nat, d = q := ⟨d.toNat, by omega⟩
  obtain ⟨b, rfl⟩ : ∃ q : Nat, b = q := ⟨b.toNat, by omega⟩
  by_cases o4 : tiles * r + spare ≤ b
  · refine use_pure (at_out T _ _ D tiles spare W r gv gs (hFr _ _ (by omega) fun b hb => by simp (implicitDefEqProofs := false) (disch := omega) only [WPs, opds, List.all_cons, List.all_nil, List.cons_append, List.nil_append, cond_true, cond_false, eq_self, List.map_cons, List.map_nil, Nat.reduceAdd, Nat.testBit, Nat.reduceShiftRight, Nat.reduceAnd, Nat.reduceBNe, Nat.reduceMul]) hV d b (by omega)) fun r2 => ?_
    simp (implicitDefEqProofs := false) (disch := omega) only [WPs, opds, List.all_cons, List.all_nil, List.cons_append, List.nil_append, cond_true, cond_false, eq_self, List.map_cons, List.map_nil, Nat.reduceAdd, Nat.testBit, Nat.reduceShiftRight, Nat.reduceAnd, Nat.reduceBNe, Nat.reduceMul, hf1, hw1, hgs.bel, hgs.belF]
    refine use_pureX (refBlocks T _ _ D tiles spare W r gv gs (hFr _ _ (by omega) fun b hb => by simp (implicitDefEqProofs := false) (disch := omega) only [WPs, opds, List.all_cons, List.all_nil, List.cons_append, List.nil_append, cond_true, cond_false, eq_self, List.map_cons, List.map_nil, Nat.reduceAdd, Nat.testBit, Nat.reduceShiftRight, Nat.reduceAnd, Nat.reduceBNe, Nat.reduceMul]) hV) fun r3 => ?_
    simp (implicitDefEqProofs := false) (disch := omega) only [WPs, opds, List.all_cons, List.all_nil, List.cons_append, List.nil_append, cond_true, cond_false, eq_self, List.map_cons, List.map_nil, Nat.reduceAdd, Nat.testBit, Nat.reduceShiftRight, Nat.reduceAnd, Nat.reduceBNe, Nat.reduceMul, hf1, hw1]
  by_cases o5 : tiles * r ≤ b
  · refine use_pure (at_none T _ _ D tiles spare W r gv gs (hFr _ _ (by omega) fun b hb => by simp (implicitDefEqProofs := false) (disch := omega) only [WPs, opds, List.all_cons, List.all_nil, List.cons_append, List.nil_append, cond_true, cond_false, eq_self, List.map_cons, List.map_nil, Nat.reduceAdd, Nat.testBit, Nat.reduceShiftRight, Nat.reduceAnd, Nat.reduceBNe, Nat.reduceMul]) hV d b (by omega) (by omega)) fun r2 => ?_
    simp (implicitDefEqProofs := false) (disch := omega) only [WPs, opds, List.all_cons, List.all_nil, List.cons_append, List.nil_append, cond_true, cond_false, eq_self, List.map_cons, List.map_nil, Nat.reduceAdd, Nat.testBit, Nat.reduceShiftRight, Nat.reduceAnd, Nat.reduceBNe, Nat.reduceMul, hf1, hw1, hgs.bel, hgs.belF]
    refine use_pureX (refBlocks T _ _ D tiles spare W r gv gs (hFr _ _ (by omega) fun b hb => by simp (implicitDefEqProofs := false) (disch := omega) only [WPs, opds, List.all_cons, List.all_nil, List.cons_append, List.nil_append, cond_true, cond_false, eq_self, List.map_cons, List.map_nil, Nat.reduceAdd, Nat.testBit, Nat.reduceShiftRight, Nat.reduceAnd, Nat.reduceBNe, Nat.reduceMul]) hV) fun r3 => ?_
    simp (implicitDefEqProofs := false) (disch := omega) only [WPs, opds, List.all_cons, List.all_nil, List.cons_append, List.nil_append, cond_true, cond_false, eq_self, List.map_cons, List.map_nil, Nat.reduceAdd, Nat.testBit, Nat.reduceShiftRight, Nat.reduceAnd, Nat.reduceBNe, Nat.reduceMul, hf1, hw1, hgs.bel, hgs.belF]
    refine use_pure (refAt_none T _ _ D tiles spare W r gv gs (hFr _ _ (by omega) fun b hb => by simp (implicitDefEqProofs := false) (disch := omega) only [WPs, opds, List.all_cons, List.all_nil, List.cons_append, List.nil_append, cond_true, cond_false, eq_self, List.map_cons, List.map_nil, Nat.reduceAdd, Nat.testBit, Nat.reduceShiftRight, Nat.reduceAnd, Nat.reduceBNe, Nat.reduceMul]) hV d b (fun g' i' h1 h2 h3 => ?_)) fun r4 => ?_
    · obtain ⟨_, _, _, _, _, _, _, _, h4⟩ := vn_home hV h1 h2
      have := h3.2
      omega
    simp (implicitDefEqProofs := false) (disch := omega) only [WPs, opds, List.all_cons, List.all_nil, List.cons_append, List.nil_append, cond_true, cond_false, eq_self, List.map_cons, List.map_nil, Nat.reduceAdd, Nat.testBit, Nat.reduceShiftRight, Nat.reduceAnd, Nat.reduceBNe, Nat.reduceMul, hf1, hw1, hgs.bel, hgs.belF]
    refine use_pureX (refHomes T _ _ D tiles spare W r gv gs (hFr _ _ (by omega) fun b hb => by simp (implicitDefEqProofs := false) (disch := omega) only [WPs, opds, List.all_cons, List.all_nil, List.cons_append, List.nil_append, cond_true, cond_false, eq_self, List.map_cons, List.map_nil, Nat.reduceAdd, Nat.testBit, Nat.reduceShiftRight, Nat.reduceAnd, Nat.reduceBNe, Nat.reduceMul]) hV) fun r5 => ?_
    simp (implicitDefEqProofs := false) (disch := omega) only [WPs, opds, List.all_cons, List.all_nil, List.cons_append, List.nil_append, cond_true, cond_false, eq_self, List.map_cons, List.map_nil, Nat.reduceAdd, Nat.testBit, Nat.reduceShiftRight, Nat.reduceAnd, Nat.reduceBNe, Nat.reduceMul, hf1, hw1]
  · obtain ⟨gi, hgi, _, _, hm, hc, _, _⟩ := vn_at hV (d := d) (b := b) (by omega) (by omega)
    obtain ⟨k1, k2, k3⟩ := at_home hV (d := d) (b := b) (by omega) (by omega) hgi hm hc
    refine use_pure (at_in T _ _ D tiles spare W r gv gs (hFr _ _ (by omega) fun b hb => by simp (implicitDefEqProofs := false) (disch := omega) only [WPs, opds, List.all_cons, List.all_nil, List.cons_append, List.nil_append, cond_true, cond_false, eq_self, List.map_cons, List.map_nil, Nat.reduceAdd, Nat.testBit, Nat.reduceShiftRight, Nat.reduceAnd, Nat.reduceBNe, Nat.reduceMul]) hV d b gi (by omega) (by omega) hgi hm hc) fun r2 => ?_
    simp (implicitDefEqProofs := false) (disch := omega) only [WPs, opds, List.all_cons, List.all_nil, List.cons_append, List.nil_append, cond_true, cond_false, eq_self, List.map_cons, List.map_nil, Nat.reduceAdd, Nat.testBit, Nat.reduceShiftRight, Nat.reduceAnd, Nat.reduceBNe, Nat.reduceMul, hf1, hw1, hgs.bel, hgs.belF]
    refine use_pureX (refBlocks T _ _ D tiles spare W r gv gs (hFr _ _ (by omega) fun b hb => by simp (implicitDefEqProofs := false) (disch := omega) only [WPs, opds, List.all_cons, List.all_nil, List.cons_append, List.nil_append, cond_true, cond_false, eq_self, List.map_cons, List.map_nil, Nat.reduceAdd, Nat.testBit, Nat.reduceShiftRight, Nat.reduceAnd, Nat.reduceBNe, Nat.reduceMul]) hV) fun r3 => ?_
    simp (implicitDefEqProofs := false) (disch := omega) only [WPs, opds, List.all_cons, List.all_nil, List.cons_append, List.nil_append, cond_true, cond_false, eq_self, List.map_cons, List.map_nil, Nat.reduceAdd, Nat.testBit, Nat.reduceShiftRight, Nat.reduceAnd, Nat.reduceBNe, Nat.reduceMul, hf1, hw1, hgs.bel, hgs.belF]
    refine use_pure (refAt_some T _ _ D tiles spare W r gv gs (hFr _ _ (by omega) fun b hb => by simp (implicitDefEqProofs := false) (disch := omega) only [WPs, opds, List.all_cons, List.all_nil, List.cons_append, List.nil_append, cond_true, cond_false, eq_self, List.map_cons, List.map_nil, Nat.reduceAdd, Nat.testBit, Nat.reduceShiftRight, Nat.reduceAnd, Nat.reduceBNe, Nat.reduceMul]) hV d b _ _ (fun g' i' h1 h2 h3 => home_inj hV h1 h2 k1 k2 (h3.1.trans k3.1.symm) (by have := h3.2; have := k3.2; omega)) k1 k2 k3) fun r4 => ?_
    simp (implicitDefEqProofs := false) (disch := omega) only [WPs, opds, List.all_cons, List.all_nil, List.cons_append, List.nil_append, cond_true, cond_false, eq_self, List.map_cons, List.map_nil, Nat.reduceAdd, Nat.testBit, Nat.reduceShiftRight, Nat.reduceAnd, Nat.reduceBNe, Nat.reduceMul, hf1, hw1]
theorem layoutSlots_exec (hE : E 11 = some ac11) (T : Tab E) (h14 : E 14 = some ac14) (hM : Mk E Y) (hA : ∀ m n, Pure (callW PG E Y 13 [] m n) m n (.bool true)) (m : FM) (n : Nat) (k : Nat) (hk : k < 65536) (s g p : Int) :
    Pure (callW PG E Y 11 [.int .u16 k, .agg #[.int .i64 s, .int .i64 g, .int .i64 p]] m n) m n (.bool true) := by
  refine pure_spec hE rfl rfl ?_
  simp only [ac11]
  simp (implicitDefEqProofs := false) (disch := omega) only [WPs, opds, List.all_cons, List.all_nil, List.cons_append, List.nil_append, cond_true, cond_false, eq_self, List.map_cons, List.map_nil, Nat.reduceAdd, Nat.testBit, Nat.reduceShiftRight, Nat.reduceAnd, Nat.reduceBNe, Nat.reduceMul]
  refine use_pure (hA _ _) fun _ => ?_
  simp (implicitDefEqProofs := false) (disch := omega) only [WPs, opds, List.all_cons, List.all_nil, List.cons_append, List.nil_append, cond_true, cond_false, eq_self, List.map_cons, List.map_nil, Nat.reduceAdd, Nat.testBit, Nat.reduceShiftRight, Nat.reduceAnd, Nat.reduceBNe, Nat.reduceMul]
  refine use_rt (small_vn h14 hM _ _ k hk) fun v m1 n1 r1 w1 h => ?_
  obtain ⟨hn1, hf1, hw1, D, W, r, l, tiles, spare, gs, gv, rfl, hgs, hV, hmem, ht5, hs7⟩ := h
  simp (implicitDefEqProofs := false) (disch := omega) only [WPs, opds, List.all_cons, List.all_nil, List.cons_append, List.nil_append, cond_true, cond_false, eq_self, List.map_cons, List.map_nil, Nat.reduceAdd, Nat.testBit, Nat.reduceShiftRight, Nat.reduceAnd, Nat.reduceBNe, Nat.reduceMul, layV, hw1, hf1, cells_of_one hgs.one, hgs.one, hgs.bel, hgs.belF]
  have hb3 := hV.b3
  have hb4 := hV.b4
  have hb5 := hV.b5
  have hFr : ∀ (mm : FM) (N : Nat), n1 ≤ N → (∀ b, b < n1 → mm b = m1 b) → Rows mm N gv gs := fun mm N h1 h2 => hgs.frame h1 h2
  refine use_pure (refWidth T _ _ D tiles spare W r gv gs (hFr _ _ (by omega) fun b hb => by simp (implicitDefEqProofs := false) (disch := omega) only [WPs, opds, List.all_cons, List.all_nil, List.cons_append, List.nil_append, cond_true, cond_false, eq_self, List.map_cons, List.map_nil, Nat.reduceAdd, Nat.testBit, Nat.reduceShiftRight, Nat.reduceAnd, Nat.reduceBNe, Nat.reduceMul]) hV) fun r2 => ?_
  simp (implicitDefEqProofs := false) (disch := omega) only [WPs, opds, List.all_cons, List.all_nil, List.cons_append, List.nil_append, cond_true, cond_false, eq_self, List.map_cons, List.map_nil, Nat.reduceAdd, Nat.testBit, Nat.reduceShiftRight, Nat.reduceAnd, Nat.reduceBNe, Nat.reduceMul, hf1, hw1]
  by_cases o1 : s < 0
  · refine use_pure (slot_out T _ _ D tiles spare W r gv gs (hFr _ _ (by omega) fun b hb => by simp (implicitDefEqProofs := false) (disch := omega) only [WPs, opds, List.all_cons, List.all_nil, List.cons_append, List.nil_append, cond_true, cond_false, eq_self, List.map_cons, List.map_nil, Nat.reduceAdd, Nat.testBit, Nat.reduceShiftRight, Nat.reduceAnd, Nat.reduceBNe, Nat.reduceMul]) hV s (by omega)) fun r3 => ?_
    simp (implicitDefEqProofs := false) (disch := omega) only [WPs, opds, List.all_cons, List.all_nil, List.cons_append, List.nil_append, cond_true, cond_false, eq_self, List.map_cons, List.map_nil, Nat.reduceAdd, Nat.testBit, Nat.reduceShiftRight, Nat.reduceAnd, Nat.reduceBNe, Nat.reduceMul, hf1, hw1]
    by_cases hin : 0 ≤ g ∧ g < (tiles * gs.length : Nat) ∧ 0 ≤ p ∧ p < W
    · obtain ⟨g, rfl⟩ : ∃ q : Nat, g = q := ⟨g.toNat, by omega⟩
      obtain ⟨p, rfl⟩ : ∃ q : Nat, p = q := ⟨p.toNat, by omega⟩
      by_cases hpd : W - 3 ≤ p
      · refine use_pure (number_par T _ _ D tiles spare W r gv gs (hFr _ _ (by omega) fun b hb => by simp (implicitDefEqProofs := false) (disch := omega) only [WPs, opds, List.all_cons, List.all_nil, List.cons_append, List.nil_append, cond_true, cond_false, eq_self, List.map_cons, List.map_nil, Nat.reduceAdd, Nat.testBit, Nat.reduceShiftRight, Nat.reduceAnd, Nat.reduceBNe, Nat.reduceMul]) hV g p (by omega) (by omega) hpd) fun r6 => ?_
        simp (implicitDefEqProofs := false) (disch := omega) only [WPs, opds, List.all_cons, List.all_nil, List.cons_append, List.nil_append, cond_true, cond_false, eq_self, List.map_cons, List.map_nil, Nat.reduceAdd, Nat.testBit, Nat.reduceShiftRight, Nat.reduceAnd, Nat.reduceBNe, Nat.reduceMul, hf1, hw1]
        refine use_pure (refIs T _ _ D tiles spare W r gv gs (hFr _ _ (by omega) fun b hb => by simp (implicitDefEqProofs := false) (disch := omega) only [WPs, opds, List.all_cons, List.all_nil, List.cons_append, List.nil_append, cond_true, cond_false, eq_self, List.map_cons, List.map_nil, Nat.reduceAdd, Nat.testBit, Nat.reduceShiftRight, Nat.reduceAnd, Nat.reduceBNe, Nat.reduceMul]) hV g p) fun r7 => ?_
        rw [decide_eq_true hin]
        simp (implicitDefEqProofs := false) (disch := omega) only [WPs, opds, List.all_cons, List.all_nil, List.cons_append, List.nil_append, cond_true, cond_false, eq_self, List.map_cons, List.map_nil, Nat.reduceAdd, Nat.testBit, Nat.reduceShiftRight, Nat.reduceAnd, Nat.reduceBNe, Nat.reduceMul, hf1, hw1]
      · refine use_pure (number_in T _ _ D tiles spare W r gv gs (hFr _ _ (by omega) fun b hb => by simp (implicitDefEqProofs := false) (disch := omega) only [WPs, opds, List.all_cons, List.all_nil, List.cons_append, List.nil_append, cond_true, cond_false, eq_self, List.map_cons, List.map_nil, Nat.reduceAdd, Nat.testBit, Nat.reduceShiftRight, Nat.reduceAnd, Nat.reduceBNe, Nat.reduceMul]) hV g p (by omega) (by omega)) fun r6 => ?_
        have hbb : g * (W - 3) ≤ 4096 * 13 := Nat.mul_le_mul (by omega) (by omega)
        simp (implicitDefEqProofs := false) (disch := omega) only [WPs, opds, List.all_cons, List.all_nil, List.cons_append, List.nil_append, cond_true, cond_false, eq_self, List.map_cons, List.map_nil, Nat.reduceAdd, Nat.testBit, Nat.reduceShiftRight, Nat.reduceAnd, Nat.reduceBNe, Nat.reduceMul, hf1, hw1]
        refine use_pure (refIs T _ _ D tiles spare W r gv gs (hFr _ _ (by omega) fun b hb => by simp (implicitDefEqProofs := false) (disch := omega) only [WPs, opds, List.all_cons, List.all_nil, List.cons_append, List.nil_append, cond_true, cond_false, eq_self, List.map_cons, List.map_nil, Nat.reduceAdd, Nat.testBit, Nat.reduceShiftRight, Nat.reduceAnd, Nat.reduceBNe, Nat.reduceMul]) hV g p) fun r7 => ?_
        rw [decide_eq_true hin]
        simp (implicitDefEqProofs := false) (disch := omega) only [WPs, opds, List.all_cons, List.all_nil, List.cons_append, List.nil_append, cond_true, cond_false, eq_self, List.map_cons, List.map_nil, Nat.reduceAdd, Nat.testBit, Nat.reduceShiftRight, Nat.reduceAnd, Nat.reduceBNe, Nat.reduceMul, hf1, hw1]
    · refine use_pure (number_out T _ _ D tiles spare W r gv gs (hFr _ _ (by omega) fun b hb => by simp (implicitDefEqProofs := false) (disch := omega) only [WPs, opds, List.all_cons, List.all_nil, List.cons_append, List.nil_append, cond_true, cond_false, eq_self, List.map_cons, List.map_nil, Nat.reduceAdd, Nat.testBit, Nat.reduceShiftRight, Nat.reduceAnd, Nat.reduceBNe, Nat.reduceMul]) hV g p hin) fun r6 => ?_
      simp (implicitDefEqProofs := false) (disch := omega) only [WPs, opds, List.all_cons, List.all_nil, List.cons_append, List.nil_append, cond_true, cond_false, eq_self, List.map_cons, List.map_nil, Nat.reduceAdd, Nat.testBit, Nat.reduceShiftRight, Nat.reduceAnd, Nat.reduceBNe, Nat.reduceMul, hf1, hw1]
      refine use_pure (refIs T _ _ D tiles spare W r gv gs (hFr _ _ (by omega) fun b hb => by simp (implicitDefEqProofs := false) (disch := omega) only [WPs, opds, List.all_cons, List.all_nil, List.cons_append, List.nil_append, cond_true, cond_false, eq_self, List.map_cons, List.map_nil, Nat.reduceAdd, Nat.testBit, Nat.reduceShiftRight, Nat.reduceAnd, Nat.reduceBNe, Nat.reduceMul]) hV g p) fun r7 => ?_
      rw [decide_eq_false hin]
      simp (implicitDefEqProofs := false) (disch := omega) only [WPs, opds, List.all_cons, List.all_nil, List.cons_append, List.nil_append, cond_true, cond_false, eq_self, List.map_cons, List.map_nil, Nat.reduceAdd, Nat.testBit, Nat.reduceShiftRight, Nat.reduceAnd, Nat.reduceBNe, Nat.reduceMul, hf1, hw1]
  by_cases o2 : (tiles * gs.length * (W - 3) : Nat) ≤ s
  · refine use_pure (slot_out T _ _ D tiles spare W r gv gs (hFr _ _ (by omega) fun b hb => by simp (implicitDefEqProofs := false) (disch := omega) only [WPs, opds, List.all_cons, List.all_nil, List.cons_append, List.nil_append, cond_true, cond_false, eq_self, List.map_cons, List.map_nil, Nat.reduceAdd, Nat.testBit, Nat.reduceShiftRight, Nat.reduceAnd, Nat.reduceBNe, Nat.reduceMul]) hV s (by omega)) fun r3 => ?_
    simp (implicitDefEqProofs := false) (disch := omega) only [WPs, opds, List.all_cons, List.all_nil, List.cons_append, List.nil_append, cond_true, cond_false, eq_self, List.map_cons, List.map_nil, Nat.reduceAdd, Nat.testBit, Nat.reduceShiftRight, Nat.reduceAnd, Nat.reduceBNe, Nat.reduceMul, hf1, hw1, hgs.bel, hgs.belF]
    refine use_pure (refSlots T _ _ D tiles spare W r gv gs (hFr _ _ (by omega) fun b hb => by simp (implicitDefEqProofs := false) (disch := omega) only [WPs, opds, List.all_cons, List.all_nil, List.cons_append, List.nil_append, cond_true, cond_false, eq_self, List.map_cons, List.map_nil, Nat.reduceAdd, Nat.testBit, Nat.reduceShiftRight, Nat.reduceAnd, Nat.reduceBNe, Nat.reduceMul]) hV) fun r4 => ?_
    simp (implicitDefEqProofs := false) (disch := omega) only [WPs, opds, List.all_cons, List.all_nil, List.cons_append, List.nil_append, cond_true, cond_false, eq_self, List.map_cons, List.map_nil, Nat.reduceAdd, Nat.testBit, Nat.reduceShiftRight, Nat.reduceAnd, Nat.reduceBNe, Nat.reduceMul, hf1, hw1]
    by_cases hin : 0 ≤ g ∧ g < (tiles * gs.length : Nat) ∧ 0 ≤ p ∧ p < W
    · obtain ⟨g, rfl⟩ : ∃ q : Nat, g = q := ⟨g.toNat, by omega⟩
      obtain ⟨p, rfl⟩ : ∃ q : Nat, p = q := ⟨p.toNat, by omega⟩
      by_cases hpd : W - 3 ≤ p
      · refine use_pure (number_par T _ _ D tiles spare W r gv gs (hFr _ _ (by omega) fun b hb => by simp (implicitDefEqProofs := false) (disch := omega) only [WPs, opds, List.all_cons, List.all_nil, List.cons_append, List.nil_append, cond_true, cond_false, eq_self, List.map_cons, List.map_nil, Nat.reduceAdd, Nat.testBit, Nat.reduceShiftRight, Nat.reduceAnd, Nat.reduceBNe, Nat.reduceMul]) hV g p (by omega) (by omega) hpd) fun r6 => ?_
        simp (implicitDefEqProofs := false) (disch := omega) only [WPs, opds, List.all_cons, List.all_nil, List.cons_append, List.nil_append, cond_true, cond_false, eq_self, List.map_cons, List.map_nil, Nat.reduceAdd, Nat.testBit, Nat.reduceShiftRight, Nat.reduceAnd, Nat.reduceBNe, Nat.reduceMul, hf1, hw1]
        refine use_pure (refIs T _ _ D tiles spare W r gv gs (hFr _ _ (by omega) fun b hb => by simp (implicitDefEqProofs := false) (disch := omega) only [WPs, opds, List.all_cons, List.all_nil, List.cons_append, List.nil_append, cond_true, cond_false, eq_self, List.map_cons, List.map_nil, Nat.reduceAdd, Nat.testBit, Nat.reduceShiftRight, Nat.reduceAnd, Nat.reduceBNe, Nat.reduceMul]) hV g p) fun r7 => ?_
        rw [decide_eq_true hin]
        simp (implicitDefEqProofs := false) (disch := omega) only [WPs, opds, List.all_cons, List.all_nil, List.cons_append, List.nil_append, cond_true, cond_false, eq_self, List.map_cons, List.map_nil, Nat.reduceAdd, Nat.testBit, Nat.reduceShiftRight, Nat.reduceAnd, Nat.reduceBNe, Nat.reduceMul, hf1, hw1]
      · refine use_pure (number_in T _ _ D tiles spare W r gv gs (hFr _ _ (by omega) fun b hb => by simp (implicitDefEqProofs := false) (disch := omega) only [WPs, opds, List.all_cons, List.all_nil, List.cons_append, List.nil_append, cond_true, cond_false, eq_self, List.map_cons, List.map_nil, Nat.reduceAdd, Nat.testBit, Nat.reduceShiftRight, Nat.reduceAnd, Nat.reduceBNe, Nat.reduceMul]) hV g p (by omega) (by omega)) fun r6 => ?_
        have hbb : g * (W - 3) ≤ 4096 * 13 := Nat.mul_le_mul (by omega) (by omega)
        simp (implicitDefEqProofs := false) (disch := omega) only [WPs, opds, List.all_cons, List.all_nil, List.cons_append, List.nil_append, cond_true, cond_false, eq_self, List.map_cons, List.map_nil, Nat.reduceAdd, Nat.testBit, Nat.reduceShiftRight, Nat.reduceAnd, Nat.reduceBNe, Nat.reduceMul, hf1, hw1]
        refine use_pure (refIs T _ _ D tiles spare W r gv gs (hFr _ _ (by omega) fun b hb => by simp (implicitDefEqProofs := false) (disch := omega) only [WPs, opds, List.all_cons, List.all_nil, List.cons_append, List.nil_append, cond_true, cond_false, eq_self, List.map_cons, List.map_nil, Nat.reduceAdd, Nat.testBit, Nat.reduceShiftRight, Nat.reduceAnd, Nat.reduceBNe, Nat.reduceMul]) hV g p) fun r7 => ?_
        rw [decide_eq_true hin]
        simp (implicitDefEqProofs := false) (disch := omega) only [WPs, opds, List.all_cons, List.all_nil, List.cons_append, List.nil_append, cond_true, cond_false, eq_self, List.map_cons, List.map_nil, Nat.reduceAdd, Nat.testBit, Nat.reduceShiftRight, Nat.reduceAnd, Nat.reduceBNe, Nat.reduceMul, hf1, hw1]
    · refine use_pure (number_out T _ _ D tiles spare W r gv gs (hFr _ _ (by omega) fun b hb => by simp (implicitDefEqProofs := false) (disch := omega) only [WPs, opds, List.all_cons, List.all_nil, List.cons_append, List.nil_append, cond_true, cond_false, eq_self, List.map_cons, List.map_nil, Nat.reduceAdd, Nat.testBit, Nat.reduceShiftRight, Nat.reduceAnd, Nat.reduceBNe, Nat.reduceMul]) hV g p hin) fun r6 => ?_
      simp (implicitDefEqProofs := false) (disch := omega) only [WPs, opds, List.all_cons, List.all_nil, List.cons_append, List.nil_append, cond_true, cond_false, eq_self, List.map_cons, List.map_nil, Nat.reduceAdd, Nat.testBit, Nat.reduceShiftRight, Nat.reduceAnd, Nat.reduceBNe, Nat.reduceMul, hf1, hw1]
      refine use_pure (refIs T _ _ D tiles spare W r gv gs (hFr _ _ (by omega) fun b hb => by simp (implicitDefEqProofs := false) (disch := omega) only [WPs, opds, List.all_cons, List.all_nil, List.cons_append, List.nil_append, cond_true, cond_false, eq_self, List.map_cons, List.map_nil, Nat.reduceAdd, Nat.testBit, Nat.reduceShiftRight, Nat.reduceAnd, Nat.reduceBNe, Nat.reduceMul]) hV g p) fun r7 => ?_
      rw [decide_eq_false hin]
      simp (implicitDefEqProofs := false) (disch := omega) only [WPs, opds, List.all_cons, List.all_nil, List.cons_append, List.nil_append, cond_true, cond_false, eq_self, List.map_cons, List.map_nil, Nat.reduceAdd, Nat.testBit, Nat.reduceShiftRight, Nat.reduceAnd, Nat.reduceBNe, Nat.reduceMul, hf1, hw1]
  · obtain ⟨s, rfl⟩ : ∃ q : Nat, s = q := ⟨s.toNat, by omega⟩
    obtain ⟨dt, hdt⟩ : ∃ dt, W - 3 = dt := ⟨_, rfl⟩
    have hsl : s < tiles * gs.length * (W - 3) := by omega
    have hq : s / (W - 3) < tiles * gs.length := Nat.div_lt_of_lt_mul (by rw [Nat.mul_comm]; exact hsl)
    have hqm : s % (W - 3) < W - 3 := Nat.mod_lt _ (by omega)
    have hdm : s / (W - 3) * (W - 3) + s % (W - 3) = s := Nat.div_add_mod' s (W - 3)
    refine use_pure (slot_in T _ _ D tiles spare W r gv gs (hFr _ _ (by omega) fun b hb => by simp (implicitDefEqProofs := false) (disch := omega) only [WPs, opds, List.all_cons, List.all_nil, List.cons_append, List.nil_append, cond_true, cond_false, eq_self, List.map_cons, List.map_nil, Nat.reduceAdd, Nat.testBit, Nat.reduceShiftRight, Nat.reduceAnd, Nat.reduceBNe, Nat.reduceMul]) hV s hsl) fun r3 => ?_
    obtain ⟨sq, hsq⟩ : ∃ q, s / (W - 3) = q := ⟨_, rfl⟩
    obtain ⟨sm, hsm⟩ : ∃ q, s % (W - 3) = q := ⟨_, rfl⟩
    rw [hsq] at hq hdm
    rw [hsm] at hqm hdm
    simp (implicitDefEqProofs := false) (disch := omega) only [WPs, opds, List.all_cons, List.all_nil, List.cons_append, List.nil_append, cond_true, cond_false, eq_self, List.map_cons, List.map_nil, Nat.reduceAdd, Nat.testBit, Nat.reduceShiftRight, Nat.reduceAnd, Nat.reduceBNe, Nat.reduceMul, hf1, hw1, hgs.bel, hgs.belF, hsq, hsm]
    refine use_pure (refSlots T _ _ D tiles spare W r gv gs (hFr _ _ (by omega) fun b hb => by simp (implicitDefEqProofs := false) (disch := omega) only [WPs, opds, List.all_cons, List.all_nil, List.cons_append, List.nil_append, cond_true, cond_false, eq_self, List.map_cons, List.map_nil, Nat.reduceAdd, Nat.testBit, Nat.reduceShiftRight, Nat.reduceAnd, Nat.reduceBNe, Nat.reduceMul]) hV) fun r4 => ?_
    simp (implicitDefEqProofs := false) (disch := omega) only [WPs, opds, List.all_cons, List.all_nil, List.cons_append, List.nil_append, cond_true, cond_false, eq_self, List.map_cons, List.map_nil, Nat.reduceAdd, Nat.testBit, Nat.reduceShiftRight, Nat.reduceAnd, Nat.reduceBNe, Nat.reduceMul, hf1, hw1]
    refine use_pure (number_in T _ _ D tiles spare W r gv gs (hFr _ _ (by omega) fun b hb => by simp (implicitDefEqProofs := false) (disch := omega) only [WPs, opds, List.all_cons, List.all_nil, List.cons_append, List.nil_append, cond_true, cond_false, eq_self, List.map_cons, List.map_nil, Nat.reduceAdd, Nat.testBit, Nat.reduceShiftRight, Nat.reduceAnd, Nat.reduceBNe, Nat.reduceMul]) hV sq sm hq hqm) fun r5 => ?_
    rw [hdm]
    simp (implicitDefEqProofs := false) (disch := omega) only [WPs, opds, List.all_cons, List.all_nil, List.cons_append, List.nil_append, cond_true, cond_false, eq_self, List.map_cons, List.map_nil, Nat.reduceAdd, Nat.testBit, Nat.reduceShiftRight, Nat.reduceAnd, Nat.reduceBNe, Nat.reduceMul, hf1, hw1, hsq, hsm]
    by_cases hin : 0 ≤ g ∧ g < (tiles * gs.length : Nat) ∧ 0 ≤ p ∧ p < W
    · obtain ⟨g, rfl⟩ : ∃ q : Nat, g = q := ⟨g.toNat, by omega⟩
      obtain ⟨p, rfl⟩ : ∃ q : Nat, p = q := ⟨p.toNat, by omega⟩
      by_cases hpd : W - 3 ≤ p
      · refine use_pure (number_par T _ _ D tiles spare W r gv gs (hFr _ _ (by omega) fun b hb => by simp (implicitDefEqProofs := false) (disch := omega) only [WPs, opds, List.all_cons, List.all_nil, List.cons_append, List.nil_append, cond_true, cond_false, eq_self, List.map_cons, List.map_nil, Nat.reduceAdd, Nat.testBit, Nat.reduceShiftRight, Nat.reduceAnd, Nat.reduceBNe, Nat.reduceMul]) hV g p (by omega) (by omega) hpd) fun r6 => ?_
        simp (implicitDefEqProofs := false) (disch := omega) only [WPs, opds, List.all_cons, List.all_nil, List.cons_append, List.nil_append, cond_true, cond_false, eq_self, List.map_cons, List.map_nil, Nat.reduceAdd, Nat.testBit, Nat.reduceShiftRight, Nat.reduceAnd, Nat.reduceBNe, Nat.reduceMul, hf1, hw1]
        refine use_pure (refIs T _ _ D tiles spare W r gv gs (hFr _ _ (by omega) fun b hb => by simp (implicitDefEqProofs := false) (disch := omega) only [WPs, opds, List.all_cons, List.all_nil, List.cons_append, List.nil_append, cond_true, cond_false, eq_self, List.map_cons, List.map_nil, Nat.reduceAdd, Nat.testBit, Nat.reduceShiftRight, Nat.reduceAnd, Nat.reduceBNe, Nat.reduceMul]) hV g p) fun r7 => ?_
        rw [decide_eq_true hin]
        simp (implicitDefEqProofs := false) (disch := omega) only [WPs, opds, List.all_cons, List.all_nil, List.cons_append, List.nil_append, cond_true, cond_false, eq_self, List.map_cons, List.map_nil, Nat.reduceAdd, Nat.testBit, Nat.reduceShiftRight, Nat.reduceAnd, Nat.reduceBNe, Nat.reduceMul, hf1, hw1]
      · refine use_pure (number_in T _ _ D tiles spare W r gv gs (hFr _ _ (by omega) fun b hb => by simp (implicitDefEqProofs := false) (disch := omega) only [WPs, opds, List.all_cons, List.all_nil, List.cons_append, List.nil_append, cond_true, cond_false, eq_self, List.map_cons, List.map_nil, Nat.reduceAdd, Nat.testBit, Nat.reduceShiftRight, Nat.reduceAnd, Nat.reduceBNe, Nat.reduceMul]) hV g p (by omega) (by omega)) fun r6 => ?_
        have hbb : g * (W - 3) ≤ 4096 * 13 := Nat.mul_le_mul (by omega) (by omega)
        simp (implicitDefEqProofs := false) (disch := omega) only [WPs, opds, List.all_cons, List.all_nil, List.cons_append, List.nil_append, cond_true, cond_false, eq_self, List.map_cons, List.map_nil, Nat.reduceAdd, Nat.testBit, Nat.reduceShiftRight, Nat.reduceAnd, Nat.reduceBNe, Nat.reduceMul, hf1, hw1]
        refine use_pure (refIs T _ _ D tiles spare W r gv gs (hFr _ _ (by omega) fun b hb => by simp (implicitDefEqProofs := false) (disch := omega) only [WPs, opds, List.all_cons, List.all_nil, List.cons_append, List.nil_append, cond_true, cond_false, eq_self, List.map_cons, List.map_nil, Nat.reduceAdd, Nat.testBit, Nat.reduceShiftRight, Nat.reduceAnd, Nat.reduceBNe, Nat.reduceMul]) hV g p) fun r7 => ?_
        rw [decide_eq_true hin]
        simp (implicitDefEqProofs := false) (disch := omega) only [WPs, opds, List.all_cons, List.all_nil, List.cons_append, List.nil_append, cond_true, cond_false, eq_self, List.map_cons, List.map_nil, Nat.reduceAdd, Nat.testBit, Nat.reduceShiftRight, Nat.reduceAnd, Nat.reduceBNe, Nat.reduceMul, hf1, hw1]
    · refine use_pure (number_out T _ _ D tiles spare W r gv gs (hFr _ _ (by omega) fun b hb => by simp (implicitDefEqProofs := false) (disch := omega) only [WPs, opds, List.all_cons, List.all_nil, List.cons_append, List.nil_append, cond_true, cond_false, eq_self, List.map_cons, List.map_nil, Nat.reduceAdd, Nat.testBit, Nat.reduceShiftRight, Nat.reduceAnd, Nat.reduceBNe, Nat.reduceMul]) hV g p hin) fun r6 => ?_
      simp (implicitDefEqProofs := false) (disch := omega) only [WPs, opds, List.all_cons, List.all_nil, List.cons_append, List.nil_append, cond_true, cond_false, eq_self, List.map_cons, List.map_nil, Nat.reduceAdd, Nat.testBit, Nat.reduceShiftRight, Nat.reduceAnd, Nat.reduceBNe, Nat.reduceMul, hf1, hw1]
      refine use_pure (refIs T _ _ D tiles spare W r gv gs (hFr _ _ (by omega) fun b hb => by simp (implicitDefEqProofs := false) (disch := omega) only [WPs, opds, List.all_cons, List.all_nil, List.cons_append, List.nil_append, cond_true, cond_false, eq_self, List.map_cons, List.map_nil, Nat.reduceAdd, Nat.testBit, Nat.reduceShiftRight, Nat.reduceAnd, Nat.reduceBNe, Nat.reduceMul]) hV g p) fun r7 => ?_
      rw [decide_eq_false hin]
      simp (implicitDefEqProofs := false) (disch := omega) only [WPs, opds, List.all_cons, List.all_nil, List.cons_append, List.nil_append, cond_true, cond_false, eq_self, List.map_cons, List.map_nil, Nat.reduceAdd, Nat.testBit, Nat.reduceShiftRight, Nat.reduceAnd, Nat.reduceBNe, Nat.reduceMul, hf1, hw1]
end Go.Am.C21
namespace Go.Am.C21
open Go Go.Am Go.Am.V
set_option maxRecDepth 1000000
noncomputable def tabC : List (Nat × AFn) := [(2, ac2), (3, ac3), (4, ac4), (5, ac5), (6, ac6), (7, ac7), (8, ac8), (9, ac9), (10, ac10), (11, ac11), (12, ac12), (14, ac14), (15, ac15), (16, ac16), (17, ac17), (18, ac18), (19, ac19), (20, ac20), (21, ac21), (22, ac22), (23, ac23), (24, ac24), (25, ac25), (26, ac26), (27, ac27), (28, ac28), (29, ac29), (30, ac30), (31, ac31), (32, ac32), (33, ac33), (34, ac34), (35, ac35), (36, ac36), (39, ac39), (40, ac40), (41, ac41), (42, ac42), (43, ac43), (44, ac44), (45, ac45), (46, ac46), (47, ac47), (48, ac48), (49, ac49), (50, ac50), (51, ac51), (52, ac52), (53, ac53), (54, ac54)]
theorem tabC_good : Good Proofs.Try.prog tabC := (.cons Proofs.Try.func2 chk2 (.cons Proofs.Try.func3 chk3 (.cons Proofs.Try.func4 chk4 (.cons Proofs.Try.func5 chk5 (.cons Proofs.Try.func6 chk6 (.cons Proofs.Try.func7 chk7 (.cons Proofs.Try.func8 chk8 (.cons Proofs.Try.func9 chk9 (.cons Proofs.Try.func10 chk10 (.cons Proofs.Try.func11 chk11 (.cons Proofs.Try.func12 chk12 (.cons Proofs.Try.func14 chk14 (.cons Proofs.Try.func15 chk15 (.cons Proofs.Try.func16 chk16 (.cons Proofs.Try.func17 chk17 (.cons Proofs.Try.func18 chk18 (.cons Proofs.Try.func19 chk19 (.cons Proofs.Try.func20 chk20 (.cons Proofs.Try.func21 chk21 (.cons Proofs.Try.func22 chk22 (.cons Proofs.Try.func23 chk23 (.cons Proofs.Try.func24 chk24 (.cons Proofs.Try.func25 chk25 (.cons Proofs.Try.func26 chk26 (.cons Proofs.Try.func27 chk27 (.cons Proofs.Try.func28 chk28 (.cons Proofs.Try.func29 chk29 (.cons Proofs.Try.func30 chk30 (.cons Proofs.Try.func31 chk31 (.cons Proofs.Try.func32 chk32 (.cons Proofs.Try.func33 chk33 (.cons Proofs.Try.func34 chk34 (.cons Proofs.Try.func35 chk35 (.cons Proofs.Try.func36 chk36 (.cons Proofs.Try.func39 chk39 (.cons Proofs.Try.func40 chk40 (.cons Proofs.Try.func41 chk41 (.cons Proofs.Try.func42 chk42 (.cons Proofs.Try.func43 chk43 (.cons Proofs.Try.func44 chk44 (.cons Proofs.Try.func45 chk45 (.cons Proofs.Try.func46 chk46 (.cons Proofs.Try.func47 chk47 (.cons Proofs.Try.func48 chk48 (.cons Proofs.Try.func49 chk49 (.cons Proofs.Try.func50 chk50 (.cons Proofs.Try.func51 chk51 (.cons Proofs.Try.func52 chk52 (.cons Proofs.Try.func53 chk53 (.cons Proofs.Try.func54 chk54 .nil))))))))))))))))))))))))))))))))))))))))))))))))))
def memL : List Memo := [m13, M54, M64, M65, M44, M55, M75, Mp3]
theorem envC : Env Proofs.Try.prog tabC (memosA memL Y0) (memosF memL Yf0) :=
  env0.addMemos tabC_good (by kernel_rfl) (fun f fn h args m n => rfl) (by
    intro M h
    simp only [memL, List.mem_cons, List.not_mem_nil, or_false] at h
    rcases h with rfl | rfl | rfl | rfl | rfl | rfl | rfl | rfl
    · exact sim13
    · exact sim54
    · exact sim64
    · exact sim65
    · exact sim44
    · exact sim55
    · exact sim75
    · exact simp3
    ) (by
    intro M h
    simp only [memL, List.mem_cons, List.not_mem_nil, or_false] at h
    rcases h with rfl | rfl | rfl | rfl | rfl | rfl | rfl | rfl <;> kernel_rfl)
theorem alt_miss {a b : Nat → List Value → FM → Nat → OR FM} {f : Nat} {args : List Value} {m : FM} {n : Nat} (h : a f args m n = .no) : altA a b f args m n = b f args m n := by
  unfold altA; rw [h]
theorem alt_hit {a b : Nat → List Value → FM → Nat → OR FM} {f : Nat} {args : List Value} {m : FM} {n : Nat} {v : Value} {m' : FM} {n' r w : Nat} (h : a f args m n = .ok v m' n' r w) : altA a b f args m n = .ok v m' n' r w := by
  unfold altA; rw [h]
theorem memo_miss {M : Memo} {f : Nat} {args : List Value} (h : (Nat.beq f M.f && veqL args M.args) = false) (m : FM) (n : Nat) : memoA M f args m n = .no := by
  unfold memoA; rw [h]; rfl
theorem memL_eq : memosA memL Y0 = altA (memoA m13) (altA (memoA M54) (altA (memoA M64) (altA (memoA M65) (altA (memoA M44) (altA (memoA M55) (altA (memoA M75) (altA (memoA Mp3) Y0))))))) := rfl
theorem awake_pureC (m : FM) (n : Nat) : Pure (callW PG (look tabC) (memosA memL Y0) 13 [] m n) m n (.bool true) := by
  rw [callW_Y (by kernel_rfl)]
  have hw : newW n 0 = 0 := Nat.zero_shiftLeft n
  have hm : memoA m13 13 [] m n = .ok (.bool true) m n 0 0 := by
    show OR.ok (.bool true) m n 0 (newW n 0) = _
    rw [hw]
  rw [memL_eq]
  exact ⟨0, alt_hit hm⟩
theorem makes_of {x : OR FM} {m : FM} {n D : Nat} {gs : List (List Int)} {f : Nat} {args : List Value} {W : Nat} {pi : List Nat} (hw : ∀ row ∈ gs, row.length = W) (hf : args.all flat = true) (hs : veqL args args = true) (hx : x = memoA (dMemo f args D gs W pi) f args m n ∨ ∀ v m' n' r w, memoA (dMemo f args D gs W pi) f args m n = .ok v m' n' r w → x = .ok v m' n' r w) : Makes x m n D gs := by
  obtain ⟨m', w, h1, h2, h3, h4⟩ := dMemo_rows (pi := pi) (disks := D) hw hf hs m n
  have hx : x = .ok (.agg #[.int .i64 D, .slice (some ⟨n, 0, none⟩) gs.length UNK]) m' (n + (gs.length + 1)) 0 w := by
    rcases hx with h | h
    · rw [h, h1]
    · exact h _ _ _ _ _ h1
  rw [hx]
  exact ⟨by omega, h2, h3, _, _, rfl, h4, by omega⟩
theorem mkC : Mk (look tabC) (memosA memL Y0) where
  d54 := fun m n => by
    rw [callW_Y (by kernel_rfl), memL_eq]
    refine makes_of (f := 37) (args := [.int .i64 5, .int .i64 4]) (W := 4) (pi := M54.pi) (by decide +kernel) (by kernel_rfl) (by kernel_rfl) (.inr fun v m' n' r w h => ?_)
    refine (alt_miss (memo_miss (M := m13) (by kernel_rfl) m n)).trans ?_
    exact alt_hit h
  d64 := fun m n => by
    rw [callW_Y (by kernel_rfl), memL_eq]
    refine makes_of (f := 37) (args := [.int .i64 6, .int .i64 4]) (W := 4) (pi := M64.pi) (by decide +kernel) (by kernel_rfl) (by kernel_rfl) (.inr fun v m' n' r w h => ?_)
    refine (alt_miss (memo_miss (M := m13) (by kernel_rfl) m n)).trans ?_
    refine (alt_miss (memo_miss (M := M54) (by kernel_rfl) m n)).trans ?_
    exact alt_hit h
  d65 := fun m n => by
    rw [callW_Y (by kernel_rfl), memL_eq]
    refine makes_of (f := 37) (args := [.int .i64 6, .int .i64 5]) (W := 5) (pi := M65.pi) (by decide +kernel) (by kernel_rfl) (by kernel_rfl) (.inr fun v m' n' r w h => ?_)
    refine (alt_miss (memo_miss (M := m13) (by kernel_rfl) m n)).trans ?_
    refine (alt_miss (memo_miss (M := M54) (by kernel_rfl) m n)).trans ?_
    refine (alt_miss (memo_miss (M := M64) (by kernel_rfl) m n)).trans ?_
    exact alt_hit h
  d44 := fun m n => by
    rw [callW_Y (by kernel_rfl), memL_eq]
    refine makes_of (f := 37) (args := [.int .i64 4, .int .i64 4]) (W := 4) (pi := M44.pi) (by decide +kernel) (by kernel_rfl) (by kernel_rfl) (.inr fun v m' n' r w h => ?_)
    refine (alt_miss (memo_miss (M := m13) (by kernel_rfl) m n)).trans ?_
    refine (alt_miss (memo_miss (M := M54) (by kernel_rfl) m n)).trans ?_
    refine (alt_miss (memo_miss (M := M64) (by kernel_rfl) m n)).trans ?_
    refine (alt_miss (memo_miss (M := M65) (by kernel_rfl) m n)).trans ?_
    exact alt_hit h
  d55 := fun m n => by
    rw [callW_Y (by kernel_rfl), memL_eq]
    refine makes_of (f := 37) (args := [.int .i64 5, .int .i64 5]) (W := 5) (pi := M55.pi) (by decide +kernel) (by kernel_rfl) (by kernel_rfl) (.inr fun v m' n' r w h => ?_)
    refine (alt_miss (memo_miss (M := m13) (by kernel_rfl) m n)).trans ?_
    refine (alt_miss (memo_miss (M := M54) (by kernel_rfl) m n)).trans ?_
    refine (alt_miss (memo_miss (M := M64) (by kernel_rfl) m n)).trans ?_
    refine (alt_miss (memo_miss (M := M65) (by kernel_rfl) m n)).trans ?_
    refine (alt_miss (memo_miss (M := M44) (by kernel_rfl) m n)).trans ?_
    exact alt_hit h
  d75 := fun m n => by
    rw [callW_Y (by kernel_rfl), memL_eq]
    refine makes_of (f := 37) (args := [.int .i64 7, .int .i64 5]) (W := 5) (pi := M75.pi) (by decide +kernel) (by kernel_rfl) (by kernel_rfl) (.inr fun v m' n' r w h => ?_)
    refine (alt_miss (memo_miss (M := m13) (by kernel_rfl) m n)).trans ?_
    refine (alt_miss (memo_miss (M := M54) (by kernel_rfl) m n)).trans ?_
    refine (alt_miss (memo_miss (M := M64) (by kernel_rfl) m n)).trans ?_
    refine (alt_miss (memo_miss (M := M65) (by kernel_rfl) m n)).trans ?_
    refine (alt_miss (memo_miss (M := M44) (by kernel_rfl) m n)).trans ?_
    refine (alt_miss (memo_miss (M := M55) (by kernel_rfl) m n)).trans ?_
    exact alt_hit h
  dp3 := fun m n => by
    rw [callW_Y (by kernel_rfl), memL_eq]
    refine makes_of (f := 38) (args := [.int .i64 3]) (W := 4) (pi := Mp3.pi) (by decide +kernel) (by kernel_rfl) (by kernel_rfl) (.inr fun v m' n' r w h => ?_)
    refine (alt_miss (memo_miss (M := m13) (by kernel_rfl) m n)).trans ?_
    refine (alt_miss (memo_miss (M := M54) (by kernel_rfl) m n)).trans ?_
    refine (alt_miss (memo_miss (M := M64) (by kernel_rfl) m n)).trans ?_
    refine (alt_miss (memo_miss (M := M65) (by kernel_rfl) m n)).trans ?_
    refine (alt_miss (memo_miss (M := M44) (by kernel_rfl) m n)).trans ?_
    refine (alt_miss (memo_miss (M := M55) (by kernel_rfl) m n)).trans ?_
    refine (alt_miss (memo_miss (M := M75) (by kernel_rfl) m n)).trans ?_
    exact alt_hit h
theorem tabT : Tab (look tabC) := ⟨by kernel_rfl, by kernel_rfl, by kernel_rfl, by kernel_rfl, by kernel_rfl, by kernel_rfl, by kernel_rfl, by kernel_rfl, by kernel_rfl, by kernel_rfl, by kernel_rfl, by kernel_rfl, by kernel_rfl, by kernel_rfl, by kernel_rfl, by kernel_rfl, by kernel_rfl, by kernel_rfl, by kernel_rfl, by kernel_rfl, by kernel_rfl, by kernel_rfl, by kernel_rfl, by kernel_rfl, by kernel_rfl, by kernel_rfl, by kernel_rfl, by kernel_rfl, by kernel_rfl, by kernel_rfl, by kernel_rfl, by kernel_rfl⟩
theorem calls_of {f : Nat} {args : List Value} (hrun : ∀ m n, Pure (callW PG (look tabC) (memosA memL Y0) f args m n) m n (.bool true)) (hf : args.all addrFree = true) (w : World) :
    Calls Proofs.Try.prog f args.toArray w fun e w' => e = .returned (.bool true) ∧ RowKit.Below w.heap.size w w' := by
  obtain ⟨r, hr⟩ := hrun FM0 0
  obtain ⟨k, hk⟩ := callW_some hr
  exact envC.topA (free_args hf) hk w
theorem layoutHome_calls (k : Nat) (hk : k < 65536) (g p : Int) (w : World) : Calls Proofs.Try.prog 3 #[.int .u16 k, .int .i64 g, .int .i64 p] w fun e w' => e = .returned (.bool true) ∧ RowKit.Below w.heap.size w w' :=
  calls_of (args := [.int .u16 k, .int .i64 g, .int .i64 p]) (fun m n => layoutHome_exec (by kernel_rfl) tabT (by kernel_rfl) mkC awake_pureC m n k hk g p) rfl w
theorem layoutAt_calls (k : Nat) (hk : k < 65536) (d b : Int) (w : World) : Calls Proofs.Try.prog 4 #[.int .u16 k, .agg #[.int .i64 d, .int .i64 b]] w fun e w' => e = .returned (.bool true) ∧ RowKit.Below w.heap.size w w' :=
  calls_of (args := [.int .u16 k, .agg #[.int .i64 d, .int .i64 b]]) (fun m n => layoutAt_exec (by kernel_rfl) tabT (by kernel_rfl) mkC awake_pureC m n k hk d b) rfl w
theorem layoutSlots_calls (k : Nat) (hk : k < 65536) (s g p : Int) (w : World) : Calls Proofs.Try.prog 11 #[.int .u16 k, .agg #[.int .i64 s, .int .i64 g, .int .i64 p]] w fun e w' => e = .returned (.bool true) ∧ RowKit.Below w.heap.size w w' :=
  calls_of (args := [.int .u16 k, .agg #[.int .i64 s, .int .i64 g, .int .i64 p]]) (fun m n => layoutSlots_exec (by kernel_rfl) tabT (by kernel_rfl) mkC awake_pureC m n k hk s g p) rfl w
end Go.Am.C21
namespace Go.Am.C21
open Go Go.Am
variable {E : Nat → Option AFn} {Y : Nat → List Value → FM → Nat → OR FM}
theorem formed_rows {disks : Int} {gs : List (List Int)} (h : Formed disks gs) : ∀ row ∈ gs, row.Nodup ∧ ∀ x ∈ row, 0 ≤ x ∧ x < 60 := fun row hr => by
  obtain ⟨i, hi, rfl⟩ := List.getElem_of_mem hr
  obtain ⟨h1, h2, _, g0, _, _, hgr⟩ := h
  have hrow := (hgr i _ (Nat.zero_le _) (List.getElem?_eq_getElem hi)).2
  refine ⟨rowFrom_nodup hrow, fun x hx => ?_⟩
  obtain ⟨k, hk, rfl⟩ := List.getElem_of_mem hx
  obtain ⟨k1, k2, _⟩ := hrow k (Nat.zero_le _) hk _ (List.getElem?_eq_getElem hk)
  omega
theorem vr_vn {disks tiles spare : Int} {gs : List (List Int)} (h : VR disks gs tiles spare) : ∃ D T S W r : Nat, disks = D ∧ tiles = T ∧ spare = S ∧ VN D gs T S W r := by
  obtain ⟨hg, t1, t2, s1, s2, w1, w2, q1, q2, q3⟩ := h
  have hf := hg.1
  obtain ⟨f1, f2, f3, g0, hg0, f5, f6⟩ := hg.1
  have h0 : 0 < gs.length := (List.getElem?_eq_some_iff.1 hg0).1
  have hwd : width gs = (g0.length : Int) := by unfold width; rw [hg0]; rfl
  have hr : (counts zeros gs)[0]! = (c2 gs 0 0 : Int) := by
    have := counts_zeros (formed_rows hf) f3 (a := 0) (b := 0) (by omega) (by omega)
    rw [List.getElem!_eq_getElem?_getD]
    exact this
  have hc : c2 gs 0 0 ≤ gs.length := List.countP_le_length
  obtain ⟨D, rfl⟩ : ∃ D : Nat, disks = D := ⟨disks.toNat, by omega⟩
  obtain ⟨T, rfl⟩ : ∃ D : Nat, tiles = D := ⟨tiles.toNat, by omega⟩
  obtain ⟨S, rfl⟩ : ∃ D : Nat, spare = D := ⟨spare.toNat, by omega⟩
  rw [hwd] at w1 w2 q2
  rw [hr] at q3
  have b1 : T * gs.length ≤ 256 * 4096 := Nat.mul_le_mul (by omega) f3
  have b2 : T * c2 gs 0 0 ≤ 256 * 4096 := Nat.mul_le_mul (by omega) (by omega)
  have e1 : IntKind.i64.wrap ((T : Int) * (gs.length : Int)) = ((T * gs.length : Nat) : Int) := by rw [nat_mul]; exact wrap_small (by omega) (by omega)
  have e2 : IntKind.i64.wrap ((T : Int) * (c2 gs 0 0 : Int)) = ((T * c2 gs 0 0 : Nat) : Int) := by rw [nat_mul]; exact wrap_small (by omega) (by omega)
  have e3 : IntKind.i64.wrap ((g0.length : Int) - 3) = ((g0.length - 3 : Nat) : Int) := by rw [wrap_small (by omega) (by omega)]; omega
  rw [e1] at q1 q2
  rw [e2] at q3
  rw [e3, nat_mul] at q2
  have b3 : T * gs.length * (g0.length - 3) ≤ 4096 * 13 := Nat.mul_le_mul (by omega) (by omega)
  rw [wrap_small (by omega) (by omega)] at q2
  rw [nat_add, wrap_small (by omega) (by omega)] at q3
  exact ⟨D, T, S, g0.length, c2 gs 0 0, rfl, rfl, rfl, ⟨hg, hr, fun g hgm => by
    obtain ⟨i, hi, rfl⟩ := List.getElem_of_mem hgm
    exact (f6 i _ (Nat.zero_le _) (List.getElem?_eq_getElem hi)).1, by omega, by omega, by omega, by omega, by omega, by omega⟩⟩
theorem nb_tt : binV PG .neq 4 (.bool true) (.bool true) = some (.bool false) := by kernel_rfl
theorem nb_ff : binV PG .neq 4 (.bool false) (.bool false) = some (.bool false) := by kernel_rfl
section
variable (T : Tab E) (m : FM) (n : Nat) (disks tiles spare : Int) (gv : Value) (gs : List (List Int)) (hgs : Rows m n gv gs) (hl : gs.length < 4611686018427387904) (hrow : ∀ g ∈ gs, g.length < 4611686018427387904) (hV : ¬ VR disks gs tiles spare)
include T hgs hl hrow hV
theorem measure_badR : Rt (callW PG E Y 39 [.agg #[.int .i64 disks, gv, .int .i64 tiles, .int .i64 spare]] m n) fun v m' n' w => n ≤ n' ∧ (∀ b, b < n → m' b = m b) ∧ (∀ j, j ≤ n → Nat.mod w (bit j) = 0) ∧ v = .tuple #[num0, .bool false] := by
  obtain ⟨m', n', r, w, h, h1, h2, h3⟩ := measure_bad (E := E) (Y := Y) T.e39 T.e34 T.e47 T.e46 m n disks tiles spare gv gs hgs hl hrow hV
  rw [h]
  exact ⟨h1, h2, fun j hj => frz_down h3 hj, rfl⟩
theorem valid_bad : Pure (callW PG E Y 28 [.agg #[.int .i64 disks, gv, .int .i64 tiles, .int .i64 spare]] m n) m n (.bool false) := by
  refine pure_spec T.e28 rfl rfl ?_
  simp only [ac28]
  simp (implicitDefEqProofs := false) (disch := omega) only [WPs, opds, List.all_cons, List.all_nil, List.cons_append, List.nil_append, cond_true, cond_false, eq_self, List.map_cons, List.map_nil, Nat.reduceAdd, Nat.testBit, Nat.reduceShiftRight, Nat.reduceAnd, Nat.reduceBNe, Nat.reduceMul]
  refine use_rt (measure_badR T _ _ disks tiles spare gv gs (hgs.frame (by omega) fun b hb => by simp (implicitDefEqProofs := false) (disch := omega) only [WPs, opds, List.all_cons, List.all_nil, List.cons_append, List.nil_append, cond_true, cond_false, eq_self, List.map_cons, List.map_nil, Nat.reduceAdd, Nat.testBit, Nat.reduceShiftRight, Nat.reduceAnd, Nat.reduceBNe, Nat.reduceMul]) hl hrow hV) fun v m' n' r1 w1 h => ?_
  obtain ⟨hn, hf, hw, rfl⟩ := h
  simp (implicitDefEqProofs := false) (disch := omega) only [WPs, opds, List.all_cons, List.all_nil, List.cons_append, List.nil_append, cond_true, cond_false, eq_self, List.map_cons, List.map_nil, Nat.reduceAdd, Nat.testBit, Nat.reduceShiftRight, Nat.reduceAnd, Nat.reduceBNe, Nat.reduceMul, num0, hw, hf]
theorem width_bad : Pure (callW PG E Y 26 [.agg #[.int .i64 disks, gv, .int .i64 tiles, .int .i64 spare]] m n) m n (.int .i64 0) := by
  refine pure_spec T.e26 rfl rfl ?_
  simp only [ac26]
  simp (implicitDefEqProofs := false) (disch := omega) only [WPs, opds, List.all_cons, List.all_nil, List.cons_append, List.nil_append, cond_true, cond_false, eq_self, List.map_cons, List.map_nil, Nat.reduceAdd, Nat.testBit, Nat.reduceShiftRight, Nat.reduceAnd, Nat.reduceBNe, Nat.reduceMul]
  refine use_rt (measure_badR T _ _ disks tiles spare gv gs (hgs.frame (by omega) fun b hb => by simp (implicitDefEqProofs := false) (disch := omega) only [WPs, opds, List.all_cons, List.all_nil, List.cons_append, List.nil_append, cond_true, cond_false, eq_self, List.map_cons, List.map_nil, Nat.reduceAdd, Nat.testBit, Nat.reduceShiftRight, Nat.reduceAnd, Nat.reduceBNe, Nat.reduceMul]) hl hrow hV) fun v m' n' r1 w1 h => ?_
  obtain ⟨hn, hf, hw, rfl⟩ := h
  simp (implicitDefEqProofs := false) (disch := omega) only [WPs, opds, List.all_cons, List.all_nil, List.cons_append, List.nil_append, cond_true, cond_false, eq_self, List.map_cons, List.map_nil, Nat.reduceAdd, Nat.testBit, Nat.reduceShiftRight, Nat.reduceAnd, Nat.reduceBNe, Nat.reduceMul, num0, hw, hf]
theorem blocks_bad : Pure (callW PG E Y 24 [.agg #[.int .i64 disks, gv, .int .i64 tiles, .int .i64 spare]] m n) m n (.int .i64 0) := by
  refine pure_spec T.e24 rfl rfl ?_
  simp only [ac24]
  simp (implicitDefEqProofs := false) (disch := omega) only [WPs, opds, List.all_cons, List.all_nil, List.cons_append, List.nil_append, cond_true, cond_false, eq_self, List.map_cons, List.map_nil, Nat.reduceAdd, Nat.testBit, Nat.reduceShiftRight, Nat.reduceAnd, Nat.reduceBNe, Nat.reduceMul]
  refine use_rt (measure_badR T _ _ disks tiles spare gv gs (hgs.frame (by omega) fun b hb => by simp (implicitDefEqProofs := false) (disch := omega) only [WPs, opds, List.all_cons, List.all_nil, List.cons_append, List.nil_append, cond_true, cond_false, eq_self, List.map_cons, List.map_nil, Nat.reduceAdd, Nat.testBit, Nat.reduceShiftRight, Nat.reduceAnd, Nat.reduceBNe, Nat.reduceMul]) hl hrow hV) fun v m' n' r1 w1 h => ?_
  obtain ⟨hn, hf, hw, rfl⟩ := h
  simp (implicitDefEqProofs := false) (disch := omega) only [WPs, opds, List.all_cons, List.all_nil, List.cons_append, List.nil_append, cond_true, cond_false, eq_self, List.map_cons, List.map_nil, Nat.reduceAdd, Nat.testBit, Nat.reduceShiftRight, Nat.reduceAnd, Nat.reduceBNe, Nat.reduceMul, num0, hw, hf]
theorem data_bad : Pure (callW PG E Y 30 [.agg #[.int .i64 disks, gv, .int .i64 tiles, .int .i64 spare]] m n) m n (.int .i64 0) := by
  refine pure_spec T.e30 rfl rfl ?_
  simp only [ac30]
  simp (implicitDefEqProofs := false) (disch := omega) only [WPs, opds, List.all_cons, List.all_nil, List.cons_append, List.nil_append, cond_true, cond_false, eq_self, List.map_cons, List.map_nil, Nat.reduceAdd, Nat.testBit, Nat.reduceShiftRight, Nat.reduceAnd, Nat.reduceBNe, Nat.reduceMul]
  refine use_rt (measure_badR T _ _ disks tiles spare gv gs (hgs.frame (by omega) fun b hb => by simp (implicitDefEqProofs := false) (disch := omega) only [WPs, opds, List.all_cons, List.all_nil, List.cons_append, List.nil_append, cond_true, cond_false, eq_self, List.map_cons, List.map_nil, Nat.reduceAdd, Nat.testBit, Nat.reduceShiftRight, Nat.reduceAnd, Nat.reduceBNe, Nat.reduceMul]) hl hrow hV) fun v m' n' r1 w1 h => ?_
  obtain ⟨hn, hf, hw, rfl⟩ := h
  simp (implicitDefEqProofs := false) (disch := omega) only [WPs, opds, List.all_cons, List.all_nil, List.cons_append, List.nil_append, cond_true, cond_false, eq_self, List.map_cons, List.map_nil, Nat.reduceAdd, Nat.testBit, Nat.reduceShiftRight, Nat.reduceAnd, Nat.reduceBNe, Nat.reduceMul, num0, hw, hf]
theorem groups_bad : Pure (callW PG E Y 25 [.agg #[.int .i64 disks, gv, .int .i64 tiles, .int .i64 spare]] m n) m n (.int .i64 0) := by
  refine pure_spec T.e25 rfl rfl ?_
  simp only [ac25]
  simp (implicitDefEqProofs := false) (disch := omega) only [WPs, opds, List.all_cons, List.all_nil, List.cons_append, List.nil_append, cond_true, cond_false, eq_self, List.map_cons, List.map_nil, Nat.reduceAdd, Nat.testBit, Nat.reduceShiftRight, Nat.reduceAnd, Nat.reduceBNe, Nat.reduceMul]
  refine use_rt (measure_badR T _ _ disks tiles spare gv gs (hgs.frame (by omega) fun b hb => by simp (implicitDefEqProofs := false) (disch := omega) only [WPs, opds, List.all_cons, List.all_nil, List.cons_append, List.nil_append, cond_true, cond_false, eq_self, List.map_cons, List.map_nil, Nat.reduceAdd, Nat.testBit, Nat.reduceShiftRight, Nat.reduceAnd, Nat.reduceBNe, Nat.reduceMul]) hl hrow hV) fun v m' n' r1 w1 h => ?_
  obtain ⟨hn, hf, hw, rfl⟩ := h
  simp (implicitDefEqProofs := false) (disch := omega) only [WPs, opds, List.all_cons, List.all_nil, List.cons_append, List.nil_append, cond_true, cond_false, eq_self, List.map_cons, List.map_nil, Nat.reduceAdd, Nat.testBit, Nat.reduceShiftRight, Nat.reduceAnd, Nat.reduceBNe, Nat.reduceMul, num0, hw, hf]
  refine use_pure (groups_spec T.e45 _ _ 0 0 0 0 0 0 0 0 (.slice none 0 0) (.slice none 0 0) (.slice none 0 0) (by omega)) fun r2 => ?_
  simp (implicitDefEqProofs := false) (disch := omega) only [WPs, opds, List.all_cons, List.all_nil, List.cons_append, List.nil_append, cond_true, cond_false, eq_self, List.map_cons, List.map_nil, Nat.reduceAdd, Nat.testBit, Nat.reduceShiftRight, Nat.reduceAnd, Nat.reduceBNe, Nat.reduceMul, hw, Nat.mul_zero]
  rfl
theorem slots_bad : Pure (callW PG E Y 31 [.agg #[.int .i64 disks, gv, .int .i64 tiles, .int .i64 spare]] m n) m n (.int .i64 0) := by
  refine pure_spec T.e31 rfl rfl ?_
  simp only [ac31]
  simp (implicitDefEqProofs := false) (disch := omega) only [WPs, opds, List.all_cons, List.all_nil, List.cons_append, List.nil_append, cond_true, cond_false, eq_self, List.map_cons, List.map_nil, Nat.reduceAdd, Nat.testBit, Nat.reduceShiftRight, Nat.reduceAnd, Nat.reduceBNe, Nat.reduceMul, hgs.belF]
  refine use_pureX (groups_bad T _ _ disks tiles spare gv gs (hgs.frame (by omega) fun b hb => by simp (implicitDefEqProofs := false) (disch := omega) only [WPs, opds, List.all_cons, List.all_nil, List.cons_append, List.nil_append, cond_true, cond_false, eq_self, List.map_cons, List.map_nil, Nat.reduceAdd, Nat.testBit, Nat.reduceShiftRight, Nat.reduceAnd, Nat.reduceBNe, Nat.reduceMul]) hl hrow hV) fun r2 => ?_
  simp (implicitDefEqProofs := false) (disch := omega) only [WPs, opds, List.all_cons, List.all_nil, List.cons_append, List.nil_append, cond_true, cond_false, eq_self, List.map_cons, List.map_nil, Nat.reduceAdd, Nat.testBit, Nat.reduceShiftRight, Nat.reduceAnd, Nat.reduceBNe, Nat.reduceMul, hgs.belF]
  refine use_pureX (data_bad T _ _ disks tiles spare gv gs (hgs.frame (by omega) fun b hb => by simp (implicitDefEqProofs := false) (disch := omega) only [WPs, opds, List.all_cons, List.all_nil, List.cons_append, List.nil_append, cond_true, cond_false, eq_self, List.map_cons, List.map_nil, Nat.reduceAdd, Nat.testBit, Nat.reduceShiftRight, Nat.reduceAnd, Nat.reduceBNe, Nat.reduceMul]) hl hrow hV) fun r2 => ?_
  simp (implicitDefEqProofs := false) (disch := omega) only [WPs, opds, List.all_cons, List.all_nil, List.cons_append, List.nil_append, cond_true, cond_false, eq_self, List.map_cons, List.map_nil, Nat.reduceAdd, Nat.testBit, Nat.reduceShiftRight, Nat.reduceAnd, Nat.reduceBNe, Nat.reduceMul, Int.mul_zero]
end
theorem layoutValid_exec (hE : E 7 = some ac7) (T : Tab E) (hA : ∀ m n, Pure (callW PG E Y 13 [] m n) m n (.bool true)) (m : FM) (n : Nat) (disks tiles spare : Int) (gv : Value) (gs : List (List Int)) (hgs : Rows m n gv gs) :
    Pure (callW PG E Y 7 [.agg #[.int .i64 disks, gv, .int .i64 tiles, .int .i64 spare]] m n) m n (.bool true) := by
  classical
  refine pure_spec hE rfl rfl ?_
  simp only [ac7]
  have hFr : ∀ (mm : FM) (N : Nat), n ≤ N → (∀ b, b < n → mm b = m b) → Rows mm N gv gs := fun mm N h1 h2 => hgs.frame h1 h2
  simp (implicitDefEqProofs := false) (disch := omega) only [WPs, opds, List.all_cons, List.all_nil, List.cons_append, List.nil_append, cond_true, cond_false, eq_self, List.map_cons, List.map_nil, Nat.reduceAdd, Nat.testBit, Nat.reduceShiftRight, Nat.reduceAnd, Nat.reduceBNe, Nat.reduceMul]
  refine use_pure (hA _ _) fun _ => ?_
  simp (implicitDefEqProofs := false) (disch := omega) only [WPs, opds, List.all_cons, List.all_nil, List.cons_append, List.nil_append, cond_true, cond_false, eq_self, List.map_cons, List.map_nil, Nat.reduceAdd, Nat.testBit, Nat.reduceShiftRight, Nat.reduceAnd, Nat.reduceBNe, Nat.reduceMul]
  refine use_pure (few_spec T.e27 _ _ disks tiles spare gv gs (hFr _ _ (by omega) fun b hb => by simp (implicitDefEqProofs := false) (disch := omega) only [WPs, opds, List.all_cons, List.all_nil, List.cons_append, List.nil_append, cond_true, cond_false, eq_self, List.map_cons, List.map_nil, Nat.reduceAdd, Nat.testBit, Nat.reduceShiftRight, Nat.reduceAnd, Nat.reduceBNe, Nat.reduceMul])) fun r2 => ?_
  by_cases hF : Few gs
  · obtain ⟨hl, hrow⟩ := few_len hF
    rw [decide_eq_true hF]
    simp (implicitDefEqProofs := false) (disch := omega) only [WPs, opds, List.all_cons, List.all_nil, List.cons_append, List.nil_append, cond_true, cond_false, eq_self, List.map_cons, List.map_nil, Nat.reduceAdd, Nat.testBit, Nat.reduceShiftRight, Nat.reduceAnd, Nat.reduceBNe, Nat.reduceMul, hgs.belF]
    by_cases hV : VR disks gs tiles spare
    · obtain ⟨D, Ti, S, W, r, rfl, rfl, rfl, hN⟩ := vr_vn hV
      have hb3 := hN.b3
      refine use_pureX (valid_good T _ _ D Ti S W r gv gs (hFr _ _ (by omega) fun b hb => by simp (implicitDefEqProofs := false) (disch := omega) only [WPs, opds, List.all_cons, List.all_nil, List.cons_append, List.nil_append, cond_true, cond_false, eq_self, List.map_cons, List.map_nil, Nat.reduceAdd, Nat.testBit, Nat.reduceShiftRight, Nat.reduceAnd, Nat.reduceBNe, Nat.reduceMul]) hN) fun r3 => ?_
      simp (implicitDefEqProofs := false) (disch := omega) only [WPs, opds, List.all_cons, List.all_nil, List.cons_append, List.nil_append, cond_true, cond_false, eq_self, List.map_cons, List.map_nil, Nat.reduceAdd, Nat.testBit, Nat.reduceShiftRight, Nat.reduceAnd, Nat.reduceBNe, Nat.reduceMul, hgs.belF]
      refine use_pureX (refValid_spec T.e29 T.e44 _ _ D Ti S gv gs (hFr _ _ (by omega) fun b hb => by simp (implicitDefEqProofs := false) (disch := omega) only [WPs, opds, List.all_cons, List.all_nil, List.cons_append, List.nil_append, cond_true, cond_false, eq_self, List.map_cons, List.map_nil, Nat.reduceAdd, Nat.testBit, Nat.reduceShiftRight, Nat.reduceAnd, Nat.reduceBNe, Nat.reduceMul]) hl hrow) fun r4 => ?_
      rw [decide_eq_true hV]
      simp (implicitDefEqProofs := false) (disch := omega) only [WPs, opds, List.all_cons, List.all_nil, List.cons_append, List.nil_append, cond_true, cond_false, eq_self, List.map_cons, List.map_nil, Nat.reduceAdd, Nat.testBit, Nat.reduceShiftRight, Nat.reduceAnd, Nat.reduceBNe, Nat.reduceMul, nb_tt]
      refine use_pure (refValid_spec T.e29 T.e44 _ _ D Ti S gv gs (hFr _ _ (by omega) fun b hb => by simp (implicitDefEqProofs := false) (disch := omega) only [WPs, opds, List.all_cons, List.all_nil, List.cons_append, List.nil_append, cond_true, cond_false, eq_self, List.map_cons, List.map_nil, Nat.reduceAdd, Nat.testBit, Nat.reduceShiftRight, Nat.reduceAnd, Nat.reduceBNe, Nat.reduceMul]) hl hrow) fun r4 => ?_
      rw [decide_eq_true hV]
      simp (implicitDefEqProofs := false) (disch := omega) only [WPs, opds, List.all_cons, List.all_nil, List.cons_append, List.nil_append, cond_true, cond_false, eq_self, List.map_cons, List.map_nil, Nat.reduceAdd, Nat.testBit, Nat.reduceShiftRight, Nat.reduceAnd, Nat.reduceBNe, Nat.reduceMul, hgs.belF]
      refine use_pureX (width_good T _ _ D Ti S W r gv gs (hFr _ _ (by omega) fun b hb => by simp (implicitDefEqProofs := false) (disch := omega) only [WPs, opds, List.all_cons, List.all_nil, List.cons_append, List.nil_append, cond_true, cond_false, eq_self, List.map_cons, List.map_nil, Nat.reduceAdd, Nat.testBit, Nat.reduceShiftRight, Nat.reduceAnd, Nat.reduceBNe, Nat.reduceMul]) hN) fun r5 => ?_
      simp (implicitDefEqProofs := false) (disch := omega) only [WPs, opds, List.all_cons, List.all_nil, List.cons_append, List.nil_append, cond_true, cond_false, eq_self, List.map_cons, List.map_nil, Nat.reduceAdd, Nat.testBit, Nat.reduceShiftRight, Nat.reduceAnd, Nat.reduceBNe, Nat.reduceMul, hgs.belF]
      refine use_pureX (refWidth T _ _ D Ti S W r gv gs (hFr _ _ (by omega) fun b hb => by simp (implicitDefEqProofs := false) (disch := omega) only [WPs, opds, List.all_cons, List.all_nil, List.cons_append, List.nil_append, cond_true, cond_false, eq_self, List.map_cons, List.map_nil, Nat.reduceAdd, Nat.testBit, Nat.reduceShiftRight, Nat.reduceAnd, Nat.reduceBNe, Nat.reduceMul]) hN) fun r5 => ?_
      simp (implicitDefEqProofs := false) (disch := omega) only [WPs, opds, List.all_cons, List.all_nil, List.cons_append, List.nil_append, cond_true, cond_false, eq_self, List.map_cons, List.map_nil, Nat.reduceAdd, Nat.testBit, Nat.reduceShiftRight, Nat.reduceAnd, Nat.reduceBNe, Nat.reduceMul, hgs.belF]
      refine use_pureX (data_good T _ _ D Ti S W r gv gs (hFr _ _ (by omega) fun b hb => by simp (implicitDefEqProofs := false) (disch := omega) only [WPs, opds, List.all_cons, List.all_nil, List.cons_append, List.nil_append, cond_true, cond_false, eq_self, List.map_cons, List.map_nil, Nat.reduceAdd, Nat.testBit, Nat.reduceShiftRight, Nat.reduceAnd, Nat.reduceBNe, Nat.reduceMul]) hN) fun r5 => ?_
      simp (implicitDefEqProofs := false) (disch := omega) only [WPs, opds, List.all_cons, List.all_nil, List.cons_append, List.nil_append, cond_true, cond_false, eq_self, List.map_cons, List.map_nil, Nat.reduceAdd, Nat.testBit, Nat.reduceShiftRight, Nat.reduceAnd, Nat.reduceBNe, Nat.reduceMul, hgs.belF]
      refine use_pureX (refWidth T _ _ D Ti S W r gv gs (hFr _ _ (by omega) fun b hb => by simp (implicitDefEqProofs := false) (disch := omega) only [WPs, opds, List.all_cons, List.all_nil, List.cons_append, List.nil_append, cond_true, cond_false, eq_self, List.map_cons, List.map_nil, Nat.reduceAdd, Nat.testBit, Nat.reduceShiftRight, Nat.reduceAnd, Nat.reduceBNe, Nat.reduceMul]) hN) fun r5 => ?_
      simp (implicitDefEqProofs := false) (disch := omega) only [WPs, opds, List.all_cons, List.all_nil, List.cons_append, List.nil_append, cond_true, cond_false, eq_self, List.map_cons, List.map_nil, Nat.reduceAdd, Nat.testBit, Nat.reduceShiftRight, Nat.reduceAnd, Nat.reduceBNe, Nat.reduceMul, hgs.belF]
      refine use_pureX (groups_good T _ _ D Ti S W r gv gs (hFr _ _ (by omega) fun b hb => by simp (implicitDefEqProofs := false) (disch := omega) only [WPs, opds, List.all_cons, List.all_nil, List.cons_append, List.nil_append, cond_true, cond_false, eq_self, List.map_cons, List.map_nil, Nat.reduceAdd, Nat.testBit, Nat.reduceShiftRight, Nat.reduceAnd, Nat.reduceBNe, Nat.reduceMul]) hN) fun r5 => ?_
      simp (implicitDefEqProofs := false) (disch := omega) only [WPs, opds, List.all_cons, List.all_nil, List.cons_append, List.nil_append, cond_true, cond_false, eq_self, List.map_cons, List.map_nil, Nat.reduceAdd, Nat.testBit, Nat.reduceShiftRight, Nat.reduceAnd, Nat.reduceBNe, Nat.reduceMul, hgs.belF]
      refine use_pureX (refGroups T _ _ D Ti S W r gv gs (hFr _ _ (by omega) fun b hb => by simp (implicitDefEqProofs := false) (disch := omega) only [WPs, opds, List.all_cons, List.all_nil, List.cons_append, List.nil_append, cond_true, cond_false, eq_self, List.map_cons, List.map_nil, Nat.reduceAdd, Nat.testBit, Nat.reduceShiftRight, Nat.reduceAnd, Nat.reduceBNe, Nat.reduceMul]) hN) fun r5 => ?_
      simp (implicitDefEqProofs := false) (disch := omega) only [WPs, opds, List.all_cons, List.all_nil, List.cons_append, List.nil_append, cond_true, cond_false, eq_self, List.map_cons, List.map_nil, Nat.reduceAdd, Nat.testBit, Nat.reduceShiftRight, Nat.reduceAnd, Nat.reduceBNe, Nat.reduceMul, hgs.belF]
      refine use_pureX (slots_good T _ _ D Ti S W r gv gs (hFr _ _ (by omega) fun b hb => by simp (implicitDefEqProofs := false) (disch := omega) only [WPs, opds, List.all_cons, List.all_nil, List.cons_append, List.nil_append, cond_true, cond_false, eq_self, List.map_cons, List.map_nil, Nat.reduceAdd, Nat.testBit, Nat.reduceShiftRight, Nat.reduceAnd, Nat.reduceBNe, Nat.reduceMul]) hN) fun r5 => ?_
      simp (implicitDefEqProofs := false) (disch := omega) only [WPs, opds, List.all_cons, List.all_nil, List.cons_append, List.nil_append, cond_true, cond_false, eq_self, List.map_cons, List.map_nil, Nat.reduceAdd, Nat.testBit, Nat.reduceShiftRight, Nat.reduceAnd, Nat.reduceBNe, Nat.reduceMul, hgs.belF]
      refine use_pureX (refSlots T _ _ D Ti S W r gv gs (hFr _ _ (by omega) fun b hb => by simp (implicitDefEqProofs := false) (disch := omega) only [WPs, opds, List.all_cons, List.all_nil, List.cons_append, List.nil_append, cond_true, cond_false, eq_self, List.map_cons, List.map_nil, Nat.reduceAdd, Nat.testBit, Nat.reduceShiftRight, Nat.reduceAnd, Nat.reduceBNe, Nat.reduceMul]) hN) fun r5 => ?_
      simp (implicitDefEqProofs := false) (disch := omega) only [WPs, opds, List.all_cons, List.all_nil, List.cons_append, List.nil_append, cond_true, cond_false, eq_self, List.map_cons, List.map_nil, Nat.reduceAdd, Nat.testBit, Nat.reduceShiftRight, Nat.reduceAnd, Nat.reduceBNe, Nat.reduceMul, hgs.belF]
      refine use_pureX (blocks_good T _ _ D Ti S W r gv gs (hFr _ _ (by omega) fun b hb => by simp (implicitDefEqProofs := false) (disch := omega) only [WPs, opds, List.all_cons, List.all_nil, List.cons_append, List.nil_append, cond_true, cond_false, eq_self, List.map_cons, List.map_nil, Nat.reduceAdd, Nat.testBit, Nat.reduceShiftRight, Nat.reduceAnd, Nat.reduceBNe, Nat.reduceMul]) hN) fun r5 => ?_
      simp (implicitDefEqProofs := false) (disch := omega) only [WPs, opds, List.all_cons, List.all_nil, List.cons_append, List.nil_append, cond_true, cond_false, eq_self, List.map_cons, List.map_nil, Nat.reduceAdd, Nat.testBit, Nat.reduceShiftRight, Nat.reduceAnd, Nat.reduceBNe, Nat.reduceMul, hgs.belF]
      refine use_pureX (refBlocks T _ _ D Ti S W r gv gs (hFr _ _ (by omega) fun b hb => by simp (implicitDefEqProofs := false) (disch := omega) only [WPs, opds, List.all_cons, List.all_nil, List.cons_append, List.nil_append, cond_true, cond_false, eq_self, List.map_cons, List.map_nil, Nat.reduceAdd, Nat.testBit, Nat.reduceShiftRight, Nat.reduceAnd, Nat.reduceBNe, Nat.reduceMul]) hN) fun r5 => ?_
      simp (implicitDefEqProofs := false) (disch := omega) only [WPs, opds, List.all_cons, List.all_nil, List.cons_append, List.nil_append, cond_true, cond_false, eq_self, List.map_cons, List.map_nil, Nat.reduceAdd, Nat.testBit, Nat.reduceShiftRight, Nat.reduceAnd, Nat.reduceBNe, Nat.reduceMul, hgs.belF]
    · refine use_pureX (valid_bad T _ _ disks tiles spare gv gs (hFr _ _ (by omega) fun b hb => by simp (implicitDefEqProofs := false) (disch := omega) only [WPs, opds, List.all_cons, List.all_nil, List.cons_append, List.nil_append, cond_true, cond_false, eq_self, List.map_cons, List.map_nil, Nat.reduceAdd, Nat.testBit, Nat.reduceShiftRight, Nat.reduceAnd, Nat.reduceBNe, Nat.reduceMul]) hl hrow hV) fun r3 => ?_
      simp (implicitDefEqProofs := false) (disch := omega) only [WPs, opds, List.all_cons, List.all_nil, List.cons_append, List.nil_append, cond_true, cond_false, eq_self, List.map_cons, List.map_nil, Nat.reduceAdd, Nat.testBit, Nat.reduceShiftRight, Nat.reduceAnd, Nat.reduceBNe, Nat.reduceMul, hgs.belF]
      refine use_pureX (refValid_spec T.e29 T.e44 _ _ disks tiles spare gv gs (hFr _ _ (by omega) fun b hb => by simp (implicitDefEqProofs := false) (disch := omega) only [WPs, opds, List.all_cons, List.all_nil, List.cons_append, List.nil_append, cond_true, cond_false, eq_self, List.map_cons, List.map_nil, Nat.reduceAdd, Nat.testBit, Nat.reduceShiftRight, Nat.reduceAnd, Nat.reduceBNe, Nat.reduceMul]) hl hrow) fun r4 => ?_
      rw [decide_eq_false hV]
      simp (implicitDefEqProofs := false) (disch := omega) only [WPs, opds, List.all_cons, List.all_nil, List.cons_append, List.nil_append, cond_true, cond_false, eq_self, List.map_cons, List.map_nil, Nat.reduceAdd, Nat.testBit, Nat.reduceShiftRight, Nat.reduceAnd, Nat.reduceBNe, Nat.reduceMul, nb_ff]
      refine use_pure (refValid_spec T.e29 T.e44 _ _ disks tiles spare gv gs (hFr _ _ (by omega) fun b hb => by simp (implicitDefEqProofs := false) (disch := omega) only [WPs, opds, List.all_cons, List.all_nil, List.cons_append, List.nil_append, cond_true, cond_false, eq_self, List.map_cons, List.map_nil, Nat.reduceAdd, Nat.testBit, Nat.reduceShiftRight, Nat.reduceAnd, Nat.reduceBNe, Nat.reduceMul]) hl hrow) fun r4 => ?_
      rw [decide_eq_false hV]
      simp (implicitDefEqProofs := false) (disch := omega) only [WPs, opds, List.all_cons, List.all_nil, List.cons_append, List.nil_append, cond_true, cond_false, eq_self, List.map_cons, List.map_nil, Nat.reduceAdd, Nat.testBit, Nat.reduceShiftRight, Nat.reduceAnd, Nat.reduceBNe, Nat.reduceMul]
      refine use_pure (width_bad T _ _ disks tiles spare gv gs (hFr _ _ (by omega) fun b hb => by simp (implicitDefEqProofs := false) (disch := omega) only [WPs, opds, List.all_cons, List.all_nil, List.cons_append, List.nil_append, cond_true, cond_false, eq_self, List.map_cons, List.map_nil, Nat.reduceAdd, Nat.testBit, Nat.reduceShiftRight, Nat.reduceAnd, Nat.reduceBNe, Nat.reduceMul]) hl hrow hV) fun r5 => ?_
      simp (implicitDefEqProofs := false) (disch := omega) only [WPs, opds, List.all_cons, List.all_nil, List.cons_append, List.nil_append, cond_true, cond_false, eq_self, List.map_cons, List.map_nil, Nat.reduceAdd, Nat.testBit, Nat.reduceShiftRight, Nat.reduceAnd, Nat.reduceBNe, Nat.reduceMul, hgs.belF]
      refine use_pure (data_bad T _ _ disks tiles spare gv gs (hFr _ _ (by omega) fun b hb => by simp (implicitDefEqProofs := false) (disch := omega) only [WPs, opds, List.all_cons, List.all_nil, List.cons_append, List.nil_append, cond_true, cond_false, eq_self, List.map_cons, List.map_nil, Nat.reduceAdd, Nat.testBit, Nat.reduceShiftRight, Nat.reduceAnd, Nat.reduceBNe, Nat.reduceMul]) hl hrow hV) fun r5 => ?_
      simp (implicitDefEqProofs := false) (disch := omega) only [WPs, opds, List.all_cons, List.all_nil, List.cons_append, List.nil_append, cond_true, cond_false, eq_self, List.map_cons, List.map_nil, Nat.reduceAdd, Nat.testBit, Nat.reduceShiftRight, Nat.reduceAnd, Nat.reduceBNe, Nat.reduceMul, hgs.belF]
      refine use_pure (groups_bad T _ _ disks tiles spare gv gs (hFr _ _ (by omega) fun b hb => by simp (implicitDefEqProofs := false) (disch := omega) only [WPs, opds, List.all_cons, List.all_nil, List.cons_append, List.nil_append, cond_true, cond_false, eq_self, List.map_cons, List.map_nil, Nat.reduceAdd, Nat.testBit, Nat.reduceShiftRight, Nat.reduceAnd, Nat.reduceBNe, Nat.reduceMul]) hl hrow hV) fun r5 => ?_
      simp (implicitDefEqProofs := false) (disch := omega) only [WPs, opds, List.all_cons, List.all_nil, List.cons_append, List.nil_append, cond_true, cond_false, eq_self, List.map_cons, List.map_nil, Nat.reduceAdd, Nat.testBit, Nat.reduceShiftRight, Nat.reduceAnd, Nat.reduceBNe, Nat.reduceMul, hgs.belF]
      refine use_pure (slots_bad T _ _ disks tiles spare gv gs (hFr _ _ (by omega) fun b hb => by simp (implicitDefEqProofs := false) (disch := omega) only [WPs, opds, List.all_cons, List.all_nil, List.cons_append, List.nil_append, cond_true, cond_false, eq_self, List.map_cons, List.map_nil, Nat.reduceAdd, Nat.testBit, Nat.reduceShiftRight, Nat.reduceAnd, Nat.reduceBNe, Nat.reduceMul]) hl hrow hV) fun r5 => ?_
      simp (implicitDefEqProofs := false) (disch := omega) only [WPs, opds, List.all_cons, List.all_nil, List.cons_append, List.nil_append, cond_true, cond_false, eq_self, List.map_cons, List.map_nil, Nat.reduceAdd, Nat.testBit, Nat.reduceShiftRight, Nat.reduceAnd, Nat.reduceBNe, Nat.reduceMul, hgs.belF]
      refine use_pure (blocks_bad T _ _ disks tiles spare gv gs (hFr _ _ (by omega) fun b hb => by simp (implicitDefEqProofs := false) (disch := omega) only [WPs, opds, List.all_cons, List.all_nil, List.cons_append, List.nil_append, cond_true, cond_false, eq_self, List.map_cons, List.map_nil, Nat.reduceAdd, Nat.testBit, Nat.reduceShiftRight, Nat.reduceAnd, Nat.reduceBNe, Nat.reduceMul]) hl hrow hV) fun r5 => ?_
      simp (implicitDefEqProofs := false) (disch := omega) only [WPs, opds, List.all_cons, List.all_nil, List.cons_append, List.nil_append, cond_true, cond_false, eq_self, List.map_cons, List.map_nil, Nat.reduceAdd, Nat.testBit, Nat.reduceShiftRight, Nat.reduceAnd, Nat.reduceBNe, Nat.reduceMul, hgs.belF]
  · rw [decide_eq_false hF]
    simp (implicitDefEqProofs := false) (disch := omega) only [WPs, opds, List.all_cons, List.all_nil, List.cons_append, List.nil_append, cond_true, cond_false, eq_self, List.map_cons, List.map_nil, Nat.reduceAdd, Nat.testBit, Nat.reduceShiftRight, Nat.reduceAnd, Nat.reduceBNe, Nat.reduceMul]
end Go.Am.C21
namespace Go.Am
open Go
/-- the slice v of len elements of sz cells shows cs, in a block of its own at or above n0 -/
def SlZ (sz : Nat) (M : FM) (n0 N : Nat) (v : Value) (len : Nat) (cs : List Value) : Prop :=
  (len = 0 ∧ cs = [] ∧ v = .slice none 0 0) ∨ (0 < len ∧ cs.length = len * sz ∧ ∃ b, v = .slice (some ⟨b, 0, none⟩) len UNK ∧ n0 ≤ b ∧ b < N ∧ M b = some (.cells cs sz true true))
theorem SlZ.frame {sz : Nat} {M M' : FM} {n0 N N' : Nat} {v : Value} {len : Nat} {cs : List Value} (h : SlZ sz M n0 N v len cs) (hN : N ≤ N') (ht : ∀ b, n0 ≤ b → b < N → M' b = M b) : SlZ sz M' n0 N' v len cs := by
  rcases h with h | ⟨h0, hl, b, h1, h2, h3, h4⟩
  · exact .inl h
  · exact .inr ⟨h0, hl, b, h1, h2, by omega, (ht b h2 h3).trans h4⟩
theorem SlZ.low {sz : Nat} {M : FM} {n0 n1 N : Nat} {v : Value} {len : Nat} {cs : List Value} (h : SlZ sz M n0 N v len cs) (hn : n1 ≤ n0) : SlZ sz M n1 N v len cs := by
  rcases h with h | ⟨h0, hl, b, h1, h2, h3, h4⟩
  · exact .inl h
  · exact .inr ⟨h0, hl, b, h1, by omega, h3, h4⟩
theorem SlZ.len {sz : Nat} {M : FM} {n0 N : Nat} {v : Value} {len : Nat} {cs : List Value} (h : SlZ sz M n0 N v len cs) : lenV false v = some (.int .i64 (len : Int)) := by
  rcases h with ⟨rfl, rfl, rfl⟩ | ⟨_, _, b, rfl, _⟩ <;> rfl
theorem SlZ.bel {sz : Nat} {M : FM} {n0 N : Nat} {v : Value} {len : Nat} {cs : List Value} (h : SlZ sz M n0 N v len cs) (k : Nat) (hk : N ≤ k) : belowV k v = true := by
  rcases h with ⟨_, _, rfl⟩ | ⟨_, _, b, rfl, _, hb, _⟩
  · rfl
  · exact blt_true (show b < k by omega)
theorem SlZ.one {sz : Nat} {M : FM} {n0 N : Nat} {v : Value} {len : Nat} {cs : List Value} (h : SlZ sz M n0 N v len cs) : Am.one v = true := by
  rcases h with ⟨_, _, rfl⟩ | ⟨_, _, b, rfl, _⟩ <;> rfl
/-- an element's address -/
theorem SlZ.at {sz : Nat} {M : FM} {n0 N : Nat} {v : Value} {len : Nat} {cs : List Value} (h : SlZ sz M n0 N v len cs) {i : Nat} (hi : i < len) : ∃ b, idxV sz i v = some (.pointer (some ⟨b, i * sz, none⟩)) ∧ n0 ≤ b ∧ b < N ∧ M b = some (.cells cs sz true true) ∧ cs.length = len * sz := by
  rcases h with ⟨rfl, _, _⟩ | ⟨_, hl, b, rfl, h1, h2, h3⟩
  · omega
  · exact ⟨b, by rw [idx_mk hi, Nat.zero_add], h1, h2, h3, hl⟩
structure AppZ (sz : Nat) (M : FM) (n0 N : Nat) (len : Nat) (cs : List Value) (v' : Value) (M' : FM) (N' w : Nat) : Prop where
  v : v' = .slice (some ⟨N, 0, none⟩) len UNK
  n : N' = N + 1
  s : SlZ sz M' n0 N' v' len cs
  low : ∀ b, b < n0 → M' b = M b
  w : ∀ j, j ≤ n0 → Nat.mod w (bit j) = 0
theorem app_slZ {sz : Nat} {M : FM} {n0 N bytes : Nat} {v : Value} {len : Nat} {cs zs : List Value} (h : SlZ sz M n0 N v len cs) (ya : Option Addr) (yc ry : Nat) (h0 : n0 ≤ N) (hsz : 0 < sz) (hzl : zs.length = sz) (hz : zs.all Am.one = true) (hby : 0 < bytes) (hl : (len + 1) * bytes ≤ 140737488355328) :
    Rt (appO sz bytes M N v (.slice ya 1 yc) (shown M N sz v) (some (zs, ry))) fun v' M' N' w => AppZ sz M n0 N (len + 1) (cs ++ zs) v' M' N' w := by
  rcases h with ⟨rfl, rfl, rfl⟩ | ⟨hp, hcl, b, rfl, hb, hbN, hM⟩
  · rw [shown_nil, appO_mk, appV_mk]
    have hl' : (0 + 1) * bytes ≤ 140737488355328 := by simpa using hl
    rw [show (zs, ry).1.all Am.one = true from hz, blt_true hsz, blt_true hby, ble_true hl', appG_nil (by omega)]
    exact ⟨rfl, rfl, .inr ⟨by omega, by simp [hzl], N, rfl, h0, by omega, fput_same _ _ _⟩, fun b hb => fput_ne _ _ _ _ (by omega), fun j hj => frz_bit (by omega)⟩
  · rw [shown_pos hp, getb_lt hbN, hM, shownB_mk, Nat.beq_refl, cellsAt_mk, ldrop_z, cells_all hcl.symm]
    show Rt (appO sz bytes M N _ _ (some (cs, bit b)) _) _
    rw [appO_mk, appV_mk]
    rw [show (zs, ry).1.all Am.one = true from hz, blt_true hsz, blt_true hby, ble_true hl, appG_unk, getb_lt hbN, hM, appU_mk]
    exact ⟨rfl, rfl, .inr ⟨by omega, by rw [List.length_append, hcl, hzl, Nat.add_mul, Nat.one_mul], N, rfl, h0, by omega, fput_same _ _ _⟩, fun k hk => by rw [fput_ne _ _ _ _ (by omega), fput_ne _ _ _ _ (by omega)], fun j hj => by rw [frz_iff]; exact ⟨frz_bit (by omega), frz_bit (by omega)⟩⟩
end Go.Am
namespace Go.Am.C21
open Go Go.Am
variable {E : Nat → Option AFn} {Y : Nat → List Value → FM → Nat → OR FM}
/-- the group of the design at a block of a disk -/
def giOf (gs : List (List Int)) (r d b : Nat) : Nat := ((idxs 0 gs (d : Int))[b % r]?.getD 0).toNat
def memG (gs : List (List Int)) (r d b : Nat) : Nat := b / r * gs.length + giOf gs r d b
def memP (gs : List (List Int)) (W r d b : Nat) : Nat := pieceAt gs W (b / r) (giOf gs r d b) d
def memC (gs : List (List Int)) (W r d : Nat) : Nat → List Value
  | 0 => []
  | i + 1 => memC gs W r d i ++ [.int .i64 (memG gs r d i : Int), .int .i64 (memP gs W r d i : Int)]
theorem memC_len (gs : List (List Int)) (W r d : Nat) : ∀ i, (memC gs W r d i).length = i * 2
  | 0 => rfl
  | i + 1 => by rw [memC, List.length_append, memC_len gs W r d i]; simp; omega
theorem memC_get (gs : List (List Int)) (W r d : Nat) : ∀ n i, i < n → (memC gs W r d n)[i * 2]? = some (.int .i64 (memG gs r d i : Int)) ∧ (memC gs W r d n)[i * 2 + 1]? = some (.int .i64 (memP gs W r d i : Int))
  | 0, i, h => by omega
  | n + 1, i, h => by
    have hl := memC_len gs W r d n
    by_cases hi : i < n
    · obtain ⟨h1, h2⟩ := memC_get gs W r d n i hi
      rw [memC, List.getElem?_append_left (by omega), List.getElem?_append_left (by omega)]
      exact ⟨h1, h2⟩
    · obtain rfl : i = n := by omega
      rw [memC, List.getElem?_append_right (by omega), List.getElem?_append_right (by omega), hl]
      simp
theorem vn_gi {disks tiles spare W r : Nat} {gs : List (List Int)} (h : VN disks gs tiles spare W r) {d b : Nat} (hd : d < disks) (hb : b < tiles * r) :
    ∃ (hgi : giOf gs r d b < gs.length) (hol : d < (onOf disks gs).length) (hql : b % r < (onOf disks gs)[d].length), (d : Int) ∈ gs[giOf gs r d b] ∧ cnt gs (giOf gs r d b) d = b % r ∧ (onOf disks gs)[d][b % r] = giOf gs r d b ∧ b / r < tiles := by
  obtain ⟨gi, hgi, hol, hql, h1, h2, h3, h4⟩ := vn_at h hd hb
  have e : giOf gs r d b = gi := by
    unfold giOf
    have := idxs_get (d : Int) gs 0 gi hgi h1
    rw [h2] at this
    rw [this]; simp
  rw [e]
  exact ⟨hgi, hol, hql, h1, h2, by rw [h3], h4⟩
theorem onDisk_L0 (T : Tab E) (M0 : FM) (n0 pb : Nat) (disks tiles spare W r h c : Nat) (gv rv ov : Value) (gs : List (List Int)) (hgs : Rows M0 n0 gv gs) (hos : Rows M0 n0 ov (onOf disks gs)) (hV : VN disks gs tiles spare W r) (hpb : pb < n0) (hM0 : M0 pb = some (.cells [.int .i64 disks, gv, .int .i64 tiles, .int .i64 spare, .int .i64 W, .int .i64 r, .int .i64 gs.length, rv, ov, .int .i64 h, .int .i64 c] 0 false true))
    (d : Nat) (hd : d < disks) (x4 x5 x6 x8 x9 x10 x11 x12 : Value) : ∀ k i, i + k = tiles * r → ∀ (M : FM) (N : Nat) (outv x2 : Value) (Q : AX → List Value → FM → Nat → Nat → Prop), n0 ≤ N → (∀ b, b < n0 → M b = M0 b) → SlZ 2 M n0 N outv i (memC gs W r d i) →
    (∀ M' N' outv' w, N ≤ N' → (∀ b, b < n0 → M' b = M0 b) → SlZ 2 M' n0 N' outv' (tiles * r) (memC gs W r d (tiles * r)) → (∀ j, j ≤ n0 → Nat.mod w (bit j) = 0) → ∀ y2, Q (.exit 1) (outv' :: y2 :: .int .i64 ((tiles * r : Nat) : Int) :: x4 :: x5 :: x6 :: .pointer (some ⟨pb, 0, none⟩) :: x8 :: x9 :: x10 :: x11 :: x12 :: .int .i64 d :: []) M' N' w) →
    Gv (execW PG E Y ac33L0 (outv :: .int .i64 (i : Int) :: x2 :: .int .i64 ((tiles * r : Nat) : Int) :: x4 :: x5 :: x6 :: .pointer (some ⟨pb, 0, none⟩) :: x8 :: x9 :: x10 :: x11 :: x12 :: .int .i64 d :: []) M N) Q := by
  intro k
  have hb6 := hV.b6
  have hb3 := hV.b3
  have hb1 := hV.b1
  have hlen := hV.len
  have hrle := hV.rle
  have hr0 := hV.r0
  induction k with
  | zero =>
    intro i hi M N outv x2 Q hN hlow hS hQ
    refine wr_loopN (L := ac33L0) (b := ac33L0b) rfl ?_
    simp only [ac33L0b]
    simp (implicitDefEqProofs := false) (disch := omega) only [WPs, opds, List.all_cons, List.all_nil, List.cons_append, List.nil_append, cond_true, cond_false, eq_self, List.map_cons, List.map_nil, Nat.reduceAdd, Nat.testBit, Nat.reduceShiftRight, Nat.reduceAnd, Nat.reduceBNe, Nat.reduceMul]
    obtain rfl : i = tiles * r := by omega
    exact hQ M N outv 0 (Nat.le_refl _) hlow hS (fun j _ => mod_zero _) _
  | succ k ih =>
    intro i hi M N outv x2 Q hN hlow hS hQ
    have hil : i < tiles * r := by omega
    obtain ⟨hgi, hol, hql, hm, hc, hoe, ht⟩ := vn_gi hV hd hil
    have hpb2 := (hlow pb hpb).trans hM0
    have hpa := pieceAt_int (gs := gs) (W := W) (t := i / r) (gi := giOf gs r d i) (d := d) (by omega)
    rw [List.getElem?_eq_getElem hgi, Option.getD_some] at hpa
    have hbt : i / r * gs.length + giOf gs r d i ≤ 2000000 := by
      have : i / r * gs.length ≤ 256 * 4096 := Nat.mul_le_mul (by omega) hlen
      omega
    refine wr_loopN (L := ac33L0) (b := ac33L0b) rfl ?_
    simp only [ac33L0b]
    simp (implicitDefEqProofs := false) (disch := omega) only [WPs, opds, List.all_cons, List.all_nil, List.cons_append, List.nil_append, cond_true, cond_false, eq_self, List.map_cons, List.map_nil, Nat.reduceAdd, Nat.testBit, Nat.reduceShiftRight, Nat.reduceAnd, Nat.reduceBNe, Nat.reduceMul, hpb2]
    refine use_pure (at_num T.e43 T.e51 _ _ disks tiles spare W r gs.length h c gv rv ov gs (onOf disks gs) (hgs.frame (by omega) hlow) (hos.frame (by omega) hlow) d i (i / r) (i % r) (giOf gs r d i) _ hr0 (by omega) (by omega) hb3 rfl rfl (by omega) hol hql hoe hgi hm (hV.hw _ (List.getElem_mem hgi)) rfl (by omega)) fun r3 => ?_
    rw [hpa]
    simp (implicitDefEqProofs := false) (disch := omega) only [WPs, opds, List.all_cons, List.all_nil, List.cons_append, List.nil_append, cond_true, cond_false, eq_self, List.map_cons, List.map_nil, Nat.reduceAdd, Nat.testBit, Nat.reduceShiftRight, Nat.reduceAnd, Nat.reduceBNe, Nat.reduceMul]
    refine use_rt (app_slZ (n0 := n0) (hS.frame (by omega) fun b h1 h2 => by exact fput_ne _ _ _ _ (by omega)) _ _ _ (by omega) (by omega) rfl rfl (by omega) (by omega)) fun v' M2 N2 r2 w2 hA => ?_
    obtain ⟨rfl, rfl, hs2, low2, hw2⟩ := hA
    simp (implicitDefEqProofs := false) (disch := omega) only [WPs, opds, List.all_cons, List.all_nil, List.cons_append, List.nil_append, cond_true, cond_false, eq_self, List.map_cons, List.map_nil, Nat.reduceAdd, Nat.testBit, Nat.reduceShiftRight, Nat.reduceAnd, Nat.reduceBNe, Nat.reduceMul]
    refine wr_end' ((ih (i + 1) (by omega) M2 (N + 2) _ x2 (fun X e m n w => Q X e m n (Nat.lor (Nat.lor (bit N) w2) w)) (by omega) (fun b hb => by rw [low2 b hb, fput_ne _ _ _ _ (by omega), hlow b hb]) hs2 fun M' N' outv' w k1 k2 k3 k4 y2 => hQ M' N' outv' _ (by omega) k2 k3 (fun j hj => by simp (implicitDefEqProofs := false) (disch := omega) only [WPs, opds, List.all_cons, List.all_nil, List.cons_append, List.nil_append, cond_true, cond_false, eq_self, List.map_cons, List.map_nil, Nat.reduceAdd, Nat.testBit, Nat.reduceShiftRight, Nat.reduceAnd, Nat.reduceBNe, Nat.reduceMul, hw2, k4]) y2).mono fun X e m n w hq => by simpa only [zero_lor'] using hq)
end Go.Am.C21
namespace Go.Am.C21
open Go Go.Am
variable {E : Nat → Option AFn} {Y : Nat → List Value → FM → Nat → OR FM}
theorem neq31 (a b c d : Int) : binV PG .neq 31 (.agg #[.int .i64 a, .int .i64 b]) (.agg #[.int .i64 c, .int .i64 d]) = some (.bool (!decide (a = c ∧ b = d))) := neq_ints2 (by kernel_rfl) a b c d
theorem onDisk_in (T : Tab E) (m : FM) (n : Nat) (disks tiles spare W r : Nat) (gv : Value) (gs : List (List Int)) (hgs : Rows m n gv gs) (hV : VN disks gs tiles spare W r) (d : Nat) (hd : d < disks) :
    Rt (callW PG E Y 33 [layV disks gv tiles spare, .int .i64 d] m n) fun v m' n' w => n ≤ n' ∧ (∀ b, b < n → m' b = m b) ∧ (∀ j, j ≤ n → Nat.mod w (bit j) = 0) ∧
      ∃ ov, v = .tuple #[ov, .int .i64 0] ∧ SlZ 2 m' n n' ov (tiles * r) (memC gs W r d (tiles * r)) := by
  refine kept_specQ T.e33 rfl fun Q hQ => ?_
  have hb1 := hV.b1
  have hr0 := hV.r0
  have hpos : 0 < tiles * r := Nat.mul_pos (by omega) hr0
  simp only [ac33, layV]
  simp (implicitDefEqProofs := false) (disch := omega) only [WPs, opds, List.all_cons, List.all_nil, List.cons_append, List.nil_append, cond_true, cond_false, eq_self, List.map_cons, List.map_nil, Nat.reduceAdd, Nat.testBit, Nat.reduceShiftRight, Nat.reduceAnd, Nat.reduceBNe, Nat.reduceMul]
  refine use_rt (measure_good T.e39 T.e34 T.e47 T.e46 _ _ disks tiles spare W r gv gs (hgs.frame (by omega) fun b hb => by simp (implicitDefEqProofs := false) (disch := omega) only [WPs, opds, List.all_cons, List.all_nil, List.cons_append, List.nil_append, cond_true, cond_false, eq_self, List.map_cons, List.map_nil, Nat.reduceAdd, Nat.testBit, Nat.reduceShiftRight, Nat.reduceAnd, Nat.reduceBNe, Nat.reduceMul]) hV) fun v m' n' r1 w1 h => ?_
  obtain ⟨hn, hf, hw, rv, ov, rfl, hrv, hov⟩ := h
  simp (implicitDefEqProofs := false) (disch := omega) only [WPs, opds, List.all_cons, List.all_nil, List.cons_append, List.nil_append, cond_true, cond_false, eq_self, List.map_cons, List.map_nil, Nat.reduceAdd, Nat.testBit, Nat.reduceShiftRight, Nat.reduceAnd, Nat.reduceBNe, Nat.reduceMul, numV, hw, hf, cells_of_one hgs.one, hgs.one, hrv.one, hov.one]
  refine wr_cps (onDisk_L0 T _ (n' + 1) n' disks tiles spare W r (tiles * r) (tiles * r + spare) gv rv ov gs (hgs.frame (by omega) fun b hb => by simp (implicitDefEqProofs := false) (disch := omega) only [WPs, opds, List.all_cons, List.all_nil, List.cons_append, List.nil_append, cond_true, cond_false, eq_self, List.map_cons, List.map_nil, Nat.reduceAdd, Nat.testBit, Nat.reduceShiftRight, Nat.reduceAnd, Nat.reduceBNe, Nat.reduceMul, hf]) (hov.frame (by omega) fun b hb => by simp (implicitDefEqProofs := false) (disch := omega) only [WPs, opds, List.all_cons, List.all_nil, List.cons_append, List.nil_append, cond_true, cond_false, eq_self, List.map_cons, List.map_nil, Nat.reduceAdd, Nat.testBit, Nat.reduceShiftRight, Nat.reduceAnd, Nat.reduceBNe, Nat.reduceMul]) hV (by omega) (fput_same _ _ _) d hd _ _ _ _ _ _ _ _ (tiles * r) 0 (by omega) _ _ _ _ _ (Nat.le_refl _) (fun b hb => rfl) (.inl ⟨rfl, rfl, rfl⟩) fun M2 N2 outv w2 h1 h2 h3 h4 y2 r2 => ?_)
  have h3' := h3
  rcases h3 with ⟨h, _⟩ | ⟨_, _, b, rfl, _⟩
  · omega
  simp (implicitDefEqProofs := false) (disch := omega) only [WPs, opds, List.all_cons, List.all_nil, List.cons_append, List.nil_append, cond_true, cond_false, eq_self, List.map_cons, List.map_nil, Nat.reduceAdd, Nat.testBit, Nat.reduceShiftRight, Nat.reduceAnd, Nat.reduceBNe, Nat.reduceMul]
  refine hQ _ _ _ _ _ (by omega) (fun b hb => by simp (implicitDefEqProofs := false) (disch := omega) only [WPs, opds, List.all_cons, List.all_nil, List.cons_append, List.nil_append, cond_true, cond_false, eq_self, List.map_cons, List.map_nil, Nat.reduceAdd, Nat.testBit, Nat.reduceShiftRight, Nat.reduceAnd, Nat.reduceBNe, Nat.reduceMul, h2, hf]) (by simp (implicitDefEqProofs := false) (disch := omega) only [WPs, opds, List.all_cons, List.all_nil, List.cons_append, List.nil_append, cond_true, cond_false, eq_self, List.map_cons, List.map_nil, Nat.reduceAdd, Nat.testBit, Nat.reduceShiftRight, Nat.reduceAnd, Nat.reduceBNe, Nat.reduceMul, hw, h4]) rfl ⟨_, rfl, h3'.low (by omega)⟩
theorem onDisk_out (T : Tab E) (m : FM) (n : Nat) (disks tiles spare W r : Nat) (gv : Value) (gs : List (List Int)) (hgs : Rows m n gv gs) (hV : VN disks gs tiles spare W r) (d : Int) (hd : d < 0 ∨ disks ≤ d) :
    Pure (callW PG E Y 33 [layV disks gv tiles spare, .int .i64 d] m n) m n (.tuple #[.slice none 0 0, .int .i64 2]) := by
  refine pure_spec T.e33 rfl rfl ?_
  simp only [ac33, layV]
  simp (implicitDefEqProofs := false) (disch := omega) only [WPs, opds, List.all_cons, List.all_nil, List.cons_append, List.nil_append, cond_true, cond_false, eq_self, List.map_cons, List.map_nil, Nat.reduceAdd, Nat.testBit, Nat.reduceShiftRight, Nat.reduceAnd, Nat.reduceBNe, Nat.reduceMul]
  refine use_rt (measure_good T.e39 T.e34 T.e47 T.e46 _ _ disks tiles spare W r gv gs (hgs.frame (by omega) fun b hb => by simp (implicitDefEqProofs := false) (disch := omega) only [WPs, opds, List.all_cons, List.all_nil, List.cons_append, List.nil_append, cond_true, cond_false, eq_self, List.map_cons, List.map_nil, Nat.reduceAdd, Nat.testBit, Nat.reduceShiftRight, Nat.reduceAnd, Nat.reduceBNe, Nat.reduceMul]) hV) fun v m' n' r1 w1 h => ?_
  obtain ⟨hn, hf, hw, rv, ov, rfl, hrv, hov⟩ := h
  by_cases h1 : d < 0
  · simp (implicitDefEqProofs := false) (disch := omega) only [WPs, opds, List.all_cons, List.all_nil, List.cons_append, List.nil_append, cond_true, cond_false, eq_self, List.map_cons, List.map_nil, Nat.reduceAdd, Nat.testBit, Nat.reduceShiftRight, Nat.reduceAnd, Nat.reduceBNe, Nat.reduceMul, numV, hw, hf, cells_of_one hgs.one, hgs.one, hrv.one, hov.one]
  · simp (implicitDefEqProofs := false) (disch := omega) only [WPs, opds, List.all_cons, List.all_nil, List.cons_append, List.nil_append, cond_true, cond_false, eq_self, List.map_cons, List.map_nil, Nat.reduceAdd, Nat.testBit, Nat.reduceShiftRight, Nat.reduceAnd, Nat.reduceBNe, Nat.reduceMul, numV, hw, hf, cells_of_one hgs.one, hgs.one, hrv.one, hov.one]
/-- where a member of a disk lies -/
theorem mem_home {disks tiles spare W r : Nat} {gs : List (List Int)} (h : VN disks gs tiles spare W r) {d i : Nat} (hd : d < disks) (hi : i < tiles * r) : memG gs r d i < tiles * gs.length ∧ memP gs W r d i < W ∧ HomeIs gs W r (memG gs r d i) (memP gs W r d i) d i := by
  obtain ⟨hgi, hol, hql, hm, hc, hoe, ht⟩ := vn_gi h hd hi
  exact at_home h hd hi hgi hm hc
theorem law8_L0 (T : Tab E) (M : FM) (N n0 lb : Nat) (disks tiles spare W r : Nat) (gv mv : Value) (gs : List (List Int)) (hgs : Rows M N gv gs) (hV : VN disks gs tiles spare W r) (hlb : lb < N) (hM : M lb = some (.cells [.int .i64 disks, gv, .int .i64 tiles, .int .i64 spare] 0 false true)) (d : Nat) (hd : d < disks)
    (hS : SlZ 2 M n0 N mv (tiles * r) (memC gs W r d (tiles * r))) (x3 x4 x5 x8 x9 x10 : Value) {Q : AX → List Value → FM → Nat → Nat → Prop} (hQ : ∀ e', Q (.exit 0) e' M N 0) : ∀ k i, i + k = tiles * r → ∀ x0 x2 : Value,
    Gv (execW PG E Y ac8L0 [x0, .int .i64 (i : Int), x2, x3, x4, x5, mv, .pointer (some ⟨lb, 0, none⟩), x8, x9, x10, .int .i64 d] M N) Q := by
  intro k
  have hb6 := hV.b6
  induction k with
  | zero =>
    intro i hi x0 x2
    refine wr_loopN (L := ac8L0) (b := ac8L0b) rfl ?_
    simp only [ac8L0b]
    simp (implicitDefEqProofs := false) (disch := omega) only [WPs, opds, List.all_cons, List.all_nil, List.cons_append, List.nil_append, cond_true, cond_false, eq_self, List.map_cons, List.map_nil, Nat.reduceAdd, Nat.testBit, Nat.reduceShiftRight, Nat.reduceAnd, Nat.reduceBNe, Nat.reduceMul, hS.len]
    exact hQ _
  | succ k ih =>
    intro i hi x0 x2
    have hil : i < tiles * r := by omega
    obtain ⟨bb, i1, h1, h2, h3, h4⟩ := hS.at hil
    obtain ⟨c1, c2⟩ := memC_get gs W r d (tiles * r) i hil
    rw [← cget_eq] at c1 c2
    obtain ⟨k1, k2, k3, k4⟩ := mem_home hV hd hil
    refine wr_loopN (L := ac8L0) (b := ac8L0b) rfl ?_
    simp only [ac8L0b]
    simp (implicitDefEqProofs := false) (disch := omega) only [WPs, opds, List.all_cons, List.all_nil, List.cons_append, List.nil_append, cond_true, cond_false, eq_self, List.map_cons, List.map_nil, Nat.reduceAdd, Nat.testBit, Nat.reduceShiftRight, Nat.reduceAnd, Nat.reduceBNe, Nat.reduceMul, hS.len, hM, i1, h3, c1, c2, hS.bel, hgs.belF]
    refine use_pureX (refIs T _ _ disks tiles spare W r gv gs hgs hV _ _) fun r2 => ?_
    rw [decide_eq_true (show (0 : Int) ≤ (memG gs r d i : Int) ∧ (memG gs r d i : Int) < (tiles * gs.length : Nat) ∧ (0 : Int) ≤ (memP gs W r d i : Int) ∧ (memP gs W r d i : Int) < W by omega)]
    simp (implicitDefEqProofs := false) (disch := omega) only [WPs, opds, List.all_cons, List.all_nil, List.cons_append, List.nil_append, cond_true, cond_false, eq_self, List.map_cons, List.map_nil, Nat.reduceAdd, Nat.testBit, Nat.reduceShiftRight, Nat.reduceAnd, Nat.reduceBNe, Nat.reduceMul, hS.len, hM, i1, h3, c1, c2, hS.bel, hgs.belF]
    refine use_pureX (refHome T _ _ disks tiles spare W r gv gs hgs hV _ _ k1 k2) fun r3 => ?_
    rw [k3, k4]
    simp (implicitDefEqProofs := false) (disch := omega) only [WPs, opds, List.all_cons, List.all_nil, List.cons_append, List.nil_append, cond_true, cond_false, eq_self, List.map_cons, List.map_nil, Nat.reduceAdd, Nat.testBit, Nat.reduceShiftRight, Nat.reduceAnd, Nat.reduceBNe, Nat.reduceMul, hS.len, hM, i1, h3, c1, c2, neq31, and_self]
    exact wr_end' ((ih (i + 1) (by omega) _ _).mono fun X e m n w hq => by simpa only [zero_lor'] using hq)
theorem layoutOnDisk_exec (hE : E 8 = some ac8) (T : Tab E) (h14 : E 14 = some ac14) (hM : Mk E Y) (hA : ∀ m n, Pure (callW PG E Y 13 [] m n) m n (.bool true)) (m : FM) (n : Nat) (k : Nat) (hk : k < 65536) (d : Int) :
    Pure (callW PG E Y 8 [.int .u16 k, .int .i64 d] m n) m n (.bool true) := by
  refine pure_spec hE rfl rfl ?_
  simp only [ac8]
  simp (implicitDefEqProofs := false) (disch := omega) only [WPs, opds, List.all_cons, List.all_nil, List.cons_append, List.nil_append, cond_true, cond_false, eq_self, List.map_cons, List.map_nil, Nat.reduceAdd, Nat.testBit, Nat.reduceShiftRight, Nat.reduceAnd, Nat.reduceBNe, Nat.reduceMul]
  refine use_pure (hA _ _) fun _ => ?_
  simp (implicitDefEqProofs := false) (disch := omega) only [WPs, opds, List.all_cons, List.all_nil, List.cons_append, List.nil_append, cond_true, cond_false, eq_self, List.map_cons, List.map_nil, Nat.reduceAdd, Nat.testBit, Nat.reduceShiftRight, Nat.reduceAnd, Nat.reduceBNe, Nat.reduceMul]
  refine use_rt (small_vn h14 hM _ _ k hk) fun v m1 n1 r1 w1 h => ?_
  obtain ⟨hn1, hf1, hw1, D, W, r, l, tiles, spare, gs, gv, rfl, hgs, hV, hmem, ht5, hs7⟩ := h
  simp (implicitDefEqProofs := false) (disch := omega) only [WPs, opds, List.all_cons, List.all_nil, List.cons_append, List.nil_append, cond_true, cond_false, eq_self, List.map_cons, List.map_nil, Nat.reduceAdd, Nat.testBit, Nat.reduceShiftRight, Nat.reduceAnd, Nat.reduceBNe, Nat.reduceMul, layV, hw1, hf1, cells_of_one hgs.one, hgs.one, hgs.bel, hgs.belF]
  by_cases o1 : d < 0
  · refine use_pure (onDisk_out T _ _ D tiles spare W r gv gs (hgs.frame (by omega) fun b hb => by simp (implicitDefEqProofs := false) (disch := omega) only [WPs, opds, List.all_cons, List.all_nil, List.cons_append, List.nil_append, cond_true, cond_false, eq_self, List.map_cons, List.map_nil, Nat.reduceAdd, Nat.testBit, Nat.reduceShiftRight, Nat.reduceAnd, Nat.reduceBNe, Nat.reduceMul]) hV d (by omega)) fun r2 => ?_
    simp (implicitDefEqProofs := false) (disch := omega) only [WPs, opds, List.all_cons, List.all_nil, List.cons_append, List.nil_append, cond_true, cond_false, eq_self, List.map_cons, List.map_nil, Nat.reduceAdd, Nat.testBit, Nat.reduceShiftRight, Nat.reduceAnd, Nat.reduceBNe, Nat.reduceMul, hw1]
  by_cases o2 : D ≤ d
  · refine use_pure (onDisk_out T _ _ D tiles spare W r gv gs (hgs.frame (by omega) fun b hb => by simp (implicitDefEqProofs := false) (disch := omega) only [WPs, opds, List.all_cons, List.all_nil, List.cons_append, List.nil_append, cond_true, cond_false, eq_self, List.map_cons, List.map_nil, Nat.reduceAdd, Nat.testBit, Nat.reduceShiftRight, Nat.reduceAnd, Nat.reduceBNe, Nat.reduceMul]) hV d (by omega)) fun r2 => ?_
    simp (implicitDefEqProofs := false) (disch := omega) only [WPs, opds, List.all_cons, List.all_nil, List.cons_append, List.nil_append, cond_true, cond_false, eq_self, List.map_cons, List.map_nil, Nat.reduceAdd, Nat.testBit, Nat.reduceShiftRight, Nat.reduceAnd, Nat.reduceBNe, Nat.reduceMul, hw1]
  obtain ⟨d, rfl⟩ : ∃ q : Nat, d = q := ⟨d.toNat, by omega⟩
  refine use_rt (onDisk_in T _ _ D tiles spare W r gv gs (hgs.frame (by omega) fun b hb => by simp (implicitDefEqProofs := false) (disch := omega) only [WPs, opds, List.all_cons, List.all_nil, List.cons_append, List.nil_append, cond_true, cond_false, eq_self, List.map_cons, List.map_nil, Nat.reduceAdd, Nat.testBit, Nat.reduceShiftRight, Nat.reduceAnd, Nat.reduceBNe, Nat.reduceMul]) hV d (by omega)) fun v m2 n2 r2 w2 h => ?_
  obtain ⟨hn2, hf2, hw2, mv, rfl, hS⟩ := h
  simp (implicitDefEqProofs := false) (disch := omega) only [WPs, opds, List.all_cons, List.all_nil, List.cons_append, List.nil_append, cond_true, cond_false, eq_self, List.map_cons, List.map_nil, Nat.reduceAdd, Nat.testBit, Nat.reduceShiftRight, Nat.reduceAnd, Nat.reduceBNe, Nat.reduceMul, hf2, hw2, hS.len, hgs.belF]
  refine use_pure (refHomes T _ _ D tiles spare W r gv gs (hgs.frame (by omega) fun b hb => by simp (implicitDefEqProofs := false) (disch := omega) only [WPs, opds, List.all_cons, List.all_nil, List.cons_append, List.nil_append, cond_true, cond_false, eq_self, List.map_cons, List.map_nil, Nat.reduceAdd, Nat.testBit, Nat.reduceShiftRight, Nat.reduceAnd, Nat.reduceBNe, Nat.reduceMul, hf2]) hV) fun r3 => ?_
  simp (implicitDefEqProofs := false) (disch := omega) only [WPs, opds, List.all_cons, List.all_nil, List.cons_append, List.nil_append, cond_true, cond_false, eq_self, List.map_cons, List.map_nil, Nat.reduceAdd, Nat.testBit, Nat.reduceShiftRight, Nat.reduceAnd, Nat.reduceBNe, Nat.reduceMul, hf2, hw2, hS.len]
  refine wr_cps (law8_L0 T m2 n2 _ n1 D tiles spare W r gv mv gs (hgs.frame (by omega) fun b hb => by simp (implicitDefEqProofs := false) (disch := omega) only [WPs, opds, List.all_cons, List.all_nil, List.cons_append, List.nil_append, cond_true, cond_false, eq_self, List.map_cons, List.map_nil, Nat.reduceAdd, Nat.testBit, Nat.reduceShiftRight, Nat.reduceAnd, Nat.reduceBNe, Nat.reduceMul, hf2]) hV (by omega) (by simp (implicitDefEqProofs := false) (disch := omega) only [WPs, opds, List.all_cons, List.all_nil, List.cons_append, List.nil_append, cond_true, cond_false, eq_self, List.map_cons, List.map_nil, Nat.reduceAdd, Nat.testBit, Nat.reduceShiftRight, Nat.reduceAnd, Nat.reduceBNe, Nat.reduceMul, hf2]) d (by omega) hS _ _ _ _ _ _ (fun e' r4 => ?_) (tiles * r) 0 (by omega) _ _)
  simp (implicitDefEqProofs := false) (disch := omega) only [WPs, opds, List.all_cons, List.all_nil, List.cons_append, List.nil_append, cond_true, cond_false, eq_self, List.map_cons, List.map_nil, Nat.reduceAdd, Nat.testBit, Nat.reduceShiftRight, Nat.reduceAnd, Nat.reduceBNe, Nat.reduceMul, hw1, hw2]
end Go.Am.C21
namespace Go.Am.C21
open Go Go.Am Go.Am.V
theorem layoutOnDisk_calls (k : Nat) (hk : k < 65536) (d : Int) (w : World) : Calls Proofs.Try.prog 8 #[.int .u16 k, .int .i64 d] w fun e w' => e = .returned (.bool true) ∧ RowKit.Below w.heap.size w w' :=
  calls_of (args := [.int .u16 k, .int .i64 d]) (fun m n => layoutOnDisk_exec (by kernel_rfl) tabT (by kernel_rfl) mkC awake_pureC m n k hk d) rfl w
theorem layoutValid_calls (disks tiles spare : Int) (v : Value) (gs : List (List Int)) (w : World) (h : RowsW w v gs) :
    Calls Proofs.Try.prog 7 #[.agg #[.int .i64 disks, v, .int .i64 tiles, .int .i64 spare]] w fun e w' => e = .returned (.bool true) ∧ RowKit.Below w.heap.size w w' := by
  obtain ⟨ρ, m0, n0, gv, hr, hv, hm, hf⟩ := rows_world h
  obtain ⟨r, hrun⟩ := layoutValid_exec (E := look tabC) (Y := memosA memL Y0) (by kernel_rfl) tabT awake_pureC m0 n0 disks tiles spare gv gs hr
  have hL : LRel ρ [.int .i64 disks, gv, .int .i64 tiles, .int .i64 spare] [.int .i64 disks, v, .int .i64 tiles, .int .i64 spare] :=
    .cons (.flat rfl) (.cons hv (.cons (.flat rfl) (.cons (.flat rfl) (.nil ρ))))
  exact Go.Am.Env.topW envC (args' := #[.agg #[.int .i64 disks, v, .int .i64 tiles, .int .i64 spare]]) hrun (.cons (.agg rfl fun i x y hx hy => hL.2 i x y (by simpa using hx) (by simpa using hy)) (.nil ρ)) hm hf
end Go.Am.C21
namespace Go.Am
open Go Go.RowKit Go.ChangeShapes
theorem post_below {H : Type} {enc : TypeId × Value → H} {P : Program} {f : Func} {s : ChangeSpec} {apart fresh handsOn again : Bool} {W W' : World} {args : Array Value} {v : Value} {ds gs : List (DataW H)} {before pa pv : List MemPlace}
    (hW : DataW.Whole enc P f.params.toList s.vars apart W args.toList ds gs before)
    (hres : ∀ (b : Nat) (sp : Nat → Bool) (hd : Bool), DataW.TrodAll enc P W' b sp hd f.resultTypes.toList (v.resultList f.resultTypes.size) (s.fn H (ds ++ gs)).results [])
    (hargs : ∀ sp : Nat → Bool, (∀ p ∈ before, sp p.block = true) → DataW.TrodAll enc P W' 0 sp true f.params.toList args.toList (s.fn H (ds ++ gs)).args pa)
    (hvars : ∀ sp : Nat → Bool, (∀ p ∈ before, sp p.block = true) → DataW.TrodVars enc P W' sp s.vars (s.fn H (ds ++ gs)).vars pv)
    (hps : before = pa ++ pv) (hb : Below W.heap.size W W')
    (hok : ∀ (j : Nat) (t : TypeId) (r : Value), f.resultTypes[j]? = some t → (v.resultList f.resultTypes.size)[j]? = some r → Value.okWide P W' .any 0 t r) :
    s.post enc P f apart fresh handsOn again W args v W' := by
  have hlt := hW.lt
  obtain ⟨_, _, _, _, _, hz, hn⟩ := id hW
  refine ⟨ds, gs, before, [], pa, pv, hW, hres _ _ _, hargs _ fun p hp => by simpa using hlt p hp, hvars _ fun p hp => by simpa using hlt p hp, World.keptBut_mono (fun p hp => ⟨hp, ?_⟩) (hb.frame (· ∈ before)), fun _ => ⟨hok, _, _, ([] ++ pa) ++ pv, ⟨[] ++ pa, pv, trodAll_append (hargs _ fun _ _ => rfl) (hres _ _ _), hvars _ fun _ _ => rfl, rfl, fun b off hp => ?_, fun ha => ?_⟩, fun p hp _ => ?_⟩⟩
  · rw [hps, List.mem_append] at hp; exact .inr hp
  · have hm : MemPlace.cell b off ∈ before := by rw [hps]; simpa using hp
    rw [hb.frozen (p := ⟨b, off, none⟩) (hlt _ hm)]
    exact hz b off hm
  · have := hn ha
    rw [hps] at this
    simpa using this
  · rw [hps]; simpa using hp
end Go.Am
namespace Go.Am
open Go Go.ChangeShapes Go.WideShapes Go.RowKit
section
variable {H : Type} {enc : TypeId × Value → H} {P : Program} {W : World} {base : Nat} {sp : Nat → Bool} {held : Bool} {t e : TypeId} {k : IntKind}
theorem open_arr2 {r : Reach} {b0 : Nat} {v : Value} {d : DataW H} {ps : List MemPlace} (hu : P.underlying t = some (.array 2 e)) (he : P.underlying e = some (.int k)) (h1 : P.cellsOf e = 1) (hs : P.cellsOf t = 2) (hval : Value.okWide P W r b0 t v) (hd : DataW.Trod enc P W base sp held t v d ps) :
    ∃ a b, v = .agg #[.int k a, .int k b] ∧ d = .agg [.lit (.int k a), .lit (.int k b)] ∧ ps = [] ∧ (Lit.int k a).wf = true ∧ (Lit.int k b).wf = true := by
  simp only [Value.okWide, hu] at hval
  obtain ⟨cs, rfl, hcs, _⟩ := hval
  rw [hs] at hcs
  obtain ⟨l⟩ := cs
  match l, hcs with
  | [x, y], _ =>
    obtain ⟨fuel, hf⟩ := hd
    cases fuel with
    | zero => simp [DataW.trod] at hf
    | succ m =>
      unfold DataW.trod at hf
      simp only [hu, Value.cells, h1, hs, List.length_cons, List.length_nil, if_true] at hf
      simp only [List.range_succ, List.range_zero, List.nil_append, List.cons_append, List.mapM_cons, List.mapM_nil, bind, Option.bind_eq_some_iff, Option.map_eq_some_iff, pure, Option.some.injEq] at hf
      obtain ⟨_, ⟨p1, g1, _, ⟨p2, g2, _, rfl, rfl⟩, rfl⟩, hx⟩ := hf
      obtain ⟨a, ea, rfl, wa⟩ := DataW.trod_int he g1
      obtain ⟨b, eb, rfl, wb⟩ := DataW.trod_int he g2
      simp at ea eb
      subst ea; subst eb
      simp only [Prod.mk.injEq] at hx
      exact ⟨a, b, rfl, hx.1.symm, by simpa using hx.2.symm, wa, wb⟩
theorem shut_arr2 {a b : Int} (hu : P.underlying t = some (.array 2 e)) (he : P.underlying e = some (.int k)) (h1 : P.cellsOf e = 1) (hs : P.cellsOf t = 2) (wa : (Lit.int k a).wf = true) (wb : (Lit.int k b).wf = true) :
    DataW.Trod enc P W base sp held t (.agg #[.int k a, .int k b]) (.agg [.lit (.int k a), .lit (.int k b)]) [] :=
  ⟨2, by simp [DataW.trod, Value.cells, hu, he, h1, hs, wa, wb, List.range_succ]⟩
theorem open_arr3 {r : Reach} {b0 : Nat} {v : Value} {d : DataW H} {ps : List MemPlace} (hu : P.underlying t = some (.array 3 e)) (he : P.underlying e = some (.int k)) (h1 : P.cellsOf e = 1) (hs : P.cellsOf t = 3) (hval : Value.okWide P W r b0 t v) (hd : DataW.Trod enc P W base sp held t v d ps) :
    ∃ a b c, v = .agg #[.int k a, .int k b, .int k c] ∧ d = .agg [.lit (.int k a), .lit (.int k b), .lit (.int k c)] ∧ ps = [] ∧ (Lit.int k a).wf = true ∧ (Lit.int k b).wf = true ∧ (Lit.int k c).wf = true := by
  simp only [Value.okWide, hu] at hval
  obtain ⟨cs, rfl, hcs, _⟩ := hval
  rw [hs] at hcs
  obtain ⟨l⟩ := cs
  match l, hcs with
  | [x, y, z], _ =>
    obtain ⟨fuel, hf⟩ := hd
    cases fuel with
    | zero => simp [DataW.trod] at hf
    | succ m =>
      unfold DataW.trod at hf
      simp only [hu, Value.cells, h1, hs, List.length_cons, List.length_nil, if_true] at hf
      simp only [List.range_succ, List.range_zero, List.nil_append, List.cons_append, List.mapM_cons, List.mapM_nil, bind, Option.bind_eq_some_iff, Option.map_eq_some_iff, pure, Option.some.injEq] at hf
      obtain ⟨_, ⟨p1, g1, _, ⟨p2, g2, _, ⟨p3, g3, _, rfl, rfl⟩, rfl⟩, rfl⟩, hx⟩ := hf
      obtain ⟨a, ea, rfl, wa⟩ := DataW.trod_int he g1
      obtain ⟨b, eb, rfl, wb⟩ := DataW.trod_int he g2
      obtain ⟨c, ec, rfl, wc⟩ := DataW.trod_int he g3
      simp at ea eb ec
      subst ea; subst eb; subst ec
      simp only [Prod.mk.injEq] at hx
      exact ⟨a, b, c, rfl, hx.1.symm, by simpa using hx.2.symm, wa, wb, wc⟩
theorem shut_arr3 {a b c : Int} (hu : P.underlying t = some (.array 3 e)) (he : P.underlying e = some (.int k)) (h1 : P.cellsOf e = 1) (hs : P.cellsOf t = 3) (wa : (Lit.int k a).wf = true) (wb : (Lit.int k b).wf = true) (wc : (Lit.int k c).wf = true) :
    DataW.Trod enc P W base sp held t (.agg #[.int k a, .int k b, .int k c]) (.agg [.lit (.int k a), .lit (.int k b), .lit (.int k c)]) [] :=
  ⟨2, by simp [DataW.trod, Value.cells, hu, he, h1, hs, wa, wb, wc, List.range_succ]⟩
end
theorem u8_of {a : Int} (h : (Lit.int .u8 a).wf = true) : ∃ z : Nat, z < 256 ∧ a = Int.ofNat z := by
  have := bounds_u8 h
  exact ⟨a.toNat, by omega, by show a = (a.toNat : Int); omega⟩
end Go.Am
namespace Go.Am.C21
open Go Go.Am
variable {E : Nat → Option AFn} {Y : Nat → List Value → FM → Nat → OR FM}
theorem set_bool {U : List Bool} {i : Nat} {t : Bool} (h : i < U.length) : setCells (U.map Value.bool) i [.bool t] = some ((U.set i t).map Value.bool) := by
  rw [set_one (by simpa using h), List.map_set]
theorem get_bool {U : List Bool} {i : Nat} (h : i < U.length) : cget (U.map Value.bool) i = some (.bool U[i]) := by
  rw [cget_eq, List.getElem?_map, List.getElem?_eq_getElem h]; rfl
/-- the disks that the first pieces of a group use -/
def usedA (gs : List (List Int)) (W g D : Nat) : Nat → List Bool
  | 0 => List.replicate D false
  | i + 1 => (usedA gs W g D i).set (homeDisk gs W g i).toNat true
theorem usedA_len (gs : List (List Int)) (W g D : Nat) : ∀ i, (usedA gs W g D i).length = D
  | 0 => List.length_replicate
  | i + 1 => by rw [usedA, List.length_set, usedA_len gs W g D i]
theorem usedA_get (gs : List (List Int)) (W g D : Nat) : ∀ i d, (usedA gs W g D i)[d]? = some true → ∃ i', i' < i ∧ (homeDisk gs W g i').toNat = d
  | 0, d, h => by
    rw [usedA, List.getElem?_replicate] at h
    split at h <;> cases h
  | i + 1, d, h => by
    rw [usedA] at h
    by_cases e : (homeDisk gs W g i).toNat = d
    · exact ⟨i, by omega, e⟩
    · rw [List.getElem?_set_ne e] at h
      obtain ⟨i', h1, h2⟩ := usedA_get gs W g D i d h
      exact ⟨i', by omega, h2⟩
/-- the pieces of a group lie on different disks -/
theorem home_apart {disks tiles spare W r : Nat} {gs : List (List Int)} (h : VN disks gs tiles spare W r) {g p p' : Nat} (hg : g < tiles * gs.length) (hp : p < W) (hp' : p' < W) (e : homeDisk gs W g p = homeDisk gs W g p') : p = p' := by
  have hb : homeBlock gs W r g p = homeBlock gs W r g p' := by unfold homeBlock; rw [e]
  exact (home_inj h hg hp hg hp' e hb).2
/-- At gives a piece back from its home -/
theorem at_back (T : Tab E) (m : FM) (n : Nat) (disks tiles spare W r : Nat) (gv : Value) (gs : List (List Int)) (hgs : Rows m n gv gs) (hV : VN disks gs tiles spare W r) (g i : Nat) (hg : g < tiles * gs.length) (hi : i < W) :
    Pure (callW PG E Y 18 [layV disks gv tiles spare, .agg #[.int .i64 (homeDisk gs W g i), .int .i64 (homeBlock gs W r g i : Int)]] m n) m n (.tuple #[.int .i64 g, .int .i64 i, .int .i64 0]) := by
  obtain ⟨h1, h2, d, hD, hd, hdd, ht, hc, hB⟩ := vn_home hV hg hi
  have hm : (d : Int) ∈ gs[g % gs.length] := by rw [← hd]; exact List.getElem_mem h2
  have hBe : homeBlock gs W r g i = g / gs.length * r + cnt gs (g % gs.length) d := by unfold homeBlock; rw [hD]
  have hmod : homeBlock gs W r g i % r = cnt gs (g % gs.length) d := by rw [hBe, Nat.add_comm, Nat.add_mul_mod_self_right, Nat.mod_eq_of_lt hc]
  have hat := at_in (E := E) (Y := Y) T m n disks tiles spare W r gv gs hgs hV d (homeBlock gs W r g i) (g % gs.length) hdd hB h1 hm hmod.symm
  obtain ⟨k1, k2, k3, k4⟩ := at_home hV hdd hB h1 hm hmod.symm
  obtain ⟨e1, e2⟩ := home_inj hV k1 k2 hg hi (k3.trans hD.symm) (by omega)
  rw [e1, e2] at hat
  rw [hD]
  exact hat
theorem lorA (a b c : Nat) : Nat.lor (Nat.lor a b) c = Nat.lor a (Nat.lor b c) := Nat.or_assoc a b c
theorem law5_L0 (T : Tab E) (n0 lb ub : Nat) (disks tiles spare W r : Nat) (gv : Value) (gs : List (List Int)) (M0 : FM) (hgs : Rows M0 n0 gv gs) (hV : VN disks gs tiles spare W r) (hlb : n0 ≤ lb) (hub : n0 ≤ ub) (hlu : lb ≠ ub) (g : Nat) (hg : g < tiles * gs.length) (x5 x7 x8 x9 : Value) {w0 : Nat} {Q : AX → List Value → FM → Nat → Nat → Prop} (hQ : ∀ e' M N w, (∀ j, j ≤ n0 → Nat.mod w (bit j) = 0) → Q (.exit 0) e' M N w) : ∀ k i, i + k = W → ∀ (x0 x2 : Value) (M : FM) (N w1 : Nat), (∀ j, j ≤ n0 → Nat.mod w1 (bit j) = 0) → n0 ≤ N → lb < N → ub < N → (∀ b, b < n0 → M b = M0 b) → M lb = some (.cells [.int .i64 disks, gv, .int .i64 tiles, .int .i64 spare] 0 false true) → M ub = some (.cells ((usedA gs W g disks i).map Value.bool) 1 false true) →
    Gv (execW PG E Y ac5L0 [x0, .int .i64 (i : Int), x2, .slice (some ⟨ub, 0, none⟩) disks disks, .int .i64 g, .pointer (some ⟨lb, 0, none⟩), x5, x7, x8, x9] M N) fun X e m n w => Q X e m n (Nat.lor w1 w) := by
  intro k
  have hb6 := hV.b6
  have hb1 := hV.b1
  have hb3 := hV.b3
  induction k with
  | zero =>
    intro i hi x0 x2 M N w1 hw1 hN hl hu hlow hL hU
    refine wr_loopN (L := ac5L0) (b := ac5L0b) rfl ?_
    simp only [ac5L0b]
    simp (implicitDefEqProofs := false) (disch := omega) only [WPs, opds, List.all_cons, List.all_nil, List.cons_append, List.nil_append, cond_true, cond_false, eq_self, List.map_cons, List.map_nil, Nat.reduceAdd, Nat.testBit, Nat.reduceShiftRight, Nat.reduceAnd, Nat.reduceBNe, Nat.reduceMul, hL]
    refine use_pure (refWidth T _ _ disks tiles spare W r gv gs (hgs.frame hN hlow) hV) fun r2 => ?_
    simp (implicitDefEqProofs := false) (disch := omega) only [WPs, opds, List.all_cons, List.all_nil, List.cons_append, List.nil_append, cond_true, cond_false, eq_self, List.map_cons, List.map_nil, Nat.reduceAdd, Nat.testBit, Nat.reduceShiftRight, Nat.reduceAnd, Nat.reduceBNe, Nat.reduceMul, hL]
    exact hQ _ _ _ _ (fun j hj => by simp (implicitDefEqProofs := false) (disch := omega) only [WPs, opds, List.all_cons, List.all_nil, List.cons_append, List.nil_append, cond_true, cond_false, eq_self, List.map_cons, List.map_nil, Nat.reduceAdd, Nat.testBit, Nat.reduceShiftRight, Nat.reduceAnd, Nat.reduceBNe, Nat.reduceMul, hw1])
  | succ k ih =>
    intro i hi x0 x2 M N w1 hw1 hN hl hu hlow hL hU
    have hiW : i < W := by omega
    obtain ⟨_, _, d, hD, _, hdd, _, _, hB⟩ := vn_home hV hg hiW
    have hul := usedA_len gs W g disks i
    have hud : (usedA gs W g disks i)[d] = false := by
      cases hc : (usedA gs W g disks i)[d] with
      | false => rfl
      | true =>
        obtain ⟨i', h1, h2⟩ := usedA_get gs W g disks i d (by rw [List.getElem?_eq_getElem (by omega), hc])
        obtain ⟨_, _, d', hD', _⟩ := vn_home hV hg (show i' < W by omega)
        have := home_apart hV hg hiW (show i' < W by omega) (by rw [hD, hD']; rw [hD'] at h2; simp at h2; rw [h2])
        omega
    refine wr_loopN (L := ac5L0) (b := ac5L0b) rfl ?_
    simp only [ac5L0b]
    simp (implicitDefEqProofs := false) (disch := omega) only [WPs, opds, List.all_cons, List.all_nil, List.cons_append, List.nil_append, cond_true, cond_false, eq_self, List.map_cons, List.map_nil, Nat.reduceAdd, Nat.testBit, Nat.reduceShiftRight, Nat.reduceAnd, Nat.reduceBNe, Nat.reduceMul, hL]
    refine use_pure (refWidth T _ _ disks tiles spare W r gv gs (hgs.frame hN hlow) hV) fun r2 => ?_
    simp (implicitDefEqProofs := false) (disch := omega) only [WPs, opds, List.all_cons, List.all_nil, List.cons_append, List.nil_append, cond_true, cond_false, eq_self, List.map_cons, List.map_nil, Nat.reduceAdd, Nat.testBit, Nat.reduceShiftRight, Nat.reduceAnd, Nat.reduceBNe, Nat.reduceMul, hL]
    refine use_rt (home_in T _ _ disks tiles spare W r gv gs (hgs.frame hN hlow) hV g i hg hiW) fun v m2 n2 r3 w3 h => ?_
    obtain ⟨hn2, hf2, hw3, rfl⟩ := h
    rw [hD]
    simp (implicitDefEqProofs := false) (disch := omega) only [WPs, opds, List.all_cons, List.all_nil, List.cons_append, List.nil_append, cond_true, cond_false, eq_self, List.map_cons, List.map_nil, Nat.reduceAdd, Nat.testBit, Nat.reduceShiftRight, Nat.reduceAnd, Nat.reduceBNe, Nat.reduceMul, hL, hf2, hU, get_bool, hul, hud, hgs.belF, hgs.bel]
    refine use_pureX (refHomes T _ _ disks tiles spare W r gv gs (hgs.frame (by omega) fun b hb => by simp (implicitDefEqProofs := false) (disch := omega) only [WPs, opds, List.all_cons, List.all_nil, List.cons_append, List.nil_append, cond_true, cond_false, eq_self, List.map_cons, List.map_nil, Nat.reduceAdd, Nat.testBit, Nat.reduceShiftRight, Nat.reduceAnd, Nat.reduceBNe, Nat.reduceMul, hf2, hlow]) hV) fun r5 => ?_
    simp (implicitDefEqProofs := false) (disch := omega) only [WPs, opds, List.all_cons, List.all_nil, List.cons_append, List.nil_append, cond_true, cond_false, eq_self, List.map_cons, List.map_nil, Nat.reduceAdd, Nat.testBit, Nat.reduceShiftRight, Nat.reduceAnd, Nat.reduceBNe, Nat.reduceMul, hL, hf2, hU, set_bool, hul, hgs.belF, hgs.bel]
    have hback := at_back (E := E) (Y := Y) T (AMem.put (AMem.put m2 n2 (some (.cells [.int .i64 d, .int .i64 (homeBlock gs W r g i : Int)] 0 false true))) ub (some (.cells (((usedA gs W g disks i).set d true).map Value.bool) 1 false true))) (n2 + 1) disks tiles spare W r gv gs (hgs.frame (by omega) fun b hb => by simp (implicitDefEqProofs := false) (disch := omega) only [WPs, opds, List.all_cons, List.all_nil, List.cons_append, List.nil_append, cond_true, cond_false, eq_self, List.map_cons, List.map_nil, Nat.reduceAdd, Nat.testBit, Nat.reduceShiftRight, Nat.reduceAnd, Nat.reduceBNe, Nat.reduceMul, hf2, hlow]) hV g i hg hiW
    rw [hD] at hback
    refine use_pure hback fun r6 => ?_
    simp (implicitDefEqProofs := false) (disch := omega) only [WPs, opds, List.all_cons, List.all_nil, List.cons_append, List.nil_append, cond_true, cond_false, eq_self, List.map_cons, List.map_nil, Nat.reduceAdd, Nat.testBit, Nat.reduceShiftRight, Nat.reduceAnd, Nat.reduceBNe, Nat.reduceMul]
    have hnl : n2 ≠ lb := by omega
    have hnu : n2 ≠ ub := by omega
    have hfin := fun (wa : Nat) (hwa : ∀ j, j ≤ n0 → Nat.mod wa (bit j) = 0) => ih (i + 1) (by omega) x0 x2 (AMem.put (AMem.put m2 n2 (some (.cells [.int .i64 d, .int .i64 (homeBlock gs W r g i : Int)] 0 false true))) ub (some (.cells (((usedA gs W g disks i).set d true).map Value.bool) 1 false true))) (n2 + 1) (Nat.lor w1 wa) (fun j hj => by simp (implicitDefEqProofs := false) (disch := omega) only [WPs, opds, List.all_cons, List.all_nil, List.cons_append, List.nil_append, cond_true, cond_false, eq_self, List.map_cons, List.map_nil, Nat.reduceAdd, Nat.testBit, Nat.reduceShiftRight, Nat.reduceAnd, Nat.reduceBNe, Nat.reduceMul, hw1, hwa]) (by omega) (by omega) (by omega) (fun b hb => by simp (implicitDefEqProofs := false) (disch := omega) only [WPs, opds, List.all_cons, List.all_nil, List.cons_append, List.nil_append, cond_true, cond_false, eq_self, List.map_cons, List.map_nil, Nat.reduceAdd, Nat.testBit, Nat.reduceShiftRight, Nat.reduceAnd, Nat.reduceBNe, Nat.reduceMul, hf2, hlow]) (by simp (implicitDefEqProofs := false) (disch := omega) only [WPs, opds, List.all_cons, List.all_nil, List.cons_append, List.nil_append, cond_true, cond_false, eq_self, List.map_cons, List.map_nil, Nat.reduceAdd, Nat.testBit, Nat.reduceShiftRight, Nat.reduceAnd, Nat.reduceBNe, Nat.reduceMul, hf2, hL]) (by rw [fput_same, usedA, hD]; rfl)
    have hw3n : ∀ j, j ≤ n0 → Nat.mod w3 (bit j) = 0 := fun j hj => hw3 j (by omega)
    have key : ∀ wa, (∀ j, j ≤ n0 → Nat.mod wa (bit j) = 0) → Gv (execW PG E Y ac5L0 _ _ _) (fun X e m n w => Q X e m n (Nat.lor w1 (Nat.lor wa w))) := fun wa hwa => by
      have := hfin wa hwa
      simp only [lorA] at this
      exact this
    exact wr_end' (key _ (fun j hj => by simp (implicitDefEqProofs := false) (disch := omega) only [WPs, opds, List.all_cons, List.all_nil, List.cons_append, List.nil_append, cond_true, cond_false, eq_self, List.map_cons, List.map_nil, Nat.reduceAdd, Nat.testBit, Nat.reduceShiftRight, Nat.reduceAnd, Nat.reduceBNe, Nat.reduceMul, hw3n]))
theorem law5_run (T : Tab E) (n0 lb ub : Nat) (disks tiles spare W r : Nat) (gv : Value) (gs : List (List Int)) (M : FM) (hgs : Rows M n0 gv gs) (hV : VN disks gs tiles spare W r) (hlb : n0 ≤ lb) (hub : n0 ≤ ub) (hlu : lb ≠ ub) (g : Nat) (hg : g < tiles * gs.length) (x0 x2 x5 x7 x8 x9 : Value) (N : Nat) (hN : n0 ≤ N) (hl : lb < N) (hu : ub < N) (hL : M lb = some (.cells [.int .i64 disks, gv, .int .i64 tiles, .int .i64 spare] 0 false true)) (hU : M ub = some (.cells ((List.replicate disks false).map Value.bool) 1 false true)) {Q : AX → List Value → FM → Nat → Nat → Prop} (hQ : ∀ e' M N w, (∀ j, j ≤ n0 → Nat.mod w (bit j) = 0) → Q (.exit 0) e' M N w) :
    Gv (execW PG E Y ac5L0 [x0, .int .i64 0, x2, .slice (some ⟨ub, 0, none⟩) disks disks, .int .i64 g, .pointer (some ⟨lb, 0, none⟩), x5, x7, x8, x9] M N) Q := by
  have := law5_L0 (E := E) (Y := Y) (w0 := 0) T n0 lb ub disks tiles spare W r gv gs M hgs hV hlb hub hlu g hg x5 x7 x8 x9 hQ W 0 (by omega) x0 x2 M N 0 (fun j _ => mod_zero _) hN hl hu (fun _ _ => rfl) hL hU
  simp only [zero_lor'] at this
  exact this
theorem layoutApart_exec (hE : E 5 = some ac5) (T : Tab E) (h14 : E 14 = some ac14) (hM : Mk E Y) (hA : ∀ m n, Pure (callW PG E Y 13 [] m n) m n (.bool true)) (m : FM) (n : Nat) (k : Nat) (hk : k < 65536) (q : Nat) (hq : q < 65536) :
    Pure (callW PG E Y 5 [.int .u16 k, .int .u16 q] m n) m n (.bool true) := by
  refine pure_spec hE rfl rfl ?_
  simp only [ac5]
  simp (implicitDefEqProofs := false) (disch := omega) only [WPs, opds, List.all_cons, List.all_nil, List.cons_append, List.nil_append, cond_true, cond_false, eq_self, List.map_cons, List.map_nil, Nat.reduceAdd, Nat.testBit, Nat.reduceShiftRight, Nat.reduceAnd, Nat.reduceBNe, Nat.reduceMul]
  refine use_pure (hA _ _) fun _ => ?_
  simp (implicitDefEqProofs := false) (disch := omega) only [WPs, opds, List.all_cons, List.all_nil, List.cons_append, List.nil_append, cond_true, cond_false, eq_self, List.map_cons, List.map_nil, Nat.reduceAdd, Nat.testBit, Nat.reduceShiftRight, Nat.reduceAnd, Nat.reduceBNe, Nat.reduceMul]
  refine use_rt (small_vn h14 hM _ _ k hk) fun v m1 n1 r1 w1 h => ?_
  obtain ⟨hn1, hf1, hw1, D, W, r, l, tiles, spare, gs, gv, rfl, hgs, hV, hmem, ht5, hs7⟩ := h
  simp (implicitDefEqProofs := false) (disch := omega) only [WPs, opds, List.all_cons, List.all_nil, List.cons_append, List.nil_append, cond_true, cond_false, eq_self, List.map_cons, List.map_nil, Nat.reduceAdd, Nat.testBit, Nat.reduceShiftRight, Nat.reduceAnd, Nat.reduceBNe, Nat.reduceMul, layV, hw1, hf1, cells_of_one hgs.one, hgs.one, hgs.bel, hgs.belF, conv_int]
  have hD := hV.disks
  have hpos := hV.pos
  have hb1 := hV.b1
  have htk : 0 < tiles * gs.length := Nat.mul_pos (by omega) hpos
  refine use_pure (refGroups T _ _ D tiles spare W r gv gs (hgs.frame (by omega) fun b hb => by simp (implicitDefEqProofs := false) (disch := omega) only [WPs, opds, List.all_cons, List.all_nil, List.cons_append, List.nil_append, cond_true, cond_false, eq_self, List.map_cons, List.map_nil, Nat.reduceAdd, Nat.testBit, Nat.reduceShiftRight, Nat.reduceAnd, Nat.reduceBNe, Nat.reduceMul]) hV) fun r2 => ?_
  simp (implicitDefEqProofs := false) (disch := omega) only [WPs, opds, List.all_cons, List.all_nil, List.cons_append, List.nil_append, cond_true, cond_false, eq_self, List.map_cons, List.map_nil, Nat.reduceAdd, Nat.testBit, Nat.reduceShiftRight, Nat.reduceAnd, Nat.reduceBNe, Nat.reduceMul, hw1]
  refine wr_cps (law5_run T n1 n1 (n1 + 1) D tiles spare W r gv gs _ (hgs.frame (Nat.le_refl _) ?_) hV (by omega) (by omega) (by omega) (q % (tiles * gs.length)) (Nat.mod_lt _ htk) _ _ _ _ _ _ (n1 + 2) (by omega) (by omega) (by omega) ?_ ?_ (fun e' M N w hw r5 => ?_))
  · intro b hb; simp (implicitDefEqProofs := false) (disch := omega) only [WPs, opds, List.all_cons, List.all_nil, List.cons_append, List.nil_append, cond_true, cond_false, eq_self, List.map_cons, List.map_nil, Nat.reduceAdd, Nat.testBit, Nat.reduceShiftRight, Nat.reduceAnd, Nat.reduceBNe, Nat.reduceMul]
  · simp (implicitDefEqProofs := false) (disch := omega) only [WPs, opds, List.all_cons, List.all_nil, List.cons_append, List.nil_append, cond_true, cond_false, eq_self, List.map_cons, List.map_nil, Nat.reduceAdd, Nat.testBit, Nat.reduceShiftRight, Nat.reduceAnd, Nat.reduceBNe, Nat.reduceMul]
  · simp (implicitDefEqProofs := false) (disch := omega) only [WPs, opds, List.all_cons, List.all_nil, List.cons_append, List.nil_append, cond_true, cond_false, eq_self, List.map_cons, List.map_nil, Nat.reduceAdd, Nat.testBit, Nat.reduceShiftRight, Nat.reduceAnd, Nat.reduceBNe, Nat.reduceMul, List.map_replicate]
  · simp (implicitDefEqProofs := false) (disch := omega) only [WPs, opds, List.all_cons, List.all_nil, List.cons_append, List.nil_append, cond_true, cond_false, eq_self, List.map_cons, List.map_nil, Nat.reduceAdd, Nat.testBit, Nat.reduceShiftRight, Nat.reduceAnd, Nat.reduceBNe, Nat.reduceMul, hw1, hw]
end Go.Am.C21
namespace Go.Am.C21
open Go Go.Am
variable {E : Nat → Option AFn} {Y : Nat → List Value → FM → Nat → OR FM}
def keyOf (gs : List (List Int)) (W r H g i : Nat) : Nat := (homeDisk gs W g i).toNat * H + homeBlock gs W r g i
def DoneF (gs : List (List Int)) (W r H g i k : Nat) : Prop := ∃ g' i', i' < W ∧ (g' < g ∨ g' = g ∧ i' < i) ∧ keyOf gs W r H g' i' = k
structure FInv (gs : List (List Int)) (D tiles W r g i : Nat) (U : List Bool) : Prop where
  len : U.length = D * (tiles * r)
  done : ∀ k, U[k]? = some true ↔ DoneF gs W r (tiles * r) g i k
theorem key_eq {D tiles spare W r : Nat} {gs : List (List Int)} (h : VN D gs tiles spare W r) {g i g' i' : Nat} (hg : g < tiles * gs.length) (hi : i < W) (hg' : g' < tiles * gs.length) (hi' : i' < W) (e : keyOf gs W r (tiles * r) g i = keyOf gs W r (tiles * r) g' i') : g = g' ∧ i = i' := by
  obtain ⟨_, _, d, hD, _, hdd, _, _, hB⟩ := vn_home h hg hi
  obtain ⟨_, _, d', hD', _, hdd', _, _, hB'⟩ := vn_home h hg' hi'
  unfold keyOf at e
  rw [hD, hD', Int.toNat_natCast, Int.toNat_natCast] at e
  have hp : 0 < tiles * r := by omega
  have e1 : d = d' := by
    have k1 : (d * (tiles * r) + homeBlock gs W r g i) / (tiles * r) = d := by rw [Nat.add_comm, Nat.add_mul_div_right _ _ hp, Nat.div_eq_of_lt hB, Nat.zero_add]
    have k2 : (d' * (tiles * r) + homeBlock gs W r g' i') / (tiles * r) = d' := by rw [Nat.add_comm, Nat.add_mul_div_right _ _ hp, Nat.div_eq_of_lt hB', Nat.zero_add]
    rw [← k1, ← k2, e]
  subst e1
  exact home_inj h hg hi hg' hi' (hD.trans hD'.symm) (by omega)
theorem FInv.fresh {D tiles spare W r g i : Nat} {gs : List (List Int)} {U : List Bool} (hV : VN D gs tiles spare W r) (h : FInv gs D tiles W r g i U) (hg : g < tiles * gs.length) (hi : i < W) : U[keyOf gs W r (tiles * r) g i]? ≠ some true := by
  intro hc
  obtain ⟨g', i', h1, h2, h3⟩ := (h.done _).1 hc
  obtain ⟨e1, e2⟩ := key_eq hV (by omega) h1 hg hi h3
  omega
theorem FInv.step {D tiles spare W r g i : Nat} {gs : List (List Int)} {U : List Bool} (hV : VN D gs tiles spare W r) (h : FInv gs D tiles W r g i U) (hg : g < tiles * gs.length) (hi : i < W) (hk : keyOf gs W r (tiles * r) g i < U.length) : FInv gs D tiles W r g (i + 1) (U.set (keyOf gs W r (tiles * r) g i) true) := by
  refine ⟨by rw [List.length_set, h.len], fun k => ?_⟩
  by_cases e : keyOf gs W r (tiles * r) g i = k
  · subst e
    rw [List.getElem?_set_self hk]
    exact ⟨fun _ => ⟨g, i, hi, .inr ⟨rfl, by omega⟩, rfl⟩, fun _ => rfl⟩
  · rw [List.getElem?_set_ne e, h.done]
    constructor
    · rintro ⟨g', i', h1, h2, h3⟩
      exact ⟨g', i', h1, by omega, h3⟩
    · rintro ⟨g', i', h1, h2, h3⟩
      refine ⟨g', i', h1, ?_, h3⟩
      rcases h2 with h2 | ⟨rfl, h2⟩
      · exact .inl h2
      · by_cases e2 : i' = i
        · subst e2; exact absurd h3 e
        · exact .inr ⟨rfl, by omega⟩
theorem FInv.next {D tiles W r g : Nat} {gs : List (List Int)} {U : List Bool} (h : FInv gs D tiles W r g W U) : FInv gs D tiles W r (g + 1) 0 U := by
  refine ⟨h.len, fun k => ?_⟩
  rw [h.done]
  constructor
  · rintro ⟨g', i', h1, h2, h3⟩; exact ⟨g', i', h1, by omega, h3⟩
  · rintro ⟨g', i', h1, h2, h3⟩; exact ⟨g', i', h1, by omega, h3⟩
/-- every home is that of a piece -/
theorem FInv.all {D tiles spare W r : Nat} {gs : List (List Int)} {U : List Bool} (hV : VN D gs tiles spare W r) (h : FInv gs D tiles W r (tiles * gs.length) 0 U) (k : Nat) (hk : k < U.length) : U[k] = true := by
  have hp : 0 < tiles * r := Nat.mul_pos (by have := hV.b1; omega) hV.r0
  rw [h.len] at hk
  have hd : k / (tiles * r) < D := Nat.div_lt_of_lt_mul (by rw [Nat.mul_comm]; exact hk)
  have hb : k % (tiles * r) < tiles * r := Nat.mod_lt _ hp
  obtain ⟨h1, h2, h3⟩ := mem_home hV hd hb
  have hkey : keyOf gs W r (tiles * r) (memG gs r (k / (tiles * r)) (k % (tiles * r))) (memP gs W r (k / (tiles * r)) (k % (tiles * r))) = k := by
    unfold keyOf
    rw [h3.1, Int.toNat_natCast]
    have := h3.2
    have e : homeBlock gs W r (memG gs r (k / (tiles * r)) (k % (tiles * r))) (memP gs W r (k / (tiles * r)) (k % (tiles * r))) = k % (tiles * r) := by omega
    rw [e]
    exact Nat.div_add_mod' k (tiles * r)
  have := (h.done k).2 ⟨_, _, h2, .inl h1, hkey⟩
  obtain ⟨hk2, e⟩ := List.getElem?_eq_some_iff.1 this
  exact e
/-- the memory while the homes are counted -/
structure FMem (M0 M : FM) (n0 N lb ub : Nat) (D : Nat) (gv : Value) (tiles spare : Nat) (U : List Bool) : Prop where
  n : n0 ≤ N ∧ lb < N ∧ ub < N
  low : ∀ b, b < n0 → M b = M0 b
  l : M lb = some (.cells [.int .i64 D, gv, .int .i64 tiles, .int .i64 spare] 0 false true)
  u : M ub = some (.cells (U.map Value.bool) 1 false true)
theorem law6_L0 (T : Tab E) (M0 : FM) (n0 lb ub D tiles spare W r : Nat) (gv : Value) (gs : List (List Int)) (hgs : Rows M0 n0 gv gs) (hV : VN D gs tiles spare W r) (hlb : n0 ≤ lb) (hub : n0 ≤ ub) (hlu : lb ≠ ub) (hDH : D * (tiles * r) ≤ 1000000) (g : Nat) (hg : g < tiles * gs.length) (x0 x2 x3 x4 x5 x6 x8 x10 x13 x14 x15 : Value) : ∀ k i, i + k = W → ∀ (M : FM) (N : Nat) (U : List Bool) (Q : AX → List Value → FM → Nat → Nat → Prop), FMem M0 M n0 N lb ub D gv tiles spare U → FInv gs D tiles W r g i U →
    (∀ M' N' w U', FMem M0 M' n0 N' lb ub D gv tiles spare U' → FInv gs D tiles W r g W U' → (∀ j, j ≤ n0 → Nat.mod w (bit j) = 0) → Q (.exit 2) [x0, .int .i64 (W : Int), x2, x3, x4, x5, x6, .int .i64 g, x8, .slice (some ⟨ub, 0, none⟩) (D * (tiles * r)) (D * (tiles * r)), x10, .int .i64 ((tiles * r : Nat) : Int), .pointer (some ⟨lb, 0, none⟩), x13, x14, x15] M' N' w) →
    Gv (execW PG E Y ac6L0 [x0, .int .i64 (i : Int), x2, x3, x4, x5, x6, .int .i64 g, x8, .slice (some ⟨ub, 0, none⟩) (D * (tiles * r)) (D * (tiles * r)), x10, .int .i64 ((tiles * r : Nat) : Int), .pointer (some ⟨lb, 0, none⟩), x13, x14, x15] M N) Q := by
  intro k
  have hb3 := hV.b3
  have hb6 := hV.b6
  induction k with
  | zero =>
    intro i hi M N U Q hM hI hQ
    obtain ⟨hN, hl, hu⟩ := hM.n
    have low := hM.low
    have hL := hM.l
    refine wr_loopN (L := ac6L0) (b := ac6L0b) rfl ?_
    simp only [ac6L0b]
    simp (implicitDefEqProofs := false) (disch := omega) only [WPs, opds, List.all_cons, List.all_nil, List.cons_append, List.nil_append, cond_true, cond_false, eq_self, List.map_cons, List.map_nil, Nat.reduceAdd, Nat.testBit, Nat.reduceShiftRight, Nat.reduceAnd, Nat.reduceBNe, Nat.reduceMul, hL]
    refine use_pure (width_good T _ _ D tiles spare W r gv gs (hgs.frame hN low) hV) fun r2 => ?_
    simp (implicitDefEqProofs := false) (disch := omega) only [WPs, opds, List.all_cons, List.all_nil, List.cons_append, List.nil_append, cond_true, cond_false, eq_self, List.map_cons, List.map_nil, Nat.reduceAdd, Nat.testBit, Nat.reduceShiftRight, Nat.reduceAnd, Nat.reduceBNe, Nat.reduceMul]
    obtain rfl : i = W := by omega
    exact hQ M N 0 U hM hI (fun j _ => mod_zero _)
  | succ k ih =>
    intro i hi M N U Q hM hI hQ
    have hiW : i < W := by omega
    obtain ⟨hN, hl, hu⟩ := hM.n
    have low := hM.low
    have hL := hM.l
    have hU := hM.u
    have hUl := hI.len
    obtain ⟨_, _, d, hD, _, hdd, _, _, hB⟩ := vn_home hV hg hiW
    have hkey : keyOf gs W r (tiles * r) g i = d * (tiles * r) + homeBlock gs W r g i := by unfold keyOf; rw [hD, Int.toNat_natCast]
    have hklt : d * (tiles * r) + homeBlock gs W r g i < D * (tiles * r) := by
      calc d * (tiles * r) + homeBlock gs W r g i < d * (tiles * r) + tiles * r := by omega
        _ = (d + 1) * (tiles * r) := by rw [Nat.add_mul, Nat.one_mul]
        _ ≤ D * (tiles * r) := Nat.mul_le_mul_right _ hdd
    have hfr := hI.fresh hV hg hiW
    have hst := hI.step hV hg hiW (by rw [hkey]; omega)
    rw [hkey] at hfr hst
    have hfr2 : U[d * (tiles * r) + homeBlock gs W r g i]'(by omega) = false := by
      rw [List.getElem?_eq_getElem (by omega)] at hfr
      cases hc : U[d * (tiles * r) + homeBlock gs W r g i]'(by omega) with
      | false => rfl
      | true => rw [hc] at hfr; exact absurd rfl hfr
    obtain ⟨ky, hky⟩ : ∃ ky, d * (tiles * r) + homeBlock gs W r g i = ky := ⟨_, rfl⟩
    have hdh : d * (tiles * r) ≤ 1000000 := by omega
    refine wr_loopN (L := ac6L0) (b := ac6L0b) rfl ?_
    simp only [ac6L0b]
    simp (implicitDefEqProofs := false) (disch := omega) only [WPs, opds, List.all_cons, List.all_nil, List.cons_append, List.nil_append, cond_true, cond_false, eq_self, List.map_cons, List.map_nil, Nat.reduceAdd, Nat.testBit, Nat.reduceShiftRight, Nat.reduceAnd, Nat.reduceBNe, Nat.reduceMul, hL]
    refine use_pure (width_good T _ _ D tiles spare W r gv gs (hgs.frame hN low) hV) fun r2 => ?_
    simp (implicitDefEqProofs := false) (disch := omega) only [WPs, opds, List.all_cons, List.all_nil, List.cons_append, List.nil_append, cond_true, cond_false, eq_self, List.map_cons, List.map_nil, Nat.reduceAdd, Nat.testBit, Nat.reduceShiftRight, Nat.reduceAnd, Nat.reduceBNe, Nat.reduceMul, hL]
    refine use_rt (home_in T _ _ D tiles spare W r gv gs (hgs.frame hN low) hV g i hg hiW) fun v m2 n2 r3 w3 h => ?_
    obtain ⟨hn2, hf2, hw3, rfl⟩ := h
    rw [hD]
    simp (implicitDefEqProofs := false) (disch := omega) only [WPs, opds, List.all_cons, List.all_nil, List.cons_append, List.nil_append, cond_true, cond_false, eq_self, List.map_cons, List.map_nil, Nat.reduceAdd, Nat.testBit, Nat.reduceShiftRight, Nat.reduceAnd, Nat.reduceBNe, Nat.reduceMul, hL, hf2, hU, get_bool, set_bool, hUl, hfr2]
    have hw3n : ∀ j, j ≤ n0 → Nat.mod w3 (bit j) = 0 := fun j hj => hw3 j (by omega)
    exact wr_end' (ih (i + 1) (by omega) (AMem.put (AMem.put m2 n2 (some (.cells [.int .i64 d, .int .i64 (homeBlock gs W r g i : Int)] 0 false true))) ub (some (.cells ((U.set (d * (tiles * r) + homeBlock gs W r g i) true).map Value.bool) 1 false true))) (n2 + 1) _ (fun X e m n w => Q X e m n (Nat.lor (Nat.lor (Nat.lor (Nat.lor w3 (bit n2)) (bit n2)) (bit ub)) w)) ⟨⟨by omega, by omega, by omega⟩, fun b hb => by simp (implicitDefEqProofs := false) (disch := omega) only [WPs, opds, List.all_cons, List.all_nil, List.cons_append, List.nil_append, cond_true, cond_false, eq_self, List.map_cons, List.map_nil, Nat.reduceAdd, Nat.testBit, Nat.reduceShiftRight, Nat.reduceAnd, Nat.reduceBNe, Nat.reduceMul, hf2, low], by simp (implicitDefEqProofs := false) (disch := omega) only [WPs, opds, List.all_cons, List.all_nil, List.cons_append, List.nil_append, cond_true, cond_false, eq_self, List.map_cons, List.map_nil, Nat.reduceAdd, Nat.testBit, Nat.reduceShiftRight, Nat.reduceAnd, Nat.reduceBNe, Nat.reduceMul, hf2, hL], fput_same _ _ _⟩ hst fun M' N' w U' k1 k2 k3 => hQ M' N' _ U' k1 k2 (fun j hj => by simp (implicitDefEqProofs := false) (disch := omega) only [WPs, opds, List.all_cons, List.all_nil, List.cons_append, List.nil_append, cond_true, cond_false, eq_self, List.map_cons, List.map_nil, Nat.reduceAdd, Nat.testBit, Nat.reduceShiftRight, Nat.reduceAnd, Nat.reduceBNe, Nat.reduceMul, hw3n, k3]))
theorem law6_L1 (T : Tab E) (M0 : FM) (n0 lb ub D tiles spare W r : Nat) (gv : Value) (gs : List (List Int)) (hgs : Rows M0 n0 gv gs) (hV : VN D gs tiles spare W r) (hlb : n0 ≤ lb) (hub : n0 ≤ ub) (hlu : lb ≠ ub) (hDH : D * (tiles * r) ≤ 1000000) (x0 x2 x4 x7 x8 x9 : Value) : ∀ k g, g + k = tiles * gs.length → ∀ (M : FM) (N : Nat) (U : List Bool) (Q : AX → List Value → FM → Nat → Nat → Prop), FMem M0 M n0 N lb ub D gv tiles spare U → FInv gs D tiles W r g 0 U →
    (∀ M' N' w U', FMem M0 M' n0 N' lb ub D gv tiles spare U' → FInv gs D tiles W r (tiles * gs.length) 0 U' → (∀ j, j ≤ n0 → Nat.mod w (bit j) = 0) → Q (.exit 0) [x0, x2, .slice (some ⟨ub, 0, none⟩) (D * (tiles * r)) (D * (tiles * r)), x4, .int .i64 ((tiles * r : Nat) : Int), .pointer (some ⟨lb, 0, none⟩), x7, x8, x9] M' N' w) →
    Gv (execW PG E Y ac6L1 [x0, .int .i64 (g : Int), x2, .slice (some ⟨ub, 0, none⟩) (D * (tiles * r)) (D * (tiles * r)), x4, .int .i64 ((tiles * r : Nat) : Int), .pointer (some ⟨lb, 0, none⟩), x7, x8, x9] M N) Q := by
  intro k
  have hb4 := hV.b4
  induction k with
  | zero =>
    intro g hg M N U Q hM hI hQ
    obtain ⟨hN, hl, hu⟩ := hM.n
    have low := hM.low
    have hL := hM.l
    refine wr_loopN (L := ac6L1) (b := ac6L1b) rfl ?_
    simp only [ac6L1b]
    simp (implicitDefEqProofs := false) (disch := omega) only [WPs, opds, List.all_cons, List.all_nil, List.cons_append, List.nil_append, cond_true, cond_false, eq_self, List.map_cons, List.map_nil, Nat.reduceAdd, Nat.testBit, Nat.reduceShiftRight, Nat.reduceAnd, Nat.reduceBNe, Nat.reduceMul, hL]
    refine use_pure (groups_good T _ _ D tiles spare W r gv gs (hgs.frame hN low) hV) fun r2 => ?_
    simp (implicitDefEqProofs := false) (disch := omega) only [WPs, opds, List.all_cons, List.all_nil, List.cons_append, List.nil_append, cond_true, cond_false, eq_self, List.map_cons, List.map_nil, Nat.reduceAdd, Nat.testBit, Nat.reduceShiftRight, Nat.reduceAnd, Nat.reduceBNe, Nat.reduceMul]
    obtain rfl : g = tiles * gs.length := by omega
    exact hQ M N 0 U hM hI (fun j _ => mod_zero _)
  | succ k ih =>
    intro g hg M N U Q hM hI hQ
    obtain ⟨hN, hl, hu⟩ := hM.n
    have low := hM.low
    have hL := hM.l
    refine wr_loopN (L := ac6L1) (b := ac6L1b) rfl ?_
    simp only [ac6L1b]
    simp (implicitDefEqProofs := false) (disch := omega) only [WPs, opds, List.all_cons, List.all_nil, List.cons_append, List.nil_append, cond_true, cond_false, eq_self, List.map_cons, List.map_nil, Nat.reduceAdd, Nat.testBit, Nat.reduceShiftRight, Nat.reduceAnd, Nat.reduceBNe, Nat.reduceMul, hL]
    refine use_pure (groups_good T _ _ D tiles spare W r gv gs (hgs.frame hN low) hV) fun r2 => ?_
    simp (implicitDefEqProofs := false) (disch := omega) only [WPs, opds, List.all_cons, List.all_nil, List.cons_append, List.nil_append, cond_true, cond_false, eq_self, List.map_cons, List.map_nil, Nat.reduceAdd, Nat.testBit, Nat.reduceShiftRight, Nat.reduceAnd, Nat.reduceBNe, Nat.reduceMul]
    refine wr_cps (law6_L0 T M0 n0 lb ub D tiles spare W r gv gs hgs hV hlb hub hlu hDH g (by omega) _ _ _ _ _ _ _ _ _ _ _ W 0 (by omega) M N U _ hM hI fun M1 N1 w1 U1 k1 k2 k3 r3 => ?_)
    simp (implicitDefEqProofs := false) (disch := omega) only [WPs, opds, List.all_cons, List.all_nil, List.cons_append, List.nil_append, cond_true, cond_false, eq_self, List.map_cons, List.map_nil, Nat.reduceAdd, Nat.testBit, Nat.reduceShiftRight, Nat.reduceAnd, Nat.reduceBNe, Nat.reduceMul]
    exact wr_end' (ih (g + 1) (by omega) M1 N1 U1 (fun X e m n w => Q X e m n (Nat.lor w1 w)) k1 k2.next fun M' N' w U' j1 j2 j3 => hQ M' N' _ U' j1 j2 (fun j hj => by simp (implicitDefEqProofs := false) (disch := omega) only [WPs, opds, List.all_cons, List.all_nil, List.cons_append, List.nil_append, cond_true, cond_false, eq_self, List.map_cons, List.map_nil, Nat.reduceAdd, Nat.testBit, Nat.reduceShiftRight, Nat.reduceAnd, Nat.reduceBNe, Nat.reduceMul, k3, j3]))
theorem law6_L2 (M : FM) (N ub L : Nat) (U : List Bool) (hu : ub < N) (hU : M ub = some (.cells (U.map Value.bool) 1 false true)) (hl : U.length = L) (hL : L ≤ 1000000) (hall : ∀ k (h : k < U.length), U[k] = true) (x3 x4 x6 x7 x8 x9 x10 x11 : Value) {Q : AX → List Value → FM → Nat → Nat → Prop} (hQ : ∀ e', Q (.exit 4) e' M N 0) : ∀ k i, i + k = L → ∀ x0 x2 : Value,
    Gv (execW PG E Y ac6L2 [x0, .int .i64 (i : Int), x2, x3, x4, .slice (some ⟨ub, 0, none⟩) L L, x6, x7, x8, x9, x10, x11] M N) Q := by
  intro k
  induction k with
  | zero =>
    intro i hi x0 x2
    refine wr_loopN (L := ac6L2) (b := ac6L2b) rfl ?_
    simp only [ac6L2b]
    simp (implicitDefEqProofs := false) (disch := omega) only [WPs, opds, List.all_cons, List.all_nil, List.cons_append, List.nil_append, cond_true, cond_false, eq_self, List.map_cons, List.map_nil, Nat.reduceAdd, Nat.testBit, Nat.reduceShiftRight, Nat.reduceAnd, Nat.reduceBNe, Nat.reduceMul]
    exact hQ _
  | succ k ih =>
    intro i hi x0 x2
    have hg := hall i (by omega)
    refine wr_loopN (L := ac6L2) (b := ac6L2b) rfl ?_
    simp only [ac6L2b]
    simp (implicitDefEqProofs := false) (disch := omega) only [WPs, opds, List.all_cons, List.all_nil, List.cons_append, List.nil_append, cond_true, cond_false, eq_self, List.map_cons, List.map_nil, Nat.reduceAdd, Nat.testBit, Nat.reduceShiftRight, Nat.reduceAnd, Nat.reduceBNe, Nat.reduceMul, hU, get_bool, hg]
    exact wr_end' ((ih (i + 1) (by omega) _ _).mono fun X e m n w hq => by simpa only [zero_lor'] using hq)
theorem small_r {D W r l : Nat} {gs : List (List Int)} (h : (D, W, r, l, gs) ∈ SmallL) : r ≤ 15 ∧ D ≤ 13 ∧ W ≤ 5 ∧ 4 ≤ W := by
  simp only [SmallL, List.mem_cons, List.not_mem_nil, or_false, Prod.mk.injEq] at h
  rcases h with ⟨rfl, rfl, rfl, rfl, rfl⟩ | ⟨rfl, rfl, rfl, rfl, rfl⟩ | ⟨rfl, rfl, rfl, rfl, rfl⟩ | ⟨rfl, rfl, rfl, rfl, rfl⟩ | ⟨rfl, rfl, rfl, rfl, rfl⟩ | ⟨rfl, rfl, rfl, rfl, rfl⟩ | ⟨rfl, rfl, rfl, rfl, rfl⟩ <;> omega
theorem layoutFull_exec (hE : E 6 = some ac6) (T : Tab E) (h14 : E 14 = some ac14) (hM : Mk E Y) (hA : ∀ m n, Pure (callW PG E Y 13 [] m n) m n (.bool true)) (m : FM) (n : Nat) (k : Nat) (hk : k < 65536) :
    Pure (callW PG E Y 6 [.int .u16 k] m n) m n (.bool true) := by
  refine pure_spec hE rfl rfl ?_
  simp only [ac6]
  simp (implicitDefEqProofs := false) (disch := omega) only [WPs, opds, List.all_cons, List.all_nil, List.cons_append, List.nil_append, cond_true, cond_false, eq_self, List.map_cons, List.map_nil, Nat.reduceAdd, Nat.testBit, Nat.reduceShiftRight, Nat.reduceAnd, Nat.reduceBNe, Nat.reduceMul]
  refine use_pure (hA _ _) fun _ => ?_
  simp (implicitDefEqProofs := false) (disch := omega) only [WPs, opds, List.all_cons, List.all_nil, List.cons_append, List.nil_append, cond_true, cond_false, eq_self, List.map_cons, List.map_nil, Nat.reduceAdd, Nat.testBit, Nat.reduceShiftRight, Nat.reduceAnd, Nat.reduceBNe, Nat.reduceMul]
  refine use_rt (small_vn h14 hM _ _ k hk) fun v m1 n1 r1 w1 h => ?_
  obtain ⟨hn1, hf1, hw1, D, W, r, l, tiles, spare, gs, gv, rfl, hgs, hV, hmem, ht5, hs7⟩ := h
  simp (implicitDefEqProofs := false) (disch := omega) only [WPs, opds, List.all_cons, List.all_nil, List.cons_append, List.nil_append, cond_true, cond_false, eq_self, List.map_cons, List.map_nil, Nat.reduceAdd, Nat.testBit, Nat.reduceShiftRight, Nat.reduceAnd, Nat.reduceBNe, Nat.reduceMul, layV, hw1, hf1, cells_of_one hgs.one, hgs.one, hgs.bel, hgs.belF, conv_int]
  obtain ⟨sr, sD, _, _⟩ := small_r hmem
  have hb1 := hV.b1
  have hr0 := hV.r0
  have hp : 0 < tiles * r := Nat.mul_pos (by omega) hr0
  have hH : tiles * r ≤ 5 * 15 := Nat.mul_le_mul ht5 sr
  have hDH : D * (tiles * r) ≤ 13 * 75 := Nat.mul_le_mul sD (by omega)
  refine use_pureX (blocks_good T _ _ D tiles spare W r gv gs (hgs.frame (by omega) fun b hb => by simp (implicitDefEqProofs := false) (disch := omega) only [WPs, opds, List.all_cons, List.all_nil, List.cons_append, List.nil_append, cond_true, cond_false, eq_self, List.map_cons, List.map_nil, Nat.reduceAdd, Nat.testBit, Nat.reduceShiftRight, Nat.reduceAnd, Nat.reduceBNe, Nat.reduceMul]) hV) fun r2 => ?_
  have hsub : ((tiles * r + spare : Nat) : Int) - (spare : Int) = ((tiles * r : Nat) : Int) := by omega
  simp (implicitDefEqProofs := false) (disch := omega) only [WPs, opds, List.all_cons, List.all_nil, List.cons_append, List.nil_append, cond_true, cond_false, eq_self, List.map_cons, List.map_nil, Nat.reduceAdd, Nat.testBit, Nat.reduceShiftRight, Nat.reduceAnd, Nat.reduceBNe, Nat.reduceMul, hw1, hsub, Nat.add_sub_cancel]
  refine wr_cps (law6_L1 T m1 n1 n1 (n1 + 1) D tiles spare W r gv gs hgs hV (by omega) (by omega) (by omega) (by omega) _ _ _ _ _ _ (tiles * gs.length) 0 (by omega) _ (n1 + 2) (List.replicate (D * (tiles * r)) false) _ ⟨⟨by omega, by omega, by omega⟩, ?_, ?_, ?_⟩ ⟨by simp, ?_⟩ fun M' N' w U' j1 j2 j3 r3 => ?_)
  · intro b hb; simp (implicitDefEqProofs := false) (disch := omega) only [WPs, opds, List.all_cons, List.all_nil, List.cons_append, List.nil_append, cond_true, cond_false, eq_self, List.map_cons, List.map_nil, Nat.reduceAdd, Nat.testBit, Nat.reduceShiftRight, Nat.reduceAnd, Nat.reduceBNe, Nat.reduceMul]
  · simp (implicitDefEqProofs := false) (disch := omega) only [WPs, opds, List.all_cons, List.all_nil, List.cons_append, List.nil_append, cond_true, cond_false, eq_self, List.map_cons, List.map_nil, Nat.reduceAdd, Nat.testBit, Nat.reduceShiftRight, Nat.reduceAnd, Nat.reduceBNe, Nat.reduceMul]
  · simp (implicitDefEqProofs := false) (disch := omega) only [WPs, opds, List.all_cons, List.all_nil, List.cons_append, List.nil_append, cond_true, cond_false, eq_self, List.map_cons, List.map_nil, Nat.reduceAdd, Nat.testBit, Nat.reduceShiftRight, Nat.reduceAnd, Nat.reduceBNe, Nat.reduceMul, List.map_replicate]
  · intro k
    constructor
    · intro h
      rw [List.getElem?_replicate] at h
      split at h <;> cases h
    · rintro ⟨g', i', h1, h2, h3⟩; omega
  · have jn := j1.n
    simp (implicitDefEqProofs := false) (disch := omega) only [WPs, opds, List.all_cons, List.all_nil, List.cons_append, List.nil_append, cond_true, cond_false, eq_self, List.map_cons, List.map_nil, Nat.reduceAdd, Nat.testBit, Nat.reduceShiftRight, Nat.reduceAnd, Nat.reduceBNe, Nat.reduceMul]
    refine wr_cps (law6_L2 M' N' (n1 + 1) (D * (tiles * r)) U' (by omega) j1.u j2.len (by omega) (j2.all hV) _ _ _ _ _ _ _ _ (fun e' r4 => ?_) (D * (tiles * r)) 0 (by omega) _ _)
    simp (implicitDefEqProofs := false) (disch := omega) only [WPs, opds, List.all_cons, List.all_nil, List.cons_append, List.nil_append, cond_true, cond_false, eq_self, List.map_cons, List.map_nil, Nat.reduceAdd, Nat.testBit, Nat.reduceShiftRight, Nat.reduceAnd, Nat.reduceBNe, Nat.reduceMul, hw1, j3]
end Go.Am.C21
namespace Go.Am.C21
open Go Go.Am
set_option maxRecDepth 1000000
variable {E : Nat → Option AFn} {Y : Nat → List Value → FM → Nat → OR FM}
/-- how many pieces of each number the first blocks of a disk hold -/
def cntP (gs : List (List Int)) (W r d : Nat) : Nat → List Nat
  | 0 => List.replicate W 0
  | i + 1 => (cntP gs W r d i).modify (memP gs W r d i) (fun x => x + 1)
theorem cntP_len (gs : List (List Int)) (W r d : Nat) : ∀ i, (cntP gs W r d i).length = W
  | 0 => List.length_replicate
  | i + 1 => by rw [cntP, List.length_modify, cntP_len gs W r d i]
theorem cntP_le (gs : List (List Int)) (W r d : Nat) : ∀ i (j : Nat) (h : j < (cntP gs W r d i).length), (cntP gs W r d i)[j] ≤ i
  | 0, j, h => by simp [cntP]
  | i + 1, j, h => by
    have h2 : j < (cntP gs W r d i).length := by rw [cntP_len] at h ⊢; exact h
    have := cntP_le gs W r d i j h2
    simp only [cntP, List.getElem_modify]
    split <;> omega
def spB (D W r : Nat) (gs : List (List Int)) : Bool := (List.range D).all fun d => (cntP gs W r d (W * r)).all (fun x => x * W == W * r) && (cntP gs W r d (2 * W * r)).all (fun x => x * W == 2 * W * r)
theorem sp_mem {D W r l : Nat} {gs : List (List Int)} (h : (D, W, r, l, gs) ∈ SmallL) : spB D W r gs = true := by
  simp only [SmallL, List.mem_cons, List.not_mem_nil, or_false, Prod.mk.injEq] at h
  rcases h with ⟨rfl, rfl, rfl, rfl, rfl⟩ | ⟨rfl, rfl, rfl, rfl, rfl⟩ | ⟨rfl, rfl, rfl, rfl, rfl⟩ | ⟨rfl, rfl, rfl, rfl, rfl⟩ | ⟨rfl, rfl, rfl, rfl, rfl⟩ | ⟨rfl, rfl, rfl, rfl, rfl⟩ | ⟨rfl, rfl, rfl, rfl, rfl⟩ <;> decide +kernel
theorem belowV_tup (n : Nat) (l : List Value) : belowV n (.tuple l.toArray) = l.all (below1 n) := rfl
theorem below1_int (n : Nat) (k : IntKind) (z : Int) : below1 n (.int k z) = true := rfl
theorem slZ_bel1 {sz : Nat} {M : FM} {n0 N : Nat} {v : Value} {len : Nat} {cs : List Value} (h : SlZ sz M n0 N v len cs) (k : Nat) (hk : N ≤ k) : below1 k v = true := by
  rcases h with ⟨_, _, rfl⟩ | ⟨_, _, b, rfl, _, hb, _⟩
  · rfl
  · exact blt_true (show b < k by omega)
def natV (x : Nat) : Value := .int .i64 (x : Int)
theorem natV_mk (x : Nat) : natV x = .int .i64 (x : Int) := rfl
theorem get_nat {A : List Nat} {i : Nat} (h : i < A.length) : cget (A.map natV) i = some (.int .i64 (A[i] : Int)) := by
  rw [cget_eq, List.getElem?_map, List.getElem?_eq_getElem h]; rfl
theorem set_nat {A : List Nat} {i x : Nat} (h : i < A.length) (hx : x = A[i] + 1) : setCells (A.map natV) i [.int .i64 (x : Int)] = some ((A.modify i (fun x => x + 1)).map natV) := by
  rw [set_one (by simpa using h)]
  congr 1
  refine List.ext_getElem (by simp) fun j h1 h2 => ?_
  simp only [List.getElem_set, List.getElem_map, List.getElem_modify]
  by_cases e : i = j
  · subst e; simp [hx, natV]
  · simp [e]
theorem law10_L0 (M0 : FM) (n0 ub W r H : Nat) (gs : List (List Int)) (d : Nat) (mv : Value) (hH : H ≤ 1000000) (hW : W ≤ 100) (hp : ∀ i, i < H → memP gs W r d i < W) (nS : Nat) (hS : ∀ (M : FM) (N : Nat), n0 ≤ N → (∀ b, b < n0 → M b = M0 b) → SlZ 2 M nS N mv H (memC gs W r d H)) (hub : n0 ≤ ub) (x4 x6 x7 x8 x9 x10 x11 : Value) : ∀ k i, i + k = H → ∀ (M : FM) (N : Nat) (x0 x2 : Value) (Q : AX → List Value → FM → Nat → Nat → Prop), n0 ≤ N → ub < N → (∀ b, b < n0 → M b = M0 b) → M ub = some (.cells ((cntP gs W r d i).map natV) 1 false true) →
    (∀ M' N' w y0, n0 ≤ N' → ub < N' → (∀ b, b < n0 → M' b = M0 b) → M' ub = some (.cells ((cntP gs W r d H).map natV) 1 false true) → (∀ j, j ≤ n0 → Nat.mod w (bit j) = 0) → Q (.exit 0) [y0, x2, .slice (some ⟨ub, 0, none⟩) W W, x4, mv, x6, x7, x8, x9, x10, x11] M' N' w) →
    Gv (execW PG E Y ac10L0 [x0, .int .i64 (i : Int), x2, .slice (some ⟨ub, 0, none⟩) W W, x4, mv, x6, x7, x8, x9, x10, x11] M N) Q := by
  intro k
  induction k with
  | zero =>
    intro i hi M N x0 x2 Q hN hu hlow hU hQ
    obtain rfl : i = H := by omega
    refine wr_loopN (L := ac10L0) (b := ac10L0b) rfl ?_
    simp only [ac10L0b]
    simp (implicitDefEqProofs := false) (disch := omega) only [WPs, opds, List.all_cons, List.all_nil, List.cons_append, List.nil_append, cond_true, cond_false, eq_self, List.map_cons, List.map_nil, Nat.reduceAdd, Nat.testBit, Nat.reduceShiftRight, Nat.reduceAnd, Nat.reduceBNe, Nat.reduceMul, (hS M N hN hlow).len]
    exact hQ M N 0 _ hN hu hlow hU (fun j _ => mod_zero _)
  | succ k ih =>
    intro i hi M N x0 x2 Q hN hu hlow hU hQ
    have hil : i < H := by omega
    have hSM := hS M N hN hlow
    obtain ⟨bb, i1, h1, h2, h3, h4⟩ := hSM.at hil
    obtain ⟨c1, c2⟩ := memC_get gs W r d H i hil
    rw [← cget_eq] at c1 c2
    have hpi := hp i hil
    have hcl := cntP_len gs W r d i
    have hle := cntP_le gs W r d i (memP gs W r d i) (by omega)
    refine wr_loopN (L := ac10L0) (b := ac10L0b) rfl ?_
    simp only [ac10L0b]
    simp (implicitDefEqProofs := false) (disch := omega) only [WPs, opds, List.all_cons, List.all_nil, List.cons_append, List.nil_append, cond_true, cond_false, eq_self, List.map_cons, List.map_nil, Nat.reduceAdd, Nat.testBit, Nat.reduceShiftRight, Nat.reduceAnd, Nat.reduceBNe, Nat.reduceMul, hSM.len, i1, h3, c1, c2, hU, get_nat, hcl, set_nat]
    exact wr_end' (ih (i + 1) (by omega) _ _ _ _ (fun X e m n w => Q X e m n (Nat.lor (bit ub) w)) hN hu (fun b hb => by simp (implicitDefEqProofs := false) (disch := omega) only [WPs, opds, List.all_cons, List.all_nil, List.cons_append, List.nil_append, cond_true, cond_false, eq_self, List.map_cons, List.map_nil, Nat.reduceAdd, Nat.testBit, Nat.reduceShiftRight, Nat.reduceAnd, Nat.reduceBNe, Nat.reduceMul, hlow]) (fput_same _ _ _) fun M' N' w y0 k1 k2 k3 k4 k5 => hQ M' N' _ y0 k1 k2 k3 k4 (fun j hj => by simp (implicitDefEqProofs := false) (disch := omega) only [WPs, opds, List.all_cons, List.all_nil, List.cons_append, List.nil_append, cond_true, cond_false, eq_self, List.map_cons, List.map_nil, Nat.reduceAdd, Nat.testBit, Nat.reduceShiftRight, Nat.reduceAnd, Nat.reduceBNe, Nat.reduceMul, k5]))
theorem law10_L1 (M : FM) (N ub W H : Nat) (A : List Nat) (mv : Value) (nS : Nat) (cs : List Value) (hS : SlZ 2 M nS N mv H cs) (hH : H ≤ 1000000) (hW : W ≤ 100) (hu : ub < N) (hU : M ub = some (.cells (A.map natV) 1 false true)) (hA : A.length = W) (hall : ∀ x ∈ A, x * W = H) (x3 x4 x6 x8 x9 x10 x11 x12 x13 : Value) {Q : AX → List Value → FM → Nat → Nat → Prop} (hQ : ∀ y0 y2, Q (.exit 2) [y0, y2, x3, x4, .slice (some ⟨ub, 0, none⟩) W W, x6, mv, x8, x9, x10, x11, x12, x13] M N 0) : ∀ k i, i + k = W → ∀ x0 x2 : Value,
    Gv (execW PG E Y ac10L1 [x0, .int .i64 (i : Int), x2, x3, x4, .slice (some ⟨ub, 0, none⟩) W W, x6, mv, x8, x9, x10, x11, x12, x13] M N) Q := by
  intro k
  induction k with
  | zero =>
    intro i hi x0 x2
    refine wr_loopN (L := ac10L1) (b := ac10L1b) rfl ?_
    simp only [ac10L1b]
    simp (implicitDefEqProofs := false) (disch := omega) only [WPs, opds, List.all_cons, List.all_nil, List.cons_append, List.nil_append, cond_true, cond_false, eq_self, List.map_cons, List.map_nil, Nat.reduceAdd, Nat.testBit, Nat.reduceShiftRight, Nat.reduceAnd, Nat.reduceBNe, Nat.reduceMul, hS.len]
    exact hQ _ _
  | succ k ih =>
    intro i hi x0 x2
    have hx := hall _ (List.getElem_mem (show i < A.length by omega))
    refine wr_loopN (L := ac10L1) (b := ac10L1b) rfl ?_
    simp only [ac10L1b]
    simp (implicitDefEqProofs := false) (disch := omega) only [WPs, opds, List.all_cons, List.all_nil, List.cons_append, List.nil_append, cond_true, cond_false, eq_self, List.map_cons, List.map_nil, Nat.reduceAdd, Nat.testBit, Nat.reduceShiftRight, Nat.reduceAnd, Nat.reduceBNe, Nat.reduceMul, hS.len, hU, get_nat, hx]
    exact wr_end' ((ih (i + 1) (by omega) _ _).mono fun X e m n w hq => by simpa only [zero_lor'] using hq)
theorem nat_lit_mul (a b : Nat) : (no_index (OfNat.ofNat b)) * ((a : Int)) = (((OfNat.ofNat b : Nat) * a : Nat) : Int) := rfl
theorem layoutSpread_exec (hE : E 10 = some ac10) (T : Tab E) (h14 : E 14 = some ac14) (hM : Mk E Y) (hA : ∀ m n, Pure (callW PG E Y 13 [] m n) m n (.bool true)) (m : FM) (n : Nat) (k : Nat) (hk : k < 65536) (q : Nat) (hq : q < 256) (tw : Bool) :
    Pure (callW PG E Y 10 [.int .u16 k, .int .u8 q, .bool tw] m n) m n (.bool true) := by
  refine pure_spec hE rfl rfl ?_
  simp only [ac10]
  simp (implicitDefEqProofs := false) (disch := omega) only [WPs, opds, List.all_cons, List.all_nil, List.cons_append, List.nil_append, cond_true, cond_false, eq_self, List.map_cons, List.map_nil, Nat.reduceAdd, Nat.testBit, Nat.reduceShiftRight, Nat.reduceAnd, Nat.reduceBNe, Nat.reduceMul]
  refine use_pure (hA _ _) fun _ => ?_
  simp (implicitDefEqProofs := false) (disch := omega) only [WPs, opds, List.all_cons, List.all_nil, List.cons_append, List.nil_append, cond_true, cond_false, eq_self, List.map_cons, List.map_nil, Nat.reduceAdd, Nat.testBit, Nat.reduceShiftRight, Nat.reduceAnd, Nat.reduceBNe, Nat.reduceMul]
  refine use_rt (small_vn h14 hM _ _ k hk) fun v m1 n1 r1 w1 h => ?_
  obtain ⟨hn1, hf1, hw1, D, W, r, l, tiles, spare, gs, gv, rfl, hgs, hV, hmem, ht5, hs7⟩ := h
  simp (implicitDefEqProofs := false) (disch := omega) only [WPs, opds, List.all_cons, List.all_nil, List.cons_append, List.nil_append, cond_true, cond_false, eq_self, List.map_cons, List.map_nil, Nat.reduceAdd, Nat.testBit, Nat.reduceShiftRight, Nat.reduceAnd, Nat.reduceBNe, Nat.reduceMul, layV, hw1, hf1, cells_of_one hgs.one, hgs.one, hgs.bel, hgs.belF, conv_int]
  obtain ⟨sr, sD, sW, sW4⟩ := small_r hmem
  have hr0 := hV.r0
  have hDd := hV.disks
  have hsp := sp_mem hmem
  rw [spB, List.all_eq_true] at hsp
  have hqD : q % D < D := Nat.mod_lt _ (by omega)
  have hsq := hsp (q % D) (by simpa using hqD)
  rw [Bool.and_eq_true, List.all_eq_true, List.all_eq_true] at hsq
  refine use_pure (refWidth T _ _ D tiles spare W r gv gs (hgs.frame (by omega) fun b hb => by simp (implicitDefEqProofs := false) (disch := omega) only [WPs, opds, List.all_cons, List.all_nil, List.cons_append, List.nil_append, cond_true, cond_false, eq_self, List.map_cons, List.map_nil, Nat.reduceAdd, Nat.testBit, Nat.reduceShiftRight, Nat.reduceAnd, Nat.reduceBNe, Nat.reduceMul]) hV) fun r2 => ?_
  simp (implicitDefEqProofs := false) (disch := omega) only [WPs, opds, List.all_cons, List.all_nil, List.cons_append, List.nil_append, cond_true, cond_false, eq_self, List.map_cons, List.map_nil, Nat.reduceAdd, Nat.testBit, Nat.reduceShiftRight, Nat.reduceAnd, Nat.reduceBNe, Nat.reduceMul, hw1]
  cases tw
  · simp (implicitDefEqProofs := false) (disch := omega) only [WPs, opds, List.all_cons, List.all_nil, List.cons_append, List.nil_append, cond_true, cond_false, eq_self, List.map_cons, List.map_nil, Nat.reduceAdd, Nat.testBit, Nat.reduceShiftRight, Nat.reduceAnd, Nat.reduceBNe, Nat.reduceMul, hgs.belF, conv_int]
    have hV2 : VN D gs (W) spare W r := vn_of (des_mem hmem) (by omega) hs7
    have hH : W * r ≤ 10 * 15 := Nat.mul_le_mul (by omega) sr
    have hHp : 0 < W * r := Nat.mul_pos (by omega) hr0
    refine use_rtX (onDisk_in T _ _ D (W) spare W r gv gs (hgs.frame (by omega) fun b hb => by simp (implicitDefEqProofs := false) (disch := omega) only [WPs, opds, List.all_cons, List.all_nil, List.cons_append, List.nil_append, cond_true, cond_false, eq_self, List.map_cons, List.map_nil, Nat.reduceAdd, Nat.testBit, Nat.reduceShiftRight, Nat.reduceAnd, Nat.reduceBNe, Nat.reduceMul]) hV2 (q % D) hqD) fun v m2 n2 r3 w2 h => ?_
    obtain ⟨hn2, hf2, hw2, mv, rfl, hS⟩ := h
    simp (implicitDefEqProofs := false) (disch := omega) only [WPs, opds, List.all_cons, List.all_nil, List.cons_append, List.nil_append, cond_true, cond_false, eq_self, List.map_cons, List.map_nil, Nat.reduceAdd, Nat.testBit, Nat.reduceShiftRight, Nat.reduceAnd, Nat.reduceBNe, Nat.reduceMul, hf2, hw2, belowV_tup, below1_int, slZ_bel1 hS]
    refine use_pure (refWidth T _ _ D (W) spare W r gv gs (hgs.frame (by omega) fun b hb => by simp (implicitDefEqProofs := false) (disch := omega) only [WPs, opds, List.all_cons, List.all_nil, List.cons_append, List.nil_append, cond_true, cond_false, eq_self, List.map_cons, List.map_nil, Nat.reduceAdd, Nat.testBit, Nat.reduceShiftRight, Nat.reduceAnd, Nat.reduceBNe, Nat.reduceMul, hf2]) hV2) fun r4 => ?_
    simp (implicitDefEqProofs := false) (disch := omega) only [WPs, opds, List.all_cons, List.all_nil, List.cons_append, List.nil_append, cond_true, cond_false, eq_self, List.map_cons, List.map_nil, Nat.reduceAdd, Nat.testBit, Nat.reduceShiftRight, Nat.reduceAnd, Nat.reduceBNe, Nat.reduceMul, hf2, hw2]
    refine wr_cps (law10_L0 _ n2 n2 W r (W * r) gs (q % D) mv (by omega) (by omega) (fun i hi => (mem_home hV2 hqD hi).2.1) _ (fun M N hN hlow => hS.frame (by omega) fun b h1 h2 => ?_) (by omega) _ _ _ _ _ _ _ (W * r) 0 (by omega) _ (n2 + 1) _ _ _ (by omega) (by omega) (fun b hb => rfl) ?_ fun M' N' w y0 k1 k2 k3 k4 k5 r5 => ?_)
    · rw [hlow b h2, fput_ne _ _ _ _ (by omega)]
    · simp (implicitDefEqProofs := false) (disch := omega) only [WPs, opds, List.all_cons, List.all_nil, List.cons_append, List.nil_append, cond_true, cond_false, eq_self, List.map_cons, List.map_nil, Nat.reduceAdd, Nat.testBit, Nat.reduceShiftRight, Nat.reduceAnd, Nat.reduceBNe, Nat.reduceMul, List.map_replicate, cntP, natV_mk]; rfl
    · have hSM : SlZ 2 M' n1 N' mv _ _ := (hS.low (by omega)).frame (by omega) fun b h1 h2 => by rw [k3 b h2, fput_ne _ _ _ _ (by omega)]
      simp (implicitDefEqProofs := false) (disch := omega) only [WPs, opds, List.all_cons, List.all_nil, List.cons_append, List.nil_append, cond_true, cond_false, eq_self, List.map_cons, List.map_nil, Nat.reduceAdd, Nat.testBit, Nat.reduceShiftRight, Nat.reduceAnd, Nat.reduceBNe, Nat.reduceMul]
      refine wr_cps (law10_L1 M' N' n2 W _ _ mv n1 _ hSM (by omega) (by omega) k2 k4 (cntP_len _ _ _ _ _) (fun x hx => by simpa using hsq.1 x hx) _ _ _ _ _ _ _ _ _ (fun y0 y2 r6 => ?_) W 0 (by omega) _ _)
      simp (implicitDefEqProofs := false) (disch := omega) only [WPs, opds, List.all_cons, List.all_nil, List.cons_append, List.nil_append, cond_true, cond_false, eq_self, List.map_cons, List.map_nil, Nat.reduceAdd, Nat.testBit, Nat.reduceShiftRight, Nat.reduceAnd, Nat.reduceBNe, Nat.reduceMul, hSM.len, hw1, hw2, k5]
  · simp (implicitDefEqProofs := false) (disch := omega) only [WPs, opds, List.all_cons, List.all_nil, List.cons_append, List.nil_append, cond_true, cond_false, eq_self, List.map_cons, List.map_nil, Nat.reduceAdd, Nat.testBit, Nat.reduceShiftRight, Nat.reduceAnd, Nat.reduceBNe, Nat.reduceMul, hgs.belF, conv_int, nat_lit_mul]
    have hV2 : VN D gs (2 * W) spare W r := vn_of (des_mem hmem) (by omega) hs7
    have hH : 2 * W * r ≤ 10 * 15 := Nat.mul_le_mul (by omega) sr
    have hHp : 0 < 2 * W * r := Nat.mul_pos (by omega) hr0
    refine use_rtX (onDisk_in T _ _ D (2 * W) spare W r gv gs (hgs.frame (by omega) fun b hb => by simp (implicitDefEqProofs := false) (disch := omega) only [WPs, opds, List.all_cons, List.all_nil, List.cons_append, List.nil_append, cond_true, cond_false, eq_self, List.map_cons, List.map_nil, Nat.reduceAdd, Nat.testBit, Nat.reduceShiftRight, Nat.reduceAnd, Nat.reduceBNe, Nat.reduceMul]) hV2 (q % D) hqD) fun v m2 n2 r3 w2 h => ?_
    obtain ⟨hn2, hf2, hw2, mv, rfl, hS⟩ := h
    simp (implicitDefEqProofs := false) (disch := omega) only [WPs, opds, List.all_cons, List.all_nil, List.cons_append, List.nil_append, cond_true, cond_false, eq_self, List.map_cons, List.map_nil, Nat.reduceAdd, Nat.testBit, Nat.reduceShiftRight, Nat.reduceAnd, Nat.reduceBNe, Nat.reduceMul, hf2, hw2, belowV_tup, below1_int, slZ_bel1 hS]
    refine use_pure (refWidth T _ _ D (2 * W) spare W r gv gs (hgs.frame (by omega) fun b hb => by simp (implicitDefEqProofs := false) (disch := omega) only [WPs, opds, List.all_cons, List.all_nil, List.cons_append, List.nil_append, cond_true, cond_false, eq_self, List.map_cons, List.map_nil, Nat.reduceAdd, Nat.testBit, Nat.reduceShiftRight, Nat.reduceAnd, Nat.reduceBNe, Nat.reduceMul, hf2]) hV2) fun r4 => ?_
    simp (implicitDefEqProofs := false) (disch := omega) only [WPs, opds, List.all_cons, List.all_nil, List.cons_append, List.nil_append, cond_true, cond_false, eq_self, List.map_cons, List.map_nil, Nat.reduceAdd, Nat.testBit, Nat.reduceShiftRight, Nat.reduceAnd, Nat.reduceBNe, Nat.reduceMul, hf2, hw2]
    refine wr_cps (law10_L0 _ n2 n2 W r (2 * W * r) gs (q % D) mv (by omega) (by omega) (fun i hi => (mem_home hV2 hqD hi).2.1) _ (fun M N hN hlow => hS.frame (by omega) fun b h1 h2 => ?_) (by omega) _ _ _ _ _ _ _ (2 * W * r) 0 (by omega) _ (n2 + 1) _ _ _ (by omega) (by omega) (fun b hb => rfl) ?_ fun M' N' w y0 k1 k2 k3 k4 k5 r5 => ?_)
    · rw [hlow b h2, fput_ne _ _ _ _ (by omega)]
    · simp (implicitDefEqProofs := false) (disch := omega) only [WPs, opds, List.all_cons, List.all_nil, List.cons_append, List.nil_append, cond_true, cond_false, eq_self, List.map_cons, List.map_nil, Nat.reduceAdd, Nat.testBit, Nat.reduceShiftRight, Nat.reduceAnd, Nat.reduceBNe, Nat.reduceMul, List.map_replicate, cntP, natV_mk]; rfl
    · have hSM : SlZ 2 M' n1 N' mv _ _ := (hS.low (by omega)).frame (by omega) fun b h1 h2 => by rw [k3 b h2, fput_ne _ _ _ _ (by omega)]
      simp (implicitDefEqProofs := false) (disch := omega) only [WPs, opds, List.all_cons, List.all_nil, List.cons_append, List.nil_append, cond_true, cond_false, eq_self, List.map_cons, List.map_nil, Nat.reduceAdd, Nat.testBit, Nat.reduceShiftRight, Nat.reduceAnd, Nat.reduceBNe, Nat.reduceMul]
      refine wr_cps (law10_L1 M' N' n2 W _ _ mv n1 _ hSM (by omega) (by omega) k2 k4 (cntP_len _ _ _ _ _) (fun x hx => by simpa using hsq.2 x hx) _ _ _ _ _ _ _ _ _ (fun y0 y2 r6 => ?_) W 0 (by omega) _ _)
      simp (implicitDefEqProofs := false) (disch := omega) only [WPs, opds, List.all_cons, List.all_nil, List.cons_append, List.nil_append, cond_true, cond_false, eq_self, List.map_cons, List.map_nil, Nat.reduceAdd, Nat.testBit, Nat.reduceShiftRight, Nat.reduceAnd, Nat.reduceBNe, Nat.reduceMul, hSM.len, hw1, hw2, k5]
end Go.Am.C21
namespace Go.Am.C21
open Go Go.Am
variable {E : Nat → Option AFn} {Y : Nat → List Value → FM → Nat → OR FM}
/-- is the disk b in the group at block i of disk a? -/
def fB (gs : List (List Int)) (r a b i : Nat) : Nat := if (b : Int) ∈ gs[giOf gs r a i]?.getD [] then 1 else 0
def sB (gs : List (List Int)) (r a b : Nat) : Nat → Nat
  | 0 => 0
  | i + 1 => sB gs r a b i + fB gs r a b i
theorem fB_mod (gs : List (List Int)) (r a b i : Nat) : fB gs r a b i = fB gs r a b (i % r) := by
  unfold fB giOf; rw [Nat.mod_mod]
theorem sB_add (gs : List (List Int)) (r a b t : Nat) : ∀ q, q ≤ r → sB gs r a b (t * r + q) = sB gs r a b (t * r) + sB gs r a b q
  | 0, _ => by rw [Nat.add_zero]; rfl
  | q + 1, h => by
    rw [← Nat.add_assoc]
    show sB gs r a b (t * r + q) + fB gs r a b (t * r + q) = _ + (sB gs r a b q + fB gs r a b q)
    rw [sB_add gs r a b t q (by omega), fB_mod gs r a b (t * r + q), Nat.mul_add_mod', fB_mod gs r a b q, Nat.add_assoc]
theorem sB_mul (gs : List (List Int)) (r a b : Nat) : ∀ t, sB gs r a b (t * r) = t * sB gs r a b r
  | 0 => by rw [Nat.zero_mul, Nat.zero_mul]; rfl
  | t + 1 => by rw [Nat.add_mul, Nat.one_mul, sB_add gs r a b t r (Nat.le_refl _), sB_mul gs r a b t, Nat.add_mul, Nat.one_mul]
theorem giOf_cnt {disks tiles spare W r : Nat} {gs : List (List Int)} (h : VN disks gs tiles spare W r) {i d : Nat} (hi : i < gs.length) (hd : (d : Int) ∈ gs[i]) (k : Nat) (hk : k % r = cnt gs i d) : giOf gs r d k = i := by
  unfold giOf
  rw [hk, idxs_get (d : Int) gs 0 i hi hd]; simp
theorem sB_c2 {disks tiles spare W r : Nat} {gs : List (List Int)} (h : VN disks gs tiles spare W r) {a : Nat} (ha : a < disks) (b : Nat) : ∀ i, i ≤ gs.length → sB gs r a b (cnt gs i a) = c2 (gs.take i) a b
  | 0, _ => by rw [cnt_zero]; rfl
  | i + 1, hi => by
    have ih := sB_c2 h ha b i (by omega)
    have hil : i < gs.length := by omega
    have hc : cnt gs (i + 1) a = cnt gs i a + if (a : Int) ∈ gs[i] then 1 else 0 := by
      unfold cnt
      rw [List.take_add_one, List.getElem?_eq_getElem hil, List.countP_append]
      by_cases h : (a : Int) ∈ gs[i] <;> simp [h]
    have hc2 : c2 (gs.take (i + 1)) a b = c2 (gs.take i) a b + if (a : Int) ∈ gs[i] ∧ (b : Int) ∈ gs[i] then 1 else 0 := by
      unfold c2
      rw [List.take_add_one, List.getElem?_eq_getElem hil, List.countP_append]
      by_cases h1 : (a : Int) ∈ gs[i] <;> by_cases h2 : (b : Int) ∈ gs[i] <;> simp [h1, h2]
    rw [hc, hc2]
    by_cases h1 : (a : Int) ∈ gs[i]
    · rw [if_pos h1]
      show sB gs r a b (cnt gs i a) + fB gs r a b (cnt gs i a) = _
      have hlt := h.cnt_lt hil h1
      have hg : giOf gs r a (cnt gs i a) = i := giOf_cnt h hil h1 _ (Nat.mod_eq_of_lt hlt)
      rw [ih, fB, hg, List.getElem?_eq_getElem hil, Option.getD_some]
      by_cases h2 : (b : Int) ∈ gs[i] <;> simp [h1, h2]
    · rw [if_neg h1, Nat.add_zero, ih, if_neg (fun h => h1 h.1), Nat.add_zero]
theorem sB_all {disks tiles spare W r : Nat} {gs : List (List Int)} (h : VN disks gs tiles spare W r) {a : Nat} (ha : a < disks) (b : Nat) : sB gs r a b (tiles * r) = tiles * c2 gs a b := by
  have := sB_c2 h ha b gs.length (Nat.le_refl _)
  rw [h.cnt ha, List.take_length] at this
  rw [sB_mul, this]
/-- the blocks of a disk hold different groups -/
theorem memG_inj {disks tiles spare W r : Nat} {gs : List (List Int)} (h : VN disks gs tiles spare W r) {d i i' : Nat} (hd : d < disks) (hi : i < tiles * r) (hi' : i' < tiles * r) (e : memG gs r d i = memG gs r d i') : i = i' := by
  obtain ⟨h1, h2, h3, h4⟩ := mem_home h hd hi
  obtain ⟨k1, k2, k3, k4⟩ := mem_home h hd hi'
  rw [← e] at k3 k4
  have := home_apart h h1 h2 k2 (h3.trans k3.symm)
  rw [← this] at k4
  omega
/-- has the group of block i of disk a been seen among the first k blocks of disk b? -/
def seen (gs : List (List Int)) (r a b i k : Nat) : Nat := if ∃ k', k' < k ∧ memG gs r b k' = memG gs r a i then 1 else 0
theorem seen_step {disks tiles spare W r : Nat} {gs : List (List Int)} (h : VN disks gs tiles spare W r) {a b i k : Nat} (hb : b < disks) (hk : k < tiles * r) : seen gs r a b i (k + 1) = seen gs r a b i k + if memG gs r a i = memG gs r b k then 1 else 0 := by
  unfold seen
  by_cases e : memG gs r a i = memG gs r b k
  · have h1 : ∃ k', k' < k + 1 ∧ memG gs r b k' = memG gs r a i := ⟨k, by omega, e.symm⟩
    have h2 : ¬ ∃ k', k' < k ∧ memG gs r b k' = memG gs r a i := by
      rintro ⟨k', h1, h2⟩
      have := memG_inj h hb (show k' < tiles * r by omega) hk (h2.trans e)
      omega
    rw [if_pos h1, if_neg h2, if_pos e]
  · rw [if_neg e]
    have : (∃ k', k' < k + 1 ∧ memG gs r b k' = memG gs r a i) ↔ ∃ k', k' < k ∧ memG gs r b k' = memG gs r a i := by
      constructor
      · rintro ⟨k', h1, h2⟩
        by_cases e2 : k' = k
        · subst e2; exact absurd h2.symm e
        · exact ⟨k', by omega, h2⟩
      · rintro ⟨k', h1, h2⟩; exact ⟨k', by omega, h2⟩
    simp only [this, Nat.add_zero]
theorem seen_all {disks tiles spare W r : Nat} {gs : List (List Int)} (h : VN disks gs tiles spare W r) {a b i : Nat} (ha : a < disks) (hb : b < disks) (hi : i < tiles * r) : seen gs r a b i (tiles * r) = fB gs r a b i := by
  have hr0 := h.r0
  obtain ⟨hgi, _, _, hm, hc, _, ht⟩ := vn_gi h ha hi
  unfold seen fB
  rw [List.getElem?_eq_getElem hgi, Option.getD_some]
  by_cases hbm : (b : Int) ∈ gs[giOf gs r a i]
  · rw [if_pos hbm, if_pos]
    have hlt := h.cnt_lt hgi hbm
    refine ⟨i / r * r + cnt gs (giOf gs r a i) b, ?_, ?_⟩
    · calc i / r * r + cnt gs (giOf gs r a i) b < i / r * r + r := by omega
        _ = (i / r + 1) * r := by rw [Nat.add_mul, Nat.one_mul]
        _ ≤ tiles * r := Nat.mul_le_mul_right _ ht
    · have e1 : (i / r * r + cnt gs (giOf gs r a i) b) / r = i / r := by rw [Nat.add_comm, Nat.add_mul_div_right _ _ hr0, Nat.div_eq_of_lt hlt, Nat.zero_add]
      have e2 : (i / r * r + cnt gs (giOf gs r a i) b) % r = cnt gs (giOf gs r a i) b := by rw [Nat.add_comm, Nat.add_mul_mod_self_right, Nat.mod_eq_of_lt hlt]
      unfold memG
      rw [e1, giOf_cnt h hgi hbm _ e2]
  · rw [if_neg hbm, if_neg]
    rintro ⟨k', h1, h2⟩
    obtain ⟨hgi', _, _, hm', _, _, _⟩ := vn_gi h hb h1
    have hpos := h.pos
    have e : giOf gs r b k' = giOf gs r a i := by
      have e1 : memG gs r b k' % gs.length = giOf gs r b k' := by unfold memG; rw [Nat.add_comm, Nat.add_mul_mod_self_right, Nat.mod_eq_of_lt hgi']
      have e2 : memG gs r a i % gs.length = giOf gs r a i := by unfold memG; rw [Nat.add_comm, Nat.add_mul_mod_self_right, Nat.mod_eq_of_lt hgi]
      rw [← e1, ← e2, h2]
    simp only [e] at hm'
    exact hbm hm'
theorem law9_L0 (M : FM) (N nx ny : Nat) (D tiles spare W r : Nat) (gs : List (List Int)) (hV : VN D gs tiles spare W r) (hH : tiles * r ≤ 1000) (a b : Nat) (hb : b < D) (xv yv : Value) (hX : SlZ 2 M nx N xv (tiles * r) (memC gs W r a (tiles * r))) (hY : SlZ 2 M ny N yv (tiles * r) (memC gs W r b (tiles * r))) (i : Nat) (hi : i < tiles * r) (s0 : Nat) (hs0 : s0 ≤ 1000000) (x2 x3 x4 x5 x7 x8 x9 x10 x12 : Value) (rest : List Value) {Q : AX → List Value → FM → Nat → Nat → Prop}
    (hQ : Q (.exit 2) (.int .i64 ((s0 + seen gs r a b i (tiles * r) : Nat) : Int) :: .int .i64 ((tiles * r : Nat) : Int) :: x2 :: x3 :: x4 :: x5 :: .int .i64 i :: x7 :: x8 :: x9 :: x10 :: yv :: x12 :: xv :: rest) M N 0) : ∀ k j, j + k = tiles * r →
    Gv (execW PG E Y ac9L0 (.int .i64 ((s0 + seen gs r a b i j : Nat) : Int) :: .int .i64 (j : Int) :: x2 :: x3 :: x4 :: x5 :: .int .i64 i :: x7 :: x8 :: x9 :: x10 :: yv :: x12 :: xv :: rest) M N) Q := by
  intro k
  induction k with
  | zero =>
    intro j hj
    refine wr_loopN (L := ac9L0) (b := ac9L0b) rfl ?_
    simp only [ac9L0b]
    simp (implicitDefEqProofs := false) (disch := omega) only [WPs, opds, List.all_cons, List.all_nil, List.cons_append, List.nil_append, cond_true, cond_false, eq_self, List.map_cons, List.map_nil, Nat.reduceAdd, Nat.testBit, Nat.reduceShiftRight, Nat.reduceAnd, Nat.reduceBNe, Nat.reduceMul, hY.len]
    obtain rfl : j = tiles * r := by omega
    exact hQ
  | succ k ih =>
    intro j hj
    have hjl : j < tiles * r := by omega
    obtain ⟨bx, ix, x1', x2', hx3, hx4⟩ := hX.at hi
    obtain ⟨by', iy, y1', y2', hy3, hy4⟩ := hY.at hjl
    obtain ⟨cx, _⟩ := memC_get gs W r a (tiles * r) i hi
    obtain ⟨cy, _⟩ := memC_get gs W r b (tiles * r) j hjl
    rw [← cget_eq] at cx cy
    have hst := seen_step hV (a := a) (b := b) (i := i) hb hjl
    have hsl : seen gs r a b i j ≤ 1 := by unfold seen; split <;> omega
    have ih := ih (j + 1) (by omega)
    rw [hst] at ih
    refine wr_loopN (L := ac9L0) (b := ac9L0b) rfl ?_
    simp only [ac9L0b]
    by_cases e : memG gs r a i = memG gs r b j
    · rw [if_pos e, ← Nat.add_assoc] at ih
      simp (implicitDefEqProofs := false) (disch := omega) only [WPs, opds, List.all_cons, List.all_nil, List.cons_append, List.nil_append, cond_true, cond_false, eq_self, List.map_cons, List.map_nil, Nat.reduceAdd, Nat.testBit, Nat.reduceShiftRight, Nat.reduceAnd, Nat.reduceBNe, Nat.reduceMul, hY.len, ix, iy, hx3, hy3, cx, cy, hX.bel, hY.bel, e]
      exact wr_end' (ih.mono fun X e m n w hq => by simpa only [zero_lor'] using hq)
    · rw [if_neg e, Nat.add_zero] at ih
      simp (implicitDefEqProofs := false) (disch := omega) only [WPs, opds, List.all_cons, List.all_nil, List.cons_append, List.nil_append, cond_true, cond_false, eq_self, List.map_cons, List.map_nil, Nat.reduceAdd, Nat.testBit, Nat.reduceShiftRight, Nat.reduceAnd, Nat.reduceBNe, Nat.reduceMul, hY.len, ix, iy, hx3, hy3, cx, cy, hX.bel, hY.bel]
      exact wr_end' (ih.mono fun X e m n w hq => by simpa only [zero_lor'] using hq)
theorem law9_run (M : FM) (N nx ny : Nat) (D tiles spare W r : Nat) (gs : List (List Int)) (hV : VN D gs tiles spare W r) (hH : tiles * r ≤ 1000) (a b : Nat) (ha : a < D) (hb : b < D) (xv yv : Value) (hX : SlZ 2 M nx N xv (tiles * r) (memC gs W r a (tiles * r))) (hY : SlZ 2 M ny N yv (tiles * r) (memC gs W r b (tiles * r))) (i : Nat) (hi : i < tiles * r) (s0 : Nat) (hs0 : s0 ≤ 1000000) (x2 x3 x4 x5 x7 x8 x9 x10 x12 : Value) (rest : List Value) {Q : AX → List Value → FM → Nat → Nat → Prop}
    (hQ : Q (.exit 2) (.int .i64 ((s0 + fB gs r a b i : Nat) : Int) :: .int .i64 ((tiles * r : Nat) : Int) :: x2 :: x3 :: x4 :: x5 :: .int .i64 i :: x7 :: x8 :: x9 :: x10 :: yv :: x12 :: xv :: rest) M N 0) :
    Gv (execW PG E Y ac9L0 (.int .i64 (s0 : Int) :: .int .i64 0 :: x2 :: x3 :: x4 :: x5 :: .int .i64 i :: x7 :: x8 :: x9 :: x10 :: yv :: x12 :: xv :: rest) M N) Q := by
  have h0 : seen gs r a b i 0 = 0 := by unfold seen; rw [if_neg]; rintro ⟨k', h, _⟩; omega
  rw [← seen_all hV ha hb hi] at hQ
  have := law9_L0 (E := E) (Y := Y) M N nx ny D tiles spare W r gs hV hH a b hb xv yv hX hY i hi s0 hs0 x2 x3 x4 x5 x7 x8 x9 x10 x12 rest hQ (tiles * r) 0 (by omega)
  rw [h0, Nat.add_zero] at this
  exact this
theorem law9_L1 (M : FM) (N nx ny : Nat) (D tiles spare W r : Nat) (gs : List (List Int)) (hV : VN D gs tiles spare W r) (hH : tiles * r ≤ 1000) (a b : Nat) (ha : a < D) (hb : b < D) (xv yv : Value) (hX : SlZ 2 M nx N xv (tiles * r) (memC gs W r a (tiles * r))) (hY : SlZ 2 M ny N yv (tiles * r) (memC gs W r b (tiles * r))) (x2 x3 x4 x5 x7 : Value) (rest : List Value) {Q : AX → List Value → FM → Nat → Nat → Prop}
    (hQ : Q (.exit 0) (.int .i64 ((sB gs r a b (tiles * r) : Nat) : Int) :: x2 :: x3 :: x4 :: x5 :: yv :: x7 :: xv :: rest) M N 0) : ∀ k i, i + k = tiles * r →
    Gv (execW PG E Y ac9L1 (.int .i64 ((sB gs r a b i : Nat) : Int) :: .int .i64 (i : Int) :: x2 :: x3 :: x4 :: x5 :: yv :: x7 :: xv :: rest) M N) Q := by
  have hsb : ∀ i, sB gs r a b i ≤ i := fun i => by
    induction i with
    | zero => exact Nat.le_refl _
    | succ i ih =>
      show sB gs r a b i + fB gs r a b i ≤ _
      have : fB gs r a b i ≤ 1 := by unfold fB; split <;> omega
      omega
  intro k
  induction k with
  | zero =>
    intro i hi
    refine wr_loopN (L := ac9L1) (b := ac9L1b) rfl ?_
    simp only [ac9L1b]
    simp (implicitDefEqProofs := false) (disch := omega) only [WPs, opds, List.all_cons, List.all_nil, List.cons_append, List.nil_append, cond_true, cond_false, eq_self, List.map_cons, List.map_nil, Nat.reduceAdd, Nat.testBit, Nat.reduceShiftRight, Nat.reduceAnd, Nat.reduceBNe, Nat.reduceMul, hX.len]
    obtain rfl : i = tiles * r := by omega
    exact hQ
  | succ k ih =>
    intro i hi
    have hil : i < tiles * r := by omega
    have hs := hsb i
    refine wr_loopN (L := ac9L1) (b := ac9L1b) rfl ?_
    simp only [ac9L1b]
    simp (implicitDefEqProofs := false) (disch := omega) only [WPs, opds, List.all_cons, List.all_nil, List.cons_append, List.nil_append, cond_true, cond_false, eq_self, List.map_cons, List.map_nil, Nat.reduceAdd, Nat.testBit, Nat.reduceShiftRight, Nat.reduceAnd, Nat.reduceBNe, Nat.reduceMul, hX.len]
    refine wr_cps (law9_run M N nx ny D tiles spare W r gs hV hH a b ha hb xv yv hX hY i hil (sB gs r a b i) (by omega) _ _ _ _ _ _ _ _ _ _ (fun r2 => ?_))
    simp (implicitDefEqProofs := false) (disch := omega) only [WPs, opds, List.all_cons, List.all_nil, List.cons_append, List.nil_append, cond_true, cond_false, eq_self, List.map_cons, List.map_nil, Nat.reduceAdd, Nat.testBit, Nat.reduceShiftRight, Nat.reduceAnd, Nat.reduceBNe, Nat.reduceMul]
    exact wr_end' ((ih (i + 1) (by omega)).mono fun X e m n w hq => by simpa only [zero_lor'] using hq)
theorem lam_of {D tiles spare W r : Nat} {gs : List (List Int)} (h : VN D gs tiles spare W r) : ∃ lam : Nat, (counts zeros gs)[1]! = (lam : Int) ∧ lam ≤ gs.length ∧ ∀ a b : Nat, a < D → b < D → C21.c2 gs a b = if a = b then r else lam := by
  have hd := h.disks
  have e1 : (counts zeros gs)[1]! = (C21.c2 gs (0 : Nat) (1 : Nat) : Int) := by
    have := h.c2 (a := 0) (b := 1) (by omega) (by omega)
    rw [List.getElem!_eq_getElem?_getD]
    exact this
  refine ⟨_, e1, List.countP_le_length, fun a b ha hb => ?_⟩
  have hbal := h.good.2.1 a (Nat.zero_le _) (by omega) b (Nat.zero_le _) (by omega)
  rw [h.c2 (by omega) (by omega), h.hr, e1] at hbal
  split
  · rename_i e; rw [if_pos e] at hbal; omega
  · rename_i e; rw [if_neg e] at hbal; omega
theorem layoutBalance_exec (hE : E 9 = some ac9) (T : Tab E) (h14 : E 14 = some ac14) (hM : Mk E Y) (hA : ∀ m n, Pure (callW PG E Y 13 [] m n) m n (.bool true)) (m : FM) (n : Nat) (k : Nat) (hk : k < 65536) (a b : Nat) (ha : a < 256) (hb : b < 256) :
    Pure (callW PG E Y 9 [.int .u16 k, .int .u8 a, .int .u8 b] m n) m n (.bool true) := by
  refine pure_spec hE rfl rfl ?_
  simp only [ac9]
  simp (implicitDefEqProofs := false) (disch := omega) only [WPs, opds, List.all_cons, List.all_nil, List.cons_append, List.nil_append, cond_true, cond_false, eq_self, List.map_cons, List.map_nil, Nat.reduceAdd, Nat.testBit, Nat.reduceShiftRight, Nat.reduceAnd, Nat.reduceBNe, Nat.reduceMul]
  refine use_pure (hA _ _) fun _ => ?_
  simp (implicitDefEqProofs := false) (disch := omega) only [WPs, opds, List.all_cons, List.all_nil, List.cons_append, List.nil_append, cond_true, cond_false, eq_self, List.map_cons, List.map_nil, Nat.reduceAdd, Nat.testBit, Nat.reduceShiftRight, Nat.reduceAnd, Nat.reduceBNe, Nat.reduceMul]
  refine use_rt (small_vn h14 hM _ _ k hk) fun v m1 n1 r1 w1 h => ?_
  obtain ⟨hn1, hf1, hw1, D, W, r, l, tiles, spare, gs, gv, rfl, hgs, hV, hmem, ht5, hs7⟩ := h
  simp (implicitDefEqProofs := false) (disch := omega) only [WPs, opds, List.all_cons, List.all_nil, List.cons_append, List.nil_append, cond_true, cond_false, eq_self, List.map_cons, List.map_nil, Nat.reduceAdd, Nat.testBit, Nat.reduceShiftRight, Nat.reduceAnd, Nat.reduceBNe, Nat.reduceMul, layV, hw1, hf1, cells_of_one hgs.one, hgs.one, hgs.bel, hgs.belF, conv_int]
  obtain ⟨sr, sD, _, _⟩ := small_r hmem
  have hD := hV.disks
  have hlen := hV.len
  have hH : tiles * r ≤ 5 * 15 := Nat.mul_le_mul ht5 sr
  obtain ⟨lam, hlam, hlam2, hc2⟩ := lam_of hV
  have htl : tiles * lam ≤ 5 * 4096 := Nat.mul_le_mul ht5 (by omega)
  have haD : a % D < D := Nat.mod_lt _ (by omega)
  have hbD : b % D < D := Nat.mod_lt _ (by omega)
  refine use_pure (check_spec T.e34 T.e47 _ _ D gv gs (hgs.frame (by omega) fun b hb => by simp (implicitDefEqProofs := false) (disch := omega) only [WPs, opds, List.all_cons, List.all_nil, List.cons_append, List.nil_append, cond_true, cond_false, eq_self, List.map_cons, List.map_nil, Nat.reduceAdd, Nat.testBit, Nat.reduceShiftRight, Nat.reduceAnd, Nat.reduceBNe, Nat.reduceMul]) (by omega) (fun g hg => by rw [hV.hw g hg]; have := hV.b3; omega)) fun r2 => ?_
  rw [checkV_good hV.good, hV.hr, hlam]
  simp (implicitDefEqProofs := false) (disch := omega) only [WPs, opds, List.all_cons, List.all_nil, List.cons_append, List.nil_append, cond_true, cond_false, eq_self, List.map_cons, List.map_nil, Nat.reduceAdd, Nat.testBit, Nat.reduceShiftRight, Nat.reduceAnd, Nat.reduceBNe, Nat.reduceMul, hw1, hgs.belF, conv_int]
  refine use_rtX (onDisk_in T _ _ D tiles spare W r gv gs (hgs.frame (by omega) fun b hb => by simp (implicitDefEqProofs := false) (disch := omega) only [WPs, opds, List.all_cons, List.all_nil, List.cons_append, List.nil_append, cond_true, cond_false, eq_self, List.map_cons, List.map_nil, Nat.reduceAdd, Nat.testBit, Nat.reduceShiftRight, Nat.reduceAnd, Nat.reduceBNe, Nat.reduceMul]) hV (a % D) haD) fun v m2 n2 r3 w2 h => ?_
  obtain ⟨hn2, hf2, hw2, xv, rfl, hX⟩ := h
  simp (implicitDefEqProofs := false) (disch := omega) only [WPs, opds, List.all_cons, List.all_nil, List.cons_append, List.nil_append, cond_true, cond_false, eq_self, List.map_cons, List.map_nil, Nat.reduceAdd, Nat.testBit, Nat.reduceShiftRight, Nat.reduceAnd, Nat.reduceBNe, Nat.reduceMul, hf2, hw2, hgs.belF, conv_int, belowV_tup, below1_int, slZ_bel1 hX]
  refine use_rtX (onDisk_in T _ _ D tiles spare W r gv gs (hgs.frame (by omega) fun b hb => by simp (implicitDefEqProofs := false) (disch := omega) only [WPs, opds, List.all_cons, List.all_nil, List.cons_append, List.nil_append, cond_true, cond_false, eq_self, List.map_cons, List.map_nil, Nat.reduceAdd, Nat.testBit, Nat.reduceShiftRight, Nat.reduceAnd, Nat.reduceBNe, Nat.reduceMul, hf2]) hV (b % D) hbD) fun v m3 n3 r4 w3 h => ?_
  obtain ⟨hn3, hf3, hw3, yv, rfl, hY⟩ := h
  have hX3 : SlZ 2 m3 (n1 + 1) n3 xv _ _ := hX.frame (by omega) fun b h1 h2 => hf3 b (by omega)
  simp (implicitDefEqProofs := false) (disch := omega) only [WPs, opds, List.all_cons, List.all_nil, List.cons_append, List.nil_append, cond_true, cond_false, eq_self, List.map_cons, List.map_nil, Nat.reduceAdd, Nat.testBit, Nat.reduceShiftRight, Nat.reduceAnd, Nat.reduceBNe, Nat.reduceMul, hf2, hf3, hw2, hw3, hgs.belF, belowV_tup, below1_int, slZ_bel1 hY, hX3.len, hY.len]
  refine wr_cps (law9_L1 m3 n3 _ _ D tiles spare W r gs hV (by omega) (a % D) (b % D) haD hbD xv yv hX3 hY _ _ _ _ _ _ (fun r5 => ?_) (tiles * r) 0 (by omega))
  rw [sB_all hV haD, hc2 _ _ haD hbD]
  by_cases e : a % D = b % D
  · rw [if_pos e]
    simp (implicitDefEqProofs := false) (disch := omega) only [WPs, opds, List.all_cons, List.all_nil, List.cons_append, List.nil_append, cond_true, cond_false, eq_self, List.map_cons, List.map_nil, Nat.reduceAdd, Nat.testBit, Nat.reduceShiftRight, Nat.reduceAnd, Nat.reduceBNe, Nat.reduceMul, hf2, hf3, hw1, hw2, hw3, conv_int, e]
  · rw [if_neg e]
    simp (implicitDefEqProofs := false) (disch := omega) only [WPs, opds, List.all_cons, List.all_nil, List.cons_append, List.nil_append, cond_true, cond_false, eq_self, List.map_cons, List.map_nil, Nat.reduceAdd, Nat.testBit, Nat.reduceShiftRight, Nat.reduceAnd, Nat.reduceBNe, Nat.reduceMul, hf2, hf3, hw1, hw2, hw3, conv_int]
end Go.Am.C21
namespace Go.Am.C21
open Go Go.Am Go.Am.V
theorem layoutApart_calls (k : Nat) (hk : k < 65536) (q : Nat) (hq : q < 65536) (w : World) : Calls Proofs.Try.prog 5 #[.int .u16 k, .int .u16 q] w fun e w' => e = .returned (.bool true) ∧ RowKit.Below w.heap.size w w' :=
  calls_of (args := [.int .u16 k, .int .u16 q]) (fun m n => layoutApart_exec (by kernel_rfl) tabT (by kernel_rfl) mkC awake_pureC m n k hk q hq) rfl w
theorem layoutFull_calls (k : Nat) (hk : k < 65536) (w : World) : Calls Proofs.Try.prog 6 #[.int .u16 k] w fun e w' => e = .returned (.bool true) ∧ RowKit.Below w.heap.size w w' :=
  calls_of (args := [.int .u16 k]) (fun m n => layoutFull_exec (by kernel_rfl) tabT (by kernel_rfl) mkC awake_pureC m n k hk) rfl w
theorem layoutSpread_calls (k : Nat) (hk : k < 65536) (q : Nat) (hq : q < 256) (t : Bool) (w : World) : Calls Proofs.Try.prog 10 #[.int .u16 k, .int .u8 q, .bool t] w fun e w' => e = .returned (.bool true) ∧ RowKit.Below w.heap.size w w' :=
  calls_of (args := [.int .u16 k, .int .u8 q, .bool t]) (fun m n => layoutSpread_exec (by kernel_rfl) tabT (by kernel_rfl) mkC awake_pureC m n k hk q hq t) rfl w
theorem layoutBalance_calls (k : Nat) (hk : k < 65536) (a : Nat) (ha : a < 256) (b : Nat) (hb : b < 256) (w : World) : Calls Proofs.Try.prog 9 #[.int .u16 k, .int .u8 a, .int .u8 b] w fun e w' => e = .returned (.bool true) ∧ RowKit.Below w.heap.size w w' :=
  calls_of (args := [.int .u16 k, .int .u8 a, .int .u8 b]) (fun m n => layoutBalance_exec (by kernel_rfl) tabT (by kernel_rfl) mkC awake_pureC m n k hk a b ha hb) rfl w
end Go.Am.C21
