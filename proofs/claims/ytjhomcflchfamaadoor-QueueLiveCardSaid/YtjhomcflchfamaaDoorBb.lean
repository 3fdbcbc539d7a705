/- The machine and its runs, part Bb: Am41pb. -/
import Derived.Test.YtjhomcflchfamaaDoorBa
set_option linter.unusedVariables false
set_option linter.unusedSimpArgs false
set_option linter.unusedSectionVars false
namespace Go.Am.C41
open Go Go.Am
variable {E : Nat → Option AFn} {Y : Nat → List Value → FM → Nat → OR FM}
theorem conv_u8 {q : Nat} (h : q < 256) : convV .i64 (.int .u8 (q : Int)) = some (.int .i64 (q : Int)) := by
  show some (Value.int .i64 (wrapF .i64 (q : Int))) = _
  rw [show wrapF .i64 (q : Int) = (q : Int) from by rw [wrapF_eq]; exact wrap_i64 (by omega) (by omega)]
def TellZ (M : FM) (N : Nat) (l : List Int) (x : Value) (M' : FM) (N' w : Nat) : Prop := N ≤ N' ∧ (∀ b, b < N → M' b = M b) ∧ (∀ j, j ≤ N → Nat.mod w (bit j) = 0) ∧ IntZ M' N N' x l
theorem tags_z (T : Tq E) {M : FM} {n0 N : Nat} {tag : Tags} {q : Nat} {v : QV} (h : QIv M n0 N tag q v) : Rt (callW PG E Y 18 [.pointer (some ⟨q, 0, none⟩)] M N) (TellZ M N (tagsV v)) := by
  obtain ⟨its, S, tv, cb, sb, h, rfl⟩ := h
  rw [vI_tags]; exact qtags_specZ T.e18 T.e32 T.e43 h
theorem started_z (T : Tq E) {M : FM} {n0 N : Nat} {tag : Tags} {q : Nat} {v : QV} (h : QIv M n0 N tag q v) : Rt (callW PG E Y 14 [.pointer (some ⟨q, 0, none⟩)] M N) (TellZ M N (startedL v)) := by
  obtain ⟨its, S, tv, cb, sb, h, rfl⟩ := h
  rw [← vI_started]; exact qstarted_specZ T.e14 T.e32 T.e37 h
theorem elig_z (H : Hy E Y) (T : Tq E) {M : FM} {n0 N : Nat} {tag : Tags} {q : Nat} {v : QV} (h : QIv M n0 N tag q v) : Rt (callW PG E Y 13 [.pointer (some ⟨q, 0, none⟩)] M N) (TellZ M N (eligL v)) := by
  obtain ⟨its, S, tv, cb, sb, h, rfl⟩ := h
  rw [← vI_elig]; exact qelig_specZ H T.e13 T.e32 T.e33 T.e34 T.e56 T.e35 h
theorem Both.wide {M M' : FM} {n0 N N' : Nat} {tag : Tags} {q r : Nat} {v : QV} (h : Both M n0 N tag q r v) (hN : N ≤ N') (hM : ∀ b, b < N → M' b = M b) : ∃ tag' : Tags, (∀ b, b < N → tag' b = tag b) ∧ (∀ b, N ≤ b → tag' b = 0) ∧ Both M' n0 N' tag' q r v :=
  ⟨fun b => if b < N then tag b else 0, fun b hb => if_pos hb, fun b hb => if_neg (by omega), h.1.frame hN (fun b _ hb => if_pos hb) (fun b _ hb _ _ => hM b hb), h.2.frame hN (fun b _ hb => if_pos hb) (fun b _ hb _ _ => hM b hb)⟩
theorem small_of {cs : List (Act × Value)} (hbg : largeB cs = false) : cs.length ≤ 150 ∧ ∀ i (h : i < cs.length), cs[i].1.c.data.length ≤ 1000000 := by
  rw [largeB, Bool.or_eq_false_iff] at hbg
  have h1 := hbg.1
  rw [← Bool.not_eq_true, List.any_eq_true] at h1
  refine ⟨by have := of_decide_eq_false hbg.2; omega, fun i h => ?_⟩
  by_cases h2 : 100 < cs[i].1.c.data.length
  · exact absurd ⟨_, List.getElem_mem h, by simp only [bigB, decide_eq_true h2, Bool.true_or]⟩ h1
  · omega
theorem cancel_L0 (H : Hy E Y) (T : Tq E) (R : Tr E) {m : FM} {n : Nat} {lv kv : Value} {cs : List (Act × Value)} (hl : RecsV recA m n lv cs) (hbg : largeB cs = false) (q r : Nat) {Q : AX → List Value → FM → Nat → Nat → Prop}
    (hQ : ∀ M' N' w tag v, n ≤ N' → (∀ b, b < n → M' b = m b) → (∀ j, j ≤ n → Nat.mod w (bit j) = 0) → Both M' n N' tag q r v → ∀ x1 x5 x6 x7, Q (.exit 0) [x1, .int .i64 (cs.length : Int), .pointer (some ⟨r, 0, none⟩), .pointer (some ⟨q, 0, none⟩), x5, x6, x7, lv, kv] M' N' w) : ∀ d j, j + d = cs.length → ∀ (M' : FM) (N' w0 : Nat) (tag : Tags) (v : QV) (x1 x5 x6 x7 : Value), n ≤ N' → (∀ b, b < n → M' b = m b) → (∀ j, j ≤ n → Nat.mod w0 (bit j) = 0) → Both M' n N' tag q r v →
    Gv (execW PG E Y ac5L0 [.int .i64 (j : Int), x1, .int .i64 (cs.length : Int), .pointer (some ⟨r, 0, none⟩), .pointer (some ⟨q, 0, none⟩), x5, x6, x7, lv, kv] M' N') fun X e m n w => Q X e m n (Nat.lor w0 w) := by
  obtain ⟨h150, hds⟩ := small_of hbg
  intro d
  induction d with
  | zero =>
    intro j hj M' N' w0 tag v x1 x5 x6 x7 hN hM hw hB
    refine wr_loopN (L := ac5L0) (b := ac5L0b) rfl ?_
    simp only [ac5L0b]
    simp (implicitDefEqProofs := false) (disch := omega) only [WPs, opds, List.all_cons, List.all_nil, List.cons_append, List.nil_append, cond_true, cond_false, eq_self, List.map_cons, List.map_nil, Nat.reduceAdd, Nat.testBit, Nat.reduceShiftRight, Nat.reduceAnd, Nat.reduceBNe, Nat.reduceMul]
    exact hQ _ _ _ tag v hN hM hw hB _ _ _ _
  | succ d ih =>
    intro j hj M' N' w0 tag v x1 x5 x6 x7 hN hM hw hB
    have hjl : j < cs.length := by omega
    have hl' := hl.frame hN hM
    obtain ⟨b, o, cells, opn, wr, i1, i2, i3, i4, i5, i6⟩ := hl'.at hjl
    have i6n := (hl.at hjl)
    obtain ⟨_, _, _, _, _, _, _, _, _, _, i7⟩ := i6n
    have i1 : idxV 11 j lv = some (.pointer (some ⟨b, o, none⟩)) := i1
    have i3 : M' b = some (.cells cells 11 opn wr) := i3
    have i4 : ctake (ldrop cells o) 11 = some (cs[j].1.cells cs[j].2) := i4
    have i7 : DatS m n cs[j].2 cs[j].1.c.data := i7
    have i5 : cs[j].1.c.Fit := i5
    have od := i7.v.one
    obtain ⟨tag0, t0, hB0⟩ := hB.box (some (.cells (cs[j].1.cells cs[j].2) 0 false true))
    have q1 := hB.1.q1
    have r1 := hB.2.r1
    simp only [Act.cells] at i4 hB0
    refine wr_loopN (L := ac5L0) (b := ac5L0b) rfl ?_
    simp only [ac5L0b]
    simp (implicitDefEqProofs := false) (disch := omega) only [WPs, opds, List.all_cons, List.all_nil, List.cons_append, List.nil_append, cond_true, cond_false, eq_self, List.map_cons, List.map_nil, Nat.reduceAdd, Nat.testBit, Nat.reduceShiftRight, Nat.reduceAnd, Nat.reduceBNe, Nat.reduceMul, i1, i3, i4, od]
    refine use_rt (do_spec H T R hB0 cs[j].1 cs[j].2 i5 (i7.frame (Nat.le_refl _) fun b hb => by rw [fput_ne _ _ _ _ (by omega)]; exact hM b hb) (hds j hjl)) fun x M1 N1 r1' w1 ⟨hx, tag1, c1, hB1⟩ => ?_
    subst hx
    have n1 := c1.n
    have fz1 := c1.w
    simp (implicitDefEqProofs := false) (disch := omega) only [WPs, opds, List.all_cons, List.all_nil, List.cons_append, List.nil_append, cond_true, cond_false, eq_self, List.map_cons, List.map_nil, Nat.reduceAdd, Nat.testBit, Nat.reduceShiftRight, Nat.reduceAnd, Nat.reduceBNe, Nat.reduceMul]
    refine wr_end (ih (j + 1) (by omega) M1 N1 (Nat.lor w0 (Nat.lor (Nat.lor (bit N') (bit N')) w1)) tag1 _ _ _ _ _ (by omega) (fun b hb => ?_) (fun i hi => ?_) hB1) fun X e m n w hq => ?_
    · rw [c1.fr b (by omega) (.inl hb), fput_ne _ _ _ _ (by omega)]
      exact hM b hb
    · simp only [frz_iff]
      exact ⟨hw i hi, ⟨frz_bit (by omega), frz_bit (by omega)⟩, fz1 i hi⟩
    · rw [← lor_assoc']; exact hq
def hasA (l : List Int) (t : Int) (j : Nat) : Bool := (l.take j).any fun u => decide (t = u)
theorem hasA_succ {l : List Int} {t : Int} {j : Nat} (h : j < l.length) : hasA l t (j + 1) = (hasA l t j || decide (t = l[j])) := by
  rw [hasA, List.take_add_one, List.getElem?_eq_getElem h, Option.toList_some, List.any_append]; simp [hasA]
theorem cancel_L1 (M : FM) (N : Nat) (av : Value) (l : List Int) (hl : Ints M N av l) (hs : l.length ≤ 1000) (t : Int) (f0 : Bool) {Q : AX → List Value → FM → Nat → Nat → Prop} (y4 y5 y6 y7 y9 y10 y11 y12 y13 y14 : Value) (ys : List Value)
    (hQ : ∀ x1 x2 x3, Q (.exit 4) (.bool (f0 || hasA l t l.length) :: x1 :: x2 :: x3 :: y4 :: y5 :: y6 :: y7 :: .int .i64 t :: y9 :: y10 :: y11 :: y12 :: y13 :: y14 :: av :: ys) M N 0) :
    ∀ d j, j + d = l.length → ∀ x2 : Value, Gv (execW PG E Y ac5L1 (.bool (f0 || hasA l t j) :: .int .i64 (j : Int) :: x2 :: .int .i64 (l.length : Int) :: y4 :: y5 :: y6 :: y7 :: .int .i64 t :: y9 :: y10 :: y11 :: y12 :: y13 :: y14 :: av :: ys) M N) Q := by
  intro d
  induction d with
  | zero =>
    intro j hj x2
    obtain rfl : j = l.length := by omega
    refine wr_loopN (L := ac5L1) (b := ac5L1b) rfl ?_
    simp only [ac5L1b]
    simp (implicitDefEqProofs := false) (disch := omega) only [WPs, opds, List.all_cons, List.all_nil, List.cons_append, List.nil_append, cond_true, cond_false, eq_self, List.map_cons, List.map_nil, Nat.reduceAdd, Nat.testBit, Nat.reduceShiftRight, Nat.reduceAnd, Nat.reduceBNe, Nat.reduceMul]
    exact hQ _ _ _
  | succ d ih =>
    intro j hj x2
    have hjl : j < l.length := by omega
    obtain ⟨b, o, c, opn, wr, i1, i2, i3, i4⟩ := hl.cell hjl
    have ih := ih (j + 1) (by omega)
    rw [hasA_succ hjl] at ih
    refine wr_loopN (L := ac5L1) (b := ac5L1b) rfl ?_
    simp only [ac5L1b]
    rw [← Bool.or_assoc] at ih
    cases hf : (f0 || hasA l t j)
    · rw [hf, Bool.false_or] at ih
      simp (implicitDefEqProofs := false) (disch := omega) only [WPs, opds, List.all_cons, List.all_nil, List.cons_append, List.nil_append, cond_true, cond_false, eq_self, List.map_cons, List.map_nil, Nat.reduceAdd, Nat.testBit, Nat.reduceShiftRight, Nat.reduceAnd, Nat.reduceBNe, Nat.reduceMul, i1, i3, i4]
      exact wr_end (ih _) fun X e m n w hq => by simpa only [zero_lor'] using hq
    · rw [hf, Bool.true_or] at ih
      simp (implicitDefEqProofs := false) (disch := omega) only [WPs, opds, List.all_cons, List.all_nil, List.cons_append, List.nil_append, cond_true, cond_false, eq_self, List.map_cons, List.map_nil, Nat.reduceAdd, Nat.testBit, Nat.reduceShiftRight, Nat.reduceAnd, Nat.reduceBNe, Nat.reduceMul, i1, i3, i4]
      exact wr_end (ih _) fun X e m n w hq => by simpa only [zero_lor'] using hq
theorem hasA_all (l : List Int) (t : Int) : hasA l t l.length = decide (t ∈ l) := by
  rw [hasA, List.take_length, Bool.eq_iff_iff, List.any_eq_true, decide_eq_true_iff]
  simp only [decide_eq_true_iff]
  exact ⟨fun ⟨x, hx, he⟩ => he ▸ hx, fun h => ⟨t, h, rfl⟩⟩
theorem cancel_L1z (M : FM) (N : Nat) (av : Value) (l : List Int) (hl : Ints M N av l) (hs : l.length ≤ 1000) (t : Int) (f0 : Bool) {Q : AX → List Value → FM → Nat → Nat → Prop} (y4 y5 y6 y7 y9 y10 y11 y12 y13 y14 : Value) (ys : List Value)
    (hQ : ∀ x1 x2 x3, Q (.exit 4) (.bool (f0 || decide (t ∈ l)) :: x1 :: x2 :: x3 :: y4 :: y5 :: y6 :: y7 :: .int .i64 t :: y9 :: y10 :: y11 :: y12 :: y13 :: y14 :: av :: ys) M N 0) (x2 : Value) :
    Gv (execW PG E Y ac5L1 (.bool f0 :: .int .i64 0 :: x2 :: .int .i64 (l.length : Int) :: y4 :: y5 :: y6 :: y7 :: .int .i64 t :: y9 :: y10 :: y11 :: y12 :: y13 :: y14 :: av :: ys) M N) Q := by
  have h := cancel_L1 (E := E) (Y := Y) M N av l hl hs t f0 (Q := Q) y4 y5 y6 y7 y9 y10 y11 y12 y13 y14 ys (by rw [hasA_all]; exact hQ) l.length 0 (by omega) x2
  rw [show (f0 || hasA l t 0) = f0 from by simp [hasA]] at h
  exact h
theorem cancel_L2 (M : FM) (N : Nat) (av bv : Value) (l bl : List Int) (hl : Ints M N av l) (hs : l.length ≤ 1000) (hb : Ints M N bv bl) (hbs : bl.length ≤ 1000) (t e : Int) (hp : ∀ x ∈ bl, (x = t ∧ e = 0) ∨ x ∈ l) {Q : AX → List Value → FM → Nat → Nat → Prop} (y6 : Value) (ys : List Value)
    (hQ : ∀ x1 x2 x3, Q (.exit 2) (x1 :: x2 :: x3 :: av :: .int .i64 e :: y6 :: bv :: .int .i64 t :: ys) M N 0) :
    ∀ d j, j + d = bl.length → ∀ x0 x2 : Value, Gv (execW PG E Y ac5L2 (x0 :: .int .i64 (j : Int) :: x2 :: .int .i64 (bl.length : Int) :: av :: .int .i64 e :: y6 :: bv :: .int .i64 t :: ys) M N) Q := by
  intro d
  induction d with
  | zero =>
    intro j hj x0 x2
    obtain rfl : j = bl.length := by omega
    refine wr_loopN (L := ac5L2) (b := ac5L2b) rfl ?_
    simp only [ac5L2b]
    simp (implicitDefEqProofs := false) (disch := omega) only [WPs, opds, List.all_cons, List.all_nil, List.cons_append, List.nil_append, cond_true, cond_false, eq_self, List.map_cons, List.map_nil, Nat.reduceAdd, Nat.testBit, Nat.reduceShiftRight, Nat.reduceAnd, Nat.reduceBNe, Nat.reduceMul]
    exact hQ _ _ _
  | succ d ih =>
    intro j hj x0 x2
    have hjl : j < bl.length := by omega
    obtain ⟨b, o, c, opn, wr, i1, i2, i3, i4⟩ := hb.cell hjl
    have ih := ih (j + 1) (by omega)
    have hp := hp bl[j] (List.getElem_mem hjl)
    refine wr_loopN (L := ac5L2) (b := ac5L2b) rfl ?_
    simp only [ac5L2b]
    by_cases h1 : bl[j] = t
    · by_cases h2 : e = 0
      · simp (implicitDefEqProofs := false) (disch := omega) only [WPs, opds, List.all_cons, List.all_nil, List.cons_append, List.nil_append, cond_true, cond_false, eq_self, List.map_cons, List.map_nil, Nat.reduceAdd, Nat.testBit, Nat.reduceShiftRight, Nat.reduceAnd, Nat.reduceBNe, Nat.reduceMul, i1, i3, i4, hl.len, decide_eq_true h1, decide_eq_true h2]
        refine wr_cps (cancel_L1z M N av l hl hs bl[j] true _ _ _ _ _ _ _ _ _ _ _ (fun x1 x2 x3 r => ?_) _)
        rw [show (true || decide (bl[j] ∈ l)) = true from rfl]
        simp (implicitDefEqProofs := false) (disch := omega) only [WPs, opds, List.all_cons, List.all_nil, List.cons_append, List.nil_append, cond_true, cond_false, eq_self, List.map_cons, List.map_nil, Nat.reduceAdd, Nat.testBit, Nat.reduceShiftRight, Nat.reduceAnd, Nat.reduceBNe, Nat.reduceMul]
        exact wr_end (ih _ _) fun X e m n w hq => by simpa only [zero_lor'] using hq
      · simp (implicitDefEqProofs := false) (disch := omega) only [WPs, opds, List.all_cons, List.all_nil, List.cons_append, List.nil_append, cond_true, cond_false, eq_self, List.map_cons, List.map_nil, Nat.reduceAdd, Nat.testBit, Nat.reduceShiftRight, Nat.reduceAnd, Nat.reduceBNe, Nat.reduceMul, i1, i3, i4, hl.len, decide_eq_true h1, decide_eq_false h2]
        refine wr_cps (cancel_L1z M N av l hl hs bl[j] false _ _ _ _ _ _ _ _ _ _ _ (fun x1 x2 x3 r => ?_) _)
        rw [show (false || decide (bl[j] ∈ l)) = true from by rw [Bool.false_or]; exact decide_eq_true (hp.resolve_left fun h => h2 h.2)]
        simp (implicitDefEqProofs := false) (disch := omega) only [WPs, opds, List.all_cons, List.all_nil, List.cons_append, List.nil_append, cond_true, cond_false, eq_self, List.map_cons, List.map_nil, Nat.reduceAdd, Nat.testBit, Nat.reduceShiftRight, Nat.reduceAnd, Nat.reduceBNe, Nat.reduceMul]
        exact wr_end (ih _ _) fun X e m n w hq => by simpa only [zero_lor'] using hq
    · simp (implicitDefEqProofs := false) (disch := omega) only [WPs, opds, List.all_cons, List.all_nil, List.cons_append, List.nil_append, cond_true, cond_false, eq_self, List.map_cons, List.map_nil, Nat.reduceAdd, Nat.testBit, Nat.reduceShiftRight, Nat.reduceAnd, Nat.reduceBNe, Nat.reduceMul, i1, i3, i4, hl.len, decide_eq_false h1]
      refine wr_cps (cancel_L1z M N av l hl hs bl[j] false _ _ _ _ _ _ _ _ _ _ _ (fun x1 x2 x3 r => ?_) _)
      rw [show (false || decide (bl[j] ∈ l)) = true from by rw [Bool.false_or]; exact decide_eq_true (hp.resolve_left fun h => h1 h.1)]
      simp (implicitDefEqProofs := false) (disch := omega) only [WPs, opds, List.all_cons, List.all_nil, List.cons_append, List.nil_append, cond_true, cond_false, eq_self, List.map_cons, List.map_nil, Nat.reduceAdd, Nat.testBit, Nat.reduceShiftRight, Nat.reduceAnd, Nat.reduceBNe, Nat.reduceMul]
      exact wr_end (ih _ _) fun X e m n w hq => by simpa only [zero_lor'] using hq
theorem cancelLaw (H : Hy E Y) (T : Tq E) (R : Tr E) (hE : E 5 = some ac5) (m : FM) (n : Nat) (lv : Value) (k : Int) (hk : 0 ≤ k ∧ k < 256) (cs : List (Act × Value)) (hl : RecsV recA m n lv cs) (hs : cs.length ≤ 9223372036854775807) : Pure (callW PG E Y 5 [lv, .int .u8 k] m n) m n (.bool true) := by
  refine pure_spec hE rfl rfl ?_
  simp only [ac5]
  simp (implicitDefEqProofs := false) (disch := omega) only [WPs, opds, List.all_cons, List.all_nil, List.cons_append, List.nil_append, cond_true, cond_false, eq_self, List.map_cons, List.map_nil, Nat.reduceAdd, Nat.testBit, Nat.reduceShiftRight, Nat.reduceAnd, Nat.reduceBNe, Nat.reduceMul]
  refine use_pure (awake_spec H T R m n) fun _ => ?_
  simp (implicitDefEqProofs := false) (disch := omega) only [WPs, opds, List.all_cons, List.all_nil, List.cons_append, List.nil_append, cond_true, cond_false, eq_self, List.map_cons, List.map_nil, Nat.reduceAdd, Nat.testBit, Nat.reduceShiftRight, Nat.reduceAnd, Nat.reduceBNe, Nat.reduceMul]
  refine use_pure (large_spec R hl hs) fun _ => ?_
  cases hbg : largeB cs with
  | true => simp (implicitDefEqProofs := false) (disch := omega) only [WPs, opds, List.all_cons, List.all_nil, List.cons_append, List.nil_append, cond_true, cond_false, eq_self, List.map_cons, List.map_nil, Nat.reduceAdd, Nat.testBit, Nat.reduceShiftRight, Nat.reduceAnd, Nat.reduceBNe, Nat.reduceMul]
  | false =>
    simp (implicitDefEqProofs := false) (disch := omega) only [WPs, opds, List.all_cons, List.all_nil, List.cons_append, List.nil_append, cond_true, cond_false, eq_self, List.map_cons, List.map_nil, Nat.reduceAdd, Nat.testBit, Nat.reduceShiftRight, Nat.reduceAnd, Nat.reduceBNe, Nat.reduceMul]
    refine use_rt (new_spec T m n) fun x M1 N1 r1 w1 ⟨a1, a2, a3, ex, eN, a4⟩ => ?_
    subst ex eN
    have hN := a4 (fun b => if b = n then 2 else if b = n + 1 then 3 else if b = n + 2 then 1 else if b = n + 3 then 11 else 0) (if_pos rfl) (by show (if n + 1 = n then 2 else if n + 1 = n + 1 then 3 else _) = 3; rw [if_neg (by omega), if_pos rfl]) (by show (if n + 2 = n then 2 else if n + 2 = n + 1 then 3 else if n + 2 = n + 2 then 1 else _) = 1; rw [if_neg (by omega), if_neg (by omega), if_pos rfl])
    have hB := both_new (m := m) hN
    have fz1 := a3 n (Nat.le_refl _)
    simp (implicitDefEqProofs := false) (disch := omega) only [WPs, opds, List.all_cons, List.all_nil, List.cons_append, List.nil_append, cond_true, cond_false, eq_self, List.map_cons, List.map_nil, Nat.reduceAdd, Nat.testBit, Nat.reduceShiftRight, Nat.reduceAnd, Nat.reduceBNe, Nat.reduceMul, hl.len]
    refine wr_kont (cancel_L0 H T R hl hbg (n + 2) (n + 3) (fun M' N' w tag v hN hM hw hB x1 x5 x6 x7 r => ?_) cs.length 0 (by omega) _ (n + 4) 0 _ [] _ _ _ _ (by omega) (fun b hb => ?_) (fun j _ => Nat.zero_mod _) hB)
    · have fz := hw n (Nat.le_refl _)
      obtain ⟨ls, le, lt⟩ := lenV_startedV v hB.1.len
      have hnd := hB.1.nd
      simp (implicitDefEqProofs := false) (disch := omega) only [WPs, opds, List.all_cons, List.all_nil, List.cons_append, List.nil_append, cond_true, cond_false, eq_self, List.map_cons, List.map_nil, Nat.reduceAdd, Nat.testBit, Nat.reduceShiftRight, Nat.reduceAnd, Nat.reduceBNe, Nat.reduceMul]
      refine use_rt (tags_z T hB.1) fun tv M2 N2 r2 w2 ⟨n2, m2, f2, z2⟩ => ?_
      have g2 := z2.ints
      have hB2 := hB.stay n2 m2
      have f2 := f2 n (by omega)
      by_cases h0 : (tagsV v).length = 0
      · simp (implicitDefEqProofs := false) (disch := omega) only [WPs, opds, List.all_cons, List.all_nil, List.cons_append, List.nil_append, cond_true, cond_false, eq_self, List.map_cons, List.map_nil, Nat.reduceAdd, Nat.testBit, Nat.reduceShiftRight, Nat.reduceAnd, Nat.reduceBNe, Nat.reduceMul, g2.len, h0, fz, fz1, f2]
      · have hi : k.toNat % (tagsV v).length < (tagsV v).length := Nat.mod_lt _ (by omega)
        obtain ⟨kn, hkn⟩ : ∃ kn : Nat, k = (kn : Int) := ⟨k.toNat, by omega⟩
        subst hkn
        rw [Int.toNat_natCast] at hi
        obtain ⟨b, o, c, opn, wr, i1, i2, i3, i4⟩ := g2.cell hi
        simp (implicitDefEqProofs := false) (disch := omega) only [WPs, opds, List.all_cons, List.all_nil, List.cons_append, List.nil_append, cond_true, cond_false, eq_self, List.map_cons, List.map_nil, Nat.reduceAdd, Nat.testBit, Nat.reduceShiftRight, Nat.reduceAnd, Nat.reduceBNe, Nat.reduceMul, g2.len, decide_eq_false (show ¬ (((tagsV v).length : Int) = 0) by omega), conv_u8 (show kn < 256 by omega), i1, i3, i4]
        generalize htt : (tagsV v)[kn % (tagsV v).length] = t
        have htm : t ∈ tagsV v := by rw [← htt]; exact List.getElem_mem hi
        refine use_rt (elig_z H T hB2.1) fun bv M3 N3 r3 w3 ⟨n3, m3, f3, z3⟩ => ?_
        have g3 := z3.ints
        have hB3 := hB2.stay n3 m3
        have f3 := f3 n (by omega)
        simp (implicitDefEqProofs := false) (disch := omega) only [WPs, opds, List.all_cons, List.all_nil, List.cons_append, List.nil_append, cond_true, cond_false, eq_self, List.map_cons, List.map_nil, Nat.reduceAdd, Nat.testBit, Nat.reduceShiftRight, Nat.reduceAnd, Nat.reduceBNe, Nat.reduceMul]
        refine use_rt (started_z T hB3.1) fun sv M4 N4 r4 w4 ⟨n4, m4, f4, z4⟩ => ?_
        have g4 := z4.ints
        have hB4 := hB3.stay n4 m4
        have f4 := f4 n (by omega)
        simp (implicitDefEqProofs := false) (disch := omega) only [WPs, opds, List.all_cons, List.all_nil, List.cons_append, List.nil_append, cond_true, cond_false, eq_self, List.map_cons, List.map_nil, Nat.reduceAdd, Nat.testBit, Nat.reduceShiftRight, Nat.reduceAnd, Nat.reduceBNe, Nat.reduceMul]
        cases hfl : flT v t
        · have he : remEV v t false = 0 := by rw [remEV, if_pos htm, if_pos hfl]
          obtain ⟨tag4, t4a, t4b, hB4w⟩ := hB.wide (M' := M4) (by omega : N' ≤ N4) (fun b hb => by rw [m4 b (by omega), m3 b (by omega), m2 b hb])
          refine use_rt (cancel_v T hB4w.1 t) fun x M5 N5 r5 w5 hm => ?_
          obtain ⟨rfl, tag5, c5, q5⟩ := hm.ok he
          have new5 : ∀ b, N' ≤ b → b < N4 → M5 b = M4 b := fun b hb hb2 => c5.fr b hb2 (.inr (.inl (by rw [t4b b hb]; omega)))
          have n5 := c5.n
          have f5 := c5.w n (Nat.le_refl _)
          have hlr := rem_len hnd htm
          rw [tagsV_len] at h0 lt
          have hsr := started_rem hfl
          have g4b : Ints M5 N5 sv (startedL v) := (z4.frame c5.n fun b h1 h2 => new5 b (by omega) h2).ints
          have g3b : Ints M5 N5 bv (eligL v) := (z3.frame (by omega : N3 ≤ N5) fun b h1 h2 => (new5 b (by omega) (by omega)).trans (m4 b h2)).ints
          have g2b : Ints M5 N5 tv (tagsV v) := (z2.frame (by omega : N2 ≤ N5) fun b h1 h2 => (new5 b (by omega) (by omega)).trans ((m4 b (by omega)).trans (m3 b h2))).ints
          simp (implicitDefEqProofs := false) (disch := omega) only [WPs, opds, List.all_cons, List.all_nil, List.cons_append, List.nil_append, cond_true, cond_false, eq_self, List.map_cons, List.map_nil, Nat.reduceAdd, Nat.testBit, Nat.reduceShiftRight, Nat.reduceAnd, Nat.reduceBNe, Nat.reduceMul]
          refine use_rt (elig_v H T q5) fun av M6 N6 r6 w6 ⟨n6, m6, f6, g6⟩ => ?_
          have q6 := q5.stay n6 m6
          have f6 := f6 n (by omega)
          have g3' := g3b.frame n6 m6
          have g4' := g4b.frame n6 m6
          have g2' := g2b.frame n6 m6
          obtain ⟨ls', le', lt'⟩ := lenV_startedV (remV v t) q5.len
          simp (implicitDefEqProofs := false) (disch := omega) only [WPs, opds, List.all_cons, List.all_nil, List.cons_append, List.nil_append, cond_true, cond_false, eq_self, List.map_cons, List.map_nil, Nat.reduceAdd, Nat.testBit, Nat.reduceShiftRight, Nat.reduceAnd, Nat.reduceBNe, Nat.reduceMul, g3'.len]
          refine wr_cps (cancel_L2 M6 N6 av bv (eligL (remV v t)) (eligL v) g6 (by omega) g3' (by omega) t 0 (fun x hx => by
            by_cases hxt : x = t
            · exact .inl ⟨hxt, rfl⟩
            · exact .inr (elig_rem hx hxt)) _ _ (fun x1 x2 x3 r => ?_) (eligL v).length 0 (by omega) _ _)
          simp (implicitDefEqProofs := false) (disch := omega) only [WPs, opds, List.all_cons, List.all_nil, List.cons_append, List.nil_append, cond_true, cond_false, eq_self, List.map_cons, List.map_nil, Nat.reduceAdd, Nat.testBit, Nat.reduceShiftRight, Nat.reduceAnd, Nat.reduceBNe, Nat.reduceMul]
          refine use_rt (tags_v T q6) fun uv M7 N7 r7 w7 ⟨n7, m7, f7, g7⟩ => ?_
          have q7 := q6.stay n7 m7
          have f7 := f7 n (by omega)
          have g2'' := g2'.frame n7 m7
          have l7 := g7.len
          have l2 := g2''.len
          rw [tagsV_len] at l7 l2
          simp (implicitDefEqProofs := false) (disch := omega) only [WPs, opds, List.all_cons, List.all_nil, List.cons_append, List.nil_append, cond_true, cond_false, eq_self, List.map_cons, List.map_nil, Nat.reduceAdd, Nat.testBit, Nat.reduceShiftRight, Nat.reduceAnd, Nat.reduceBNe, Nat.reduceMul, l7, l2, decide_eq_true (show (((remV v t).length : Nat) : Int) = (v.length : Int) - 1 by omega)]
          refine use_rt (started_v T q7) fun zv M8 N8 r8 w8 ⟨n8, m8, f8, g8⟩ => ?_
          have f8 := f8 n (by omega)
          rw [hsr] at g8
          simp (implicitDefEqProofs := false) (disch := omega) only [WPs, opds, List.all_cons, List.all_nil, List.cons_append, List.nil_append, cond_true, cond_false, eq_self, List.map_cons, List.map_nil, Nat.reduceAdd, Nat.testBit, Nat.reduceShiftRight, Nat.reduceAnd, Nat.reduceBNe, Nat.reduceMul]
          refine use_pure (sameInts_spec R.e22 _ _ _ _ _ g8 ((g4'.frame n7 m7).frame n8 m8) (by omega)) fun _ => ?_
          simp (implicitDefEqProofs := false) (disch := omega) only [WPs, opds, List.all_cons, List.all_nil, List.cons_append, List.nil_append, cond_true, cond_false, eq_self, List.map_cons, List.map_nil, Nat.reduceAdd, Nat.testBit, Nat.reduceShiftRight, Nat.reduceAnd, Nat.reduceBNe, Nat.reduceMul, fz, fz1, f2, f3, f4, f5, f6, f7, f8]
        · have he : remEV v t false = 8 := by rw [remEV, if_pos htm, if_neg (by rw [hfl]; decide)]
          refine use_rt (cancel_v T hB4.1 t) fun x M5 N5 r5 w5 hm => ?_
          rw [he] at hm
          obtain ⟨rfl, rfl, rfl, rfl⟩ := hm.bad (by decide)
          simp (implicitDefEqProofs := false) (disch := omega) only [WPs, opds, List.all_cons, List.all_nil, List.cons_append, List.nil_append, cond_true, cond_false, eq_self, List.map_cons, List.map_nil, Nat.reduceAdd, Nat.testBit, Nat.reduceShiftRight, Nat.reduceAnd, Nat.reduceBNe, Nat.reduceMul]
          refine use_rt (elig_v H T hB4.1) fun av M6 N6 r6 w6 ⟨n6, m6, f6, g6⟩ => ?_
          have hB6 := hB4.stay n6 m6
          have f6 := f6 n (by omega)
          have g3' := (g3.frame n4 m4).frame n6 m6
          have g4' := g4.frame n6 m6
          have g2' := ((g2.frame n3 m3).frame n4 m4).frame n6 m6
          simp (implicitDefEqProofs := false) (disch := omega) only [WPs, opds, List.all_cons, List.all_nil, List.cons_append, List.nil_append, cond_true, cond_false, eq_self, List.map_cons, List.map_nil, Nat.reduceAdd, Nat.testBit, Nat.reduceShiftRight, Nat.reduceAnd, Nat.reduceBNe, Nat.reduceMul, g3'.len]
          refine wr_cps (cancel_L2 M6 N6 av bv (eligL v) (eligL v) g6 (by omega) g3' (by omega) t 8 (fun x hx => .inr hx) _ _ (fun x1 x2 x3 r => ?_) (eligL v).length 0 (by omega) _ _)
          simp (implicitDefEqProofs := false) (disch := omega) only [WPs, opds, List.all_cons, List.all_nil, List.cons_append, List.nil_append, cond_true, cond_false, eq_self, List.map_cons, List.map_nil, Nat.reduceAdd, Nat.testBit, Nat.reduceShiftRight, Nat.reduceAnd, Nat.reduceBNe, Nat.reduceMul]
          refine use_rt (tags_v T hB6.1) fun uv M7 N7 r7 w7 ⟨n7, m7, f7, g7⟩ => ?_
          have hB7 := hB6.stay n7 m7
          have f7 := f7 n (by omega)
          have g2'' := g2'.frame n7 m7
          simp (implicitDefEqProofs := false) (disch := omega) only [WPs, opds, List.all_cons, List.all_nil, List.cons_append, List.nil_append, cond_true, cond_false, eq_self, List.map_cons, List.map_nil, Nat.reduceAdd, Nat.testBit, Nat.reduceShiftRight, Nat.reduceAnd, Nat.reduceBNe, Nat.reduceMul, g7.len, g2''.len]
          refine use_rt (started_v T hB7.1) fun zv M8 N8 r8 w8 ⟨n8, m8, f8, g8⟩ => ?_
          have f8 := f8 n (by omega)
          simp (implicitDefEqProofs := false) (disch := omega) only [WPs, opds, List.all_cons, List.all_nil, List.cons_append, List.nil_append, cond_true, cond_false, eq_self, List.map_cons, List.map_nil, Nat.reduceAdd, Nat.testBit, Nat.reduceShiftRight, Nat.reduceAnd, Nat.reduceBNe, Nat.reduceMul]
          refine use_pure (sameInts_spec R.e22 _ _ _ _ _ g8 ((g4'.frame n7 m7).frame n8 m8) (by omega)) fun _ => ?_
          simp (implicitDefEqProofs := false) (disch := omega) only [WPs, opds, List.all_cons, List.all_nil, List.cons_append, List.nil_append, cond_true, cond_false, eq_self, List.map_cons, List.map_nil, Nat.reduceAdd, Nat.testBit, Nat.reduceShiftRight, Nat.reduceAnd, Nat.reduceBNe, Nat.reduceMul, fz, fz1, f2, f3, f4, f6, f7, f8]
    · rw [fput_ne _ _ _ _ (by omega)]; exact a2 b hb
end Go.Am.C41
