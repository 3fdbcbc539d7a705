/- The machine and its runs, part 14: Am40g Am40h Am40i Am40j Am40y Am40za Am40zb. -/
import Derived.Test.YtkadpnfidbgmmaaDoorB13
set_option linter.unusedVariables false
set_option linter.unusedSimpArgs false
set_option linter.unusedSectionVars false
namespace Go.Am.C40
open Go Go.Am
variable {E : Nat → Option AFn} {Y : Nat → List Value → FM → Nat → OR FM}
theorem sh_round (m : FM) (n pb : Nat) (a b : Cmd) (dd : Value) (hpb : pb < n) (hB : m pb = some (.cells (b.cells dd) 0 false true)) (x7 x8 x6 : Value) {Q : AX → List Value → FM → Nat → Nat → Prop} (j : Nat) (s : ByteArray) (hj : j < 2)
    (hg : cget [.string a.vol, .string a.oth] j = some (.string s)) (hQt : OneOf s b → ∀ e', Q (.ret (.bool true)) e' m n 0)
    (hQf : ¬ OneOf s b → ∀ x0 x2 x4, Gv (execW PG E Y ac30L0 [x0, .int .i64 ((j + 1 : Nat) : Int), x2, .agg #[.string a.vol, .string a.oth], x4, .pointer (some ⟨pb, 0, none⟩), x6, x7, x8] m n) Q) (x0 x2 x4 : Value) :
    Gv (execW PG E Y ac30L0 [x0, .int .i64 (j : Int), x2, .agg #[.string a.vol, .string a.oth], x4, .pointer (some ⟨pb, 0, none⟩), x6, x7, x8] m n) Q := by
  refine wr_loopN (L := ac30L0) (b := ac30L0b) rfl ?_
  simp only [ac30L0b]
  by_cases h0 : s = ⟨#[]⟩
  · have hn : ¬ OneOf s b := fun h => h.1 h0
    simp (implicitDefEqProofs := false) (disch := omega) only [WPs, opds, List.all_cons, List.all_nil, List.cons_append, List.nil_append, cond_true, cond_false, eq_self, List.map_cons, List.map_nil, Nat.reduceAdd, Nat.testBit, Nat.reduceShiftRight, Nat.reduceAnd, Nat.reduceBNe, Nat.reduceMul, STs, hg, hB, Cmd.cells, decide_eq_true h0, Bool.not_true]
    exact wr_end' ((hQf hn _ _ _).mono fun X e m n w hq => by simpa only [zero_lor'] using hq)
  · by_cases h1 : s = b.vol
    · have hn : OneOf s b := ⟨h0, .inl h1⟩
      simp (implicitDefEqProofs := false) (disch := omega) only [WPs, opds, List.all_cons, List.all_nil, List.cons_append, List.nil_append, cond_true, cond_false, eq_self, List.map_cons, List.map_nil, Nat.reduceAdd, Nat.testBit, Nat.reduceShiftRight, Nat.reduceAnd, Nat.reduceBNe, Nat.reduceMul, STs, hg, hB, Cmd.cells, decide_eq_false h0, decide_eq_true h1, Bool.not_false]
      exact hQt hn _
    · by_cases h2 : s = b.oth
      · have hn : OneOf s b := ⟨h0, .inr h2⟩
        simp (implicitDefEqProofs := false) (disch := omega) only [WPs, opds, List.all_cons, List.all_nil, List.cons_append, List.nil_append, cond_true, cond_false, eq_self, List.map_cons, List.map_nil, Nat.reduceAdd, Nat.testBit, Nat.reduceShiftRight, Nat.reduceAnd, Nat.reduceBNe, Nat.reduceMul, STs, hg, hB, Cmd.cells, decide_eq_false h0, decide_eq_false h1, decide_eq_true h2, Bool.not_false]
        exact hQt hn _
      · have hn : ¬ OneOf s b := fun h => h.2.elim h1 h2
        simp (implicitDefEqProofs := false) (disch := omega) only [WPs, opds, List.all_cons, List.all_nil, List.cons_append, List.nil_append, cond_true, cond_false, eq_self, List.map_cons, List.map_nil, Nat.reduceAdd, Nat.testBit, Nat.reduceShiftRight, Nat.reduceAnd, Nat.reduceBNe, Nat.reduceMul, STs, hg, hB, Cmd.cells, decide_eq_false h0, decide_eq_false h1, decide_eq_false h2, Bool.not_false]
        exact wr_end' ((hQf hn _ _ _).mono fun X e m n w hq => by simpa only [zero_lor'] using hq)
theorem sh_end (m : FM) (n pb : Nat) (a : Cmd) (x6 x7 x8 : Value) {Q : AX → List Value → FM → Nat → Nat → Prop} (hQ : ∀ e', Q (.exit 0) e' m n 0) (x0 x2 x4 : Value) :
    Gv (execW PG E Y ac30L0 [x0, .int .i64 ((1 + 1 : Nat) : Int), x2, .agg #[.string a.vol, .string a.oth], x4, .pointer (some ⟨pb, 0, none⟩), x6, x7, x8] m n) Q := by
  refine wr_loopN (L := ac30L0) (b := ac30L0b) rfl ?_
  simp only [ac30L0b]
  simp (implicitDefEqProofs := false) (disch := omega) only [WPs, opds, List.all_cons, List.all_nil, List.cons_append, List.nil_append, cond_true, cond_false, eq_self, List.map_cons, List.map_nil, Nat.reduceAdd, Nat.testBit, Nat.reduceShiftRight, Nat.reduceAnd, Nat.reduceBNe, Nat.reduceMul]
  exact hQ _
theorem shares_L (m : FM) (n pb : Nat) (a b : Cmd) (dd : Value) (hpb : pb < n) (hB : m pb = some (.cells (b.cells dd) 0 false true)) (x0 x2 x4 x6 x7 x8 : Value) {Q : AX → List Value → FM → Nat → Nat → Prop}
    (hQt : SharesP a b → ∀ e', Q (.ret (.bool true)) e' m n 0) (hQf : ¬ SharesP a b → ∀ e', Q (.exit 0) e' m n 0) :
    Gv (execW PG E Y ac30L0 [x0, .int .i64 0, x2, .agg #[.string a.vol, .string a.oth], x4, .pointer (some ⟨pb, 0, none⟩), x6, x7, x8] m n) Q :=
  sh_round m n pb a b dd hpb hB x7 x8 x6 0 a.vol (by omega) rfl (fun h => hQt (.inl h)) (fun h1 y0 y2 y4 =>
    sh_round m n pb a b dd hpb hB x7 x8 x6 1 a.oth (by omega) rfl (fun h => hQt (.inr h)) (fun h2 z0 z2 z4 =>
      sh_end m n pb a x6 x7 x8 (hQf fun h => h.elim h1 h2) z0 z2 z4) y0 y2 y4) x0 x2 x4
theorem shares_spec (hE : E 30 = some ac30) (m : FM) (n : Nat) (a b : Cmd) (d e : Value) (hd : one d = true) (he : one e = true) :
    Pure (callW PG E Y 30 [cmdV a d, cmdV b e] m n) m n (.bool (sharesB a b)) := by
  refine pure_spec hE rfl rfl ?_
  simp only [ac30, cmdV]
  simp (implicitDefEqProofs := false) (disch := omega) only [WPs, opds, List.all_cons, List.all_nil, List.cons_append, List.nil_append, cond_true, cond_false, eq_self, List.map_cons, List.map_nil, Nat.reduceAdd, Nat.testBit, Nat.reduceShiftRight, Nat.reduceAnd, Nat.reduceBNe, Nat.reduceMul, hd, he, STs]
  refine wr_cps (shares_L _ (n + 2) (n + 1) a b e (by omega) (fput_same _ _ _) _ _ _ _ _ _ (fun h e' r1 => ?_) (fun h e' r1 => ?_))
  · rw [sharesB_t h]
    simp (implicitDefEqProofs := false) (disch := omega) only [WPs, opds, List.all_cons, List.all_nil, List.cons_append, List.nil_append, cond_true, cond_false, eq_self, List.map_cons, List.map_nil, Nat.reduceAdd, Nat.testBit, Nat.reduceShiftRight, Nat.reduceAnd, Nat.reduceBNe, Nat.reduceMul]
  · rw [sharesB_f h]
    simp (implicitDefEqProofs := false) (disch := omega) only [WPs, opds, List.all_cons, List.all_nil, List.cons_append, List.nil_append, cond_true, cond_false, eq_self, List.map_cons, List.map_nil, Nat.reduceAdd, Nat.testBit, Nat.reduceShiftRight, Nat.reduceAnd, Nat.reduceBNe, Nat.reduceMul]
/-- the two affect each other -/
def RangesP (a b : Cmd) : Prop := a.vol = b.vol ∧ a.at_ < b.at_ + b.len ∧ b.at_ < a.at_ + a.len ∧ (a.kind ≠ 1 ∨ b.kind ≠ 1)
def OverP (a b : Cmd) : Prop := ValidP a ∧ ValidP b ∧ (((5 ≤ a.kind ∨ 5 ≤ b.kind) ∧ SharesP a b) ∨ (a.kind ≤ 3 ∧ b.kind ≤ 3 ∧ RangesP a b))
open Classical in
noncomputable def overB (a b : Cmd) : Bool := decide (OverP a b)
open Classical in
theorem overB_t {a b : Cmd} (h : OverP a b) : overB a b = true := by unfold overB; exact decide_eq_true h
open Classical in
theorem overB_f {a b : Cmd} (h : ¬ OverP a b) : overB a b = false := by unfold overB; exact decide_eq_false h
/-- the ranges of valid commands are small -/
theorem in_small {c : Cmd} (h : InRange c) : 0 ≤ c.at_ ∧ c.at_ ≤ 65536 ∧ 1 ≤ c.len ∧ c.len ≤ 65536 := by
  obtain ⟨hv, hk⟩ := h
  have hk1 := kind_of hv
  rcases (show c.kind = 1 ∨ c.kind = 2 ∨ c.kind = 3 by omega) with k | k | k
  · obtain ⟨_, _, _, _, ⟨h1, h2, h3, h4, h5⟩, _⟩ := ((valid_1 k).1 hv).2
    omega
  · obtain ⟨_, _, ⟨h1, h2, h3, h4, h5⟩, _⟩ := ((valid_2 k).1 hv).2
    omega
  · obtain ⟨_, _, _, ⟨h1, h2, h3, h4, h5⟩⟩ := ((valid_3 k).1 hv).2
    omega
theorem x4_0 (a b c d : Value) : extrV 0 (.tuple #[a, b, c, d]) = some a := rfl
theorem x4_1 (a b c d : Value) : extrV 1 (.tuple #[a, b, c, d]) = some b := rfl
theorem x4_2 (a b c d : Value) : extrV 2 (.tuple #[a, b, c, d]) = some c := rfl
theorem x4_3 (a b c d : Value) : extrV 3 (.tuple #[a, b, c, d]) = some d := rfl
theorem overlap_spec (hE : E 25 = some ac25) (h30 : E 30 = some ac30) (h31 : E 31 = some ac31) (hV : Vals E Y) (m : FM) (n : Nat) (a b : Cmd) (d e : Value) (hF : a.Fit) (hG : b.Fit) (hd : DatV m n d a.data) (he : DatV m n e b.data) :
    Pure (callW PG E Y 25 [cmdV a d, cmdV b e] m n) m n (.bool (overB a b)) := by
  refine pure_spec hE rfl rfl ?_
  simp only [ac25, cmdV]
  simp (implicitDefEqProofs := false) (disch := omega) only [WPs, opds, List.all_cons, List.all_nil, List.cons_append, List.nil_append, cond_true, cond_false, eq_self, List.map_cons, List.map_nil, Nat.reduceAdd, Nat.testBit, Nat.reduceShiftRight, Nat.reduceAnd, Nat.reduceBNe, Nat.reduceMul, hd.one, he.one]
  refine use_pure (hV.v29 _ _ a d hF (hd.frame (by omega) fun b hb => by simp (implicitDefEqProofs := false) (disch := omega) only [WPs, opds, List.all_cons, List.all_nil, List.cons_append, List.nil_append, cond_true, cond_false, eq_self, List.map_cons, List.map_nil, Nat.reduceAdd, Nat.testBit, Nat.reduceShiftRight, Nat.reduceAnd, Nat.reduceBNe, Nat.reduceMul])) fun r1 => ?_
  by_cases va : ValidP a
  case neg =>
    rw [overB_f fun h => va h.1]
    simp (implicitDefEqProofs := false) (disch := omega) only [WPs, opds, List.all_cons, List.all_nil, List.cons_append, List.nil_append, cond_true, cond_false, eq_self, List.map_cons, List.map_nil, Nat.reduceAdd, Nat.testBit, Nat.reduceShiftRight, Nat.reduceAnd, Nat.reduceBNe, Nat.reduceMul, validB_f va, Bool.not_false, hd.one, he.one]
  simp (implicitDefEqProofs := false) (disch := omega) only [WPs, opds, List.all_cons, List.all_nil, List.cons_append, List.nil_append, cond_true, cond_false, eq_self, List.map_cons, List.map_nil, Nat.reduceAdd, Nat.testBit, Nat.reduceShiftRight, Nat.reduceAnd, Nat.reduceBNe, Nat.reduceMul, validB_t va, Bool.not_true, hd.one, he.one]
  refine use_pure (hV.v29 _ _ b e hG (he.frame (by omega) fun b hb => by simp (implicitDefEqProofs := false) (disch := omega) only [WPs, opds, List.all_cons, List.all_nil, List.cons_append, List.nil_append, cond_true, cond_false, eq_self, List.map_cons, List.map_nil, Nat.reduceAdd, Nat.testBit, Nat.reduceShiftRight, Nat.reduceAnd, Nat.reduceBNe, Nat.reduceMul])) fun r2 => ?_
  by_cases vb : ValidP b
  case neg =>
    rw [overB_f fun h => vb h.2.1]
    simp (implicitDefEqProofs := false) (disch := omega) only [WPs, opds, List.all_cons, List.all_nil, List.cons_append, List.nil_append, cond_true, cond_false, eq_self, List.map_cons, List.map_nil, Nat.reduceAdd, Nat.testBit, Nat.reduceShiftRight, Nat.reduceAnd, Nat.reduceBNe, Nat.reduceMul, validB_f vb, Bool.not_false, hd.one, he.one]
  have shr : 5 ≤ a.kind ∨ 5 ≤ b.kind → overB a b = sharesB a b := fun h => by
    by_cases hs : SharesP a b
    · rw [sharesB_t hs, overB_t ⟨va, vb, .inl ⟨h, hs⟩⟩]
    · rw [sharesB_f hs, overB_f fun ho => by
        rcases ho.2.2 with h1 | h1
        · exact hs h1.2
        · have := h1.1; have := h1.2.1; omega]
  by_cases k1 : 5 ≤ a.kind
  · rw [shr (.inl k1)]
    simp (implicitDefEqProofs := false) (disch := omega) only [WPs, opds, List.all_cons, List.all_nil, List.cons_append, List.nil_append, cond_true, cond_false, eq_self, List.map_cons, List.map_nil, Nat.reduceAdd, Nat.testBit, Nat.reduceShiftRight, Nat.reduceAnd, Nat.reduceBNe, Nat.reduceMul, validB_t vb, Bool.not_true, hd.one, he.one]
    refine use_pure (shares_spec h30 _ _ a b d e hd.one he.one) fun r3 => ?_
    simp (implicitDefEqProofs := false) (disch := omega) only [WPs, opds, List.all_cons, List.all_nil, List.cons_append, List.nil_append, cond_true, cond_false, eq_self, List.map_cons, List.map_nil, Nat.reduceAdd, Nat.testBit, Nat.reduceShiftRight, Nat.reduceAnd, Nat.reduceBNe, Nat.reduceMul]
  by_cases k2 : 5 ≤ b.kind
  · rw [shr (.inr k2)]
    simp (implicitDefEqProofs := false) (disch := omega) only [WPs, opds, List.all_cons, List.all_nil, List.cons_append, List.nil_append, cond_true, cond_false, eq_self, List.map_cons, List.map_nil, Nat.reduceAdd, Nat.testBit, Nat.reduceShiftRight, Nat.reduceAnd, Nat.reduceBNe, Nat.reduceMul, validB_t vb, Bool.not_true, hd.one, he.one]
    refine use_pure (shares_spec h30 _ _ a b d e hd.one he.one) fun r3 => ?_
    simp (implicitDefEqProofs := false) (disch := omega) only [WPs, opds, List.all_cons, List.all_nil, List.cons_append, List.nil_append, cond_true, cond_false, eq_self, List.map_cons, List.map_nil, Nat.reduceAdd, Nat.testBit, Nat.reduceShiftRight, Nat.reduceAnd, Nat.reduceBNe, Nat.reduceMul]
  simp (implicitDefEqProofs := false) (disch := omega) only [WPs, opds, List.all_cons, List.all_nil, List.cons_append, List.nil_append, cond_true, cond_false, eq_self, List.map_cons, List.map_nil, Nat.reduceAdd, Nat.testBit, Nat.reduceShiftRight, Nat.reduceAnd, Nat.reduceBNe, Nat.reduceMul, validB_t vb, Bool.not_true, hd.one, he.one]
  by_cases ra : a.kind ≤ 3
  case neg =>
    rw [overB_f fun h => by
      rcases h.2.2 with h1 | h1
      · omega
      · have := h1.1; omega]
    refine use_pure (range_out h31 hV _ _ a d hF (hd.frame (by omega) fun b hb => by simp (implicitDefEqProofs := false) (disch := omega) only [WPs, opds, List.all_cons, List.all_nil, List.cons_append, List.nil_append, cond_true, cond_false, eq_self, List.map_cons, List.map_nil, Nat.reduceAdd, Nat.testBit, Nat.reduceShiftRight, Nat.reduceAnd, Nat.reduceBNe, Nat.reduceMul]) fun h => ra h.2) fun r3 => ?_
    simp (implicitDefEqProofs := false) (disch := omega) only [WPs, opds, List.all_cons, List.all_nil, List.cons_append, List.nil_append, cond_true, cond_false, eq_self, List.map_cons, List.map_nil, Nat.reduceAdd, Nat.testBit, Nat.reduceShiftRight, Nat.reduceAnd, Nat.reduceBNe, Nat.reduceMul, x4_0, x4_1, x4_2, x4_3, hd.one, he.one]
    by_cases rb : b.kind ≤ 3
    · refine use_pure (range_in h31 hV _ _ b e hG (he.frame (by omega) fun b hb => by simp (implicitDefEqProofs := false) (disch := omega) only [WPs, opds, List.all_cons, List.all_nil, List.cons_append, List.nil_append, cond_true, cond_false, eq_self, List.map_cons, List.map_nil, Nat.reduceAdd, Nat.testBit, Nat.reduceShiftRight, Nat.reduceAnd, Nat.reduceBNe, Nat.reduceMul]) ⟨vb, rb⟩) fun r4 => ?_
      simp (implicitDefEqProofs := false) (disch := omega) only [WPs, opds, List.all_cons, List.all_nil, List.cons_append, List.nil_append, cond_true, cond_false, eq_self, List.map_cons, List.map_nil, Nat.reduceAdd, Nat.testBit, Nat.reduceShiftRight, Nat.reduceAnd, Nat.reduceBNe, Nat.reduceMul, x4_0, x4_1, x4_2, x4_3, hd.one, he.one]
    · refine use_pure (range_out h31 hV _ _ b e hG (he.frame (by omega) fun b hb => by simp (implicitDefEqProofs := false) (disch := omega) only [WPs, opds, List.all_cons, List.all_nil, List.cons_append, List.nil_append, cond_true, cond_false, eq_self, List.map_cons, List.map_nil, Nat.reduceAdd, Nat.testBit, Nat.reduceShiftRight, Nat.reduceAnd, Nat.reduceBNe, Nat.reduceMul]) fun h => rb h.2) fun r4 => ?_
      simp (implicitDefEqProofs := false) (disch := omega) only [WPs, opds, List.all_cons, List.all_nil, List.cons_append, List.nil_append, cond_true, cond_false, eq_self, List.map_cons, List.map_nil, Nat.reduceAdd, Nat.testBit, Nat.reduceShiftRight, Nat.reduceAnd, Nat.reduceBNe, Nat.reduceMul, x4_0, x4_1, x4_2, x4_3, hd.one, he.one]
  refine use_pure (range_in h31 hV _ _ a d hF (hd.frame (by omega) fun b hb => by simp (implicitDefEqProofs := false) (disch := omega) only [WPs, opds, List.all_cons, List.all_nil, List.cons_append, List.nil_append, cond_true, cond_false, eq_self, List.map_cons, List.map_nil, Nat.reduceAdd, Nat.testBit, Nat.reduceShiftRight, Nat.reduceAnd, Nat.reduceBNe, Nat.reduceMul]) ⟨va, ra⟩) fun r3 => ?_
  simp (implicitDefEqProofs := false) (disch := omega) only [WPs, opds, List.all_cons, List.all_nil, List.cons_append, List.nil_append, cond_true, cond_false, eq_self, List.map_cons, List.map_nil, Nat.reduceAdd, Nat.testBit, Nat.reduceShiftRight, Nat.reduceAnd, Nat.reduceBNe, Nat.reduceMul, x4_0, x4_1, x4_2, x4_3, hd.one, he.one]
  by_cases rb : b.kind ≤ 3
  case neg =>
    rw [overB_f fun h => by
      rcases h.2.2 with h1 | h1
      · omega
      · have := h1.2.1; omega]
    refine use_pure (range_out h31 hV _ _ b e hG (he.frame (by omega) fun b hb => by simp (implicitDefEqProofs := false) (disch := omega) only [WPs, opds, List.all_cons, List.all_nil, List.cons_append, List.nil_append, cond_true, cond_false, eq_self, List.map_cons, List.map_nil, Nat.reduceAdd, Nat.testBit, Nat.reduceShiftRight, Nat.reduceAnd, Nat.reduceBNe, Nat.reduceMul]) fun h => rb h.2) fun r4 => ?_
    simp (implicitDefEqProofs := false) (disch := omega) only [WPs, opds, List.all_cons, List.all_nil, List.cons_append, List.nil_append, cond_true, cond_false, eq_self, List.map_cons, List.map_nil, Nat.reduceAdd, Nat.testBit, Nat.reduceShiftRight, Nat.reduceAnd, Nat.reduceBNe, Nat.reduceMul, x4_0, x4_1, x4_2, x4_3, hd.one, he.one]
  refine use_pure (range_in h31 hV _ _ b e hG (he.frame (by omega) fun b hb => by simp (implicitDefEqProofs := false) (disch := omega) only [WPs, opds, List.all_cons, List.all_nil, List.cons_append, List.nil_append, cond_true, cond_false, eq_self, List.map_cons, List.map_nil, Nat.reduceAdd, Nat.testBit, Nat.reduceShiftRight, Nat.reduceAnd, Nat.reduceBNe, Nat.reduceMul]) ⟨vb, rb⟩) fun r4 => ?_
  have sa := in_small ⟨va, ra⟩
  have sb := in_small ⟨vb, rb⟩
  have no : ¬ RangesP a b → overB a b = false := fun hn => overB_f fun h => by
    rcases h.2.2 with h1 | h1
    · omega
    · exact hn h1.2.2
  by_cases c1 : a.vol = b.vol
  case neg =>
    rw [no fun h => c1 h.1]
    simp (implicitDefEqProofs := false) (disch := omega) only [WPs, opds, List.all_cons, List.all_nil, List.cons_append, List.nil_append, cond_true, cond_false, eq_self, List.map_cons, List.map_nil, Nat.reduceAdd, Nat.testBit, Nat.reduceShiftRight, Nat.reduceAnd, Nat.reduceBNe, Nat.reduceMul, x4_0, x4_1, x4_2, x4_3, hd.one, he.one, STs, decide_eq_false c1]
  by_cases c2 : a.at_ < b.at_ + b.len
  case neg =>
    rw [no fun h => c2 h.2.1]
    simp (implicitDefEqProofs := false) (disch := omega) only [WPs, opds, List.all_cons, List.all_nil, List.cons_append, List.nil_append, cond_true, cond_false, eq_self, List.map_cons, List.map_nil, Nat.reduceAdd, Nat.testBit, Nat.reduceShiftRight, Nat.reduceAnd, Nat.reduceBNe, Nat.reduceMul, x4_0, x4_1, x4_2, x4_3, hd.one, he.one, STs, decide_eq_true c1]
  by_cases c3 : b.at_ < a.at_ + a.len
  case neg =>
    rw [no fun h => c3 h.2.2.1]
    simp (implicitDefEqProofs := false) (disch := omega) only [WPs, opds, List.all_cons, List.all_nil, List.cons_append, List.nil_append, cond_true, cond_false, eq_self, List.map_cons, List.map_nil, Nat.reduceAdd, Nat.testBit, Nat.reduceShiftRight, Nat.reduceAnd, Nat.reduceBNe, Nat.reduceMul, x4_0, x4_1, x4_2, x4_3, hd.one, he.one, STs, decide_eq_true c1]
  by_cases c4 : a.kind = 1
  case neg =>
    rw [overB_t ⟨va, vb, .inr ⟨ra, rb, c1, c2, c3, .inl c4⟩⟩]
    simp (implicitDefEqProofs := false) (disch := omega) only [WPs, opds, List.all_cons, List.all_nil, List.cons_append, List.nil_append, cond_true, cond_false, eq_self, List.map_cons, List.map_nil, Nat.reduceAdd, Nat.testBit, Nat.reduceShiftRight, Nat.reduceAnd, Nat.reduceBNe, Nat.reduceMul, x4_0, x4_1, x4_2, x4_3, hd.one, he.one, STs, decide_eq_true c1]
  by_cases c5 : b.kind = 1
  case neg =>
    rw [overB_t ⟨va, vb, .inr ⟨ra, rb, c1, c2, c3, .inr c5⟩⟩]
    simp (implicitDefEqProofs := false) (disch := omega) only [WPs, opds, List.all_cons, List.all_nil, List.cons_append, List.nil_append, cond_true, cond_false, eq_self, List.map_cons, List.map_nil, Nat.reduceAdd, Nat.testBit, Nat.reduceShiftRight, Nat.reduceAnd, Nat.reduceBNe, Nat.reduceMul, x4_0, x4_1, x4_2, x4_3, hd.one, he.one, STs, decide_eq_true c1]
  rw [no fun h => h.2.2.2.elim (fun h => h c4) fun h => h c5]
  simp (implicitDefEqProofs := false) (disch := omega) only [WPs, opds, List.all_cons, List.all_nil, List.cons_append, List.nil_append, cond_true, cond_false, eq_self, List.map_cons, List.map_nil, Nat.reduceAdd, Nat.testBit, Nat.reduceShiftRight, Nat.reduceAnd, Nat.reduceBNe, Nat.reduceMul, x4_0, x4_1, x4_2, x4_3, hd.one, he.one, STs, decide_eq_true c1]
end Go.Am.C40
namespace Go.Am.C40
open Go Go.Am
variable {E : Nat → Option AFn} {Y : Nat → List Value → FM → Nat → OR FM}
theorem refOverlap_spec (hE : E 26 = some ac26) (h33 : E 33 = some ac33) (h34 : E 34 = some ac34) (hV : Vals E Y) (m : FM) (n : Nat) (a b : Cmd) (d e : Value) (hF : a.Fit) (hG : b.Fit) (hd : DatV m n d a.data) (he : DatV m n e b.data) :
    Pure (callW PG E Y 26 [cmdV a d, cmdV b e] m n) m n (.bool (overB a b)) := by
  refine pure_spec hE rfl rfl ?_
  simp only [ac26, cmdV]
  simp (implicitDefEqProofs := false) (disch := omega) only [WPs, opds, List.all_cons, List.all_nil, List.cons_append, List.nil_append, cond_true, cond_false, eq_self, List.map_cons, List.map_nil, Nat.reduceAdd, Nat.testBit, Nat.reduceShiftRight, Nat.reduceAnd, Nat.reduceBNe, Nat.reduceMul, hd.one, he.one]
  refine use_pure (hV.v32 _ _ a d hF (hd.frame (by omega) fun b hb => by simp (implicitDefEqProofs := false) (disch := omega) only [WPs, opds, List.all_cons, List.all_nil, List.cons_append, List.nil_append, cond_true, cond_false, eq_self, List.map_cons, List.map_nil, Nat.reduceAdd, Nat.testBit, Nat.reduceShiftRight, Nat.reduceAnd, Nat.reduceBNe, Nat.reduceMul])) fun r1 => ?_
  by_cases va : ValidP a
  case neg =>
    rw [overB_f fun h => va h.1]
    simp (implicitDefEqProofs := false) (disch := omega) only [WPs, opds, List.all_cons, List.all_nil, List.cons_append, List.nil_append, cond_true, cond_false, eq_self, List.map_cons, List.map_nil, Nat.reduceAdd, Nat.testBit, Nat.reduceShiftRight, Nat.reduceAnd, Nat.reduceBNe, Nat.reduceMul, validB_f va, Bool.not_false, hd.one, he.one]
  simp (implicitDefEqProofs := false) (disch := omega) only [WPs, opds, List.all_cons, List.all_nil, List.cons_append, List.nil_append, cond_true, cond_false, eq_self, List.map_cons, List.map_nil, Nat.reduceAdd, Nat.testBit, Nat.reduceShiftRight, Nat.reduceAnd, Nat.reduceBNe, Nat.reduceMul, validB_t va, Bool.not_true, hd.one, he.one]
  refine use_pure (hV.v32 _ _ b e hG (he.frame (by omega) fun b hb => by simp (implicitDefEqProofs := false) (disch := omega) only [WPs, opds, List.all_cons, List.all_nil, List.cons_append, List.nil_append, cond_true, cond_false, eq_self, List.map_cons, List.map_nil, Nat.reduceAdd, Nat.testBit, Nat.reduceShiftRight, Nat.reduceAnd, Nat.reduceBNe, Nat.reduceMul])) fun r2 => ?_
  by_cases vb : ValidP b
  case neg =>
    rw [overB_f fun h => vb h.2.1]
    simp (implicitDefEqProofs := false) (disch := omega) only [WPs, opds, List.all_cons, List.all_nil, List.cons_append, List.nil_append, cond_true, cond_false, eq_self, List.map_cons, List.map_nil, Nat.reduceAdd, Nat.testBit, Nat.reduceShiftRight, Nat.reduceAnd, Nat.reduceBNe, Nat.reduceMul, validB_f vb, Bool.not_false, hd.one, he.one]
  simp (implicitDefEqProofs := false) (disch := omega) only [WPs, opds, List.all_cons, List.all_nil, List.cons_append, List.nil_append, cond_true, cond_false, eq_self, List.map_cons, List.map_nil, Nat.reduceAdd, Nat.testBit, Nat.reduceShiftRight, Nat.reduceAnd, Nat.reduceBNe, Nat.reduceMul, validB_t vb, Bool.not_true, hd.one, he.one]
  have hA : ∃ (v : ByteArray) (x y : Int), (a.kind ≤ 3 → v = a.vol ∧ x = a.at_ ∧ y = a.len) ∧ ∀ m n, DatV m n d a.data → Pure (callW PG E Y 33 [cmdV a d] m n) m n (.tuple #[.string v, .int .i64 x, .int .i64 y, .bool (decide (a.kind ≤ 3))]) := by
    by_cases ra : a.kind ≤ 3
    · rw [decide_eq_true ra]
      exact ⟨a.vol, a.at_, a.len, fun _ => ⟨rfl, rfl, rfl⟩, fun m n h => refRange_in h33 hV m n a d hF h ⟨va, ra⟩⟩
    · rw [decide_eq_false ra]
      exact ⟨⟨#[]⟩, 0, 0, fun h => absurd h ra, fun m n h => refRange_out h33 hV m n a d hF h fun h => ra h.2⟩
  have hB : ∃ (v : ByteArray) (x y : Int), (b.kind ≤ 3 → v = b.vol ∧ x = b.at_ ∧ y = b.len) ∧ ∀ m n, DatV m n e b.data → Pure (callW PG E Y 33 [cmdV b e] m n) m n (.tuple #[.string v, .int .i64 x, .int .i64 y, .bool (decide (b.kind ≤ 3))]) := by
    by_cases rb : b.kind ≤ 3
    · rw [decide_eq_true rb]
      exact ⟨b.vol, b.at_, b.len, fun _ => ⟨rfl, rfl, rfl⟩, fun m n h => refRange_in h33 hV m n b e hG h ⟨vb, rb⟩⟩
    · rw [decide_eq_false rb]
      exact ⟨⟨#[]⟩, 0, 0, fun h => absurd h rb, fun m n h => refRange_out h33 hV m n b e hG h fun h => rb h.2⟩
  obtain ⟨v, x, y, hv, hA⟩ := hA
  obtain ⟨v', x', y', hv', hB⟩ := hB
  refine use_pure (hA _ _ (hd.frame (by omega) fun b hb => by simp (implicitDefEqProofs := false) (disch := omega) only [WPs, opds, List.all_cons, List.all_nil, List.cons_append, List.nil_append, cond_true, cond_false, eq_self, List.map_cons, List.map_nil, Nat.reduceAdd, Nat.testBit, Nat.reduceShiftRight, Nat.reduceAnd, Nat.reduceBNe, Nat.reduceMul])) fun r3 => ?_
  simp (implicitDefEqProofs := false) (disch := omega) only [WPs, opds, List.all_cons, List.all_nil, List.cons_append, List.nil_append, cond_true, cond_false, eq_self, List.map_cons, List.map_nil, Nat.reduceAdd, Nat.testBit, Nat.reduceShiftRight, Nat.reduceAnd, Nat.reduceBNe, Nat.reduceMul, x4_0, x4_1, x4_2, x4_3, hd.one, he.one]
  refine use_pure (hB _ _ (he.frame (by omega) fun b hb => by simp (implicitDefEqProofs := false) (disch := omega) only [WPs, opds, List.all_cons, List.all_nil, List.cons_append, List.nil_append, cond_true, cond_false, eq_self, List.map_cons, List.map_nil, Nat.reduceAdd, Nat.testBit, Nat.reduceShiftRight, Nat.reduceAnd, Nat.reduceBNe, Nat.reduceMul])) fun r4 => ?_
  by_cases hab : a.kind ≤ 3 ∧ b.kind ≤ 3
  · obtain ⟨ra, rb⟩ := hab
    obtain ⟨rfl, rfl, rfl⟩ := hv ra
    obtain ⟨rfl, rfl, rfl⟩ := hv' rb
    have sa := in_small ⟨va, ra⟩
    have sb := in_small ⟨vb, rb⟩
    have no : ¬ RangesP a b → overB a b = false := fun hn => overB_f fun h => by
      rcases h.2.2 with h1 | h1
      · omega
      · exact hn h1.2.2
    by_cases c1 : a.vol = b.vol
    case neg =>
      rw [no fun h => c1 h.1]
      simp (implicitDefEqProofs := false) (disch := omega) only [WPs, opds, List.all_cons, List.all_nil, List.cons_append, List.nil_append, cond_true, cond_false, eq_self, List.map_cons, List.map_nil, Nat.reduceAdd, Nat.testBit, Nat.reduceShiftRight, Nat.reduceAnd, Nat.reduceBNe, Nat.reduceMul, x4_0, x4_1, x4_2, x4_3, hd.one, he.one, STs, decide_eq_false c1]
    by_cases c2 : a.at_ < b.at_ + b.len
    case neg =>
      rw [no fun h => c2 h.2.1]
      simp (implicitDefEqProofs := false) (disch := omega) only [WPs, opds, List.all_cons, List.all_nil, List.cons_append, List.nil_append, cond_true, cond_false, eq_self, List.map_cons, List.map_nil, Nat.reduceAdd, Nat.testBit, Nat.reduceShiftRight, Nat.reduceAnd, Nat.reduceBNe, Nat.reduceMul, x4_0, x4_1, x4_2, x4_3, hd.one, he.one, STs, decide_eq_true c1]
    by_cases c3 : b.at_ < a.at_ + a.len
    case neg =>
      rw [no fun h => c3 h.2.2.1]
      simp (implicitDefEqProofs := false) (disch := omega) only [WPs, opds, List.all_cons, List.all_nil, List.cons_append, List.nil_append, cond_true, cond_false, eq_self, List.map_cons, List.map_nil, Nat.reduceAdd, Nat.testBit, Nat.reduceShiftRight, Nat.reduceAnd, Nat.reduceBNe, Nat.reduceMul, x4_0, x4_1, x4_2, x4_3, hd.one, he.one, STs, decide_eq_true c1]
    by_cases c4 : a.kind = 1
    case neg =>
      rw [overB_t ⟨va, vb, .inr ⟨ra, rb, c1, c2, c3, .inl c4⟩⟩]
      simp (implicitDefEqProofs := false) (disch := omega) only [WPs, opds, List.all_cons, List.all_nil, List.cons_append, List.nil_append, cond_true, cond_false, eq_self, List.map_cons, List.map_nil, Nat.reduceAdd, Nat.testBit, Nat.reduceShiftRight, Nat.reduceAnd, Nat.reduceBNe, Nat.reduceMul, x4_0, x4_1, x4_2, x4_3, hd.one, he.one, STs, decide_eq_true c1]
    by_cases c5 : b.kind = 1
    case neg =>
      rw [overB_t ⟨va, vb, .inr ⟨ra, rb, c1, c2, c3, .inr c5⟩⟩]
      simp (implicitDefEqProofs := false) (disch := omega) only [WPs, opds, List.all_cons, List.all_nil, List.cons_append, List.nil_append, cond_true, cond_false, eq_self, List.map_cons, List.map_nil, Nat.reduceAdd, Nat.testBit, Nat.reduceShiftRight, Nat.reduceAnd, Nat.reduceBNe, Nat.reduceMul, x4_0, x4_1, x4_2, x4_3, hd.one, he.one, STs, decide_eq_true c1]
    rw [no fun h => h.2.2.2.elim (fun h => h c4) fun h => h c5]
    simp (implicitDefEqProofs := false) (disch := omega) only [WPs, opds, List.all_cons, List.all_nil, List.cons_append, List.nil_append, cond_true, cond_false, eq_self, List.map_cons, List.map_nil, Nat.reduceAdd, Nat.testBit, Nat.reduceShiftRight, Nat.reduceAnd, Nat.reduceBNe, Nat.reduceMul, x4_0, x4_1, x4_2, x4_3, hd.one, he.one, STs, decide_eq_true c1]
  · by_cases k5 : a.kind < 5 ∧ b.kind < 5
    · rw [overB_f fun h => by
        rcases h.2.2 with h1 | h1
        · omega
        · exact hab ⟨h1.1, h1.2.1⟩]
      by_cases ra : a.kind ≤ 3
      · have rb : ¬ b.kind ≤ 3 := fun h => hab ⟨ra, h⟩
        simp (implicitDefEqProofs := false) (disch := omega) only [WPs, opds, List.all_cons, List.all_nil, List.cons_append, List.nil_append, cond_true, cond_false, eq_self, List.map_cons, List.map_nil, Nat.reduceAdd, Nat.testBit, Nat.reduceShiftRight, Nat.reduceAnd, Nat.reduceBNe, Nat.reduceMul, x4_0, x4_1, x4_2, x4_3, hd.one, he.one, STs]
      · simp (implicitDefEqProofs := false) (disch := omega) only [WPs, opds, List.all_cons, List.all_nil, List.cons_append, List.nil_append, cond_true, cond_false, eq_self, List.map_cons, List.map_nil, Nat.reduceAdd, Nat.testBit, Nat.reduceShiftRight, Nat.reduceAnd, Nat.reduceBNe, Nat.reduceMul, x4_0, x4_1, x4_2, x4_3, hd.one, he.one, STs]
    · have shr : overB a b = (namesB a b.vol || namesB a b.oth) := by
        by_cases h1 : NamesP a b.vol
        · rw [namesB_t h1, overB_t ⟨va, vb, .inl ⟨by omega, (shares_names a b).2 (.inl h1)⟩⟩, Bool.true_or]
        · by_cases h2 : NamesP a b.oth
          · rw [namesB_t h2, overB_t ⟨va, vb, .inl ⟨by omega, (shares_names a b).2 (.inr h2)⟩⟩, Bool.or_true]
          · rw [namesB_f h1, namesB_f h2, overB_f fun h => by
              rcases h.2.2 with h3 | h3
              · exact ((shares_names a b).1 h3.2).elim h1 h2
              · exact hab ⟨h3.1, h3.2.1⟩]
            rfl
      rw [shr]
      by_cases ra : a.kind ≤ 3
      · have rb : ¬ b.kind ≤ 3 := fun h => hab ⟨ra, h⟩
        simp (implicitDefEqProofs := false) (disch := omega) only [WPs, opds, List.all_cons, List.all_nil, List.cons_append, List.nil_append, cond_true, cond_false, eq_self, List.map_cons, List.map_nil, Nat.reduceAdd, Nat.testBit, Nat.reduceShiftRight, Nat.reduceAnd, Nat.reduceBNe, Nat.reduceMul, x4_0, x4_1, x4_2, x4_3, hd.one, he.one, STs]
        refine use_pure (names_spec h34 _ _ a d hd.one _) fun r5 => ?_
        cases namesB a b.vol
        · simp (implicitDefEqProofs := false) (disch := omega) only [WPs, opds, List.all_cons, List.all_nil, List.cons_append, List.nil_append, cond_true, cond_false, eq_self, List.map_cons, List.map_nil, Nat.reduceAdd, Nat.testBit, Nat.reduceShiftRight, Nat.reduceAnd, Nat.reduceBNe, Nat.reduceMul, hd.one, he.one]
          refine use_pure (names_spec h34 _ _ a d hd.one _) fun r6 => ?_
          simp (implicitDefEqProofs := false) (disch := omega) only [WPs, opds, List.all_cons, List.all_nil, List.cons_append, List.nil_append, cond_true, cond_false, eq_self, List.map_cons, List.map_nil, Nat.reduceAdd, Nat.testBit, Nat.reduceShiftRight, Nat.reduceAnd, Nat.reduceBNe, Nat.reduceMul, Bool.false_or]
        · simp (implicitDefEqProofs := false) (disch := omega) only [WPs, opds, List.all_cons, List.all_nil, List.cons_append, List.nil_append, cond_true, cond_false, eq_self, List.map_cons, List.map_nil, Nat.reduceAdd, Nat.testBit, Nat.reduceShiftRight, Nat.reduceAnd, Nat.reduceBNe, Nat.reduceMul, hd.one, he.one, Bool.true_or]
      · by_cases k6 : a.kind < 5
        · simp (implicitDefEqProofs := false) (disch := omega) only [WPs, opds, List.all_cons, List.all_nil, List.cons_append, List.nil_append, cond_true, cond_false, eq_self, List.map_cons, List.map_nil, Nat.reduceAdd, Nat.testBit, Nat.reduceShiftRight, Nat.reduceAnd, Nat.reduceBNe, Nat.reduceMul, x4_0, x4_1, x4_2, x4_3, hd.one, he.one, STs]
          refine use_pure (names_spec h34 _ _ a d hd.one _) fun r5 => ?_
          cases namesB a b.vol
          · simp (implicitDefEqProofs := false) (disch := omega) only [WPs, opds, List.all_cons, List.all_nil, List.cons_append, List.nil_append, cond_true, cond_false, eq_self, List.map_cons, List.map_nil, Nat.reduceAdd, Nat.testBit, Nat.reduceShiftRight, Nat.reduceAnd, Nat.reduceBNe, Nat.reduceMul, hd.one, he.one]
            refine use_pure (names_spec h34 _ _ a d hd.one _) fun r6 => ?_
            simp (implicitDefEqProofs := false) (disch := omega) only [WPs, opds, List.all_cons, List.all_nil, List.cons_append, List.nil_append, cond_true, cond_false, eq_self, List.map_cons, List.map_nil, Nat.reduceAdd, Nat.testBit, Nat.reduceShiftRight, Nat.reduceAnd, Nat.reduceBNe, Nat.reduceMul, Bool.false_or]
          · simp (implicitDefEqProofs := false) (disch := omega) only [WPs, opds, List.all_cons, List.all_nil, List.cons_append, List.nil_append, cond_true, cond_false, eq_self, List.map_cons, List.map_nil, Nat.reduceAdd, Nat.testBit, Nat.reduceShiftRight, Nat.reduceAnd, Nat.reduceBNe, Nat.reduceMul, hd.one, he.one, Bool.true_or]
        · simp (implicitDefEqProofs := false) (disch := omega) only [WPs, opds, List.all_cons, List.all_nil, List.cons_append, List.nil_append, cond_true, cond_false, eq_self, List.map_cons, List.map_nil, Nat.reduceAdd, Nat.testBit, Nat.reduceShiftRight, Nat.reduceAnd, Nat.reduceBNe, Nat.reduceMul, x4_0, x4_1, x4_2, x4_3, hd.one, he.one, STs]
          refine use_pure (names_spec h34 _ _ a d hd.one _) fun r5 => ?_
          cases namesB a b.vol
          · simp (implicitDefEqProofs := false) (disch := omega) only [WPs, opds, List.all_cons, List.all_nil, List.cons_append, List.nil_append, cond_true, cond_false, eq_self, List.map_cons, List.map_nil, Nat.reduceAdd, Nat.testBit, Nat.reduceShiftRight, Nat.reduceAnd, Nat.reduceBNe, Nat.reduceMul, hd.one, he.one]
            refine use_pure (names_spec h34 _ _ a d hd.one _) fun r6 => ?_
            simp (implicitDefEqProofs := false) (disch := omega) only [WPs, opds, List.all_cons, List.all_nil, List.cons_append, List.nil_append, cond_true, cond_false, eq_self, List.map_cons, List.map_nil, Nat.reduceAdd, Nat.testBit, Nat.reduceShiftRight, Nat.reduceAnd, Nat.reduceBNe, Nat.reduceMul, Bool.false_or]
          · simp (implicitDefEqProofs := false) (disch := omega) only [WPs, opds, List.all_cons, List.all_nil, List.cons_append, List.nil_append, cond_true, cond_false, eq_self, List.map_cons, List.map_nil, Nat.reduceAdd, Nat.testBit, Nat.reduceShiftRight, Nat.reduceAnd, Nat.reduceBNe, Nat.reduceMul, hd.one, he.one, Bool.true_or]
/-- a fence -/
def fenceB (c : Cmd) : Bool := decide (c.ord = 1 ∨ c.kind = 4)
noncomputable def befB (a b : Cmd) : Bool := fenceB a || (fenceB b || overB a b)
theorem fence_spec (hE : E 24 = some ac24) (m : FM) (n : Nat) (c : Cmd) (d : Value) (hd : one d = true) : Pure (callW PG E Y 24 [cmdV c d] m n) m n (.bool (fenceB c)) := by
  refine pure_spec hE rfl rfl ?_
  simp only [ac24, cmdV]
  by_cases h1 : c.ord = 1
  · rw [show fenceB c = true from decide_eq_true (.inl h1)]
    simp (implicitDefEqProofs := false) (disch := omega) only [WPs, opds, List.all_cons, List.all_nil, List.cons_append, List.nil_append, cond_true, cond_false, eq_self, List.map_cons, List.map_nil, Nat.reduceAdd, Nat.testBit, Nat.reduceShiftRight, Nat.reduceAnd, Nat.reduceBNe, Nat.reduceMul, hd]
  · rw [show fenceB c = decide (c.kind = 4) from decide_eq_decide.2 ⟨fun h => h.resolve_left h1, .inr⟩]
    simp (implicitDefEqProofs := false) (disch := omega) only [WPs, opds, List.all_cons, List.all_nil, List.cons_append, List.nil_append, cond_true, cond_false, eq_self, List.map_cons, List.map_nil, Nat.reduceAdd, Nat.testBit, Nat.reduceShiftRight, Nat.reduceAnd, Nat.reduceBNe, Nat.reduceMul, hd]
theorem Fence_spec (hE : E 22 = some ac22) (m : FM) (n : Nat) (c : Cmd) (d : Value) (hd : one d = true) : Pure (callW PG E Y 22 [cmdV c d] m n) m n (.bool (fenceB c)) := by
  refine pure_spec hE rfl rfl ?_
  simp only [ac22, cmdV]
  by_cases h1 : c.ord = 1
  · rw [show fenceB c = true from decide_eq_true (.inl h1)]
    simp (implicitDefEqProofs := false) (disch := omega) only [WPs, opds, List.all_cons, List.all_nil, List.cons_append, List.nil_append, cond_true, cond_false, eq_self, List.map_cons, List.map_nil, Nat.reduceAdd, Nat.testBit, Nat.reduceShiftRight, Nat.reduceAnd, Nat.reduceBNe, Nat.reduceMul, hd]
  · rw [show fenceB c = decide (c.kind = 4) from decide_eq_decide.2 ⟨fun h => h.resolve_left h1, .inr⟩]
    simp (implicitDefEqProofs := false) (disch := omega) only [WPs, opds, List.all_cons, List.all_nil, List.cons_append, List.nil_append, cond_true, cond_false, eq_self, List.map_cons, List.map_nil, Nat.reduceAdd, Nat.testBit, Nat.reduceShiftRight, Nat.reduceAnd, Nat.reduceBNe, Nat.reduceMul, hd]
theorem before_spec (hE : E 12 = some ac12) (h24 : E 24 = some ac24) (h25 : E 25 = some ac25) (h30 : E 30 = some ac30) (h31 : E 31 = some ac31) (hV : Vals E Y) (m : FM) (n : Nat) (a b : Cmd) (d e : Value) (hF : a.Fit) (hG : b.Fit) (hd : DatV m n d a.data) (he : DatV m n e b.data) :
    Pure (callW PG E Y 12 [cmdV a d, cmdV b e] m n) m n (.bool (befB a b)) := by
  refine pure_spec hE rfl rfl ?_
  simp only [ac12, cmdV]
  simp (implicitDefEqProofs := false) (disch := omega) only [WPs, opds, List.all_cons, List.all_nil, List.cons_append, List.nil_append, cond_true, cond_false, eq_self, List.map_cons, List.map_nil, Nat.reduceAdd, Nat.testBit, Nat.reduceShiftRight, Nat.reduceAnd, Nat.reduceBNe, Nat.reduceMul, hd.one, he.one]
  refine use_pure (fence_spec h24 _ _ a d hd.one) fun r1 => ?_
  unfold befB
  cases fenceB a
  · simp (implicitDefEqProofs := false) (disch := omega) only [WPs, opds, List.all_cons, List.all_nil, List.cons_append, List.nil_append, cond_true, cond_false, eq_self, List.map_cons, List.map_nil, Nat.reduceAdd, Nat.testBit, Nat.reduceShiftRight, Nat.reduceAnd, Nat.reduceBNe, Nat.reduceMul, hd.one, he.one]
    refine use_pure (fence_spec h24 _ _ b e he.one) fun r2 => ?_
    cases fenceB b
    · simp (implicitDefEqProofs := false) (disch := omega) only [WPs, opds, List.all_cons, List.all_nil, List.cons_append, List.nil_append, cond_true, cond_false, eq_self, List.map_cons, List.map_nil, Nat.reduceAdd, Nat.testBit, Nat.reduceShiftRight, Nat.reduceAnd, Nat.reduceBNe, Nat.reduceMul, hd.one, he.one]
      refine use_pure (overlap_spec h25 h30 h31 hV _ _ a b d e hF hG (hd.frame (by omega) fun b hb => by simp (implicitDefEqProofs := false) (disch := omega) only [WPs, opds, List.all_cons, List.all_nil, List.cons_append, List.nil_append, cond_true, cond_false, eq_self, List.map_cons, List.map_nil, Nat.reduceAdd, Nat.testBit, Nat.reduceShiftRight, Nat.reduceAnd, Nat.reduceBNe, Nat.reduceMul]) (he.frame (by omega) fun b hb => by simp (implicitDefEqProofs := false) (disch := omega) only [WPs, opds, List.all_cons, List.all_nil, List.cons_append, List.nil_append, cond_true, cond_false, eq_self, List.map_cons, List.map_nil, Nat.reduceAdd, Nat.testBit, Nat.reduceShiftRight, Nat.reduceAnd, Nat.reduceBNe, Nat.reduceMul])) fun r3 => ?_
      simp (implicitDefEqProofs := false) (disch := omega) only [WPs, opds, List.all_cons, List.all_nil, List.cons_append, List.nil_append, cond_true, cond_false, eq_self, List.map_cons, List.map_nil, Nat.reduceAdd, Nat.testBit, Nat.reduceShiftRight, Nat.reduceAnd, Nat.reduceBNe, Nat.reduceMul, Bool.false_or]
    · simp (implicitDefEqProofs := false) (disch := omega) only [WPs, opds, List.all_cons, List.all_nil, List.cons_append, List.nil_append, cond_true, cond_false, eq_self, List.map_cons, List.map_nil, Nat.reduceAdd, Nat.testBit, Nat.reduceShiftRight, Nat.reduceAnd, Nat.reduceBNe, Nat.reduceMul, hd.one, he.one, Bool.true_or, Bool.false_or]
  · simp (implicitDefEqProofs := false) (disch := omega) only [WPs, opds, List.all_cons, List.all_nil, List.cons_append, List.nil_append, cond_true, cond_false, eq_self, List.map_cons, List.map_nil, Nat.reduceAdd, Nat.testBit, Nat.reduceShiftRight, Nat.reduceAnd, Nat.reduceBNe, Nat.reduceMul, hd.one, he.one, Bool.true_or]
theorem refBefore_spec (hE : E 13 = some ac13) (h22 : E 22 = some ac22) (h26 : E 26 = some ac26) (h33 : E 33 = some ac33) (h34 : E 34 = some ac34) (hV : Vals E Y) (m : FM) (n : Nat) (a b : Cmd) (d e : Value) (hF : a.Fit) (hG : b.Fit) (hd : DatV m n d a.data) (he : DatV m n e b.data) :
    Pure (callW PG E Y 13 [cmdV a d, cmdV b e] m n) m n (.bool (befB a b)) := by
  refine pure_spec hE rfl rfl ?_
  simp only [ac13, cmdV]
  simp (implicitDefEqProofs := false) (disch := omega) only [WPs, opds, List.all_cons, List.all_nil, List.cons_append, List.nil_append, cond_true, cond_false, eq_self, List.map_cons, List.map_nil, Nat.reduceAdd, Nat.testBit, Nat.reduceShiftRight, Nat.reduceAnd, Nat.reduceBNe, Nat.reduceMul, hd.one, he.one]
  refine use_pure (Fence_spec h22 _ _ a d hd.one) fun r1 => ?_
  unfold befB
  cases fenceB a
  · simp (implicitDefEqProofs := false) (disch := omega) only [WPs, opds, List.all_cons, List.all_nil, List.cons_append, List.nil_append, cond_true, cond_false, eq_self, List.map_cons, List.map_nil, Nat.reduceAdd, Nat.testBit, Nat.reduceShiftRight, Nat.reduceAnd, Nat.reduceBNe, Nat.reduceMul, hd.one, he.one]
    refine use_pure (Fence_spec h22 _ _ b e he.one) fun r2 => ?_
    cases fenceB b
    · simp (implicitDefEqProofs := false) (disch := omega) only [WPs, opds, List.all_cons, List.all_nil, List.cons_append, List.nil_append, cond_true, cond_false, eq_self, List.map_cons, List.map_nil, Nat.reduceAdd, Nat.testBit, Nat.reduceShiftRight, Nat.reduceAnd, Nat.reduceBNe, Nat.reduceMul, hd.one, he.one]
      refine use_pure (refOverlap_spec h26 h33 h34 hV _ _ a b d e hF hG (hd.frame (by omega) fun b hb => by simp (implicitDefEqProofs := false) (disch := omega) only [WPs, opds, List.all_cons, List.all_nil, List.cons_append, List.nil_append, cond_true, cond_false, eq_self, List.map_cons, List.map_nil, Nat.reduceAdd, Nat.testBit, Nat.reduceShiftRight, Nat.reduceAnd, Nat.reduceBNe, Nat.reduceMul]) (he.frame (by omega) fun b hb => by simp (implicitDefEqProofs := false) (disch := omega) only [WPs, opds, List.all_cons, List.all_nil, List.cons_append, List.nil_append, cond_true, cond_false, eq_self, List.map_cons, List.map_nil, Nat.reduceAdd, Nat.testBit, Nat.reduceShiftRight, Nat.reduceAnd, Nat.reduceBNe, Nat.reduceMul])) fun r3 => ?_
      simp (implicitDefEqProofs := false) (disch := omega) only [WPs, opds, List.all_cons, List.all_nil, List.cons_append, List.nil_append, cond_true, cond_false, eq_self, List.map_cons, List.map_nil, Nat.reduceAdd, Nat.testBit, Nat.reduceShiftRight, Nat.reduceAnd, Nat.reduceBNe, Nat.reduceMul, Bool.false_or]
    · simp (implicitDefEqProofs := false) (disch := omega) only [WPs, opds, List.all_cons, List.all_nil, List.cons_append, List.nil_append, cond_true, cond_false, eq_self, List.map_cons, List.map_nil, Nat.reduceAdd, Nat.testBit, Nat.reduceShiftRight, Nat.reduceAnd, Nat.reduceBNe, Nat.reduceMul, hd.one, he.one, Bool.true_or, Bool.false_or]
  · simp (implicitDefEqProofs := false) (disch := omega) only [WPs, opds, List.all_cons, List.all_nil, List.cons_append, List.nil_append, cond_true, cond_false, eq_self, List.map_cons, List.map_nil, Nat.reduceAdd, Nat.testBit, Nat.reduceShiftRight, Nat.reduceAnd, Nat.reduceBNe, Nat.reduceMul, hd.one, he.one, Bool.true_or]
end Go.Am.C40
namespace Go.Am.C40
open Go Go.Am
variable {E : Nat → Option AFn} {Y : Nat → List Value → FM → Nat → OR FM}
theorem DatV.belF {m : FM} {n : Nat} {v : Value} {ds : List (List Int)} (h : DatV m n v ds) (k : Nat) (hk : n ≤ k) : belowF k v = true := by
  have hb := h.bel k hk
  obtain ⟨a, c, rfl, _⟩ := h
  exact hb
/-- both Before functions -/
structure Befs (E : Nat → Option AFn) (Y : Nat → List Value → FM → Nat → OR FM) : Prop where
  b12 : ∀ (m : FM) (n : Nat) (a b : Cmd) (d e : Value), a.Fit → b.Fit → DatV m n d a.data → DatV m n e b.data → Pure (callW PG E Y 12 [cmdV a d, cmdV b e] m n) m n (.bool (befB a b))
  b13 : ∀ (m : FM) (n : Nat) (a b : Cmd) (d e : Value), a.Fit → b.Fit → DatV m n d a.data → DatV m n e b.data → Pure (callW PG E Y 13 [cmdV a d, cmdV b e] m n) m n (.bool (befB a b))
theorem orderBefore_exec (hE : E 3 = some ac3) (hB : Befs E Y) (hA : ∀ m n, Pure (callW PG E Y 11 [] m n) m n (.bool true)) (m : FM) (n : Nat) (a b : Cmd) (d e : Value) (hF : a.Fit) (hG : b.Fit) (hd : DatV m n d a.data) (he : DatV m n e b.data) :
    Pure (callW PG E Y 3 [cmdV a d, cmdV b e] m n) m n (.bool true) := by
  refine pure_spec hE rfl rfl ?_
  simp only [ac3, cmdV]
  simp (implicitDefEqProofs := false) (disch := omega) only [WPs, opds, List.all_cons, List.all_nil, List.cons_append, List.nil_append, cond_true, cond_false, eq_self, List.map_cons, List.map_nil, Nat.reduceAdd, Nat.testBit, Nat.reduceShiftRight, Nat.reduceAnd, Nat.reduceBNe, Nat.reduceMul, hd.one, he.one]
  refine use_pure (hA _ _) fun r1 => ?_
  simp (implicitDefEqProofs := false) (disch := omega) only [WPs, opds, List.all_cons, List.all_nil, List.cons_append, List.nil_append, cond_true, cond_false, eq_self, List.map_cons, List.map_nil, Nat.reduceAdd, Nat.testBit, Nat.reduceShiftRight, Nat.reduceAnd, Nat.reduceBNe, Nat.reduceMul, hd.one, he.one, Bool.not_true, hd.len, he.len]
  by_cases c1 : 40 < a.data.length
  · simp (implicitDefEqProofs := false) (disch := omega) only [WPs, opds, List.all_cons, List.all_nil, List.cons_append, List.nil_append, cond_true, cond_false, eq_self, List.map_cons, List.map_nil, Nat.reduceAdd, Nat.testBit, Nat.reduceShiftRight, Nat.reduceAnd, Nat.reduceBNe, Nat.reduceMul, hd.one, he.one, Bool.not_true, hd.len, he.len]
  by_cases c2 : 40 < b.data.length
  · simp (implicitDefEqProofs := false) (disch := omega) only [WPs, opds, List.all_cons, List.all_nil, List.cons_append, List.nil_append, cond_true, cond_false, eq_self, List.map_cons, List.map_nil, Nat.reduceAdd, Nat.testBit, Nat.reduceShiftRight, Nat.reduceAnd, Nat.reduceBNe, Nat.reduceMul, hd.one, he.one, Bool.not_true, hd.len, he.len]
  simp (implicitDefEqProofs := false) (disch := omega) only [WPs, opds, List.all_cons, List.all_nil, List.cons_append, List.nil_append, cond_true, cond_false, eq_self, List.map_cons, List.map_nil, Nat.reduceAdd, Nat.testBit, Nat.reduceShiftRight, Nat.reduceAnd, Nat.reduceBNe, Nat.reduceMul, hd.one, he.one, Bool.not_true, hd.len, he.len]
  generalize decide ((200 : Int) < _) = q
  cases q
  case true => simp (implicitDefEqProofs := false) (disch := omega) only [WPs, opds, List.all_cons, List.all_nil, List.cons_append, List.nil_append, cond_true, cond_false, eq_self, List.map_cons, List.map_nil, Nat.reduceAdd, Nat.testBit, Nat.reduceShiftRight, Nat.reduceAnd, Nat.reduceBNe, Nat.reduceMul]
  simp (implicitDefEqProofs := false) (disch := omega) only [WPs, opds, List.all_cons, List.all_nil, List.cons_append, List.nil_append, cond_true, cond_false, eq_self, List.map_cons, List.map_nil, Nat.reduceAdd, Nat.testBit, Nat.reduceShiftRight, Nat.reduceAnd, Nat.reduceBNe, Nat.reduceMul, hd.one, he.one]
  have hd2 : ∀ {M : FM}, (∀ b, b < n → M b = m b) → DatV M (n + 2) d a.data := fun h => hd.frame (by omega) h
  have he2 : ∀ {M : FM}, (∀ b, b < n → M b = m b) → DatV M (n + 2) e b.data := fun h => he.frame (by omega) h
  simp (implicitDefEqProofs := false) (disch := omega) only [WPs, opds, List.all_cons, List.all_nil, List.cons_append, List.nil_append, cond_true, cond_false, eq_self, List.map_cons, List.map_nil, Nat.reduceAdd, Nat.testBit, Nat.reduceShiftRight, Nat.reduceAnd, Nat.reduceBNe, Nat.reduceMul, hd.belF, he.belF]
  refine use_pureX (hB.b12 _ _ a b d e hF hG (hd2 fun b hb => by simp (implicitDefEqProofs := false) (disch := omega) only [WPs, opds, List.all_cons, List.all_nil, List.cons_append, List.nil_append, cond_true, cond_false, eq_self, List.map_cons, List.map_nil, Nat.reduceAdd, Nat.testBit, Nat.reduceShiftRight, Nat.reduceAnd, Nat.reduceBNe, Nat.reduceMul]) (he2 fun b hb => by simp (implicitDefEqProofs := false) (disch := omega) only [WPs, opds, List.all_cons, List.all_nil, List.cons_append, List.nil_append, cond_true, cond_false, eq_self, List.map_cons, List.map_nil, Nat.reduceAdd, Nat.testBit, Nat.reduceShiftRight, Nat.reduceAnd, Nat.reduceBNe, Nat.reduceMul])) fun r2 => ?_
  simp (implicitDefEqProofs := false) (disch := omega) only [WPs, opds, List.all_cons, List.all_nil, List.cons_append, List.nil_append, cond_true, cond_false, eq_self, List.map_cons, List.map_nil, Nat.reduceAdd, Nat.testBit, Nat.reduceShiftRight, Nat.reduceAnd, Nat.reduceBNe, Nat.reduceMul, hd.one, he.one, hd.belF, he.belF]
  refine use_pureX (hB.b13 _ _ a b d e hF hG (hd2 fun b hb => by simp (implicitDefEqProofs := false) (disch := omega) only [WPs, opds, List.all_cons, List.all_nil, List.cons_append, List.nil_append, cond_true, cond_false, eq_self, List.map_cons, List.map_nil, Nat.reduceAdd, Nat.testBit, Nat.reduceShiftRight, Nat.reduceAnd, Nat.reduceBNe, Nat.reduceMul]) (he2 fun b hb => by simp (implicitDefEqProofs := false) (disch := omega) only [WPs, opds, List.all_cons, List.all_nil, List.cons_append, List.nil_append, cond_true, cond_false, eq_self, List.map_cons, List.map_nil, Nat.reduceAdd, Nat.testBit, Nat.reduceShiftRight, Nat.reduceAnd, Nat.reduceBNe, Nat.reduceMul])) fun r3 => ?_
  simp (implicitDefEqProofs := false) (disch := omega) only [WPs, opds, List.all_cons, List.all_nil, List.cons_append, List.nil_append, cond_true, cond_false, eq_self, List.map_cons, List.map_nil, Nat.reduceAdd, Nat.testBit, Nat.reduceShiftRight, Nat.reduceAnd, Nat.reduceBNe, Nat.reduceMul, hd.one, he.one, hd.belF, he.belF, eql_bools 4 t4, decide_eq_true (rfl : befB a b = befB a b)]
  refine use_pureX (hB.b12 _ _ b a e d hG hF (he2 fun b hb => by simp (implicitDefEqProofs := false) (disch := omega) only [WPs, opds, List.all_cons, List.all_nil, List.cons_append, List.nil_append, cond_true, cond_false, eq_self, List.map_cons, List.map_nil, Nat.reduceAdd, Nat.testBit, Nat.reduceShiftRight, Nat.reduceAnd, Nat.reduceBNe, Nat.reduceMul]) (hd2 fun b hb => by simp (implicitDefEqProofs := false) (disch := omega) only [WPs, opds, List.all_cons, List.all_nil, List.cons_append, List.nil_append, cond_true, cond_false, eq_self, List.map_cons, List.map_nil, Nat.reduceAdd, Nat.testBit, Nat.reduceShiftRight, Nat.reduceAnd, Nat.reduceBNe, Nat.reduceMul])) fun r4 => ?_
  simp (implicitDefEqProofs := false) (disch := omega) only [WPs, opds, List.all_cons, List.all_nil, List.cons_append, List.nil_append, cond_true, cond_false, eq_self, List.map_cons, List.map_nil, Nat.reduceAdd, Nat.testBit, Nat.reduceShiftRight, Nat.reduceAnd, Nat.reduceBNe, Nat.reduceMul, hd.one, he.one, hd.belF, he.belF]
  refine use_pureX (hB.b13 _ _ b a e d hG hF (he2 fun b hb => by simp (implicitDefEqProofs := false) (disch := omega) only [WPs, opds, List.all_cons, List.all_nil, List.cons_append, List.nil_append, cond_true, cond_false, eq_self, List.map_cons, List.map_nil, Nat.reduceAdd, Nat.testBit, Nat.reduceShiftRight, Nat.reduceAnd, Nat.reduceBNe, Nat.reduceMul]) (hd2 fun b hb => by simp (implicitDefEqProofs := false) (disch := omega) only [WPs, opds, List.all_cons, List.all_nil, List.cons_append, List.nil_append, cond_true, cond_false, eq_self, List.map_cons, List.map_nil, Nat.reduceAdd, Nat.testBit, Nat.reduceShiftRight, Nat.reduceAnd, Nat.reduceBNe, Nat.reduceMul])) fun r5 => ?_
  simp (implicitDefEqProofs := false) (disch := omega) only [WPs, opds, List.all_cons, List.all_nil, List.cons_append, List.nil_append, cond_true, cond_false, eq_self, List.map_cons, List.map_nil, Nat.reduceAdd, Nat.testBit, Nat.reduceShiftRight, Nat.reduceAnd, Nat.reduceBNe, Nat.reduceMul, hd.one, he.one, hd.belF, he.belF, eql_bools 4 t4, decide_eq_true (rfl : befB b a = befB b a)]
end Go.Am.C40
namespace Go.Am.C40
open Go Go.Am Go.Am.V
set_option maxRecDepth 1000000
noncomputable def tabB : List (Nat × AFn) := [(3, ac3), (4, ac4), (5, ac5), (6, ac6), (7, ac7), (8, ac8), (9, ac9), (10, ac10), (12, ac12), (13, ac13), (14, ac14), (15, ac15), (16, ac16), (17, ac17), (18, ac18), (19, ac19), (20, ac20), (21, ac21), (22, ac22), (23, ac23), (24, ac24), (25, ac25), (26, ac26), (27, ac27), (28, ac28), (29, ac29), (30, ac30), (31, ac31), (32, ac32), (33, ac33), (34, ac34), (35, ac35), (36, ac36), (37, ac37), (38, ac38), (39, ac39), (40, ac40), (41, ac41), (42, ac42), (43, ac43), (45, ac45), (46, ac46), (47, ac47), (48, ac48), (49, ac49)]
theorem tabB_good : Good Proofs.Tryd.prog tabB := (.cons Proofs.Tryd.func3 chk3 (.cons Proofs.Tryd.func4 chk4 (.cons Proofs.Tryd.func5 chk5 (.cons Proofs.Tryd.func6 chk6 (.cons Proofs.Tryd.func7 chk7 (.cons Proofs.Tryd.func8 chk8 (.cons Proofs.Tryd.func9 chk9 (.cons Proofs.Tryd.func10 chk10 (.cons Proofs.Tryd.func12 chk12 (.cons Proofs.Tryd.func13 chk13 (.cons Proofs.Tryd.func14 chk14 (.cons Proofs.Tryd.func15 chk15 (.cons Proofs.Tryd.func16 chk16 (.cons Proofs.Tryd.func17 chk17 (.cons Proofs.Tryd.func18 chk18 (.cons Proofs.Tryd.func19 chk19 (.cons Proofs.Tryd.func20 chk20 (.cons Proofs.Tryd.func21 chk21 (.cons Proofs.Tryd.func22 chk22 (.cons Proofs.Tryd.func23 chk23 (.cons Proofs.Tryd.func24 chk24 (.cons Proofs.Tryd.func25 chk25 (.cons Proofs.Tryd.func26 chk26 (.cons Proofs.Tryd.func27 chk27 (.cons Proofs.Tryd.func28 chk28 (.cons Proofs.Tryd.func29 chk29 (.cons Proofs.Tryd.func30 chk30 (.cons Proofs.Tryd.func31 chk31 (.cons Proofs.Tryd.func32 chk32 (.cons Proofs.Tryd.func33 chk33 (.cons Proofs.Tryd.func34 chk34 (.cons Proofs.Tryd.func35 chk35 (.cons Proofs.Tryd.func36 chk36 (.cons Proofs.Tryd.func37 chk37 (.cons Proofs.Tryd.func38 chk38 (.cons Proofs.Tryd.func39 chk39 (.cons Proofs.Tryd.func40 chk40 (.cons Proofs.Tryd.func41 chk41 (.cons Proofs.Tryd.func42 chk42 (.cons Proofs.Tryd.func43 chk43 (.cons Proofs.Tryd.func45 chk45 (.cons Proofs.Tryd.func46 chk46 (.cons Proofs.Tryd.func47 chk47 (.cons Proofs.Tryd.func48 chk48 (.cons Proofs.Tryd.func49 chk49 .nil)))))))))))))))))))))))))))))))))))))))))))))
def memL : List Memo := [m11, m44]
theorem envB : Env Proofs.Tryd.prog tabB (memosA memL Y0) (memosF memL Yf0) :=
  env0.addMemos tabB_good (by kernel_rfl) (fun f fn h args m n => rfl) (by
    intro M h
    rcases List.mem_cons.1 h with rfl | h
    · exact sim11
    · obtain rfl := List.mem_singleton.1 h
      exact sim44) (by
    intro M h
    rcases List.mem_cons.1 h with rfl | h
    · kernel_rfl
    · obtain rfl := List.mem_singleton.1 h
      kernel_rfl)
theorem memo_call {f : Nat} (h : look tabB f = none) (args : List Value) (m : FM) (n : Nat) : callW PG (look tabB) (memosA memL Y0) f args m n = memosA memL Y0 f args m n := by
  unfold callW callA
  rw [h]
theorem awake_pure (m : FM) (n : Nat) : Pure (callW PG (look tabB) (memosA memL Y0) 11 [] m n) m n (.bool true) := by
  rw [memo_call (by kernel_rfl)]
  have hm : memoA m11 11 [] m n = .ok (.bool true) m n 0 0 := by
    show OR.ok (.bool true) m n 0 (newW n 0) = _
    rw [show newW n 0 = 0 from Nat.zero_shiftLeft n]
  refine ⟨0, ?_⟩
  show altA (memoA m11) (altA (memoA m44) Y0) 11 [] m n = _
  unfold altA
  rw [hm]
theorem set_pure (m : FM) (n : Nat) : Pure (callW PG (look tabB) (memosA memL Y0) 44 [.string cutS] m n) m n (.tuple #[.agg setL.toArray, .bool true]) := by
  rw [memo_call (by kernel_rfl)]
  have h0 : veqL [Value.string cutS] [.string cutS] = true := by kernel_rfl
  have hm : memoA m44 44 [.string cutS] m n = .ok (.tuple #[.agg setL.toArray, .bool true]) m n 0 0 := by
    show cond (Nat.beq 44 44 && veqL [Value.string cutS] [.string cutS]) (OR.ok (.tuple #[.agg setL.toArray, .bool true]) m n 0 (newW n 0)) .no = _
    rw [h0, show newW n 0 = 0 from Nat.zero_shiftLeft n]; rfl
  refine ⟨0, ?_⟩
  show altA (memoA m11) (altA (memoA m44) Y0) 44 [.string cutS] m n = _
  unfold altA
  rw [show memoA m11 44 [.string cutS] m n = .no from rfl, hm]
theorem trimsB : Trims (look tabB) (memosA memL Y0) := ⟨by kernel_rfl, by kernel_rfl, by kernel_rfl, by kernel_rfl, set_pure⟩
theorem valsB : Vals (look tabB) (memosA memL Y0) where
  v29 := fun m n c d hF hc => cmdValid_spec (by kernel_rfl) (by kernel_rfl) trimsB (by kernel_rfl) (by kernel_rfl) (by kernel_rfl) m n c d hF hc
  v32 := fun m n c d hF hc => refValid_spec (by kernel_rfl) (by kernel_rfl) (by kernel_rfl) m n c d hF hc
theorem befsB : Befs (look tabB) (memosA memL Y0) where
  b12 := fun m n a b d e hF hG hd he => before_spec (by kernel_rfl) (by kernel_rfl) (by kernel_rfl) (by kernel_rfl) (by kernel_rfl) valsB m n a b d e hF hG hd he
  b13 := fun m n a b d e hF hG hd he => refBefore_spec (by kernel_rfl) (by kernel_rfl) (by kernel_rfl) (by kernel_rfl) (by kernel_rfl) valsB m n a b d e hF hG hd he
theorem orderBefore_pure (m : FM) (n : Nat) (a b : Cmd) (d e : Value) (hF : a.Fit) (hG : b.Fit) (hd : DatV m n d a.data) (he : DatV m n e b.data) :
    Pure (callW PG (look tabB) (memosA memL Y0) 3 [cmdV a d, cmdV b e] m n) m n (.bool true) := orderBefore_exec (by kernel_rfl) befsB awake_pure m n a b d e hF hG hd he
end Go.Am.C40
namespace Go.Am.C40
open Go Go.Am C40q
variable {E : Nat → Option AFn} {Y : Nat → List Value → FM → Nat → OR FM}
noncomputable def bfL (cs : List (Cmd × Value)) (k i : Nat) : Bool := befB (cmdAt cs k) (cmdAt cs i)
theorem Lst.frame {m m' : FM} {n n' : Nat} {lv : Value} {cs : List (Cmd × Value)} (h : Lst m n lv cs) (hn : n ≤ n') (hf : ∀ b, b < n → m' b = m b) : Lst m' n' lv cs := ⟨h.l.frame hn hf, h.len⟩
theorem Bef.frame {f : Nat} {m m' : FM} {n n' : Nat} {cs : List (Cmd × Value)} {bf : Nat → Nat → Bool} (h : Bef E Y f m n cs bf) (hn : n ≤ n') (hf : ∀ b, b < n → m' b = m b) : Bef E Y f m' n' cs bf :=
  fun M N i k hN hM hi hk => h M N i k (by omega) (fun b hb => (hM b (by omega)).trans (hf b hb)) hi hk
theorem bef12 (hB : Befs E Y) {m : FM} {n : Nat} {lv : Value} {cs : List (Cmd × Value)} (hl : CmdsV m n lv cs) : Bef E Y 12 m n cs (bfL cs) := fun M N i k hN hM hi hk => by
  obtain ⟨_, _, _, _, _, _, _, _, _, _, _, _, f1, d1⟩ := (hl.frame hN hM).at hi
  obtain ⟨_, _, _, _, _, _, _, _, _, _, _, _, f2, d2⟩ := (hl.frame hN hM).at hk
  exact hB.b12 M N (cmdAt cs i) (cmdAt cs k) (datAt cs i) (datAt cs k) f1 f2 d1 d2
theorem bef13 (hB : Befs E Y) {m : FM} {n : Nat} {lv : Value} {cs : List (Cmd × Value)} (hl : CmdsV m n lv cs) : Bef E Y 13 m n cs (bfL cs) := fun M N i k hN hM hi hk => by
  obtain ⟨_, _, _, _, _, _, _, _, _, _, _, _, f1, d1⟩ := (hl.frame hN hM).at hi
  obtain ⟨_, _, _, _, _, _, _, _, _, _, _, _, f2, d2⟩ := (hl.frame hN hM).at hk
  exact hB.b13 M N (cmdAt cs i) (cmdAt cs k) (datAt cs i) (datAt cs k) f1 f2 d1 d2
/-- the functions of the table that the laws use -/
structure Tb (E : Nat → Option AFn) (Y : Nat → List Value → FM → Nat → OR FM) : Prop where
  b : Befs E Y
  aw : ∀ m n, Pure (callW PG E Y 11 [] m n) m n (.bool true)
  e14 : E 14 = some ac14
  e15 : E 15 = some ac15
  e16 : E 16 = some ac16
  e17 : E 17 = some ac17
  e18 : E 18 = some ac18
  e19 : E 19 = some ac19
  e20 : E 20 = some ac20
  e21 : E 21 = some ac21
  e27 : E 27 = some ac27
  e28 : E 28 = some ac28
theorem fewB_len {cs : List (Cmd × Value)} (h : fewB cs = true) : cs.length ≤ 14 := by
  simp only [fewB, Bool.and_eq_true, decide_eq_true_eq] at h; exact h.2
theorem natsI_elig_len {bf : Nat → Nat → Bool} {n : Nat} {D : Nat → Bool} : (natsI (elig bf n D)).length ≤ n := by rw [natsI_len]; exact elig_len n D
theorem eligLaw (T : Tb E Y) (hE : E 4 = some ac4) (m : FM) (n : Nat) (lv dv : Value) (cs : List (Cmd × Value)) (dn : List Bool) (hl : CmdsV m n lv cs) (hs : cs.length ≤ 9223372036854775807) (hd : Sl m n dv (dn.map .bool)) (hds : dn.length ≤ 9223372036854775807) :
    Pure (callW PG E Y 4 [lv, dv] m n) m n (.bool true) := by
  refine pure_spec hE rfl rfl ?_
  have hlen := hd.len
  rw [List.length_map] at hlen
  simp only [ac4]
  simp (implicitDefEqProofs := false) (disch := omega) only [WPs, opds, List.all_cons, List.all_nil, List.cons_append, List.nil_append, cond_true, cond_false, eq_self, List.map_cons, List.map_nil, Nat.reduceAdd, Nat.testBit, Nat.reduceShiftRight, Nat.reduceAnd, Nat.reduceBNe, Nat.reduceMul]
  refine use_pure (T.aw _ _) fun r1 => ?_
  simp (implicitDefEqProofs := false) (disch := omega) only [WPs, opds, List.all_cons, List.all_nil, List.cons_append, List.nil_append, cond_true, cond_false, eq_self, List.map_cons, List.map_nil, Nat.reduceAdd, Nat.testBit, Nat.reduceShiftRight, Nat.reduceAnd, Nat.reduceBNe, Nat.reduceMul]
  refine use_pure (few_spec T.e14 _ _ lv cs hl hs) fun r2 => ?_
  cases hf : fewB cs
  · simp (implicitDefEqProofs := false) (disch := omega) only [WPs, opds, List.all_cons, List.all_nil, List.cons_append, List.nil_append, cond_true, cond_false, eq_self, List.map_cons, List.map_nil, Nat.reduceAdd, Nat.testBit, Nat.reduceShiftRight, Nat.reduceAnd, Nat.reduceBNe, Nat.reduceMul]
  by_cases h20 : 20 < dn.length
  · simp (implicitDefEqProofs := false) (disch := omega) only [WPs, opds, List.all_cons, List.all_nil, List.cons_append, List.nil_append, cond_true, cond_false, eq_self, List.map_cons, List.map_nil, Nat.reduceAdd, Nat.testBit, Nat.reduceShiftRight, Nat.reduceAnd, Nat.reduceBNe, Nat.reduceMul, hlen]
  have hL : Lst m n lv cs := ⟨hl, by have := fewB_len hf; omega⟩
  simp (implicitDefEqProofs := false) (disch := omega) only [WPs, opds, List.all_cons, List.all_nil, List.cons_append, List.nil_append, cond_true, cond_false, eq_self, List.map_cons, List.map_nil, Nat.reduceAdd, Nat.testBit, Nat.reduceShiftRight, Nat.reduceAnd, Nat.reduceBNe, Nat.reduceMul, hlen]
  refine use_rt (elig_spec T.e16 T.e27 m n lv dv cs dn hL hd hds (bfL cs) (bef12 T.b hl)) fun v1 m1 n1 r3 w3 ⟨a1, a2, a3, a4⟩ => ?_
  simp (implicitDefEqProofs := false) (disch := omega) only [WPs, opds, List.all_cons, List.all_nil, List.cons_append, List.nil_append, cond_true, cond_false, eq_self, List.map_cons, List.map_nil, Nat.reduceAdd, Nat.testBit, Nat.reduceShiftRight, Nat.reduceAnd, Nat.reduceBNe, Nat.reduceMul]
  refine use_rt (refElig_spec T.e17 T.e28 m1 n1 lv dv cs dn (hL.frame a1 a2) (hd.frame a1 a2) hds (bfL cs) ((bef13 T.b hl).frame a1 a2)) fun v2 m2 n2 r4 w4 ⟨c1, c2, c3, c4⟩ => ?_
  simp (implicitDefEqProofs := false) (disch := omega) only [WPs, opds, List.all_cons, List.all_nil, List.cons_append, List.nil_append, cond_true, cond_false, eq_self, List.map_cons, List.map_nil, Nat.reduceAdd, Nat.testBit, Nat.reduceShiftRight, Nat.reduceAnd, Nat.reduceBNe, Nat.reduceMul]
  refine use_pure (sameInts_spec T.e15 _ _ _ _ _ (a4.frame c1 c2) c4 (by have := natsI_elig_len (bf := bfL cs) (n := cs.length) (D := doneB dn); have := hL.len; omega)) fun r5 => ?_
  simp (implicitDefEqProofs := false) (disch := omega) only [WPs, opds, List.all_cons, List.all_nil, List.cons_append, List.nil_append, cond_true, cond_false, eq_self, List.map_cons, List.map_nil, Nat.reduceAdd, Nat.testBit, Nat.reduceShiftRight, Nat.reduceAnd, Nat.reduceBNe, Nat.reduceMul, a3, c3]
theorem respLaw (T : Tb E Y) (hE : E 5 = some ac5) (m : FM) (n : Nat) (lv ov : Value) (cs : List (Cmd × Value)) (o : List Int) (hl : CmdsV m n lv cs) (hs : cs.length ≤ 9223372036854775807) (ho : Ints m n ov o) (hos : o.length ≤ 9223372036854775807) :
    Pure (callW PG E Y 5 [lv, ov] m n) m n (.bool true) := by
  refine pure_spec hE rfl rfl ?_
  simp only [ac5]
  simp (implicitDefEqProofs := false) (disch := omega) only [WPs, opds, List.all_cons, List.all_nil, List.cons_append, List.nil_append, cond_true, cond_false, eq_self, List.map_cons, List.map_nil, Nat.reduceAdd, Nat.testBit, Nat.reduceShiftRight, Nat.reduceAnd, Nat.reduceBNe, Nat.reduceMul]
  refine use_pure (T.aw _ _) fun r1 => ?_
  simp (implicitDefEqProofs := false) (disch := omega) only [WPs, opds, List.all_cons, List.all_nil, List.cons_append, List.nil_append, cond_true, cond_false, eq_self, List.map_cons, List.map_nil, Nat.reduceAdd, Nat.testBit, Nat.reduceShiftRight, Nat.reduceAnd, Nat.reduceBNe, Nat.reduceMul]
  refine use_pure (few_spec T.e14 _ _ lv cs hl hs) fun r2 => ?_
  cases hf : fewB cs
  · simp (implicitDefEqProofs := false) (disch := omega) only [WPs, opds, List.all_cons, List.all_nil, List.cons_append, List.nil_append, cond_true, cond_false, eq_self, List.map_cons, List.map_nil, Nat.reduceAdd, Nat.testBit, Nat.reduceShiftRight, Nat.reduceAnd, Nat.reduceBNe, Nat.reduceMul]
  by_cases h20 : 20 < o.length
  · simp (implicitDefEqProofs := false) (disch := omega) only [WPs, opds, List.all_cons, List.all_nil, List.cons_append, List.nil_append, cond_true, cond_false, eq_self, List.map_cons, List.map_nil, Nat.reduceAdd, Nat.testBit, Nat.reduceShiftRight, Nat.reduceAnd, Nat.reduceBNe, Nat.reduceMul, ho.len]
  have hL : Lst m n lv cs := ⟨hl, by have := fewB_len hf; omega⟩
  simp (implicitDefEqProofs := false) (disch := omega) only [WPs, opds, List.all_cons, List.all_nil, List.cons_append, List.nil_append, cond_true, cond_false, eq_self, List.map_cons, List.map_nil, Nat.reduceAdd, Nat.testBit, Nat.reduceShiftRight, Nat.reduceAnd, Nat.reduceBNe, Nat.reduceMul, ho.len]
  refine use_pure (respects_spec T.e18 m n lv ov cs o hL ho hos (bfL cs) (bef12 T.b hl)) fun r3 => ?_
  simp (implicitDefEqProofs := false) (disch := omega) only [WPs, opds, List.all_cons, List.all_nil, List.cons_append, List.nil_append, cond_true, cond_false, eq_self, List.map_cons, List.map_nil, Nat.reduceAdd, Nat.testBit, Nat.reduceShiftRight, Nat.reduceAnd, Nat.reduceBNe, Nat.reduceMul]
  refine use_pure (refResp_spec T.e19 m n lv ov cs o hL ho (by omega) (bfL cs) (bef13 T.b hl)) fun r3 => ?_
  simp (implicitDefEqProofs := false) (disch := omega) only [WPs, opds, List.all_cons, List.all_nil, List.cons_append, List.nil_append, cond_true, cond_false, eq_self, List.map_cons, List.map_nil, Nat.reduceAdd, Nat.testBit, Nat.reduceShiftRight, Nat.reduceAnd, Nat.reduceBNe, Nat.reduceMul, eql_bools 4 t4, decide_eq_true (rfl : respects (bfL cs) cs.length o = respects (bfL cs) cs.length o)]
theorem levLaw (T : Tb E Y) (hE : E 6 = some ac6) (m : FM) (n : Nat) (lv : Value) (cs : List (Cmd × Value)) (hl : CmdsV m n lv cs) (hs : cs.length ≤ 9223372036854775807) :
    Pure (callW PG E Y 6 [lv] m n) m n (.bool true) := by
  refine pure_spec hE rfl rfl ?_
  simp only [ac6]
  simp (implicitDefEqProofs := false) (disch := omega) only [WPs, opds, List.all_cons, List.all_nil, List.cons_append, List.nil_append, cond_true, cond_false, eq_self, List.map_cons, List.map_nil, Nat.reduceAdd, Nat.testBit, Nat.reduceShiftRight, Nat.reduceAnd, Nat.reduceBNe, Nat.reduceMul]
  refine use_pure (T.aw _ _) fun r1 => ?_
  simp (implicitDefEqProofs := false) (disch := omega) only [WPs, opds, List.all_cons, List.all_nil, List.cons_append, List.nil_append, cond_true, cond_false, eq_self, List.map_cons, List.map_nil, Nat.reduceAdd, Nat.testBit, Nat.reduceShiftRight, Nat.reduceAnd, Nat.reduceBNe, Nat.reduceMul]
  refine use_pure (few_spec T.e14 _ _ lv cs hl hs) fun r2 => ?_
  cases hf : fewB cs
  · simp (implicitDefEqProofs := false) (disch := omega) only [WPs, opds, List.all_cons, List.all_nil, List.cons_append, List.nil_append, cond_true, cond_false, eq_self, List.map_cons, List.map_nil, Nat.reduceAdd, Nat.testBit, Nat.reduceShiftRight, Nat.reduceAnd, Nat.reduceBNe, Nat.reduceMul]
  have hL : Lst m n lv cs := ⟨hl, by have := fewB_len hf; omega⟩
  simp (implicitDefEqProofs := false) (disch := omega) only [WPs, opds, List.all_cons, List.all_nil, List.cons_append, List.nil_append, cond_true, cond_false, eq_self, List.map_cons, List.map_nil, Nat.reduceAdd, Nat.testBit, Nat.reduceShiftRight, Nat.reduceAnd, Nat.reduceBNe, Nat.reduceMul]
  refine use_rt (levels_spec T.e20 m n lv cs hL (bfL cs) (bef12 T.b hl)) fun v1 m1 n1 r3 w3 ⟨a1, a2, a3, a4⟩ => ?_
  simp (implicitDefEqProofs := false) (disch := omega) only [WPs, opds, List.all_cons, List.all_nil, List.cons_append, List.nil_append, cond_true, cond_false, eq_self, List.map_cons, List.map_nil, Nat.reduceAdd, Nat.testBit, Nat.reduceShiftRight, Nat.reduceAnd, Nat.reduceBNe, Nat.reduceMul]
  refine use_rt (refLevels_spec T.e21 m1 n1 lv cs (hL.frame a1 a2) (bfL cs) ((bef13 T.b hl).frame a1 a2)) fun v2 m2 n2 r4 w4 ⟨c1, c2, c3, c4⟩ => ?_
  simp (implicitDefEqProofs := false) (disch := omega) only [WPs, opds, List.all_cons, List.all_nil, List.cons_append, List.nil_append, cond_true, cond_false, eq_self, List.map_cons, List.map_nil, Nat.reduceAdd, Nat.testBit, Nat.reduceShiftRight, Nat.reduceAnd, Nat.reduceBNe, Nat.reduceMul]
  refine use_pure (sameInts_spec T.e15 _ _ _ _ _ (a4.frame c1 c2) c4 (by rw [natsI_len, tbl_len]; have := hL.len; omega)) fun r5 => ?_
  simp (implicitDefEqProofs := false) (disch := omega) only [WPs, opds, List.all_cons, List.all_nil, List.cons_append, List.nil_append, cond_true, cond_false, eq_self, List.map_cons, List.map_nil, Nat.reduceAdd, Nat.testBit, Nat.reduceShiftRight, Nat.reduceAnd, Nat.reduceBNe, Nat.reduceMul, a3, c3]
end Go.Am.C40
namespace Go.Am.C40
open Go Go.Am C40q
variable {E : Nat → Option AFn} {Y : Nat → List Value → FM → Nat → OR FM}
theorem doneB_tbl {L : Nat} (D : Nat → Bool) {i : Nat} (h : i < L) : doneB (tbl L D) i = D i := by
  rw [doneB, List.getD_eq_getElem?_getD, tbl_at _ h]; rfl
theorem elig_tbl (bf : Nat → Nat → Bool) (L : Nat) (D : Nat → Bool) : elig bf L (doneB (tbl L D)) = elig bf L D := elig_congr fun k hk => doneB_tbl D hk
/-- an element of a list of numbers -/
theorem natsI_cell {M : FM} {N : Nat} {v : Value} {l : List Nat} (h : Ints M N v (natsI l)) {i : Nat} (hi : i < l.length) : ∃ b o c opn wr, idxV 1 i v = some (.pointer (some ⟨b, o, none⟩)) ∧ b < N ∧ M b = some (.cells c 1 opn wr) ∧ cget c o = some (.int .i64 (l[i] : Nat)) := by
  obtain ⟨b, o, c, opn, wr, i1, i2, i3, i4⟩ := h.cell (i := i) (by rw [natsI_len]; exact hi)
  refine ⟨b, o, c, opn, wr, i1, i2, i3, ?_⟩
  rw [i4]; simp [natsI]
theorem conv_u8 {q : Nat} (h : q < 256) : convV .i64 (.int .u8 (q : Int)) = some (.int .i64 (q : Int)) := by
  show some (Value.int .i64 (wrapF .i64 (q : Int))) = _
  rw [show wrapF .i64 (q : Int) = (q : Int) from by rw [wrapF_eq]; exact wrap_i64 (by omega) (by omega)]
theorem runs_L0 (T : Tb E Y) (m : FM) (n : Nat) (lv sv : Value) (cs : List (Cmd × Value)) (sc : List Int) (hL : Lst m n lv cs) (h14 : cs.length ≤ 14) (hd : Sl m n sv (sc.map (.int .u8))) (hu : ∀ x ∈ sc, 0 ≤ x ∧ x < 256) (hds : sc.length ≤ 9223372036854775807) (cap : Nat)
    {Q : AX → List Value → FM → Nat → Nat → Prop}
    (hQ : ∀ M N w ov os D, n < N → (∀ b, b < n → M b = m b) → M n = some (.cells (doneT cs.length D) 1 false true) → IntZ M (n + 1) N ov os → Run (bfL cs) cs.length os D → os.length = cs.length → (∀ j, j ≤ n → Nat.mod w (bit j) = 0) → ∀ x0 x3 x4 x6 x7 x8, Q (.exit 0) [x0, ov, x3, x4, .slice (some ⟨n, 0, none⟩) cs.length cap, x6, x7, x8, lv, sv] M N w) :
    ∀ d j, j + d = cs.length → ∀ (M : FM) (N w0 : Nat) (ov : Value) (os : List Int) (D : Nat → Bool) (hN : n < N) (hM : ∀ b, b < n → M b = m b) (hn : M n = some (.cells (doneT cs.length D) 1 false true)) (ho : IntZ M (n + 1) N ov os) (hR : Run (bfL cs) cs.length os D) (hol : os.length = j) (hw : ∀ j, j ≤ n → Nat.mod w0 (bit j) = 0) (x0 x3 x4 x6 x7 x8 : Value),
    Gv (execW PG E Y ac7L0 [x0, ov, .int .i64 (j : Int), x3, x4, .slice (some ⟨n, 0, none⟩) cs.length cap, x6, x7, x8, lv, sv] M N) fun X e m n w => Q X e m n (Nat.lor w0 w) := by
  have hlen := hd.len
  rw [List.length_map] at hlen
  intro d
  induction d with
  | zero =>
    intro j hj M N w0 ov os D hN hM hn ho hR hol hw x0 x3 x4 x6 x7 x8
    have hL' := hL.frame (by omega : n ≤ N) hM
    refine wr_loopN (L := ac7L0) (b := ac7L0b) rfl ?_
    simp only [ac7L0b]
    simp (implicitDefEqProofs := false) (disch := omega) only [WPs, opds, List.all_cons, List.all_nil, List.cons_append, List.nil_append, cond_true, cond_false, eq_self, List.map_cons, List.map_nil, Nat.reduceAdd, Nat.testBit, Nat.reduceShiftRight, Nat.reduceAnd, Nat.reduceBNe, Nat.reduceMul, hL'.l.len]
    exact hQ _ _ _ _ _ _ hN hM hn ho hR (by omega) hw _ _ _ _ _ _
  | succ d ih =>
  intro j hj M N w0 ov os D hN hM hn ho hR hol hw x0 x3 x4 x6 x7 x8
  have hL' := hL.frame (by omega : n ≤ N) hM
  refine wr_loopN (L := ac7L0) (b := ac7L0b) rfl ?_
  simp only [ac7L0b]
  simp (implicitDefEqProofs := false) (disch := omega) only [WPs, opds, List.all_cons, List.all_nil, List.cons_append, List.nil_append, cond_true, cond_false, eq_self, List.map_cons, List.map_nil, Nat.reduceAdd, Nat.testBit, Nat.reduceShiftRight, Nat.reduceAnd, Nat.reduceBNe, Nat.reduceMul, hL'.l.len]
  refine use_rt (elig_spec T.e16 T.e27 M N lv _ cs (tbl cs.length D) hL' (doneT_sl hN hn) (by rw [tbl_len]; omega) (bfL cs) (bef12 T.b hL'.l)) fun v1 m1 n1 r3 w3 ⟨a1, a2, a3, a4⟩ => ?_
  rw [elig_tbl] at a4
  have hne : 0 < (elig (bfL cs) cs.length D).length := List.length_pos_iff.2 (elig_some (by rw [← hR.len, hol]; omega))
  have hel := elig_len (bf := bfL cs) cs.length D
  have hvl := a4.len
  rw [natsI_len] at hvl
  have hlv := (hL'.l.frame a1 a2).len
  have hn1 := (a2 n hN).trans hn
  -- the number chosen is that of an eligible command
  have fin : ∀ k, k ∈ elig (bfL cs) cs.length D → k < cs.length ∧ free (bfL cs) D k = true ∧ cget (doneT cs.length D) k = some (.bool false) ∧ setCells (doneT cs.length D) k [.bool true] = some (doneT cs.length (updF D k true)) := fun k hk => by
    obtain ⟨hkl, hfree⟩ := mem_elig.1 hk
    exact ⟨hkl, hfree, by rw [doneT_at D hkl, (free_iff.1 hfree).1], doneT_set D hkl⟩
  have step : ∀ k, k ∈ elig (bfL cs) cs.length D → ∀ (v' : Value) (M' : FM) (w' wx : Nat), IntZ M' (n + 1) (n1 + 1 + 1) v' (os ++ [(k : Int)]) → (∀ b, b < n + 1 → M' b = AMem.put (AMem.put m1 n (some (.cells (doneT cs.length (updF D k true)) 1 false true))) n1 (some (.cells [.int .i64 (k : Int)] 1 false true)) b) → (∀ j, j ≤ n → Nat.mod wx (bit j) = 0) → ∀ (x0 x3 x4 x6 x7 x8 : Value),
      Gv (execW PG E Y ac7L0 [x0, v', .int .i64 ((j + 1 : Nat) : Int), x3, x4, .slice (some ⟨n, 0, none⟩) cs.length cap, x6, x7, x8, lv, sv] M' (n1 + 1 + 1)) fun X e m n w => Q X e m n (Nat.lor w0 (Nat.lor wx w)) := fun k hk v' M' w' wx hv hlow hwx x0 x3 x4 x6 x7 x8 => by
    obtain ⟨f1, f2, f3, f4⟩ := fin k hk
    refine (ih (j + 1) (by omega) M' (n1 + 1 + 1) (Nat.lor w0 wx) v' _ (updF D k true) (by omega) (fun b hb => by rw [hlow b (by omega), fput_ne _ _ _ _ (by omega), fput_ne _ _ _ _ (by omega)]; exact (a2 b (by omega)).trans (hM b hb)) (by rw [hlow n (by omega), fput_ne _ _ _ _ (by omega)]; exact fput_same _ _ _) hv (hR.step f1 f2) (by rw [List.length_append, hol]; rfl) (fun i hi => by rw [frz_iff]; exact ⟨hw i hi, hwx i hi⟩) x0 x3 x4 x6 x7 x8).mono fun X e m n w hq => ?_
    rw [← lor_assoc']; exact hq
  have hop : ∀ k, IntZ (AMem.put (AMem.put m1 n (some (.cells (doneT cs.length (updF D k true)) 1 false true))) n1 (some (.cells [.int .i64 (k : Int)] 1 false true))) (n + 1) (n1 + 1) ov os := fun k =>
    ho.frame (by omega) fun b h1 h2 => by rw [fput_ne _ _ _ _ (by omega), fput_ne _ _ _ _ (by omega)]; exact a2 b h2
  obtain ⟨b, o1, c, opn, wr, i1, i2, i3, i4⟩ := natsI_cell a4 hne
  have hm0 := List.getElem_mem hne
  generalize (elig (bfL cs) cs.length D)[0] = k0 at i4 hm0
  by_cases hjs : j < sc.length
  · obtain ⟨b', o', c', opn', wr', j1, j2, j3, j4⟩ := (hd.frame (by omega : n ≤ n1) (fun b hb => (a2 b (by omega)).trans (hM b hb))).cell (i := j) (x := .int .u8 sc[j]) (by simp [hjs])
    have hx := hu _ (List.getElem_mem hjs)
    obtain ⟨q, hq⟩ := Int.eq_ofNat_of_zero_le hx.1
    rw [hq] at j4 hx
    have hcv := conv_u8 (q := q) (by omega)
    have hql : q % (elig (bfL cs) cs.length D).length < (elig (bfL cs) cs.length D).length := Nat.mod_lt _ hne
    obtain ⟨b2, o2, c2, opn2, wr2, k1, k2, k3, k4⟩ := natsI_cell a4 hql
    have hm := List.getElem_mem hql
    generalize (elig (bfL cs) cs.length D)[q % (elig (bfL cs) cs.length D).length] = k at k4 hm
    obtain ⟨f1, f2, f3, f4⟩ := fin k hm
    simp (implicitDefEqProofs := false) (disch := omega) only [WPs, opds, List.all_cons, List.all_nil, List.cons_append, List.nil_append, cond_true, cond_false, eq_self, List.map_cons, List.map_nil, Nat.reduceAdd, Nat.testBit, Nat.reduceShiftRight, Nat.reduceAnd, Nat.reduceBNe, Nat.reduceMul, hlen, hvl, i1, i3, i4, j1, j3, j4, hcv, k1, k3, k4, hlv, hn1, f3, f4]
    refine use_rt (app_intZ (hop k) (k : Int) _ _ _ (by omega) (by omega)) fun v' M' N' r' w' hA => ?_
    obtain ⟨rfl, ha, hlow, hw'⟩ := hA
    simp (implicitDefEqProofs := false) (disch := omega) only [WPs, opds, List.all_cons, List.all_nil, List.cons_append, List.nil_append, cond_true, cond_false, eq_self, List.map_cons, List.map_nil, Nat.reduceAdd, Nat.testBit, Nat.reduceShiftRight, Nat.reduceAnd, Nat.reduceBNe, Nat.reduceMul]
    refine wr_end' (step k hm v' M' w' _ ha hlow ?_ _ _ _ _ _ _)
    exact fun i hi => by rw [frz_iff, frz_iff, frz_iff]; exact ⟨⟨a3 i (by omega), frz_bit (by omega)⟩, frz_bit (by omega), hw' i (by omega)⟩
  · obtain ⟨f1, f2, f3, f4⟩ := fin k0 hm0
    simp (implicitDefEqProofs := false) (disch := omega) only [WPs, opds, List.all_cons, List.all_nil, List.cons_append, List.nil_append, cond_true, cond_false, eq_self, List.map_cons, List.map_nil, Nat.reduceAdd, Nat.testBit, Nat.reduceShiftRight, Nat.reduceAnd, Nat.reduceBNe, Nat.reduceMul, hlen, hvl, i1, i3, i4, hlv, hn1, f3, f4]
    refine use_rt (app_intZ (hop k0) (k0 : Int) _ _ _ (by omega) (by omega)) fun v' M' N' r' w' hA => ?_
    obtain ⟨rfl, ha, hlow, hw'⟩ := hA
    simp (implicitDefEqProofs := false) (disch := omega) only [WPs, opds, List.all_cons, List.all_nil, List.cons_append, List.nil_append, cond_true, cond_false, eq_self, List.map_cons, List.map_nil, Nat.reduceAdd, Nat.testBit, Nat.reduceShiftRight, Nat.reduceAnd, Nat.reduceBNe, Nat.reduceMul]
    refine wr_end' (step k0 hm0 v' M' w' _ ha hlow ?_ _ _ _ _ _ _)
    exact fun i hi => by rw [frz_iff, frz_iff, frz_iff]; exact ⟨⟨a3 i (by omega), frz_bit (by omega)⟩, frz_bit (by omega), hw' i (by omega)⟩
theorem runsLaw (T : Tb E Y) (hE : E 7 = some ac7) (m : FM) (n : Nat) (lv sv : Value) (cs : List (Cmd × Value)) (sc : List Int) (hl : CmdsV m n lv cs) (hs : cs.length ≤ 9223372036854775807) (hd : Sl m n sv (sc.map (.int .u8))) (hu : ∀ x ∈ sc, 0 ≤ x ∧ x < 256) (hds : sc.length ≤ 9223372036854775807) :
    Pure (callW PG E Y 7 [lv, sv] m n) m n (.bool true) := by
  refine pure_spec hE rfl rfl ?_
  have hlen := hd.len
  rw [List.length_map] at hlen
  simp only [ac7]
  simp (implicitDefEqProofs := false) (disch := omega) only [WPs, opds, List.all_cons, List.all_nil, List.cons_append, List.nil_append, cond_true, cond_false, eq_self, List.map_cons, List.map_nil, Nat.reduceAdd, Nat.testBit, Nat.reduceShiftRight, Nat.reduceAnd, Nat.reduceBNe, Nat.reduceMul]
  refine use_pure (T.aw _ _) fun r1 => ?_
  simp (implicitDefEqProofs := false) (disch := omega) only [WPs, opds, List.all_cons, List.all_nil, List.cons_append, List.nil_append, cond_true, cond_false, eq_self, List.map_cons, List.map_nil, Nat.reduceAdd, Nat.testBit, Nat.reduceShiftRight, Nat.reduceAnd, Nat.reduceBNe, Nat.reduceMul]
  refine use_pure (few_spec T.e14 _ _ lv cs hl hs) fun r2 => ?_
  cases hf : fewB cs
  · simp (implicitDefEqProofs := false) (disch := omega) only [WPs, opds, List.all_cons, List.all_nil, List.cons_append, List.nil_append, cond_true, cond_false, eq_self, List.map_cons, List.map_nil, Nat.reduceAdd, Nat.testBit, Nat.reduceShiftRight, Nat.reduceAnd, Nat.reduceBNe, Nat.reduceMul]
  have h14 := fewB_len hf
  have hL : Lst m n lv cs := ⟨hl, by omega⟩
  simp (implicitDefEqProofs := false) (disch := omega) only [WPs, opds, List.all_cons, List.all_nil, List.cons_append, List.nil_append, cond_true, cond_false, eq_self, List.map_cons, List.map_nil, Nat.reduceAdd, Nat.testBit, Nat.reduceShiftRight, Nat.reduceAnd, Nat.reduceBNe, Nat.reduceMul, hl.len]
  refine wr_kont (runs_L0 T m n lv sv cs sc hL h14 hd hu hds cs.length ?_ cs.length 0 (by omega) (AMem.put m n (some (.cells (List.replicate cs.length (.bool false)) 1 false true))) (n + 1) 0 (.slice none 0 0) [] (fun _ => false) (by omega) (fun b hb => fput_ne _ _ _ _ (by omega)) (by rw [doneT_rep]; exact fput_same _ _ _) (IntZ.nil _ _ _) (Run.nil _) rfl (fun j _ => Nat.zero_mod _) _ _ _ _ _ _)
  intro M N w ov os D hN hM hn ho hR hol hw x0 x3 x4 x6 x7 x8 r
  have hL' := hL.frame (by omega : n ≤ N) hM
  have hall := hR.all hol
  have hres := hR.done hol
  simp (implicitDefEqProofs := false) (disch := omega) only [WPs, opds, List.all_cons, List.all_nil, List.cons_append, List.nil_append, cond_true, cond_false, eq_self, List.map_cons, List.map_nil, Nat.reduceAdd, Nat.testBit, Nat.reduceShiftRight, Nat.reduceAnd, Nat.reduceBNe, Nat.reduceMul, hres]
  refine use_pure (respects_spec T.e18 M N lv ov cs os hL' ho.ints (by omega) (bfL cs) (bef12 T.b hL'.l)) fun r3 => ?_
  simp (implicitDefEqProofs := false) (disch := omega) only [WPs, opds, List.all_cons, List.all_nil, List.cons_append, List.nil_append, cond_true, cond_false, eq_self, List.map_cons, List.map_nil, Nat.reduceAdd, Nat.testBit, Nat.reduceShiftRight, Nat.reduceAnd, Nat.reduceBNe, Nat.reduceMul, hres]
  refine use_pure (refResp_spec T.e19 M N lv ov cs os hL' ho.ints (by omega) (bfL cs) (bef13 T.b hL'.l)) fun r4 => ?_
  simp (implicitDefEqProofs := false) (disch := omega) only [WPs, opds, List.all_cons, List.all_nil, List.cons_append, List.nil_append, cond_true, cond_false, eq_self, List.map_cons, List.map_nil, Nat.reduceAdd, Nat.testBit, Nat.reduceShiftRight, Nat.reduceAnd, Nat.reduceBNe, Nat.reduceMul, hres]
  refine use_rt (elig_spec T.e16 T.e27 M N lv _ cs (tbl cs.length D) hL' (doneT_sl hN hn) (by rw [tbl_len]; omega) (bfL cs) (bef12 T.b hL'.l)) fun v1 m1 n1 r3 w3 ⟨a1, a2, a3, a4⟩ => ?_
  rw [elig_tbl, elig_full hall] at a4
  have hvl : lenV false v1 = some (.int .i64 0) := a4.len
  simp (implicitDefEqProofs := false) (disch := omega) only [WPs, opds, List.all_cons, List.all_nil, List.cons_append, List.nil_append, cond_true, cond_false, eq_self, List.map_cons, List.map_nil, Nat.reduceAdd, Nat.testBit, Nat.reduceShiftRight, Nat.reduceAnd, Nat.reduceBNe, Nat.reduceMul, hvl, hw n (by omega), a3 n (by omega)]
end Go.Am.C40
namespace Go.Am.C40
open Go Go.Am C40q
variable {E : Nat → Option AFn} {Y : Nat → List Value → FM → Nat → OR FM}
def hasK (l : List Nat) (k i : Nat) : Bool := (l.take i).any (fun a => decide (a = k))
theorem hasK_succ {l : List Nat} {k i : Nat} (h : i < l.length) : hasK l k (i + 1) = (hasK l k i || decide (l[i] = k)) := by
  rw [hasK, hasK, List.take_add_one, List.getElem?_eq_getElem h, Option.toList_some, List.any_append]; simp
theorem hasK_all (l : List Nat) (k : Nat) : hasK l k l.length = decide (k ∈ l) := by
  rw [hasK, List.take_length, Bool.eq_iff_iff, List.any_eq_true, decide_eq_true_eq]
  simp only [decide_eq_true_eq]
  exact ⟨fun ⟨x, hx, he⟩ => he ▸ hx, fun h => ⟨k, h, rfl⟩⟩
theorem arises_L0 (M : FM) (N : Nat) (ev ov : Value) (l : List Nat) (o : List Int) (hl : Ints M N ev (natsI l)) (ho : Ints M N ov o) (j k : Nat) (hj : j < o.length) (hk : o[j] = (k : Int)) (hs : l.length ≤ 1000000) (hbe : belowV N ev = true) (hbo : belowV N ov = true) {Q : AX → List Value → FM → Nat → Nat → Prop}
    (y5 y6 y7 y8 y9 y10 y11 y12 y13 y14 y15 y16 y17 y18 y19 y20 y21 y22 y23 y24 y25 y26 y27 y29 y30 y31 y32 y33 y34 y35 : Value)
    (hQ : ∀ y1 y2 y3, Q (.exit 2) [.bool (decide (k ∈ l)), y1, y2, y3, ev, y5, y6, y7, y8, y9, y10, y11, y12, y13, y14, y15, y16, y17, y18, y19, y20, y21, y22, y23, y24, y25, y26, y27, .int .i64 (j : Int), y29, y30, y31, y32, y33, y34, y35, ov] M N 0) :
    ∀ d i, i + d = l.length → ∀ y2 y3 : Value, Gv (execW PG E Y ac8L0 [.bool (hasK l k i), .int .i64 (i : Int), y2, y3, ev, y5, y6, y7, y8, y9, y10, y11, y12, y13, y14, y15, y16, y17, y18, y19, y20, y21, y22, y23, y24, y25, y26, y27, .int .i64 (j : Int), y29, y30, y31, y32, y33, y34, y35, ov] M N) Q := by
  obtain ⟨b', o', c', opn', wr', j1, j2, j3, j4⟩ := ho.cell hj
  rw [hk] at j4
  intro d
  induction d with
  | zero =>
    intro i hi y2 y3
    obtain rfl : i = l.length := by omega
    have hll := hl.len
    rw [natsI_len] at hll
    refine wr_loopN (L := ac8L0) (b := ac8L0b) rfl ?_
    simp only [ac8L0b]
    simp (implicitDefEqProofs := false) (disch := omega) only [WPs, opds, List.all_cons, List.all_nil, List.cons_append, List.nil_append, cond_true, cond_false, eq_self, List.map_cons, List.map_nil, Nat.reduceAdd, Nat.testBit, Nat.reduceShiftRight, Nat.reduceAnd, Nat.reduceBNe, Nat.reduceMul, hll]
    rw [hasK_all]
    exact hQ _ _ _
  | succ d ih =>
    intro i hi y2 y3
    have hil : i < l.length := by omega
    have hll := hl.len
    rw [natsI_len] at hll
    obtain ⟨b, o1, c, opn, wr, i1, i2, i3, i4⟩ := natsI_cell hl hil
    have ih := ih (i + 1) (by omega)
    rw [hasK_succ hil] at ih
    refine wr_loopN (L := ac8L0) (b := ac8L0b) rfl ?_
    simp only [ac8L0b]
    cases hh : hasK l k i
    · rw [hh, Bool.false_or] at ih
      by_cases he : l[i] = k
      · rw [decide_eq_true he] at ih
        simp (implicitDefEqProofs := false) (disch := omega) only [WPs, opds, List.all_cons, List.all_nil, List.cons_append, List.nil_append, cond_true, cond_false, eq_self, List.map_cons, List.map_nil, Nat.reduceAdd, Nat.testBit, Nat.reduceShiftRight, Nat.reduceAnd, Nat.reduceBNe, Nat.reduceMul, hll, hbe, hbo, i1, i3, i4, j1, j3, j4]
        exact wr_end' ((ih _ _).mono fun X e m n w hq => by simpa only [zero_lor'] using hq)
      · rw [decide_eq_false he] at ih
        simp (implicitDefEqProofs := false) (disch := omega) only [WPs, opds, List.all_cons, List.all_nil, List.cons_append, List.nil_append, cond_true, cond_false, eq_self, List.map_cons, List.map_nil, Nat.reduceAdd, Nat.testBit, Nat.reduceShiftRight, Nat.reduceAnd, Nat.reduceBNe, Nat.reduceMul, hll, hbe, hbo, i1, i3, i4, j1, j3, j4]
        exact wr_end' ((ih _ _).mono fun X e m n w hq => by simpa only [zero_lor'] using hq)
    · rw [hh, Bool.true_or] at ih
      simp (implicitDefEqProofs := false) (disch := omega) only [WPs, opds, List.all_cons, List.all_nil, List.cons_append, List.nil_append, cond_true, cond_false, eq_self, List.map_cons, List.map_nil, Nat.reduceAdd, Nat.testBit, Nat.reduceShiftRight, Nat.reduceAnd, Nat.reduceBNe, Nat.reduceMul, hll, hbe, hbo, i1, i3, i4, j1, j3, j4]
      exact wr_end' ((ih _ _).mono fun X e m n w hq => by simpa only [zero_lor'] using hq)
theorem arises_L1 (T : Tb E Y) (m : FM) (n : Nat) (lv ov : Value) (cs : List (Cmd × Value)) (o : List Int) (hL : Lst m n lv cs) (h14 : cs.length ≤ 14) (ho : Ints m n ov o) (hol : o.length = cs.length) (cap : Nat)
    {Q : AX → List Value → FM → Nat → Nat → Prop}
    (hQf : ∀ e' M N w, (∀ j, j ≤ n → Nat.mod w (bit j) = 0) → Q (.ret (.bool true)) e' M N w)
    (hQt : ∀ M N w, n < N → (∀ b, b < n → M b = m b) → (∀ j, j ≤ n → Nat.mod w (bit j) = 0) → ∀ x0 x3 x4 x6 x7 x8, Q (.exit 0) [x0, .bool (resp (bfL cs) cs.length (fun _ => false) o), x3, x4, .slice (some ⟨n, 0, none⟩) cs.length cap, x6, x7, x8, lv, ov] M N w) :
    ∀ d j, j + d = cs.length → ∀ (M : FM) (N w0 : Nat) (al : Bool) (D : Nat → Bool) (hN : n < N) (hM : ∀ b, b < n → M b = m b) (hn : M n = some (.cells (doneT cs.length D) 1 false true)) (hw : ∀ j, j ≤ n → Nat.mod w0 (bit j) = 0) (hal : al = resp (bfL cs) cs.length (fun _ => false) (o.take j)) (hD : D = after (fun _ => false) (o.take j)) (x0 x3 x4 x6 x7 x8 : Value),
    Gv (execW PG E Y ac8L1 [x0, .bool al, .int .i64 (j : Int), x3, x4, .slice (some ⟨n, 0, none⟩) cs.length cap, x6, x7, x8, lv, ov] M N) fun X e m n w => Q X e m n (Nat.lor w0 w) := by
  intro d
  induction d with
  | zero =>
    intro j hj M N w0 al D hN hM hn hw hal hD x0 x3 x4 x6 x7 x8
    have ho' := ho.frame (by omega : n ≤ N) hM
    rw [List.take_of_length_le (by omega)] at hal
    subst hal
    refine wr_loopN (L := ac8L1) (b := ac8L1b) rfl ?_
    simp only [ac8L1b]
    simp (implicitDefEqProofs := false) (disch := omega) only [WPs, opds, List.all_cons, List.all_nil, List.cons_append, List.nil_append, cond_true, cond_false, eq_self, List.map_cons, List.map_nil, Nat.reduceAdd, Nat.testBit, Nat.reduceShiftRight, Nat.reduceAnd, Nat.reduceBNe, Nat.reduceMul, ho'.len]
    exact hQt _ _ _ hN hM hw _ _ _ _ _ _
  | succ d ih =>
  intro j hj M N w0 al D hN hM hn hw hal hD x0 x3 x4 x6 x7 x8
  have hL' := hL.frame (by omega : n ≤ N) hM
  have ho' := ho.frame (by omega : n ≤ N) hM
  have hjl : j < o.length := by omega
  obtain ⟨b, o1, c, opn, wr, i1, i2, i3, i4⟩ := ho'.cell hjl
  have hsplit : resp (bfL cs) cs.length (fun _ => false) o = (resp (bfL cs) cs.length (fun _ => false) (o.take j) && resp (bfL cs) cs.length D (o[j] :: o.drop (j + 1))) := by
    rw [hD, ← resp_append, ← List.drop_eq_getElem_cons hjl, List.take_append_drop]
  have htk : o.take (j + 1) = o.take j ++ [o[j]] := by rw [List.take_add_one, List.getElem?_eq_getElem hjl]; rfl
  have hr := resp_snoc (bf := bfL cs) (n := cs.length) (x := o[j]) (o := o.take j) (D := fun _ => false)
  rw [← htk, ← hal, ← hD] at hr
  have ha := after_snoc (x := o[j]) (o := o.take j) (D := fun _ => false)
  rw [← htk, ← hD] at ha
  have hbad : resp (bfL cs) cs.length D (o[j] :: o.drop (j + 1)) = false → respects (bfL cs) cs.length o = false := fun h => by rw [respects, hsplit, h]; simp
  refine wr_loopN (L := ac8L1) (b := ac8L1b) rfl ?_
  simp only [ac8L1b]
  have hxx : ∃ x, o[j] = x := ⟨_, rfl⟩
  obtain ⟨x, hx⟩ := hxx
  rw [hx] at i4 hbad hr ha
  by_cases c1 : x < 0
  · have hb := hbad (by rw [resp, decide_eq_false (by omega : ¬ 0 ≤ x)]; rfl)
    simp (implicitDefEqProofs := false) (disch := omega) only [WPs, opds, List.all_cons, List.all_nil, List.cons_append, List.nil_append, cond_true, cond_false, eq_self, List.map_cons, List.map_nil, Nat.reduceAdd, Nat.testBit, Nat.reduceShiftRight, Nat.reduceAnd, Nat.reduceBNe, Nat.reduceMul, ho'.len, hL'.l.len, i1, i3, i4]
    refine use_pure (respects_spec T.e18 M N lv ov cs o hL' ho' (by omega) (bfL cs) (bef12 T.b hL'.l)) fun r3 => ?_
    rw [hb]
    simp (implicitDefEqProofs := false) (disch := omega) only [WPs, opds, List.all_cons, List.all_nil, List.cons_append, List.nil_append, cond_true, cond_false, eq_self, List.map_cons, List.map_nil, Nat.reduceAdd, Nat.testBit, Nat.reduceShiftRight, Nat.reduceAnd, Nat.reduceBNe, Nat.reduceMul]
    exact hQf _ _ _ _ hw
  by_cases c2 : (cs.length : Int) ≤ x
  · have hb := hbad (by rw [resp, decide_eq_false (by omega : ¬ x < (cs.length : Int)), Bool.and_false]; rfl)
    simp (implicitDefEqProofs := false) (disch := omega) only [WPs, opds, List.all_cons, List.all_nil, List.cons_append, List.nil_append, cond_true, cond_false, eq_self, List.map_cons, List.map_nil, Nat.reduceAdd, Nat.testBit, Nat.reduceShiftRight, Nat.reduceAnd, Nat.reduceBNe, Nat.reduceMul, ho'.len, hL'.l.len, i1, i3, i4]
    refine use_pure (respects_spec T.e18 M N lv ov cs o hL' ho' (by omega) (bfL cs) (bef12 T.b hL'.l)) fun r3 => ?_
    rw [hb]
    simp (implicitDefEqProofs := false) (disch := omega) only [WPs, opds, List.all_cons, List.all_nil, List.cons_append, List.nil_append, cond_true, cond_false, eq_self, List.map_cons, List.map_nil, Nat.reduceAdd, Nat.testBit, Nat.reduceShiftRight, Nat.reduceAnd, Nat.reduceBNe, Nat.reduceMul]
    exact hQf _ _ _ _ hw
  obtain ⟨k, rfl⟩ := Int.eq_ofNat_of_zero_le (by omega : 0 ≤ x)
  have hk : k < cs.length := by omega
  have hd := doneT_at D hk
  cases hDk : D k
  · rw [hDk] at hd
    have hset := doneT_set D hk
    simp (implicitDefEqProofs := false) (disch := omega) only [WPs, opds, List.all_cons, List.all_nil, List.cons_append, List.nil_append, cond_true, cond_false, eq_self, List.map_cons, List.map_nil, Nat.reduceAdd, Nat.testBit, Nat.reduceShiftRight, Nat.reduceAnd, Nat.reduceBNe, Nat.reduceMul, ho'.len, hL'.l.len, i1, i3, i4, hn, hd]
    refine use_rt (elig_spec T.e16 T.e27 M N lv _ cs (tbl cs.length D) hL' (doneT_sl hN hn) (by rw [tbl_len]; omega) (bfL cs) (bef12 T.b hL'.l)) fun v1 m1 n1 r3 w3 ⟨a1, a2, a3, a4⟩ => ?_
    rw [elig_tbl] at a4
    have hel := elig_len (bf := bfL cs) cs.length D
    have hn1 := (a2 n hN).trans hn
    have ho1 := ho'.frame a1 a2
    obtain ⟨b2, o2, c2', opn2, wr2, k1, k2, k3, k4⟩ := ho1.cell hjl
    rw [hx] at k4
    have hin : decide (k ∈ elig (bfL cs) cs.length D) = free (bfL cs) D k := by
      rw [Bool.eq_iff_iff, decide_eq_true_eq, mem_elig]; exact ⟨fun h => h.2, fun h => ⟨hk, h⟩⟩
    rw [decide_eq_true (by omega : 0 ≤ (k : Int)), decide_eq_true (by omega : (k : Int) < (cs.length : Int)), Int.toNat_natCast, Bool.and_self, Bool.true_and] at hr
    rw [Int.toNat_natCast] at ha
    simp (implicitDefEqProofs := false) (disch := omega) only [WPs, opds, List.all_cons, List.all_nil, List.cons_append, List.nil_append, cond_true, cond_false, eq_self, List.map_cons, List.map_nil, Nat.reduceAdd, Nat.testBit, Nat.reduceShiftRight, Nat.reduceAnd, Nat.reduceBNe, Nat.reduceMul]
    refine wr_cps (arises_L0 m1 n1 v1 ov (elig (bfL cs) cs.length D) o a4 ho1 j k hjl hx (by omega) (a4.bel n1 (Nat.le_refl _)) (ho1.bel n1 (Nat.le_refl _)) _ _ _ _ _ _ _ _ _ _ _ _ _ _ _ _ _ _ _ _ _ _ _ _ _ _ _ _ _ _ (fun z1 z2 z3 r => ?_) (elig (bfL cs) cs.length D).length 0 (by omega) _ _)
    rw [hin]
    have fin : ∀ (al' : Bool) (wx : Nat) (x0 x3 x4 x6 x7 x8 : Value), al' = (al && free (bfL cs) D k) → (∀ j, j ≤ n → Nat.mod wx (bit j) = 0) → Gv (execW PG E Y ac8L1 [x0, .bool al', .int .i64 ((j + 1 : Nat) : Int), x3, x4, .slice (some ⟨n, 0, none⟩) cs.length cap, x6, x7, x8, lv, ov] (AMem.put m1 n (some (.cells (doneT cs.length (updF D k true)) 1 false true))) n1) fun X e m n w => Q X e m n (Nat.lor w0 (Nat.lor wx w)) := fun al' wx x0 x3 x4 x6 x7 x8 h1 h2 =>
      (ih (j + 1) (by omega) _ n1 (Nat.lor w0 wx) al' (updF D k true) (by omega) (fun b hb => by rw [fput_ne _ _ _ _ (by omega)]; exact (a2 b (by omega)).trans (hM b hb)) (fput_same _ _ _) (fun i hi => by rw [frz_iff]; exact ⟨hw i hi, h2 i hi⟩) (h1.trans hr.symm) ha.symm _ _ _ _ _ _).mono fun X e m n w hq => by rw [← lor_assoc']; exact hq
    cases al <;> cases hfr : free (bfL cs) D k <;> rw [hfr] at fin <;> (
      simp (implicitDefEqProofs := false) (disch := omega) only [WPs, opds, List.all_cons, List.all_nil, List.cons_append, List.nil_append, cond_true, cond_false, eq_self, List.map_cons, List.map_nil, Nat.reduceAdd, Nat.testBit, Nat.reduceShiftRight, Nat.reduceAnd, Nat.reduceBNe, Nat.reduceMul, k1, k3, k4, hn1, hset]
      exact wr_end' (fin _ _ _ _ _ _ _ _ rfl fun i hi => by rw [frz_iff]; exact ⟨a3 i (by omega), frz_bit (by omega)⟩))
  · rw [hDk] at hd
    have hb := hbad (by rw [resp, Int.toNat_natCast, free, hDk]; simp)
    simp (implicitDefEqProofs := false) (disch := omega) only [WPs, opds, List.all_cons, List.all_nil, List.cons_append, List.nil_append, cond_true, cond_false, eq_self, List.map_cons, List.map_nil, Nat.reduceAdd, Nat.testBit, Nat.reduceShiftRight, Nat.reduceAnd, Nat.reduceBNe, Nat.reduceMul, ho'.len, hL'.l.len, i1, i3, i4, hn, hd]
    refine use_pure (respects_spec T.e18 M N lv ov cs o hL' ho' (by omega) (bfL cs) (bef12 T.b hL'.l)) fun r3 => ?_
    rw [hb]
    simp (implicitDefEqProofs := false) (disch := omega) only [WPs, opds, List.all_cons, List.all_nil, List.cons_append, List.nil_append, cond_true, cond_false, eq_self, List.map_cons, List.map_nil, Nat.reduceAdd, Nat.testBit, Nat.reduceShiftRight, Nat.reduceAnd, Nat.reduceBNe, Nat.reduceMul]
    exact hQf _ _ _ _ hw
theorem arisesLaw (T : Tb E Y) (hE : E 8 = some ac8) (m : FM) (n : Nat) (lv ov : Value) (cs : List (Cmd × Value)) (o : List Int) (hl : CmdsV m n lv cs) (hs : cs.length ≤ 9223372036854775807) (ho : Ints m n ov o) (hos : o.length ≤ 9223372036854775807) :
    Pure (callW PG E Y 8 [lv, ov] m n) m n (.bool true) := by
  refine pure_spec hE rfl rfl ?_
  simp only [ac8]
  simp (implicitDefEqProofs := false) (disch := omega) only [WPs, opds, List.all_cons, List.all_nil, List.cons_append, List.nil_append, cond_true, cond_false, eq_self, List.map_cons, List.map_nil, Nat.reduceAdd, Nat.testBit, Nat.reduceShiftRight, Nat.reduceAnd, Nat.reduceBNe, Nat.reduceMul]
  refine use_pure (T.aw _ _) fun r1 => ?_
  simp (implicitDefEqProofs := false) (disch := omega) only [WPs, opds, List.all_cons, List.all_nil, List.cons_append, List.nil_append, cond_true, cond_false, eq_self, List.map_cons, List.map_nil, Nat.reduceAdd, Nat.testBit, Nat.reduceShiftRight, Nat.reduceAnd, Nat.reduceBNe, Nat.reduceMul]
  refine use_pure (few_spec T.e14 _ _ lv cs hl hs) fun r2 => ?_
  cases hf : fewB cs
  · simp (implicitDefEqProofs := false) (disch := omega) only [WPs, opds, List.all_cons, List.all_nil, List.cons_append, List.nil_append, cond_true, cond_false, eq_self, List.map_cons, List.map_nil, Nat.reduceAdd, Nat.testBit, Nat.reduceShiftRight, Nat.reduceAnd, Nat.reduceBNe, Nat.reduceMul]
  have h14 := fewB_len hf
  have hL : Lst m n lv cs := ⟨hl, by omega⟩
  by_cases hol : o.length = cs.length
  · simp (implicitDefEqProofs := false) (disch := omega) only [WPs, opds, List.all_cons, List.all_nil, List.cons_append, List.nil_append, cond_true, cond_false, eq_self, List.map_cons, List.map_nil, Nat.reduceAdd, Nat.testBit, Nat.reduceShiftRight, Nat.reduceAnd, Nat.reduceBNe, Nat.reduceMul, hl.len, ho.len]
    refine wr_kont (arises_L1 T m n lv ov cs o hL h14 ho hol cs.length ?_ ?_ cs.length 0 (by omega) (AMem.put m n (some (.cells (List.replicate cs.length (.bool false)) 1 false true))) (n + 1) 0 true (fun _ => false) (by omega) (fun b hb => fput_ne _ _ _ _ (by omega)) (by rw [doneT_rep]; exact fput_same _ _ _) (fun j _ => Nat.zero_mod _) rfl rfl _ _ _ _ _ _)
    · intro e' M N w hw r
      simp (implicitDefEqProofs := false) (disch := omega) only [WPs, opds, List.all_cons, List.all_nil, List.cons_append, List.nil_append, cond_true, cond_false, eq_self, List.map_cons, List.map_nil, Nat.reduceAdd, Nat.testBit, Nat.reduceShiftRight, Nat.reduceAnd, Nat.reduceBNe, Nat.reduceMul, hw n (Nat.le_refl _)]
    · intro M N w hN hM hw x0 x3 x4 x6 x7 x8 r
      have hL' := hL.frame (by omega : n ≤ N) hM
      have ho' := ho.frame (by omega : n ≤ N) hM
      have hre : respects (bfL cs) cs.length o = resp (bfL cs) cs.length (fun _ => false) o := by rw [respects, decide_eq_true hol, Bool.true_and]
      simp (implicitDefEqProofs := false) (disch := omega) only [WPs, opds, List.all_cons, List.all_nil, List.cons_append, List.nil_append, cond_true, cond_false, eq_self, List.map_cons, List.map_nil, Nat.reduceAdd, Nat.testBit, Nat.reduceShiftRight, Nat.reduceAnd, Nat.reduceBNe, Nat.reduceMul]
      refine use_pure (respects_spec T.e18 M N lv ov cs o hL' ho' (by omega) (bfL cs) (bef12 T.b hL'.l)) fun r3 => ?_
      rw [hre]
      simp (implicitDefEqProofs := false) (disch := omega) only [WPs, opds, List.all_cons, List.all_nil, List.cons_append, List.nil_append, cond_true, cond_false, eq_self, List.map_cons, List.map_nil, Nat.reduceAdd, Nat.testBit, Nat.reduceShiftRight, Nat.reduceAnd, Nat.reduceBNe, Nat.reduceMul, eql_bools 4 t4, decide_eq_true (rfl : resp (bfL cs) cs.length (fun _ => false) o = resp (bfL cs) cs.length (fun _ => false) o), hw n (Nat.le_refl _)]
  · simp (implicitDefEqProofs := false) (disch := omega) only [WPs, opds, List.all_cons, List.all_nil, List.cons_append, List.nil_append, cond_true, cond_false, eq_self, List.map_cons, List.map_nil, Nat.reduceAdd, Nat.testBit, Nat.reduceShiftRight, Nat.reduceAnd, Nat.reduceBNe, Nat.reduceMul, hl.len, ho.len]
end Go.Am.C40
