/- The machine and its runs, part Rb: An39r3. -/
import Derived.Test.YtibpnegblcdioaaDoorB11
set_option linter.unusedVariables false
set_option linter.unusedSimpArgs false
set_option linter.unusedSectionVars false
namespace Go.Am.C39
set_option maxRecDepth 100000
open Go Go.Am
variable {E : Nat → Option AFn} {Y : Nat → List Value → FM → Nat → OR FM}
set_option maxHeartbeats 8000000 in
theorem refValid_6 (hE : E 11 = some ac11) (hN : E 21 = some ac21) (hI : E 22 = some ac22) (m : FM) (n : Nat) (c : Cmd) (d : Value) (hF : c.Fit) (hc : DatV m n d c.data) (hh : HeadP c) (hk : c.kind = 6) :
    Pure (callW PG E Y 11 [cmdV c d] m n) m n (.bool (validB c)) := by
  obtain ⟨f1, f2, f3, f4, f5, f6, f7, f8⟩ := hF
  have hNm : ∀ m n s, Pure (callW PG E Y 21 [.string s] m n) m n (.bool (nameB s)) := fun m n s => Name_spec hN m n s
  have hIn : ∀ m n, Pure (callW PG E Y 22 [.int .i64 c.at_, .int .i64 c.len] m n) m n (.bool (decide (insideP c.at_ c.len))) := fun m n => within_spec hI m n _ _ f4 f5
  clear f1 f2 f3 f4 f5 f6 f7 f8
  refine pure_spec hE rfl rfl ?_
  simp only [ac11, cmdV]
  rcases hh.2.2 with t4 | t4
  all_goals
    have t1 := hh.1
    have t2 := hh.2.1
    by_cases ho : c.oth = ⟨#[]⟩
    case neg =>
      by_cases nv : NameP c.vol
      case neg =>
        rw [validB_f fun h => nv ((valid_6 hk).1 h).2.1]
        repeat (first | refine use_pure (hNm _ _ _) fun _ => ?_ | refine use_pure (hIn _ _) fun _ => ?_ | simp (implicitDefEqProofs := false) (disch := omega) only [WPs, opds, List.all_cons, List.all_nil, List.cons_append, List.nil_append, cond_true, cond_false, eq_self, List.map_cons, List.map_nil, Nat.reduceAdd, Nat.testBit, Nat.reduceShiftRight, Nat.reduceAnd, Nat.reduceBNe, Nat.reduceMul, hc.one, hc.len, hc.bel, STs, Bool.not_true, Bool.not_false, decide_eq_false ho, nameB_f nv])
      by_cases nq : NameP c.oth
      case neg =>
        rw [validB_f fun h => nq ((valid_6 hk).1 h).2.2.1]
        repeat (first | refine use_pure (hNm _ _ _) fun _ => ?_ | refine use_pure (hIn _ _) fun _ => ?_ | simp (implicitDefEqProofs := false) (disch := omega) only [WPs, opds, List.all_cons, List.all_nil, List.cons_append, List.nil_append, cond_true, cond_false, eq_self, List.map_cons, List.map_nil, Nat.reduceAdd, Nat.testBit, Nat.reduceShiftRight, Nat.reduceAnd, Nat.reduceBNe, Nat.reduceMul, hc.one, hc.len, hc.bel, STs, Bool.not_true, Bool.not_false, decide_eq_false ho, nameB_t nv, nameB_f nq])
      by_cases hne : c.oth ≠ c.vol
      case neg =>
        rw [validB_f fun h => hne ((valid_6 hk).1 h).2.2.2.1]
        repeat (first | refine use_pure (hNm _ _ _) fun _ => ?_ | refine use_pure (hIn _ _) fun _ => ?_ | simp (implicitDefEqProofs := false) (disch := omega) only [WPs, opds, List.all_cons, List.all_nil, List.cons_append, List.nil_append, cond_true, cond_false, eq_self, List.map_cons, List.map_nil, Nat.reduceAdd, Nat.testBit, Nat.reduceShiftRight, Nat.reduceAnd, Nat.reduceBNe, Nat.reduceMul, hc.one, hc.len, hc.bel, STs, Bool.not_true, Bool.not_false, decide_eq_false ho, nameB_t nv, nameB_t nq, decide_eq_true (Classical.not_not.1 hne)])
      by_cases hd : c.data = []
      case neg =>
        have hdl : c.data.length ≠ 0 := fun h => hd (List.eq_nil_of_length_eq_zero h)
        rw [validB_f fun h => hd ((valid_6 hk).1 h).2.2.2.2.1]
        repeat (first | refine use_pure (hNm _ _ _) fun _ => ?_ | refine use_pure (hIn _ _) fun _ => ?_ | simp (implicitDefEqProofs := false) (disch := omega) only [WPs, opds, List.all_cons, List.all_nil, List.cons_append, List.nil_append, cond_true, cond_false, eq_self, List.map_cons, List.map_nil, Nat.reduceAdd, Nat.testBit, Nat.reduceShiftRight, Nat.reduceAnd, Nat.reduceBNe, Nat.reduceMul, hc.one, hc.len, hc.bel, STs, Bool.not_true, Bool.not_false, decide_eq_false ho, nameB_t nv, nameB_t nq, decide_eq_false hne])
      have hdl : c.data.length = 0 := by rw [hd]; rfl
      by_cases hf : c.force = false
      case neg =>
        have hf1 : c.force = true := by simpa using hf
        rw [validB_f fun h => hf ((valid_6 hk).1 h).2.2.2.2.2.1]
        repeat (first | refine use_pure (hNm _ _ _) fun _ => ?_ | refine use_pure (hIn _ _) fun _ => ?_ | simp (implicitDefEqProofs := false) (disch := omega) only [WPs, opds, List.all_cons, List.all_nil, List.cons_append, List.nil_append, cond_true, cond_false, eq_self, List.map_cons, List.map_nil, Nat.reduceAdd, Nat.testBit, Nat.reduceShiftRight, Nat.reduceAnd, Nat.reduceBNe, Nat.reduceMul, hc.one, hc.len, hc.bel, STs, Bool.not_true, Bool.not_false, decide_eq_false ho, nameB_t nv, nameB_t nq, decide_eq_false hne, hf1])
      by_cases g5 : c.at_ = 0
      case neg =>
        rw [validB_f fun h => g5 ((valid_6 hk).1 h).2.2.2.2.2.2.1]
        repeat (first | refine use_pure (hNm _ _ _) fun _ => ?_ | refine use_pure (hIn _ _) fun _ => ?_ | simp (implicitDefEqProofs := false) (disch := omega) only [WPs, opds, List.all_cons, List.all_nil, List.cons_append, List.nil_append, cond_true, cond_false, eq_self, List.map_cons, List.map_nil, Nat.reduceAdd, Nat.testBit, Nat.reduceShiftRight, Nat.reduceAnd, Nat.reduceBNe, Nat.reduceMul, hc.one, hc.len, hc.bel, STs, Bool.not_true, Bool.not_false, decide_eq_false ho, nameB_t nv, nameB_t nq, decide_eq_false hne, hf])
      by_cases g6 : c.len = 0
      case neg =>
        rw [validB_f fun h => g6 ((valid_6 hk).1 h).2.2.2.2.2.2.2]
        repeat (first | refine use_pure (hNm _ _ _) fun _ => ?_ | refine use_pure (hIn _ _) fun _ => ?_ | simp (implicitDefEqProofs := false) (disch := omega) only [WPs, opds, List.all_cons, List.all_nil, List.cons_append, List.nil_append, cond_true, cond_false, eq_self, List.map_cons, List.map_nil, Nat.reduceAdd, Nat.testBit, Nat.reduceShiftRight, Nat.reduceAnd, Nat.reduceBNe, Nat.reduceMul, hc.one, hc.len, hc.bel, STs, Bool.not_true, Bool.not_false, decide_eq_false ho, nameB_t nv, nameB_t nq, decide_eq_false hne, hf])
      rw [validB_t ((valid_6 hk).2 ⟨hh, nv, nq, hne, hd, hf, g5, g6⟩)]
      repeat (first | refine use_pure (hNm _ _ _) fun _ => ?_ | refine use_pure (hIn _ _) fun _ => ?_ | simp (implicitDefEqProofs := false) (disch := omega) only [WPs, opds, List.all_cons, List.all_nil, List.cons_append, List.nil_append, cond_true, cond_false, eq_self, List.map_cons, List.map_nil, Nat.reduceAdd, Nat.testBit, Nat.reduceShiftRight, Nat.reduceAnd, Nat.reduceBNe, Nat.reduceMul, hc.one, hc.len, hc.bel, STs, Bool.not_true, Bool.not_false, decide_eq_false ho, nameB_t nv, nameB_t nq, decide_eq_false hne, hf])
    by_cases hd : c.data = []
    case neg =>
      have hdl : c.data.length ≠ 0 := fun h => hd (List.eq_nil_of_length_eq_zero h)
      by_cases nv : NameP c.vol
      case neg =>
        rw [validB_f fun h => nv ((valid_6 hk).1 h).2.1]
        repeat (first | refine use_pure (hNm _ _ _) fun _ => ?_ | refine use_pure (hIn _ _) fun _ => ?_ | simp (implicitDefEqProofs := false) (disch := omega) only [WPs, opds, List.all_cons, List.all_nil, List.cons_append, List.nil_append, cond_true, cond_false, eq_self, List.map_cons, List.map_nil, Nat.reduceAdd, Nat.testBit, Nat.reduceShiftRight, Nat.reduceAnd, Nat.reduceBNe, Nat.reduceMul, hc.one, hc.len, hc.bel, STs, Bool.not_true, Bool.not_false, decide_eq_true ho, nameB_f nv])
      by_cases nq : NameP c.oth
      case neg =>
        rw [validB_f fun h => nq ((valid_6 hk).1 h).2.2.1]
        repeat (first | refine use_pure (hNm _ _ _) fun _ => ?_ | refine use_pure (hIn _ _) fun _ => ?_ | simp (implicitDefEqProofs := false) (disch := omega) only [WPs, opds, List.all_cons, List.all_nil, List.cons_append, List.nil_append, cond_true, cond_false, eq_self, List.map_cons, List.map_nil, Nat.reduceAdd, Nat.testBit, Nat.reduceShiftRight, Nat.reduceAnd, Nat.reduceBNe, Nat.reduceMul, hc.one, hc.len, hc.bel, STs, Bool.not_true, Bool.not_false, decide_eq_true ho, nameB_t nv, nameB_f nq])
      by_cases hne : c.oth ≠ c.vol
      case neg =>
        rw [validB_f fun h => hne ((valid_6 hk).1 h).2.2.2.1]
        repeat (first | refine use_pure (hNm _ _ _) fun _ => ?_ | refine use_pure (hIn _ _) fun _ => ?_ | simp (implicitDefEqProofs := false) (disch := omega) only [WPs, opds, List.all_cons, List.all_nil, List.cons_append, List.nil_append, cond_true, cond_false, eq_self, List.map_cons, List.map_nil, Nat.reduceAdd, Nat.testBit, Nat.reduceShiftRight, Nat.reduceAnd, Nat.reduceBNe, Nat.reduceMul, hc.one, hc.len, hc.bel, STs, Bool.not_true, Bool.not_false, decide_eq_true ho, nameB_t nv, nameB_t nq, decide_eq_true (Classical.not_not.1 hne)])
      rw [validB_f fun h => hd ((valid_6 hk).1 h).2.2.2.2.1]
      repeat (first | refine use_pure (hNm _ _ _) fun _ => ?_ | refine use_pure (hIn _ _) fun _ => ?_ | simp (implicitDefEqProofs := false) (disch := omega) only [WPs, opds, List.all_cons, List.all_nil, List.cons_append, List.nil_append, cond_true, cond_false, eq_self, List.map_cons, List.map_nil, Nat.reduceAdd, Nat.testBit, Nat.reduceShiftRight, Nat.reduceAnd, Nat.reduceBNe, Nat.reduceMul, hc.one, hc.len, hc.bel, STs, Bool.not_true, Bool.not_false, decide_eq_true ho, nameB_t nv, nameB_t nq, decide_eq_false hne])
    have hdl : c.data.length = 0 := by rw [hd]; rfl
    by_cases nv : NameP c.vol
    case neg =>
      rw [validB_f fun h => nv ((valid_6 hk).1 h).2.1]
      repeat (first | refine use_pure (hNm _ _ _) fun _ => ?_ | refine use_pure (hIn _ _) fun _ => ?_ | simp (implicitDefEqProofs := false) (disch := omega) only [WPs, opds, List.all_cons, List.all_nil, List.cons_append, List.nil_append, cond_true, cond_false, eq_self, List.map_cons, List.map_nil, Nat.reduceAdd, Nat.testBit, Nat.reduceShiftRight, Nat.reduceAnd, Nat.reduceBNe, Nat.reduceMul, hc.one, hc.len, hc.bel, STs, Bool.not_true, Bool.not_false, decide_eq_true ho, nameB_f nv])
    by_cases nq : NameP c.oth
    case neg =>
      rw [validB_f fun h => nq ((valid_6 hk).1 h).2.2.1]
      repeat (first | refine use_pure (hNm _ _ _) fun _ => ?_ | refine use_pure (hIn _ _) fun _ => ?_ | simp (implicitDefEqProofs := false) (disch := omega) only [WPs, opds, List.all_cons, List.all_nil, List.cons_append, List.nil_append, cond_true, cond_false, eq_self, List.map_cons, List.map_nil, Nat.reduceAdd, Nat.testBit, Nat.reduceShiftRight, Nat.reduceAnd, Nat.reduceBNe, Nat.reduceMul, hc.one, hc.len, hc.bel, STs, Bool.not_true, Bool.not_false, decide_eq_true ho, nameB_t nv, nameB_f nq])
    by_cases hne : c.oth ≠ c.vol
    case neg =>
      rw [validB_f fun h => hne ((valid_6 hk).1 h).2.2.2.1]
      repeat (first | refine use_pure (hNm _ _ _) fun _ => ?_ | refine use_pure (hIn _ _) fun _ => ?_ | simp (implicitDefEqProofs := false) (disch := omega) only [WPs, opds, List.all_cons, List.all_nil, List.cons_append, List.nil_append, cond_true, cond_false, eq_self, List.map_cons, List.map_nil, Nat.reduceAdd, Nat.testBit, Nat.reduceShiftRight, Nat.reduceAnd, Nat.reduceBNe, Nat.reduceMul, hc.one, hc.len, hc.bel, STs, Bool.not_true, Bool.not_false, decide_eq_true ho, nameB_t nv, nameB_t nq, decide_eq_true (Classical.not_not.1 hne)])
    by_cases hf : c.force = false
    case neg =>
      have hf1 : c.force = true := by simpa using hf
      rw [validB_f fun h => hf ((valid_6 hk).1 h).2.2.2.2.2.1]
      repeat (first | refine use_pure (hNm _ _ _) fun _ => ?_ | refine use_pure (hIn _ _) fun _ => ?_ | simp (implicitDefEqProofs := false) (disch := omega) only [WPs, opds, List.all_cons, List.all_nil, List.cons_append, List.nil_append, cond_true, cond_false, eq_self, List.map_cons, List.map_nil, Nat.reduceAdd, Nat.testBit, Nat.reduceShiftRight, Nat.reduceAnd, Nat.reduceBNe, Nat.reduceMul, hc.one, hc.len, hc.bel, STs, Bool.not_true, Bool.not_false, decide_eq_true ho, nameB_t nv, nameB_t nq, decide_eq_false hne, hf1])
    by_cases g5 : c.at_ = 0
    case neg =>
      rw [validB_f fun h => g5 ((valid_6 hk).1 h).2.2.2.2.2.2.1]
      repeat (first | refine use_pure (hNm _ _ _) fun _ => ?_ | refine use_pure (hIn _ _) fun _ => ?_ | simp (implicitDefEqProofs := false) (disch := omega) only [WPs, opds, List.all_cons, List.all_nil, List.cons_append, List.nil_append, cond_true, cond_false, eq_self, List.map_cons, List.map_nil, Nat.reduceAdd, Nat.testBit, Nat.reduceShiftRight, Nat.reduceAnd, Nat.reduceBNe, Nat.reduceMul, hc.one, hc.len, hc.bel, STs, Bool.not_true, Bool.not_false, decide_eq_true ho, nameB_t nv, nameB_t nq, decide_eq_false hne, hf])
    by_cases g6 : c.len = 0
    case neg =>
      rw [validB_f fun h => g6 ((valid_6 hk).1 h).2.2.2.2.2.2.2]
      repeat (first | refine use_pure (hNm _ _ _) fun _ => ?_ | refine use_pure (hIn _ _) fun _ => ?_ | simp (implicitDefEqProofs := false) (disch := omega) only [WPs, opds, List.all_cons, List.all_nil, List.cons_append, List.nil_append, cond_true, cond_false, eq_self, List.map_cons, List.map_nil, Nat.reduceAdd, Nat.testBit, Nat.reduceShiftRight, Nat.reduceAnd, Nat.reduceBNe, Nat.reduceMul, hc.one, hc.len, hc.bel, STs, Bool.not_true, Bool.not_false, decide_eq_true ho, nameB_t nv, nameB_t nq, decide_eq_false hne, hf])
    rw [validB_t ((valid_6 hk).2 ⟨hh, nv, nq, hne, hd, hf, g5, g6⟩)]
    repeat (first | refine use_pure (hNm _ _ _) fun _ => ?_ | refine use_pure (hIn _ _) fun _ => ?_ | simp (implicitDefEqProofs := false) (disch := omega) only [WPs, opds, List.all_cons, List.all_nil, List.cons_append, List.nil_append, cond_true, cond_false, eq_self, List.map_cons, List.map_nil, Nat.reduceAdd, Nat.testBit, Nat.reduceShiftRight, Nat.reduceAnd, Nat.reduceBNe, Nat.reduceMul, hc.one, hc.len, hc.bel, STs, Bool.not_true, Bool.not_false, decide_eq_true ho, nameB_t nv, nameB_t nq, decide_eq_false hne, hf])
end Go.Am.C39
