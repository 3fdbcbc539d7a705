/- The machine and its runs, part 12: Am41r3 Am41r4 Am41r Am41f Am41g Am41h Am41t. -/
import Derived.Test.YtjhomcflchfamaaDoorB11
set_option linter.unusedVariables false
set_option linter.unusedSimpArgs false
set_option linter.unusedSectionVars false
namespace Go.Am.C41
open Go Go.Am
variable {E : Nat → Option AFn} {Y : Nat → List Value → FM → Nat → OR FM}
set_option maxHeartbeats 8000000 in
theorem refValid_6 (hE : E 23 = some ac23) (hN : E 47 = some ac47) (hI : E 48 = some ac48) (m : FM) (n : Nat) (c : Cmd) (d : Value) (hF : c.Fit) (hc : DatV m n d c.data) (hh : HeadP c) (hk : c.kind = 6) :
    Pure (callW PG E Y 23 [cmdV c d] m n) m n (.bool (validB c)) := by
  obtain ⟨f1, f2, f3, f4, f5, f6, f7, f8⟩ := hF
  have hNm : ∀ m n s, Pure (callW PG E Y 47 [.string s] m n) m n (.bool (nameB s)) := fun m n s => Name_spec hN m n s
  have hIn : ∀ m n, Pure (callW PG E Y 48 [.int .i64 c.at_, .int .i64 c.len] m n) m n (.bool (decide (insideP c.at_ c.len))) := fun m n => within_spec hI m n _ _ f4 f5
  clear f1 f2 f3 f4 f5 f6 f7 f8
  refine pure_spec hE rfl rfl ?_
  simp only [ac23, cmdV]
  rcases hh.2.2 with t4 | t4
  all_goals
    have t1 := hh.1
    have t2 := hh.2.1
    by_cases ho : c.oth = ⟨#[]⟩
    case neg =>
      by_cases nv : NameP c.vol
      case neg =>
        rw [validB_f fun h => nv ((valid_6 hk).1 h).2.1]
        repeat (first | refine use_pure (hNm _ _ _) fun _ => ?_ | refine use_pure (hIn _ _) fun _ => ?_ | simp (implicitDefEqProofs := false) (disch := omega) only [WPs, opds, List.all_cons, List.all_nil, List.cons_append, List.nil_append, cond_true, cond_false, eq_self, List.map_cons, List.map_nil, Nat.reduceAdd, Nat.testBit, Nat.reduceShiftRight, Nat.reduceAnd, Nat.reduceBNe, Nat.reduceMul, hc.one, hc.len, hc.bel, STs, Bool.not_true, Bool.not_false, decide_eq_false ho, nameB_f nv])
      by_cases nq : NameP c.oth
      case neg =>
        rw [validB_f fun h => nq ((valid_6 hk).1 h).2.2.1]
        repeat (first | refine use_pure (hNm _ _ _) fun _ => ?_ | refine use_pure (hIn _ _) fun _ => ?_ | simp (implicitDefEqProofs := false) (disch := omega) only [WPs, opds, List.all_cons, List.all_nil, List.cons_append, List.nil_append, cond_true, cond_false, eq_self, List.map_cons, List.map_nil, Nat.reduceAdd, Nat.testBit, Nat.reduceShiftRight, Nat.reduceAnd, Nat.reduceBNe, Nat.reduceMul, hc.one, hc.len, hc.bel, STs, Bool.not_true, Bool.not_false, decide_eq_false ho, nameB_t nv, nameB_f nq])
      by_cases hne : c.oth ≠ c.vol
      case neg =>
        rw [validB_f fun h => hne ((valid_6 hk).1 h).2.2.2.1]
        repeat (first | refine use_pure (hNm _ _ _) fun _ => ?_ | refine use_pure (hIn _ _) fun _ => ?_ | simp (implicitDefEqProofs := false) (disch := omega) only [WPs, opds, List.all_cons, List.all_nil, List.cons_append, List.nil_append, cond_true, cond_false, eq_self, List.map_cons, List.map_nil, Nat.reduceAdd, Nat.testBit, Nat.reduceShiftRight, Nat.reduceAnd, Nat.reduceBNe, Nat.reduceMul, hc.one, hc.len, hc.bel, STs, Bool.not_true, Bool.not_false, decide_eq_false ho, nameB_t nv, nameB_t nq, decide_eq_true (Classical.not_not.1 hne)])
      by_cases hd : c.data = []
      case neg =>
        have hdl : c.data.length ≠ 0 := fun h => hd (List.eq_nil_of_length_eq_zero h)
        rw [validB_f fun h => hd ((valid_6 hk).1 h).2.2.2.2.1]
        repeat (first | refine use_pure (hNm _ _ _) fun _ => ?_ | refine use_pure (hIn _ _) fun _ => ?_ | simp (implicitDefEqProofs := false) (disch := omega) only [WPs, opds, List.all_cons, List.all_nil, List.cons_append, List.nil_append, cond_true, cond_false, eq_self, List.map_cons, List.map_nil, Nat.reduceAdd, Nat.testBit, Nat.reduceShiftRight, Nat.reduceAnd, Nat.reduceBNe, Nat.reduceMul, hc.one, hc.len, hc.bel, STs, Bool.not_true, Bool.not_false, decide_eq_false ho, nameB_t nv, nameB_t nq, decide_eq_false hne])
      have hdl : c.data.length = 0 := by rw [hd]; rfl
      by_cases hf : c.force = false
      case neg =>
        have hf1 : c.force = true := by simpa using hf
        rw [validB_f fun h => hf ((valid_6 hk).1 h).2.2.2.2.2.1]
        repeat (first | refine use_pure (hNm _ _ _) fun _ => ?_ | refine use_pure (hIn _ _) fun _ => ?_ | simp (implicitDefEqProofs := false) (disch := omega) only [WPs, opds, List.all_cons, List.all_nil, List.cons_append, List.nil_append, cond_true, cond_false, eq_self, List.map_cons, List.map_nil, Nat.reduceAdd, Nat.testBit, Nat.reduceShiftRight, Nat.reduceAnd, Nat.reduceBNe, Nat.reduceMul, hc.one, hc.len, hc.bel, STs, Bool.not_true, Bool.not_false, decide_eq_false ho, nameB_t nv, nameB_t nq, decide_eq_false hne, hf1])
      by_cases g5 : c.at_ = 0
      case neg =>
        rw [validB_f fun h => g5 ((valid_6 hk).1 h).2.2.2.2.2.2.1]
        repeat (first | refine use_pure (hNm _ _ _) fun _ => ?_ | refine use_pure (hIn _ _) fun _ => ?_ | simp (implicitDefEqProofs := false) (disch := omega) only [WPs, opds, List.all_cons, List.all_nil, List.cons_append, List.nil_append, cond_true, cond_false, eq_self, List.map_cons, List.map_nil, Nat.reduceAdd, Nat.testBit, Nat.reduceShiftRight, Nat.reduceAnd, Nat.reduceBNe, Nat.reduceMul, hc.one, hc.len, hc.bel, STs, Bool.not_true, Bool.not_false, decide_eq_false ho, nameB_t nv, nameB_t nq, decide_eq_false hne, hf])
      by_cases g6 : c.len = 0
      case neg =>
        rw [validB_f fun h => g6 ((valid_6 hk).1 h).2.2.2.2.2.2.2]
        repeat (first | refine use_pure (hNm _ _ _) fun _ => ?_ | refine use_pure (hIn _ _) fun _ => ?_ | simp (implicitDefEqProofs := false) (disch := omega) only [WPs, opds, List.all_cons, List.all_nil, List.cons_append, List.nil_append, cond_true, cond_false, eq_self, List.map_cons, List.map_nil, Nat.reduceAdd, Nat.testBit, Nat.reduceShiftRight, Nat.reduceAnd, Nat.reduceBNe, Nat.reduceMul, hc.one, hc.len, hc.bel, STs, Bool.not_true, Bool.not_false, decide_eq_false ho, nameB_t nv, nameB_t nq, decide_eq_false hne, hf])
      rw [validB_t ((valid_6 hk).2 ⟨hh, nv, nq, hne, hd, hf, g5, g6⟩)]
      repeat (first | refine use_pure (hNm _ _ _) fun _ => ?_ | refine use_pure (hIn _ _) fun _ => ?_ | simp (implicitDefEqProofs := false) (disch := omega) only [WPs, opds, List.all_cons, List.all_nil, List.cons_append, List.nil_append, cond_true, cond_false, eq_self, List.map_cons, List.map_nil, Nat.reduceAdd, Nat.testBit, Nat.reduceShiftRight, Nat.reduceAnd, Nat.reduceBNe, Nat.reduceMul, hc.one, hc.len, hc.bel, STs, Bool.not_true, Bool.not_false, decide_eq_false ho, nameB_t nv, nameB_t nq, decide_eq_false hne, hf])
    by_cases hd : c.data = []
    case neg =>
      have hdl : c.data.length ≠ 0 := fun h => hd (List.eq_nil_of_length_eq_zero h)
      by_cases nv : NameP c.vol
      case neg =>
        rw [validB_f fun h => nv ((valid_6 hk).1 h).2.1]
        repeat (first | refine use_pure (hNm _ _ _) fun _ => ?_ | refine use_pure (hIn _ _) fun _ => ?_ | simp (implicitDefEqProofs := false) (disch := omega) only [WPs, opds, List.all_cons, List.all_nil, List.cons_append, List.nil_append, cond_true, cond_false, eq_self, List.map_cons, List.map_nil, Nat.reduceAdd, Nat.testBit, Nat.reduceShiftRight, Nat.reduceAnd, Nat.reduceBNe, Nat.reduceMul, hc.one, hc.len, hc.bel, STs, Bool.not_true, Bool.not_false, decide_eq_true ho, nameB_f nv])
      by_cases nq : NameP c.oth
      case neg =>
        rw [validB_f fun h => nq ((valid_6 hk).1 h).2.2.1]
        repeat (first | refine use_pure (hNm _ _ _) fun _ => ?_ | refine use_pure (hIn _ _) fun _ => ?_ | simp (implicitDefEqProofs := false) (disch := omega) only [WPs, opds, List.all_cons, List.all_nil, List.cons_append, List.nil_append, cond_true, cond_false, eq_self, List.map_cons, List.map_nil, Nat.reduceAdd, Nat.testBit, Nat.reduceShiftRight, Nat.reduceAnd, Nat.reduceBNe, Nat.reduceMul, hc.one, hc.len, hc.bel, STs, Bool.not_true, Bool.not_false, decide_eq_true ho, nameB_t nv, nameB_f nq])
      by_cases hne : c.oth ≠ c.vol
      case neg =>
        rw [validB_f fun h => hne ((valid_6 hk).1 h).2.2.2.1]
        repeat (first | refine use_pure (hNm _ _ _) fun _ => ?_ | refine use_pure (hIn _ _) fun _ => ?_ | simp (implicitDefEqProofs := false) (disch := omega) only [WPs, opds, List.all_cons, List.all_nil, List.cons_append, List.nil_append, cond_true, cond_false, eq_self, List.map_cons, List.map_nil, Nat.reduceAdd, Nat.testBit, Nat.reduceShiftRight, Nat.reduceAnd, Nat.reduceBNe, Nat.reduceMul, hc.one, hc.len, hc.bel, STs, Bool.not_true, Bool.not_false, decide_eq_true ho, nameB_t nv, nameB_t nq, decide_eq_true (Classical.not_not.1 hne)])
      rw [validB_f fun h => hd ((valid_6 hk).1 h).2.2.2.2.1]
      repeat (first | refine use_pure (hNm _ _ _) fun _ => ?_ | refine use_pure (hIn _ _) fun _ => ?_ | simp (implicitDefEqProofs := false) (disch := omega) only [WPs, opds, List.all_cons, List.all_nil, List.cons_append, List.nil_append, cond_true, cond_false, eq_self, List.map_cons, List.map_nil, Nat.reduceAdd, Nat.testBit, Nat.reduceShiftRight, Nat.reduceAnd, Nat.reduceBNe, Nat.reduceMul, hc.one, hc.len, hc.bel, STs, Bool.not_true, Bool.not_false, decide_eq_true ho, nameB_t nv, nameB_t nq, decide_eq_false hne])
    have hdl : c.data.length = 0 := by rw [hd]; rfl
    by_cases nv : NameP c.vol
    case neg =>
      rw [validB_f fun h => nv ((valid_6 hk).1 h).2.1]
      repeat (first | refine use_pure (hNm _ _ _) fun _ => ?_ | refine use_pure (hIn _ _) fun _ => ?_ | simp (implicitDefEqProofs := false) (disch := omega) only [WPs, opds, List.all_cons, List.all_nil, List.cons_append, List.nil_append, cond_true, cond_false, eq_self, List.map_cons, List.map_nil, Nat.reduceAdd, Nat.testBit, Nat.reduceShiftRight, Nat.reduceAnd, Nat.reduceBNe, Nat.reduceMul, hc.one, hc.len, hc.bel, STs, Bool.not_true, Bool.not_false, decide_eq_true ho, nameB_f nv])
    by_cases nq : NameP c.oth
    case neg =>
      rw [validB_f fun h => nq ((valid_6 hk).1 h).2.2.1]
      repeat (first | refine use_pure (hNm _ _ _) fun _ => ?_ | refine use_pure (hIn _ _) fun _ => ?_ | simp (implicitDefEqProofs := false) (disch := omega) only [WPs, opds, List.all_cons, List.all_nil, List.cons_append, List.nil_append, cond_true, cond_false, eq_self, List.map_cons, List.map_nil, Nat.reduceAdd, Nat.testBit, Nat.reduceShiftRight, Nat.reduceAnd, Nat.reduceBNe, Nat.reduceMul, hc.one, hc.len, hc.bel, STs, Bool.not_true, Bool.not_false, decide_eq_true ho, nameB_t nv, nameB_f nq])
    by_cases hne : c.oth ≠ c.vol
    case neg =>
      rw [validB_f fun h => hne ((valid_6 hk).1 h).2.2.2.1]
      repeat (first | refine use_pure (hNm _ _ _) fun _ => ?_ | refine use_pure (hIn _ _) fun _ => ?_ | simp (implicitDefEqProofs := false) (disch := omega) only [WPs, opds, List.all_cons, List.all_nil, List.cons_append, List.nil_append, cond_true, cond_false, eq_self, List.map_cons, List.map_nil, Nat.reduceAdd, Nat.testBit, Nat.reduceShiftRight, Nat.reduceAnd, Nat.reduceBNe, Nat.reduceMul, hc.one, hc.len, hc.bel, STs, Bool.not_true, Bool.not_false, decide_eq_true ho, nameB_t nv, nameB_t nq, decide_eq_true (Classical.not_not.1 hne)])
    by_cases hf : c.force = false
    case neg =>
      have hf1 : c.force = true := by simpa using hf
      rw [validB_f fun h => hf ((valid_6 hk).1 h).2.2.2.2.2.1]
      repeat (first | refine use_pure (hNm _ _ _) fun _ => ?_ | refine use_pure (hIn _ _) fun _ => ?_ | simp (implicitDefEqProofs := false) (disch := omega) only [WPs, opds, List.all_cons, List.all_nil, List.cons_append, List.nil_append, cond_true, cond_false, eq_self, List.map_cons, List.map_nil, Nat.reduceAdd, Nat.testBit, Nat.reduceShiftRight, Nat.reduceAnd, Nat.reduceBNe, Nat.reduceMul, hc.one, hc.len, hc.bel, STs, Bool.not_true, Bool.not_false, decide_eq_true ho, nameB_t nv, nameB_t nq, decide_eq_false hne, hf1])
    by_cases g5 : c.at_ = 0
    case neg =>
      rw [validB_f fun h => g5 ((valid_6 hk).1 h).2.2.2.2.2.2.1]
      repeat (first | refine use_pure (hNm _ _ _) fun _ => ?_ | refine use_pure (hIn _ _) fun _ => ?_ | simp (implicitDefEqProofs := false) (disch := omega) only [WPs, opds, List.all_cons, List.all_nil, List.cons_append, List.nil_append, cond_true, cond_false, eq_self, List.map_cons, List.map_nil, Nat.reduceAdd, Nat.testBit, Nat.reduceShiftRight, Nat.reduceAnd, Nat.reduceBNe, Nat.reduceMul, hc.one, hc.len, hc.bel, STs, Bool.not_true, Bool.not_false, decide_eq_true ho, nameB_t nv, nameB_t nq, decide_eq_false hne, hf])
    by_cases g6 : c.len = 0
    case neg =>
      rw [validB_f fun h => g6 ((valid_6 hk).1 h).2.2.2.2.2.2.2]
      repeat (first | refine use_pure (hNm _ _ _) fun _ => ?_ | refine use_pure (hIn _ _) fun _ => ?_ | simp (implicitDefEqProofs := false) (disch := omega) only [WPs, opds, List.all_cons, List.all_nil, List.cons_append, List.nil_append, cond_true, cond_false, eq_self, List.map_cons, List.map_nil, Nat.reduceAdd, Nat.testBit, Nat.reduceShiftRight, Nat.reduceAnd, Nat.reduceBNe, Nat.reduceMul, hc.one, hc.len, hc.bel, STs, Bool.not_true, Bool.not_false, decide_eq_true ho, nameB_t nv, nameB_t nq, decide_eq_false hne, hf])
    rw [validB_t ((valid_6 hk).2 ⟨hh, nv, nq, hne, hd, hf, g5, g6⟩)]
    repeat (first | refine use_pure (hNm _ _ _) fun _ => ?_ | refine use_pure (hIn _ _) fun _ => ?_ | simp (implicitDefEqProofs := false) (disch := omega) only [WPs, opds, List.all_cons, List.all_nil, List.cons_append, List.nil_append, cond_true, cond_false, eq_self, List.map_cons, List.map_nil, Nat.reduceAdd, Nat.testBit, Nat.reduceShiftRight, Nat.reduceAnd, Nat.reduceBNe, Nat.reduceMul, hc.one, hc.len, hc.bel, STs, Bool.not_true, Bool.not_false, decide_eq_true ho, nameB_t nv, nameB_t nq, decide_eq_false hne, hf])
end Go.Am.C41
namespace Go.Am.C41
open Go Go.Am
variable {E : Nat → Option AFn} {Y : Nat → List Value → FM → Nat → OR FM}
set_option maxHeartbeats 8000000 in
theorem refValid_7 (hE : E 23 = some ac23) (hN : E 47 = some ac47) (hI : E 48 = some ac48) (m : FM) (n : Nat) (c : Cmd) (d : Value) (hF : c.Fit) (hc : DatV m n d c.data) (hh : HeadP c) (hk : c.kind = 7) :
    Pure (callW PG E Y 23 [cmdV c d] m n) m n (.bool (validB c)) := by
  obtain ⟨f1, f2, f3, f4, f5, f6, f7, f8⟩ := hF
  have hNm : ∀ m n s, Pure (callW PG E Y 47 [.string s] m n) m n (.bool (nameB s)) := fun m n s => Name_spec hN m n s
  have hIn : ∀ m n, Pure (callW PG E Y 48 [.int .i64 c.at_, .int .i64 c.len] m n) m n (.bool (decide (insideP c.at_ c.len))) := fun m n => within_spec hI m n _ _ f4 f5
  clear f1 f2 f3 f4 f5 f6 f7 f8
  refine pure_spec hE rfl rfl ?_
  simp only [ac23, cmdV]
  rcases hh.2.2 with t4 | t4
  all_goals
    have t1 := hh.1
    have t2 := hh.2.1
    by_cases ho : c.oth = ⟨#[]⟩
    case neg =>
      by_cases nv : NameP c.vol
      case neg =>
        rw [validB_f fun h => nv ((valid_7 hk).1 h).2.1]
        repeat (first | refine use_pure (hNm _ _ _) fun _ => ?_ | refine use_pure (hIn _ _) fun _ => ?_ | simp (implicitDefEqProofs := false) (disch := omega) only [WPs, opds, List.all_cons, List.all_nil, List.cons_append, List.nil_append, cond_true, cond_false, eq_self, List.map_cons, List.map_nil, Nat.reduceAdd, Nat.testBit, Nat.reduceShiftRight, Nat.reduceAnd, Nat.reduceBNe, Nat.reduceMul, hc.one, hc.len, hc.bel, STs, Bool.not_true, Bool.not_false, decide_eq_false ho, nameB_f nv])
      rw [validB_f fun h => ho ((valid_7 hk).1 h).2.2.1]
      repeat (first | refine use_pure (hNm _ _ _) fun _ => ?_ | refine use_pure (hIn _ _) fun _ => ?_ | simp (implicitDefEqProofs := false) (disch := omega) only [WPs, opds, List.all_cons, List.all_nil, List.cons_append, List.nil_append, cond_true, cond_false, eq_self, List.map_cons, List.map_nil, Nat.reduceAdd, Nat.testBit, Nat.reduceShiftRight, Nat.reduceAnd, Nat.reduceBNe, Nat.reduceMul, hc.one, hc.len, hc.bel, STs, Bool.not_true, Bool.not_false, decide_eq_false ho, nameB_t nv])
    by_cases hd : c.data = []
    case neg =>
      have hdl : c.data.length ≠ 0 := fun h => hd (List.eq_nil_of_length_eq_zero h)
      by_cases nv : NameP c.vol
      case neg =>
        rw [validB_f fun h => nv ((valid_7 hk).1 h).2.1]
        repeat (first | refine use_pure (hNm _ _ _) fun _ => ?_ | refine use_pure (hIn _ _) fun _ => ?_ | simp (implicitDefEqProofs := false) (disch := omega) only [WPs, opds, List.all_cons, List.all_nil, List.cons_append, List.nil_append, cond_true, cond_false, eq_self, List.map_cons, List.map_nil, Nat.reduceAdd, Nat.testBit, Nat.reduceShiftRight, Nat.reduceAnd, Nat.reduceBNe, Nat.reduceMul, hc.one, hc.len, hc.bel, STs, Bool.not_true, Bool.not_false, decide_eq_true ho, nameB_f nv])
      rw [validB_f fun h => hd ((valid_7 hk).1 h).2.2.2.1]
      repeat (first | refine use_pure (hNm _ _ _) fun _ => ?_ | refine use_pure (hIn _ _) fun _ => ?_ | simp (implicitDefEqProofs := false) (disch := omega) only [WPs, opds, List.all_cons, List.all_nil, List.cons_append, List.nil_append, cond_true, cond_false, eq_self, List.map_cons, List.map_nil, Nat.reduceAdd, Nat.testBit, Nat.reduceShiftRight, Nat.reduceAnd, Nat.reduceBNe, Nat.reduceMul, hc.one, hc.len, hc.bel, STs, Bool.not_true, Bool.not_false, decide_eq_true ho, nameB_t nv])
    have hdl : c.data.length = 0 := by rw [hd]; rfl
    by_cases nv : NameP c.vol
    case neg =>
      rw [validB_f fun h => nv ((valid_7 hk).1 h).2.1]
      repeat (first | refine use_pure (hNm _ _ _) fun _ => ?_ | refine use_pure (hIn _ _) fun _ => ?_ | simp (implicitDefEqProofs := false) (disch := omega) only [WPs, opds, List.all_cons, List.all_nil, List.cons_append, List.nil_append, cond_true, cond_false, eq_self, List.map_cons, List.map_nil, Nat.reduceAdd, Nat.testBit, Nat.reduceShiftRight, Nat.reduceAnd, Nat.reduceBNe, Nat.reduceMul, hc.one, hc.len, hc.bel, STs, Bool.not_true, Bool.not_false, decide_eq_true ho, nameB_f nv])
    by_cases hf : c.force = false
    case neg =>
      have hf1 : c.force = true := by simpa using hf
      rw [validB_f fun h => hf ((valid_7 hk).1 h).2.2.2.2.1]
      repeat (first | refine use_pure (hNm _ _ _) fun _ => ?_ | refine use_pure (hIn _ _) fun _ => ?_ | simp (implicitDefEqProofs := false) (disch := omega) only [WPs, opds, List.all_cons, List.all_nil, List.cons_append, List.nil_append, cond_true, cond_false, eq_self, List.map_cons, List.map_nil, Nat.reduceAdd, Nat.testBit, Nat.reduceShiftRight, Nat.reduceAnd, Nat.reduceBNe, Nat.reduceMul, hc.one, hc.len, hc.bel, STs, Bool.not_true, Bool.not_false, decide_eq_true ho, nameB_t nv, hf1])
    by_cases g4 : c.at_ = 0
    case neg =>
      rw [validB_f fun h => g4 ((valid_7 hk).1 h).2.2.2.2.2.1]
      repeat (first | refine use_pure (hNm _ _ _) fun _ => ?_ | refine use_pure (hIn _ _) fun _ => ?_ | simp (implicitDefEqProofs := false) (disch := omega) only [WPs, opds, List.all_cons, List.all_nil, List.cons_append, List.nil_append, cond_true, cond_false, eq_self, List.map_cons, List.map_nil, Nat.reduceAdd, Nat.testBit, Nat.reduceShiftRight, Nat.reduceAnd, Nat.reduceBNe, Nat.reduceMul, hc.one, hc.len, hc.bel, STs, Bool.not_true, Bool.not_false, decide_eq_true ho, nameB_t nv, hf])
    by_cases g5 : c.len = 0
    case neg =>
      rw [validB_f fun h => g5 ((valid_7 hk).1 h).2.2.2.2.2.2]
      repeat (first | refine use_pure (hNm _ _ _) fun _ => ?_ | refine use_pure (hIn _ _) fun _ => ?_ | simp (implicitDefEqProofs := false) (disch := omega) only [WPs, opds, List.all_cons, List.all_nil, List.cons_append, List.nil_append, cond_true, cond_false, eq_self, List.map_cons, List.map_nil, Nat.reduceAdd, Nat.testBit, Nat.reduceShiftRight, Nat.reduceAnd, Nat.reduceBNe, Nat.reduceMul, hc.one, hc.len, hc.bel, STs, Bool.not_true, Bool.not_false, decide_eq_true ho, nameB_t nv, hf])
    rw [validB_t ((valid_7 hk).2 ⟨hh, nv, ho, hd, hf, g4, g5⟩)]
    repeat (first | refine use_pure (hNm _ _ _) fun _ => ?_ | refine use_pure (hIn _ _) fun _ => ?_ | simp (implicitDefEqProofs := false) (disch := omega) only [WPs, opds, List.all_cons, List.all_nil, List.cons_append, List.nil_append, cond_true, cond_false, eq_self, List.map_cons, List.map_nil, Nat.reduceAdd, Nat.testBit, Nat.reduceShiftRight, Nat.reduceAnd, Nat.reduceBNe, Nat.reduceMul, hc.one, hc.len, hc.bel, STs, Bool.not_true, Bool.not_false, decide_eq_true ho, nameB_t nv, hf])
set_option maxHeartbeats 8000000 in
theorem refValid_x (hE : E 23 = some ac23) (hN : E 47 = some ac47) (hI : E 48 = some ac48) (m : FM) (n : Nat) (c : Cmd) (d : Value) (hF : c.Fit) (hc : DatV m n d c.data) (hh : HeadP c) (hk : ¬ (1 ≤ c.kind ∧ c.kind ≤ 7)) :
    Pure (callW PG E Y 23 [cmdV c d] m n) m n (.bool (validB c)) := by
  obtain ⟨f1, f2, f3, f4, f5, f6, f7, f8⟩ := hF
  have hNm : ∀ m n s, Pure (callW PG E Y 47 [.string s] m n) m n (.bool (nameB s)) := fun m n s => Name_spec hN m n s
  have hIn : ∀ m n, Pure (callW PG E Y 48 [.int .i64 c.at_, .int .i64 c.len] m n) m n (.bool (decide (insideP c.at_ c.len))) := fun m n => within_spec hI m n _ _ f4 f5
  clear f1 f2 f3 f4 f5 f6 f7 f8
  refine pure_spec hE rfl rfl ?_
  simp only [ac23, cmdV]
  rcases hh.2.2 with t4 | t4
  all_goals
    have t1 := hh.1
    have t2 := hh.2.1
    rw [validB_f (valid_x hk)]
    by_cases ho : c.oth = ⟨#[]⟩
    case neg =>
      repeat (first | refine use_pure (hNm _ _ _) fun _ => ?_ | refine use_pure (hIn _ _) fun _ => ?_ | simp (implicitDefEqProofs := false) (disch := omega) only [WPs, opds, List.all_cons, List.all_nil, List.cons_append, List.nil_append, cond_true, cond_false, eq_self, List.map_cons, List.map_nil, Nat.reduceAdd, Nat.testBit, Nat.reduceShiftRight, Nat.reduceAnd, Nat.reduceBNe, Nat.reduceMul, hc.one, hc.len, hc.bel, STs, Bool.not_true, Bool.not_false, decide_eq_false ho])
    by_cases hd : c.data = []
    case neg =>
      have hdl : c.data.length ≠ 0 := fun h => hd (List.eq_nil_of_length_eq_zero h)
      repeat (first | refine use_pure (hNm _ _ _) fun _ => ?_ | refine use_pure (hIn _ _) fun _ => ?_ | simp (implicitDefEqProofs := false) (disch := omega) only [WPs, opds, List.all_cons, List.all_nil, List.cons_append, List.nil_append, cond_true, cond_false, eq_self, List.map_cons, List.map_nil, Nat.reduceAdd, Nat.testBit, Nat.reduceShiftRight, Nat.reduceAnd, Nat.reduceBNe, Nat.reduceMul, hc.one, hc.len, hc.bel, STs, Bool.not_true, Bool.not_false, decide_eq_true ho])
    have hdl : c.data.length = 0 := by rw [hd]; rfl
    repeat (first | refine use_pure (hNm _ _ _) fun _ => ?_ | refine use_pure (hIn _ _) fun _ => ?_ | simp (implicitDefEqProofs := false) (disch := omega) only [WPs, opds, List.all_cons, List.all_nil, List.cons_append, List.nil_append, cond_true, cond_false, eq_self, List.map_cons, List.map_nil, Nat.reduceAdd, Nat.testBit, Nat.reduceShiftRight, Nat.reduceAnd, Nat.reduceBNe, Nat.reduceMul, hc.one, hc.len, hc.bel, STs, Bool.not_true, Bool.not_false, decide_eq_true ho])
end Go.Am.C41
namespace Go.Am.C41
open Go Go.Am
variable {E : Nat → Option AFn} {Y : Nat → List Value → FM → Nat → OR FM}
set_option maxHeartbeats 8000000 in
theorem refValid_spec (hE : E 23 = some ac23) (hN : E 47 = some ac47) (hI : E 48 = some ac48) (m : FM) (n : Nat) (c : Cmd) (d : Value) (hF : c.Fit) (hc : DatV m n d c.data) :
    Pure (callW PG E Y 23 [cmdV c d] m n) m n (.bool (validB c)) := by
  by_cases hh : HeadP c
  case pos =>
    by_cases k1 : c.kind = 1
    · exact refValid_1 hE hN hI m n c d hF hc hh k1
    by_cases k2 : c.kind = 2
    · exact refValid_2 hE hN hI m n c d hF hc hh k2
    by_cases k3 : c.kind = 3
    · exact refValid_3 hE hN hI m n c d hF hc hh k3
    by_cases k4 : c.kind = 4
    · exact refValid_4 hE hN hI m n c d hF hc hh k4
    by_cases k5 : c.kind = 5
    · exact refValid_5 hE hN hI m n c d hF hc hh k5
    by_cases k6 : c.kind = 6
    · exact refValid_6 hE hN hI m n c d hF hc hh k6
    by_cases k7 : c.kind = 7
    · exact refValid_7 hE hN hI m n c d hF hc hh k7
    exact refValid_x hE hN hI m n c d hF hc hh (by omega)
  obtain ⟨f1, f2, f3, f4, f5, f6, f7, f8⟩ := hF
  have hNm : ∀ m n s, Pure (callW PG E Y 47 [.string s] m n) m n (.bool (nameB s)) := fun m n s => Name_spec hN m n s
  have hIn : ∀ m n, Pure (callW PG E Y 48 [.int .i64 c.at_, .int .i64 c.len] m n) m n (.bool (decide (insideP c.at_ c.len))) := fun m n => within_spec hI m n _ _ f4 f5
  clear f1 f2 f3 f4 f5 f6 f7 f8
  refine pure_spec hE rfl rfl ?_
  simp only [ac23, cmdV]
  rw [validB_f fun h => hh h.1]
  by_cases t1 : c.tag < 0
  case pos =>
    repeat (first | refine use_pure (hNm _ _ _) fun _ => ?_ | refine use_pure (hIn _ _) fun _ => ?_ | simp (implicitDefEqProofs := false) (disch := omega) only [WPs, opds, List.all_cons, List.all_nil, List.cons_append, List.nil_append, cond_true, cond_false, eq_self, List.map_cons, List.map_nil, Nat.reduceAdd, Nat.testBit, Nat.reduceShiftRight, Nat.reduceAnd, Nat.reduceBNe, Nat.reduceMul, hc.one, hc.len, hc.bel, STs, Bool.not_true, Bool.not_false])
  by_cases t2 : 2147483647 < c.tag
  case pos =>
    repeat (first | refine use_pure (hNm _ _ _) fun _ => ?_ | refine use_pure (hIn _ _) fun _ => ?_ | simp (implicitDefEqProofs := false) (disch := omega) only [WPs, opds, List.all_cons, List.all_nil, List.cons_append, List.nil_append, cond_true, cond_false, eq_self, List.map_cons, List.map_nil, Nat.reduceAdd, Nat.testBit, Nat.reduceShiftRight, Nat.reduceAnd, Nat.reduceBNe, Nat.reduceMul, hc.one, hc.len, hc.bel, STs, Bool.not_true, Bool.not_false])
  have t3 : ¬ (c.ord = 0 ∨ c.ord = 1) := fun h => hh ⟨by omega, by omega, h⟩
  repeat (first | refine use_pure (hNm _ _ _) fun _ => ?_ | refine use_pure (hIn _ _) fun _ => ?_ | simp (implicitDefEqProofs := false) (disch := omega) only [WPs, opds, List.all_cons, List.all_nil, List.cons_append, List.nil_append, cond_true, cond_false, eq_self, List.map_cons, List.map_nil, Nat.reduceAdd, Nat.testBit, Nat.reduceShiftRight, Nat.reduceAnd, Nat.reduceBNe, Nat.reduceMul, hc.one, hc.len, hc.bel, STs, Bool.not_true, Bool.not_false])
end Go.Am.C41
namespace Go.Am.C41
open Go Go.Am
variable {E : Nat → Option AFn} {Y : Nat → List Value → FM → Nat → OR FM}
structure Vals (E : Nat → Option AFn) (Y : Nat → List Value → FM → Nat → OR FM) : Prop where
  v29 : ∀ (m : FM) (n : Nat) (c : Cmd) (d : Value), c.Fit → DatV m n d c.data → Pure (callW PG E Y 30 [cmdV c d] m n) m n (.bool (validB c))
  v32 : ∀ (m : FM) (n : Nat) (c : Cmd) (d : Value), c.Fit → DatV m n d c.data → Pure (callW PG E Y 23 [cmdV c d] m n) m n (.bool (validB c))
def InRange (c : Cmd) : Prop := ValidP c ∧ c.kind ≤ 3
theorem kind_of {c : Cmd} (h : ValidP c) : 1 ≤ c.kind ∧ c.kind ≤ 7 := Classical.byContradiction fun hn => valid_x hn h
theorem range_in (hE : E 66 = some ac66) (hV : Vals E Y) (m : FM) (n : Nat) (c : Cmd) (d : Value) (hF : c.Fit) (hc : DatV m n d c.data) (h : InRange c) :
    Pure (callW PG E Y 66 [cmdV c d] m n) m n (.tuple #[.string c.vol, .int .i64 c.at_, .int .i64 c.len, .bool true]) := by
  refine pure_spec hE rfl rfl ?_
  have hk := h.2
  simp only [ac66, cmdV]
  simp (implicitDefEqProofs := false) (disch := omega) only [WPs, opds, List.all_cons, List.all_nil, List.cons_append, List.nil_append, cond_true, cond_false, eq_self, List.map_cons, List.map_nil, Nat.reduceAdd, Nat.testBit, Nat.reduceShiftRight, Nat.reduceAnd, Nat.reduceBNe, Nat.reduceMul, hc.one, hc.len]
  refine use_pure (hV.v29 _ _ c d hF (hc.frame (by omega) fun b hb => by simp (implicitDefEqProofs := false) (disch := omega) only [WPs, opds, List.all_cons, List.all_nil, List.cons_append, List.nil_append, cond_true, cond_false, eq_self, List.map_cons, List.map_nil, Nat.reduceAdd, Nat.testBit, Nat.reduceShiftRight, Nat.reduceAnd, Nat.reduceBNe, Nat.reduceMul])) fun r1 => ?_
  simp (implicitDefEqProofs := false) (disch := omega) only [WPs, opds, List.all_cons, List.all_nil, List.cons_append, List.nil_append, cond_true, cond_false, eq_self, List.map_cons, List.map_nil, Nat.reduceAdd, Nat.testBit, Nat.reduceShiftRight, Nat.reduceAnd, Nat.reduceBNe, Nat.reduceMul, validB_t h.1, Bool.not_true, hc.one, STs]
theorem range_out (hE : E 66 = some ac66) (hV : Vals E Y) (m : FM) (n : Nat) (c : Cmd) (d : Value) (hF : c.Fit) (hc : DatV m n d c.data) (h : ¬ InRange c) :
    Pure (callW PG E Y 66 [cmdV c d] m n) m n (.tuple #[.string ⟨#[]⟩, .int .i64 0, .int .i64 0, .bool false]) := by
  refine pure_spec hE rfl rfl ?_
  simp only [ac66, cmdV]
  simp (implicitDefEqProofs := false) (disch := omega) only [WPs, opds, List.all_cons, List.all_nil, List.cons_append, List.nil_append, cond_true, cond_false, eq_self, List.map_cons, List.map_nil, Nat.reduceAdd, Nat.testBit, Nat.reduceShiftRight, Nat.reduceAnd, Nat.reduceBNe, Nat.reduceMul, hc.one, hc.len]
  refine use_pure (hV.v29 _ _ c d hF (hc.frame (by omega) fun b hb => by simp (implicitDefEqProofs := false) (disch := omega) only [WPs, opds, List.all_cons, List.all_nil, List.cons_append, List.nil_append, cond_true, cond_false, eq_self, List.map_cons, List.map_nil, Nat.reduceAdd, Nat.testBit, Nat.reduceShiftRight, Nat.reduceAnd, Nat.reduceBNe, Nat.reduceMul])) fun r1 => ?_
  by_cases hv : ValidP c
  · have hk : ¬ c.kind ≤ 3 := fun hk => h ⟨hv, hk⟩
    simp (implicitDefEqProofs := false) (disch := omega) only [WPs, opds, List.all_cons, List.all_nil, List.cons_append, List.nil_append, cond_true, cond_false, eq_self, List.map_cons, List.map_nil, Nat.reduceAdd, Nat.testBit, Nat.reduceShiftRight, Nat.reduceAnd, Nat.reduceBNe, Nat.reduceMul, validB_t hv, Bool.not_true, hc.one, STs]
  · simp (implicitDefEqProofs := false) (disch := omega) only [WPs, opds, List.all_cons, List.all_nil, List.cons_append, List.nil_append, cond_true, cond_false, eq_self, List.map_cons, List.map_nil, Nat.reduceAdd, Nat.testBit, Nat.reduceShiftRight, Nat.reduceAnd, Nat.reduceBNe, Nat.reduceMul, validB_f hv, Bool.not_false, hc.one, STs]
theorem refRange_in (hE : E 61 = some ac61) (hV : Vals E Y) (m : FM) (n : Nat) (c : Cmd) (d : Value) (hF : c.Fit) (hc : DatV m n d c.data) (h : InRange c) :
    Pure (callW PG E Y 61 [cmdV c d] m n) m n (.tuple #[.string c.vol, .int .i64 c.at_, .int .i64 c.len, .bool true]) := by
  refine pure_spec hE rfl rfl ?_
  have hk := h.2
  have hk1 := kind_of h.1
  simp only [ac61, cmdV]
  simp (implicitDefEqProofs := false) (disch := omega) only [WPs, opds, List.all_cons, List.all_nil, List.cons_append, List.nil_append, cond_true, cond_false, eq_self, List.map_cons, List.map_nil, Nat.reduceAdd, Nat.testBit, Nat.reduceShiftRight, Nat.reduceAnd, Nat.reduceBNe, Nat.reduceMul, hc.one, hc.len]
  refine use_pure (hV.v32 _ _ c d hF (hc.frame (by omega) fun b hb => by simp (implicitDefEqProofs := false) (disch := omega) only [WPs, opds, List.all_cons, List.all_nil, List.cons_append, List.nil_append, cond_true, cond_false, eq_self, List.map_cons, List.map_nil, Nat.reduceAdd, Nat.testBit, Nat.reduceShiftRight, Nat.reduceAnd, Nat.reduceBNe, Nat.reduceMul])) fun r1 => ?_
  rcases (show c.kind = 1 ∨ c.kind = 2 ∨ c.kind = 3 by omega) with k | k | k
  · simp (implicitDefEqProofs := false) (disch := omega) only [WPs, opds, List.all_cons, List.all_nil, List.cons_append, List.nil_append, cond_true, cond_false, eq_self, List.map_cons, List.map_nil, Nat.reduceAdd, Nat.testBit, Nat.reduceShiftRight, Nat.reduceAnd, Nat.reduceBNe, Nat.reduceMul, validB_t h.1, Bool.not_true, hc.one, STs]
  · simp (implicitDefEqProofs := false) (disch := omega) only [WPs, opds, List.all_cons, List.all_nil, List.cons_append, List.nil_append, cond_true, cond_false, eq_self, List.map_cons, List.map_nil, Nat.reduceAdd, Nat.testBit, Nat.reduceShiftRight, Nat.reduceAnd, Nat.reduceBNe, Nat.reduceMul, validB_t h.1, Bool.not_true, hc.one, STs]
  · simp (implicitDefEqProofs := false) (disch := omega) only [WPs, opds, List.all_cons, List.all_nil, List.cons_append, List.nil_append, cond_true, cond_false, eq_self, List.map_cons, List.map_nil, Nat.reduceAdd, Nat.testBit, Nat.reduceShiftRight, Nat.reduceAnd, Nat.reduceBNe, Nat.reduceMul, validB_t h.1, Bool.not_true, hc.one, STs]
theorem refRange_out (hE : E 61 = some ac61) (hV : Vals E Y) (m : FM) (n : Nat) (c : Cmd) (d : Value) (hF : c.Fit) (hc : DatV m n d c.data) (h : ¬ InRange c) :
    Pure (callW PG E Y 61 [cmdV c d] m n) m n (.tuple #[.string ⟨#[]⟩, .int .i64 0, .int .i64 0, .bool false]) := by
  refine pure_spec hE rfl rfl ?_
  simp only [ac61, cmdV]
  simp (implicitDefEqProofs := false) (disch := omega) only [WPs, opds, List.all_cons, List.all_nil, List.cons_append, List.nil_append, cond_true, cond_false, eq_self, List.map_cons, List.map_nil, Nat.reduceAdd, Nat.testBit, Nat.reduceShiftRight, Nat.reduceAnd, Nat.reduceBNe, Nat.reduceMul, hc.one, hc.len]
  refine use_pure (hV.v32 _ _ c d hF (hc.frame (by omega) fun b hb => by simp (implicitDefEqProofs := false) (disch := omega) only [WPs, opds, List.all_cons, List.all_nil, List.cons_append, List.nil_append, cond_true, cond_false, eq_self, List.map_cons, List.map_nil, Nat.reduceAdd, Nat.testBit, Nat.reduceShiftRight, Nat.reduceAnd, Nat.reduceBNe, Nat.reduceMul])) fun r1 => ?_
  by_cases hv : ValidP c
  · have hk : ¬ c.kind ≤ 3 := fun hk => h ⟨hv, hk⟩
    simp (implicitDefEqProofs := false) (disch := omega) only [WPs, opds, List.all_cons, List.all_nil, List.cons_append, List.nil_append, cond_true, cond_false, eq_self, List.map_cons, List.map_nil, Nat.reduceAdd, Nat.testBit, Nat.reduceShiftRight, Nat.reduceAnd, Nat.reduceBNe, Nat.reduceMul, validB_t hv, Bool.not_true, hc.one, STs]
  · simp (implicitDefEqProofs := false) (disch := omega) only [WPs, opds, List.all_cons, List.all_nil, List.cons_append, List.nil_append, cond_true, cond_false, eq_self, List.map_cons, List.map_nil, Nat.reduceAdd, Nat.testBit, Nat.reduceShiftRight, Nat.reduceAnd, Nat.reduceBNe, Nat.reduceMul, validB_f hv, Bool.not_false, hc.one, STs]
def NamesP (a : Cmd) (s : ByteArray) : Prop := s ≠ ⟨#[]⟩ ∧ (a.vol = s ∨ a.oth = s)
open Classical in
noncomputable def namesB (a : Cmd) (s : ByteArray) : Bool := decide (NamesP a s)
open Classical in
theorem namesB_t {a : Cmd} {s : ByteArray} (h : NamesP a s) : namesB a s = true := by unfold namesB; exact decide_eq_true h
open Classical in
theorem namesB_f {a : Cmd} {s : ByteArray} (h : ¬ NamesP a s) : namesB a s = false := by unfold namesB; exact decide_eq_false h
theorem names_spec (hE : E 62 = some ac62) (m : FM) (n : Nat) (c : Cmd) (d : Value) (hd : one d = true) (s : ByteArray) :
    Pure (callW PG E Y 62 [cmdV c d, .string s] m n) m n (.bool (namesB c s)) := by
  refine pure_spec hE rfl rfl ?_
  simp only [ac62, cmdV]
  by_cases h0 : s = ⟨#[]⟩
  · rw [namesB_f fun h => h.1 h0]
    simp (implicitDefEqProofs := false) (disch := omega) only [WPs, opds, List.all_cons, List.all_nil, List.cons_append, List.nil_append, cond_true, cond_false, eq_self, List.map_cons, List.map_nil, Nat.reduceAdd, Nat.testBit, Nat.reduceShiftRight, Nat.reduceAnd, Nat.reduceBNe, Nat.reduceMul, hd, STs, decide_eq_true h0, Bool.not_true]
  · by_cases h1 : c.vol = s
    · rw [namesB_t ⟨h0, .inl h1⟩]
      simp (implicitDefEqProofs := false) (disch := omega) only [WPs, opds, List.all_cons, List.all_nil, List.cons_append, List.nil_append, cond_true, cond_false, eq_self, List.map_cons, List.map_nil, Nat.reduceAdd, Nat.testBit, Nat.reduceShiftRight, Nat.reduceAnd, Nat.reduceBNe, Nat.reduceMul, hd, STs, decide_eq_false h0, decide_eq_true h1, Bool.not_false]
    · by_cases h2 : c.oth = s
      · rw [namesB_t ⟨h0, .inr h2⟩]
        simp (implicitDefEqProofs := false) (disch := omega) only [WPs, opds, List.all_cons, List.all_nil, List.cons_append, List.nil_append, cond_true, cond_false, eq_self, List.map_cons, List.map_nil, Nat.reduceAdd, Nat.testBit, Nat.reduceShiftRight, Nat.reduceAnd, Nat.reduceBNe, Nat.reduceMul, hd, STs, decide_eq_false h0, decide_eq_false h1, decide_eq_true h2, Bool.not_false]
      · rw [namesB_f fun h => h.2.elim h1 h2]
        simp (implicitDefEqProofs := false) (disch := omega) only [WPs, opds, List.all_cons, List.all_nil, List.cons_append, List.nil_append, cond_true, cond_false, eq_self, List.map_cons, List.map_nil, Nat.reduceAdd, Nat.testBit, Nat.reduceShiftRight, Nat.reduceAnd, Nat.reduceBNe, Nat.reduceMul, hd, STs, decide_eq_false h0, decide_eq_false h1, decide_eq_false h2, Bool.not_false]
def OneOf (s : ByteArray) (b : Cmd) : Prop := s ≠ ⟨#[]⟩ ∧ (s = b.vol ∨ s = b.oth)
def SharesP (a b : Cmd) : Prop := OneOf a.vol b ∨ OneOf a.oth b
open Classical in
noncomputable def sharesB (a b : Cmd) : Bool := decide (SharesP a b)
open Classical in
theorem sharesB_t {a b : Cmd} (h : SharesP a b) : sharesB a b = true := by unfold sharesB; exact decide_eq_true h
open Classical in
theorem sharesB_f {a b : Cmd} (h : ¬ SharesP a b) : sharesB a b = false := by unfold sharesB; exact decide_eq_false h
theorem shares_names (a b : Cmd) : SharesP a b ↔ NamesP a b.vol ∨ NamesP a b.oth := by
  unfold SharesP OneOf NamesP
  constructor
  · rintro (⟨h, h1 | h1⟩ | ⟨h, h1 | h1⟩)
    · exact .inl ⟨h1 ▸ h, .inl h1⟩
    · exact .inr ⟨h1 ▸ h, .inl h1⟩
    · exact .inl ⟨h1 ▸ h, .inr h1⟩
    · exact .inr ⟨h1 ▸ h, .inr h1⟩
  · rintro (⟨h, h1 | h1⟩ | ⟨h, h1 | h1⟩)
    · exact .inl ⟨h1 ▸ h, .inl h1⟩
    · exact .inr ⟨h1 ▸ h, .inl h1⟩
    · exact .inl ⟨h1 ▸ h, .inr h1⟩
    · exact .inr ⟨h1 ▸ h, .inr h1⟩
end Go.Am.C41
namespace Go.Am.C41
open Go Go.Am
variable {E : Nat → Option AFn} {Y : Nat → List Value → FM → Nat → OR FM}
theorem sh_round (m : FM) (n pb : Nat) (a b : Cmd) (dd : Value) (hpb : pb < n) (hB : m pb = some (.cells (b.cells dd) 0 false true)) (x7 x8 x6 : Value) {Q : AX → List Value → FM → Nat → Nat → Prop} (j : Nat) (s : ByteArray) (hj : j < 2)
    (hg : cget [.string a.vol, .string a.oth] j = some (.string s)) (hQt : OneOf s b → ∀ e', Q (.ret (.bool true)) e' m n 0)
    (hQf : ¬ OneOf s b → ∀ x0 x2 x4, Gv (execW PG E Y ac65L0 [x0, .int .i64 ((j + 1 : Nat) : Int), x2, .agg #[.string a.vol, .string a.oth], x4, .pointer (some ⟨pb, 0, none⟩), x6, x7, x8] m n) Q) (x0 x2 x4 : Value) :
    Gv (execW PG E Y ac65L0 [x0, .int .i64 (j : Int), x2, .agg #[.string a.vol, .string a.oth], x4, .pointer (some ⟨pb, 0, none⟩), x6, x7, x8] m n) Q := by
  refine wr_loopN (L := ac65L0) (b := ac65L0b) rfl ?_
  simp only [ac65L0b]
  by_cases h0 : s = ⟨#[]⟩
  · have hn : ¬ OneOf s b := fun h => h.1 h0
    simp (implicitDefEqProofs := false) (disch := omega) only [WPs, opds, List.all_cons, List.all_nil, List.cons_append, List.nil_append, cond_true, cond_false, eq_self, List.map_cons, List.map_nil, Nat.reduceAdd, Nat.testBit, Nat.reduceShiftRight, Nat.reduceAnd, Nat.reduceBNe, Nat.reduceMul, STs, hg, hB, Cmd.cells, decide_eq_true h0, Bool.not_true]
    exact wr_end' ((hQf hn _ _ _).mono fun X e m n w hq => by simpa only [zero_lor'] using hq)
  · by_cases h1 : s = b.vol
    · have hn : OneOf s b := ⟨h0, .inl h1⟩
      simp (implicitDefEqProofs := false) (disch := omega) only [WPs, opds, List.all_cons, List.all_nil, List.cons_append, List.nil_append, cond_true, cond_false, eq_self, List.map_cons, List.map_nil, Nat.reduceAdd, Nat.testBit, Nat.reduceShiftRight, Nat.reduceAnd, Nat.reduceBNe, Nat.reduceMul, STs, hg, hB, Cmd.cells, decide_eq_false h0, decide_eq_true h1, Bool.not_false]
      exact hQt hn _
    · by_cases h2 : s = b.oth
      · have hn : OneOf s b := ⟨h0, .inr h2⟩
        simp (implicitDefEqProofs := false) (disch := omega) only [WPs, opds, List.all_cons, List.all_nil, List.cons_append, List.nil_append, cond_true, cond_false, eq_self, List.map_cons, List.map_nil, Nat.reduceAdd, Nat.testBit, Nat.reduceShiftRight, Nat.reduceAnd, Nat.reduceBNe, Nat.reduceMul, STs, hg, hB, Cmd.cells, decide_eq_false h0, decide_eq_false h1, decide_eq_true h2, Bool.not_false]
        exact hQt hn _
      · have hn : ¬ OneOf s b := fun h => h.2.elim h1 h2
        simp (implicitDefEqProofs := false) (disch := omega) only [WPs, opds, List.all_cons, List.all_nil, List.cons_append, List.nil_append, cond_true, cond_false, eq_self, List.map_cons, List.map_nil, Nat.reduceAdd, Nat.testBit, Nat.reduceShiftRight, Nat.reduceAnd, Nat.reduceBNe, Nat.reduceMul, STs, hg, hB, Cmd.cells, decide_eq_false h0, decide_eq_false h1, decide_eq_false h2, Bool.not_false]
        exact wr_end' ((hQf hn _ _ _).mono fun X e m n w hq => by simpa only [zero_lor'] using hq)
theorem sh_end (m : FM) (n pb : Nat) (a : Cmd) (x6 x7 x8 : Value) {Q : AX → List Value → FM → Nat → Nat → Prop} (hQ : ∀ e', Q (.exit 0) e' m n 0) (x0 x2 x4 : Value) :
    Gv (execW PG E Y ac65L0 [x0, .int .i64 ((1 + 1 : Nat) : Int), x2, .agg #[.string a.vol, .string a.oth], x4, .pointer (some ⟨pb, 0, none⟩), x6, x7, x8] m n) Q := by
  refine wr_loopN (L := ac65L0) (b := ac65L0b) rfl ?_
  simp only [ac65L0b]
  simp (implicitDefEqProofs := false) (disch := omega) only [WPs, opds, List.all_cons, List.all_nil, List.cons_append, List.nil_append, cond_true, cond_false, eq_self, List.map_cons, List.map_nil, Nat.reduceAdd, Nat.testBit, Nat.reduceShiftRight, Nat.reduceAnd, Nat.reduceBNe, Nat.reduceMul]
  exact hQ _
theorem shares_L (m : FM) (n pb : Nat) (a b : Cmd) (dd : Value) (hpb : pb < n) (hB : m pb = some (.cells (b.cells dd) 0 false true)) (x0 x2 x4 x6 x7 x8 : Value) {Q : AX → List Value → FM → Nat → Nat → Prop}
    (hQt : SharesP a b → ∀ e', Q (.ret (.bool true)) e' m n 0) (hQf : ¬ SharesP a b → ∀ e', Q (.exit 0) e' m n 0) :
    Gv (execW PG E Y ac65L0 [x0, .int .i64 0, x2, .agg #[.string a.vol, .string a.oth], x4, .pointer (some ⟨pb, 0, none⟩), x6, x7, x8] m n) Q :=
  sh_round m n pb a b dd hpb hB x7 x8 x6 0 a.vol (by omega) rfl (fun h => hQt (.inl h)) (fun h1 y0 y2 y4 =>
    sh_round m n pb a b dd hpb hB x7 x8 x6 1 a.oth (by omega) rfl (fun h => hQt (.inr h)) (fun h2 z0 z2 z4 =>
      sh_end m n pb a x6 x7 x8 (hQf fun h => h.elim h1 h2) z0 z2 z4) y0 y2 y4) x0 x2 x4
theorem shares_spec (hE : E 65 = some ac65) (m : FM) (n : Nat) (a b : Cmd) (d e : Value) (hd : one d = true) (he : one e = true) :
    Pure (callW PG E Y 65 [cmdV a d, cmdV b e] m n) m n (.bool (sharesB a b)) := by
  refine pure_spec hE rfl rfl ?_
  simp only [ac65, cmdV]
  simp (implicitDefEqProofs := false) (disch := omega) only [WPs, opds, List.all_cons, List.all_nil, List.cons_append, List.nil_append, cond_true, cond_false, eq_self, List.map_cons, List.map_nil, Nat.reduceAdd, Nat.testBit, Nat.reduceShiftRight, Nat.reduceAnd, Nat.reduceBNe, Nat.reduceMul, hd, he, STs]
  refine wr_cps (shares_L _ (n + 2) (n + 1) a b e (by omega) (fput_same _ _ _) _ _ _ _ _ _ (fun h e' r1 => ?_) (fun h e' r1 => ?_))
  · rw [sharesB_t h]
    simp (implicitDefEqProofs := false) (disch := omega) only [WPs, opds, List.all_cons, List.all_nil, List.cons_append, List.nil_append, cond_true, cond_false, eq_self, List.map_cons, List.map_nil, Nat.reduceAdd, Nat.testBit, Nat.reduceShiftRight, Nat.reduceAnd, Nat.reduceBNe, Nat.reduceMul]
  · rw [sharesB_f h]
    simp (implicitDefEqProofs := false) (disch := omega) only [WPs, opds, List.all_cons, List.all_nil, List.cons_append, List.nil_append, cond_true, cond_false, eq_self, List.map_cons, List.map_nil, Nat.reduceAdd, Nat.testBit, Nat.reduceShiftRight, Nat.reduceAnd, Nat.reduceBNe, Nat.reduceMul]
def RangesP (a b : Cmd) : Prop := a.vol = b.vol ∧ a.at_ < b.at_ + b.len ∧ b.at_ < a.at_ + a.len ∧ (a.kind ≠ 1 ∨ b.kind ≠ 1)
def OverP (a b : Cmd) : Prop := ValidP a ∧ ValidP b ∧ (((5 ≤ a.kind ∨ 5 ≤ b.kind) ∧ SharesP a b) ∨ (a.kind ≤ 3 ∧ b.kind ≤ 3 ∧ RangesP a b))
open Classical in
noncomputable def overB (a b : Cmd) : Bool := decide (OverP a b)
open Classical in
theorem overB_t {a b : Cmd} (h : OverP a b) : overB a b = true := by unfold overB; exact decide_eq_true h
open Classical in
theorem overB_f {a b : Cmd} (h : ¬ OverP a b) : overB a b = false := by unfold overB; exact decide_eq_false h
theorem in_small {c : Cmd} (h : InRange c) : 0 ≤ c.at_ ∧ c.at_ ≤ 65536 ∧ 1 ≤ c.len ∧ c.len ≤ 65536 := by
  obtain ⟨hv, hk⟩ := h
  have hk1 := kind_of hv
  rcases (show c.kind = 1 ∨ c.kind = 2 ∨ c.kind = 3 by omega) with k | k | k
  · obtain ⟨_, _, _, _, ⟨h1, h2, h3, h4, h5⟩, _⟩ := ((valid_1 k).1 hv).2
    omega
  · obtain ⟨_, _, ⟨h1, h2, h3, h4, h5⟩, _⟩ := ((valid_2 k).1 hv).2
    omega
  · obtain ⟨_, _, _, ⟨h1, h2, h3, h4, h5⟩⟩ := ((valid_3 k).1 hv).2
    omega
theorem x4_0 (a b c d : Value) : extrV 0 (.tuple #[a, b, c, d]) = some a := rfl
theorem x4_1 (a b c d : Value) : extrV 1 (.tuple #[a, b, c, d]) = some b := rfl
theorem x4_2 (a b c d : Value) : extrV 2 (.tuple #[a, b, c, d]) = some c := rfl
theorem x4_3 (a b c d : Value) : extrV 3 (.tuple #[a, b, c, d]) = some d := rfl
theorem overlap_spec (hE : E 58 = some ac58) (h30 : E 65 = some ac65) (h31 : E 66 = some ac66) (hV : Vals E Y) (m : FM) (n : Nat) (a b : Cmd) (d e : Value) (hF : a.Fit) (hG : b.Fit) (hd : DatV m n d a.data) (he : DatV m n e b.data) :
    Pure (callW PG E Y 58 [cmdV a d, cmdV b e] m n) m n (.bool (overB a b)) := by
  refine pure_spec hE rfl rfl ?_
  simp only [ac58, cmdV]
  simp (implicitDefEqProofs := false) (disch := omega) only [WPs, opds, List.all_cons, List.all_nil, List.cons_append, List.nil_append, cond_true, cond_false, eq_self, List.map_cons, List.map_nil, Nat.reduceAdd, Nat.testBit, Nat.reduceShiftRight, Nat.reduceAnd, Nat.reduceBNe, Nat.reduceMul, hd.one, he.one]
  refine use_pure (hV.v29 _ _ a d hF (hd.frame (by omega) fun b hb => by simp (implicitDefEqProofs := false) (disch := omega) only [WPs, opds, List.all_cons, List.all_nil, List.cons_append, List.nil_append, cond_true, cond_false, eq_self, List.map_cons, List.map_nil, Nat.reduceAdd, Nat.testBit, Nat.reduceShiftRight, Nat.reduceAnd, Nat.reduceBNe, Nat.reduceMul])) fun r1 => ?_
  by_cases va : ValidP a
  case neg =>
    rw [overB_f fun h => va h.1]
    simp (implicitDefEqProofs := false) (disch := omega) only [WPs, opds, List.all_cons, List.all_nil, List.cons_append, List.nil_append, cond_true, cond_false, eq_self, List.map_cons, List.map_nil, Nat.reduceAdd, Nat.testBit, Nat.reduceShiftRight, Nat.reduceAnd, Nat.reduceBNe, Nat.reduceMul, validB_f va, Bool.not_false, hd.one, he.one]
  simp (implicitDefEqProofs := false) (disch := omega) only [WPs, opds, List.all_cons, List.all_nil, List.cons_append, List.nil_append, cond_true, cond_false, eq_self, List.map_cons, List.map_nil, Nat.reduceAdd, Nat.testBit, Nat.reduceShiftRight, Nat.reduceAnd, Nat.reduceBNe, Nat.reduceMul, validB_t va, Bool.not_true, hd.one, he.one]
  refine use_pure (hV.v29 _ _ b e hG (he.frame (by omega) fun b hb => by simp (implicitDefEqProofs := false) (disch := omega) only [WPs, opds, List.all_cons, List.all_nil, List.cons_append, List.nil_append, cond_true, cond_false, eq_self, List.map_cons, List.map_nil, Nat.reduceAdd, Nat.testBit, Nat.reduceShiftRight, Nat.reduceAnd, Nat.reduceBNe, Nat.reduceMul])) fun r2 => ?_
  by_cases vb : ValidP b
  case neg =>
    rw [overB_f fun h => vb h.2.1]
    simp (implicitDefEqProofs := false) (disch := omega) only [WPs, opds, List.all_cons, List.all_nil, List.cons_append, List.nil_append, cond_true, cond_false, eq_self, List.map_cons, List.map_nil, Nat.reduceAdd, Nat.testBit, Nat.reduceShiftRight, Nat.reduceAnd, Nat.reduceBNe, Nat.reduceMul, validB_f vb, Bool.not_false, hd.one, he.one]
  have shr : 5 ≤ a.kind ∨ 5 ≤ b.kind → overB a b = sharesB a b := fun h => by
    by_cases hs : SharesP a b
    · rw [sharesB_t hs, overB_t ⟨va, vb, .inl ⟨h, hs⟩⟩]
    · rw [sharesB_f hs, overB_f fun ho => by
        rcases ho.2.2 with h1 | h1
        · exact hs h1.2
        · have := h1.1; have := h1.2.1; omega]
  by_cases k1 : 5 ≤ a.kind
  · rw [shr (.inl k1)]
    simp (implicitDefEqProofs := false) (disch := omega) only [WPs, opds, List.all_cons, List.all_nil, List.cons_append, List.nil_append, cond_true, cond_false, eq_self, List.map_cons, List.map_nil, Nat.reduceAdd, Nat.testBit, Nat.reduceShiftRight, Nat.reduceAnd, Nat.reduceBNe, Nat.reduceMul, validB_t vb, Bool.not_true, hd.one, he.one]
    refine use_pure (shares_spec h30 _ _ a b d e hd.one he.one) fun r3 => ?_
    simp (implicitDefEqProofs := false) (disch := omega) only [WPs, opds, List.all_cons, List.all_nil, List.cons_append, List.nil_append, cond_true, cond_false, eq_self, List.map_cons, List.map_nil, Nat.reduceAdd, Nat.testBit, Nat.reduceShiftRight, Nat.reduceAnd, Nat.reduceBNe, Nat.reduceMul]
  by_cases k2 : 5 ≤ b.kind
  · rw [shr (.inr k2)]
    simp (implicitDefEqProofs := false) (disch := omega) only [WPs, opds, List.all_cons, List.all_nil, List.cons_append, List.nil_append, cond_true, cond_false, eq_self, List.map_cons, List.map_nil, Nat.reduceAdd, Nat.testBit, Nat.reduceShiftRight, Nat.reduceAnd, Nat.reduceBNe, Nat.reduceMul, validB_t vb, Bool.not_true, hd.one, he.one]
    refine use_pure (shares_spec h30 _ _ a b d e hd.one he.one) fun r3 => ?_
    simp (implicitDefEqProofs := false) (disch := omega) only [WPs, opds, List.all_cons, List.all_nil, List.cons_append, List.nil_append, cond_true, cond_false, eq_self, List.map_cons, List.map_nil, Nat.reduceAdd, Nat.testBit, Nat.reduceShiftRight, Nat.reduceAnd, Nat.reduceBNe, Nat.reduceMul]
  simp (implicitDefEqProofs := false) (disch := omega) only [WPs, opds, List.all_cons, List.all_nil, List.cons_append, List.nil_append, cond_true, cond_false, eq_self, List.map_cons, List.map_nil, Nat.reduceAdd, Nat.testBit, Nat.reduceShiftRight, Nat.reduceAnd, Nat.reduceBNe, Nat.reduceMul, validB_t vb, Bool.not_true, hd.one, he.one]
  by_cases ra : a.kind ≤ 3
  case neg =>
    rw [overB_f fun h => by
      rcases h.2.2 with h1 | h1
      · omega
      · have := h1.1; omega]
    refine use_pure (range_out h31 hV _ _ a d hF (hd.frame (by omega) fun b hb => by simp (implicitDefEqProofs := false) (disch := omega) only [WPs, opds, List.all_cons, List.all_nil, List.cons_append, List.nil_append, cond_true, cond_false, eq_self, List.map_cons, List.map_nil, Nat.reduceAdd, Nat.testBit, Nat.reduceShiftRight, Nat.reduceAnd, Nat.reduceBNe, Nat.reduceMul]) fun h => ra h.2) fun r3 => ?_
    simp (implicitDefEqProofs := false) (disch := omega) only [WPs, opds, List.all_cons, List.all_nil, List.cons_append, List.nil_append, cond_true, cond_false, eq_self, List.map_cons, List.map_nil, Nat.reduceAdd, Nat.testBit, Nat.reduceShiftRight, Nat.reduceAnd, Nat.reduceBNe, Nat.reduceMul, x4_0, x4_1, x4_2, x4_3, hd.one, he.one]
    by_cases rb : b.kind ≤ 3
    · refine use_pure (range_in h31 hV _ _ b e hG (he.frame (by omega) fun b hb => by simp (implicitDefEqProofs := false) (disch := omega) only [WPs, opds, List.all_cons, List.all_nil, List.cons_append, List.nil_append, cond_true, cond_false, eq_self, List.map_cons, List.map_nil, Nat.reduceAdd, Nat.testBit, Nat.reduceShiftRight, Nat.reduceAnd, Nat.reduceBNe, Nat.reduceMul]) ⟨vb, rb⟩) fun r4 => ?_
      simp (implicitDefEqProofs := false) (disch := omega) only [WPs, opds, List.all_cons, List.all_nil, List.cons_append, List.nil_append, cond_true, cond_false, eq_self, List.map_cons, List.map_nil, Nat.reduceAdd, Nat.testBit, Nat.reduceShiftRight, Nat.reduceAnd, Nat.reduceBNe, Nat.reduceMul, x4_0, x4_1, x4_2, x4_3, hd.one, he.one]
    · refine use_pure (range_out h31 hV _ _ b e hG (he.frame (by omega) fun b hb => by simp (implicitDefEqProofs := false) (disch := omega) only [WPs, opds, List.all_cons, List.all_nil, List.cons_append, List.nil_append, cond_true, cond_false, eq_self, List.map_cons, List.map_nil, Nat.reduceAdd, Nat.testBit, Nat.reduceShiftRight, Nat.reduceAnd, Nat.reduceBNe, Nat.reduceMul]) fun h => rb h.2) fun r4 => ?_
      simp (implicitDefEqProofs := false) (disch := omega) only [WPs, opds, List.all_cons, List.all_nil, List.cons_append, List.nil_append, cond_true, cond_false, eq_self, List.map_cons, List.map_nil, Nat.reduceAdd, Nat.testBit, Nat.reduceShiftRight, Nat.reduceAnd, Nat.reduceBNe, Nat.reduceMul, x4_0, x4_1, x4_2, x4_3, hd.one, he.one]
  refine use_pure (range_in h31 hV _ _ a d hF (hd.frame (by omega) fun b hb => by simp (implicitDefEqProofs := false) (disch := omega) only [WPs, opds, List.all_cons, List.all_nil, List.cons_append, List.nil_append, cond_true, cond_false, eq_self, List.map_cons, List.map_nil, Nat.reduceAdd, Nat.testBit, Nat.reduceShiftRight, Nat.reduceAnd, Nat.reduceBNe, Nat.reduceMul]) ⟨va, ra⟩) fun r3 => ?_
  simp (implicitDefEqProofs := false) (disch := omega) only [WPs, opds, List.all_cons, List.all_nil, List.cons_append, List.nil_append, cond_true, cond_false, eq_self, List.map_cons, List.map_nil, Nat.reduceAdd, Nat.testBit, Nat.reduceShiftRight, Nat.reduceAnd, Nat.reduceBNe, Nat.reduceMul, x4_0, x4_1, x4_2, x4_3, hd.one, he.one]
  by_cases rb : b.kind ≤ 3
  case neg =>
    rw [overB_f fun h => by
      rcases h.2.2 with h1 | h1
      · omega
      · have := h1.2.1; omega]
    refine use_pure (range_out h31 hV _ _ b e hG (he.frame (by omega) fun b hb => by simp (implicitDefEqProofs := false) (disch := omega) only [WPs, opds, List.all_cons, List.all_nil, List.cons_append, List.nil_append, cond_true, cond_false, eq_self, List.map_cons, List.map_nil, Nat.reduceAdd, Nat.testBit, Nat.reduceShiftRight, Nat.reduceAnd, Nat.reduceBNe, Nat.reduceMul]) fun h => rb h.2) fun r4 => ?_
    simp (implicitDefEqProofs := false) (disch := omega) only [WPs, opds, List.all_cons, List.all_nil, List.cons_append, List.nil_append, cond_true, cond_false, eq_self, List.map_cons, List.map_nil, Nat.reduceAdd, Nat.testBit, Nat.reduceShiftRight, Nat.reduceAnd, Nat.reduceBNe, Nat.reduceMul, x4_0, x4_1, x4_2, x4_3, hd.one, he.one]
  refine use_pure (range_in h31 hV _ _ b e hG (he.frame (by omega) fun b hb => by simp (implicitDefEqProofs := false) (disch := omega) only [WPs, opds, List.all_cons, List.all_nil, List.cons_append, List.nil_append, cond_true, cond_false, eq_self, List.map_cons, List.map_nil, Nat.reduceAdd, Nat.testBit, Nat.reduceShiftRight, Nat.reduceAnd, Nat.reduceBNe, Nat.reduceMul]) ⟨vb, rb⟩) fun r4 => ?_
  have sa := in_small ⟨va, ra⟩
  have sb := in_small ⟨vb, rb⟩
  have no : ¬ RangesP a b → overB a b = false := fun hn => overB_f fun h => by
    rcases h.2.2 with h1 | h1
    · omega
    · exact hn h1.2.2
  by_cases c1 : a.vol = b.vol
  case neg =>
    rw [no fun h => c1 h.1]
    simp (implicitDefEqProofs := false) (disch := omega) only [WPs, opds, List.all_cons, List.all_nil, List.cons_append, List.nil_append, cond_true, cond_false, eq_self, List.map_cons, List.map_nil, Nat.reduceAdd, Nat.testBit, Nat.reduceShiftRight, Nat.reduceAnd, Nat.reduceBNe, Nat.reduceMul, x4_0, x4_1, x4_2, x4_3, hd.one, he.one, STs, decide_eq_false c1]
  by_cases c2 : a.at_ < b.at_ + b.len
  case neg =>
    rw [no fun h => c2 h.2.1]
    simp (implicitDefEqProofs := false) (disch := omega) only [WPs, opds, List.all_cons, List.all_nil, List.cons_append, List.nil_append, cond_true, cond_false, eq_self, List.map_cons, List.map_nil, Nat.reduceAdd, Nat.testBit, Nat.reduceShiftRight, Nat.reduceAnd, Nat.reduceBNe, Nat.reduceMul, x4_0, x4_1, x4_2, x4_3, hd.one, he.one, STs, decide_eq_true c1]
  by_cases c3 : b.at_ < a.at_ + a.len
  case neg =>
    rw [no fun h => c3 h.2.2.1]
    simp (implicitDefEqProofs := false) (disch := omega) only [WPs, opds, List.all_cons, List.all_nil, List.cons_append, List.nil_append, cond_true, cond_false, eq_self, List.map_cons, List.map_nil, Nat.reduceAdd, Nat.testBit, Nat.reduceShiftRight, Nat.reduceAnd, Nat.reduceBNe, Nat.reduceMul, x4_0, x4_1, x4_2, x4_3, hd.one, he.one, STs, decide_eq_true c1]
  by_cases c4 : a.kind = 1
  case neg =>
    rw [overB_t ⟨va, vb, .inr ⟨ra, rb, c1, c2, c3, .inl c4⟩⟩]
    simp (implicitDefEqProofs := false) (disch := omega) only [WPs, opds, List.all_cons, List.all_nil, List.cons_append, List.nil_append, cond_true, cond_false, eq_self, List.map_cons, List.map_nil, Nat.reduceAdd, Nat.testBit, Nat.reduceShiftRight, Nat.reduceAnd, Nat.reduceBNe, Nat.reduceMul, x4_0, x4_1, x4_2, x4_3, hd.one, he.one, STs, decide_eq_true c1]
  by_cases c5 : b.kind = 1
  case neg =>
    rw [overB_t ⟨va, vb, .inr ⟨ra, rb, c1, c2, c3, .inr c5⟩⟩]
    simp (implicitDefEqProofs := false) (disch := omega) only [WPs, opds, List.all_cons, List.all_nil, List.cons_append, List.nil_append, cond_true, cond_false, eq_self, List.map_cons, List.map_nil, Nat.reduceAdd, Nat.testBit, Nat.reduceShiftRight, Nat.reduceAnd, Nat.reduceBNe, Nat.reduceMul, x4_0, x4_1, x4_2, x4_3, hd.one, he.one, STs, decide_eq_true c1]
  rw [no fun h => h.2.2.2.elim (fun h => h c4) fun h => h c5]
  simp (implicitDefEqProofs := false) (disch := omega) only [WPs, opds, List.all_cons, List.all_nil, List.cons_append, List.nil_append, cond_true, cond_false, eq_self, List.map_cons, List.map_nil, Nat.reduceAdd, Nat.testBit, Nat.reduceShiftRight, Nat.reduceAnd, Nat.reduceBNe, Nat.reduceMul, x4_0, x4_1, x4_2, x4_3, hd.one, he.one, STs, decide_eq_true c1]
end Go.Am.C41
namespace Go.Am.C41
open Go Go.Am
variable {E : Nat → Option AFn} {Y : Nat → List Value → FM → Nat → OR FM}
theorem refOverlap_spec (hE : E 42 = some ac42) (h33 : E 61 = some ac61) (h34 : E 62 = some ac62) (hV : Vals E Y) (m : FM) (n : Nat) (a b : Cmd) (d e : Value) (hF : a.Fit) (hG : b.Fit) (hd : DatV m n d a.data) (he : DatV m n e b.data) :
    Pure (callW PG E Y 42 [cmdV a d, cmdV b e] m n) m n (.bool (overB a b)) := by
  refine pure_spec hE rfl rfl ?_
  simp only [ac42, cmdV]
  simp (implicitDefEqProofs := false) (disch := omega) only [WPs, opds, List.all_cons, List.all_nil, List.cons_append, List.nil_append, cond_true, cond_false, eq_self, List.map_cons, List.map_nil, Nat.reduceAdd, Nat.testBit, Nat.reduceShiftRight, Nat.reduceAnd, Nat.reduceBNe, Nat.reduceMul, hd.one, he.one]
  refine use_pure (hV.v32 _ _ a d hF (hd.frame (by omega) fun b hb => by simp (implicitDefEqProofs := false) (disch := omega) only [WPs, opds, List.all_cons, List.all_nil, List.cons_append, List.nil_append, cond_true, cond_false, eq_self, List.map_cons, List.map_nil, Nat.reduceAdd, Nat.testBit, Nat.reduceShiftRight, Nat.reduceAnd, Nat.reduceBNe, Nat.reduceMul])) fun r1 => ?_
  by_cases va : ValidP a
  case neg =>
    rw [overB_f fun h => va h.1]
    simp (implicitDefEqProofs := false) (disch := omega) only [WPs, opds, List.all_cons, List.all_nil, List.cons_append, List.nil_append, cond_true, cond_false, eq_self, List.map_cons, List.map_nil, Nat.reduceAdd, Nat.testBit, Nat.reduceShiftRight, Nat.reduceAnd, Nat.reduceBNe, Nat.reduceMul, validB_f va, Bool.not_false, hd.one, he.one]
  simp (implicitDefEqProofs := false) (disch := omega) only [WPs, opds, List.all_cons, List.all_nil, List.cons_append, List.nil_append, cond_true, cond_false, eq_self, List.map_cons, List.map_nil, Nat.reduceAdd, Nat.testBit, Nat.reduceShiftRight, Nat.reduceAnd, Nat.reduceBNe, Nat.reduceMul, validB_t va, Bool.not_true, hd.one, he.one]
  refine use_pure (hV.v32 _ _ b e hG (he.frame (by omega) fun b hb => by simp (implicitDefEqProofs := false) (disch := omega) only [WPs, opds, List.all_cons, List.all_nil, List.cons_append, List.nil_append, cond_true, cond_false, eq_self, List.map_cons, List.map_nil, Nat.reduceAdd, Nat.testBit, Nat.reduceShiftRight, Nat.reduceAnd, Nat.reduceBNe, Nat.reduceMul])) fun r2 => ?_
  by_cases vb : ValidP b
  case neg =>
    rw [overB_f fun h => vb h.2.1]
    simp (implicitDefEqProofs := false) (disch := omega) only [WPs, opds, List.all_cons, List.all_nil, List.cons_append, List.nil_append, cond_true, cond_false, eq_self, List.map_cons, List.map_nil, Nat.reduceAdd, Nat.testBit, Nat.reduceShiftRight, Nat.reduceAnd, Nat.reduceBNe, Nat.reduceMul, validB_f vb, Bool.not_false, hd.one, he.one]
  simp (implicitDefEqProofs := false) (disch := omega) only [WPs, opds, List.all_cons, List.all_nil, List.cons_append, List.nil_append, cond_true, cond_false, eq_self, List.map_cons, List.map_nil, Nat.reduceAdd, Nat.testBit, Nat.reduceShiftRight, Nat.reduceAnd, Nat.reduceBNe, Nat.reduceMul, validB_t vb, Bool.not_true, hd.one, he.one]
  have hA : ∃ (v : ByteArray) (x y : Int), (a.kind ≤ 3 → v = a.vol ∧ x = a.at_ ∧ y = a.len) ∧ ∀ m n, DatV m n d a.data → Pure (callW PG E Y 61 [cmdV a d] m n) m n (.tuple #[.string v, .int .i64 x, .int .i64 y, .bool (decide (a.kind ≤ 3))]) := by
    by_cases ra : a.kind ≤ 3
    · rw [decide_eq_true ra]
      exact ⟨a.vol, a.at_, a.len, fun _ => ⟨rfl, rfl, rfl⟩, fun m n h => refRange_in h33 hV m n a d hF h ⟨va, ra⟩⟩
    · rw [decide_eq_false ra]
      exact ⟨⟨#[]⟩, 0, 0, fun h => absurd h ra, fun m n h => refRange_out h33 hV m n a d hF h fun h => ra h.2⟩
  have hB : ∃ (v : ByteArray) (x y : Int), (b.kind ≤ 3 → v = b.vol ∧ x = b.at_ ∧ y = b.len) ∧ ∀ m n, DatV m n e b.data → Pure (callW PG E Y 61 [cmdV b e] m n) m n (.tuple #[.string v, .int .i64 x, .int .i64 y, .bool (decide (b.kind ≤ 3))]) := by
    by_cases rb : b.kind ≤ 3
    · rw [decide_eq_true rb]
      exact ⟨b.vol, b.at_, b.len, fun _ => ⟨rfl, rfl, rfl⟩, fun m n h => refRange_in h33 hV m n b e hG h ⟨vb, rb⟩⟩
    · rw [decide_eq_false rb]
      exact ⟨⟨#[]⟩, 0, 0, fun h => absurd h rb, fun m n h => refRange_out h33 hV m n b e hG h fun h => rb h.2⟩
  obtain ⟨v, x, y, hv, hA⟩ := hA
  obtain ⟨v', x', y', hv', hB⟩ := hB
  refine use_pure (hA _ _ (hd.frame (by omega) fun b hb => by simp (implicitDefEqProofs := false) (disch := omega) only [WPs, opds, List.all_cons, List.all_nil, List.cons_append, List.nil_append, cond_true, cond_false, eq_self, List.map_cons, List.map_nil, Nat.reduceAdd, Nat.testBit, Nat.reduceShiftRight, Nat.reduceAnd, Nat.reduceBNe, Nat.reduceMul])) fun r3 => ?_
  simp (implicitDefEqProofs := false) (disch := omega) only [WPs, opds, List.all_cons, List.all_nil, List.cons_append, List.nil_append, cond_true, cond_false, eq_self, List.map_cons, List.map_nil, Nat.reduceAdd, Nat.testBit, Nat.reduceShiftRight, Nat.reduceAnd, Nat.reduceBNe, Nat.reduceMul, x4_0, x4_1, x4_2, x4_3, hd.one, he.one]
  refine use_pure (hB _ _ (he.frame (by omega) fun b hb => by simp (implicitDefEqProofs := false) (disch := omega) only [WPs, opds, List.all_cons, List.all_nil, List.cons_append, List.nil_append, cond_true, cond_false, eq_self, List.map_cons, List.map_nil, Nat.reduceAdd, Nat.testBit, Nat.reduceShiftRight, Nat.reduceAnd, Nat.reduceBNe, Nat.reduceMul])) fun r4 => ?_
  by_cases hab : a.kind ≤ 3 ∧ b.kind ≤ 3
  · obtain ⟨ra, rb⟩ := hab
    obtain ⟨rfl, rfl, rfl⟩ := hv ra
    obtain ⟨rfl, rfl, rfl⟩ := hv' rb
    have sa := in_small ⟨va, ra⟩
    have sb := in_small ⟨vb, rb⟩
    have no : ¬ RangesP a b → overB a b = false := fun hn => overB_f fun h => by
      rcases h.2.2 with h1 | h1
      · omega
      · exact hn h1.2.2
    by_cases c1 : a.vol = b.vol
    case neg =>
      rw [no fun h => c1 h.1]
      simp (implicitDefEqProofs := false) (disch := omega) only [WPs, opds, List.all_cons, List.all_nil, List.cons_append, List.nil_append, cond_true, cond_false, eq_self, List.map_cons, List.map_nil, Nat.reduceAdd, Nat.testBit, Nat.reduceShiftRight, Nat.reduceAnd, Nat.reduceBNe, Nat.reduceMul, x4_0, x4_1, x4_2, x4_3, hd.one, he.one, STs, decide_eq_false c1]
    by_cases c2 : a.at_ < b.at_ + b.len
    case neg =>
      rw [no fun h => c2 h.2.1]
      simp (implicitDefEqProofs := false) (disch := omega) only [WPs, opds, List.all_cons, List.all_nil, List.cons_append, List.nil_append, cond_true, cond_false, eq_self, List.map_cons, List.map_nil, Nat.reduceAdd, Nat.testBit, Nat.reduceShiftRight, Nat.reduceAnd, Nat.reduceBNe, Nat.reduceMul, x4_0, x4_1, x4_2, x4_3, hd.one, he.one, STs, decide_eq_true c1]
    by_cases c3 : b.at_ < a.at_ + a.len
    case neg =>
      rw [no fun h => c3 h.2.2.1]
      simp (implicitDefEqProofs := false) (disch := omega) only [WPs, opds, List.all_cons, List.all_nil, List.cons_append, List.nil_append, cond_true, cond_false, eq_self, List.map_cons, List.map_nil, Nat.reduceAdd, Nat.testBit, Nat.reduceShiftRight, Nat.reduceAnd, Nat.reduceBNe, Nat.reduceMul, x4_0, x4_1, x4_2, x4_3, hd.one, he.one, STs, decide_eq_true c1]
    by_cases c4 : a.kind = 1
    case neg =>
      rw [overB_t ⟨va, vb, .inr ⟨ra, rb, c1, c2, c3, .inl c4⟩⟩]
      simp (implicitDefEqProofs := false) (disch := omega) only [WPs, opds, List.all_cons, List.all_nil, List.cons_append, List.nil_append, cond_true, cond_false, eq_self, List.map_cons, List.map_nil, Nat.reduceAdd, Nat.testBit, Nat.reduceShiftRight, Nat.reduceAnd, Nat.reduceBNe, Nat.reduceMul, x4_0, x4_1, x4_2, x4_3, hd.one, he.one, STs, decide_eq_true c1]
    by_cases c5 : b.kind = 1
    case neg =>
      rw [overB_t ⟨va, vb, .inr ⟨ra, rb, c1, c2, c3, .inr c5⟩⟩]
      simp (implicitDefEqProofs := false) (disch := omega) only [WPs, opds, List.all_cons, List.all_nil, List.cons_append, List.nil_append, cond_true, cond_false, eq_self, List.map_cons, List.map_nil, Nat.reduceAdd, Nat.testBit, Nat.reduceShiftRight, Nat.reduceAnd, Nat.reduceBNe, Nat.reduceMul, x4_0, x4_1, x4_2, x4_3, hd.one, he.one, STs, decide_eq_true c1]
    rw [no fun h => h.2.2.2.elim (fun h => h c4) fun h => h c5]
    simp (implicitDefEqProofs := false) (disch := omega) only [WPs, opds, List.all_cons, List.all_nil, List.cons_append, List.nil_append, cond_true, cond_false, eq_self, List.map_cons, List.map_nil, Nat.reduceAdd, Nat.testBit, Nat.reduceShiftRight, Nat.reduceAnd, Nat.reduceBNe, Nat.reduceMul, x4_0, x4_1, x4_2, x4_3, hd.one, he.one, STs, decide_eq_true c1]
  · by_cases k5 : a.kind < 5 ∧ b.kind < 5
    · rw [overB_f fun h => by
        rcases h.2.2 with h1 | h1
        · omega
        · exact hab ⟨h1.1, h1.2.1⟩]
      by_cases ra : a.kind ≤ 3
      · have rb : ¬ b.kind ≤ 3 := fun h => hab ⟨ra, h⟩
        simp (implicitDefEqProofs := false) (disch := omega) only [WPs, opds, List.all_cons, List.all_nil, List.cons_append, List.nil_append, cond_true, cond_false, eq_self, List.map_cons, List.map_nil, Nat.reduceAdd, Nat.testBit, Nat.reduceShiftRight, Nat.reduceAnd, Nat.reduceBNe, Nat.reduceMul, x4_0, x4_1, x4_2, x4_3, hd.one, he.one, STs]
      · simp (implicitDefEqProofs := false) (disch := omega) only [WPs, opds, List.all_cons, List.all_nil, List.cons_append, List.nil_append, cond_true, cond_false, eq_self, List.map_cons, List.map_nil, Nat.reduceAdd, Nat.testBit, Nat.reduceShiftRight, Nat.reduceAnd, Nat.reduceBNe, Nat.reduceMul, x4_0, x4_1, x4_2, x4_3, hd.one, he.one, STs]
    · have shr : overB a b = (namesB a b.vol || namesB a b.oth) := by
        by_cases h1 : NamesP a b.vol
        · rw [namesB_t h1, overB_t ⟨va, vb, .inl ⟨by omega, (shares_names a b).2 (.inl h1)⟩⟩, Bool.true_or]
        · by_cases h2 : NamesP a b.oth
          · rw [namesB_t h2, overB_t ⟨va, vb, .inl ⟨by omega, (shares_names a b).2 (.inr h2)⟩⟩, Bool.or_true]
          · rw [namesB_f h1, namesB_f h2, overB_f fun h => by
              rcases h.2.2 with h3 | h3
              · exact ((shares_names a b).1 h3.2).elim h1 h2
              · exact hab ⟨h3.1, h3.2.1⟩]
            rfl
      rw [shr]
      by_cases ra : a.kind ≤ 3
      · have rb : ¬ b.kind ≤ 3 := fun h => hab ⟨ra, h⟩
        simp (implicitDefEqProofs := false) (disch := omega) only [WPs, opds, List.all_cons, List.all_nil, List.cons_append, List.nil_append, cond_true, cond_false, eq_self, List.map_cons, List.map_nil, Nat.reduceAdd, Nat.testBit, Nat.reduceShiftRight, Nat.reduceAnd, Nat.reduceBNe, Nat.reduceMul, x4_0, x4_1, x4_2, x4_3, hd.one, he.one, STs]
        refine use_pure (names_spec h34 _ _ a d hd.one _) fun r5 => ?_
        cases namesB a b.vol
        · simp (implicitDefEqProofs := false) (disch := omega) only [WPs, opds, List.all_cons, List.all_nil, List.cons_append, List.nil_append, cond_true, cond_false, eq_self, List.map_cons, List.map_nil, Nat.reduceAdd, Nat.testBit, Nat.reduceShiftRight, Nat.reduceAnd, Nat.reduceBNe, Nat.reduceMul, hd.one, he.one]
          refine use_pure (names_spec h34 _ _ a d hd.one _) fun r6 => ?_
          simp (implicitDefEqProofs := false) (disch := omega) only [WPs, opds, List.all_cons, List.all_nil, List.cons_append, List.nil_append, cond_true, cond_false, eq_self, List.map_cons, List.map_nil, Nat.reduceAdd, Nat.testBit, Nat.reduceShiftRight, Nat.reduceAnd, Nat.reduceBNe, Nat.reduceMul, Bool.false_or]
        · simp (implicitDefEqProofs := false) (disch := omega) only [WPs, opds, List.all_cons, List.all_nil, List.cons_append, List.nil_append, cond_true, cond_false, eq_self, List.map_cons, List.map_nil, Nat.reduceAdd, Nat.testBit, Nat.reduceShiftRight, Nat.reduceAnd, Nat.reduceBNe, Nat.reduceMul, hd.one, he.one, Bool.true_or]
      · by_cases k6 : a.kind < 5
        · simp (implicitDefEqProofs := false) (disch := omega) only [WPs, opds, List.all_cons, List.all_nil, List.cons_append, List.nil_append, cond_true, cond_false, eq_self, List.map_cons, List.map_nil, Nat.reduceAdd, Nat.testBit, Nat.reduceShiftRight, Nat.reduceAnd, Nat.reduceBNe, Nat.reduceMul, x4_0, x4_1, x4_2, x4_3, hd.one, he.one, STs]
          refine use_pure (names_spec h34 _ _ a d hd.one _) fun r5 => ?_
          cases namesB a b.vol
          · simp (implicitDefEqProofs := false) (disch := omega) only [WPs, opds, List.all_cons, List.all_nil, List.cons_append, List.nil_append, cond_true, cond_false, eq_self, List.map_cons, List.map_nil, Nat.reduceAdd, Nat.testBit, Nat.reduceShiftRight, Nat.reduceAnd, Nat.reduceBNe, Nat.reduceMul, hd.one, he.one]
            refine use_pure (names_spec h34 _ _ a d hd.one _) fun r6 => ?_
            simp (implicitDefEqProofs := false) (disch := omega) only [WPs, opds, List.all_cons, List.all_nil, List.cons_append, List.nil_append, cond_true, cond_false, eq_self, List.map_cons, List.map_nil, Nat.reduceAdd, Nat.testBit, Nat.reduceShiftRight, Nat.reduceAnd, Nat.reduceBNe, Nat.reduceMul, Bool.false_or]
          · simp (implicitDefEqProofs := false) (disch := omega) only [WPs, opds, List.all_cons, List.all_nil, List.cons_append, List.nil_append, cond_true, cond_false, eq_self, List.map_cons, List.map_nil, Nat.reduceAdd, Nat.testBit, Nat.reduceShiftRight, Nat.reduceAnd, Nat.reduceBNe, Nat.reduceMul, hd.one, he.one, Bool.true_or]
        · simp (implicitDefEqProofs := false) (disch := omega) only [WPs, opds, List.all_cons, List.all_nil, List.cons_append, List.nil_append, cond_true, cond_false, eq_self, List.map_cons, List.map_nil, Nat.reduceAdd, Nat.testBit, Nat.reduceShiftRight, Nat.reduceAnd, Nat.reduceBNe, Nat.reduceMul, x4_0, x4_1, x4_2, x4_3, hd.one, he.one, STs]
          refine use_pure (names_spec h34 _ _ a d hd.one _) fun r5 => ?_
          cases namesB a b.vol
          · simp (implicitDefEqProofs := false) (disch := omega) only [WPs, opds, List.all_cons, List.all_nil, List.cons_append, List.nil_append, cond_true, cond_false, eq_self, List.map_cons, List.map_nil, Nat.reduceAdd, Nat.testBit, Nat.reduceShiftRight, Nat.reduceAnd, Nat.reduceBNe, Nat.reduceMul, hd.one, he.one]
            refine use_pure (names_spec h34 _ _ a d hd.one _) fun r6 => ?_
            simp (implicitDefEqProofs := false) (disch := omega) only [WPs, opds, List.all_cons, List.all_nil, List.cons_append, List.nil_append, cond_true, cond_false, eq_self, List.map_cons, List.map_nil, Nat.reduceAdd, Nat.testBit, Nat.reduceShiftRight, Nat.reduceAnd, Nat.reduceBNe, Nat.reduceMul, Bool.false_or]
          · simp (implicitDefEqProofs := false) (disch := omega) only [WPs, opds, List.all_cons, List.all_nil, List.cons_append, List.nil_append, cond_true, cond_false, eq_self, List.map_cons, List.map_nil, Nat.reduceAdd, Nat.testBit, Nat.reduceShiftRight, Nat.reduceAnd, Nat.reduceBNe, Nat.reduceMul, hd.one, he.one, Bool.true_or]
def fenceB (c : Cmd) : Bool := decide (c.ord = 1 ∨ c.kind = 4)
noncomputable def befB (a b : Cmd) : Bool := fenceB a || (fenceB b || overB a b)
theorem fence_spec (hE : E 57 = some ac57) (m : FM) (n : Nat) (c : Cmd) (d : Value) (hd : one d = true) : Pure (callW PG E Y 57 [cmdV c d] m n) m n (.bool (fenceB c)) := by
  refine pure_spec hE rfl rfl ?_
  simp only [ac57, cmdV]
  by_cases h1 : c.ord = 1
  · rw [show fenceB c = true from decide_eq_true (.inl h1)]
    simp (implicitDefEqProofs := false) (disch := omega) only [WPs, opds, List.all_cons, List.all_nil, List.cons_append, List.nil_append, cond_true, cond_false, eq_self, List.map_cons, List.map_nil, Nat.reduceAdd, Nat.testBit, Nat.reduceShiftRight, Nat.reduceAnd, Nat.reduceBNe, Nat.reduceMul, hd]
  · rw [show fenceB c = decide (c.kind = 4) from decide_eq_decide.2 ⟨fun h => h.resolve_left h1, .inr⟩]
    simp (implicitDefEqProofs := false) (disch := omega) only [WPs, opds, List.all_cons, List.all_nil, List.cons_append, List.nil_append, cond_true, cond_false, eq_self, List.map_cons, List.map_nil, Nat.reduceAdd, Nat.testBit, Nat.reduceShiftRight, Nat.reduceAnd, Nat.reduceBNe, Nat.reduceMul, hd]
theorem Fence_spec (hE : E 41 = some ac41) (m : FM) (n : Nat) (c : Cmd) (d : Value) (hd : one d = true) : Pure (callW PG E Y 41 [cmdV c d] m n) m n (.bool (fenceB c)) := by
  refine pure_spec hE rfl rfl ?_
  simp only [ac41, cmdV]
  by_cases h1 : c.ord = 1
  · rw [show fenceB c = true from decide_eq_true (.inl h1)]
    simp (implicitDefEqProofs := false) (disch := omega) only [WPs, opds, List.all_cons, List.all_nil, List.cons_append, List.nil_append, cond_true, cond_false, eq_self, List.map_cons, List.map_nil, Nat.reduceAdd, Nat.testBit, Nat.reduceShiftRight, Nat.reduceAnd, Nat.reduceBNe, Nat.reduceMul, hd]
  · rw [show fenceB c = decide (c.kind = 4) from decide_eq_decide.2 ⟨fun h => h.resolve_left h1, .inr⟩]
    simp (implicitDefEqProofs := false) (disch := omega) only [WPs, opds, List.all_cons, List.all_nil, List.cons_append, List.nil_append, cond_true, cond_false, eq_self, List.map_cons, List.map_nil, Nat.reduceAdd, Nat.testBit, Nat.reduceShiftRight, Nat.reduceAnd, Nat.reduceBNe, Nat.reduceMul, hd]
theorem before_spec (hE : E 36 = some ac36) (h24 : E 57 = some ac57) (h25 : E 58 = some ac58) (h30 : E 65 = some ac65) (h31 : E 66 = some ac66) (hV : Vals E Y) (m : FM) (n : Nat) (a b : Cmd) (d e : Value) (hF : a.Fit) (hG : b.Fit) (hd : DatV m n d a.data) (he : DatV m n e b.data) :
    Pure (callW PG E Y 36 [cmdV a d, cmdV b e] m n) m n (.bool (befB a b)) := by
  refine pure_spec hE rfl rfl ?_
  simp only [ac36, cmdV]
  simp (implicitDefEqProofs := false) (disch := omega) only [WPs, opds, List.all_cons, List.all_nil, List.cons_append, List.nil_append, cond_true, cond_false, eq_self, List.map_cons, List.map_nil, Nat.reduceAdd, Nat.testBit, Nat.reduceShiftRight, Nat.reduceAnd, Nat.reduceBNe, Nat.reduceMul, hd.one, he.one]
  refine use_pure (fence_spec h24 _ _ a d hd.one) fun r1 => ?_
  unfold befB
  cases fenceB a
  · simp (implicitDefEqProofs := false) (disch := omega) only [WPs, opds, List.all_cons, List.all_nil, List.cons_append, List.nil_append, cond_true, cond_false, eq_self, List.map_cons, List.map_nil, Nat.reduceAdd, Nat.testBit, Nat.reduceShiftRight, Nat.reduceAnd, Nat.reduceBNe, Nat.reduceMul, hd.one, he.one]
    refine use_pure (fence_spec h24 _ _ b e he.one) fun r2 => ?_
    cases fenceB b
    · simp (implicitDefEqProofs := false) (disch := omega) only [WPs, opds, List.all_cons, List.all_nil, List.cons_append, List.nil_append, cond_true, cond_false, eq_self, List.map_cons, List.map_nil, Nat.reduceAdd, Nat.testBit, Nat.reduceShiftRight, Nat.reduceAnd, Nat.reduceBNe, Nat.reduceMul, hd.one, he.one]
      refine use_pure (overlap_spec h25 h30 h31 hV _ _ a b d e hF hG (hd.frame (by omega) fun b hb => by simp (implicitDefEqProofs := false) (disch := omega) only [WPs, opds, List.all_cons, List.all_nil, List.cons_append, List.nil_append, cond_true, cond_false, eq_self, List.map_cons, List.map_nil, Nat.reduceAdd, Nat.testBit, Nat.reduceShiftRight, Nat.reduceAnd, Nat.reduceBNe, Nat.reduceMul]) (he.frame (by omega) fun b hb => by simp (implicitDefEqProofs := false) (disch := omega) only [WPs, opds, List.all_cons, List.all_nil, List.cons_append, List.nil_append, cond_true, cond_false, eq_self, List.map_cons, List.map_nil, Nat.reduceAdd, Nat.testBit, Nat.reduceShiftRight, Nat.reduceAnd, Nat.reduceBNe, Nat.reduceMul])) fun r3 => ?_
      simp (implicitDefEqProofs := false) (disch := omega) only [WPs, opds, List.all_cons, List.all_nil, List.cons_append, List.nil_append, cond_true, cond_false, eq_self, List.map_cons, List.map_nil, Nat.reduceAdd, Nat.testBit, Nat.reduceShiftRight, Nat.reduceAnd, Nat.reduceBNe, Nat.reduceMul, Bool.false_or]
    · simp (implicitDefEqProofs := false) (disch := omega) only [WPs, opds, List.all_cons, List.all_nil, List.cons_append, List.nil_append, cond_true, cond_false, eq_self, List.map_cons, List.map_nil, Nat.reduceAdd, Nat.testBit, Nat.reduceShiftRight, Nat.reduceAnd, Nat.reduceBNe, Nat.reduceMul, hd.one, he.one, Bool.true_or, Bool.false_or]
  · simp (implicitDefEqProofs := false) (disch := omega) only [WPs, opds, List.all_cons, List.all_nil, List.cons_append, List.nil_append, cond_true, cond_false, eq_self, List.map_cons, List.map_nil, Nat.reduceAdd, Nat.testBit, Nat.reduceShiftRight, Nat.reduceAnd, Nat.reduceBNe, Nat.reduceMul, hd.one, he.one, Bool.true_or]
theorem refBefore_spec (hE : E 17 = some ac17) (h22 : E 41 = some ac41) (h26 : E 42 = some ac42) (h33 : E 61 = some ac61) (h34 : E 62 = some ac62) (hV : Vals E Y) (m : FM) (n : Nat) (a b : Cmd) (d e : Value) (hF : a.Fit) (hG : b.Fit) (hd : DatV m n d a.data) (he : DatV m n e b.data) :
    Pure (callW PG E Y 17 [cmdV a d, cmdV b e] m n) m n (.bool (befB a b)) := by
  refine pure_spec hE rfl rfl ?_
  simp only [ac17, cmdV]
  simp (implicitDefEqProofs := false) (disch := omega) only [WPs, opds, List.all_cons, List.all_nil, List.cons_append, List.nil_append, cond_true, cond_false, eq_self, List.map_cons, List.map_nil, Nat.reduceAdd, Nat.testBit, Nat.reduceShiftRight, Nat.reduceAnd, Nat.reduceBNe, Nat.reduceMul, hd.one, he.one]
  refine use_pure (Fence_spec h22 _ _ a d hd.one) fun r1 => ?_
  unfold befB
  cases fenceB a
  · simp (implicitDefEqProofs := false) (disch := omega) only [WPs, opds, List.all_cons, List.all_nil, List.cons_append, List.nil_append, cond_true, cond_false, eq_self, List.map_cons, List.map_nil, Nat.reduceAdd, Nat.testBit, Nat.reduceShiftRight, Nat.reduceAnd, Nat.reduceBNe, Nat.reduceMul, hd.one, he.one]
    refine use_pure (Fence_spec h22 _ _ b e he.one) fun r2 => ?_
    cases fenceB b
    · simp (implicitDefEqProofs := false) (disch := omega) only [WPs, opds, List.all_cons, List.all_nil, List.cons_append, List.nil_append, cond_true, cond_false, eq_self, List.map_cons, List.map_nil, Nat.reduceAdd, Nat.testBit, Nat.reduceShiftRight, Nat.reduceAnd, Nat.reduceBNe, Nat.reduceMul, hd.one, he.one]
      refine use_pure (refOverlap_spec h26 h33 h34 hV _ _ a b d e hF hG (hd.frame (by omega) fun b hb => by simp (implicitDefEqProofs := false) (disch := omega) only [WPs, opds, List.all_cons, List.all_nil, List.cons_append, List.nil_append, cond_true, cond_false, eq_self, List.map_cons, List.map_nil, Nat.reduceAdd, Nat.testBit, Nat.reduceShiftRight, Nat.reduceAnd, Nat.reduceBNe, Nat.reduceMul]) (he.frame (by omega) fun b hb => by simp (implicitDefEqProofs := false) (disch := omega) only [WPs, opds, List.all_cons, List.all_nil, List.cons_append, List.nil_append, cond_true, cond_false, eq_self, List.map_cons, List.map_nil, Nat.reduceAdd, Nat.testBit, Nat.reduceShiftRight, Nat.reduceAnd, Nat.reduceBNe, Nat.reduceMul])) fun r3 => ?_
      simp (implicitDefEqProofs := false) (disch := omega) only [WPs, opds, List.all_cons, List.all_nil, List.cons_append, List.nil_append, cond_true, cond_false, eq_self, List.map_cons, List.map_nil, Nat.reduceAdd, Nat.testBit, Nat.reduceShiftRight, Nat.reduceAnd, Nat.reduceBNe, Nat.reduceMul, Bool.false_or]
    · simp (implicitDefEqProofs := false) (disch := omega) only [WPs, opds, List.all_cons, List.all_nil, List.cons_append, List.nil_append, cond_true, cond_false, eq_self, List.map_cons, List.map_nil, Nat.reduceAdd, Nat.testBit, Nat.reduceShiftRight, Nat.reduceAnd, Nat.reduceBNe, Nat.reduceMul, hd.one, he.one, Bool.true_or, Bool.false_or]
  · simp (implicitDefEqProofs := false) (disch := omega) only [WPs, opds, List.all_cons, List.all_nil, List.cons_append, List.nil_append, cond_true, cond_false, eq_self, List.map_cons, List.map_nil, Nat.reduceAdd, Nat.testBit, Nat.reduceShiftRight, Nat.reduceAnd, Nat.reduceBNe, Nat.reduceMul, hd.one, he.one, Bool.true_or]
end Go.Am.C41
namespace Go.Am.C41
open Go Go.Am
variable {E : Nat → Option AFn} {Y : Nat → List Value → FM → Nat → OR FM}
structure Hy (E : Nat → Option AFn) (Y : Nat → List Value → FM → Nat → OR FM) : Prop where
  v30 : ∀ (m : FM) (n : Nat) (c : Cmd) (d : Value), c.Fit → DatV m n d c.data → Pure (callW PG E Y 30 [cmdV c d] m n) m n (.bool (validB c))
  v23 : ∀ (m : FM) (n : Nat) (c : Cmd) (d : Value), c.Fit → DatV m n d c.data → Pure (callW PG E Y 23 [cmdV c d] m n) m n (.bool (validB c))
  b36 : ∀ (m : FM) (n : Nat) (a b : Cmd) (d e : Value), a.Fit → b.Fit → DatV m n d a.data → DatV m n e b.data → Pure (callW PG E Y 36 [cmdV a d, cmdV b e] m n) m n (.bool (befB a b))
  b17 : ∀ (m : FM) (n : Nat) (a b : Cmd) (d e : Value), a.Fit → b.Fit → DatV m n d a.data → DatV m n e b.data → Pure (callW PG E Y 17 [cmdV a d, cmdV b e] m n) m n (.bool (befB a b))
def CloF (E : Nat → Option AFn) (Y : Nat → List Value → FM → Nat → OR FM) (M : FM) (N : Nat) (F : Value) (l : List Int) (p : Nat → Bool) : Prop :=
  ∀ i (hi : i < l.length), Pure (callV (callW PG E Y) [.int .i64 l[i]] M N F) M N (.bool (p i))
theorem index_L0 {M : FM} {N : Nat} {sv F : Value} {l : List Int} (hl : Ints M N sv l) (hs : l.length ≤ 1000) (p : Nat → Bool) (hF : CloF E Y M N F l p) {Q : AX → List Value → FM → Nat → Nat → Prop}
    (hQ1 : ∀ i, i < l.length → p i = true → (∀ k, k < i → p k = false) → ∀ e', Q (.ret (.int .i64 (i : Int))) e' M N 0) (hQ2 : (∀ i, i < l.length → p i = false) → ∀ e', Q (.exit 0) e' M N 0) :
    ∀ d j, j + d = l.length → (∀ i, i < j → p i = false) → ∀ (x0 x2 x4 : Value), Gv (execW PG E Y ac56L0 [x0, .int .i64 (j : Int), x2, .int .i64 (l.length : Int), x4, sv, F] M N) Q := by
  intro d
  induction d with
  | zero =>
    intro j hj ha x0 x2 x4
    refine wr_loopN (L := ac56L0) (b := ac56L0b) rfl ?_
    simp only [ac56L0b]
    simp (implicitDefEqProofs := false) (disch := omega) only [WPs, opds, List.all_cons, List.all_nil, List.cons_append, List.nil_append, cond_true, cond_false, eq_self, List.map_cons, List.map_nil, Nat.reduceAdd, Nat.testBit, Nat.reduceShiftRight, Nat.reduceAnd, Nat.reduceBNe, Nat.reduceMul]
    exact hQ2 (fun i hi => ha i (by omega)) _
  | succ d ih =>
    intro j hj ha x0 x2 x4
    have hjl : j < l.length := by omega
    obtain ⟨b, o, c, opn, wr, i1, i2, i3, i4⟩ := hl.cell hjl
    refine wr_loopN (L := ac56L0) (b := ac56L0b) rfl ?_
    simp only [ac56L0b]
    simp (implicitDefEqProofs := false) (disch := omega) only [WPs, opds, List.all_cons, List.all_nil, List.cons_append, List.nil_append, cond_true, cond_false, eq_self, List.map_cons, List.map_nil, Nat.reduceAdd, Nat.testBit, Nat.reduceShiftRight, Nat.reduceAnd, Nat.reduceBNe, Nat.reduceMul, i1, i3, i4, s_callv]
    refine use_pure (hF j hjl) fun r1 => ?_
    cases hp : p j
    · simp (implicitDefEqProofs := false) (disch := omega) only [WPs, opds, List.all_cons, List.all_nil, List.cons_append, List.nil_append, cond_true, cond_false, eq_self, List.map_cons, List.map_nil, Nat.reduceAdd, Nat.testBit, Nat.reduceShiftRight, Nat.reduceAnd, Nat.reduceBNe, Nat.reduceMul]
      exact wr_end' ((ih (j + 1) (by omega) (fun i hi => by
        rcases Nat.lt_or_ge i j with h | h
        · exact ha i h
        · rw [show i = j by omega]; exact hp) _ _ _).mono fun X e m n w hq => by simpa only [zero_lor'] using hq)
    · simp (implicitDefEqProofs := false) (disch := omega) only [WPs, opds, List.all_cons, List.all_nil, List.cons_append, List.nil_append, cond_true, cond_false, eq_self, List.map_cons, List.map_nil, Nat.reduceAdd, Nat.testBit, Nat.reduceShiftRight, Nat.reduceAnd, Nat.reduceBNe, Nat.reduceMul]
      exact hQ1 j hjl hp ha _
theorem least {p : Nat → Bool} : ∀ {n i : Nat}, i < n → p i = true → ∃ j, j < n ∧ p j = true ∧ ∀ k, k < j → p k = false
  | n + 1, i, h, hp => by
    by_cases hx : ∃ k, k < i ∧ p k = true
    · obtain ⟨k, h1, h2⟩ := hx
      obtain ⟨j, h3, h4⟩ := least (n := n) (i := k) (by omega) h2
      exact ⟨j, by omega, h4⟩
    · refine ⟨i, h, hp, fun k hk => ?_⟩
      cases hq : p k
      · rfl
      · exact absurd ⟨k, hk, hq⟩ hx
theorem containsF_spec (hE : E 34 = some ac34) (h56 : E 56 = some ac56) {M : FM} {N : Nat} {sv F : Value} {l : List Int} (hl : Ints M N sv l) (hs : l.length ≤ 1000) (p : Nat → Bool) (hF : CloF E Y M N F l p) :
    Pure (callW PG E Y 34 [sv, F] M N) M N (.bool ((List.range l.length).any p)) := by
  have hidx : ∃ z : Int, -1 ≤ z ∧ z < 1000 ∧ (decide (0 ≤ z) = (List.range l.length).any p) ∧ Pure (callW PG E Y 56 [sv, F] M N) M N (.int .i64 z) := by
    by_cases hex : ∃ i, i < l.length ∧ p i = true
    · obtain ⟨i0, h0, h00⟩ := hex
      obtain ⟨i, h1, h2, h3⟩ := least h0 h00
      refine ⟨i, by omega, by omega, ?_, ?_⟩
      · rw [decide_eq_true (by omega : 0 ≤ (i : Int))]
        exact (List.any_eq_true.2 ⟨i, List.mem_range.2 h1, h2⟩).symm
      · refine pure_spec h56 rfl rfl ?_
        simp only [ac56]
        simp (implicitDefEqProofs := false) (disch := omega) only [WPs, opds, List.all_cons, List.all_nil, List.cons_append, List.nil_append, cond_true, cond_false, eq_self, List.map_cons, List.map_nil, Nat.reduceAdd, Nat.testBit, Nat.reduceShiftRight, Nat.reduceAnd, Nat.reduceBNe, Nat.reduceMul, hl.len]
        refine wr_cps (index_L0 hl hs p hF (fun k hk hp hm e' r => ?_) (fun hn e' r => ?_) l.length 0 (by omega) (fun i hi => by omega) _ _ _)
        · have : k = i := by
            rcases Nat.lt_trichotomy k i with h | h | h
            · rw [h3 k h] at hp; cases hp
            · exact h
            · rw [hm i h] at h2; cases h2
          subst this
          simp (implicitDefEqProofs := false) (disch := omega) only [WPs, opds, List.all_cons, List.all_nil, List.cons_append, List.nil_append, cond_true, cond_false, eq_self, List.map_cons, List.map_nil, Nat.reduceAdd, Nat.testBit, Nat.reduceShiftRight, Nat.reduceAnd, Nat.reduceBNe, Nat.reduceMul]
        · rw [hn i h1] at h2; cases h2
    · have hno : ∀ i, i < l.length → p i = false := fun i hi => by
        cases hq : p i
        · rfl
        · exact absurd ⟨i, hi, hq⟩ hex
      refine ⟨-1, by omega, by omega, ?_, ?_⟩
      · rw [decide_eq_false (by omega : ¬ (0 : Int) ≤ -1)]
        symm
        rw [← Bool.not_eq_true, List.any_eq_true]
        rintro ⟨i, hi, hp⟩
        rw [hno i (List.mem_range.1 hi)] at hp; cases hp
      · refine pure_spec h56 rfl rfl ?_
        simp only [ac56]
        simp (implicitDefEqProofs := false) (disch := omega) only [WPs, opds, List.all_cons, List.all_nil, List.cons_append, List.nil_append, cond_true, cond_false, eq_self, List.map_cons, List.map_nil, Nat.reduceAdd, Nat.testBit, Nat.reduceShiftRight, Nat.reduceAnd, Nat.reduceBNe, Nat.reduceMul, hl.len]
        refine wr_cps (index_L0 hl hs p hF (fun k hk hp hm e' r => ?_) (fun hn e' r => ?_) l.length 0 (by omega) (fun i hi => by omega) _ _ _)
        · rw [hno k hk] at hp; cases hp
        · simp (implicitDefEqProofs := false) (disch := omega) only [WPs, opds, List.all_cons, List.all_nil, List.cons_append, List.nil_append, cond_true, cond_false, eq_self, List.map_cons, List.map_nil, Nat.reduceAdd, Nat.testBit, Nat.reduceShiftRight, Nat.reduceAnd, Nat.reduceBNe, Nat.reduceMul]
  obtain ⟨z, z1, z2, z3, z4⟩ := hidx
  refine pure_spec hE rfl rfl ?_
  simp only [ac34]
  simp (implicitDefEqProofs := false) (disch := omega) only [WPs, opds, List.all_cons, List.all_nil, List.cons_append, List.nil_append, cond_true, cond_false, eq_self, List.map_cons, List.map_nil, Nat.reduceAdd, Nat.testBit, Nat.reduceShiftRight, Nat.reduceAnd, Nat.reduceBNe, Nat.reduceMul]
  refine use_pure z4 fun r1 => ?_
  rw [← z3]
  simp (implicitDefEqProofs := false) (disch := omega) only [WPs, opds, List.all_cons, List.all_nil, List.cons_append, List.nil_append, cond_true, cond_false, eq_self, List.map_cons, List.map_nil, Nat.reduceAdd, Nat.testBit, Nat.reduceShiftRight, Nat.reduceAnd, Nat.reduceBNe, Nat.reduceMul]
theorem slcM_unk {M : FM} {N sz b o len : Nat} (v : Option Value) : slcM M N sz v (Value.slice (some ⟨b, o, none⟩) len UNK) = cond (szOk sz (getb M N b)) (valR M N b v) .no := by
  have : Nat.beq UNK UNK = true := Nat.beq_refl _
  simp only [slcM, this, cond_true]
theorem slcA_unk {sz h len b o : Nat} (h0 : 0 < len) : slcA sz 0 h len UNK (some ⟨b, o, none⟩) = some (Value.slice (some ⟨b, o, none⟩) h UNK) := by
  have h1 : Nat.beq UNK UNK = true := Nat.beq_refl _
  have h2 : Nat.beq UNK VAG = false := nbeq_f (by decide)
  have h3 : (Nat.blt 0 len || Nat.beq 0 0) = true := by simp
  simp only [slcA, h1, h2, h3, cond_true, cond_false]
  rw [show Nat.add o (Nat.mul 0 sz) = o from by show o + 0 * sz = o; omega, show Nat.sub h 0 = h from rfl]
theorem slc_hi {M : FM} {N sz b len i : Nat} {c : List Value} {opn wr : Bool} (h : i ≤ len) (h0 : 0 < len) (hb : b < N) (hm : M b = some (.cells c sz opn wr)) :
    slcM M N sz (slcV sz none (some (Value.int .i64 (i : Int))) (Value.slice (some ⟨b, 0, none⟩) len UNK)) (Value.slice (some ⟨b, 0, none⟩) len UNK) = .ok (Value.slice (some ⟨b, 0, none⟩) i UNK) M N (bit b) 0 := by
  have h1 : slcV sz none (some (Value.int .i64 (i : Int))) (Value.slice (some ⟨b, 0, none⟩) len UNK) = some (Value.slice (some ⟨b, 0, none⟩) i UNK) := by
    show cond (Nat.ble 0 i && Nat.ble i len) (slcA sz 0 i len UNK (some ⟨b, 0, none⟩)) none = _
    rw [ble_true (Nat.zero_le i), ble_true h, slcA_unk h0]; rfl
  rw [h1, slcM_unk, getb_lt hb, hm]
  show cond (Nat.beq sz sz) _ _ = _
  rw [Nat.beq_refl]; rfl
theorem find_at {its : List (Cmd × Value)} (hn : (tagsL its).Nodup) {i : Nat} (hi : i < its.length) : its.find? (fun it => decide (its[i].1.tag = it.1.tag)) = some its[i] := by
  have hm : its[i] ∈ its := List.getElem_mem hi
  cases hf : its.find? (fun it => decide (its[i].1.tag = it.1.tag)) with
  | none =>
    have := List.find?_eq_none.1 hf _ hm
    simp at this
  | some it =>
    obtain ⟨h1, h2⟩ := find_tag hf
    obtain ⟨k, hk, rfl⟩ := List.mem_iff_getElem.1 h1
    have hk' : k < (tagsL its).length := by rw [tagsL, List.length_map]; exact hk
    have hi' : i < (tagsL its).length := by rw [tagsL, List.length_map]; exact hi
    have hp := List.pairwise_iff_getElem.1 hn
    have h2' : (tagsL its)[k] = (tagsL its)[i] := by simp only [tagsL, List.getElem_map]; exact h2
    rcases Nat.lt_trichotomy k i with h | h | h
    · exact absurd h2' (hp k i hk' hi' h)
    · subst h; rfl
    · exact absurd h2'.symm (hp i k hi' hk' h)
def cAt (its : List (Cmd × Value)) (i : Nat) : Cmd := (its[i]?.map (·.1)).getD ⟨0, 0, 0, false, ⟨#[]⟩, ⟨#[]⟩, 0, 0, []⟩
theorem cAt_eq {its : List (Cmd × Value)} {i : Nat} (h : i < its.length) : cAt its i = its[i].1 := by simp [cAt, h]
noncomputable def eligB (its : List (Cmd × Value)) (S : List Int) (i : Nat) : Bool := !decide ((tagsL its).getD i 0 ∈ S) && !(List.range i).any fun k => befB (cAt its k) (cAt its i)
end Go.Am.C41
