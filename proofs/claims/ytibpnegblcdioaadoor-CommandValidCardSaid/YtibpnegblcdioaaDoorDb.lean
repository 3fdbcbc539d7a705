/- The machine and its runs, part Db: An39d1 An39d2. -/
import Derived.Test.YtibpnegblcdioaaDoorB11
set_option linter.unusedVariables false
set_option linter.unusedSimpArgs false
set_option linter.unusedSectionVars false
namespace Go.Am.C39
set_option maxRecDepth 100000
open Go Go.Am
variable {E : Nat → Option AFn} {Y : Nat → List Value → FM → Nat → OR FM}
set_option maxHeartbeats 8000000 in
theorem cmdValid_3 (hE : E 17 = some ac17) (hN : E 33 = some ac33) (hT : Trims E Y) (hI : E 34 = some ac34) (hO : E 32 = some ac32) (hS : E 35 = some ac35) (m : FM) (n : Nat) (c : Cmd) (d : Value) (hF : c.Fit) (hc : DatV m n d c.data) (hh : HeadP c) (hk : c.kind = 3) :
    Pure (callW PG E Y 17 [cmdV c d] m n) m n (.bool (validB c)) := by
  obtain ⟨f1, f2, f3, f4, f5, f6, f7, f8⟩ := hF
  have hNv : ∀ m n, Pure (callW PG E Y 33 [.string c.vol] m n) m n (.bool (nameB c.vol)) := fun m n => name_spec hN hT m n _ f6
  have hNo : ∀ m n, Pure (callW PG E Y 33 [.string c.oth] m n) m n (.bool (nameB c.oth)) := fun m n => name_spec hN hT m n _ f7
  have hIn : ∀ m n, Pure (callW PG E Y 34 [.int .i64 c.at_, .int .i64 c.len] m n) m n (.bool (decide (insideP c.at_ c.len))) := fun m n => inside_spec hI m n _ _ f4 f5
  have hOn : ∀ m n, Pure (callW PG E Y 32 [cmdV c d] m n) m n (.agg #[.int .i64 c.tag, .int .i64 c.kind, .int .i64 c.ord, .bool false, .string ⟨#[]⟩, .string ⟨#[]⟩, .int .i64 0, .int .i64 0, .slice none 0 0]) := fun m n => only_spec hO m n c d hc.one
  clear f1 f2 f3 f4 f5 f6 f7
  refine pure_spec hE rfl rfl ?_
  simp only [ac17, cmdV]
  rcases hh.2.2 with t4 | t4
  all_goals
    have t1 := hh.1
    have t2 := hh.2.1
    by_cases nv : NameP c.vol
    case neg =>
      rw [validB_f fun h => nv ((valid_3 hk).1 h).2.1]
      repeat (first | refine use_pure (hOn _ _) fun _ => ?_ | refine use_pure (hNv _ _) fun _ => ?_ | refine use_pure (hNo _ _) fun _ => ?_ | refine use_pure (hIn _ _) fun _ => ?_ | simp (implicitDefEqProofs := false) (disch := omega) only [WPs, opds, List.all_cons, List.all_nil, List.cons_append, List.nil_append, cond_true, cond_false, eq_self, List.map_cons, List.map_nil, Nat.reduceAdd, Nat.testBit, Nat.reduceShiftRight, Nat.reduceAnd, Nat.reduceBNe, Nat.reduceMul, hc.one, hc.len, hc.bel, STs, Bool.not_true, Bool.not_false, nameB_f nv])
    by_cases hi : insideP c.at_ c.len
    case neg =>
      rw [validB_f fun h => hi ((valid_3 hk).1 h).2.2.2.2]
      repeat (first | refine use_pure (hOn _ _) fun _ => ?_ | refine use_pure (hNv _ _) fun _ => ?_ | refine use_pure (hNo _ _) fun _ => ?_ | refine use_pure (hIn _ _) fun _ => ?_ | simp (implicitDefEqProofs := false) (disch := omega) only [WPs, opds, List.all_cons, List.all_nil, List.cons_append, List.nil_append, cond_true, cond_false, eq_self, List.map_cons, List.map_nil, Nat.reduceAdd, Nat.testBit, Nat.reduceShiftRight, Nat.reduceAnd, Nat.reduceBNe, Nat.reduceMul, hc.one, hc.len, hc.bel, STs, Bool.not_true, Bool.not_false, nameB_t nv, decide_eq_false hi])
    rw [vs_3 hh hk nv hi]
    repeat (first | refine use_pure (hOn _ _) fun _ => ?_ | refine use_pure (hNv _ _) fun _ => ?_ | refine use_pure (hNo _ _) fun _ => ?_ | refine use_pure (hIn _ _) fun _ => ?_ | simp (implicitDefEqProofs := false) (disch := omega) only [WPs, opds, List.all_cons, List.all_nil, List.cons_append, List.nil_append, cond_true, cond_false, eq_self, List.map_cons, List.map_nil, Nat.reduceAdd, Nat.testBit, Nat.reduceShiftRight, Nat.reduceAnd, Nat.reduceBNe, Nat.reduceMul, hc.one, hc.len, hc.bel, STs, Bool.not_true, Bool.not_false, nameB_t nv, decide_eq_true hi])
    refine use_pure (same_spec hS _ _ c (used3 c) d (.slice none 0 0) (hc.frame (by omega) fun b hb => by simp (implicitDefEqProofs := false) (disch := omega) only [WPs, opds, List.all_cons, List.all_nil, List.cons_append, List.nil_append, cond_true, cond_false, eq_self, List.map_cons, List.map_nil, Nat.reduceAdd, Nat.testBit, Nat.reduceShiftRight, Nat.reduceAnd, Nat.reduceBNe, Nat.reduceMul]) (DatV.nil _ _) f8 (Nat.zero_le _)) fun _ => ?_
    repeat (first | refine use_pure (hOn _ _) fun _ => ?_ | refine use_pure (hNv _ _) fun _ => ?_ | refine use_pure (hNo _ _) fun _ => ?_ | refine use_pure (hIn _ _) fun _ => ?_ | simp (implicitDefEqProofs := false) (disch := omega) only [WPs, opds, List.all_cons, List.all_nil, List.cons_append, List.nil_append, cond_true, cond_false, eq_self, List.map_cons, List.map_nil, Nat.reduceAdd, Nat.testBit, Nat.reduceShiftRight, Nat.reduceAnd, Nat.reduceBNe, Nat.reduceMul, hc.one, hc.len, hc.bel, STs, Bool.not_true, Bool.not_false, nameB_t nv, decide_eq_true hi])
set_option maxHeartbeats 8000000 in
theorem cmdValid_4 (hE : E 17 = some ac17) (hN : E 33 = some ac33) (hT : Trims E Y) (hI : E 34 = some ac34) (hO : E 32 = some ac32) (hS : E 35 = some ac35) (m : FM) (n : Nat) (c : Cmd) (d : Value) (hF : c.Fit) (hc : DatV m n d c.data) (hh : HeadP c) (hk : c.kind = 4) :
    Pure (callW PG E Y 17 [cmdV c d] m n) m n (.bool (validB c)) := by
  obtain ⟨f1, f2, f3, f4, f5, f6, f7, f8⟩ := hF
  have hNv : ∀ m n, Pure (callW PG E Y 33 [.string c.vol] m n) m n (.bool (nameB c.vol)) := fun m n => name_spec hN hT m n _ f6
  have hNo : ∀ m n, Pure (callW PG E Y 33 [.string c.oth] m n) m n (.bool (nameB c.oth)) := fun m n => name_spec hN hT m n _ f7
  have hIn : ∀ m n, Pure (callW PG E Y 34 [.int .i64 c.at_, .int .i64 c.len] m n) m n (.bool (decide (insideP c.at_ c.len))) := fun m n => inside_spec hI m n _ _ f4 f5
  have hOn : ∀ m n, Pure (callW PG E Y 32 [cmdV c d] m n) m n (.agg #[.int .i64 c.tag, .int .i64 c.kind, .int .i64 c.ord, .bool false, .string ⟨#[]⟩, .string ⟨#[]⟩, .int .i64 0, .int .i64 0, .slice none 0 0]) := fun m n => only_spec hO m n c d hc.one
  clear f1 f2 f3 f4 f5 f6 f7
  refine pure_spec hE rfl rfl ?_
  simp only [ac17, cmdV]
  rcases hh.2.2 with t4 | t4
  all_goals
    have t1 := hh.1
    have t2 := hh.2.1
    by_cases hv : c.vol = ⟨#[]⟩
    case neg =>
      rw [validB_f fun h => hv ((valid_4 hk).1 h).2.1]
      repeat (first | refine use_pure (hOn _ _) fun _ => ?_ | refine use_pure (hNv _ _) fun _ => ?_ | refine use_pure (hNo _ _) fun _ => ?_ | refine use_pure (hIn _ _) fun _ => ?_ | simp (implicitDefEqProofs := false) (disch := omega) only [WPs, opds, List.all_cons, List.all_nil, List.cons_append, List.nil_append, cond_true, cond_false, eq_self, List.map_cons, List.map_nil, Nat.reduceAdd, Nat.testBit, Nat.reduceShiftRight, Nat.reduceAnd, Nat.reduceBNe, Nat.reduceMul, hc.one, hc.len, hc.bel, STs, Bool.not_true, Bool.not_false, decide_eq_false hv])
    rw [vs_4 hh hk hv]
    repeat (first | refine use_pure (hOn _ _) fun _ => ?_ | refine use_pure (hNv _ _) fun _ => ?_ | refine use_pure (hNo _ _) fun _ => ?_ | refine use_pure (hIn _ _) fun _ => ?_ | simp (implicitDefEqProofs := false) (disch := omega) only [WPs, opds, List.all_cons, List.all_nil, List.cons_append, List.nil_append, cond_true, cond_false, eq_self, List.map_cons, List.map_nil, Nat.reduceAdd, Nat.testBit, Nat.reduceShiftRight, Nat.reduceAnd, Nat.reduceBNe, Nat.reduceMul, hc.one, hc.len, hc.bel, STs, Bool.not_true, Bool.not_false, decide_eq_true hv])
    refine use_pure (same_spec hS _ _ c (used4 c) d (.slice none 0 0) (hc.frame (by omega) fun b hb => by simp (implicitDefEqProofs := false) (disch := omega) only [WPs, opds, List.all_cons, List.all_nil, List.cons_append, List.nil_append, cond_true, cond_false, eq_self, List.map_cons, List.map_nil, Nat.reduceAdd, Nat.testBit, Nat.reduceShiftRight, Nat.reduceAnd, Nat.reduceBNe, Nat.reduceMul]) (DatV.nil _ _) f8 (Nat.zero_le _)) fun _ => ?_
    repeat (first | refine use_pure (hOn _ _) fun _ => ?_ | refine use_pure (hNv _ _) fun _ => ?_ | refine use_pure (hNo _ _) fun _ => ?_ | refine use_pure (hIn _ _) fun _ => ?_ | simp (implicitDefEqProofs := false) (disch := omega) only [WPs, opds, List.all_cons, List.all_nil, List.cons_append, List.nil_append, cond_true, cond_false, eq_self, List.map_cons, List.map_nil, Nat.reduceAdd, Nat.testBit, Nat.reduceShiftRight, Nat.reduceAnd, Nat.reduceBNe, Nat.reduceMul, hc.one, hc.len, hc.bel, STs, Bool.not_true, Bool.not_false, decide_eq_true hv])
end Go.Am.C39
namespace Go.Am.C39
set_option maxRecDepth 100000
open Go Go.Am
variable {E : Nat → Option AFn} {Y : Nat → List Value → FM → Nat → OR FM}
set_option maxHeartbeats 8000000 in
theorem cmdValid_5 (hE : E 17 = some ac17) (hN : E 33 = some ac33) (hT : Trims E Y) (hI : E 34 = some ac34) (hO : E 32 = some ac32) (hS : E 35 = some ac35) (m : FM) (n : Nat) (c : Cmd) (d : Value) (hF : c.Fit) (hc : DatV m n d c.data) (hh : HeadP c) (hk : c.kind = 5) :
    Pure (callW PG E Y 17 [cmdV c d] m n) m n (.bool (validB c)) := by
  obtain ⟨f1, f2, f3, f4, f5, f6, f7, f8⟩ := hF
  have hNv : ∀ m n, Pure (callW PG E Y 33 [.string c.vol] m n) m n (.bool (nameB c.vol)) := fun m n => name_spec hN hT m n _ f6
  have hNo : ∀ m n, Pure (callW PG E Y 33 [.string c.oth] m n) m n (.bool (nameB c.oth)) := fun m n => name_spec hN hT m n _ f7
  have hIn : ∀ m n, Pure (callW PG E Y 34 [.int .i64 c.at_, .int .i64 c.len] m n) m n (.bool (decide (insideP c.at_ c.len))) := fun m n => inside_spec hI m n _ _ f4 f5
  have hOn : ∀ m n, Pure (callW PG E Y 32 [cmdV c d] m n) m n (.agg #[.int .i64 c.tag, .int .i64 c.kind, .int .i64 c.ord, .bool false, .string ⟨#[]⟩, .string ⟨#[]⟩, .int .i64 0, .int .i64 0, .slice none 0 0]) := fun m n => only_spec hO m n c d hc.one
  clear f1 f2 f3 f4 f5 f6 f7
  refine pure_spec hE rfl rfl ?_
  simp only [ac17, cmdV]
  rcases hh.2.2 with t4 | t4
  all_goals
    have t1 := hh.1
    have t2 := hh.2.1
    by_cases nv : NameP c.vol
    case neg =>
      rw [validB_f fun h => nv ((valid_5 hk).1 h).2.1]
      repeat (first | refine use_pure (hOn _ _) fun _ => ?_ | refine use_pure (hNv _ _) fun _ => ?_ | refine use_pure (hNo _ _) fun _ => ?_ | refine use_pure (hIn _ _) fun _ => ?_ | simp (implicitDefEqProofs := false) (disch := omega) only [WPs, opds, List.all_cons, List.all_nil, List.cons_append, List.nil_append, cond_true, cond_false, eq_self, List.map_cons, List.map_nil, Nat.reduceAdd, Nat.testBit, Nat.reduceShiftRight, Nat.reduceAnd, Nat.reduceBNe, Nat.reduceMul, hc.one, hc.len, hc.bel, STs, Bool.not_true, Bool.not_false, nameB_f nv])
    by_cases g4 : 1 ≤ c.len
    case neg =>
      rw [validB_f fun h => g4 ((valid_5 hk).1 h).2.2.2.2.2.1]
      repeat (first | refine use_pure (hOn _ _) fun _ => ?_ | refine use_pure (hNv _ _) fun _ => ?_ | refine use_pure (hNo _ _) fun _ => ?_ | refine use_pure (hIn _ _) fun _ => ?_ | simp (implicitDefEqProofs := false) (disch := omega) only [WPs, opds, List.all_cons, List.all_nil, List.cons_append, List.nil_append, cond_true, cond_false, eq_self, List.map_cons, List.map_nil, Nat.reduceAdd, Nat.testBit, Nat.reduceShiftRight, Nat.reduceAnd, Nat.reduceBNe, Nat.reduceMul, hc.one, hc.len, hc.bel, STs, Bool.not_true, Bool.not_false, nameB_t nv])
    by_cases g5 : c.len ≤ 65536
    case neg =>
      rw [validB_f fun h => g5 ((valid_5 hk).1 h).2.2.2.2.2.2.1]
      repeat (first | refine use_pure (hOn _ _) fun _ => ?_ | refine use_pure (hNv _ _) fun _ => ?_ | refine use_pure (hNo _ _) fun _ => ?_ | refine use_pure (hIn _ _) fun _ => ?_ | simp (implicitDefEqProofs := false) (disch := omega) only [WPs, opds, List.all_cons, List.all_nil, List.cons_append, List.nil_append, cond_true, cond_false, eq_self, List.map_cons, List.map_nil, Nat.reduceAdd, Nat.testBit, Nat.reduceShiftRight, Nat.reduceAnd, Nat.reduceBNe, Nat.reduceMul, hc.one, hc.len, hc.bel, STs, Bool.not_true, Bool.not_false, nameB_t nv])
    by_cases g6 : 0 ≤ c.at_
    case neg =>
      rw [validB_f fun h => g6 ((valid_5 hk).1 h).2.2.2.2.2.2.2.1]
      repeat (first | refine use_pure (hOn _ _) fun _ => ?_ | refine use_pure (hNv _ _) fun _ => ?_ | refine use_pure (hNo _ _) fun _ => ?_ | refine use_pure (hIn _ _) fun _ => ?_ | simp (implicitDefEqProofs := false) (disch := omega) only [WPs, opds, List.all_cons, List.all_nil, List.cons_append, List.nil_append, cond_true, cond_false, eq_self, List.map_cons, List.map_nil, Nat.reduceAdd, Nat.testBit, Nat.reduceShiftRight, Nat.reduceAnd, Nat.reduceBNe, Nat.reduceMul, hc.one, hc.len, hc.bel, STs, Bool.not_true, Bool.not_false, nameB_t nv])
    by_cases g7 : c.at_ ≤ c.len
    case neg =>
      rw [validB_f fun h => g7 ((valid_5 hk).1 h).2.2.2.2.2.2.2.2]
      repeat (first | refine use_pure (hOn _ _) fun _ => ?_ | refine use_pure (hNv _ _) fun _ => ?_ | refine use_pure (hNo _ _) fun _ => ?_ | refine use_pure (hIn _ _) fun _ => ?_ | simp (implicitDefEqProofs := false) (disch := omega) only [WPs, opds, List.all_cons, List.all_nil, List.cons_append, List.nil_append, cond_true, cond_false, eq_self, List.map_cons, List.map_nil, Nat.reduceAdd, Nat.testBit, Nat.reduceShiftRight, Nat.reduceAnd, Nat.reduceBNe, Nat.reduceMul, hc.one, hc.len, hc.bel, STs, Bool.not_true, Bool.not_false, nameB_t nv])
    rw [vs_5 hh hk nv g4 g5 g6 g7]
    repeat (first | refine use_pure (hOn _ _) fun _ => ?_ | refine use_pure (hNv _ _) fun _ => ?_ | refine use_pure (hNo _ _) fun _ => ?_ | refine use_pure (hIn _ _) fun _ => ?_ | simp (implicitDefEqProofs := false) (disch := omega) only [WPs, opds, List.all_cons, List.all_nil, List.cons_append, List.nil_append, cond_true, cond_false, eq_self, List.map_cons, List.map_nil, Nat.reduceAdd, Nat.testBit, Nat.reduceShiftRight, Nat.reduceAnd, Nat.reduceBNe, Nat.reduceMul, hc.one, hc.len, hc.bel, STs, Bool.not_true, Bool.not_false, nameB_t nv])
    refine use_pure (same_spec hS _ _ c (used5 c) d (.slice none 0 0) (hc.frame (by omega) fun b hb => by simp (implicitDefEqProofs := false) (disch := omega) only [WPs, opds, List.all_cons, List.all_nil, List.cons_append, List.nil_append, cond_true, cond_false, eq_self, List.map_cons, List.map_nil, Nat.reduceAdd, Nat.testBit, Nat.reduceShiftRight, Nat.reduceAnd, Nat.reduceBNe, Nat.reduceMul]) (DatV.nil _ _) f8 (Nat.zero_le _)) fun _ => ?_
    repeat (first | refine use_pure (hOn _ _) fun _ => ?_ | refine use_pure (hNv _ _) fun _ => ?_ | refine use_pure (hNo _ _) fun _ => ?_ | refine use_pure (hIn _ _) fun _ => ?_ | simp (implicitDefEqProofs := false) (disch := omega) only [WPs, opds, List.all_cons, List.all_nil, List.cons_append, List.nil_append, cond_true, cond_false, eq_self, List.map_cons, List.map_nil, Nat.reduceAdd, Nat.testBit, Nat.reduceShiftRight, Nat.reduceAnd, Nat.reduceBNe, Nat.reduceMul, hc.one, hc.len, hc.bel, STs, Bool.not_true, Bool.not_false, nameB_t nv])
end Go.Am.C39
