/- The machine and its runs, part 11: Az39d3 Az39d4 Az39e Az39r0 Az39r1 Az39r2 Az39r3 Az39r4 Az39r Az39f Az39g Az39h Az39i Az39pu. -/
import Derived.Shelf.LaysM
import Derived.Shelf.Strconv.Lower
import Derived.Lib.Strings
import Derived.Lib.Walk
import Derived.Lib.ConvBytes
import Derived.Lib.ParseIntBMem
import Derived.Lib.Hide
import Derived.Laws.Strings3
import Derived.Laws.Closers25
import Derived.Laws.Closers25b
import Derived.WalkKit
import Derived.BigCall
import Derived.BigGuard
import Derived.Test.YtibpnegblcdioaaGreatDoorB10
set_option linter.unusedVariables false
set_option linter.unusedSimpArgs false
set_option linter.unusedSectionVars false
namespace Go.Am.C39
set_option maxRecDepth 100000
open Go Go.Am
variable {E : Nat → Option AFn} {Y : Nat → List Value → FM → Nat → OR FM}
set_option maxHeartbeats 8000000 in
theorem cmdValid_6 (hE : E 20 = some ac20) (hN : E 33 = some ac33) (hT : Trims E Y) (hI : E 34 = some ac34) (hO : E 32 = some ac32) (hS : E 35 = some ac35) (m : FM) (n : Nat) (c : Cmd) (d : Value) (hF : c.Fit) (hc : DatV m n d c.data) (hh : HeadP c) (hk : c.kind = 6) :
    Pure (callW PG E Y 20 [cmdV c d] m n) m n (.bool (validB c)) := by
  obtain ⟨f1, f2, f3, f4, f5, f6, f7, f8⟩ := hF
  have hNv : ∀ m n, Pure (callW PG E Y 33 [.string c.vol] m n) m n (.bool (nameB c.vol)) := fun m n => name_spec hN hT m n _ f6
  have hNo : ∀ m n, Pure (callW PG E Y 33 [.string c.oth] m n) m n (.bool (nameB c.oth)) := fun m n => name_spec hN hT m n _ f7
  have hIn : ∀ m n, Pure (callW PG E Y 34 [.int .i64 c.at_, .int .i64 c.len] m n) m n (.bool (decide (insideP c.at_ c.len))) := fun m n => inside_spec hI m n _ _ f4 f5
  have hOn : ∀ m n, Pure (callW PG E Y 32 [cmdV c d] m n) m n (.agg #[.int .i64 c.tag, .int .i64 c.kind, .int .i64 c.ord, .bool false, .string ⟨#[]⟩, .string ⟨#[]⟩, .int .i64 0, .int .i64 0, .slice none 0 0]) := fun m n => only_spec hO m n c d hc.one
  clear f1 f2 f3 f4 f5 f6 f7
  refine pure_spec hE rfl rfl ?_
  simp only [ac20, cmdV]
  rcases hh.2.2 with t4 | t4
  all_goals
    have t1 := hh.1
    have t2 := hh.2.1
    by_cases nv : NameP c.vol
    case neg =>
      rw [validB_f fun h => nv ((valid_6 hk).1 h).2.1]
      repeat (first | refine use_pure (hOn _ _) fun _ => ?_ | refine use_pure (hNv _ _) fun _ => ?_ | refine use_pure (hNo _ _) fun _ => ?_ | refine use_pure (hIn _ _) fun _ => ?_ | simp (implicitDefEqProofs := false) (disch := omega) only [WPs, opds, List.all_cons, List.all_nil, List.cons_append, List.nil_append, cond_true, cond_false, eq_self, List.map_cons, List.map_nil, Nat.reduceAdd, Nat.testBit, Nat.reduceShiftRight, Nat.reduceAnd, Nat.reduceBNe, Nat.reduceMul, hc.one, hc.len, hc.bel, STs, Bool.not_true, Bool.not_false, nameB_f nv])
    by_cases nq : NameP c.oth
    case neg =>
      rw [validB_f fun h => nq ((valid_6 hk).1 h).2.2.1]
      repeat (first | refine use_pure (hOn _ _) fun _ => ?_ | refine use_pure (hNv _ _) fun _ => ?_ | refine use_pure (hNo _ _) fun _ => ?_ | refine use_pure (hIn _ _) fun _ => ?_ | simp (implicitDefEqProofs := false) (disch := omega) only [WPs, opds, List.all_cons, List.all_nil, List.cons_append, List.nil_append, cond_true, cond_false, eq_self, List.map_cons, List.map_nil, Nat.reduceAdd, Nat.testBit, Nat.reduceShiftRight, Nat.reduceAnd, Nat.reduceBNe, Nat.reduceMul, hc.one, hc.len, hc.bel, STs, Bool.not_true, Bool.not_false, nameB_t nv, nameB_f nq])
    by_cases hne : c.oth ≠ c.vol
    case neg =>
      rw [validB_f fun h => hne ((valid_6 hk).1 h).2.2.2.1]
      repeat (first | refine use_pure (hOn _ _) fun _ => ?_ | refine use_pure (hNv _ _) fun _ => ?_ | refine use_pure (hNo _ _) fun _ => ?_ | refine use_pure (hIn _ _) fun _ => ?_ | simp (implicitDefEqProofs := false) (disch := omega) only [WPs, opds, List.all_cons, List.all_nil, List.cons_append, List.nil_append, cond_true, cond_false, eq_self, List.map_cons, List.map_nil, Nat.reduceAdd, Nat.testBit, Nat.reduceShiftRight, Nat.reduceAnd, Nat.reduceBNe, Nat.reduceMul, hc.one, hc.len, hc.bel, STs, Bool.not_true, Bool.not_false, nameB_t nv, nameB_t nq, decide_eq_true (Classical.not_not.1 hne)])
    rw [vs_6 hh hk nv nq hne]
    repeat (first | refine use_pure (hOn _ _) fun _ => ?_ | refine use_pure (hNv _ _) fun _ => ?_ | refine use_pure (hNo _ _) fun _ => ?_ | refine use_pure (hIn _ _) fun _ => ?_ | simp (implicitDefEqProofs := false) (disch := omega) only [WPs, opds, List.all_cons, List.all_nil, List.cons_append, List.nil_append, cond_true, cond_false, eq_self, List.map_cons, List.map_nil, Nat.reduceAdd, Nat.testBit, Nat.reduceShiftRight, Nat.reduceAnd, Nat.reduceBNe, Nat.reduceMul, hc.one, hc.len, hc.bel, STs, Bool.not_true, Bool.not_false, nameB_t nv, nameB_t nq, decide_eq_false hne])
    refine use_pure (same_spec hS _ _ c (used6 c) d (.slice none 0 0) (hc.frame (by omega) fun b hb => by simp (implicitDefEqProofs := false) (disch := omega) only [WPs, opds, List.all_cons, List.all_nil, List.cons_append, List.nil_append, cond_true, cond_false, eq_self, List.map_cons, List.map_nil, Nat.reduceAdd, Nat.testBit, Nat.reduceShiftRight, Nat.reduceAnd, Nat.reduceBNe, Nat.reduceMul]) (DatV.nil _ _) f8 (Nat.zero_le _)) fun _ => ?_
    repeat (first | refine use_pure (hOn _ _) fun _ => ?_ | refine use_pure (hNv _ _) fun _ => ?_ | refine use_pure (hNo _ _) fun _ => ?_ | refine use_pure (hIn _ _) fun _ => ?_ | simp (implicitDefEqProofs := false) (disch := omega) only [WPs, opds, List.all_cons, List.all_nil, List.cons_append, List.nil_append, cond_true, cond_false, eq_self, List.map_cons, List.map_nil, Nat.reduceAdd, Nat.testBit, Nat.reduceShiftRight, Nat.reduceAnd, Nat.reduceBNe, Nat.reduceMul, hc.one, hc.len, hc.bel, STs, Bool.not_true, Bool.not_false, nameB_t nv, nameB_t nq, decide_eq_false hne])
end Go.Am.C39
namespace Go.Am.C39
set_option maxRecDepth 100000
open Go Go.Am
variable {E : Nat → Option AFn} {Y : Nat → List Value → FM → Nat → OR FM}
set_option maxHeartbeats 8000000 in
theorem cmdValid_7 (hE : E 20 = some ac20) (hN : E 33 = some ac33) (hT : Trims E Y) (hI : E 34 = some ac34) (hO : E 32 = some ac32) (hS : E 35 = some ac35) (m : FM) (n : Nat) (c : Cmd) (d : Value) (hF : c.Fit) (hc : DatV m n d c.data) (hh : HeadP c) (hk : c.kind = 7) :
    Pure (callW PG E Y 20 [cmdV c d] m n) m n (.bool (validB c)) := by
  obtain ⟨f1, f2, f3, f4, f5, f6, f7, f8⟩ := hF
  have hNv : ∀ m n, Pure (callW PG E Y 33 [.string c.vol] m n) m n (.bool (nameB c.vol)) := fun m n => name_spec hN hT m n _ f6
  have hNo : ∀ m n, Pure (callW PG E Y 33 [.string c.oth] m n) m n (.bool (nameB c.oth)) := fun m n => name_spec hN hT m n _ f7
  have hIn : ∀ m n, Pure (callW PG E Y 34 [.int .i64 c.at_, .int .i64 c.len] m n) m n (.bool (decide (insideP c.at_ c.len))) := fun m n => inside_spec hI m n _ _ f4 f5
  have hOn : ∀ m n, Pure (callW PG E Y 32 [cmdV c d] m n) m n (.agg #[.int .i64 c.tag, .int .i64 c.kind, .int .i64 c.ord, .bool false, .string ⟨#[]⟩, .string ⟨#[]⟩, .int .i64 0, .int .i64 0, .slice none 0 0]) := fun m n => only_spec hO m n c d hc.one
  clear f1 f2 f3 f4 f5 f6 f7
  refine pure_spec hE rfl rfl ?_
  simp only [ac20, cmdV]
  rcases hh.2.2 with t4 | t4
  all_goals
    have t1 := hh.1
    have t2 := hh.2.1
    by_cases nv : NameP c.vol
    case neg =>
      rw [validB_f fun h => nv ((valid_7 hk).1 h).2.1]
      repeat (first | refine use_pure (hOn _ _) fun _ => ?_ | refine use_pure (hNv _ _) fun _ => ?_ | refine use_pure (hNo _ _) fun _ => ?_ | refine use_pure (hIn _ _) fun _ => ?_ | simp (implicitDefEqProofs := false) (disch := omega) only [WPs, opds, List.all_cons, List.all_nil, List.cons_append, List.nil_append, cond_true, cond_false, eq_self, List.map_cons, List.map_nil, Nat.reduceAdd, Nat.testBit, Nat.reduceShiftRight, Nat.reduceAnd, Nat.reduceBNe, Nat.reduceMul, hc.one, hc.len, hc.bel, STs, Bool.not_true, Bool.not_false, nameB_f nv])
    rw [vs_7 hh hk nv]
    repeat (first | refine use_pure (hOn _ _) fun _ => ?_ | refine use_pure (hNv _ _) fun _ => ?_ | refine use_pure (hNo _ _) fun _ => ?_ | refine use_pure (hIn _ _) fun _ => ?_ | simp (implicitDefEqProofs := false) (disch := omega) only [WPs, opds, List.all_cons, List.all_nil, List.cons_append, List.nil_append, cond_true, cond_false, eq_self, List.map_cons, List.map_nil, Nat.reduceAdd, Nat.testBit, Nat.reduceShiftRight, Nat.reduceAnd, Nat.reduceBNe, Nat.reduceMul, hc.one, hc.len, hc.bel, STs, Bool.not_true, Bool.not_false, nameB_t nv])
    refine use_pure (same_spec hS _ _ c (used7 c) d (.slice none 0 0) (hc.frame (by omega) fun b hb => by simp (implicitDefEqProofs := false) (disch := omega) only [WPs, opds, List.all_cons, List.all_nil, List.cons_append, List.nil_append, cond_true, cond_false, eq_self, List.map_cons, List.map_nil, Nat.reduceAdd, Nat.testBit, Nat.reduceShiftRight, Nat.reduceAnd, Nat.reduceBNe, Nat.reduceMul]) (DatV.nil _ _) f8 (Nat.zero_le _)) fun _ => ?_
    repeat (first | refine use_pure (hOn _ _) fun _ => ?_ | refine use_pure (hNv _ _) fun _ => ?_ | refine use_pure (hNo _ _) fun _ => ?_ | refine use_pure (hIn _ _) fun _ => ?_ | simp (implicitDefEqProofs := false) (disch := omega) only [WPs, opds, List.all_cons, List.all_nil, List.cons_append, List.nil_append, cond_true, cond_false, eq_self, List.map_cons, List.map_nil, Nat.reduceAdd, Nat.testBit, Nat.reduceShiftRight, Nat.reduceAnd, Nat.reduceBNe, Nat.reduceMul, hc.one, hc.len, hc.bel, STs, Bool.not_true, Bool.not_false, nameB_t nv])
set_option maxHeartbeats 8000000 in
theorem cmdValid_x (hE : E 20 = some ac20) (hN : E 33 = some ac33) (hT : Trims E Y) (hI : E 34 = some ac34) (hO : E 32 = some ac32) (hS : E 35 = some ac35) (m : FM) (n : Nat) (c : Cmd) (d : Value) (hF : c.Fit) (hc : DatV m n d c.data) (hh : HeadP c) (hk : ¬ (1 ≤ c.kind ∧ c.kind ≤ 7)) :
    Pure (callW PG E Y 20 [cmdV c d] m n) m n (.bool (validB c)) := by
  obtain ⟨f1, f2, f3, f4, f5, f6, f7, f8⟩ := hF
  have hNv : ∀ m n, Pure (callW PG E Y 33 [.string c.vol] m n) m n (.bool (nameB c.vol)) := fun m n => name_spec hN hT m n _ f6
  have hNo : ∀ m n, Pure (callW PG E Y 33 [.string c.oth] m n) m n (.bool (nameB c.oth)) := fun m n => name_spec hN hT m n _ f7
  have hIn : ∀ m n, Pure (callW PG E Y 34 [.int .i64 c.at_, .int .i64 c.len] m n) m n (.bool (decide (insideP c.at_ c.len))) := fun m n => inside_spec hI m n _ _ f4 f5
  have hOn : ∀ m n, Pure (callW PG E Y 32 [cmdV c d] m n) m n (.agg #[.int .i64 c.tag, .int .i64 c.kind, .int .i64 c.ord, .bool false, .string ⟨#[]⟩, .string ⟨#[]⟩, .int .i64 0, .int .i64 0, .slice none 0 0]) := fun m n => only_spec hO m n c d hc.one
  clear f1 f2 f3 f4 f5 f6 f7
  refine pure_spec hE rfl rfl ?_
  simp only [ac20, cmdV]
  rcases hh.2.2 with t4 | t4
  all_goals
    have t1 := hh.1
    have t2 := hh.2.1
    rw [validB_f (valid_x hk)]
    repeat (first | refine use_pure (hOn _ _) fun _ => ?_ | refine use_pure (hNv _ _) fun _ => ?_ | refine use_pure (hNo _ _) fun _ => ?_ | refine use_pure (hIn _ _) fun _ => ?_ | simp (implicitDefEqProofs := false) (disch := omega) only [WPs, opds, List.all_cons, List.all_nil, List.cons_append, List.nil_append, cond_true, cond_false, eq_self, List.map_cons, List.map_nil, Nat.reduceAdd, Nat.testBit, Nat.reduceShiftRight, Nat.reduceAnd, Nat.reduceBNe, Nat.reduceMul, hc.one, hc.len, hc.bel, STs, Bool.not_true, Bool.not_false])
end Go.Am.C39
namespace Go.Am.C39
set_option maxRecDepth 100000
open Go Go.Am
variable {E : Nat → Option AFn} {Y : Nat → List Value → FM → Nat → OR FM}
set_option maxHeartbeats 8000000 in
theorem cmdValid_spec (hE : E 20 = some ac20) (hN : E 33 = some ac33) (hT : Trims E Y) (hI : E 34 = some ac34) (hO : E 32 = some ac32) (hS : E 35 = some ac35) (m : FM) (n : Nat) (c : Cmd) (d : Value) (hF : c.Fit) (hc : DatV m n d c.data) :
    Pure (callW PG E Y 20 [cmdV c d] m n) m n (.bool (validB c)) := by
  by_cases hh : HeadP c
  case pos =>
    by_cases k1 : c.kind = 1
    · exact cmdValid_1 hE hN hT hI hO hS m n c d hF hc hh k1
    by_cases k2 : c.kind = 2
    · exact cmdValid_2 hE hN hT hI hO hS m n c d hF hc hh k2
    by_cases k3 : c.kind = 3
    · exact cmdValid_3 hE hN hT hI hO hS m n c d hF hc hh k3
    by_cases k4 : c.kind = 4
    · exact cmdValid_4 hE hN hT hI hO hS m n c d hF hc hh k4
    by_cases k5 : c.kind = 5
    · exact cmdValid_5 hE hN hT hI hO hS m n c d hF hc hh k5
    by_cases k6 : c.kind = 6
    · exact cmdValid_6 hE hN hT hI hO hS m n c d hF hc hh k6
    by_cases k7 : c.kind = 7
    · exact cmdValid_7 hE hN hT hI hO hS m n c d hF hc hh k7
    exact cmdValid_x hE hN hT hI hO hS m n c d hF hc hh (by omega)
  obtain ⟨f1, f2, f3, f4, f5, f6, f7, f8⟩ := hF
  have hNv : ∀ m n, Pure (callW PG E Y 33 [.string c.vol] m n) m n (.bool (nameB c.vol)) := fun m n => name_spec hN hT m n _ f6
  have hNo : ∀ m n, Pure (callW PG E Y 33 [.string c.oth] m n) m n (.bool (nameB c.oth)) := fun m n => name_spec hN hT m n _ f7
  have hIn : ∀ m n, Pure (callW PG E Y 34 [.int .i64 c.at_, .int .i64 c.len] m n) m n (.bool (decide (insideP c.at_ c.len))) := fun m n => inside_spec hI m n _ _ f4 f5
  have hOn : ∀ m n, Pure (callW PG E Y 32 [cmdV c d] m n) m n (.agg #[.int .i64 c.tag, .int .i64 c.kind, .int .i64 c.ord, .bool false, .string ⟨#[]⟩, .string ⟨#[]⟩, .int .i64 0, .int .i64 0, .slice none 0 0]) := fun m n => only_spec hO m n c d hc.one
  clear f1 f2 f3 f4 f5 f6 f7
  refine pure_spec hE rfl rfl ?_
  simp only [ac20, cmdV]
  rw [validB_f fun h => hh h.1]
  by_cases t1 : c.tag < 0
  case pos =>
    repeat (first | refine use_pure (hOn _ _) fun _ => ?_ | refine use_pure (hNv _ _) fun _ => ?_ | refine use_pure (hNo _ _) fun _ => ?_ | refine use_pure (hIn _ _) fun _ => ?_ | simp (implicitDefEqProofs := false) (disch := omega) only [WPs, opds, List.all_cons, List.all_nil, List.cons_append, List.nil_append, cond_true, cond_false, eq_self, List.map_cons, List.map_nil, Nat.reduceAdd, Nat.testBit, Nat.reduceShiftRight, Nat.reduceAnd, Nat.reduceBNe, Nat.reduceMul, hc.one, cells_of_one hc.one, hc.len, hc.bel, STs, Bool.not_true, Bool.not_false])
  by_cases t2 : 2147483647 < c.tag
  case pos =>
    repeat (first | refine use_pure (hOn _ _) fun _ => ?_ | refine use_pure (hNv _ _) fun _ => ?_ | refine use_pure (hNo _ _) fun _ => ?_ | refine use_pure (hIn _ _) fun _ => ?_ | simp (implicitDefEqProofs := false) (disch := omega) only [WPs, opds, List.all_cons, List.all_nil, List.cons_append, List.nil_append, cond_true, cond_false, eq_self, List.map_cons, List.map_nil, Nat.reduceAdd, Nat.testBit, Nat.reduceShiftRight, Nat.reduceAnd, Nat.reduceBNe, Nat.reduceMul, hc.one, cells_of_one hc.one, hc.len, hc.bel, STs, Bool.not_true, Bool.not_false])
  have t3 : ¬ (c.ord = 0 ∨ c.ord = 1) := fun h => hh ⟨by omega, by omega, h⟩
  repeat (first | refine use_pure (hOn _ _) fun _ => ?_ | refine use_pure (hNv _ _) fun _ => ?_ | refine use_pure (hNo _ _) fun _ => ?_ | refine use_pure (hIn _ _) fun _ => ?_ | simp (implicitDefEqProofs := false) (disch := omega) only [WPs, opds, List.all_cons, List.all_nil, List.cons_append, List.nil_append, cond_true, cond_false, eq_self, List.map_cons, List.map_nil, Nat.reduceAdd, Nat.testBit, Nat.reduceShiftRight, Nat.reduceAnd, Nat.reduceBNe, Nat.reduceMul, hc.one, cells_of_one hc.one, hc.len, hc.bel, STs, Bool.not_true, Bool.not_false])
end Go.Am.C39
namespace Go.Am.C39
set_option maxRecDepth 100000
open Go Go.Am
variable {E : Nat → Option AFn} {Y : Nat → List Value → FM → Nat → OR FM}
set_option maxHeartbeats 8000000 in
theorem refValid_1 (hE : E 18 = some ac18) (hN : E 29 = some ac29) (hI : E 30 = some ac30) (m : FM) (n : Nat) (c : Cmd) (d : Value) (hF : c.Fit) (hc : DatV m n d c.data) (hh : HeadP c) (hk : c.kind = 1) :
    Pure (callW PG E Y 18 [cmdV c d] m n) m n (.bool (validB c)) := by
  obtain ⟨f1, f2, f3, f4, f5, f6, f7, f8⟩ := hF
  have hNm : ∀ m n s, Pure (callW PG E Y 29 [.string s] m n) m n (.bool (nameB s)) := fun m n s => Name_spec hN m n s
  have hIn : ∀ m n, Pure (callW PG E Y 30 [.int .i64 c.at_, .int .i64 c.len] m n) m n (.bool (decide (insideP c.at_ c.len))) := fun m n => within_spec hI m n _ _ f4 f5
  clear f1 f2 f3 f4 f5 f6 f7 f8
  refine pure_spec hE rfl rfl ?_
  simp only [ac18, cmdV]
  rcases hh.2.2 with t4 | t4
  all_goals
    have t1 := hh.1
    have t2 := hh.2.1
    by_cases ho : c.oth = ⟨#[]⟩
    case neg =>
      by_cases nv : NameP c.vol
      case neg =>
        rw [validB_f fun h => nv ((valid_1 hk).1 h).2.1]
        repeat (first | refine use_pure (hNm _ _ _) fun _ => ?_ | refine use_pure (hIn _ _) fun _ => ?_ | simp (implicitDefEqProofs := false) (disch := omega) only [WPs, opds, List.all_cons, List.all_nil, List.cons_append, List.nil_append, cond_true, cond_false, eq_self, List.map_cons, List.map_nil, Nat.reduceAdd, Nat.testBit, Nat.reduceShiftRight, Nat.reduceAnd, Nat.reduceBNe, Nat.reduceMul, hc.one, hc.len, hc.bel, STs, Bool.not_true, Bool.not_false, decide_eq_false ho, nameB_f nv])
      rw [validB_f fun h => ho ((valid_1 hk).1 h).2.2.1]
      repeat (first | refine use_pure (hNm _ _ _) fun _ => ?_ | refine use_pure (hIn _ _) fun _ => ?_ | simp (implicitDefEqProofs := false) (disch := omega) only [WPs, opds, List.all_cons, List.all_nil, List.cons_append, List.nil_append, cond_true, cond_false, eq_self, List.map_cons, List.map_nil, Nat.reduceAdd, Nat.testBit, Nat.reduceShiftRight, Nat.reduceAnd, Nat.reduceBNe, Nat.reduceMul, hc.one, hc.len, hc.bel, STs, Bool.not_true, Bool.not_false, decide_eq_false ho, nameB_t nv])
    by_cases hd : c.data = []
    case neg =>
      have hdl : c.data.length ≠ 0 := fun h => hd (List.eq_nil_of_length_eq_zero h)
      by_cases nv : NameP c.vol
      case neg =>
        rw [validB_f fun h => nv ((valid_1 hk).1 h).2.1]
        repeat (first | refine use_pure (hNm _ _ _) fun _ => ?_ | refine use_pure (hIn _ _) fun _ => ?_ | simp (implicitDefEqProofs := false) (disch := omega) only [WPs, opds, List.all_cons, List.all_nil, List.cons_append, List.nil_append, cond_true, cond_false, eq_self, List.map_cons, List.map_nil, Nat.reduceAdd, Nat.testBit, Nat.reduceShiftRight, Nat.reduceAnd, Nat.reduceBNe, Nat.reduceMul, hc.one, hc.len, hc.bel, STs, Bool.not_true, Bool.not_false, decide_eq_true ho, nameB_f nv])
      rw [validB_f fun h => hd ((valid_1 hk).1 h).2.2.2.1]
      repeat (first | refine use_pure (hNm _ _ _) fun _ => ?_ | refine use_pure (hIn _ _) fun _ => ?_ | simp (implicitDefEqProofs := false) (disch := omega) only [WPs, opds, List.all_cons, List.all_nil, List.cons_append, List.nil_append, cond_true, cond_false, eq_self, List.map_cons, List.map_nil, Nat.reduceAdd, Nat.testBit, Nat.reduceShiftRight, Nat.reduceAnd, Nat.reduceBNe, Nat.reduceMul, hc.one, hc.len, hc.bel, STs, Bool.not_true, Bool.not_false, decide_eq_true ho, nameB_t nv])
    have hdl : c.data.length = 0 := by rw [hd]; rfl
    by_cases nv : NameP c.vol
    case neg =>
      rw [validB_f fun h => nv ((valid_1 hk).1 h).2.1]
      repeat (first | refine use_pure (hNm _ _ _) fun _ => ?_ | refine use_pure (hIn _ _) fun _ => ?_ | simp (implicitDefEqProofs := false) (disch := omega) only [WPs, opds, List.all_cons, List.all_nil, List.cons_append, List.nil_append, cond_true, cond_false, eq_self, List.map_cons, List.map_nil, Nat.reduceAdd, Nat.testBit, Nat.reduceShiftRight, Nat.reduceAnd, Nat.reduceBNe, Nat.reduceMul, hc.one, hc.len, hc.bel, STs, Bool.not_true, Bool.not_false, decide_eq_true ho, nameB_f nv])
    by_cases hf : c.force = false
    case neg =>
      have hf1 : c.force = true := by simpa using hf
      rw [validB_f fun h => hf ((valid_1 hk).1 h).2.2.2.2.1]
      repeat (first | refine use_pure (hNm _ _ _) fun _ => ?_ | refine use_pure (hIn _ _) fun _ => ?_ | simp (implicitDefEqProofs := false) (disch := omega) only [WPs, opds, List.all_cons, List.all_nil, List.cons_append, List.nil_append, cond_true, cond_false, eq_self, List.map_cons, List.map_nil, Nat.reduceAdd, Nat.testBit, Nat.reduceShiftRight, Nat.reduceAnd, Nat.reduceBNe, Nat.reduceMul, hc.one, hc.len, hc.bel, STs, Bool.not_true, Bool.not_false, decide_eq_true ho, nameB_t nv, hf1])
    by_cases hi : insideP c.at_ c.len
    case neg =>
      rw [validB_f fun h => hi ((valid_1 hk).1 h).2.2.2.2.2.1]
      repeat (first | refine use_pure (hNm _ _ _) fun _ => ?_ | refine use_pure (hIn _ _) fun _ => ?_ | simp (implicitDefEqProofs := false) (disch := omega) only [WPs, opds, List.all_cons, List.all_nil, List.cons_append, List.nil_append, cond_true, cond_false, eq_self, List.map_cons, List.map_nil, Nat.reduceAdd, Nat.testBit, Nat.reduceShiftRight, Nat.reduceAnd, Nat.reduceBNe, Nat.reduceMul, hc.one, hc.len, hc.bel, STs, Bool.not_true, Bool.not_false, decide_eq_true ho, nameB_t nv, hf, decide_eq_false hi])
    by_cases g5 : c.len ≤ 16
    case neg =>
      rw [validB_f fun h => g5 ((valid_1 hk).1 h).2.2.2.2.2.2]
      repeat (first | refine use_pure (hNm _ _ _) fun _ => ?_ | refine use_pure (hIn _ _) fun _ => ?_ | simp (implicitDefEqProofs := false) (disch := omega) only [WPs, opds, List.all_cons, List.all_nil, List.cons_append, List.nil_append, cond_true, cond_false, eq_self, List.map_cons, List.map_nil, Nat.reduceAdd, Nat.testBit, Nat.reduceShiftRight, Nat.reduceAnd, Nat.reduceBNe, Nat.reduceMul, hc.one, hc.len, hc.bel, STs, Bool.not_true, Bool.not_false, decide_eq_true ho, nameB_t nv, hf, decide_eq_true hi])
    rw [validB_t ((valid_1 hk).2 ⟨hh, nv, ho, hd, hf, hi, g5⟩)]
    repeat (first | refine use_pure (hNm _ _ _) fun _ => ?_ | refine use_pure (hIn _ _) fun _ => ?_ | simp (implicitDefEqProofs := false) (disch := omega) only [WPs, opds, List.all_cons, List.all_nil, List.cons_append, List.nil_append, cond_true, cond_false, eq_self, List.map_cons, List.map_nil, Nat.reduceAdd, Nat.testBit, Nat.reduceShiftRight, Nat.reduceAnd, Nat.reduceBNe, Nat.reduceMul, hc.one, hc.len, hc.bel, STs, Bool.not_true, Bool.not_false, decide_eq_true ho, nameB_t nv, hf, decide_eq_true hi])
set_option maxHeartbeats 8000000 in
theorem refValid_2 (hE : E 18 = some ac18) (hN : E 29 = some ac29) (hI : E 30 = some ac30) (m : FM) (n : Nat) (c : Cmd) (d : Value) (hF : c.Fit) (hc : DatV m n d c.data) (hh : HeadP c) (hk : c.kind = 2) :
    Pure (callW PG E Y 18 [cmdV c d] m n) m n (.bool (validB c)) := by
  obtain ⟨f1, f2, f3, f4, f5, f6, f7, f8⟩ := hF
  have hNm : ∀ m n s, Pure (callW PG E Y 29 [.string s] m n) m n (.bool (nameB s)) := fun m n s => Name_spec hN m n s
  have hIn : ∀ m n, Pure (callW PG E Y 30 [.int .i64 c.at_, .int .i64 c.len] m n) m n (.bool (decide (insideP c.at_ c.len))) := fun m n => within_spec hI m n _ _ f4 f5
  clear f1 f2 f3 f4 f5 f6 f7 f8
  refine pure_spec hE rfl rfl ?_
  simp only [ac18, cmdV]
  rcases hh.2.2 with t4 | t4
  all_goals
    have t1 := hh.1
    have t2 := hh.2.1
    by_cases ho : c.oth = ⟨#[]⟩
    case neg =>
      by_cases nv : NameP c.vol
      case neg =>
        rw [validB_f fun h => nv ((valid_2 hk).1 h).2.1]
        repeat (first | refine use_pure (hNm _ _ _) fun _ => ?_ | refine use_pure (hIn _ _) fun _ => ?_ | simp (implicitDefEqProofs := false) (disch := omega) only [WPs, opds, List.all_cons, List.all_nil, List.cons_append, List.nil_append, cond_true, cond_false, eq_self, List.map_cons, List.map_nil, Nat.reduceAdd, Nat.testBit, Nat.reduceShiftRight, Nat.reduceAnd, Nat.reduceBNe, Nat.reduceMul, hc.one, hc.len, hc.bel, STs, Bool.not_true, Bool.not_false, decide_eq_false ho, nameB_f nv])
      rw [validB_f fun h => ho ((valid_2 hk).1 h).2.2.1]
      repeat (first | refine use_pure (hNm _ _ _) fun _ => ?_ | refine use_pure (hIn _ _) fun _ => ?_ | simp (implicitDefEqProofs := false) (disch := omega) only [WPs, opds, List.all_cons, List.all_nil, List.cons_append, List.nil_append, cond_true, cond_false, eq_self, List.map_cons, List.map_nil, Nat.reduceAdd, Nat.testBit, Nat.reduceShiftRight, Nat.reduceAnd, Nat.reduceBNe, Nat.reduceMul, hc.one, hc.len, hc.bel, STs, Bool.not_true, Bool.not_false, decide_eq_false ho, nameB_t nv])
    by_cases hd : c.data = []
    case neg =>
      have hdl : c.data.length ≠ 0 := fun h => hd (List.eq_nil_of_length_eq_zero h)
      by_cases nv : NameP c.vol
      case neg =>
        rw [validB_f fun h => nv ((valid_2 hk).1 h).2.1]
        repeat (first | refine use_pure (hNm _ _ _) fun _ => ?_ | refine use_pure (hIn _ _) fun _ => ?_ | simp (implicitDefEqProofs := false) (disch := omega) only [WPs, opds, List.all_cons, List.all_nil, List.cons_append, List.nil_append, cond_true, cond_false, eq_self, List.map_cons, List.map_nil, Nat.reduceAdd, Nat.testBit, Nat.reduceShiftRight, Nat.reduceAnd, Nat.reduceBNe, Nat.reduceMul, hc.one, hc.len, hc.bel, STs, Bool.not_true, Bool.not_false, decide_eq_true ho, nameB_f nv])
      by_cases hi : insideP c.at_ c.len
      case neg =>
        rw [validB_f fun h => hi ((valid_2 hk).1 h).2.2.2.1]
        repeat (first | refine use_pure (hNm _ _ _) fun _ => ?_ | refine use_pure (hIn _ _) fun _ => ?_ | simp (implicitDefEqProofs := false) (disch := omega) only [WPs, opds, List.all_cons, List.all_nil, List.cons_append, List.nil_append, cond_true, cond_false, eq_self, List.map_cons, List.map_nil, Nat.reduceAdd, Nat.testBit, Nat.reduceShiftRight, Nat.reduceAnd, Nat.reduceBNe, Nat.reduceMul, hc.one, hc.len, hc.bel, STs, Bool.not_true, Bool.not_false, decide_eq_true ho, nameB_t nv, decide_eq_false hi])
      by_cases g3 : c.len ≤ 16
      case neg =>
        rw [validB_f fun h => g3 ((valid_2 hk).1 h).2.2.2.2.1]
        repeat (first | refine use_pure (hNm _ _ _) fun _ => ?_ | refine use_pure (hIn _ _) fun _ => ?_ | simp (implicitDefEqProofs := false) (disch := omega) only [WPs, opds, List.all_cons, List.all_nil, List.cons_append, List.nil_append, cond_true, cond_false, eq_self, List.map_cons, List.map_nil, Nat.reduceAdd, Nat.testBit, Nat.reduceShiftRight, Nat.reduceAnd, Nat.reduceBNe, Nat.reduceMul, hc.one, hc.len, hc.bel, STs, Bool.not_true, Bool.not_false, decide_eq_true ho, nameB_t nv, decide_eq_true hi])
      by_cases g4 : (c.data.length : Int) = c.len
      case neg =>
        rw [validB_f fun h => g4 ((valid_2 hk).1 h).2.2.2.2.2]
        repeat (first | refine use_pure (hNm _ _ _) fun _ => ?_ | refine use_pure (hIn _ _) fun _ => ?_ | simp (implicitDefEqProofs := false) (disch := omega) only [WPs, opds, List.all_cons, List.all_nil, List.cons_append, List.nil_append, cond_true, cond_false, eq_self, List.map_cons, List.map_nil, Nat.reduceAdd, Nat.testBit, Nat.reduceShiftRight, Nat.reduceAnd, Nat.reduceBNe, Nat.reduceMul, hc.one, hc.len, hc.bel, STs, Bool.not_true, Bool.not_false, decide_eq_true ho, nameB_t nv, decide_eq_true hi])
      rw [validB_t ((valid_2 hk).2 ⟨hh, nv, ho, hi, g3, g4⟩)]
      repeat (first | refine use_pure (hNm _ _ _) fun _ => ?_ | refine use_pure (hIn _ _) fun _ => ?_ | simp (implicitDefEqProofs := false) (disch := omega) only [WPs, opds, List.all_cons, List.all_nil, List.cons_append, List.nil_append, cond_true, cond_false, eq_self, List.map_cons, List.map_nil, Nat.reduceAdd, Nat.testBit, Nat.reduceShiftRight, Nat.reduceAnd, Nat.reduceBNe, Nat.reduceMul, hc.one, hc.len, hc.bel, STs, Bool.not_true, Bool.not_false, decide_eq_true ho, nameB_t nv, decide_eq_true hi])
    have hdl : c.data.length = 0 := by rw [hd]; rfl
    by_cases nv : NameP c.vol
    case neg =>
      rw [validB_f fun h => nv ((valid_2 hk).1 h).2.1]
      repeat (first | refine use_pure (hNm _ _ _) fun _ => ?_ | refine use_pure (hIn _ _) fun _ => ?_ | simp (implicitDefEqProofs := false) (disch := omega) only [WPs, opds, List.all_cons, List.all_nil, List.cons_append, List.nil_append, cond_true, cond_false, eq_self, List.map_cons, List.map_nil, Nat.reduceAdd, Nat.testBit, Nat.reduceShiftRight, Nat.reduceAnd, Nat.reduceBNe, Nat.reduceMul, hc.one, hc.len, hc.bel, STs, Bool.not_true, Bool.not_false, decide_eq_true ho, nameB_f nv])
    by_cases hi : insideP c.at_ c.len
    case neg =>
      rw [validB_f fun h => hi ((valid_2 hk).1 h).2.2.2.1]
      repeat (first | refine use_pure (hNm _ _ _) fun _ => ?_ | refine use_pure (hIn _ _) fun _ => ?_ | simp (implicitDefEqProofs := false) (disch := omega) only [WPs, opds, List.all_cons, List.all_nil, List.cons_append, List.nil_append, cond_true, cond_false, eq_self, List.map_cons, List.map_nil, Nat.reduceAdd, Nat.testBit, Nat.reduceShiftRight, Nat.reduceAnd, Nat.reduceBNe, Nat.reduceMul, hc.one, hc.len, hc.bel, STs, Bool.not_true, Bool.not_false, decide_eq_true ho, nameB_t nv, decide_eq_false hi])
    by_cases g3 : c.len ≤ 16
    case neg =>
      rw [validB_f fun h => g3 ((valid_2 hk).1 h).2.2.2.2.1]
      repeat (first | refine use_pure (hNm _ _ _) fun _ => ?_ | refine use_pure (hIn _ _) fun _ => ?_ | simp (implicitDefEqProofs := false) (disch := omega) only [WPs, opds, List.all_cons, List.all_nil, List.cons_append, List.nil_append, cond_true, cond_false, eq_self, List.map_cons, List.map_nil, Nat.reduceAdd, Nat.testBit, Nat.reduceShiftRight, Nat.reduceAnd, Nat.reduceBNe, Nat.reduceMul, hc.one, hc.len, hc.bel, STs, Bool.not_true, Bool.not_false, decide_eq_true ho, nameB_t nv, decide_eq_true hi])
    by_cases g4 : (c.data.length : Int) = c.len
    case neg =>
      rw [validB_f fun h => g4 ((valid_2 hk).1 h).2.2.2.2.2]
      repeat (first | refine use_pure (hNm _ _ _) fun _ => ?_ | refine use_pure (hIn _ _) fun _ => ?_ | simp (implicitDefEqProofs := false) (disch := omega) only [WPs, opds, List.all_cons, List.all_nil, List.cons_append, List.nil_append, cond_true, cond_false, eq_self, List.map_cons, List.map_nil, Nat.reduceAdd, Nat.testBit, Nat.reduceShiftRight, Nat.reduceAnd, Nat.reduceBNe, Nat.reduceMul, hc.one, hc.len, hc.bel, STs, Bool.not_true, Bool.not_false, decide_eq_true ho, nameB_t nv, decide_eq_true hi])
    rw [validB_t ((valid_2 hk).2 ⟨hh, nv, ho, hi, g3, g4⟩)]
    repeat (first | refine use_pure (hNm _ _ _) fun _ => ?_ | refine use_pure (hIn _ _) fun _ => ?_ | simp (implicitDefEqProofs := false) (disch := omega) only [WPs, opds, List.all_cons, List.all_nil, List.cons_append, List.nil_append, cond_true, cond_false, eq_self, List.map_cons, List.map_nil, Nat.reduceAdd, Nat.testBit, Nat.reduceShiftRight, Nat.reduceAnd, Nat.reduceBNe, Nat.reduceMul, hc.one, hc.len, hc.bel, STs, Bool.not_true, Bool.not_false, decide_eq_true ho, nameB_t nv, decide_eq_true hi])
end Go.Am.C39
namespace Go.Am.C39
set_option maxRecDepth 100000
open Go Go.Am
variable {E : Nat → Option AFn} {Y : Nat → List Value → FM → Nat → OR FM}
set_option maxHeartbeats 8000000 in
theorem refValid_3 (hE : E 18 = some ac18) (hN : E 29 = some ac29) (hI : E 30 = some ac30) (m : FM) (n : Nat) (c : Cmd) (d : Value) (hF : c.Fit) (hc : DatV m n d c.data) (hh : HeadP c) (hk : c.kind = 3) :
    Pure (callW PG E Y 18 [cmdV c d] m n) m n (.bool (validB c)) := by
  obtain ⟨f1, f2, f3, f4, f5, f6, f7, f8⟩ := hF
  have hNm : ∀ m n s, Pure (callW PG E Y 29 [.string s] m n) m n (.bool (nameB s)) := fun m n s => Name_spec hN m n s
  have hIn : ∀ m n, Pure (callW PG E Y 30 [.int .i64 c.at_, .int .i64 c.len] m n) m n (.bool (decide (insideP c.at_ c.len))) := fun m n => within_spec hI m n _ _ f4 f5
  clear f1 f2 f3 f4 f5 f6 f7 f8
  refine pure_spec hE rfl rfl ?_
  simp only [ac18, cmdV]
  rcases hh.2.2 with t4 | t4
  all_goals
    have t1 := hh.1
    have t2 := hh.2.1
    by_cases ho : c.oth = ⟨#[]⟩
    case neg =>
      by_cases nv : NameP c.vol
      case neg =>
        rw [validB_f fun h => nv ((valid_3 hk).1 h).2.1]
        repeat (first | refine use_pure (hNm _ _ _) fun _ => ?_ | refine use_pure (hIn _ _) fun _ => ?_ | simp (implicitDefEqProofs := false) (disch := omega) only [WPs, opds, List.all_cons, List.all_nil, List.cons_append, List.nil_append, cond_true, cond_false, eq_self, List.map_cons, List.map_nil, Nat.reduceAdd, Nat.testBit, Nat.reduceShiftRight, Nat.reduceAnd, Nat.reduceBNe, Nat.reduceMul, hc.one, hc.len, hc.bel, STs, Bool.not_true, Bool.not_false, decide_eq_false ho, nameB_f nv])
      rw [validB_f fun h => ho ((valid_3 hk).1 h).2.2.1]
      repeat (first | refine use_pure (hNm _ _ _) fun _ => ?_ | refine use_pure (hIn _ _) fun _ => ?_ | simp (implicitDefEqProofs := false) (disch := omega) only [WPs, opds, List.all_cons, List.all_nil, List.cons_append, List.nil_append, cond_true, cond_false, eq_self, List.map_cons, List.map_nil, Nat.reduceAdd, Nat.testBit, Nat.reduceShiftRight, Nat.reduceAnd, Nat.reduceBNe, Nat.reduceMul, hc.one, hc.len, hc.bel, STs, Bool.not_true, Bool.not_false, decide_eq_false ho, nameB_t nv])
    by_cases hd : c.data = []
    case neg =>
      have hdl : c.data.length ≠ 0 := fun h => hd (List.eq_nil_of_length_eq_zero h)
      by_cases nv : NameP c.vol
      case neg =>
        rw [validB_f fun h => nv ((valid_3 hk).1 h).2.1]
        repeat (first | refine use_pure (hNm _ _ _) fun _ => ?_ | refine use_pure (hIn _ _) fun _ => ?_ | simp (implicitDefEqProofs := false) (disch := omega) only [WPs, opds, List.all_cons, List.all_nil, List.cons_append, List.nil_append, cond_true, cond_false, eq_self, List.map_cons, List.map_nil, Nat.reduceAdd, Nat.testBit, Nat.reduceShiftRight, Nat.reduceAnd, Nat.reduceBNe, Nat.reduceMul, hc.one, hc.len, hc.bel, STs, Bool.not_true, Bool.not_false, decide_eq_true ho, nameB_f nv])
      rw [validB_f fun h => hd ((valid_3 hk).1 h).2.2.2.1]
      repeat (first | refine use_pure (hNm _ _ _) fun _ => ?_ | refine use_pure (hIn _ _) fun _ => ?_ | simp (implicitDefEqProofs := false) (disch := omega) only [WPs, opds, List.all_cons, List.all_nil, List.cons_append, List.nil_append, cond_true, cond_false, eq_self, List.map_cons, List.map_nil, Nat.reduceAdd, Nat.testBit, Nat.reduceShiftRight, Nat.reduceAnd, Nat.reduceBNe, Nat.reduceMul, hc.one, hc.len, hc.bel, STs, Bool.not_true, Bool.not_false, decide_eq_true ho, nameB_t nv])
    have hdl : c.data.length = 0 := by rw [hd]; rfl
    by_cases nv : NameP c.vol
    case neg =>
      rw [validB_f fun h => nv ((valid_3 hk).1 h).2.1]
      repeat (first | refine use_pure (hNm _ _ _) fun _ => ?_ | refine use_pure (hIn _ _) fun _ => ?_ | simp (implicitDefEqProofs := false) (disch := omega) only [WPs, opds, List.all_cons, List.all_nil, List.cons_append, List.nil_append, cond_true, cond_false, eq_self, List.map_cons, List.map_nil, Nat.reduceAdd, Nat.testBit, Nat.reduceShiftRight, Nat.reduceAnd, Nat.reduceBNe, Nat.reduceMul, hc.one, hc.len, hc.bel, STs, Bool.not_true, Bool.not_false, decide_eq_true ho, nameB_f nv])
    by_cases hi : insideP c.at_ c.len
    case neg =>
      rw [validB_f fun h => hi ((valid_3 hk).1 h).2.2.2.2]
      repeat (first | refine use_pure (hNm _ _ _) fun _ => ?_ | refine use_pure (hIn _ _) fun _ => ?_ | simp (implicitDefEqProofs := false) (disch := omega) only [WPs, opds, List.all_cons, List.all_nil, List.cons_append, List.nil_append, cond_true, cond_false, eq_self, List.map_cons, List.map_nil, Nat.reduceAdd, Nat.testBit, Nat.reduceShiftRight, Nat.reduceAnd, Nat.reduceBNe, Nat.reduceMul, hc.one, hc.len, hc.bel, STs, Bool.not_true, Bool.not_false, decide_eq_true ho, nameB_t nv, decide_eq_false hi])
    rw [validB_t ((valid_3 hk).2 ⟨hh, nv, ho, hd, hi⟩)]
    repeat (first | refine use_pure (hNm _ _ _) fun _ => ?_ | refine use_pure (hIn _ _) fun _ => ?_ | simp (implicitDefEqProofs := false) (disch := omega) only [WPs, opds, List.all_cons, List.all_nil, List.cons_append, List.nil_append, cond_true, cond_false, eq_self, List.map_cons, List.map_nil, Nat.reduceAdd, Nat.testBit, Nat.reduceShiftRight, Nat.reduceAnd, Nat.reduceBNe, Nat.reduceMul, hc.one, hc.len, hc.bel, STs, Bool.not_true, Bool.not_false, decide_eq_true ho, nameB_t nv, decide_eq_true hi])
set_option maxHeartbeats 8000000 in
theorem refValid_4 (hE : E 18 = some ac18) (hN : E 29 = some ac29) (hI : E 30 = some ac30) (m : FM) (n : Nat) (c : Cmd) (d : Value) (hF : c.Fit) (hc : DatV m n d c.data) (hh : HeadP c) (hk : c.kind = 4) :
    Pure (callW PG E Y 18 [cmdV c d] m n) m n (.bool (validB c)) := by
  obtain ⟨f1, f2, f3, f4, f5, f6, f7, f8⟩ := hF
  have hNm : ∀ m n s, Pure (callW PG E Y 29 [.string s] m n) m n (.bool (nameB s)) := fun m n s => Name_spec hN m n s
  have hIn : ∀ m n, Pure (callW PG E Y 30 [.int .i64 c.at_, .int .i64 c.len] m n) m n (.bool (decide (insideP c.at_ c.len))) := fun m n => within_spec hI m n _ _ f4 f5
  clear f1 f2 f3 f4 f5 f6 f7 f8
  refine pure_spec hE rfl rfl ?_
  simp only [ac18, cmdV]
  rcases hh.2.2 with t4 | t4
  all_goals
    have t1 := hh.1
    have t2 := hh.2.1
    by_cases ho : c.oth = ⟨#[]⟩
    case neg =>
      by_cases hv : c.vol = ⟨#[]⟩
      case neg =>
        rw [validB_f fun h => hv ((valid_4 hk).1 h).2.1]
        repeat (first | refine use_pure (hNm _ _ _) fun _ => ?_ | refine use_pure (hIn _ _) fun _ => ?_ | simp (implicitDefEqProofs := false) (disch := omega) only [WPs, opds, List.all_cons, List.all_nil, List.cons_append, List.nil_append, cond_true, cond_false, eq_self, List.map_cons, List.map_nil, Nat.reduceAdd, Nat.testBit, Nat.reduceShiftRight, Nat.reduceAnd, Nat.reduceBNe, Nat.reduceMul, hc.one, hc.len, hc.bel, STs, Bool.not_true, Bool.not_false, decide_eq_false ho, decide_eq_false hv])
      rw [validB_f fun h => ho ((valid_4 hk).1 h).2.2.1]
      repeat (first | refine use_pure (hNm _ _ _) fun _ => ?_ | refine use_pure (hIn _ _) fun _ => ?_ | simp (implicitDefEqProofs := false) (disch := omega) only [WPs, opds, List.all_cons, List.all_nil, List.cons_append, List.nil_append, cond_true, cond_false, eq_self, List.map_cons, List.map_nil, Nat.reduceAdd, Nat.testBit, Nat.reduceShiftRight, Nat.reduceAnd, Nat.reduceBNe, Nat.reduceMul, hc.one, hc.len, hc.bel, STs, Bool.not_true, Bool.not_false, decide_eq_false ho, decide_eq_true hv])
    by_cases hd : c.data = []
    case neg =>
      have hdl : c.data.length ≠ 0 := fun h => hd (List.eq_nil_of_length_eq_zero h)
      by_cases hv : c.vol = ⟨#[]⟩
      case neg =>
        rw [validB_f fun h => hv ((valid_4 hk).1 h).2.1]
        repeat (first | refine use_pure (hNm _ _ _) fun _ => ?_ | refine use_pure (hIn _ _) fun _ => ?_ | simp (implicitDefEqProofs := false) (disch := omega) only [WPs, opds, List.all_cons, List.all_nil, List.cons_append, List.nil_append, cond_true, cond_false, eq_self, List.map_cons, List.map_nil, Nat.reduceAdd, Nat.testBit, Nat.reduceShiftRight, Nat.reduceAnd, Nat.reduceBNe, Nat.reduceMul, hc.one, hc.len, hc.bel, STs, Bool.not_true, Bool.not_false, decide_eq_true ho, decide_eq_false hv])
      rw [validB_f fun h => hd ((valid_4 hk).1 h).2.2.2.1]
      repeat (first | refine use_pure (hNm _ _ _) fun _ => ?_ | refine use_pure (hIn _ _) fun _ => ?_ | simp (implicitDefEqProofs := false) (disch := omega) only [WPs, opds, List.all_cons, List.all_nil, List.cons_append, List.nil_append, cond_true, cond_false, eq_self, List.map_cons, List.map_nil, Nat.reduceAdd, Nat.testBit, Nat.reduceShiftRight, Nat.reduceAnd, Nat.reduceBNe, Nat.reduceMul, hc.one, hc.len, hc.bel, STs, Bool.not_true, Bool.not_false, decide_eq_true ho, decide_eq_true hv])
    have hdl : c.data.length = 0 := by rw [hd]; rfl
    by_cases hv : c.vol = ⟨#[]⟩
    case neg =>
      rw [validB_f fun h => hv ((valid_4 hk).1 h).2.1]
      repeat (first | refine use_pure (hNm _ _ _) fun _ => ?_ | refine use_pure (hIn _ _) fun _ => ?_ | simp (implicitDefEqProofs := false) (disch := omega) only [WPs, opds, List.all_cons, List.all_nil, List.cons_append, List.nil_append, cond_true, cond_false, eq_self, List.map_cons, List.map_nil, Nat.reduceAdd, Nat.testBit, Nat.reduceShiftRight, Nat.reduceAnd, Nat.reduceBNe, Nat.reduceMul, hc.one, hc.len, hc.bel, STs, Bool.not_true, Bool.not_false, decide_eq_true ho, decide_eq_false hv])
    by_cases hf : c.force = false
    case neg =>
      have hf1 : c.force = true := by simpa using hf
      rw [validB_f fun h => hf ((valid_4 hk).1 h).2.2.2.2.1]
      repeat (first | refine use_pure (hNm _ _ _) fun _ => ?_ | refine use_pure (hIn _ _) fun _ => ?_ | simp (implicitDefEqProofs := false) (disch := omega) only [WPs, opds, List.all_cons, List.all_nil, List.cons_append, List.nil_append, cond_true, cond_false, eq_self, List.map_cons, List.map_nil, Nat.reduceAdd, Nat.testBit, Nat.reduceShiftRight, Nat.reduceAnd, Nat.reduceBNe, Nat.reduceMul, hc.one, hc.len, hc.bel, STs, Bool.not_true, Bool.not_false, decide_eq_true ho, decide_eq_true hv, hf1])
    by_cases g4 : c.at_ = 0
    case neg =>
      rw [validB_f fun h => g4 ((valid_4 hk).1 h).2.2.2.2.2.1]
      repeat (first | refine use_pure (hNm _ _ _) fun _ => ?_ | refine use_pure (hIn _ _) fun _ => ?_ | simp (implicitDefEqProofs := false) (disch := omega) only [WPs, opds, List.all_cons, List.all_nil, List.cons_append, List.nil_append, cond_true, cond_false, eq_self, List.map_cons, List.map_nil, Nat.reduceAdd, Nat.testBit, Nat.reduceShiftRight, Nat.reduceAnd, Nat.reduceBNe, Nat.reduceMul, hc.one, hc.len, hc.bel, STs, Bool.not_true, Bool.not_false, decide_eq_true ho, decide_eq_true hv, hf])
    by_cases g5 : c.len = 0
    case neg =>
      rw [validB_f fun h => g5 ((valid_4 hk).1 h).2.2.2.2.2.2]
      repeat (first | refine use_pure (hNm _ _ _) fun _ => ?_ | refine use_pure (hIn _ _) fun _ => ?_ | simp (implicitDefEqProofs := false) (disch := omega) only [WPs, opds, List.all_cons, List.all_nil, List.cons_append, List.nil_append, cond_true, cond_false, eq_self, List.map_cons, List.map_nil, Nat.reduceAdd, Nat.testBit, Nat.reduceShiftRight, Nat.reduceAnd, Nat.reduceBNe, Nat.reduceMul, hc.one, hc.len, hc.bel, STs, Bool.not_true, Bool.not_false, decide_eq_true ho, decide_eq_true hv, hf])
    rw [validB_t ((valid_4 hk).2 ⟨hh, hv, ho, hd, hf, g4, g5⟩)]
    repeat (first | refine use_pure (hNm _ _ _) fun _ => ?_ | refine use_pure (hIn _ _) fun _ => ?_ | simp (implicitDefEqProofs := false) (disch := omega) only [WPs, opds, List.all_cons, List.all_nil, List.cons_append, List.nil_append, cond_true, cond_false, eq_self, List.map_cons, List.map_nil, Nat.reduceAdd, Nat.testBit, Nat.reduceShiftRight, Nat.reduceAnd, Nat.reduceBNe, Nat.reduceMul, hc.one, hc.len, hc.bel, STs, Bool.not_true, Bool.not_false, decide_eq_true ho, decide_eq_true hv, hf])
end Go.Am.C39
namespace Go.Am.C39
set_option maxRecDepth 100000
open Go Go.Am
variable {E : Nat → Option AFn} {Y : Nat → List Value → FM → Nat → OR FM}
set_option maxHeartbeats 8000000 in
theorem refValid_5 (hE : E 18 = some ac18) (hN : E 29 = some ac29) (hI : E 30 = some ac30) (m : FM) (n : Nat) (c : Cmd) (d : Value) (hF : c.Fit) (hc : DatV m n d c.data) (hh : HeadP c) (hk : c.kind = 5) :
    Pure (callW PG E Y 18 [cmdV c d] m n) m n (.bool (validB c)) := by
  obtain ⟨f1, f2, f3, f4, f5, f6, f7, f8⟩ := hF
  have hNm : ∀ m n s, Pure (callW PG E Y 29 [.string s] m n) m n (.bool (nameB s)) := fun m n s => Name_spec hN m n s
  have hIn : ∀ m n, Pure (callW PG E Y 30 [.int .i64 c.at_, .int .i64 c.len] m n) m n (.bool (decide (insideP c.at_ c.len))) := fun m n => within_spec hI m n _ _ f4 f5
  clear f1 f2 f3 f4 f5 f6 f7 f8
  refine pure_spec hE rfl rfl ?_
  simp only [ac18, cmdV]
  rcases hh.2.2 with t4 | t4
  all_goals
    have t1 := hh.1
    have t2 := hh.2.1
    by_cases ho : c.oth = ⟨#[]⟩
    case neg =>
      by_cases nv : NameP c.vol
      case neg =>
        rw [validB_f fun h => nv ((valid_5 hk).1 h).2.1]
        repeat (first | refine use_pure (hNm _ _ _) fun _ => ?_ | refine use_pure (hIn _ _) fun _ => ?_ | simp (implicitDefEqProofs := false) (disch := omega) only [WPs, opds, List.all_cons, List.all_nil, List.cons_append, List.nil_append, cond_true, cond_false, eq_self, List.map_cons, List.map_nil, Nat.reduceAdd, Nat.testBit, Nat.reduceShiftRight, Nat.reduceAnd, Nat.reduceBNe, Nat.reduceMul, hc.one, hc.len, hc.bel, STs, Bool.not_true, Bool.not_false, decide_eq_false ho, nameB_f nv])
      rw [validB_f fun h => ho ((valid_5 hk).1 h).2.2.1]
      repeat (first | refine use_pure (hNm _ _ _) fun _ => ?_ | refine use_pure (hIn _ _) fun _ => ?_ | simp (implicitDefEqProofs := false) (disch := omega) only [WPs, opds, List.all_cons, List.all_nil, List.cons_append, List.nil_append, cond_true, cond_false, eq_self, List.map_cons, List.map_nil, Nat.reduceAdd, Nat.testBit, Nat.reduceShiftRight, Nat.reduceAnd, Nat.reduceBNe, Nat.reduceMul, hc.one, hc.len, hc.bel, STs, Bool.not_true, Bool.not_false, decide_eq_false ho, nameB_t nv])
    by_cases hd : c.data = []
    case neg =>
      have hdl : c.data.length ≠ 0 := fun h => hd (List.eq_nil_of_length_eq_zero h)
      by_cases nv : NameP c.vol
      case neg =>
        rw [validB_f fun h => nv ((valid_5 hk).1 h).2.1]
        repeat (first | refine use_pure (hNm _ _ _) fun _ => ?_ | refine use_pure (hIn _ _) fun _ => ?_ | simp (implicitDefEqProofs := false) (disch := omega) only [WPs, opds, List.all_cons, List.all_nil, List.cons_append, List.nil_append, cond_true, cond_false, eq_self, List.map_cons, List.map_nil, Nat.reduceAdd, Nat.testBit, Nat.reduceShiftRight, Nat.reduceAnd, Nat.reduceBNe, Nat.reduceMul, hc.one, hc.len, hc.bel, STs, Bool.not_true, Bool.not_false, decide_eq_true ho, nameB_f nv])
      rw [validB_f fun h => hd ((valid_5 hk).1 h).2.2.2.1]
      repeat (first | refine use_pure (hNm _ _ _) fun _ => ?_ | refine use_pure (hIn _ _) fun _ => ?_ | simp (implicitDefEqProofs := false) (disch := omega) only [WPs, opds, List.all_cons, List.all_nil, List.cons_append, List.nil_append, cond_true, cond_false, eq_self, List.map_cons, List.map_nil, Nat.reduceAdd, Nat.testBit, Nat.reduceShiftRight, Nat.reduceAnd, Nat.reduceBNe, Nat.reduceMul, hc.one, hc.len, hc.bel, STs, Bool.not_true, Bool.not_false, decide_eq_true ho, nameB_t nv])
    have hdl : c.data.length = 0 := by rw [hd]; rfl
    by_cases nv : NameP c.vol
    case neg =>
      rw [validB_f fun h => nv ((valid_5 hk).1 h).2.1]
      repeat (first | refine use_pure (hNm _ _ _) fun _ => ?_ | refine use_pure (hIn _ _) fun _ => ?_ | simp (implicitDefEqProofs := false) (disch := omega) only [WPs, opds, List.all_cons, List.all_nil, List.cons_append, List.nil_append, cond_true, cond_false, eq_self, List.map_cons, List.map_nil, Nat.reduceAdd, Nat.testBit, Nat.reduceShiftRight, Nat.reduceAnd, Nat.reduceBNe, Nat.reduceMul, hc.one, hc.len, hc.bel, STs, Bool.not_true, Bool.not_false, decide_eq_true ho, nameB_f nv])
    by_cases hf : c.force = false
    case neg =>
      have hf1 : c.force = true := by simpa using hf
      rw [validB_f fun h => hf ((valid_5 hk).1 h).2.2.2.2.1]
      repeat (first | refine use_pure (hNm _ _ _) fun _ => ?_ | refine use_pure (hIn _ _) fun _ => ?_ | simp (implicitDefEqProofs := false) (disch := omega) only [WPs, opds, List.all_cons, List.all_nil, List.cons_append, List.nil_append, cond_true, cond_false, eq_self, List.map_cons, List.map_nil, Nat.reduceAdd, Nat.testBit, Nat.reduceShiftRight, Nat.reduceAnd, Nat.reduceBNe, Nat.reduceMul, hc.one, hc.len, hc.bel, STs, Bool.not_true, Bool.not_false, decide_eq_true ho, nameB_t nv, hf1])
    by_cases g4 : 1 ≤ c.len
    case neg =>
      rw [validB_f fun h => g4 ((valid_5 hk).1 h).2.2.2.2.2.1]
      repeat (first | refine use_pure (hNm _ _ _) fun _ => ?_ | refine use_pure (hIn _ _) fun _ => ?_ | simp (implicitDefEqProofs := false) (disch := omega) only [WPs, opds, List.all_cons, List.all_nil, List.cons_append, List.nil_append, cond_true, cond_false, eq_self, List.map_cons, List.map_nil, Nat.reduceAdd, Nat.testBit, Nat.reduceShiftRight, Nat.reduceAnd, Nat.reduceBNe, Nat.reduceMul, hc.one, hc.len, hc.bel, STs, Bool.not_true, Bool.not_false, decide_eq_true ho, nameB_t nv, hf])
    by_cases g5 : c.len ≤ 65536
    case neg =>
      rw [validB_f fun h => g5 ((valid_5 hk).1 h).2.2.2.2.2.2.1]
      repeat (first | refine use_pure (hNm _ _ _) fun _ => ?_ | refine use_pure (hIn _ _) fun _ => ?_ | simp (implicitDefEqProofs := false) (disch := omega) only [WPs, opds, List.all_cons, List.all_nil, List.cons_append, List.nil_append, cond_true, cond_false, eq_self, List.map_cons, List.map_nil, Nat.reduceAdd, Nat.testBit, Nat.reduceShiftRight, Nat.reduceAnd, Nat.reduceBNe, Nat.reduceMul, hc.one, hc.len, hc.bel, STs, Bool.not_true, Bool.not_false, decide_eq_true ho, nameB_t nv, hf])
    by_cases g6 : 0 ≤ c.at_
    case neg =>
      rw [validB_f fun h => g6 ((valid_5 hk).1 h).2.2.2.2.2.2.2.1]
      repeat (first | refine use_pure (hNm _ _ _) fun _ => ?_ | refine use_pure (hIn _ _) fun _ => ?_ | simp (implicitDefEqProofs := false) (disch := omega) only [WPs, opds, List.all_cons, List.all_nil, List.cons_append, List.nil_append, cond_true, cond_false, eq_self, List.map_cons, List.map_nil, Nat.reduceAdd, Nat.testBit, Nat.reduceShiftRight, Nat.reduceAnd, Nat.reduceBNe, Nat.reduceMul, hc.one, hc.len, hc.bel, STs, Bool.not_true, Bool.not_false, decide_eq_true ho, nameB_t nv, hf])
    by_cases g7 : c.at_ ≤ c.len
    case neg =>
      rw [validB_f fun h => g7 ((valid_5 hk).1 h).2.2.2.2.2.2.2.2]
      repeat (first | refine use_pure (hNm _ _ _) fun _ => ?_ | refine use_pure (hIn _ _) fun _ => ?_ | simp (implicitDefEqProofs := false) (disch := omega) only [WPs, opds, List.all_cons, List.all_nil, List.cons_append, List.nil_append, cond_true, cond_false, eq_self, List.map_cons, List.map_nil, Nat.reduceAdd, Nat.testBit, Nat.reduceShiftRight, Nat.reduceAnd, Nat.reduceBNe, Nat.reduceMul, hc.one, hc.len, hc.bel, STs, Bool.not_true, Bool.not_false, decide_eq_true ho, nameB_t nv, hf])
    rw [validB_t ((valid_5 hk).2 ⟨hh, nv, ho, hd, hf, g4, g5, g6, g7⟩)]
    repeat (first | refine use_pure (hNm _ _ _) fun _ => ?_ | refine use_pure (hIn _ _) fun _ => ?_ | simp (implicitDefEqProofs := false) (disch := omega) only [WPs, opds, List.all_cons, List.all_nil, List.cons_append, List.nil_append, cond_true, cond_false, eq_self, List.map_cons, List.map_nil, Nat.reduceAdd, Nat.testBit, Nat.reduceShiftRight, Nat.reduceAnd, Nat.reduceBNe, Nat.reduceMul, hc.one, hc.len, hc.bel, STs, Bool.not_true, Bool.not_false, decide_eq_true ho, nameB_t nv, hf])
end Go.Am.C39
namespace Go.Am.C39
set_option maxRecDepth 100000
open Go Go.Am
variable {E : Nat → Option AFn} {Y : Nat → List Value → FM → Nat → OR FM}
set_option maxHeartbeats 8000000 in
theorem refValid_6 (hE : E 18 = some ac18) (hN : E 29 = some ac29) (hI : E 30 = some ac30) (m : FM) (n : Nat) (c : Cmd) (d : Value) (hF : c.Fit) (hc : DatV m n d c.data) (hh : HeadP c) (hk : c.kind = 6) :
    Pure (callW PG E Y 18 [cmdV c d] m n) m n (.bool (validB c)) := by
  obtain ⟨f1, f2, f3, f4, f5, f6, f7, f8⟩ := hF
  have hNm : ∀ m n s, Pure (callW PG E Y 29 [.string s] m n) m n (.bool (nameB s)) := fun m n s => Name_spec hN m n s
  have hIn : ∀ m n, Pure (callW PG E Y 30 [.int .i64 c.at_, .int .i64 c.len] m n) m n (.bool (decide (insideP c.at_ c.len))) := fun m n => within_spec hI m n _ _ f4 f5
  clear f1 f2 f3 f4 f5 f6 f7 f8
  refine pure_spec hE rfl rfl ?_
  simp only [ac18, cmdV]
  rcases hh.2.2 with t4 | t4
  all_goals
    have t1 := hh.1
    have t2 := hh.2.1
    by_cases ho : c.oth = ⟨#[]⟩
    case neg =>
      by_cases nv : NameP c.vol
      case neg =>
        rw [validB_f fun h => nv ((valid_6 hk).1 h).2.1]
        repeat (first | refine use_pure (hNm _ _ _) fun _ => ?_ | refine use_pure (hIn _ _) fun _ => ?_ | simp (implicitDefEqProofs := false) (disch := omega) only [WPs, opds, List.all_cons, List.all_nil, List.cons_append, List.nil_append, cond_true, cond_false, eq_self, List.map_cons, List.map_nil, Nat.reduceAdd, Nat.testBit, Nat.reduceShiftRight, Nat.reduceAnd, Nat.reduceBNe, Nat.reduceMul, hc.one, hc.len, hc.bel, STs, Bool.not_true, Bool.not_false, decide_eq_false ho, nameB_f nv])
      by_cases nq : NameP c.oth
      case neg =>
        rw [validB_f fun h => nq ((valid_6 hk).1 h).2.2.1]
        repeat (first | refine use_pure (hNm _ _ _) fun _ => ?_ | refine use_pure (hIn _ _) fun _ => ?_ | simp (implicitDefEqProofs := false) (disch := omega) only [WPs, opds, List.all_cons, List.all_nil, List.cons_append, List.nil_append, cond_true, cond_false, eq_self, List.map_cons, List.map_nil, Nat.reduceAdd, Nat.testBit, Nat.reduceShiftRight, Nat.reduceAnd, Nat.reduceBNe, Nat.reduceMul, hc.one, hc.len, hc.bel, STs, Bool.not_true, Bool.not_false, decide_eq_false ho, nameB_t nv, nameB_f nq])
      by_cases hne : c.oth ≠ c.vol
      case neg =>
        rw [validB_f fun h => hne ((valid_6 hk).1 h).2.2.2.1]
        repeat (first | refine use_pure (hNm _ _ _) fun _ => ?_ | refine use_pure (hIn _ _) fun _ => ?_ | simp (implicitDefEqProofs := false) (disch := omega) only [WPs, opds, List.all_cons, List.all_nil, List.cons_append, List.nil_append, cond_true, cond_false, eq_self, List.map_cons, List.map_nil, Nat.reduceAdd, Nat.testBit, Nat.reduceShiftRight, Nat.reduceAnd, Nat.reduceBNe, Nat.reduceMul, hc.one, hc.len, hc.bel, STs, Bool.not_true, Bool.not_false, decide_eq_false ho, nameB_t nv, nameB_t nq, decide_eq_true (Classical.not_not.1 hne)])
      by_cases hd : c.data = []
      case neg =>
        have hdl : c.data.length ≠ 0 := fun h => hd (List.eq_nil_of_length_eq_zero h)
        rw [validB_f fun h => hd ((valid_6 hk).1 h).2.2.2.2.1]
        repeat (first | refine use_pure (hNm _ _ _) fun _ => ?_ | refine use_pure (hIn _ _) fun _ => ?_ | simp (implicitDefEqProofs := false) (disch := omega) only [WPs, opds, List.all_cons, List.all_nil, List.cons_append, List.nil_append, cond_true, cond_false, eq_self, List.map_cons, List.map_nil, Nat.reduceAdd, Nat.testBit, Nat.reduceShiftRight, Nat.reduceAnd, Nat.reduceBNe, Nat.reduceMul, hc.one, hc.len, hc.bel, STs, Bool.not_true, Bool.not_false, decide_eq_false ho, nameB_t nv, nameB_t nq, decide_eq_false hne])
      have hdl : c.data.length = 0 := by rw [hd]; rfl
      by_cases hf : c.force = false
      case neg =>
        have hf1 : c.force = true := by simpa using hf
        rw [validB_f fun h => hf ((valid_6 hk).1 h).2.2.2.2.2.1]
        repeat (first | refine use_pure (hNm _ _ _) fun _ => ?_ | refine use_pure (hIn _ _) fun _ => ?_ | simp (implicitDefEqProofs := false) (disch := omega) only [WPs, opds, List.all_cons, List.all_nil, List.cons_append, List.nil_append, cond_true, cond_false, eq_self, List.map_cons, List.map_nil, Nat.reduceAdd, Nat.testBit, Nat.reduceShiftRight, Nat.reduceAnd, Nat.reduceBNe, Nat.reduceMul, hc.one, hc.len, hc.bel, STs, Bool.not_true, Bool.not_false, decide_eq_false ho, nameB_t nv, nameB_t nq, decide_eq_false hne, hf1])
      by_cases g5 : c.at_ = 0
      case neg =>
        rw [validB_f fun h => g5 ((valid_6 hk).1 h).2.2.2.2.2.2.1]
        repeat (first | refine use_pure (hNm _ _ _) fun _ => ?_ | refine use_pure (hIn _ _) fun _ => ?_ | simp (implicitDefEqProofs := false) (disch := omega) only [WPs, opds, List.all_cons, List.all_nil, List.cons_append, List.nil_append, cond_true, cond_false, eq_self, List.map_cons, List.map_nil, Nat.reduceAdd, Nat.testBit, Nat.reduceShiftRight, Nat.reduceAnd, Nat.reduceBNe, Nat.reduceMul, hc.one, hc.len, hc.bel, STs, Bool.not_true, Bool.not_false, decide_eq_false ho, nameB_t nv, nameB_t nq, decide_eq_false hne, hf])
      by_cases g6 : c.len = 0
      case neg =>
        rw [validB_f fun h => g6 ((valid_6 hk).1 h).2.2.2.2.2.2.2]
        repeat (first | refine use_pure (hNm _ _ _) fun _ => ?_ | refine use_pure (hIn _ _) fun _ => ?_ | simp (implicitDefEqProofs := false) (disch := omega) only [WPs, opds, List.all_cons, List.all_nil, List.cons_append, List.nil_append, cond_true, cond_false, eq_self, List.map_cons, List.map_nil, Nat.reduceAdd, Nat.testBit, Nat.reduceShiftRight, Nat.reduceAnd, Nat.reduceBNe, Nat.reduceMul, hc.one, hc.len, hc.bel, STs, Bool.not_true, Bool.not_false, decide_eq_false ho, nameB_t nv, nameB_t nq, decide_eq_false hne, hf])
      rw [validB_t ((valid_6 hk).2 ⟨hh, nv, nq, hne, hd, hf, g5, g6⟩)]
      repeat (first | refine use_pure (hNm _ _ _) fun _ => ?_ | refine use_pure (hIn _ _) fun _ => ?_ | simp (implicitDefEqProofs := false) (disch := omega) only [WPs, opds, List.all_cons, List.all_nil, List.cons_append, List.nil_append, cond_true, cond_false, eq_self, List.map_cons, List.map_nil, Nat.reduceAdd, Nat.testBit, Nat.reduceShiftRight, Nat.reduceAnd, Nat.reduceBNe, Nat.reduceMul, hc.one, hc.len, hc.bel, STs, Bool.not_true, Bool.not_false, decide_eq_false ho, nameB_t nv, nameB_t nq, decide_eq_false hne, hf])
    by_cases hd : c.data = []
    case neg =>
      have hdl : c.data.length ≠ 0 := fun h => hd (List.eq_nil_of_length_eq_zero h)
      by_cases nv : NameP c.vol
      case neg =>
        rw [validB_f fun h => nv ((valid_6 hk).1 h).2.1]
        repeat (first | refine use_pure (hNm _ _ _) fun _ => ?_ | refine use_pure (hIn _ _) fun _ => ?_ | simp (implicitDefEqProofs := false) (disch := omega) only [WPs, opds, List.all_cons, List.all_nil, List.cons_append, List.nil_append, cond_true, cond_false, eq_self, List.map_cons, List.map_nil, Nat.reduceAdd, Nat.testBit, Nat.reduceShiftRight, Nat.reduceAnd, Nat.reduceBNe, Nat.reduceMul, hc.one, hc.len, hc.bel, STs, Bool.not_true, Bool.not_false, decide_eq_true ho, nameB_f nv])
      by_cases nq : NameP c.oth
      case neg =>
        rw [validB_f fun h => nq ((valid_6 hk).1 h).2.2.1]
        repeat (first | refine use_pure (hNm _ _ _) fun _ => ?_ | refine use_pure (hIn _ _) fun _ => ?_ | simp (implicitDefEqProofs := false) (disch := omega) only [WPs, opds, List.all_cons, List.all_nil, List.cons_append, List.nil_append, cond_true, cond_false, eq_self, List.map_cons, List.map_nil, Nat.reduceAdd, Nat.testBit, Nat.reduceShiftRight, Nat.reduceAnd, Nat.reduceBNe, Nat.reduceMul, hc.one, hc.len, hc.bel, STs, Bool.not_true, Bool.not_false, decide_eq_true ho, nameB_t nv, nameB_f nq])
      by_cases hne : c.oth ≠ c.vol
      case neg =>
        rw [validB_f fun h => hne ((valid_6 hk).1 h).2.2.2.1]
        repeat (first | refine use_pure (hNm _ _ _) fun _ => ?_ | refine use_pure (hIn _ _) fun _ => ?_ | simp (implicitDefEqProofs := false) (disch := omega) only [WPs, opds, List.all_cons, List.all_nil, List.cons_append, List.nil_append, cond_true, cond_false, eq_self, List.map_cons, List.map_nil, Nat.reduceAdd, Nat.testBit, Nat.reduceShiftRight, Nat.reduceAnd, Nat.reduceBNe, Nat.reduceMul, hc.one, hc.len, hc.bel, STs, Bool.not_true, Bool.not_false, decide_eq_true ho, nameB_t nv, nameB_t nq, decide_eq_true (Classical.not_not.1 hne)])
      rw [validB_f fun h => hd ((valid_6 hk).1 h).2.2.2.2.1]
      repeat (first | refine use_pure (hNm _ _ _) fun _ => ?_ | refine use_pure (hIn _ _) fun _ => ?_ | simp (implicitDefEqProofs := false) (disch := omega) only [WPs, opds, List.all_cons, List.all_nil, List.cons_append, List.nil_append, cond_true, cond_false, eq_self, List.map_cons, List.map_nil, Nat.reduceAdd, Nat.testBit, Nat.reduceShiftRight, Nat.reduceAnd, Nat.reduceBNe, Nat.reduceMul, hc.one, hc.len, hc.bel, STs, Bool.not_true, Bool.not_false, decide_eq_true ho, nameB_t nv, nameB_t nq, decide_eq_false hne])
    have hdl : c.data.length = 0 := by rw [hd]; rfl
    by_cases nv : NameP c.vol
    case neg =>
      rw [validB_f fun h => nv ((valid_6 hk).1 h).2.1]
      repeat (first | refine use_pure (hNm _ _ _) fun _ => ?_ | refine use_pure (hIn _ _) fun _ => ?_ | simp (implicitDefEqProofs := false) (disch := omega) only [WPs, opds, List.all_cons, List.all_nil, List.cons_append, List.nil_append, cond_true, cond_false, eq_self, List.map_cons, List.map_nil, Nat.reduceAdd, Nat.testBit, Nat.reduceShiftRight, Nat.reduceAnd, Nat.reduceBNe, Nat.reduceMul, hc.one, hc.len, hc.bel, STs, Bool.not_true, Bool.not_false, decide_eq_true ho, nameB_f nv])
    by_cases nq : NameP c.oth
    case neg =>
      rw [validB_f fun h => nq ((valid_6 hk).1 h).2.2.1]
      repeat (first | refine use_pure (hNm _ _ _) fun _ => ?_ | refine use_pure (hIn _ _) fun _ => ?_ | simp (implicitDefEqProofs := false) (disch := omega) only [WPs, opds, List.all_cons, List.all_nil, List.cons_append, List.nil_append, cond_true, cond_false, eq_self, List.map_cons, List.map_nil, Nat.reduceAdd, Nat.testBit, Nat.reduceShiftRight, Nat.reduceAnd, Nat.reduceBNe, Nat.reduceMul, hc.one, hc.len, hc.bel, STs, Bool.not_true, Bool.not_false, decide_eq_true ho, nameB_t nv, nameB_f nq])
    by_cases hne : c.oth ≠ c.vol
    case neg =>
      rw [validB_f fun h => hne ((valid_6 hk).1 h).2.2.2.1]
      repeat (first | refine use_pure (hNm _ _ _) fun _ => ?_ | refine use_pure (hIn _ _) fun _ => ?_ | simp (implicitDefEqProofs := false) (disch := omega) only [WPs, opds, List.all_cons, List.all_nil, List.cons_append, List.nil_append, cond_true, cond_false, eq_self, List.map_cons, List.map_nil, Nat.reduceAdd, Nat.testBit, Nat.reduceShiftRight, Nat.reduceAnd, Nat.reduceBNe, Nat.reduceMul, hc.one, hc.len, hc.bel, STs, Bool.not_true, Bool.not_false, decide_eq_true ho, nameB_t nv, nameB_t nq, decide_eq_true (Classical.not_not.1 hne)])
    by_cases hf : c.force = false
    case neg =>
      have hf1 : c.force = true := by simpa using hf
      rw [validB_f fun h => hf ((valid_6 hk).1 h).2.2.2.2.2.1]
      repeat (first | refine use_pure (hNm _ _ _) fun _ => ?_ | refine use_pure (hIn _ _) fun _ => ?_ | simp (implicitDefEqProofs := false) (disch := omega) only [WPs, opds, List.all_cons, List.all_nil, List.cons_append, List.nil_append, cond_true, cond_false, eq_self, List.map_cons, List.map_nil, Nat.reduceAdd, Nat.testBit, Nat.reduceShiftRight, Nat.reduceAnd, Nat.reduceBNe, Nat.reduceMul, hc.one, hc.len, hc.bel, STs, Bool.not_true, Bool.not_false, decide_eq_true ho, nameB_t nv, nameB_t nq, decide_eq_false hne, hf1])
    by_cases g5 : c.at_ = 0
    case neg =>
      rw [validB_f fun h => g5 ((valid_6 hk).1 h).2.2.2.2.2.2.1]
      repeat (first | refine use_pure (hNm _ _ _) fun _ => ?_ | refine use_pure (hIn _ _) fun _ => ?_ | simp (implicitDefEqProofs := false) (disch := omega) only [WPs, opds, List.all_cons, List.all_nil, List.cons_append, List.nil_append, cond_true, cond_false, eq_self, List.map_cons, List.map_nil, Nat.reduceAdd, Nat.testBit, Nat.reduceShiftRight, Nat.reduceAnd, Nat.reduceBNe, Nat.reduceMul, hc.one, hc.len, hc.bel, STs, Bool.not_true, Bool.not_false, decide_eq_true ho, nameB_t nv, nameB_t nq, decide_eq_false hne, hf])
    by_cases g6 : c.len = 0
    case neg =>
      rw [validB_f fun h => g6 ((valid_6 hk).1 h).2.2.2.2.2.2.2]
      repeat (first | refine use_pure (hNm _ _ _) fun _ => ?_ | refine use_pure (hIn _ _) fun _ => ?_ | simp (implicitDefEqProofs := false) (disch := omega) only [WPs, opds, List.all_cons, List.all_nil, List.cons_append, List.nil_append, cond_true, cond_false, eq_self, List.map_cons, List.map_nil, Nat.reduceAdd, Nat.testBit, Nat.reduceShiftRight, Nat.reduceAnd, Nat.reduceBNe, Nat.reduceMul, hc.one, hc.len, hc.bel, STs, Bool.not_true, Bool.not_false, decide_eq_true ho, nameB_t nv, nameB_t nq, decide_eq_false hne, hf])
    rw [validB_t ((valid_6 hk).2 ⟨hh, nv, nq, hne, hd, hf, g5, g6⟩)]
    repeat (first | refine use_pure (hNm _ _ _) fun _ => ?_ | refine use_pure (hIn _ _) fun _ => ?_ | simp (implicitDefEqProofs := false) (disch := omega) only [WPs, opds, List.all_cons, List.all_nil, List.cons_append, List.nil_append, cond_true, cond_false, eq_self, List.map_cons, List.map_nil, Nat.reduceAdd, Nat.testBit, Nat.reduceShiftRight, Nat.reduceAnd, Nat.reduceBNe, Nat.reduceMul, hc.one, hc.len, hc.bel, STs, Bool.not_true, Bool.not_false, decide_eq_true ho, nameB_t nv, nameB_t nq, decide_eq_false hne, hf])
end Go.Am.C39
namespace Go.Am.C39
set_option maxRecDepth 100000
open Go Go.Am
variable {E : Nat → Option AFn} {Y : Nat → List Value → FM → Nat → OR FM}
set_option maxHeartbeats 8000000 in
theorem refValid_7 (hE : E 18 = some ac18) (hN : E 29 = some ac29) (hI : E 30 = some ac30) (m : FM) (n : Nat) (c : Cmd) (d : Value) (hF : c.Fit) (hc : DatV m n d c.data) (hh : HeadP c) (hk : c.kind = 7) :
    Pure (callW PG E Y 18 [cmdV c d] m n) m n (.bool (validB c)) := by
  obtain ⟨f1, f2, f3, f4, f5, f6, f7, f8⟩ := hF
  have hNm : ∀ m n s, Pure (callW PG E Y 29 [.string s] m n) m n (.bool (nameB s)) := fun m n s => Name_spec hN m n s
  have hIn : ∀ m n, Pure (callW PG E Y 30 [.int .i64 c.at_, .int .i64 c.len] m n) m n (.bool (decide (insideP c.at_ c.len))) := fun m n => within_spec hI m n _ _ f4 f5
  clear f1 f2 f3 f4 f5 f6 f7 f8
  refine pure_spec hE rfl rfl ?_
  simp only [ac18, cmdV]
  rcases hh.2.2 with t4 | t4
  all_goals
    have t1 := hh.1
    have t2 := hh.2.1
    by_cases ho : c.oth = ⟨#[]⟩
    case neg =>
      by_cases nv : NameP c.vol
      case neg =>
        rw [validB_f fun h => nv ((valid_7 hk).1 h).2.1]
        repeat (first | refine use_pure (hNm _ _ _) fun _ => ?_ | refine use_pure (hIn _ _) fun _ => ?_ | simp (implicitDefEqProofs := false) (disch := omega) only [WPs, opds, List.all_cons, List.all_nil, List.cons_append, List.nil_append, cond_true, cond_false, eq_self, List.map_cons, List.map_nil, Nat.reduceAdd, Nat.testBit, Nat.reduceShiftRight, Nat.reduceAnd, Nat.reduceBNe, Nat.reduceMul, hc.one, hc.len, hc.bel, STs, Bool.not_true, Bool.not_false, decide_eq_false ho, nameB_f nv])
      rw [validB_f fun h => ho ((valid_7 hk).1 h).2.2.1]
      repeat (first | refine use_pure (hNm _ _ _) fun _ => ?_ | refine use_pure (hIn _ _) fun _ => ?_ | simp (implicitDefEqProofs := false) (disch := omega) only [WPs, opds, List.all_cons, List.all_nil, List.cons_append, List.nil_append, cond_true, cond_false, eq_self, List.map_cons, List.map_nil, Nat.reduceAdd, Nat.testBit, Nat.reduceShiftRight, Nat.reduceAnd, Nat.reduceBNe, Nat.reduceMul, hc.one, hc.len, hc.bel, STs, Bool.not_true, Bool.not_false, decide_eq_false ho, nameB_t nv])
    by_cases hd : c.data = []
    case neg =>
      have hdl : c.data.length ≠ 0 := fun h => hd (List.eq_nil_of_length_eq_zero h)
      by_cases nv : NameP c.vol
      case neg =>
        rw [validB_f fun h => nv ((valid_7 hk).1 h).2.1]
        repeat (first | refine use_pure (hNm _ _ _) fun _ => ?_ | refine use_pure (hIn _ _) fun _ => ?_ | simp (implicitDefEqProofs := false) (disch := omega) only [WPs, opds, List.all_cons, List.all_nil, List.cons_append, List.nil_append, cond_true, cond_false, eq_self, List.map_cons, List.map_nil, Nat.reduceAdd, Nat.testBit, Nat.reduceShiftRight, Nat.reduceAnd, Nat.reduceBNe, Nat.reduceMul, hc.one, hc.len, hc.bel, STs, Bool.not_true, Bool.not_false, decide_eq_true ho, nameB_f nv])
      rw [validB_f fun h => hd ((valid_7 hk).1 h).2.2.2.1]
      repeat (first | refine use_pure (hNm _ _ _) fun _ => ?_ | refine use_pure (hIn _ _) fun _ => ?_ | simp (implicitDefEqProofs := false) (disch := omega) only [WPs, opds, List.all_cons, List.all_nil, List.cons_append, List.nil_append, cond_true, cond_false, eq_self, List.map_cons, List.map_nil, Nat.reduceAdd, Nat.testBit, Nat.reduceShiftRight, Nat.reduceAnd, Nat.reduceBNe, Nat.reduceMul, hc.one, hc.len, hc.bel, STs, Bool.not_true, Bool.not_false, decide_eq_true ho, nameB_t nv])
    have hdl : c.data.length = 0 := by rw [hd]; rfl
    by_cases nv : NameP c.vol
    case neg =>
      rw [validB_f fun h => nv ((valid_7 hk).1 h).2.1]
      repeat (first | refine use_pure (hNm _ _ _) fun _ => ?_ | refine use_pure (hIn _ _) fun _ => ?_ | simp (implicitDefEqProofs := false) (disch := omega) only [WPs, opds, List.all_cons, List.all_nil, List.cons_append, List.nil_append, cond_true, cond_false, eq_self, List.map_cons, List.map_nil, Nat.reduceAdd, Nat.testBit, Nat.reduceShiftRight, Nat.reduceAnd, Nat.reduceBNe, Nat.reduceMul, hc.one, hc.len, hc.bel, STs, Bool.not_true, Bool.not_false, decide_eq_true ho, nameB_f nv])
    by_cases hf : c.force = false
    case neg =>
      have hf1 : c.force = true := by simpa using hf
      rw [validB_f fun h => hf ((valid_7 hk).1 h).2.2.2.2.1]
      repeat (first | refine use_pure (hNm _ _ _) fun _ => ?_ | refine use_pure (hIn _ _) fun _ => ?_ | simp (implicitDefEqProofs := false) (disch := omega) only [WPs, opds, List.all_cons, List.all_nil, List.cons_append, List.nil_append, cond_true, cond_false, eq_self, List.map_cons, List.map_nil, Nat.reduceAdd, Nat.testBit, Nat.reduceShiftRight, Nat.reduceAnd, Nat.reduceBNe, Nat.reduceMul, hc.one, hc.len, hc.bel, STs, Bool.not_true, Bool.not_false, decide_eq_true ho, nameB_t nv, hf1])
    by_cases g4 : c.at_ = 0
    case neg =>
      rw [validB_f fun h => g4 ((valid_7 hk).1 h).2.2.2.2.2.1]
      repeat (first | refine use_pure (hNm _ _ _) fun _ => ?_ | refine use_pure (hIn _ _) fun _ => ?_ | simp (implicitDefEqProofs := false) (disch := omega) only [WPs, opds, List.all_cons, List.all_nil, List.cons_append, List.nil_append, cond_true, cond_false, eq_self, List.map_cons, List.map_nil, Nat.reduceAdd, Nat.testBit, Nat.reduceShiftRight, Nat.reduceAnd, Nat.reduceBNe, Nat.reduceMul, hc.one, hc.len, hc.bel, STs, Bool.not_true, Bool.not_false, decide_eq_true ho, nameB_t nv, hf])
    by_cases g5 : c.len = 0
    case neg =>
      rw [validB_f fun h => g5 ((valid_7 hk).1 h).2.2.2.2.2.2]
      repeat (first | refine use_pure (hNm _ _ _) fun _ => ?_ | refine use_pure (hIn _ _) fun _ => ?_ | simp (implicitDefEqProofs := false) (disch := omega) only [WPs, opds, List.all_cons, List.all_nil, List.cons_append, List.nil_append, cond_true, cond_false, eq_self, List.map_cons, List.map_nil, Nat.reduceAdd, Nat.testBit, Nat.reduceShiftRight, Nat.reduceAnd, Nat.reduceBNe, Nat.reduceMul, hc.one, hc.len, hc.bel, STs, Bool.not_true, Bool.not_false, decide_eq_true ho, nameB_t nv, hf])
    rw [validB_t ((valid_7 hk).2 ⟨hh, nv, ho, hd, hf, g4, g5⟩)]
    repeat (first | refine use_pure (hNm _ _ _) fun _ => ?_ | refine use_pure (hIn _ _) fun _ => ?_ | simp (implicitDefEqProofs := false) (disch := omega) only [WPs, opds, List.all_cons, List.all_nil, List.cons_append, List.nil_append, cond_true, cond_false, eq_self, List.map_cons, List.map_nil, Nat.reduceAdd, Nat.testBit, Nat.reduceShiftRight, Nat.reduceAnd, Nat.reduceBNe, Nat.reduceMul, hc.one, hc.len, hc.bel, STs, Bool.not_true, Bool.not_false, decide_eq_true ho, nameB_t nv, hf])
set_option maxHeartbeats 8000000 in
theorem refValid_x (hE : E 18 = some ac18) (hN : E 29 = some ac29) (hI : E 30 = some ac30) (m : FM) (n : Nat) (c : Cmd) (d : Value) (hF : c.Fit) (hc : DatV m n d c.data) (hh : HeadP c) (hk : ¬ (1 ≤ c.kind ∧ c.kind ≤ 7)) :
    Pure (callW PG E Y 18 [cmdV c d] m n) m n (.bool (validB c)) := by
  obtain ⟨f1, f2, f3, f4, f5, f6, f7, f8⟩ := hF
  have hNm : ∀ m n s, Pure (callW PG E Y 29 [.string s] m n) m n (.bool (nameB s)) := fun m n s => Name_spec hN m n s
  have hIn : ∀ m n, Pure (callW PG E Y 30 [.int .i64 c.at_, .int .i64 c.len] m n) m n (.bool (decide (insideP c.at_ c.len))) := fun m n => within_spec hI m n _ _ f4 f5
  clear f1 f2 f3 f4 f5 f6 f7 f8
  refine pure_spec hE rfl rfl ?_
  simp only [ac18, cmdV]
  rcases hh.2.2 with t4 | t4
  all_goals
    have t1 := hh.1
    have t2 := hh.2.1
    rw [validB_f (valid_x hk)]
    by_cases ho : c.oth = ⟨#[]⟩
    case neg =>
      repeat (first | refine use_pure (hNm _ _ _) fun _ => ?_ | refine use_pure (hIn _ _) fun _ => ?_ | simp (implicitDefEqProofs := false) (disch := omega) only [WPs, opds, List.all_cons, List.all_nil, List.cons_append, List.nil_append, cond_true, cond_false, eq_self, List.map_cons, List.map_nil, Nat.reduceAdd, Nat.testBit, Nat.reduceShiftRight, Nat.reduceAnd, Nat.reduceBNe, Nat.reduceMul, hc.one, hc.len, hc.bel, STs, Bool.not_true, Bool.not_false, decide_eq_false ho])
    by_cases hd : c.data = []
    case neg =>
      have hdl : c.data.length ≠ 0 := fun h => hd (List.eq_nil_of_length_eq_zero h)
      repeat (first | refine use_pure (hNm _ _ _) fun _ => ?_ | refine use_pure (hIn _ _) fun _ => ?_ | simp (implicitDefEqProofs := false) (disch := omega) only [WPs, opds, List.all_cons, List.all_nil, List.cons_append, List.nil_append, cond_true, cond_false, eq_self, List.map_cons, List.map_nil, Nat.reduceAdd, Nat.testBit, Nat.reduceShiftRight, Nat.reduceAnd, Nat.reduceBNe, Nat.reduceMul, hc.one, hc.len, hc.bel, STs, Bool.not_true, Bool.not_false, decide_eq_true ho])
    have hdl : c.data.length = 0 := by rw [hd]; rfl
    repeat (first | refine use_pure (hNm _ _ _) fun _ => ?_ | refine use_pure (hIn _ _) fun _ => ?_ | simp (implicitDefEqProofs := false) (disch := omega) only [WPs, opds, List.all_cons, List.all_nil, List.cons_append, List.nil_append, cond_true, cond_false, eq_self, List.map_cons, List.map_nil, Nat.reduceAdd, Nat.testBit, Nat.reduceShiftRight, Nat.reduceAnd, Nat.reduceBNe, Nat.reduceMul, hc.one, hc.len, hc.bel, STs, Bool.not_true, Bool.not_false, decide_eq_true ho])
end Go.Am.C39
namespace Go.Am.C39
set_option maxRecDepth 100000
open Go Go.Am
variable {E : Nat → Option AFn} {Y : Nat → List Value → FM → Nat → OR FM}
set_option maxHeartbeats 8000000 in
theorem refValid_spec (hE : E 18 = some ac18) (hN : E 29 = some ac29) (hI : E 30 = some ac30) (m : FM) (n : Nat) (c : Cmd) (d : Value) (hF : c.Fit) (hc : DatV m n d c.data) :
    Pure (callW PG E Y 18 [cmdV c d] m n) m n (.bool (validB c)) := by
  by_cases hh : HeadP c
  case pos =>
    by_cases k1 : c.kind = 1
    · exact refValid_1 hE hN hI m n c d hF hc hh k1
    by_cases k2 : c.kind = 2
    · exact refValid_2 hE hN hI m n c d hF hc hh k2
    by_cases k3 : c.kind = 3
    · exact refValid_3 hE hN hI m n c d hF hc hh k3
    by_cases k4 : c.kind = 4
    · exact refValid_4 hE hN hI m n c d hF hc hh k4
    by_cases k5 : c.kind = 5
    · exact refValid_5 hE hN hI m n c d hF hc hh k5
    by_cases k6 : c.kind = 6
    · exact refValid_6 hE hN hI m n c d hF hc hh k6
    by_cases k7 : c.kind = 7
    · exact refValid_7 hE hN hI m n c d hF hc hh k7
    exact refValid_x hE hN hI m n c d hF hc hh (by omega)
  obtain ⟨f1, f2, f3, f4, f5, f6, f7, f8⟩ := hF
  have hNm : ∀ m n s, Pure (callW PG E Y 29 [.string s] m n) m n (.bool (nameB s)) := fun m n s => Name_spec hN m n s
  have hIn : ∀ m n, Pure (callW PG E Y 30 [.int .i64 c.at_, .int .i64 c.len] m n) m n (.bool (decide (insideP c.at_ c.len))) := fun m n => within_spec hI m n _ _ f4 f5
  clear f1 f2 f3 f4 f5 f6 f7 f8
  refine pure_spec hE rfl rfl ?_
  simp only [ac18, cmdV]
  rw [validB_f fun h => hh h.1]
  by_cases t1 : c.tag < 0
  case pos =>
    repeat (first | refine use_pure (hNm _ _ _) fun _ => ?_ | refine use_pure (hIn _ _) fun _ => ?_ | simp (implicitDefEqProofs := false) (disch := omega) only [WPs, opds, List.all_cons, List.all_nil, List.cons_append, List.nil_append, cond_true, cond_false, eq_self, List.map_cons, List.map_nil, Nat.reduceAdd, Nat.testBit, Nat.reduceShiftRight, Nat.reduceAnd, Nat.reduceBNe, Nat.reduceMul, hc.one, hc.len, hc.bel, STs, Bool.not_true, Bool.not_false])
  by_cases t2 : 2147483647 < c.tag
  case pos =>
    repeat (first | refine use_pure (hNm _ _ _) fun _ => ?_ | refine use_pure (hIn _ _) fun _ => ?_ | simp (implicitDefEqProofs := false) (disch := omega) only [WPs, opds, List.all_cons, List.all_nil, List.cons_append, List.nil_append, cond_true, cond_false, eq_self, List.map_cons, List.map_nil, Nat.reduceAdd, Nat.testBit, Nat.reduceShiftRight, Nat.reduceAnd, Nat.reduceBNe, Nat.reduceMul, hc.one, hc.len, hc.bel, STs, Bool.not_true, Bool.not_false])
  have t3 : ¬ (c.ord = 0 ∨ c.ord = 1) := fun h => hh ⟨by omega, by omega, h⟩
  repeat (first | refine use_pure (hNm _ _ _) fun _ => ?_ | refine use_pure (hIn _ _) fun _ => ?_ | simp (implicitDefEqProofs := false) (disch := omega) only [WPs, opds, List.all_cons, List.all_nil, List.cons_append, List.nil_append, cond_true, cond_false, eq_self, List.map_cons, List.map_nil, Nat.reduceAdd, Nat.testBit, Nat.reduceShiftRight, Nat.reduceAnd, Nat.reduceBNe, Nat.reduceMul, hc.one, hc.len, hc.bel, STs, Bool.not_true, Bool.not_false])
end Go.Am.C39
namespace Go.Am.C39
set_option maxRecDepth 100000
open Go Go.Am
variable {E : Nat → Option AFn} {Y : Nat → List Value → FM → Nat → OR FM}
structure Vals (E : Nat → Option AFn) (Y : Nat → List Value → FM → Nat → OR FM) : Prop where
  v29 : ∀ (m : FM) (n : Nat) (c : Cmd) (d : Value), c.Fit → DatV m n d c.data → Pure (callW PG E Y 20 [cmdV c d] m n) m n (.bool (validB c))
  v32 : ∀ (m : FM) (n : Nat) (c : Cmd) (d : Value), c.Fit → DatV m n d c.data → Pure (callW PG E Y 18 [cmdV c d] m n) m n (.bool (validB c))
def InRange (c : Cmd) : Prop := ValidP c ∧ c.kind ≤ 3
theorem kind_of {c : Cmd} (h : ValidP c) : 1 ≤ c.kind ∧ c.kind ≤ 7 := Classical.byContradiction fun hn => valid_x hn h
def NamesP (a : Cmd) (s : ByteArray) : Prop := s ≠ ⟨#[]⟩ ∧ (a.vol = s ∨ a.oth = s)
open Classical in
noncomputable def namesB (a : Cmd) (s : ByteArray) : Bool := decide (NamesP a s)
def OneOf (s : ByteArray) (b : Cmd) : Prop := s ≠ ⟨#[]⟩ ∧ (s = b.vol ∨ s = b.oth)
def SharesP (a b : Cmd) : Prop := OneOf a.vol b ∨ OneOf a.oth b
open Classical in
noncomputable def sharesB (a b : Cmd) : Bool := decide (SharesP a b)
end Go.Am.C39
namespace Go.Am.C39
set_option maxRecDepth 100000
open Go Go.Am
variable {E : Nat → Option AFn} {Y : Nat → List Value → FM → Nat → OR FM}
def RangesP (a b : Cmd) : Prop := a.vol = b.vol ∧ a.at_ < b.at_ + b.len ∧ b.at_ < a.at_ + a.len ∧ (a.kind ≠ 1 ∨ b.kind ≠ 1)
def OverP (a b : Cmd) : Prop := ValidP a ∧ ValidP b ∧ (((5 ≤ a.kind ∨ 5 ≤ b.kind) ∧ SharesP a b) ∨ (a.kind ≤ 3 ∧ b.kind ≤ 3 ∧ RangesP a b))
open Classical in
noncomputable def overB (a b : Cmd) : Bool := decide (OverP a b)
end Go.Am.C39
namespace Go.Am.C39
set_option maxRecDepth 100000
open Go Go.Am
variable {E : Nat → Option AFn} {Y : Nat → List Value → FM → Nat → OR FM}
theorem DatV.belF {m : FM} {n : Nat} {v : Value} {ds : List (List Int)} (h : DatV m n v ds) (k : Nat) (hk : n ≤ k) : belowF k v = true := by
  have hb := h.bel k hk
  obtain ⟨a, c, rfl, _⟩ := h
  exact hb
def FairP (c : Cmd) : Prop := c.data.length ≤ 40 ∧ c.vol.size ≤ 100 ∧ c.oth.size ≤ 100
instance (c : Cmd) : Decidable (FairP c) := by unfold FairP; exact inferInstance
end Go.Am.C39
namespace Go.Am.C39
set_option maxRecDepth 100000
open Go Go.Am
variable {E : Nat → Option AFn} {Y : Nat → List Value → FM → Nat → OR FM}
end Go.Am.C39
namespace Go.Am.C39
open Go Go.Proofs Go.Shelf Go.RowKit
variable {P : Program} {ρ : Go.Shelf.Ren}
def hexD (c : Nat) : Option Nat := if 48 ≤ c ∧ c ≤ 57 then some (c - 48) else if 97 ≤ (bits .or .u8 (c : Int) 32).toNat ∧ (bits .or .u8 (c : Int) 32).toNat ≤ 102 then some ((bits .or .u8 (c : Int) 32).toNat - 87) else none
def hexP : Nat → List UInt8 → Option Nat
  | acc, [] => some acc
  | acc, c :: l => match hexD c.toNat with
    | some d => hexP (acc * 16 + d) l
    | none => none
def hexT (e : TypeId) : Option Nat → Value
  | some n => .tuple #[.int .u64 (n : Int), .nilIface]
  | none => .tuple #[.int .u64 0, .iface e (.int .i64 2)]
theorem hexP_dig {acc : Nat} {c : UInt8} {l : List UInt8} {d : Nat} (h : hexD c.toNat = some d) : hexP acc (c :: l) = hexP (acc * 16 + d) l := by
  rw [hexP, h]
theorem hexP_no {acc : Nat} {c : UInt8} {l : List UInt8} (h : hexD c.toNat = none) : hexP acc (c :: l) = none := by
  rw [hexP, h]
set_option maxHeartbeats 32000000 in
set_option maxRecDepth 100000 in
theorem parseUint_16 (L : Lays.n287 P ρ) (t : ByteArray) (hsz : t.size = 2) (w : World) :
    Calls P (ρ.f 287) #[.string t, .int .i64 16, .int .i64 8] w fun e w' => e = .returned (hexT (ρ.t 167) (hexP 0 t.data.toList)) ∧ w' = Lib.bytesWorld w (ρ.t 5) t := by
  have hne : t.size ≠ 0 := by omega
  have hmax : t.size ≤ 9223372036854775806 := by omega
  have mixed := L.mixed
  have t9 := L.t9; have a9 := L.a9; have z9 := L.z9; have v9 := L.v9
  have t3 := L.t3; have a3 := L.a3; have z3 := L.z3; have v3 := L.v3
  have t53 := L.t53; have a53 := L.a53; have z53 := L.z53; have v53 := L.v53
  have t75 := L.t75; have a75 := L.a75; have z75 := L.z75; have v75 := L.v75
  have t4 := L.t4; have a4 := L.a4; have z4 := L.z4; have v4 := L.v4
  have t167 := L.t167; have a167 := L.a167; have z167 := L.z167; have v167 := L.v167
  have t5 := L.t5; have a5 := L.a5; have z5 := L.z5; have v5 := L.v5
  have t46 := L.t46; have a46 := L.a46; have z46 := L.z46; have v46 := L.v46
  have t37 := L.t37; have a37 := L.a37; have z37 := L.z37; have v37 := L.v37
  have t0 := L.t0; have a0 := L.a0; have z0 := L.z0; have v0 := L.v0
  have e321 : ∀ args w, (callFunc (ρ.f 321) args).run P w = .ok (.enter (ρ.f 321) args) w := enters_of L.f321 (by kernel_rfl) rfl
  have hemp : t.toList.isEmpty = false := by
    rw [← decide_eq_emptyBytes]
    exact decide_eq_false (fun h => hne (by rw [h]; rfl))
  have hcv := Lib.run_convert_string_bytes (P := P) w (ρ.t 9) (ρ.t 37) (ρ.t 5) t (u := .string) L.t9 L.t37 L.t5
  have hB : ∀ j, j < t.size → (Lib.bytesWorld w (ρ.t 5) t).cell? ⟨w.heap.size, j, none⟩ = some (.int .u8 (t.data.toList.getD j 0).toNat) := fun j hj => Lib.bytesWorld_cell w (ρ.t 5) t j hj
  obtain ⟨W1, hW1⟩ : ∃ W1, W1 = Lib.bytesWorld w (ρ.t 5) t := ⟨_, rfl⟩
  rw [← hW1] at hcv hB ⊢
  clear hW1
  obtain ⟨bs, hL⟩ : ∃ bs, bs = t.data.toList := ⟨_, rfl⟩
  have hLn : bs.length = t.size := by rw [hL, Lib.size_eq]
  rw [← hL] at hB ⊢
  clear hL
  have hmv : IntKind.u64.wrap (IntKind.u64.wrap 256 - 1) = 255 := by
    rw [IntKind.wrap_u64, IntKind.wrap_u64]
    decide
  go_enter L.f287, Body.n287_ntmps ρ
  go_wp2
  go_loop [12, 13, 101] (fun vu vn vi => ∃ (k acc : Nat) (a : Int), vu = .bool false ∧ vn = .int .u64 a ∧ vi = .int .i64 k ∧ k ≤ t.size ∧ Hid (a = (acc : Int) ∧ (acc ≤ 255 ∧ (k ≤ 1 → acc ≤ 15) ∧ (k = 0 → acc = 0)) ∧ hexP 0 bs = hexP acc (bs.drop k)))
    (fun _ _ vi => t.size - (intOf vi).toNat)
  case atStart => exact ⟨0, 0, 0, rfl, rfl, rfl, by omega, rfl, by omega, rfl⟩
  case round =>
    obtain ⟨k, acc, a, rfl, rfl, rfl, hk, hh⟩ := hrel
    obtain ⟨ha, hacc, hdec⟩ := hh.out
    clear hh
    have a0 : 0 ≤ a := by omega
    by_cases hkn : k < t.size
    · have a1 : a ≤ 15 := by omega
      have hc := hB k hkn
      have hdrop : bs.drop k = bs[k]'(by omega) :: bs.drop (k + 1) := List.drop_eq_getElem_cons (by omega)
      have hget : bs.getD k 0 = bs[k]'(by omega) := by simp [List.getD, List.getElem?_eq_getElem (show k < bs.length by omega)]
      rw [hdrop] at hdec
      rw [hget] at hc
      generalize bs[k]'(by omega) = c at hc hdec
      have hc256 : c.toNat < 256 := c.toNat_lt
      clear hB hdrop hget
      by_cases hdig : 48 ≤ c.toNat ∧ c.toNat ≤ 57
      · obtain ⟨hd0, hd1⟩ := hdig
        have hF : hexP acc (c :: bs.drop (k + 1)) = hexP (acc * 16 + (c.toNat - 48)) (bs.drop (k + 1)) := hexP_dig (if_pos ⟨hd0, hd1⟩)
        have HN : Hid (a * 16 + ((c.toNat : Int) - 48) = ((acc * 16 + (c.toNat - 48) : Nat) : Int) ∧ (acc * 16 + (c.toNat - 48) ≤ 255 ∧ (k + 1 ≤ 1 → acc * 16 + (c.toNat - 48) ≤ 15) ∧ (k + 1 = 0 → acc * 16 + (c.toNat - 48) = 0)) ∧ hexP 0 bs = hexP (acc * 16 + (c.toNat - 48)) (bs.drop (k + 1))) := Lib.hid ⟨by omega, by omega, hdec.trans hF⟩
        have iov : a * 16 + ((c.toNat : Int) - 48) ≤ 255 := by omega
        clear hacc hF hdec ha
        go_wp2
        refine ⟨⟨k + 1, acc * 16 + (c.toNat - 48), a * 16 + ((c.toNat : Int) - 48), rfl, (by first | rfl | (congr 1; omega)), (by first | rfl | (congr 1; omega)), by omega, HN⟩, by simp [intOf]; omega⟩
      · have hv0 := bits_lo_u8 .or (c.toNat : Int) 32
        have hv1 := bits_hi_u8 .or (c.toNat : Int) 32
        have hu0 := bits_lo_u8 .or 95 32
        have hu1 := bits_hi_u8 .or 95 32
        obtain ⟨q, hQ⟩ : ∃ q, bits .or .u8 (c.toNat : Int) 32 = q := ⟨_, rfl⟩
        rw [hQ] at hv0 hv1
        by_cases hq : 97 ≤ q ∧ q ≤ 102
        · obtain ⟨hq0, hq1⟩ := hq
          have h95 : ¬ (c.toNat : Int) = 95 := fun h => by
            rw [h] at hQ
            have h127 : bits .or .u8 95 32 = 127 := by decide
            omega
          have hD : hexD c.toNat = some (q.toNat - 87) := by
            rw [hexD, if_neg hdig, hQ, if_pos (by omega)]
          have hF := hexP_dig (acc := acc) (l := bs.drop (k + 1)) hD
          have HN : Hid (a * 16 + (q - 97 + 10) = ((acc * 16 + (q.toNat - 87) : Nat) : Int) ∧ (acc * 16 + (q.toNat - 87) ≤ 255 ∧ (k + 1 ≤ 1 → acc * 16 + (q.toNat - 87) ≤ 15) ∧ (k + 1 = 0 → acc * 16 + (q.toNat - 87) = 0)) ∧ hexP 0 bs = hexP (acc * 16 + (q.toNat - 87)) (bs.drop (k + 1))) := Lib.hid ⟨by omega, by omega, hdec.trans hF⟩
          have iov : a * 16 + (q - 97 + 10) ≤ 255 := by omega
          clear hacc hF hdec ha hD
          go_wp2_with (go_at_fn (ρ.f 321); refine (Any.internal_strconv_lower { L with } _ _).mono ?_; rintro e w' ⟨rfl, rfl⟩; try rw [hQ])
          all_goals refine ⟨⟨k + 1, acc * 16 + (q.toNat - 87), a * 16 + (q - 97 + 10), rfl, (by first | rfl | (congr 1; omega)), (by first | rfl | (congr 1; omega)), by omega, HN⟩, by simp [intOf]; omega⟩
        · have hD : hexD c.toNat = none := by
            rw [hexD, if_neg hdig, hQ, if_neg (by omega)]
          have hF := hexP_no (acc := acc) (l := bs.drop (k + 1)) hD
          rw [hF] at hdec
          clear hacc hF ha hD
          by_cases hq2 : q < 97
          · clear hq
            go_wp2_with (go_at_fn (ρ.f 321); refine (Any.internal_strconv_lower { L with } _ _).mono ?_; rintro e w' ⟨rfl, rfl⟩; try rw [hQ])
            all_goals go_ret2
            all_goals first | exact ⟨rfl, rfl⟩ | exact ⟨by rw [hdec]; rfl, rfl⟩
          · by_cases hq3 : 122 < q
            · clear hq
              go_wp2_with (go_at_fn (ρ.f 321); refine (Any.internal_strconv_lower { L with } _ _).mono ?_; rintro e w' ⟨rfl, rfl⟩; try rw [hQ])
              all_goals go_ret2
              all_goals first | exact ⟨rfl, rfl⟩ | exact ⟨by rw [hdec]; rfl, rfl⟩
            · have hq4 : 103 ≤ q := by omega
              clear hq
              go_wp2_with (go_at_fn (ρ.f 321); refine (Any.internal_strconv_lower { L with } _ _).mono ?_; rintro e w' ⟨rfl, rfl⟩; try rw [hQ])
              all_goals go_ret2
              all_goals first | exact ⟨rfl, rfl⟩ | exact ⟨by rw [hdec]; rfl, rfl⟩
    · have hkk : k = t.size := by omega
      subst hkk
      have hF : hexP acc (bs.drop t.size) = some acc := by rw [List.drop_eq_nil_of_le (by omega)]; rfl
      rw [hF] at hdec
      subst ha
      clear hacc hF a0
      go_wp2
      go_ret2
      exact ⟨rfl, rfl⟩
end Go.Am.C39
