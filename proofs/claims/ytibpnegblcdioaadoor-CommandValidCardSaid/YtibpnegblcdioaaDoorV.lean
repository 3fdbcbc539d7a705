/- The machine and its runs, part V: An39e An39r An39f An39g An39k An39z An39aw An39h An39i An39j An39k2 An39m An39n An39t. -/
import Derived.Lib.ItoaLen
import Derived.Test.YtibpnegblcdioaaDoorRows
import Derived.Lib.LaidU8
import Derived.Lib.SmallJoins
import Derived.Lib.AppendIntMem
import Derived.HandedShaped
import Derived.SizedLaws
import Derived.OpenShut
import Derived.LaidLaws
import Derived.Stop.Joined
import Derived.Deep.DeepHandedRow
import Derived.Test.YtibpnegblcdioaaDoorDa
import Derived.Test.YtibpnegblcdioaaDoorDb
import Derived.Test.YtibpnegblcdioaaDoorDc
import Derived.Test.YtibpnegblcdioaaDoorRa
import Derived.Test.YtibpnegblcdioaaDoorRb
import Derived.Test.YtibpnegblcdioaaDoorY
import Derived.Test.YtibpnegblcdioaaDoorB11
set_option linter.unusedVariables false
set_option linter.unusedSimpArgs false
set_option linter.unusedSectionVars false
namespace Go.Am.C39
set_option maxRecDepth 100000
open Go Go.Am
variable {E : Nat → Option AFn} {Y : Nat → List Value → FM → Nat → OR FM}
set_option maxHeartbeats 8000000 in
theorem cmdValid_spec (hE : E 17 = some ac17) (hN : E 33 = some ac33) (hT : Trims E Y) (hI : E 34 = some ac34) (hO : E 32 = some ac32) (hS : E 35 = some ac35) (m : FM) (n : Nat) (c : Cmd) (d : Value) (hF : c.Fit) (hc : DatV m n d c.data) :
    Pure (callW PG E Y 17 [cmdV c d] m n) m n (.bool (validB c)) := by
  by_cases hh : HeadP c
  case pos =>
    by_cases k1 : c.kind = 1
    · exact cmdValid_1 hE hN hT hI hO hS m n c d hF hc hh k1
    by_cases k2 : c.kind = 2
    · exact cmdValid_2 hE hN hT hI hO hS m n c d hF hc hh k2
    by_cases k3 : c.kind = 3
    · exact cmdValid_3 hE hN hT hI hO hS m n c d hF hc hh k3
    by_cases k4 : c.kind = 4
    · exact cmdValid_4 hE hN hT hI hO hS m n c d hF hc hh k4
    by_cases k5 : c.kind = 5
    · exact cmdValid_5 hE hN hT hI hO hS m n c d hF hc hh k5
    by_cases k6 : c.kind = 6
    · exact cmdValid_6 hE hN hT hI hO hS m n c d hF hc hh k6
    by_cases k7 : c.kind = 7
    · exact cmdValid_7 hE hN hT hI hO hS m n c d hF hc hh k7
    exact cmdValid_x hE hN hT hI hO hS m n c d hF hc hh (by omega)
  obtain ⟨f1, f2, f3, f4, f5, f6, f7, f8⟩ := hF
  have hNv : ∀ m n, Pure (callW PG E Y 33 [.string c.vol] m n) m n (.bool (nameB c.vol)) := fun m n => name_spec hN hT m n _ f6
  have hNo : ∀ m n, Pure (callW PG E Y 33 [.string c.oth] m n) m n (.bool (nameB c.oth)) := fun m n => name_spec hN hT m n _ f7
  have hIn : ∀ m n, Pure (callW PG E Y 34 [.int .i64 c.at_, .int .i64 c.len] m n) m n (.bool (decide (insideP c.at_ c.len))) := fun m n => inside_spec hI m n _ _ f4 f5
  have hOn : ∀ m n, Pure (callW PG E Y 32 [cmdV c d] m n) m n (.agg #[.int .i64 c.tag, .int .i64 c.kind, .int .i64 c.ord, .bool false, .string ⟨#[]⟩, .string ⟨#[]⟩, .int .i64 0, .int .i64 0, .slice none 0 0]) := fun m n => only_spec hO m n c d hc.one
  clear f1 f2 f3 f4 f5 f6 f7
  refine pure_spec hE rfl rfl ?_
  simp only [ac17, cmdV]
  rw [validB_f fun h => hh h.1]
  by_cases t1 : c.tag < 0
  case pos =>
    repeat (first | refine use_pure (hOn _ _) fun _ => ?_ | refine use_pure (hNv _ _) fun _ => ?_ | refine use_pure (hNo _ _) fun _ => ?_ | refine use_pure (hIn _ _) fun _ => ?_ | simp (implicitDefEqProofs := false) (disch := omega) only [WPs, opds, List.all_cons, List.all_nil, List.cons_append, List.nil_append, cond_true, cond_false, eq_self, List.map_cons, List.map_nil, Nat.reduceAdd, Nat.testBit, Nat.reduceShiftRight, Nat.reduceAnd, Nat.reduceBNe, Nat.reduceMul, hc.one, cells_of_one hc.one, hc.len, hc.bel, STs, Bool.not_true, Bool.not_false])
  by_cases t2 : 2147483647 < c.tag
  case pos =>
    repeat (first | refine use_pure (hOn _ _) fun _ => ?_ | refine use_pure (hNv _ _) fun _ => ?_ | refine use_pure (hNo _ _) fun _ => ?_ | refine use_pure (hIn _ _) fun _ => ?_ | simp (implicitDefEqProofs := false) (disch := omega) only [WPs, opds, List.all_cons, List.all_nil, List.cons_append, List.nil_append, cond_true, cond_false, eq_self, List.map_cons, List.map_nil, Nat.reduceAdd, Nat.testBit, Nat.reduceShiftRight, Nat.reduceAnd, Nat.reduceBNe, Nat.reduceMul, hc.one, cells_of_one hc.one, hc.len, hc.bel, STs, Bool.not_true, Bool.not_false])
  have t3 : ¬ (c.ord = 0 ∨ c.ord = 1) := fun h => hh ⟨by omega, by omega, h⟩
  repeat (first | refine use_pure (hOn _ _) fun _ => ?_ | refine use_pure (hNv _ _) fun _ => ?_ | refine use_pure (hNo _ _) fun _ => ?_ | refine use_pure (hIn _ _) fun _ => ?_ | simp (implicitDefEqProofs := false) (disch := omega) only [WPs, opds, List.all_cons, List.all_nil, List.cons_append, List.nil_append, cond_true, cond_false, eq_self, List.map_cons, List.map_nil, Nat.reduceAdd, Nat.testBit, Nat.reduceShiftRight, Nat.reduceAnd, Nat.reduceBNe, Nat.reduceMul, hc.one, cells_of_one hc.one, hc.len, hc.bel, STs, Bool.not_true, Bool.not_false])
end Go.Am.C39
namespace Go.Am.C39
set_option maxRecDepth 100000
open Go Go.Am
variable {E : Nat → Option AFn} {Y : Nat → List Value → FM → Nat → OR FM}
set_option maxHeartbeats 8000000 in
theorem refValid_spec (hE : E 11 = some ac11) (hN : E 21 = some ac21) (hI : E 22 = some ac22) (m : FM) (n : Nat) (c : Cmd) (d : Value) (hF : c.Fit) (hc : DatV m n d c.data) :
    Pure (callW PG E Y 11 [cmdV c d] m n) m n (.bool (validB c)) := by
  by_cases hh : HeadP c
  case pos =>
    by_cases k1 : c.kind = 1
    · exact refValid_1 hE hN hI m n c d hF hc hh k1
    by_cases k2 : c.kind = 2
    · exact refValid_2 hE hN hI m n c d hF hc hh k2
    by_cases k3 : c.kind = 3
    · exact refValid_3 hE hN hI m n c d hF hc hh k3
    by_cases k4 : c.kind = 4
    · exact refValid_4 hE hN hI m n c d hF hc hh k4
    by_cases k5 : c.kind = 5
    · exact refValid_5 hE hN hI m n c d hF hc hh k5
    by_cases k6 : c.kind = 6
    · exact refValid_6 hE hN hI m n c d hF hc hh k6
    by_cases k7 : c.kind = 7
    · exact refValid_7 hE hN hI m n c d hF hc hh k7
    exact refValid_x hE hN hI m n c d hF hc hh (by omega)
  obtain ⟨f1, f2, f3, f4, f5, f6, f7, f8⟩ := hF
  have hNm : ∀ m n s, Pure (callW PG E Y 21 [.string s] m n) m n (.bool (nameB s)) := fun m n s => Name_spec hN m n s
  have hIn : ∀ m n, Pure (callW PG E Y 22 [.int .i64 c.at_, .int .i64 c.len] m n) m n (.bool (decide (insideP c.at_ c.len))) := fun m n => within_spec hI m n _ _ f4 f5
  clear f1 f2 f3 f4 f5 f6 f7 f8
  refine pure_spec hE rfl rfl ?_
  simp only [ac11, cmdV]
  rw [validB_f fun h => hh h.1]
  by_cases t1 : c.tag < 0
  case pos =>
    repeat (first | refine use_pure (hNm _ _ _) fun _ => ?_ | refine use_pure (hIn _ _) fun _ => ?_ | simp (implicitDefEqProofs := false) (disch := omega) only [WPs, opds, List.all_cons, List.all_nil, List.cons_append, List.nil_append, cond_true, cond_false, eq_self, List.map_cons, List.map_nil, Nat.reduceAdd, Nat.testBit, Nat.reduceShiftRight, Nat.reduceAnd, Nat.reduceBNe, Nat.reduceMul, hc.one, hc.len, hc.bel, STs, Bool.not_true, Bool.not_false])
  by_cases t2 : 2147483647 < c.tag
  case pos =>
    repeat (first | refine use_pure (hNm _ _ _) fun _ => ?_ | refine use_pure (hIn _ _) fun _ => ?_ | simp (implicitDefEqProofs := false) (disch := omega) only [WPs, opds, List.all_cons, List.all_nil, List.cons_append, List.nil_append, cond_true, cond_false, eq_self, List.map_cons, List.map_nil, Nat.reduceAdd, Nat.testBit, Nat.reduceShiftRight, Nat.reduceAnd, Nat.reduceBNe, Nat.reduceMul, hc.one, hc.len, hc.bel, STs, Bool.not_true, Bool.not_false])
  have t3 : ¬ (c.ord = 0 ∨ c.ord = 1) := fun h => hh ⟨by omega, by omega, h⟩
  repeat (first | refine use_pure (hNm _ _ _) fun _ => ?_ | refine use_pure (hIn _ _) fun _ => ?_ | simp (implicitDefEqProofs := false) (disch := omega) only [WPs, opds, List.all_cons, List.all_nil, List.cons_append, List.nil_append, cond_true, cond_false, eq_self, List.map_cons, List.map_nil, Nat.reduceAdd, Nat.testBit, Nat.reduceShiftRight, Nat.reduceAnd, Nat.reduceBNe, Nat.reduceMul, hc.one, hc.len, hc.bel, STs, Bool.not_true, Bool.not_false])
end Go.Am.C39
namespace Go.Am.C39
set_option maxRecDepth 100000
open Go Go.Am
variable {E : Nat → Option AFn} {Y : Nat → List Value → FM → Nat → OR FM}
structure Vals (E : Nat → Option AFn) (Y : Nat → List Value → FM → Nat → OR FM) : Prop where
  v29 : ∀ (m : FM) (n : Nat) (c : Cmd) (d : Value), c.Fit → DatV m n d c.data → Pure (callW PG E Y 17 [cmdV c d] m n) m n (.bool (validB c))
  v32 : ∀ (m : FM) (n : Nat) (c : Cmd) (d : Value), c.Fit → DatV m n d c.data → Pure (callW PG E Y 11 [cmdV c d] m n) m n (.bool (validB c))
def InRange (c : Cmd) : Prop := ValidP c ∧ c.kind ≤ 3
theorem kind_of {c : Cmd} (h : ValidP c) : 1 ≤ c.kind ∧ c.kind ≤ 7 := Classical.byContradiction fun hn => valid_x hn h
theorem range_in (hE : E 15 = some ac15) (hV : Vals E Y) (m : FM) (n : Nat) (c : Cmd) (d : Value) (hF : c.Fit) (hc : DatV m n d c.data) (h : InRange c) :
    Pure (callW PG E Y 15 [cmdV c d] m n) m n (.tuple #[.string c.vol, .int .i64 c.at_, .int .i64 c.len, .bool true]) := by
  refine pure_spec hE rfl rfl ?_
  have hk := h.2
  simp only [ac15, cmdV]
  simp (implicitDefEqProofs := false) (disch := omega) only [WPs, opds, List.all_cons, List.all_nil, List.cons_append, List.nil_append, cond_true, cond_false, eq_self, List.map_cons, List.map_nil, Nat.reduceAdd, Nat.testBit, Nat.reduceShiftRight, Nat.reduceAnd, Nat.reduceBNe, Nat.reduceMul, hc.one, hc.len]
  refine use_pure (hV.v29 _ _ c d hF (hc.frame (by omega) fun b hb => by simp (implicitDefEqProofs := false) (disch := omega) only [WPs, opds, List.all_cons, List.all_nil, List.cons_append, List.nil_append, cond_true, cond_false, eq_self, List.map_cons, List.map_nil, Nat.reduceAdd, Nat.testBit, Nat.reduceShiftRight, Nat.reduceAnd, Nat.reduceBNe, Nat.reduceMul])) fun r1 => ?_
  simp (implicitDefEqProofs := false) (disch := omega) only [WPs, opds, List.all_cons, List.all_nil, List.cons_append, List.nil_append, cond_true, cond_false, eq_self, List.map_cons, List.map_nil, Nat.reduceAdd, Nat.testBit, Nat.reduceShiftRight, Nat.reduceAnd, Nat.reduceBNe, Nat.reduceMul, validB_t h.1, Bool.not_true, hc.one, STs]
theorem range_out (hE : E 15 = some ac15) (hV : Vals E Y) (m : FM) (n : Nat) (c : Cmd) (d : Value) (hF : c.Fit) (hc : DatV m n d c.data) (h : ¬ InRange c) :
    Pure (callW PG E Y 15 [cmdV c d] m n) m n (.tuple #[.string ⟨#[]⟩, .int .i64 0, .int .i64 0, .bool false]) := by
  refine pure_spec hE rfl rfl ?_
  simp only [ac15, cmdV]
  simp (implicitDefEqProofs := false) (disch := omega) only [WPs, opds, List.all_cons, List.all_nil, List.cons_append, List.nil_append, cond_true, cond_false, eq_self, List.map_cons, List.map_nil, Nat.reduceAdd, Nat.testBit, Nat.reduceShiftRight, Nat.reduceAnd, Nat.reduceBNe, Nat.reduceMul, hc.one, hc.len]
  refine use_pure (hV.v29 _ _ c d hF (hc.frame (by omega) fun b hb => by simp (implicitDefEqProofs := false) (disch := omega) only [WPs, opds, List.all_cons, List.all_nil, List.cons_append, List.nil_append, cond_true, cond_false, eq_self, List.map_cons, List.map_nil, Nat.reduceAdd, Nat.testBit, Nat.reduceShiftRight, Nat.reduceAnd, Nat.reduceBNe, Nat.reduceMul])) fun r1 => ?_
  by_cases hv : ValidP c
  · have hk : ¬ c.kind ≤ 3 := fun hk => h ⟨hv, hk⟩
    simp (implicitDefEqProofs := false) (disch := omega) only [WPs, opds, List.all_cons, List.all_nil, List.cons_append, List.nil_append, cond_true, cond_false, eq_self, List.map_cons, List.map_nil, Nat.reduceAdd, Nat.testBit, Nat.reduceShiftRight, Nat.reduceAnd, Nat.reduceBNe, Nat.reduceMul, validB_t hv, Bool.not_true, hc.one, STs]
  · simp (implicitDefEqProofs := false) (disch := omega) only [WPs, opds, List.all_cons, List.all_nil, List.cons_append, List.nil_append, cond_true, cond_false, eq_self, List.map_cons, List.map_nil, Nat.reduceAdd, Nat.testBit, Nat.reduceShiftRight, Nat.reduceAnd, Nat.reduceBNe, Nat.reduceMul, validB_f hv, Bool.not_false, hc.one, STs]
theorem refRange_in (hE : E 16 = some ac16) (hV : Vals E Y) (m : FM) (n : Nat) (c : Cmd) (d : Value) (hF : c.Fit) (hc : DatV m n d c.data) (h : InRange c) :
    Pure (callW PG E Y 16 [cmdV c d] m n) m n (.tuple #[.string c.vol, .int .i64 c.at_, .int .i64 c.len, .bool true]) := by
  refine pure_spec hE rfl rfl ?_
  have hk := h.2
  have hk1 := kind_of h.1
  simp only [ac16, cmdV]
  simp (implicitDefEqProofs := false) (disch := omega) only [WPs, opds, List.all_cons, List.all_nil, List.cons_append, List.nil_append, cond_true, cond_false, eq_self, List.map_cons, List.map_nil, Nat.reduceAdd, Nat.testBit, Nat.reduceShiftRight, Nat.reduceAnd, Nat.reduceBNe, Nat.reduceMul, hc.one, hc.len]
  refine use_pure (hV.v32 _ _ c d hF (hc.frame (by omega) fun b hb => by simp (implicitDefEqProofs := false) (disch := omega) only [WPs, opds, List.all_cons, List.all_nil, List.cons_append, List.nil_append, cond_true, cond_false, eq_self, List.map_cons, List.map_nil, Nat.reduceAdd, Nat.testBit, Nat.reduceShiftRight, Nat.reduceAnd, Nat.reduceBNe, Nat.reduceMul])) fun r1 => ?_
  rcases (show c.kind = 1 ∨ c.kind = 2 ∨ c.kind = 3 by omega) with k | k | k
  · simp (implicitDefEqProofs := false) (disch := omega) only [WPs, opds, List.all_cons, List.all_nil, List.cons_append, List.nil_append, cond_true, cond_false, eq_self, List.map_cons, List.map_nil, Nat.reduceAdd, Nat.testBit, Nat.reduceShiftRight, Nat.reduceAnd, Nat.reduceBNe, Nat.reduceMul, validB_t h.1, Bool.not_true, hc.one, STs]
  · simp (implicitDefEqProofs := false) (disch := omega) only [WPs, opds, List.all_cons, List.all_nil, List.cons_append, List.nil_append, cond_true, cond_false, eq_self, List.map_cons, List.map_nil, Nat.reduceAdd, Nat.testBit, Nat.reduceShiftRight, Nat.reduceAnd, Nat.reduceBNe, Nat.reduceMul, validB_t h.1, Bool.not_true, hc.one, STs]
  · simp (implicitDefEqProofs := false) (disch := omega) only [WPs, opds, List.all_cons, List.all_nil, List.cons_append, List.nil_append, cond_true, cond_false, eq_self, List.map_cons, List.map_nil, Nat.reduceAdd, Nat.testBit, Nat.reduceShiftRight, Nat.reduceAnd, Nat.reduceBNe, Nat.reduceMul, validB_t h.1, Bool.not_true, hc.one, STs]
theorem refRange_out (hE : E 16 = some ac16) (hV : Vals E Y) (m : FM) (n : Nat) (c : Cmd) (d : Value) (hF : c.Fit) (hc : DatV m n d c.data) (h : ¬ InRange c) :
    Pure (callW PG E Y 16 [cmdV c d] m n) m n (.tuple #[.string ⟨#[]⟩, .int .i64 0, .int .i64 0, .bool false]) := by
  refine pure_spec hE rfl rfl ?_
  simp only [ac16, cmdV]
  simp (implicitDefEqProofs := false) (disch := omega) only [WPs, opds, List.all_cons, List.all_nil, List.cons_append, List.nil_append, cond_true, cond_false, eq_self, List.map_cons, List.map_nil, Nat.reduceAdd, Nat.testBit, Nat.reduceShiftRight, Nat.reduceAnd, Nat.reduceBNe, Nat.reduceMul, hc.one, hc.len]
  refine use_pure (hV.v32 _ _ c d hF (hc.frame (by omega) fun b hb => by simp (implicitDefEqProofs := false) (disch := omega) only [WPs, opds, List.all_cons, List.all_nil, List.cons_append, List.nil_append, cond_true, cond_false, eq_self, List.map_cons, List.map_nil, Nat.reduceAdd, Nat.testBit, Nat.reduceShiftRight, Nat.reduceAnd, Nat.reduceBNe, Nat.reduceMul])) fun r1 => ?_
  by_cases hv : ValidP c
  · have hk : ¬ c.kind ≤ 3 := fun hk => h ⟨hv, hk⟩
    simp (implicitDefEqProofs := false) (disch := omega) only [WPs, opds, List.all_cons, List.all_nil, List.cons_append, List.nil_append, cond_true, cond_false, eq_self, List.map_cons, List.map_nil, Nat.reduceAdd, Nat.testBit, Nat.reduceShiftRight, Nat.reduceAnd, Nat.reduceBNe, Nat.reduceMul, validB_t hv, Bool.not_true, hc.one, STs]
  · simp (implicitDefEqProofs := false) (disch := omega) only [WPs, opds, List.all_cons, List.all_nil, List.cons_append, List.nil_append, cond_true, cond_false, eq_self, List.map_cons, List.map_nil, Nat.reduceAdd, Nat.testBit, Nat.reduceShiftRight, Nat.reduceAnd, Nat.reduceBNe, Nat.reduceMul, validB_f hv, Bool.not_false, hc.one, STs]
def NamesP (a : Cmd) (s : ByteArray) : Prop := s ≠ ⟨#[]⟩ ∧ (a.vol = s ∨ a.oth = s)
open Classical in
noncomputable def namesB (a : Cmd) (s : ByteArray) : Bool := decide (NamesP a s)
open Classical in
theorem namesB_t {a : Cmd} {s : ByteArray} (h : NamesP a s) : namesB a s = true := by unfold namesB; exact decide_eq_true h
open Classical in
theorem namesB_f {a : Cmd} {s : ByteArray} (h : ¬ NamesP a s) : namesB a s = false := by unfold namesB; exact decide_eq_false h
theorem names_spec (hE : E 38 = some ac38) (m : FM) (n : Nat) (c : Cmd) (d : Value) (hd : one d = true) (s : ByteArray) :
    Pure (callW PG E Y 38 [cmdV c d, .string s] m n) m n (.bool (namesB c s)) := by
  refine pure_spec hE rfl rfl ?_
  simp only [ac38, cmdV]
  by_cases h0 : s = ⟨#[]⟩
  · rw [namesB_f fun h => h.1 h0]
    simp (implicitDefEqProofs := false) (disch := omega) only [WPs, opds, List.all_cons, List.all_nil, List.cons_append, List.nil_append, cond_true, cond_false, eq_self, List.map_cons, List.map_nil, Nat.reduceAdd, Nat.testBit, Nat.reduceShiftRight, Nat.reduceAnd, Nat.reduceBNe, Nat.reduceMul, hd, STs, decide_eq_true h0, Bool.not_true]
  · by_cases h1 : c.vol = s
    · rw [namesB_t ⟨h0, .inl h1⟩]
      simp (implicitDefEqProofs := false) (disch := omega) only [WPs, opds, List.all_cons, List.all_nil, List.cons_append, List.nil_append, cond_true, cond_false, eq_self, List.map_cons, List.map_nil, Nat.reduceAdd, Nat.testBit, Nat.reduceShiftRight, Nat.reduceAnd, Nat.reduceBNe, Nat.reduceMul, hd, STs, decide_eq_false h0, decide_eq_true h1, Bool.not_false]
    · by_cases h2 : c.oth = s
      · rw [namesB_t ⟨h0, .inr h2⟩]
        simp (implicitDefEqProofs := false) (disch := omega) only [WPs, opds, List.all_cons, List.all_nil, List.cons_append, List.nil_append, cond_true, cond_false, eq_self, List.map_cons, List.map_nil, Nat.reduceAdd, Nat.testBit, Nat.reduceShiftRight, Nat.reduceAnd, Nat.reduceBNe, Nat.reduceMul, hd, STs, decide_eq_false h0, decide_eq_false h1, decide_eq_true h2, Bool.not_false]
      · rw [namesB_f fun h => h.2.elim h1 h2]
        simp (implicitDefEqProofs := false) (disch := omega) only [WPs, opds, List.all_cons, List.all_nil, List.cons_append, List.nil_append, cond_true, cond_false, eq_self, List.map_cons, List.map_nil, Nat.reduceAdd, Nat.testBit, Nat.reduceShiftRight, Nat.reduceAnd, Nat.reduceBNe, Nat.reduceMul, hd, STs, decide_eq_false h0, decide_eq_false h1, decide_eq_false h2, Bool.not_false]
def OneOf (s : ByteArray) (b : Cmd) : Prop := s ≠ ⟨#[]⟩ ∧ (s = b.vol ∨ s = b.oth)
def SharesP (a b : Cmd) : Prop := OneOf a.vol b ∨ OneOf a.oth b
open Classical in
noncomputable def sharesB (a b : Cmd) : Bool := decide (SharesP a b)
open Classical in
theorem sharesB_t {a b : Cmd} (h : SharesP a b) : sharesB a b = true := by unfold sharesB; exact decide_eq_true h
open Classical in
theorem sharesB_f {a b : Cmd} (h : ¬ SharesP a b) : sharesB a b = false := by unfold sharesB; exact decide_eq_false h
theorem shares_names (a b : Cmd) : SharesP a b ↔ NamesP a b.vol ∨ NamesP a b.oth := by
  unfold SharesP OneOf NamesP
  constructor
  · rintro (⟨h, h1 | h1⟩ | ⟨h, h1 | h1⟩)
    · exact .inl ⟨h1 ▸ h, .inl h1⟩
    · exact .inr ⟨h1 ▸ h, .inl h1⟩
    · exact .inl ⟨h1 ▸ h, .inr h1⟩
    · exact .inr ⟨h1 ▸ h, .inr h1⟩
  · rintro (⟨h, h1 | h1⟩ | ⟨h, h1 | h1⟩)
    · exact .inl ⟨h1 ▸ h, .inl h1⟩
    · exact .inr ⟨h1 ▸ h, .inl h1⟩
    · exact .inl ⟨h1 ▸ h, .inr h1⟩
    · exact .inr ⟨h1 ▸ h, .inr h1⟩
end Go.Am.C39
namespace Go.Am.C39
set_option maxRecDepth 100000
open Go Go.Am
variable {E : Nat → Option AFn} {Y : Nat → List Value → FM → Nat → OR FM}
theorem sh_round (m : FM) (n pb : Nat) (a b : Cmd) (dd : Value) (hpb : pb < n) (hB : m pb = some (.cells (b.cells dd) 0 false true)) (x7 x8 x6 : Value) {Q : AX → List Value → FM → Nat → Nat → Prop} (j : Nat) (s : ByteArray) (hj : j < 2)
    (hg : cget [.string a.vol, .string a.oth] j = some (.string s)) (hQt : OneOf s b → ∀ e', Q (.ret (.bool true)) e' m n 0)
    (hQf : ¬ OneOf s b → ∀ x0 x2 x4, Gv (execW PG E Y ac37L0 [x0, .int .i64 ((j + 1 : Nat) : Int), x2, .agg #[.string a.vol, .string a.oth], x4, .pointer (some ⟨pb, 0, none⟩), x6, x7, x8] m n) Q) (x0 x2 x4 : Value) :
    Gv (execW PG E Y ac37L0 [x0, .int .i64 (j : Int), x2, .agg #[.string a.vol, .string a.oth], x4, .pointer (some ⟨pb, 0, none⟩), x6, x7, x8] m n) Q := by
  refine wr_loopN (L := ac37L0) (b := ac37L0b) rfl ?_
  simp only [ac37L0b]
  by_cases h0 : s = ⟨#[]⟩
  · have hn : ¬ OneOf s b := fun h => h.1 h0
    simp (implicitDefEqProofs := false) (disch := omega) only [WPs, opds, List.all_cons, List.all_nil, List.cons_append, List.nil_append, cond_true, cond_false, eq_self, List.map_cons, List.map_nil, Nat.reduceAdd, Nat.testBit, Nat.reduceShiftRight, Nat.reduceAnd, Nat.reduceBNe, Nat.reduceMul, STs, hg, hB, Cmd.cells, decide_eq_true h0, Bool.not_true]
    exact wr_end' ((hQf hn _ _ _).mono fun X e m n w hq => by simpa only [zero_lor'] using hq)
  · by_cases h1 : s = b.vol
    · have hn : OneOf s b := ⟨h0, .inl h1⟩
      simp (implicitDefEqProofs := false) (disch := omega) only [WPs, opds, List.all_cons, List.all_nil, List.cons_append, List.nil_append, cond_true, cond_false, eq_self, List.map_cons, List.map_nil, Nat.reduceAdd, Nat.testBit, Nat.reduceShiftRight, Nat.reduceAnd, Nat.reduceBNe, Nat.reduceMul, STs, hg, hB, Cmd.cells, decide_eq_false h0, decide_eq_true h1, Bool.not_false]
      exact hQt hn _
    · by_cases h2 : s = b.oth
      · have hn : OneOf s b := ⟨h0, .inr h2⟩
        simp (implicitDefEqProofs := false) (disch := omega) only [WPs, opds, List.all_cons, List.all_nil, List.cons_append, List.nil_append, cond_true, cond_false, eq_self, List.map_cons, List.map_nil, Nat.reduceAdd, Nat.testBit, Nat.reduceShiftRight, Nat.reduceAnd, Nat.reduceBNe, Nat.reduceMul, STs, hg, hB, Cmd.cells, decide_eq_false h0, decide_eq_false h1, decide_eq_true h2, Bool.not_false]
        exact hQt hn _
      · have hn : ¬ OneOf s b := fun h => h.2.elim h1 h2
        simp (implicitDefEqProofs := false) (disch := omega) only [WPs, opds, List.all_cons, List.all_nil, List.cons_append, List.nil_append, cond_true, cond_false, eq_self, List.map_cons, List.map_nil, Nat.reduceAdd, Nat.testBit, Nat.reduceShiftRight, Nat.reduceAnd, Nat.reduceBNe, Nat.reduceMul, STs, hg, hB, Cmd.cells, decide_eq_false h0, decide_eq_false h1, decide_eq_false h2, Bool.not_false]
        exact wr_end' ((hQf hn _ _ _).mono fun X e m n w hq => by simpa only [zero_lor'] using hq)
theorem sh_end (m : FM) (n pb : Nat) (a : Cmd) (x6 x7 x8 : Value) {Q : AX → List Value → FM → Nat → Nat → Prop} (hQ : ∀ e', Q (.exit 0) e' m n 0) (x0 x2 x4 : Value) :
    Gv (execW PG E Y ac37L0 [x0, .int .i64 ((1 + 1 : Nat) : Int), x2, .agg #[.string a.vol, .string a.oth], x4, .pointer (some ⟨pb, 0, none⟩), x6, x7, x8] m n) Q := by
  refine wr_loopN (L := ac37L0) (b := ac37L0b) rfl ?_
  simp only [ac37L0b]
  simp (implicitDefEqProofs := false) (disch := omega) only [WPs, opds, List.all_cons, List.all_nil, List.cons_append, List.nil_append, cond_true, cond_false, eq_self, List.map_cons, List.map_nil, Nat.reduceAdd, Nat.testBit, Nat.reduceShiftRight, Nat.reduceAnd, Nat.reduceBNe, Nat.reduceMul]
  exact hQ _
theorem shares_L (m : FM) (n pb : Nat) (a b : Cmd) (dd : Value) (hpb : pb < n) (hB : m pb = some (.cells (b.cells dd) 0 false true)) (x0 x2 x4 x6 x7 x8 : Value) {Q : AX → List Value → FM → Nat → Nat → Prop}
    (hQt : SharesP a b → ∀ e', Q (.ret (.bool true)) e' m n 0) (hQf : ¬ SharesP a b → ∀ e', Q (.exit 0) e' m n 0) :
    Gv (execW PG E Y ac37L0 [x0, .int .i64 0, x2, .agg #[.string a.vol, .string a.oth], x4, .pointer (some ⟨pb, 0, none⟩), x6, x7, x8] m n) Q :=
  sh_round m n pb a b dd hpb hB x7 x8 x6 0 a.vol (by omega) rfl (fun h => hQt (.inl h)) (fun h1 y0 y2 y4 =>
    sh_round m n pb a b dd hpb hB x7 x8 x6 1 a.oth (by omega) rfl (fun h => hQt (.inr h)) (fun h2 z0 z2 z4 =>
      sh_end m n pb a x6 x7 x8 (hQf fun h => h.elim h1 h2) z0 z2 z4) y0 y2 y4) x0 x2 x4
theorem shares_spec (hE : E 37 = some ac37) (m : FM) (n : Nat) (a b : Cmd) (d e : Value) (hd : one d = true) (he : one e = true) :
    Pure (callW PG E Y 37 [cmdV a d, cmdV b e] m n) m n (.bool (sharesB a b)) := by
  refine pure_spec hE rfl rfl ?_
  simp only [ac37, cmdV]
  simp (implicitDefEqProofs := false) (disch := omega) only [WPs, opds, List.all_cons, List.all_nil, List.cons_append, List.nil_append, cond_true, cond_false, eq_self, List.map_cons, List.map_nil, Nat.reduceAdd, Nat.testBit, Nat.reduceShiftRight, Nat.reduceAnd, Nat.reduceBNe, Nat.reduceMul, hd, he, STs]
  refine wr_cps (shares_L _ (n + 2) (n + 1) a b e (by omega) (fput_same _ _ _) _ _ _ _ _ _ (fun h e' r1 => ?_) (fun h e' r1 => ?_))
  · rw [sharesB_t h]
    simp (implicitDefEqProofs := false) (disch := omega) only [WPs, opds, List.all_cons, List.all_nil, List.cons_append, List.nil_append, cond_true, cond_false, eq_self, List.map_cons, List.map_nil, Nat.reduceAdd, Nat.testBit, Nat.reduceShiftRight, Nat.reduceAnd, Nat.reduceBNe, Nat.reduceMul]
  · rw [sharesB_f h]
    simp (implicitDefEqProofs := false) (disch := omega) only [WPs, opds, List.all_cons, List.all_nil, List.cons_append, List.nil_append, cond_true, cond_false, eq_self, List.map_cons, List.map_nil, Nat.reduceAdd, Nat.testBit, Nat.reduceShiftRight, Nat.reduceAnd, Nat.reduceBNe, Nat.reduceMul]
def RangesP (a b : Cmd) : Prop := a.vol = b.vol ∧ a.at_ < b.at_ + b.len ∧ b.at_ < a.at_ + a.len ∧ (a.kind ≠ 1 ∨ b.kind ≠ 1)
def OverP (a b : Cmd) : Prop := ValidP a ∧ ValidP b ∧ (((5 ≤ a.kind ∨ 5 ≤ b.kind) ∧ SharesP a b) ∨ (a.kind ≤ 3 ∧ b.kind ≤ 3 ∧ RangesP a b))
open Classical in
noncomputable def overB (a b : Cmd) : Bool := decide (OverP a b)
open Classical in
theorem overB_t {a b : Cmd} (h : OverP a b) : overB a b = true := by unfold overB; exact decide_eq_true h
open Classical in
theorem overB_f {a b : Cmd} (h : ¬ OverP a b) : overB a b = false := by unfold overB; exact decide_eq_false h
theorem in_small {c : Cmd} (h : InRange c) : 0 ≤ c.at_ ∧ c.at_ ≤ 65536 ∧ 1 ≤ c.len ∧ c.len ≤ 65536 := by
  obtain ⟨hv, hk⟩ := h
  have hk1 := kind_of hv
  rcases (show c.kind = 1 ∨ c.kind = 2 ∨ c.kind = 3 by omega) with k | k | k
  · obtain ⟨_, _, _, _, ⟨h1, h2, h3, h4, h5⟩, _⟩ := ((valid_1 k).1 hv).2
    omega
  · obtain ⟨_, _, ⟨h1, h2, h3, h4, h5⟩, _⟩ := ((valid_2 k).1 hv).2
    omega
  · obtain ⟨_, _, _, ⟨h1, h2, h3, h4, h5⟩⟩ := ((valid_3 k).1 hv).2
    omega
theorem x4_0 (a b c d : Value) : extrV 0 (.tuple #[a, b, c, d]) = some a := rfl
theorem x4_1 (a b c d : Value) : extrV 1 (.tuple #[a, b, c, d]) = some b := rfl
theorem x4_2 (a b c d : Value) : extrV 2 (.tuple #[a, b, c, d]) = some c := rfl
theorem x4_3 (a b c d : Value) : extrV 3 (.tuple #[a, b, c, d]) = some d := rfl
theorem overlap_spec (hE : E 19 = some ac19) (h30 : E 37 = some ac37) (h31 : E 15 = some ac15) (hV : Vals E Y) (m : FM) (n : Nat) (a b : Cmd) (d e : Value) (hF : a.Fit) (hG : b.Fit) (hd : DatV m n d a.data) (he : DatV m n e b.data) :
    Pure (callW PG E Y 19 [cmdV a d, cmdV b e] m n) m n (.bool (overB a b)) := by
  refine pure_spec hE rfl rfl ?_
  simp only [ac19, cmdV]
  simp (implicitDefEqProofs := false) (disch := omega) only [WPs, opds, List.all_cons, List.all_nil, List.cons_append, List.nil_append, cond_true, cond_false, eq_self, List.map_cons, List.map_nil, Nat.reduceAdd, Nat.testBit, Nat.reduceShiftRight, Nat.reduceAnd, Nat.reduceBNe, Nat.reduceMul, hd.one, he.one]
  refine use_pure (hV.v29 _ _ a d hF (hd.frame (by omega) fun b hb => by simp (implicitDefEqProofs := false) (disch := omega) only [WPs, opds, List.all_cons, List.all_nil, List.cons_append, List.nil_append, cond_true, cond_false, eq_self, List.map_cons, List.map_nil, Nat.reduceAdd, Nat.testBit, Nat.reduceShiftRight, Nat.reduceAnd, Nat.reduceBNe, Nat.reduceMul])) fun r1 => ?_
  by_cases va : ValidP a
  case neg =>
    rw [overB_f fun h => va h.1]
    simp (implicitDefEqProofs := false) (disch := omega) only [WPs, opds, List.all_cons, List.all_nil, List.cons_append, List.nil_append, cond_true, cond_false, eq_self, List.map_cons, List.map_nil, Nat.reduceAdd, Nat.testBit, Nat.reduceShiftRight, Nat.reduceAnd, Nat.reduceBNe, Nat.reduceMul, validB_f va, Bool.not_false, hd.one, he.one]
  simp (implicitDefEqProofs := false) (disch := omega) only [WPs, opds, List.all_cons, List.all_nil, List.cons_append, List.nil_append, cond_true, cond_false, eq_self, List.map_cons, List.map_nil, Nat.reduceAdd, Nat.testBit, Nat.reduceShiftRight, Nat.reduceAnd, Nat.reduceBNe, Nat.reduceMul, validB_t va, Bool.not_true, hd.one, he.one]
  refine use_pure (hV.v29 _ _ b e hG (he.frame (by omega) fun b hb => by simp (implicitDefEqProofs := false) (disch := omega) only [WPs, opds, List.all_cons, List.all_nil, List.cons_append, List.nil_append, cond_true, cond_false, eq_self, List.map_cons, List.map_nil, Nat.reduceAdd, Nat.testBit, Nat.reduceShiftRight, Nat.reduceAnd, Nat.reduceBNe, Nat.reduceMul])) fun r2 => ?_
  by_cases vb : ValidP b
  case neg =>
    rw [overB_f fun h => vb h.2.1]
    simp (implicitDefEqProofs := false) (disch := omega) only [WPs, opds, List.all_cons, List.all_nil, List.cons_append, List.nil_append, cond_true, cond_false, eq_self, List.map_cons, List.map_nil, Nat.reduceAdd, Nat.testBit, Nat.reduceShiftRight, Nat.reduceAnd, Nat.reduceBNe, Nat.reduceMul, validB_f vb, Bool.not_false, hd.one, he.one]
  have shr : 5 ≤ a.kind ∨ 5 ≤ b.kind → overB a b = sharesB a b := fun h => by
    by_cases hs : SharesP a b
    · rw [sharesB_t hs, overB_t ⟨va, vb, .inl ⟨h, hs⟩⟩]
    · rw [sharesB_f hs, overB_f fun ho => by
        rcases ho.2.2 with h1 | h1
        · exact hs h1.2
        · have := h1.1; have := h1.2.1; omega]
  by_cases k1 : 5 ≤ a.kind
  · rw [shr (.inl k1)]
    simp (implicitDefEqProofs := false) (disch := omega) only [WPs, opds, List.all_cons, List.all_nil, List.cons_append, List.nil_append, cond_true, cond_false, eq_self, List.map_cons, List.map_nil, Nat.reduceAdd, Nat.testBit, Nat.reduceShiftRight, Nat.reduceAnd, Nat.reduceBNe, Nat.reduceMul, validB_t vb, Bool.not_true, hd.one, he.one]
    refine use_pure (shares_spec h30 _ _ a b d e hd.one he.one) fun r3 => ?_
    simp (implicitDefEqProofs := false) (disch := omega) only [WPs, opds, List.all_cons, List.all_nil, List.cons_append, List.nil_append, cond_true, cond_false, eq_self, List.map_cons, List.map_nil, Nat.reduceAdd, Nat.testBit, Nat.reduceShiftRight, Nat.reduceAnd, Nat.reduceBNe, Nat.reduceMul]
  by_cases k2 : 5 ≤ b.kind
  · rw [shr (.inr k2)]
    simp (implicitDefEqProofs := false) (disch := omega) only [WPs, opds, List.all_cons, List.all_nil, List.cons_append, List.nil_append, cond_true, cond_false, eq_self, List.map_cons, List.map_nil, Nat.reduceAdd, Nat.testBit, Nat.reduceShiftRight, Nat.reduceAnd, Nat.reduceBNe, Nat.reduceMul, validB_t vb, Bool.not_true, hd.one, he.one]
    refine use_pure (shares_spec h30 _ _ a b d e hd.one he.one) fun r3 => ?_
    simp (implicitDefEqProofs := false) (disch := omega) only [WPs, opds, List.all_cons, List.all_nil, List.cons_append, List.nil_append, cond_true, cond_false, eq_self, List.map_cons, List.map_nil, Nat.reduceAdd, Nat.testBit, Nat.reduceShiftRight, Nat.reduceAnd, Nat.reduceBNe, Nat.reduceMul]
  simp (implicitDefEqProofs := false) (disch := omega) only [WPs, opds, List.all_cons, List.all_nil, List.cons_append, List.nil_append, cond_true, cond_false, eq_self, List.map_cons, List.map_nil, Nat.reduceAdd, Nat.testBit, Nat.reduceShiftRight, Nat.reduceAnd, Nat.reduceBNe, Nat.reduceMul, validB_t vb, Bool.not_true, hd.one, he.one]
  by_cases ra : a.kind ≤ 3
  case neg =>
    rw [overB_f fun h => by
      rcases h.2.2 with h1 | h1
      · omega
      · have := h1.1; omega]
    refine use_pure (range_out h31 hV _ _ a d hF (hd.frame (by omega) fun b hb => by simp (implicitDefEqProofs := false) (disch := omega) only [WPs, opds, List.all_cons, List.all_nil, List.cons_append, List.nil_append, cond_true, cond_false, eq_self, List.map_cons, List.map_nil, Nat.reduceAdd, Nat.testBit, Nat.reduceShiftRight, Nat.reduceAnd, Nat.reduceBNe, Nat.reduceMul]) fun h => ra h.2) fun r3 => ?_
    simp (implicitDefEqProofs := false) (disch := omega) only [WPs, opds, List.all_cons, List.all_nil, List.cons_append, List.nil_append, cond_true, cond_false, eq_self, List.map_cons, List.map_nil, Nat.reduceAdd, Nat.testBit, Nat.reduceShiftRight, Nat.reduceAnd, Nat.reduceBNe, Nat.reduceMul, x4_0, x4_1, x4_2, x4_3, hd.one, he.one]
    by_cases rb : b.kind ≤ 3
    · refine use_pure (range_in h31 hV _ _ b e hG (he.frame (by omega) fun b hb => by simp (implicitDefEqProofs := false) (disch := omega) only [WPs, opds, List.all_cons, List.all_nil, List.cons_append, List.nil_append, cond_true, cond_false, eq_self, List.map_cons, List.map_nil, Nat.reduceAdd, Nat.testBit, Nat.reduceShiftRight, Nat.reduceAnd, Nat.reduceBNe, Nat.reduceMul]) ⟨vb, rb⟩) fun r4 => ?_
      simp (implicitDefEqProofs := false) (disch := omega) only [WPs, opds, List.all_cons, List.all_nil, List.cons_append, List.nil_append, cond_true, cond_false, eq_self, List.map_cons, List.map_nil, Nat.reduceAdd, Nat.testBit, Nat.reduceShiftRight, Nat.reduceAnd, Nat.reduceBNe, Nat.reduceMul, x4_0, x4_1, x4_2, x4_3, hd.one, he.one]
    · refine use_pure (range_out h31 hV _ _ b e hG (he.frame (by omega) fun b hb => by simp (implicitDefEqProofs := false) (disch := omega) only [WPs, opds, List.all_cons, List.all_nil, List.cons_append, List.nil_append, cond_true, cond_false, eq_self, List.map_cons, List.map_nil, Nat.reduceAdd, Nat.testBit, Nat.reduceShiftRight, Nat.reduceAnd, Nat.reduceBNe, Nat.reduceMul]) fun h => rb h.2) fun r4 => ?_
      simp (implicitDefEqProofs := false) (disch := omega) only [WPs, opds, List.all_cons, List.all_nil, List.cons_append, List.nil_append, cond_true, cond_false, eq_self, List.map_cons, List.map_nil, Nat.reduceAdd, Nat.testBit, Nat.reduceShiftRight, Nat.reduceAnd, Nat.reduceBNe, Nat.reduceMul, x4_0, x4_1, x4_2, x4_3, hd.one, he.one]
  refine use_pure (range_in h31 hV _ _ a d hF (hd.frame (by omega) fun b hb => by simp (implicitDefEqProofs := false) (disch := omega) only [WPs, opds, List.all_cons, List.all_nil, List.cons_append, List.nil_append, cond_true, cond_false, eq_self, List.map_cons, List.map_nil, Nat.reduceAdd, Nat.testBit, Nat.reduceShiftRight, Nat.reduceAnd, Nat.reduceBNe, Nat.reduceMul]) ⟨va, ra⟩) fun r3 => ?_
  simp (implicitDefEqProofs := false) (disch := omega) only [WPs, opds, List.all_cons, List.all_nil, List.cons_append, List.nil_append, cond_true, cond_false, eq_self, List.map_cons, List.map_nil, Nat.reduceAdd, Nat.testBit, Nat.reduceShiftRight, Nat.reduceAnd, Nat.reduceBNe, Nat.reduceMul, x4_0, x4_1, x4_2, x4_3, hd.one, he.one]
  by_cases rb : b.kind ≤ 3
  case neg =>
    rw [overB_f fun h => by
      rcases h.2.2 with h1 | h1
      · omega
      · have := h1.2.1; omega]
    refine use_pure (range_out h31 hV _ _ b e hG (he.frame (by omega) fun b hb => by simp (implicitDefEqProofs := false) (disch := omega) only [WPs, opds, List.all_cons, List.all_nil, List.cons_append, List.nil_append, cond_true, cond_false, eq_self, List.map_cons, List.map_nil, Nat.reduceAdd, Nat.testBit, Nat.reduceShiftRight, Nat.reduceAnd, Nat.reduceBNe, Nat.reduceMul]) fun h => rb h.2) fun r4 => ?_
    simp (implicitDefEqProofs := false) (disch := omega) only [WPs, opds, List.all_cons, List.all_nil, List.cons_append, List.nil_append, cond_true, cond_false, eq_self, List.map_cons, List.map_nil, Nat.reduceAdd, Nat.testBit, Nat.reduceShiftRight, Nat.reduceAnd, Nat.reduceBNe, Nat.reduceMul, x4_0, x4_1, x4_2, x4_3, hd.one, he.one]
  refine use_pure (range_in h31 hV _ _ b e hG (he.frame (by omega) fun b hb => by simp (implicitDefEqProofs := false) (disch := omega) only [WPs, opds, List.all_cons, List.all_nil, List.cons_append, List.nil_append, cond_true, cond_false, eq_self, List.map_cons, List.map_nil, Nat.reduceAdd, Nat.testBit, Nat.reduceShiftRight, Nat.reduceAnd, Nat.reduceBNe, Nat.reduceMul]) ⟨vb, rb⟩) fun r4 => ?_
  have sa := in_small ⟨va, ra⟩
  have sb := in_small ⟨vb, rb⟩
  have no : ¬ RangesP a b → overB a b = false := fun hn => overB_f fun h => by
    rcases h.2.2 with h1 | h1
    · omega
    · exact hn h1.2.2
  by_cases c1 : a.vol = b.vol
  case neg =>
    rw [no fun h => c1 h.1]
    simp (implicitDefEqProofs := false) (disch := omega) only [WPs, opds, List.all_cons, List.all_nil, List.cons_append, List.nil_append, cond_true, cond_false, eq_self, List.map_cons, List.map_nil, Nat.reduceAdd, Nat.testBit, Nat.reduceShiftRight, Nat.reduceAnd, Nat.reduceBNe, Nat.reduceMul, x4_0, x4_1, x4_2, x4_3, hd.one, he.one, STs, decide_eq_false c1]
  by_cases c2 : a.at_ < b.at_ + b.len
  case neg =>
    rw [no fun h => c2 h.2.1]
    simp (implicitDefEqProofs := false) (disch := omega) only [WPs, opds, List.all_cons, List.all_nil, List.cons_append, List.nil_append, cond_true, cond_false, eq_self, List.map_cons, List.map_nil, Nat.reduceAdd, Nat.testBit, Nat.reduceShiftRight, Nat.reduceAnd, Nat.reduceBNe, Nat.reduceMul, x4_0, x4_1, x4_2, x4_3, hd.one, he.one, STs, decide_eq_true c1]
  by_cases c3 : b.at_ < a.at_ + a.len
  case neg =>
    rw [no fun h => c3 h.2.2.1]
    simp (implicitDefEqProofs := false) (disch := omega) only [WPs, opds, List.all_cons, List.all_nil, List.cons_append, List.nil_append, cond_true, cond_false, eq_self, List.map_cons, List.map_nil, Nat.reduceAdd, Nat.testBit, Nat.reduceShiftRight, Nat.reduceAnd, Nat.reduceBNe, Nat.reduceMul, x4_0, x4_1, x4_2, x4_3, hd.one, he.one, STs, decide_eq_true c1]
  by_cases c4 : a.kind = 1
  case neg =>
    rw [overB_t ⟨va, vb, .inr ⟨ra, rb, c1, c2, c3, .inl c4⟩⟩]
    simp (implicitDefEqProofs := false) (disch := omega) only [WPs, opds, List.all_cons, List.all_nil, List.cons_append, List.nil_append, cond_true, cond_false, eq_self, List.map_cons, List.map_nil, Nat.reduceAdd, Nat.testBit, Nat.reduceShiftRight, Nat.reduceAnd, Nat.reduceBNe, Nat.reduceMul, x4_0, x4_1, x4_2, x4_3, hd.one, he.one, STs, decide_eq_true c1]
  by_cases c5 : b.kind = 1
  case neg =>
    rw [overB_t ⟨va, vb, .inr ⟨ra, rb, c1, c2, c3, .inr c5⟩⟩]
    simp (implicitDefEqProofs := false) (disch := omega) only [WPs, opds, List.all_cons, List.all_nil, List.cons_append, List.nil_append, cond_true, cond_false, eq_self, List.map_cons, List.map_nil, Nat.reduceAdd, Nat.testBit, Nat.reduceShiftRight, Nat.reduceAnd, Nat.reduceBNe, Nat.reduceMul, x4_0, x4_1, x4_2, x4_3, hd.one, he.one, STs, decide_eq_true c1]
  rw [no fun h => h.2.2.2.elim (fun h => h c4) fun h => h c5]
  simp (implicitDefEqProofs := false) (disch := omega) only [WPs, opds, List.all_cons, List.all_nil, List.cons_append, List.nil_append, cond_true, cond_false, eq_self, List.map_cons, List.map_nil, Nat.reduceAdd, Nat.testBit, Nat.reduceShiftRight, Nat.reduceAnd, Nat.reduceBNe, Nat.reduceMul, x4_0, x4_1, x4_2, x4_3, hd.one, he.one, STs, decide_eq_true c1]
end Go.Am.C39
namespace Go.Am.C39
open Go Go.Am Go.Am.V
set_option maxRecDepth 1000000
def itoaB (n : Int) : ByteArray := ⟨(Lib.itoa n).toArray⟩
theorem inI64_of {z : Int} (h0 : -9223372036854775808 ≤ z) (h1 : z ≤ 9223372036854775807) : inI64 z = true := by
  cases z with
  | ofNat a =>
    have h1 : (a : Int) ≤ 9223372036854775807 := h1
    exact Nat.ble_eq_true_of_le (show a + 1 ≤ 9223372036854775808 by omega)
  | negSucc a => exact Nat.ble_eq_true_of_le (show a + 1 ≤ 9223372036854775808 by omega)
theorem y_itoa (m : FM) (n : Nat) {z : Int} (h0 : -9223372036854775808 ≤ z) (h1 : z ≤ 9223372036854775807) : Y39 29 [.int .i64 z] m n = .ok (.string (itoaB z)) m n 0 0 := by
  have h : pfnA pItoa 29 [.int .i64 z] m n = .ok (.string (itoaB z)) m n 0 0 := by
    show Option.rec (motive := fun _ => OR FM) .no (fun v => .ok v m n 0 0) (cond (inI64 z) (some (Value.string ⟨(Lib.itoa z).toArray⟩)) none) = _
    rw [inI64_of h0 h1]; rfl
  show altA (pfnA pItoa) _ 29 _ m n = _
  unfold altA
  rw [h]
theorem y_cut (m : FM) (n : Nat) {s sep : ByteArray} (hs : s.size < 4294967281) : Y39 23 [.string s, .string sep] m n = .ok (.tuple #[.string ⟨(Lib.cut s.data.toList sep.data.toList).1.toArray⟩, .string ⟨(Lib.cut s.data.toList sep.data.toList).2.1.toArray⟩, .bool (Lib.cut s.data.toList sep.data.toList).2.2]) m n 0 0 := by
  have h : pfnA pCut 23 [.string s, .string sep] m n = .ok (.tuple #[.string ⟨(Lib.cut s.data.toList sep.data.toList).1.toArray⟩, .string ⟨(Lib.cut s.data.toList sep.data.toList).2.1.toArray⟩, .bool (Lib.cut s.data.toList sep.data.toList).2.2]) m n 0 0 := by
    show Option.rec (motive := fun _ => OR FM) .no (fun v => .ok v m n 0 0) (cond (Nat.blt s.size 4294967281) _ none) = _
    rw [show Nat.blt s.size 4294967281 = true from Nat.ble_eq_true_of_le hs]; rfl
  show altA (pfnA pItoa) (altA (pfnA pCut) _) 23 _ m n = _
  unfold altA
  rw [show pfnA pItoa 23 [.string s, .string sep] m n = .no from rfl, h]
theorem y_atoi (m : FM) (n : Nat) {s : ByteArray} (hs : s.size < 4294967281) : Y39 40 [.string s] m n = .ok (atoiR s.data.toList) m n 0 0 := by
  have h : atoiA 40 40 [.string s] m n = .ok (atoiR s.data.toList) m n 0 0 := by
    show cond (Nat.blt s.size 4294967281) (OR.ok (atoiR s.data.toList) m n 0 0) OR.no = _
    rw [show Nat.blt s.size 4294967281 = true from Nat.ble_eq_true_of_le hs]; rfl
  show altA (pfnA pItoa) (altA (pfnA pCut) (altA (atoiA 40) _)) 40 _ m n = _
  unfold altA
  rw [show pfnA pItoa 40 [.string s] m n = .no from rfl, show pfnA pCut 40 [.string s] m n = .no from rfl, h]
theorem y_split (m : FM) (n : Nat) {s sep : ByteArray} (hs : s.size < 4294967281) (h1 : 1 ≤ sep.size) (h2 : Lib.countB s sep < 4294967281) : Y39 42 [.string s, .string sep] m n = .ok (.slice (some ⟨n, 0, none⟩) (Lib.countB s sep + 1) (Lib.countB s sep + 1)) (AMem.put m n (some (.cells ((splitL s sep).map Value.string) 1 false true))) (n + 1) 0 (bit n) := by
  have h : splitA 42 42 [.string s, .string sep] m n = .ok (.slice (some ⟨n, 0, none⟩) (Lib.countB s sep + 1) (Lib.countB s sep + 1)) (AMem.put m n (some (.cells ((splitL s sep).map Value.string) 1 false true))) (n + 1) 0 (bit n) := by
    show cond (Nat.blt s.size 4294967281 && Nat.ble 1 sep.size && Nat.blt (Lib.countB s sep) 4294967281) _ _ = _
    rw [show Nat.blt s.size 4294967281 = true from Nat.ble_eq_true_of_le hs, show Nat.ble 1 sep.size = true from Nat.ble_eq_true_of_le h1, show Nat.blt (Lib.countB s sep) 4294967281 = true from Nat.ble_eq_true_of_le h2]; rfl
  show altA (pfnA pItoa) (altA (pfnA pCut) (altA (atoiA 40) (altA (splitA 42) (altA (joinA 31) puA)))) 42 _ m n = _
  unfold altA
  rw [show pfnA pItoa 42 [.string s, .string sep] m n = .no from rfl, show pfnA pCut 42 [.string s, .string sep] m n = .no from rfl, show atoiA 40 42 [.string s, .string sep] m n = .no from rfl, h]
theorem strsOf_map : ∀ xs : List ByteArray, strsOf (xs.map Value.string) = some xs
  | [] => rfl
  | x :: xs => by
    show (strsOf (xs.map Value.string)).map (x :: ·) = _
    rw [strsOf_map xs]; rfl
theorem y_join (m : FM) (n b c : Nat) (opn wr : Bool) (xs : List ByteArray) (sep : ByteArray) (hb : b < n) (hm : m b = some (.cells (xs.map Value.string) 1 opn wr)) (h0 : 0 < xs.length) (h1 : xs.length < 140737488355328) (h2 : (joinS xs sep).size ≤ 140737488355328) : Y39 31 [.slice (some ⟨b, 0, none⟩) xs.length c, .string sep] m n = .ok (.string (joinS xs sep)) m n (bit b) 0 := by
  have h : joinA 31 31 [.slice (some ⟨b, 0, none⟩) xs.length c, .string sep] m n = .ok (.string (joinS xs sep)) m n (bit b) 0 := by
    show (match getb m n b with
      | some (.cells cs sz opn wr) => match (ctake (ldrop cs 0) xs.length).bind strsOf with
        | some ys => cond (Nat.blt 0 xs.length && Nat.blt xs.length 140737488355328 && Nat.ble (joinS ys sep).size 140737488355328 && Nat.beq sz 1) (OR.ok (Value.string (joinS ys sep)) m n (bit b) 0) .no
        | none => .no
      | _ => .no) = _
    rw [getb_lt hb, hm]
    show (match (ctake (ldrop (xs.map Value.string) 0) xs.length).bind strsOf with
        | some ys => cond (Nat.blt 0 xs.length && Nat.blt xs.length 140737488355328 && Nat.ble (joinS ys sep).size 140737488355328 && Nat.beq 1 1) (OR.ok (Value.string (joinS ys sep)) m n (bit b) 0) .no
        | none => .no) = _
    rw [ldrop_z, cells_all (List.length_map ..).symm]
    show (match strsOf (xs.map Value.string) with
        | some ys => cond (Nat.blt 0 xs.length && Nat.blt xs.length 140737488355328 && Nat.ble (joinS ys sep).size 140737488355328 && Nat.beq 1 1) (OR.ok (Value.string (joinS ys sep)) m n (bit b) 0) .no
        | none => .no) = _
    rw [strsOf_map]
    show cond (Nat.blt 0 xs.length && Nat.blt xs.length 140737488355328 && Nat.ble (joinS xs sep).size 140737488355328 && true) _ _ = _
    rw [show Nat.blt 0 xs.length = true from Nat.ble_eq_true_of_le h0, show Nat.blt xs.length 140737488355328 = true from Nat.ble_eq_true_of_le h1, show Nat.ble (joinS xs sep).size 140737488355328 = true from Nat.ble_eq_true_of_le h2]; rfl
  show altA (pfnA pItoa) (altA (pfnA pCut) (altA (atoiA 40) (altA (splitA 42) (altA (joinA 31) puA)))) 31 [.slice (some ⟨b, 0, none⟩) xs.length c, .string sep] m n = .ok (.string (joinS xs sep)) m n (bit b) 0
  unfold altA
  rw [show pfnA pItoa 31 [.slice (some ⟨b, 0, none⟩) xs.length c, .string sep] m n = .no from rfl, show pfnA pCut 31 [.slice (some ⟨b, 0, none⟩) xs.length c, .string sep] m n = .no from rfl, show atoiA 40 31 [.slice (some ⟨b, 0, none⟩) xs.length c, .string sep] m n = .no from rfl, show splitA 42 31 [.slice (some ⟨b, 0, none⟩) xs.length c, .string sep] m n = .no from rfl, h]
theorem y_pu (m : FM) (n : Nat) {s : ByteArray} (hs : s.size = 2) : Y39 41 [.string s, .int .i64 16, .int .i64 8] m n = .ok (puR s.data.toList) m n 0 0 := by
  have h : puA 41 [.string s, .int .i64 16, .int .i64 8] m n = .ok (puR s.data.toList) m n 0 0 := by
    show cond (Nat.beq s.size 2) (OR.ok (puR s.data.toList) m n 0 0) OR.no = _
    rw [hs]; rfl
  have e : Y39 = altA (pfnA pItoa) (altA (pfnA pCut) (altA (atoiA 40) (altA (splitA 42) (altA (joinA 31) puA)))) := rfl
  rw [e]
  unfold altA
  rw [show pfnA pItoa 41 [.string s, .int .i64 16, .int .i64 8] m n = .no from rfl, show pfnA pCut 41 [.string s, .int .i64 16, .int .i64 8] m n = .no from rfl, show atoiA 40 41 [.string s, .int .i64 16, .int .i64 8] m n = .no from rfl, show splitA 42 41 [.string s, .int .i64 16, .int .i64 8] m n = .no from rfl, show joinA 31 41 [.string s, .int .i64 16, .int .i64 8] m n = .no from rfl]
  exact h
end Go.Am.C39
namespace Go.Am.C39
open Go Go.Am Go.Am.V Go.Am.Fast
set_option maxRecDepth 1000000
noncomputable def fL {α : Type} (l : List UInt8) : (List UInt8 → α) → α := List.rec (motive := fun _ => (List UInt8 → α) → α) (fun k => k []) (fun a _ ih k => ih fun l => k (a :: l)) l
theorem fL_eq {α : Type} (l : List UInt8) (k : List UInt8 → α) : fL l k = k l := by
  induction l generalizing k with
  | nil => rfl
  | cons a l ih => show fL l (fun l => k (a :: l)) = _; rw [ih]
noncomputable def fStr {α : Type} (s : ByteArray) (k : ByteArray → α) : α := fL s.data.toList fun l => k ⟨⟨l⟩⟩
theorem fStr_eq {α : Type} (s : ByteArray) (k : ByteArray → α) : fStr s k = k s := by
  unfold fStr; rw [fL_eq]
noncomputable def fStrs {α : Type} (l : List ByteArray) : (List ByteArray → α) → α := List.rec (motive := fun _ => (List ByteArray → α) → α) (fun k => k []) (fun a _ ih k => fStr a fun a => ih fun l => k (a :: l)) l
theorem fStrs_eq {α : Type} (l : List ByteArray) (k : List ByteArray → α) : fStrs l k = k l := by
  induction l generalizing k with
  | nil => rfl
  | cons a l ih => show fStr a (fun a => fStrs l fun l => k (a :: l)) = _; rw [fStr_eq, ih]
def itoaT : Int → Option ByteArray
  | .ofNat a => cond (Nat.blt a 10) (some ⟨#[UInt8.ofNat (48 + a)]⟩) (cond (Nat.blt a 100) (some ⟨#[UInt8.ofNat (48 + a / 10), UInt8.ofNat (48 + a % 10)]⟩) none)
  | .negSucc _ => none
theorem itoaT_eq {z : Int} {b : ByteArray} (h : itoaT z = some b) : itoaB z = b ∧ 0 ≤ z ∧ z ≤ 99 := by
  cases z with
  | negSucc a => cases h
  | ofNat a =>
    replace h : cond (Nat.blt a 10) (some (⟨#[UInt8.ofNat (48 + a)]⟩ : ByteArray)) (cond (Nat.blt a 100) (some ⟨#[UInt8.ofNat (48 + a / 10), UInt8.ofNat (48 + a % 10)]⟩) none) = some b := h
    cases h1 : Nat.blt a 10
    · rw [h1, cond_false] at h
      have k1 : ¬ a < 10 := fun hh => by rw [show Nat.blt a 10 = true from Nat.ble_eq_true_of_le hh] at h1; cases h1
      cases h2 : Nat.blt a 100
      · rw [h2, cond_false] at h; cases h
      · have k2 : a < 100 := Nat.le_of_ble_eq_true h2
        rw [h2, cond_true] at h
        injection h with h
        refine ⟨?_, by show (0 : Int) ≤ (a : Int); omega, by show (a : Int) ≤ 99; omega⟩
        rw [← h]
        show (⟨(Lib.itoa (a : Int)).toArray⟩ : ByteArray) = _
        rw [Lib.itoa_nonneg, Lib.decDigits_two k1 k2]
    · have k1 : a < 10 := Nat.le_of_ble_eq_true h1
      rw [h1, cond_true] at h
      injection h with h
      refine ⟨?_, by show (0 : Int) ≤ (a : Int); omega, by show (a : Int) ≤ 99; omega⟩
      rw [← h]
      show (⟨(Lib.itoa (a : Int)).toArray⟩ : ByteArray) = _
      rw [Lib.itoa_nonneg, Lib.decDigits_one k1]
noncomputable def fcs : List FV → Option (List ByteArray)
  | [] => some []
  | .o (.string x) :: r => (fcs r).map (x :: ·)
  | _ => none
theorem fcs_eq : ∀ {c : List FV} {xs : List ByteArray}, fcs c = some xs → c.map toV = xs.map Value.string
  | [], xs, h => by injection h with h; subst h; rfl
  | v :: r, xs, h => by
    unfold fcs at h
    split at h
    · rename_i he; cases he
    · rename_i x r' he
      injection he with e1 e2
      subst e1
      rw [e2]
      cases hr : fcs r' with
      | none => rw [hr] at h; cases h
      | some ys =>
        rw [hr] at h
        injection h with h
        subst h
        rw [List.map_cons, List.map_cons, fcs_eq hr]; rfl
    · cases h
noncomputable def gF29 : List FV → FR
  | [.i z] => match itoaT z with
    | some b => fStr b fun b => .pv (.o (.string b))
    | none => .no
  | _ => .no
noncomputable def gF23 : List FV → FR
  | [.o (.string s), .o (.string sep)] => cond (Nat.blt s.size 4294967281) (fStr ⟨(Lib.cut s.data.toList sep.data.toList).1.toArray⟩ fun a => fStr ⟨(Lib.cut s.data.toList sep.data.toList).2.1.toArray⟩ fun b => fB (fun t => .pv (.o (.tuple #[.string a, .string b, .bool t]))) (Lib.cut s.data.toList sep.data.toList).2.2) .no
  | _ => .no
noncomputable def gF40 : List FV → FR
  | [.o (.string s)] => cond (Nat.blt s.size 4294967281) (match Lib.atoiAll s.data.toList with
    | .ok v => fI (fun v => .pv (.o (.tuple #[.int .i64 v, .nilIface]))) v
    | _ => .no) .no
  | _ => .no
noncomputable def gF42 (m : FTr) (n : Nat) : List FV → FR
  | [.o (.string s), .o (.string sep)] => cond (Nat.blt s.size 4294967281 && Nat.ble 1 sep.size && Nat.blt (Lib.countB s sep) 4294967281) (fN (fun k => fStrs (splitL s sep) fun l => fnew m n ⟨l.map fun x => .o (.string x), 1, false, true⟩ fun n => .s n 0 k k) (Lib.countB s sep + 1)) .no
  | _ => .no
noncomputable def gF31 (m : FTr) (n : Nat) : List FV → FR
  | [.s b o l c, .o (.string sep)] => match gb m n b with
    | some ⟨cs, sz, opn, wr⟩ => match fcs cs with
      | some xs => cond (Nat.beq o 0 && Nat.beq sz 1 && Nat.beq xs.length l && Nat.blt 0 xs.length && Nat.blt xs.length 140737488355328 && Nat.ble (joinS xs sep).size 140737488355328) (fStr (joinS xs sep) fun r => .rd (.o (.string r)) b) .no
      | none => .no
    | none => .no
  | _ => .no
noncomputable def gF41 : List FV → FR
  | [.o (.string s), .i 16, .i 8] => cond (Nat.beq s.size 2) (match hexP 0 s.data.toList with
    | some u => fN (fun u => .pv (.o (.tuple #[.int .u64 (u : Int), .nilIface]))) u
    | none => .no) .no
  | _ => .no
noncomputable def Yf39 : FCal := fun f args m n =>
  cond (Nat.beq f 29) (gF29 args) (cond (Nat.beq f 23) (gF23 args) (cond (Nat.beq f 40) (gF40 args) (cond (Nat.beq f 42) (gF42 m n args) (cond (Nat.beq f 31) (gF31 m n args) (cond (Nat.beq f 41) (gF41 args) .no)))))
theorem s29 (args : List FV) (m : FTr) (n : Nat) : FSim m n (gF29 args) (Y39 29 (args.map toV) (absM m n) n) := by
  unfold gF29
  split
  · rename_i z
    cases h : itoaT z with
    | none => exact trivial
    | some b =>
      obtain ⟨e, h0, h1⟩ := itoaT_eq h
      simp only
      rw [fStr_eq]
      show Y39 29 [.int .i64 z] _ _ = .ok (.string b) _ _ 0 0
      rw [y_itoa _ _ (by omega) (by omega), e]
  · exact trivial
theorem s23 (args : List FV) (m : FTr) (n : Nat) : FSim m n (gF23 args) (Y39 23 (args.map toV) (absM m n) n) := by
  unfold gF23
  split
  · rename_i s sep
    cases h : Nat.blt s.size 4294967281
    · exact trivial
    · rw [cond_true, fStr_eq, fStr_eq]
      have hb : ∀ (k : Bool → FR) (t : Bool), fB k t = k t := fun k t => by cases t <;> rfl
      rw [hb]
      exact y_cut _ _ (Nat.le_of_ble_eq_true h)
  · exact trivial
theorem s40 (args : List FV) (m : FTr) (n : Nat) : FSim m n (gF40 args) (Y39 40 (args.map toV) (absM m n) n) := by
  unfold gF40
  split
  · rename_i s
    cases h : Nat.blt s.size 4294967281
    · exact trivial
    · rw [cond_true]
      have hy := y_atoi (absM m n) n (Nat.le_of_ble_eq_true h)
      cases ha : Lib.atoiAll s.data.toList with
      | ok v =>
        simp only
        rw [fI_eq]
        unfold atoiR at hy
        rw [ha] at hy
        exact hy
      | _ => exact trivial
  · exact trivial
theorem s42 (args : List FV) (m : FTr) (n : Nat) : FSim m n (gF42 m n args) (Y39 42 (args.map toV) (absM m n) n) := by
  unfold gF42
  split
  · rename_i s sep
    cases h1 : Nat.blt s.size 4294967281
    · exact trivial
    cases h2 : Nat.ble 1 sep.size
    · exact trivial
    cases h3 : Nat.blt (Lib.countB s sep) 4294967281
    · exact trivial
    rw [Bool.and_self, Bool.and_self, cond_true, fN_eq, fStrs_eq]
    have hy := y_split (absM m n) n (Nat.le_of_ble_eq_true h1) (Nat.le_of_ble_eq_true h2) (Nat.le_of_ble_eq_true h3)
    show FSim m n _ (Y39 42 [.string s, .string sep] (absM m n) n)
    rw [hy]
    refine fnew_sim ?_ fun n => rfl
    show Blk.cells (((splitL s sep).map fun x => FV.o (.string x)).map toV) 1 false true = _
    rw [List.map_map]; rfl
  · exact trivial
theorem s31 (args : List FV) (m : FTr) (n : Nat) : FSim m n (gF31 m n args) (Y39 31 (args.map toV) (absM m n) n) := by
  unfold gF31
  split
  · rename_i b o l c sep
    cases hg : gb m n b with
    | none => exact trivial
    | some x =>
      obtain ⟨cs, sz, opn, wr⟩ := x
      simp only
      cases hc : fcs cs with
      | none => exact trivial
      | some xs =>
        simp only
        cases h1 : Nat.beq o 0
        · exact trivial
        cases h2 : Nat.beq sz 1
        · exact trivial
        cases h3 : Nat.beq xs.length l
        · exact trivial
        cases h4 : Nat.blt 0 xs.length
        · exact trivial
        cases h5 : Nat.blt xs.length 140737488355328
        · exact trivial
        cases h6 : Nat.ble (joinS xs sep).size 140737488355328
        · exact trivial
        rw [Bool.and_self, Bool.and_self, Bool.and_self, Bool.and_self, Bool.and_self, cond_true, fStr_eq]
        obtain rfl := Nat.eq_of_beq_eq_true h1
        obtain rfl := Nat.eq_of_beq_eq_true h2
        obtain rfl := Nat.eq_of_beq_eq_true h3
        refine y_join (absM m n) n b c opn wr xs sep (gb_lt hg) ?_ (Nat.le_of_ble_eq_true h4) (Nat.le_of_ble_eq_true h5) (Nat.le_of_ble_eq_true h6)
        unfold absM
        rw [hg]
        show some (Blk.cells (cs.map toV) 1 opn wr) = _
        rw [fcs_eq hc]
  · exact trivial
theorem s41 (args : List FV) (m : FTr) (n : Nat) : FSim m n (gF41 args) (Y39 41 (args.map toV) (absM m n) n) := by
  unfold gF41
  split
  · rename_i s
    cases h : Nat.beq s.size 2
    · exact trivial
    · rw [cond_true]
      have hy := y_pu (absM m n) n (Nat.eq_of_beq_eq_true h)
      cases ha : hexP 0 s.data.toList with
      | some u =>
        simp only
        rw [fN_eq]
        unfold puR at hy
        rw [ha] at hy
        exact hy
      | none => exact trivial
  · exact trivial
theorem y39_fast : CalSim Yf39 Y39 := by
  intro f args m n
  unfold Yf39
  cases h1 : Nat.beq f 29
  · cases h2 : Nat.beq f 23
    · cases h3 : Nat.beq f 40
      · cases h4 : Nat.beq f 42
        · cases h5 : Nat.beq f 31
          · cases h6 : Nat.beq f 41
            · exact trivial
            · obtain rfl := Nat.eq_of_beq_eq_true h6
              exact s41 args m n
          · obtain rfl := Nat.eq_of_beq_eq_true h5
            exact s31 args m n
        · obtain rfl := Nat.eq_of_beq_eq_true h4
          exact s42 args m n
      · obtain rfl := Nat.eq_of_beq_eq_true h3
        exact s40 args m n
    · obtain rfl := Nat.eq_of_beq_eq_true h2
      exact s23 args m n
  · obtain rfl := Nat.eq_of_beq_eq_true h1
    exact s29 args m n
theorem apart39 {tab : List (Nat × AFn)} (n29 : look tab 29 = none) (n23 : look tab 23 = none) (n40 : look tab 40 = none) (n42 : look tab 42 = none) (n31 : look tab 31 = none) (n41 : look tab 41 = none) : V.Apart tab Y39 := by
  refine pfns_apart (apart_alt (fun f fn h args m n => ?_) (apart_alt (fun f fn h args m n => ?_) (apart_alt (fun f fn h args m n => ?_) (fun f fn h args m n => ?_)))) fun p hp => ?_
  · have hf : f ≠ 40 := fun e => by subst e; rw [n40] at h; cases h
    unfold atoiA
    rw [show Nat.beq f 40 = false from Bool.eq_false_iff.2 fun e => hf (Nat.eq_of_beq_eq_true e)]; rfl
  · have hf : f ≠ 42 := fun e => by subst e; rw [n42] at h; cases h
    unfold splitA
    rw [show Nat.beq f 42 = false from Bool.eq_false_iff.2 fun e => hf (Nat.eq_of_beq_eq_true e)]; rfl
  · have hf : f ≠ 31 := fun e => by subst e; rw [n31] at h; cases h
    unfold joinA
    rw [show Nat.beq f 31 = false from Bool.eq_false_iff.2 fun e => hf (Nat.eq_of_beq_eq_true e)]; rfl
  · have hf : f ≠ 41 := fun e => by subst e; rw [n41] at h; cases h
    unfold puA
    rw [show Nat.beq f 41 = false from Bool.eq_false_iff.2 fun e => hf (Nat.eq_of_beq_eq_true e)]; rfl
  · simp only [List.mem_cons, List.not_mem_nil, or_false] at hp
    rcases hp with rfl | rfl
    · exact n29
    · exact n23
theorem env39 : Env Proofs.Tryd.prog tab Y39 Yf39 where
  mix := mix
  good := good
  small := by kernel_rfl
  loc := y39_loc
  sim := y39_sim
  fast := y39_fast
  apart := apart39 (by kernel_rfl) (by kernel_rfl) (by kernel_rfl) (by kernel_rfl) (by kernel_rfl) (by kernel_rfl)
end Go.Am.C39
namespace Go.Am.C39
open Go Go.Am Go.Am.V Go.RowKit
set_option maxRecDepth 1000000
theorem agg_same {ρ : Ren} {cs : Array Value} {y : Value} (hf : cs.toList.all flat = true) (h : VRel ρ (.agg cs) y) : y = .agg cs := by
  cases h with
  | flat h => rfl
  | agg h1 h2 =>
    rename_i cs'
    have e : cs' = cs := by
      apply Array.ext (by omega)
      intro i hi hj
      have hx : cs[i]? = some cs[i] := Array.getElem?_eq_getElem hj
      have hy : cs'[i]? = some cs'[i] := Array.getElem?_eq_getElem hi
      have hfl : flat cs[i] = true := List.all_eq_true.1 hf _ (by rw [← Array.mem_def]; exact Array.getElem_mem hj)
      exact ((h2 i _ _ hx hy).flat_eq hfl)
    rw [e]
def hxA : Array Value := #[.int .u8 0, .int .u8 17, .int .u8 34, .int .u8 51, .int .u8 68, .int .u8 85, .int .u8 102, .int .u8 119]
def hxB : Array Value := #[.int .u8 136, .int .u8 153, .int .u8 170, .int .u8 187, .int .u8 204, .int .u8 221, .int .u8 238, .int .u8 255]
def htA : ByteArray := ⟨#[48, 48, 49, 49, 50, 50, 51, 51, 52, 52, 53, 53, 54, 54, 55, 55]⟩
def htB : ByteArray := ⟨#[56, 56, 57, 57, 97, 97, 98, 98, 99, 99, 100, 100, 101, 101, 102, 102]⟩
def gaveS (x : OR FM) (s : ByteArray) : Bool := match x with
  | .ok (.string b) _ _ _ _ => decide (b = s)
  | _ => false
theorem gaveS_eq {x : OR FM} {s : ByteArray} (h : gaveS x s = true) : ∃ m n r w, x = .ok (.string s) m n r w := by
  unfold gaveS at h
  split at h
  · obtain rfl := of_decide_eq_true h
    exact ⟨_, _, _, _, rfl⟩
  · cases h
theorem runA : gaveS (callA (look tab) Y39 (exec Proofs.Tryd.prog (look tab) Y39 400) 30 [.agg hxA] FM0 0) htA = true := by kernel_rfl
theorem runB : gaveS (callA (look tab) Y39 (exec Proofs.Tryd.prog (look tab) Y39 400) 30 [.agg hxB] FM0 0) htB = true := by kernel_rfl
def isH (args : List Value) (cs : Array Value) : Bool := match args with
  | [.agg a] => veqL a.toList cs.toList
  | _ => false
theorem isH_eq {args : List Value} {cs : Array Value} (h : isH args cs = true) : args = [.agg cs] := by
  unfold isH at h
  split at h
  · rename_i a
    have := veqL_eq h
    rw [show a = cs from Array.ext' this]
  · cases h
noncomputable def hexA : Nat → List Value → FM → Nat → OR FM := fun f args m n =>
  cond (Nat.beq f 30) (cond (isH args hxA) (.ok (.string htA) m n 0 0) (cond (isH args hxB) (.ok (.string htB) m n 0 0) .no)) .no
theorem hexA_ok {f : Nat} {args : List Value} {m : FM} {n : Nat} {v : Value} {m' : FM} {n' r w : Nat} (h : hexA f args m n = .ok v m' n' r w) : f = 30 ∧ (∃ cs s, args = [.agg cs] ∧ cs.toList.all flat = true ∧ v = .string s ∧ gaveS (callA (look tab) Y39 (exec Proofs.Tryd.prog (look tab) Y39 400) 30 [.agg cs] FM0 0) s = true) ∧ m' = m ∧ n' = n ∧ r = 0 ∧ w = 0 := by
  unfold hexA at h
  cases hb : Nat.beq f 30
  · rw [hb] at h; cases h
  · rw [hb, cond_true] at h
    have hf := Nat.eq_of_beq_eq_true hb
    cases h1 : isH args hxA
    · rw [h1, cond_false] at h
      cases h2 : isH args hxB
      · rw [h2] at h; cases h
      · rw [h2, cond_true] at h
        injection h with e1 e2 e3 e4 e5
        exact ⟨hf, ⟨hxB, htB, isH_eq h2, by decide, e1.symm, runB⟩, e2.symm, e3.symm, e4.symm, e5.symm⟩
    · rw [h1, cond_true] at h
      injection h with e1 e2 e3 e4 e5
      exact ⟨hf, ⟨hxA, htA, isH_eq h1, by decide, e1.symm, runA⟩, e2.symm, e3.symm, e4.symm, e5.symm⟩
theorem hexA_loc : CallLoc hexA := by
  intro f args m n v m' n' r wm h
  obtain ⟨_, _, rfl, rfl, _, rfl⟩ := hexA_ok h
  exact Loc.refl _ _
theorem hexA_sim : CallSim PG hexA := by
  intro f args m n v m' n' r wm h ρ V w B F args' hargs hF hag hm hfree
  obtain ⟨rfl, ⟨cs, s, rfl, hfl, rfl, hg⟩, rfl, rfl, rfl, rfl⟩ := hexA_ok h
  obtain ⟨m1, n1, r1, w1, hrun⟩ := gaveS_eq hg
  obtain ⟨hen, hcall⟩ := env39.calls 400 30 [.agg cs] FM0 0 (.string s) m1 n1 r1 w1 hrun (fun _ => none) (fun _ => none) w w.heap.size (Nat.lor r1 w1) args' (by
    refine ⟨hargs.1, fun i x y hx hy => ?_⟩
    have hi : i = 0 := by
      have := (List.getElem?_eq_some_iff.1 hx).1
      simp at this
      exact this
    subst hi
    injection hx with hx
    subst hx
    rw [agg_same hfl (hargs.2 0 _ y rfl hy)]
    exact addrFree_rel _ hfl) (Sub.refl _) (fun b hb => by omega) (mrel_none w (hm.gl.up hm.le)) (fun _ _ => rfl)
  refine ⟨hen, hcall.mono ?_⟩
  rintro e w' ⟨ρ1, v1, rfl, hv1, hp1⟩
  rw [hv1.flat_eq rfl]
  exact ⟨ρ, _, rfl, addrFree_rel ρ rfl, Post.of_below hm hp1.below⟩
noncomputable def hexF : FCal := fun f args m n =>
  cond (Nat.beq f 30) (cond (isH (args.map toV) hxA) (.pv (.o (.string htA))) (cond (isH (args.map toV) hxB) (.pv (.o (.string htB))) .no)) .no
theorem hexF_sim : CalSim hexF hexA := by
  intro f args m n
  unfold hexF hexA
  cases Nat.beq f 30
  · trivial
  · cases isH (args.map toV) hxA
    · cases isH (args.map toV) hxB
      · trivial
      · rfl
    · rfl
theorem hexF_no (f : Nat) (args : List FV) (m : FTr) (n : Nat) (h : hexF f args m n = .no) : hexA f (args.map toV) (absM m n) n = .no := by
  unfold hexF at h
  unfold hexA
  cases hb : Nat.beq f 30
  · rfl
  · rw [hb, cond_true] at h
    cases h1 : isH (args.map toV) hxA
    · rw [h1, cond_false] at h
      cases h2 : isH (args.map toV) hxB
      · rfl
      · rw [h2] at h; cases h
    · rw [h1] at h; cases h
noncomputable def tabH : List (Nat × AFn) := [(3, ac3), (4, ac4), (5, ac5), (6, ac6), (7, ac7), (8, ac8), (9, ac9), (10, ac10), (11, ac11), (12, ac12), (13, ac13), (14, ac14), (15, ac15), (16, ac16), (17, ac17), (18, ac18), (19, ac19), (20, ac20), (21, ac21), (22, ac22), (24, ac24), (25, ac25), (26, ac26), (27, ac27), (28, ac28), (32, ac32), (33, ac33), (34, ac34), (35, ac35), (36, ac36), (37, ac37), (38, ac38), (47, ac47), (48, ac48), (49, ac49), (58, ac58), (59, ac59), (60, ac60), (61, ac61), (62, ac62), (63, ac63), (64, ac64), (65, ac65), (86, ac86)]
theorem tabH_good : Good Proofs.Tryd.prog tabH := (.cons Proofs.Tryd.func3 chk3 (.cons Proofs.Tryd.func4 chk4 (.cons Proofs.Tryd.func5 chk5 (.cons Proofs.Tryd.func6 chk6 (.cons Proofs.Tryd.func7 chk7 (.cons Proofs.Tryd.func8 chk8 (.cons Proofs.Tryd.func9 chk9 (.cons Proofs.Tryd.func10 chk10 (.cons Proofs.Tryd.func11 chk11 (.cons Proofs.Tryd.func12 chk12 (.cons Proofs.Tryd.func13 chk13 (.cons Proofs.Tryd.func14 chk14 (.cons Proofs.Tryd.func15 chk15 (.cons Proofs.Tryd.func16 chk16 (.cons Proofs.Tryd.func17 chk17 (.cons Proofs.Tryd.func18 chk18 (.cons Proofs.Tryd.func19 chk19 (.cons Proofs.Tryd.func20 chk20 (.cons Proofs.Tryd.func21 chk21 (.cons Proofs.Tryd.func22 chk22 (.cons Proofs.Tryd.func24 chk24 (.cons Proofs.Tryd.func25 chk25 (.cons Proofs.Tryd.func26 chk26 (.cons Proofs.Tryd.func27 chk27 (.cons Proofs.Tryd.func28 chk28 (.cons Proofs.Tryd.func32 chk32 (.cons Proofs.Tryd.func33 chk33 (.cons Proofs.Tryd.func34 chk34 (.cons Proofs.Tryd.func35 chk35 (.cons Proofs.Tryd.func36 chk36 (.cons Proofs.Tryd.func37 chk37 (.cons Proofs.Tryd.func38 chk38 (.cons Proofs.Tryd.func47 chk47 (.cons Proofs.Tryd.func48 chk48 (.cons Proofs.Tryd.func49 chk49 (.cons Proofs.Tryd.func58 chk58 (.cons Proofs.Tryd.func59 chk59 (.cons Proofs.Tryd.func60 chk60 (.cons Proofs.Tryd.func61 chk61 (.cons Proofs.Tryd.func62 chk62 (.cons Proofs.Tryd.func63 chk63 (.cons Proofs.Tryd.func64 chk64 (.cons Proofs.Tryd.func65 chk65 (.cons Proofs.Tryd.func86 chk86 .nil))))))))))))))))))))))))))))))))))))))))))))
theorem envH : Env Proofs.Tryd.prog tabH (altA hexA Y39) (altF hexF Yf39) where
  mix := mix
  good := tabH_good
  small := by kernel_rfl
  loc := alt_loc hexA_loc y39_loc
  sim := alt_sim hexA_sim y39_sim
  fast := altF_sim hexF_sim y39_fast hexF_no
  apart := apart_alt (fun f fn h args m n => by
      have hf : f ≠ 30 := fun e => by subst e; rw [show look tabH 30 = none by kernel_rfl] at h; cases h
      unfold hexA
      rw [show Nat.beq f 30 = false from Bool.eq_false_iff.2 fun e => hf (Nat.eq_of_beq_eq_true e)]; rfl) (apart39 (by kernel_rfl) (by kernel_rfl) (by kernel_rfl) (by kernel_rfl) (by kernel_rfl) (by kernel_rfl))
def m9 : Memo := { f := 9, args := [], rs := [.b true], bs := [], pi := [] }
theorem fit9 : fitsB m9 (fcall Proofs.Tryd.prog (Fast.treeOf tabH) (altF hexF Yf39) 5000 30 9 [] [] 0) = true := by kernel_rfl
theorem sim9 : CallSim Proofs.Tryd.prog (memoA m9) := envH.memo (M := m9) (fargs := []) rfl rfl fit9
end Go.Am.C39
namespace Go.Am.C39
set_option maxRecDepth 100000
open Go Go.Am
variable {E : Nat → Option AFn} {Y : Nat → List Value → FM → Nat → OR FM}
theorem DatV.belF {m : FM} {n : Nat} {v : Value} {ds : List (List Int)} (h : DatV m n v ds) (k : Nat) (hk : n ≤ k) : belowF k v = true := by
  have hb := h.bel k hk
  obtain ⟨a, c, rfl, _⟩ := h
  exact hb
def FairP (c : Cmd) : Prop := c.data.length ≤ 40 ∧ c.vol.size ≤ 100 ∧ c.oth.size ≤ 100
instance (c : Cmd) : Decidable (FairP c) := by unfold FairP; exact inferInstance
theorem fair_spec (hE : E 10 = some ac10) (m : FM) (n : Nat) (c : Cmd) (d : Value) (hc : DatV m n d c.data) : Pure (callW PG E Y 10 [cmdV c d] m n) m n (.bool (decide (FairP c))) := by
  refine pure_spec hE rfl rfl ?_
  simp only [ac10, cmdV]
  by_cases h1 : c.data.length ≤ 40
  · by_cases h2 : c.vol.size ≤ 100
    · by_cases h3 : c.oth.size ≤ 100
      · rw [decide_eq_true (show FairP c from ⟨h1, h2, h3⟩)]
        simp (implicitDefEqProofs := false) (disch := omega) only [WPs, opds, List.all_cons, List.all_nil, List.cons_append, List.nil_append, cond_true, cond_false, eq_self, List.map_cons, List.map_nil, Nat.reduceAdd, Nat.testBit, Nat.reduceShiftRight, Nat.reduceAnd, Nat.reduceBNe, Nat.reduceMul, hc.one, hc.len, STs]
      · rw [decide_eq_false (show ¬ FairP c from fun h => h3 h.2.2)]
        simp (implicitDefEqProofs := false) (disch := omega) only [WPs, opds, List.all_cons, List.all_nil, List.cons_append, List.nil_append, cond_true, cond_false, eq_self, List.map_cons, List.map_nil, Nat.reduceAdd, Nat.testBit, Nat.reduceShiftRight, Nat.reduceAnd, Nat.reduceBNe, Nat.reduceMul, hc.one, hc.len, STs]
    · rw [decide_eq_false (show ¬ FairP c from fun h => h2 h.2.1)]
      simp (implicitDefEqProofs := false) (disch := omega) only [WPs, opds, List.all_cons, List.all_nil, List.cons_append, List.nil_append, cond_true, cond_false, eq_self, List.map_cons, List.map_nil, Nat.reduceAdd, Nat.testBit, Nat.reduceShiftRight, Nat.reduceAnd, Nat.reduceBNe, Nat.reduceMul, hc.one, hc.len, STs]
  · rw [decide_eq_false (show ¬ FairP c from fun h => h1 h.1)]
    simp (implicitDefEqProofs := false) (disch := omega) only [WPs, opds, List.all_cons, List.all_nil, List.cons_append, List.nil_append, cond_true, cond_false, eq_self, List.map_cons, List.map_nil, Nat.reduceAdd, Nat.testBit, Nat.reduceShiftRight, Nat.reduceAnd, Nat.reduceBNe, Nat.reduceMul, hc.one, hc.len, STs]
theorem shares_symm {a b : Cmd} (h : SharesP a b) : SharesP b a := by
  unfold SharesP OneOf at *
  rcases h with ⟨h1, h2 | h2⟩ | ⟨h1, h2 | h2⟩
  · exact .inl ⟨h2 ▸ h1, .inl h2.symm⟩
  · exact .inr ⟨h2 ▸ h1, .inl h2.symm⟩
  · exact .inl ⟨h2 ▸ h1, .inr h2.symm⟩
  · exact .inr ⟨h2 ▸ h1, .inr h2.symm⟩
theorem over_symm {a b : Cmd} (h : OverP a b) : OverP b a := by
  obtain ⟨h1, h2, h3⟩ := h
  refine ⟨h2, h1, ?_⟩
  rcases h3 with ⟨h3, h4⟩ | ⟨h3, h4, h5, h6, h7, h8⟩
  · exact .inl ⟨h3.symm, shares_symm h4⟩
  · exact .inr ⟨h4, h3, h5.symm, h7, h6, h8.symm⟩
theorem overB_symm (a b : Cmd) : overB a b = overB b a := by
  by_cases h : OverP a b
  · rw [overB_t h, overB_t (over_symm h)]
  · rw [overB_f h, overB_f fun h' => h (over_symm h')]
structure Overs (E : Nat → Option AFn) (Y : Nat → List Value → FM → Nat → OR FM) : Prop where
  o19 : ∀ (m : FM) (n : Nat) (a b : Cmd) (d e : Value), a.Fit → b.Fit → DatV m n d a.data → DatV m n e b.data → Pure (callW PG E Y 19 [cmdV a d, cmdV b e] m n) m n (.bool (overB a b))
  o20 : ∀ (m : FM) (n : Nat) (a b : Cmd) (d e : Value), a.Fit → b.Fit → DatV m n d a.data → DatV m n e b.data → Pure (callW PG E Y 20 [cmdV a d, cmdV b e] m n) m n (.bool (overB a b))
theorem overlap_law (hE : E 6 = some ac6) (h10 : E 10 = some ac10) (hO : Overs E Y) (hA : ∀ m n, Pure (callW PG E Y 9 [] m n) m n (.bool true)) (m : FM) (n : Nat) (a b : Cmd) (d e : Value) (hF : a.Fit) (hG : b.Fit) (hd : DatV m n d a.data) (he : DatV m n e b.data) :
    Pure (callW PG E Y 6 [cmdV a d, cmdV b e] m n) m n (.bool true) := by
  refine pure_spec hE rfl rfl ?_
  simp only [ac6, cmdV]
  simp (implicitDefEqProofs := false) (disch := omega) only [WPs, opds, List.all_cons, List.all_nil, List.cons_append, List.nil_append, cond_true, cond_false, eq_self, List.map_cons, List.map_nil, Nat.reduceAdd, Nat.testBit, Nat.reduceShiftRight, Nat.reduceAnd, Nat.reduceBNe, Nat.reduceMul, hd.one, he.one]
  refine use_pure (hA _ _) fun r1 => ?_
  have hd2 : ∀ {M : FM}, (∀ b, b < n → M b = m b) → DatV M (n + 2) d a.data := fun h => hd.frame (by omega) h
  have he2 : ∀ {M : FM}, (∀ b, b < n → M b = m b) → DatV M (n + 2) e b.data := fun h => he.frame (by omega) h
  simp (implicitDefEqProofs := false) (disch := omega) only [WPs, opds, List.all_cons, List.all_nil, List.cons_append, List.nil_append, cond_true, cond_false, eq_self, List.map_cons, List.map_nil, Nat.reduceAdd, Nat.testBit, Nat.reduceShiftRight, Nat.reduceAnd, Nat.reduceBNe, Nat.reduceMul, hd.one, he.one, hd.belF, he.belF]
  refine use_pure (fair_spec h10 _ _ a d (hd2 fun b hb => by simp (implicitDefEqProofs := false) (disch := omega) only [WPs, opds, List.all_cons, List.all_nil, List.cons_append, List.nil_append, cond_true, cond_false, eq_self, List.map_cons, List.map_nil, Nat.reduceAdd, Nat.testBit, Nat.reduceShiftRight, Nat.reduceAnd, Nat.reduceBNe, Nat.reduceMul])) fun r2 => ?_
  by_cases fa : FairP a
  case neg =>
    simp (implicitDefEqProofs := false) (disch := omega) only [WPs, opds, List.all_cons, List.all_nil, List.cons_append, List.nil_append, cond_true, cond_false, eq_self, List.map_cons, List.map_nil, Nat.reduceAdd, Nat.testBit, Nat.reduceShiftRight, Nat.reduceAnd, Nat.reduceBNe, Nat.reduceMul, decide_eq_false fa, hd.one, he.one, hd.belF, he.belF]
    refine use_pure (hA _ _) fun r3 => ?_
    simp (implicitDefEqProofs := false) (disch := omega) only [WPs, opds, List.all_cons, List.all_nil, List.cons_append, List.nil_append, cond_true, cond_false, eq_self, List.map_cons, List.map_nil, Nat.reduceAdd, Nat.testBit, Nat.reduceShiftRight, Nat.reduceAnd, Nat.reduceBNe, Nat.reduceMul]
  simp (implicitDefEqProofs := false) (disch := omega) only [WPs, opds, List.all_cons, List.all_nil, List.cons_append, List.nil_append, cond_true, cond_false, eq_self, List.map_cons, List.map_nil, Nat.reduceAdd, Nat.testBit, Nat.reduceShiftRight, Nat.reduceAnd, Nat.reduceBNe, Nat.reduceMul, decide_eq_true fa, hd.one, he.one, hd.belF, he.belF]
  refine use_pure (fair_spec h10 _ _ b e (he2 fun b hb => by simp (implicitDefEqProofs := false) (disch := omega) only [WPs, opds, List.all_cons, List.all_nil, List.cons_append, List.nil_append, cond_true, cond_false, eq_self, List.map_cons, List.map_nil, Nat.reduceAdd, Nat.testBit, Nat.reduceShiftRight, Nat.reduceAnd, Nat.reduceBNe, Nat.reduceMul])) fun r3 => ?_
  by_cases fb : FairP b
  case neg =>
    simp (implicitDefEqProofs := false) (disch := omega) only [WPs, opds, List.all_cons, List.all_nil, List.cons_append, List.nil_append, cond_true, cond_false, eq_self, List.map_cons, List.map_nil, Nat.reduceAdd, Nat.testBit, Nat.reduceShiftRight, Nat.reduceAnd, Nat.reduceBNe, Nat.reduceMul, decide_eq_false fb, hd.one, he.one, hd.belF, he.belF]
    refine use_pure (hA _ _) fun r3 => ?_
    simp (implicitDefEqProofs := false) (disch := omega) only [WPs, opds, List.all_cons, List.all_nil, List.cons_append, List.nil_append, cond_true, cond_false, eq_self, List.map_cons, List.map_nil, Nat.reduceAdd, Nat.testBit, Nat.reduceShiftRight, Nat.reduceAnd, Nat.reduceBNe, Nat.reduceMul]
  simp (implicitDefEqProofs := false) (disch := omega) only [WPs, opds, List.all_cons, List.all_nil, List.cons_append, List.nil_append, cond_true, cond_false, eq_self, List.map_cons, List.map_nil, Nat.reduceAdd, Nat.testBit, Nat.reduceShiftRight, Nat.reduceAnd, Nat.reduceBNe, Nat.reduceMul, decide_eq_true fb, hd.one, he.one, hd.belF, he.belF]
  refine use_pureX (hO.o19 _ _ a b d e hF hG (hd2 fun b hb => by simp (implicitDefEqProofs := false) (disch := omega) only [WPs, opds, List.all_cons, List.all_nil, List.cons_append, List.nil_append, cond_true, cond_false, eq_self, List.map_cons, List.map_nil, Nat.reduceAdd, Nat.testBit, Nat.reduceShiftRight, Nat.reduceAnd, Nat.reduceBNe, Nat.reduceMul]) (he2 fun b hb => by simp (implicitDefEqProofs := false) (disch := omega) only [WPs, opds, List.all_cons, List.all_nil, List.cons_append, List.nil_append, cond_true, cond_false, eq_self, List.map_cons, List.map_nil, Nat.reduceAdd, Nat.testBit, Nat.reduceShiftRight, Nat.reduceAnd, Nat.reduceBNe, Nat.reduceMul])) fun r4 => ?_
  simp (implicitDefEqProofs := false) (disch := omega) only [WPs, opds, List.all_cons, List.all_nil, List.cons_append, List.nil_append, cond_true, cond_false, eq_self, List.map_cons, List.map_nil, Nat.reduceAdd, Nat.testBit, Nat.reduceShiftRight, Nat.reduceAnd, Nat.reduceBNe, Nat.reduceMul, hd.one, he.one, hd.belF, he.belF]
  refine use_pureX (hO.o20 _ _ a b d e hF hG (hd2 fun b hb => by simp (implicitDefEqProofs := false) (disch := omega) only [WPs, opds, List.all_cons, List.all_nil, List.cons_append, List.nil_append, cond_true, cond_false, eq_self, List.map_cons, List.map_nil, Nat.reduceAdd, Nat.testBit, Nat.reduceShiftRight, Nat.reduceAnd, Nat.reduceBNe, Nat.reduceMul]) (he2 fun b hb => by simp (implicitDefEqProofs := false) (disch := omega) only [WPs, opds, List.all_cons, List.all_nil, List.cons_append, List.nil_append, cond_true, cond_false, eq_self, List.map_cons, List.map_nil, Nat.reduceAdd, Nat.testBit, Nat.reduceShiftRight, Nat.reduceAnd, Nat.reduceBNe, Nat.reduceMul])) fun r5 => ?_
  simp (implicitDefEqProofs := false) (disch := omega) only [WPs, opds, List.all_cons, List.all_nil, List.cons_append, List.nil_append, cond_true, cond_false, eq_self, List.map_cons, List.map_nil, Nat.reduceAdd, Nat.testBit, Nat.reduceShiftRight, Nat.reduceAnd, Nat.reduceBNe, Nat.reduceMul, hd.one, he.one, hd.belF, he.belF, eql_bools 4 t4, decide_eq_true (rfl : overB a b = overB a b)]
  refine use_pureX (hO.o19 _ _ b a e d hG hF (he2 fun b hb => by simp (implicitDefEqProofs := false) (disch := omega) only [WPs, opds, List.all_cons, List.all_nil, List.cons_append, List.nil_append, cond_true, cond_false, eq_self, List.map_cons, List.map_nil, Nat.reduceAdd, Nat.testBit, Nat.reduceShiftRight, Nat.reduceAnd, Nat.reduceBNe, Nat.reduceMul]) (hd2 fun b hb => by simp (implicitDefEqProofs := false) (disch := omega) only [WPs, opds, List.all_cons, List.all_nil, List.cons_append, List.nil_append, cond_true, cond_false, eq_self, List.map_cons, List.map_nil, Nat.reduceAdd, Nat.testBit, Nat.reduceShiftRight, Nat.reduceAnd, Nat.reduceBNe, Nat.reduceMul])) fun r6 => ?_
  simp (implicitDefEqProofs := false) (disch := omega) only [WPs, opds, List.all_cons, List.all_nil, List.cons_append, List.nil_append, cond_true, cond_false, eq_self, List.map_cons, List.map_nil, Nat.reduceAdd, Nat.testBit, Nat.reduceShiftRight, Nat.reduceAnd, Nat.reduceBNe, Nat.reduceMul, hd.one, he.one, hd.belF, he.belF]
  refine use_pureX (hO.o19 _ _ a b d e hF hG (hd2 fun b hb => by simp (implicitDefEqProofs := false) (disch := omega) only [WPs, opds, List.all_cons, List.all_nil, List.cons_append, List.nil_append, cond_true, cond_false, eq_self, List.map_cons, List.map_nil, Nat.reduceAdd, Nat.testBit, Nat.reduceShiftRight, Nat.reduceAnd, Nat.reduceBNe, Nat.reduceMul]) (he2 fun b hb => by simp (implicitDefEqProofs := false) (disch := omega) only [WPs, opds, List.all_cons, List.all_nil, List.cons_append, List.nil_append, cond_true, cond_false, eq_self, List.map_cons, List.map_nil, Nat.reduceAdd, Nat.testBit, Nat.reduceShiftRight, Nat.reduceAnd, Nat.reduceBNe, Nat.reduceMul])) fun r7 => ?_
  simp (implicitDefEqProofs := false) (disch := omega) only [WPs, opds, List.all_cons, List.all_nil, List.cons_append, List.nil_append, cond_true, cond_false, eq_self, List.map_cons, List.map_nil, Nat.reduceAdd, Nat.testBit, Nat.reduceShiftRight, Nat.reduceAnd, Nat.reduceBNe, Nat.reduceMul, hd.one, he.one, hd.belF, he.belF, eql_bools 4 t4, decide_eq_true (overB_symm b a)]
theorem over_self (c : Cmd) : overB c c = (validB c && (!decide (c.kind = 1) && !decide (c.kind = 4))) := by
  by_cases hv : ValidP c
  · rw [validB_t hv]
    have hk := kind_of hv
    by_cases h1 : c.kind = 1
    · rw [decide_eq_true h1]
      refine overB_f fun h => ?_
      rcases h.2.2 with h3 | ⟨_, _, _, _, _, h4 | h4⟩
      · omega
      · exact h4 h1
      · exact h4 h1
    · by_cases h4 : c.kind = 4
      · rw [decide_eq_true h4, decide_eq_false h1]
        refine overB_f fun h => ?_
        rcases h.2.2 with h3 | h3
        · omega
        · have := h3.1; omega
      · rw [decide_eq_false h4, decide_eq_false h1]
        refine overB_t ⟨hv, hv, ?_⟩
        have nm : NameP c.vol → c.vol ≠ ⟨#[]⟩ := fun h e => by
          have := h.1
          rw [e] at this
          exact absurd this (by decide)
        have hv' : ValidP c := hv
        obtain ⟨_, hh⟩ := hv
        rcases hh with ⟨k, h⟩ | ⟨k, h⟩ | ⟨k, h⟩ | ⟨k, h⟩ | ⟨k, h⟩ | ⟨k, h⟩ | ⟨k, h⟩
        · exact absurd k h1
        · have := in_small (c := c) ⟨hv', by omega⟩
          exact .inr ⟨by omega, by omega, rfl, by omega, by omega, .inl h1⟩
        · have := in_small (c := c) ⟨hv', by omega⟩
          exact .inr ⟨by omega, by omega, rfl, by omega, by omega, .inl h1⟩
        · exact absurd k h4
        · exact .inl ⟨.inl (by omega), .inl ⟨nm h.1, .inl rfl⟩⟩
        · exact .inl ⟨.inl (by omega), .inl ⟨nm h.1, .inl rfl⟩⟩
        · exact .inl ⟨.inl (by omega), .inl ⟨nm h.1, .inl rfl⟩⟩
  · rw [validB_f hv]
    exact overB_f fun h => hv h.1
theorem self_law (hE : E 7 = some ac7) (h10 : E 10 = some ac10) (hV : Vals E Y) (hO : Overs E Y) (hA : ∀ m n, Pure (callW PG E Y 9 [] m n) m n (.bool true)) (m : FM) (n : Nat) (a : Cmd) (d : Value) (hF : a.Fit) (hd : DatV m n d a.data) :
    Pure (callW PG E Y 7 [cmdV a d] m n) m n (.bool true) := by
  refine pure_spec hE rfl rfl ?_
  simp only [ac7, cmdV]
  simp (implicitDefEqProofs := false) (disch := omega) only [WPs, opds, List.all_cons, List.all_nil, List.cons_append, List.nil_append, cond_true, cond_false, eq_self, List.map_cons, List.map_nil, Nat.reduceAdd, Nat.testBit, Nat.reduceShiftRight, Nat.reduceAnd, Nat.reduceBNe, Nat.reduceMul, hd.one]
  refine use_pure (hA _ _) fun r1 => ?_
  have hd2 : ∀ {M : FM}, (∀ b, b < n → M b = m b) → DatV M (n + 1) d a.data := fun h => hd.frame (by omega) h
  simp (implicitDefEqProofs := false) (disch := omega) only [WPs, opds, List.all_cons, List.all_nil, List.cons_append, List.nil_append, cond_true, cond_false, eq_self, List.map_cons, List.map_nil, Nat.reduceAdd, Nat.testBit, Nat.reduceShiftRight, Nat.reduceAnd, Nat.reduceBNe, Nat.reduceMul, hd.one, hd.belF]
  refine use_pure (fair_spec h10 _ _ a d (hd2 fun b hb => by simp (implicitDefEqProofs := false) (disch := omega) only [WPs, opds, List.all_cons, List.all_nil, List.cons_append, List.nil_append, cond_true, cond_false, eq_self, List.map_cons, List.map_nil, Nat.reduceAdd, Nat.testBit, Nat.reduceShiftRight, Nat.reduceAnd, Nat.reduceBNe, Nat.reduceMul])) fun r2 => ?_
  by_cases fa : FairP a
  case neg =>
    simp (implicitDefEqProofs := false) (disch := omega) only [WPs, opds, List.all_cons, List.all_nil, List.cons_append, List.nil_append, cond_true, cond_false, eq_self, List.map_cons, List.map_nil, Nat.reduceAdd, Nat.testBit, Nat.reduceShiftRight, Nat.reduceAnd, Nat.reduceBNe, Nat.reduceMul, decide_eq_false fa, hd.one, hd.belF]
    refine use_pure (hA _ _) fun r3 => ?_
    simp (implicitDefEqProofs := false) (disch := omega) only [WPs, opds, List.all_cons, List.all_nil, List.cons_append, List.nil_append, cond_true, cond_false, eq_self, List.map_cons, List.map_nil, Nat.reduceAdd, Nat.testBit, Nat.reduceShiftRight, Nat.reduceAnd, Nat.reduceBNe, Nat.reduceMul]
  simp (implicitDefEqProofs := false) (disch := omega) only [WPs, opds, List.all_cons, List.all_nil, List.cons_append, List.nil_append, cond_true, cond_false, eq_self, List.map_cons, List.map_nil, Nat.reduceAdd, Nat.testBit, Nat.reduceShiftRight, Nat.reduceAnd, Nat.reduceBNe, Nat.reduceMul, decide_eq_true fa, hd.one, hd.belF]
  refine use_pureX (hO.o19 _ _ a a d d hF hF (hd2 fun b hb => by simp (implicitDefEqProofs := false) (disch := omega) only [WPs, opds, List.all_cons, List.all_nil, List.cons_append, List.nil_append, cond_true, cond_false, eq_self, List.map_cons, List.map_nil, Nat.reduceAdd, Nat.testBit, Nat.reduceShiftRight, Nat.reduceAnd, Nat.reduceBNe, Nat.reduceMul]) (hd2 fun b hb => by simp (implicitDefEqProofs := false) (disch := omega) only [WPs, opds, List.all_cons, List.all_nil, List.cons_append, List.nil_append, cond_true, cond_false, eq_self, List.map_cons, List.map_nil, Nat.reduceAdd, Nat.testBit, Nat.reduceShiftRight, Nat.reduceAnd, Nat.reduceBNe, Nat.reduceMul])) fun r4 => ?_
  simp (implicitDefEqProofs := false) (disch := omega) only [WPs, opds, List.all_cons, List.all_nil, List.cons_append, List.nil_append, cond_true, cond_false, eq_self, List.map_cons, List.map_nil, Nat.reduceAdd, Nat.testBit, Nat.reduceShiftRight, Nat.reduceAnd, Nat.reduceBNe, Nat.reduceMul, hd.one, hd.belF]
  refine use_pureX (hV.v32 _ _ a d hF (hd2 fun b hb => by simp (implicitDefEqProofs := false) (disch := omega) only [WPs, opds, List.all_cons, List.all_nil, List.cons_append, List.nil_append, cond_true, cond_false, eq_self, List.map_cons, List.map_nil, Nat.reduceAdd, Nat.testBit, Nat.reduceShiftRight, Nat.reduceAnd, Nat.reduceBNe, Nat.reduceMul])) fun r5 => ?_
  rw [over_self]
  by_cases hv : ValidP a
  · rw [validB_t hv]
    by_cases h1 : a.kind = 1
    · simp (implicitDefEqProofs := false) (disch := omega) only [WPs, opds, List.all_cons, List.all_nil, List.cons_append, List.nil_append, cond_true, cond_false, eq_self, List.map_cons, List.map_nil, Nat.reduceAdd, Nat.testBit, Nat.reduceShiftRight, Nat.reduceAnd, Nat.reduceBNe, Nat.reduceMul, hd.one, hd.belF, decide_eq_true h1, eql_bools 4 t4, decide_eq_true (rfl : false = false)]
    · by_cases h4 : a.kind = 4
      · simp (implicitDefEqProofs := false) (disch := omega) only [WPs, opds, List.all_cons, List.all_nil, List.cons_append, List.nil_append, cond_true, cond_false, eq_self, List.map_cons, List.map_nil, Nat.reduceAdd, Nat.testBit, Nat.reduceShiftRight, Nat.reduceAnd, Nat.reduceBNe, Nat.reduceMul, hd.one, hd.belF, decide_eq_false h1, decide_eq_true h4, eql_bools 4 t4, decide_eq_true (rfl : false = false)]
      · simp (implicitDefEqProofs := false) (disch := omega) only [WPs, opds, List.all_cons, List.all_nil, List.cons_append, List.nil_append, cond_true, cond_false, eq_self, List.map_cons, List.map_nil, Nat.reduceAdd, Nat.testBit, Nat.reduceShiftRight, Nat.reduceAnd, Nat.reduceBNe, Nat.reduceMul, hd.one, hd.belF, decide_eq_false h1, decide_eq_false h4, eql_bools 4 t4, decide_eq_true (rfl : true = true)]
  · rw [validB_f hv]
    simp (implicitDefEqProofs := false) (disch := omega) only [WPs, opds, List.all_cons, List.all_nil, List.cons_append, List.nil_append, cond_true, cond_false, eq_self, List.map_cons, List.map_nil, Nat.reduceAdd, Nat.testBit, Nat.reduceShiftRight, Nat.reduceAnd, Nat.reduceBNe, Nat.reduceMul, hd.one, hd.belF, eql_bools 4 t4, Bool.false_and, decide_eq_true (rfl : false = false)]
end Go.Am.C39
namespace Go.Am.C39
set_option maxRecDepth 100000
open Go Go.Am
variable {E : Nat → Option AFn} {Y : Nat → List Value → FM → Nat → OR FM}
theorem refOverlap_spec (hE : E 20 = some ac20) (h33 : E 16 = some ac16) (h34 : E 38 = some ac38) (hV : Vals E Y) (m : FM) (n : Nat) (a b : Cmd) (d e : Value) (hF : a.Fit) (hG : b.Fit) (hd : DatV m n d a.data) (he : DatV m n e b.data) :
    Pure (callW PG E Y 20 [cmdV a d, cmdV b e] m n) m n (.bool (overB a b)) := by
  refine pure_spec hE rfl rfl ?_
  simp only [ac20, cmdV]
  simp (implicitDefEqProofs := false) (disch := omega) only [WPs, opds, List.all_cons, List.all_nil, List.cons_append, List.nil_append, cond_true, cond_false, eq_self, List.map_cons, List.map_nil, Nat.reduceAdd, Nat.testBit, Nat.reduceShiftRight, Nat.reduceAnd, Nat.reduceBNe, Nat.reduceMul, hd.one, he.one]
  refine use_pure (hV.v32 _ _ a d hF (hd.frame (by omega) fun b hb => by simp (implicitDefEqProofs := false) (disch := omega) only [WPs, opds, List.all_cons, List.all_nil, List.cons_append, List.nil_append, cond_true, cond_false, eq_self, List.map_cons, List.map_nil, Nat.reduceAdd, Nat.testBit, Nat.reduceShiftRight, Nat.reduceAnd, Nat.reduceBNe, Nat.reduceMul])) fun r1 => ?_
  by_cases va : ValidP a
  case neg =>
    rw [overB_f fun h => va h.1]
    simp (implicitDefEqProofs := false) (disch := omega) only [WPs, opds, List.all_cons, List.all_nil, List.cons_append, List.nil_append, cond_true, cond_false, eq_self, List.map_cons, List.map_nil, Nat.reduceAdd, Nat.testBit, Nat.reduceShiftRight, Nat.reduceAnd, Nat.reduceBNe, Nat.reduceMul, validB_f va, Bool.not_false, hd.one, he.one]
  simp (implicitDefEqProofs := false) (disch := omega) only [WPs, opds, List.all_cons, List.all_nil, List.cons_append, List.nil_append, cond_true, cond_false, eq_self, List.map_cons, List.map_nil, Nat.reduceAdd, Nat.testBit, Nat.reduceShiftRight, Nat.reduceAnd, Nat.reduceBNe, Nat.reduceMul, validB_t va, Bool.not_true, hd.one, he.one]
  refine use_pure (hV.v32 _ _ b e hG (he.frame (by omega) fun b hb => by simp (implicitDefEqProofs := false) (disch := omega) only [WPs, opds, List.all_cons, List.all_nil, List.cons_append, List.nil_append, cond_true, cond_false, eq_self, List.map_cons, List.map_nil, Nat.reduceAdd, Nat.testBit, Nat.reduceShiftRight, Nat.reduceAnd, Nat.reduceBNe, Nat.reduceMul])) fun r2 => ?_
  by_cases vb : ValidP b
  case neg =>
    rw [overB_f fun h => vb h.2.1]
    simp (implicitDefEqProofs := false) (disch := omega) only [WPs, opds, List.all_cons, List.all_nil, List.cons_append, List.nil_append, cond_true, cond_false, eq_self, List.map_cons, List.map_nil, Nat.reduceAdd, Nat.testBit, Nat.reduceShiftRight, Nat.reduceAnd, Nat.reduceBNe, Nat.reduceMul, validB_f vb, Bool.not_false, hd.one, he.one]
  simp (implicitDefEqProofs := false) (disch := omega) only [WPs, opds, List.all_cons, List.all_nil, List.cons_append, List.nil_append, cond_true, cond_false, eq_self, List.map_cons, List.map_nil, Nat.reduceAdd, Nat.testBit, Nat.reduceShiftRight, Nat.reduceAnd, Nat.reduceBNe, Nat.reduceMul, validB_t vb, Bool.not_true, hd.one, he.one]
  have hA : ∃ (v : ByteArray) (x y : Int), (a.kind ≤ 3 → v = a.vol ∧ x = a.at_ ∧ y = a.len) ∧ ∀ m n, DatV m n d a.data → Pure (callW PG E Y 16 [cmdV a d] m n) m n (.tuple #[.string v, .int .i64 x, .int .i64 y, .bool (decide (a.kind ≤ 3))]) := by
    by_cases ra : a.kind ≤ 3
    · rw [decide_eq_true ra]
      exact ⟨a.vol, a.at_, a.len, fun _ => ⟨rfl, rfl, rfl⟩, fun m n h => refRange_in h33 hV m n a d hF h ⟨va, ra⟩⟩
    · rw [decide_eq_false ra]
      exact ⟨⟨#[]⟩, 0, 0, fun h => absurd h ra, fun m n h => refRange_out h33 hV m n a d hF h fun h => ra h.2⟩
  have hB : ∃ (v : ByteArray) (x y : Int), (b.kind ≤ 3 → v = b.vol ∧ x = b.at_ ∧ y = b.len) ∧ ∀ m n, DatV m n e b.data → Pure (callW PG E Y 16 [cmdV b e] m n) m n (.tuple #[.string v, .int .i64 x, .int .i64 y, .bool (decide (b.kind ≤ 3))]) := by
    by_cases rb : b.kind ≤ 3
    · rw [decide_eq_true rb]
      exact ⟨b.vol, b.at_, b.len, fun _ => ⟨rfl, rfl, rfl⟩, fun m n h => refRange_in h33 hV m n b e hG h ⟨vb, rb⟩⟩
    · rw [decide_eq_false rb]
      exact ⟨⟨#[]⟩, 0, 0, fun h => absurd h rb, fun m n h => refRange_out h33 hV m n b e hG h fun h => rb h.2⟩
  obtain ⟨v, x, y, hv, hA⟩ := hA
  obtain ⟨v', x', y', hv', hB⟩ := hB
  refine use_pure (hA _ _ (hd.frame (by omega) fun b hb => by simp (implicitDefEqProofs := false) (disch := omega) only [WPs, opds, List.all_cons, List.all_nil, List.cons_append, List.nil_append, cond_true, cond_false, eq_self, List.map_cons, List.map_nil, Nat.reduceAdd, Nat.testBit, Nat.reduceShiftRight, Nat.reduceAnd, Nat.reduceBNe, Nat.reduceMul])) fun r3 => ?_
  simp (implicitDefEqProofs := false) (disch := omega) only [WPs, opds, List.all_cons, List.all_nil, List.cons_append, List.nil_append, cond_true, cond_false, eq_self, List.map_cons, List.map_nil, Nat.reduceAdd, Nat.testBit, Nat.reduceShiftRight, Nat.reduceAnd, Nat.reduceBNe, Nat.reduceMul, x4_0, x4_1, x4_2, x4_3, hd.one, he.one]
  refine use_pure (hB _ _ (he.frame (by omega) fun b hb => by simp (implicitDefEqProofs := false) (disch := omega) only [WPs, opds, List.all_cons, List.all_nil, List.cons_append, List.nil_append, cond_true, cond_false, eq_self, List.map_cons, List.map_nil, Nat.reduceAdd, Nat.testBit, Nat.reduceShiftRight, Nat.reduceAnd, Nat.reduceBNe, Nat.reduceMul])) fun r4 => ?_
  by_cases hab : a.kind ≤ 3 ∧ b.kind ≤ 3
  · obtain ⟨ra, rb⟩ := hab
    obtain ⟨rfl, rfl, rfl⟩ := hv ra
    obtain ⟨rfl, rfl, rfl⟩ := hv' rb
    have sa := in_small ⟨va, ra⟩
    have sb := in_small ⟨vb, rb⟩
    have no : ¬ RangesP a b → overB a b = false := fun hn => overB_f fun h => by
      rcases h.2.2 with h1 | h1
      · omega
      · exact hn h1.2.2
    by_cases c1 : a.vol = b.vol
    case neg =>
      rw [no fun h => c1 h.1]
      simp (implicitDefEqProofs := false) (disch := omega) only [WPs, opds, List.all_cons, List.all_nil, List.cons_append, List.nil_append, cond_true, cond_false, eq_self, List.map_cons, List.map_nil, Nat.reduceAdd, Nat.testBit, Nat.reduceShiftRight, Nat.reduceAnd, Nat.reduceBNe, Nat.reduceMul, x4_0, x4_1, x4_2, x4_3, hd.one, he.one, STs, decide_eq_false c1]
    by_cases c2 : a.at_ < b.at_ + b.len
    case neg =>
      rw [no fun h => c2 h.2.1]
      simp (implicitDefEqProofs := false) (disch := omega) only [WPs, opds, List.all_cons, List.all_nil, List.cons_append, List.nil_append, cond_true, cond_false, eq_self, List.map_cons, List.map_nil, Nat.reduceAdd, Nat.testBit, Nat.reduceShiftRight, Nat.reduceAnd, Nat.reduceBNe, Nat.reduceMul, x4_0, x4_1, x4_2, x4_3, hd.one, he.one, STs, decide_eq_true c1]
    by_cases c3 : b.at_ < a.at_ + a.len
    case neg =>
      rw [no fun h => c3 h.2.2.1]
      simp (implicitDefEqProofs := false) (disch := omega) only [WPs, opds, List.all_cons, List.all_nil, List.cons_append, List.nil_append, cond_true, cond_false, eq_self, List.map_cons, List.map_nil, Nat.reduceAdd, Nat.testBit, Nat.reduceShiftRight, Nat.reduceAnd, Nat.reduceBNe, Nat.reduceMul, x4_0, x4_1, x4_2, x4_3, hd.one, he.one, STs, decide_eq_true c1]
    by_cases c4 : a.kind = 1
    case neg =>
      rw [overB_t ⟨va, vb, .inr ⟨ra, rb, c1, c2, c3, .inl c4⟩⟩]
      simp (implicitDefEqProofs := false) (disch := omega) only [WPs, opds, List.all_cons, List.all_nil, List.cons_append, List.nil_append, cond_true, cond_false, eq_self, List.map_cons, List.map_nil, Nat.reduceAdd, Nat.testBit, Nat.reduceShiftRight, Nat.reduceAnd, Nat.reduceBNe, Nat.reduceMul, x4_0, x4_1, x4_2, x4_3, hd.one, he.one, STs, decide_eq_true c1]
    by_cases c5 : b.kind = 1
    case neg =>
      rw [overB_t ⟨va, vb, .inr ⟨ra, rb, c1, c2, c3, .inr c5⟩⟩]
      simp (implicitDefEqProofs := false) (disch := omega) only [WPs, opds, List.all_cons, List.all_nil, List.cons_append, List.nil_append, cond_true, cond_false, eq_self, List.map_cons, List.map_nil, Nat.reduceAdd, Nat.testBit, Nat.reduceShiftRight, Nat.reduceAnd, Nat.reduceBNe, Nat.reduceMul, x4_0, x4_1, x4_2, x4_3, hd.one, he.one, STs, decide_eq_true c1]
    rw [no fun h => h.2.2.2.elim (fun h => h c4) fun h => h c5]
    simp (implicitDefEqProofs := false) (disch := omega) only [WPs, opds, List.all_cons, List.all_nil, List.cons_append, List.nil_append, cond_true, cond_false, eq_self, List.map_cons, List.map_nil, Nat.reduceAdd, Nat.testBit, Nat.reduceShiftRight, Nat.reduceAnd, Nat.reduceBNe, Nat.reduceMul, x4_0, x4_1, x4_2, x4_3, hd.one, he.one, STs, decide_eq_true c1]
  · by_cases k5 : a.kind < 5 ∧ b.kind < 5
    · rw [overB_f fun h => by
        rcases h.2.2 with h1 | h1
        · omega
        · exact hab ⟨h1.1, h1.2.1⟩]
      by_cases ra : a.kind ≤ 3
      · have rb : ¬ b.kind ≤ 3 := fun h => hab ⟨ra, h⟩
        simp (implicitDefEqProofs := false) (disch := omega) only [WPs, opds, List.all_cons, List.all_nil, List.cons_append, List.nil_append, cond_true, cond_false, eq_self, List.map_cons, List.map_nil, Nat.reduceAdd, Nat.testBit, Nat.reduceShiftRight, Nat.reduceAnd, Nat.reduceBNe, Nat.reduceMul, x4_0, x4_1, x4_2, x4_3, hd.one, he.one, STs]
      · simp (implicitDefEqProofs := false) (disch := omega) only [WPs, opds, List.all_cons, List.all_nil, List.cons_append, List.nil_append, cond_true, cond_false, eq_self, List.map_cons, List.map_nil, Nat.reduceAdd, Nat.testBit, Nat.reduceShiftRight, Nat.reduceAnd, Nat.reduceBNe, Nat.reduceMul, x4_0, x4_1, x4_2, x4_3, hd.one, he.one, STs]
    · have shr : overB a b = (namesB a b.vol || namesB a b.oth) := by
        by_cases h1 : NamesP a b.vol
        · rw [namesB_t h1, overB_t ⟨va, vb, .inl ⟨by omega, (shares_names a b).2 (.inl h1)⟩⟩, Bool.true_or]
        · by_cases h2 : NamesP a b.oth
          · rw [namesB_t h2, overB_t ⟨va, vb, .inl ⟨by omega, (shares_names a b).2 (.inr h2)⟩⟩, Bool.or_true]
          · rw [namesB_f h1, namesB_f h2, overB_f fun h => by
              rcases h.2.2 with h3 | h3
              · exact ((shares_names a b).1 h3.2).elim h1 h2
              · exact hab ⟨h3.1, h3.2.1⟩]
            rfl
      rw [shr]
      by_cases ra : a.kind ≤ 3
      · have rb : ¬ b.kind ≤ 3 := fun h => hab ⟨ra, h⟩
        simp (implicitDefEqProofs := false) (disch := omega) only [WPs, opds, List.all_cons, List.all_nil, List.cons_append, List.nil_append, cond_true, cond_false, eq_self, List.map_cons, List.map_nil, Nat.reduceAdd, Nat.testBit, Nat.reduceShiftRight, Nat.reduceAnd, Nat.reduceBNe, Nat.reduceMul, x4_0, x4_1, x4_2, x4_3, hd.one, he.one, STs]
        refine use_pure (names_spec h34 _ _ a d hd.one _) fun r5 => ?_
        cases namesB a b.vol
        · simp (implicitDefEqProofs := false) (disch := omega) only [WPs, opds, List.all_cons, List.all_nil, List.cons_append, List.nil_append, cond_true, cond_false, eq_self, List.map_cons, List.map_nil, Nat.reduceAdd, Nat.testBit, Nat.reduceShiftRight, Nat.reduceAnd, Nat.reduceBNe, Nat.reduceMul, hd.one, he.one]
          refine use_pure (names_spec h34 _ _ a d hd.one _) fun r6 => ?_
          simp (implicitDefEqProofs := false) (disch := omega) only [WPs, opds, List.all_cons, List.all_nil, List.cons_append, List.nil_append, cond_true, cond_false, eq_self, List.map_cons, List.map_nil, Nat.reduceAdd, Nat.testBit, Nat.reduceShiftRight, Nat.reduceAnd, Nat.reduceBNe, Nat.reduceMul, Bool.false_or]
        · simp (implicitDefEqProofs := false) (disch := omega) only [WPs, opds, List.all_cons, List.all_nil, List.cons_append, List.nil_append, cond_true, cond_false, eq_self, List.map_cons, List.map_nil, Nat.reduceAdd, Nat.testBit, Nat.reduceShiftRight, Nat.reduceAnd, Nat.reduceBNe, Nat.reduceMul, hd.one, he.one, Bool.true_or]
      · by_cases k6 : a.kind < 5
        · simp (implicitDefEqProofs := false) (disch := omega) only [WPs, opds, List.all_cons, List.all_nil, List.cons_append, List.nil_append, cond_true, cond_false, eq_self, List.map_cons, List.map_nil, Nat.reduceAdd, Nat.testBit, Nat.reduceShiftRight, Nat.reduceAnd, Nat.reduceBNe, Nat.reduceMul, x4_0, x4_1, x4_2, x4_3, hd.one, he.one, STs]
          refine use_pure (names_spec h34 _ _ a d hd.one _) fun r5 => ?_
          cases namesB a b.vol
          · simp (implicitDefEqProofs := false) (disch := omega) only [WPs, opds, List.all_cons, List.all_nil, List.cons_append, List.nil_append, cond_true, cond_false, eq_self, List.map_cons, List.map_nil, Nat.reduceAdd, Nat.testBit, Nat.reduceShiftRight, Nat.reduceAnd, Nat.reduceBNe, Nat.reduceMul, hd.one, he.one]
            refine use_pure (names_spec h34 _ _ a d hd.one _) fun r6 => ?_
            simp (implicitDefEqProofs := false) (disch := omega) only [WPs, opds, List.all_cons, List.all_nil, List.cons_append, List.nil_append, cond_true, cond_false, eq_self, List.map_cons, List.map_nil, Nat.reduceAdd, Nat.testBit, Nat.reduceShiftRight, Nat.reduceAnd, Nat.reduceBNe, Nat.reduceMul, Bool.false_or]
          · simp (implicitDefEqProofs := false) (disch := omega) only [WPs, opds, List.all_cons, List.all_nil, List.cons_append, List.nil_append, cond_true, cond_false, eq_self, List.map_cons, List.map_nil, Nat.reduceAdd, Nat.testBit, Nat.reduceShiftRight, Nat.reduceAnd, Nat.reduceBNe, Nat.reduceMul, hd.one, he.one, Bool.true_or]
        · simp (implicitDefEqProofs := false) (disch := omega) only [WPs, opds, List.all_cons, List.all_nil, List.cons_append, List.nil_append, cond_true, cond_false, eq_self, List.map_cons, List.map_nil, Nat.reduceAdd, Nat.testBit, Nat.reduceShiftRight, Nat.reduceAnd, Nat.reduceBNe, Nat.reduceMul, x4_0, x4_1, x4_2, x4_3, hd.one, he.one, STs]
          refine use_pure (names_spec h34 _ _ a d hd.one _) fun r5 => ?_
          cases namesB a b.vol
          · simp (implicitDefEqProofs := false) (disch := omega) only [WPs, opds, List.all_cons, List.all_nil, List.cons_append, List.nil_append, cond_true, cond_false, eq_self, List.map_cons, List.map_nil, Nat.reduceAdd, Nat.testBit, Nat.reduceShiftRight, Nat.reduceAnd, Nat.reduceBNe, Nat.reduceMul, hd.one, he.one]
            refine use_pure (names_spec h34 _ _ a d hd.one _) fun r6 => ?_
            simp (implicitDefEqProofs := false) (disch := omega) only [WPs, opds, List.all_cons, List.all_nil, List.cons_append, List.nil_append, cond_true, cond_false, eq_self, List.map_cons, List.map_nil, Nat.reduceAdd, Nat.testBit, Nat.reduceShiftRight, Nat.reduceAnd, Nat.reduceBNe, Nat.reduceMul, Bool.false_or]
          · simp (implicitDefEqProofs := false) (disch := omega) only [WPs, opds, List.all_cons, List.all_nil, List.cons_append, List.nil_append, cond_true, cond_false, eq_self, List.map_cons, List.map_nil, Nat.reduceAdd, Nat.testBit, Nat.reduceShiftRight, Nat.reduceAnd, Nat.reduceBNe, Nat.reduceMul, hd.one, he.one, Bool.true_or]
end Go.Am.C39
namespace Go.Am.C39
open Go Go.Am Go.Am.V
set_option maxRecDepth 1000000
noncomputable def tabB : List (Nat × AFn) := [(3, ac3), (4, ac4), (5, ac5), (6, ac6), (7, ac7), (8, ac8), (10, ac10), (11, ac11), (12, ac12), (13, ac13), (14, ac14), (15, ac15), (16, ac16), (17, ac17), (18, ac18), (19, ac19), (20, ac20), (21, ac21), (22, ac22), (24, ac24), (25, ac25), (26, ac26), (27, ac27), (28, ac28), (30, ac30), (32, ac32), (33, ac33), (34, ac34), (35, ac35), (36, ac36), (37, ac37), (38, ac38), (47, ac47), (48, ac48), (49, ac49), (58, ac58), (59, ac59), (61, ac61), (62, ac62), (63, ac63), (64, ac64), (65, ac65), (86, ac86)]
theorem tabB_good : Good Proofs.Tryd.prog tabB := (.cons Proofs.Tryd.func3 chk3 (.cons Proofs.Tryd.func4 chk4 (.cons Proofs.Tryd.func5 chk5 (.cons Proofs.Tryd.func6 chk6 (.cons Proofs.Tryd.func7 chk7 (.cons Proofs.Tryd.func8 chk8 (.cons Proofs.Tryd.func10 chk10 (.cons Proofs.Tryd.func11 chk11 (.cons Proofs.Tryd.func12 chk12 (.cons Proofs.Tryd.func13 chk13 (.cons Proofs.Tryd.func14 chk14 (.cons Proofs.Tryd.func15 chk15 (.cons Proofs.Tryd.func16 chk16 (.cons Proofs.Tryd.func17 chk17 (.cons Proofs.Tryd.func18 chk18 (.cons Proofs.Tryd.func19 chk19 (.cons Proofs.Tryd.func20 chk20 (.cons Proofs.Tryd.func21 chk21 (.cons Proofs.Tryd.func22 chk22 (.cons Proofs.Tryd.func24 chk24 (.cons Proofs.Tryd.func25 chk25 (.cons Proofs.Tryd.func26 chk26 (.cons Proofs.Tryd.func27 chk27 (.cons Proofs.Tryd.func28 chk28 (.cons Proofs.Tryd.func30 chk30 (.cons Proofs.Tryd.func32 chk32 (.cons Proofs.Tryd.func33 chk33 (.cons Proofs.Tryd.func34 chk34 (.cons Proofs.Tryd.func35 chk35 (.cons Proofs.Tryd.func36 chk36 (.cons Proofs.Tryd.func37 chk37 (.cons Proofs.Tryd.func38 chk38 (.cons Proofs.Tryd.func47 chk47 (.cons Proofs.Tryd.func48 chk48 (.cons Proofs.Tryd.func49 chk49 (.cons Proofs.Tryd.func58 chk58 (.cons Proofs.Tryd.func59 chk59 (.cons Proofs.Tryd.func61 chk61 (.cons Proofs.Tryd.func62 chk62 (.cons Proofs.Tryd.func63 chk63 (.cons Proofs.Tryd.func64 chk64 (.cons Proofs.Tryd.func65 chk65 (.cons Proofs.Tryd.func86 chk86 .nil)))))))))))))))))))))))))))))))))))))))))))
def memL : List Memo := [m9, m44]
theorem envB : Env Proofs.Tryd.prog tabB (memosA memL Y39) (memosF memL Yf39) :=
  env39.addMemos tabB_good (by kernel_rfl) (apart39 (by kernel_rfl) (by kernel_rfl) (by kernel_rfl) (by kernel_rfl) (by kernel_rfl) (by kernel_rfl)) (by
    intro M h
    rcases List.mem_cons.1 h with rfl | h
    · exact sim9
    · obtain rfl := List.mem_singleton.1 h
      exact sim44) (by
    intro M h
    rcases List.mem_cons.1 h with rfl | h
    · kernel_rfl
    · obtain rfl := List.mem_singleton.1 h
      kernel_rfl)
theorem memo_call {f : Nat} (h : look tabB f = none) (args : List Value) (m : FM) (n : Nat) : callW PG (look tabB) (memosA memL Y39) f args m n = memosA memL Y39 f args m n := by
  unfold callW callA
  rw [h]
theorem awake_pure (m : FM) (n : Nat) : Pure (callW PG (look tabB) (memosA memL Y39) 9 [] m n) m n (.bool true) := by
  rw [memo_call (by kernel_rfl)]
  have hm : memoA m9 9 [] m n = .ok (.bool true) m n 0 0 := by
    show OR.ok (.bool true) m n 0 (newW n 0) = _
    rw [show newW n 0 = 0 from Nat.zero_shiftLeft n]
  refine ⟨0, ?_⟩
  show altA (memoA m9) (altA (memoA m44) Y39) 9 [] m n = _
  unfold altA
  rw [hm]
theorem set_pure (m : FM) (n : Nat) : Pure (callW PG (look tabB) (memosA memL Y39) 60 [.string cutS] m n) m n (.tuple #[.agg setL.toArray, .bool true]) := by
  rw [memo_call (by kernel_rfl)]
  have h0 : veqL [Value.string cutS] [.string cutS] = true := by kernel_rfl
  have hm : memoA m44 60 [.string cutS] m n = .ok (.tuple #[.agg setL.toArray, .bool true]) m n 0 0 := by
    show cond (Nat.beq 60 60 && veqL [Value.string cutS] [.string cutS]) (OR.ok (.tuple #[.agg setL.toArray, .bool true]) m n 0 (newW n 0)) .no = _
    rw [h0, show newW n 0 = 0 from Nat.zero_shiftLeft n]; rfl
  refine ⟨0, ?_⟩
  show altA (memoA m9) (altA (memoA m44) Y39) 60 [.string cutS] m n = _
  unfold altA
  rw [show memoA m9 60 [.string cutS] m n = .no from rfl, hm]
theorem trimsB : Trims (look tabB) (memosA memL Y39) := ⟨by kernel_rfl, by kernel_rfl, by kernel_rfl, by kernel_rfl, set_pure⟩
theorem valsB : Vals (look tabB) (memosA memL Y39) where
  v29 := fun m n c d hF hc => cmdValid_spec (by kernel_rfl) (by kernel_rfl) trimsB (by kernel_rfl) (by kernel_rfl) (by kernel_rfl) m n c d hF hc
  v32 := fun m n c d hF hc => refValid_spec (by kernel_rfl) (by kernel_rfl) (by kernel_rfl) m n c d hF hc
theorem oversB : Overs (look tabB) (memosA memL Y39) where
  o19 := fun m n a b d e hF hG hd he => overlap_spec (by kernel_rfl) (by kernel_rfl) (by kernel_rfl) valsB m n a b d e hF hG hd he
  o20 := fun m n a b d e hF hG hd he => refOverlap_spec (by kernel_rfl) (by kernel_rfl) (by kernel_rfl) valsB m n a b d e hF hG hd he
theorem overlap_pure (m : FM) (n : Nat) (a b : Cmd) (d e : Value) (hF : a.Fit) (hG : b.Fit) (hd : DatV m n d a.data) (he : DatV m n e b.data) :
    Pure (callW PG (look tabB) (memosA memL Y39) 6 [cmdV a d, cmdV b e] m n) m n (.bool true) := overlap_law (by kernel_rfl) (by kernel_rfl) oversB awake_pure m n a b d e hF hG hd he
theorem self_pure (m : FM) (n : Nat) (a : Cmd) (d : Value) (hF : a.Fit) (hd : DatV m n d a.data) :
    Pure (callW PG (look tabB) (memosA memL Y39) 7 [cmdV a d] m n) m n (.bool true) := self_law (by kernel_rfl) (by kernel_rfl) valsB oversB awake_pure m n a d hF hd
end Go.Am.C39
namespace Go.Am.C39
open Go Go.Am Go.RowKit Go.ChangeShapes
set_option maxRecDepth 100000
theorem u24 : PG.underlying 24 = some (.struct (PG.fieldsOf 24)) := by kernel_rfl
theorem l24 : (PG.fieldsOf 24).toList.map (fun f => (f.offset, f.type)) = [(0, 3), (1, 3), (2, 3), (3, 4), (4, 9), (5, 9), (6, 3), (7, 3), (8, 22)] := by kernel_rfl
theorem u3 : PG.underlying 3 = some (.int .i64) := by kernel_rfl
theorem u9 : PG.underlying 9 = some .string := by kernel_rfl
theorem u22 : PG.underlying 22 = some (.slice 35) := by kernel_rfl
theorem u35 : PG.underlying 35 = some (.array 8 5) := by kernel_rfl
theorem u5 : PG.underlying 5 = some (.int .u8) := by kernel_rfl
theorem c24 : PG.cellsOf 24 = 9 := by kernel_rfl
theorem c3 : PG.cellsOf 3 = 1 := by kernel_rfl
theorem c4 : PG.cellsOf 4 = 1 := by kernel_rfl
theorem c9 : PG.cellsOf 9 = 1 := by kernel_rfl
theorem c22 : PG.cellsOf 22 = 1 := by kernel_rfl
theorem c35 : PG.cellsOf 35 = 8 := by kernel_rfl
theorem c5 : PG.cellsOf 5 = 1 := by kernel_rfl
theorem wf_i64 {n : Int} (h : (Lit.int .i64 n).wf = true) : -9223372036854775808 ≤ n ∧ n < 9223372036854775808 := by
  simp only [Lit.wf, Bool.and_eq_true, decide_eq_true_eq] at h
  have h1 : IntKind.i64.min = -9223372036854775808 := by kernel_rfl
  have h2 : IntKind.i64.max = 9223372036854775807 := by kernel_rfl
  rw [h1, h2] at h
  omega
theorem cmd_of_trod {H : Type} {enc : TypeId × Value → H} {w : World} {held : Bool} {sp : Nat → Bool} {fuel : Nat} {cs : List Value} {x : DataW H × List MemPlace} (h : DataW.trod enc PG w 0 sp held fuel 24 cs = some x) :
    ∃ (c : Cmd) (sv : Value), cs = c.cells sv ∧ c.Fit ∧ DatW w sv c.data := by
  obtain ⟨xs, n, _, _, hl, hn, hall⟩ := DataW.trod_struct u24 h
  rw [c24] at hl
  have fld : ∀ (i off ty : Nat), [(0, 3), (1, 3), (2, 3), (3, 4), (4, 9), (5, 9), (6, 3), (7, 3), (8, 22)][i]? = some (off, ty) → ∃ y, DataW.trod enc PG w 0 sp held n ty ((cs.drop off).take (PG.cellsOf ty)) = some y := fun i off ty hi => by
    rw [← l24, List.getElem?_map] at hi
    cases hf : (PG.fieldsOf 24).toList[i]? with
    | none => rw [hf] at hi; cases hi
    | some f =>
      rw [hf] at hi
      injection hi with hi; injection hi with e1 e2
      subst e1; subst e2
      have hf' : (PG.fieldsOf 24)[i]? = some f := by simpa using hf
      have hi9 : i < xs.length := by rw [hn]; exact (Array.getElem?_eq_some_iff.1 hf').1
      exact ⟨xs[i], by rw [hall i f hf', List.getElem?_eq_getElem hi9]⟩
  match cs, hl with
  | [a0, a1, a2, a3, a4, a5, a6, a7, a8], _ =>
    obtain ⟨_, h0⟩ := fld 0 0 3 rfl
    obtain ⟨_, h1⟩ := fld 1 1 3 rfl
    obtain ⟨_, h2⟩ := fld 2 2 3 rfl
    obtain ⟨_, h3⟩ := fld 3 3 4 rfl
    obtain ⟨_, h4⟩ := fld 4 4 9 rfl
    obtain ⟨_, h5⟩ := fld 5 5 9 rfl
    obtain ⟨_, h6⟩ := fld 6 6 3 rfl
    obtain ⟨_, h7⟩ := fld 7 7 3 rfl
    obtain ⟨_, h8⟩ := fld 8 8 22 rfl
    rw [c3] at h0 h1 h2 h6 h7
    rw [c4] at h3
    rw [c9] at h4 h5
    rw [c22] at h8
    obtain ⟨tag, k0, _, w0⟩ := DataW.trod_int u3 h0
    obtain ⟨kind, k1, _, w1⟩ := DataW.trod_int u3 h1
    obtain ⟨ord, k2, _, w2⟩ := DataW.trod_int u3 h2
    obtain ⟨force, k3, _⟩ := DataW.trod_bool t4 h3
    obtain ⟨vol, k4, _, w4⟩ := DataW.trod_string u9 h4
    obtain ⟨oth, k5, _, w5⟩ := DataW.trod_string u9 h5
    obtain ⟨at_, k6, _, w6⟩ := DataW.trod_int u3 h6
    obtain ⟨len, k7, _, w7⟩ := DataW.trod_int u3 h7
    obtain ⟨sv, dl, k8, hdl, hS⟩ := slice_of_trod u22 c35 (by omega) h8
    obtain ⟨ds, hds, hD⟩ := datW_of_slice (w := w) (v := sv) (len := dl) (by
      rcases hS with h | h | ⟨blk, off, cap, cc, ty, fz, e1, e2, e3, e4, e5, e6⟩
      · exact .inl h
      · exact .inr (.inl h)
      · refine .inr (.inr ⟨blk, off, cap, cc, ty, fz, e1, e2, e3, e4, e5, fun i hi => ?_⟩)
        obtain ⟨l, q1, q2, n', y, q3⟩ := e6 i hi
        obtain ⟨d, hd, rfl⟩ := bytes_of_trod u35 u5 c5 q1 q3
        exact ⟨_, q1, q2, d, hd, rfl⟩)
    simp only [List.drop_succ_cons, List.drop_zero, List.take_succ_cons, List.take_zero, List.cons.injEq, and_true] at k0 k1 k2 k3 k4 k5 k6 k7 k8
    subst k0; subst k1; subst k2; subst k3; subst k4; subst k5; subst k6; subst k7; subst k8
    exact ⟨⟨tag, kind, ord, force, vol, oth, at_, len, ds⟩, _, rfl, ⟨wf_i64 w0, wf_i64 w1, wf_i64 w2, wf_i64 w6, wf_i64 w7, w4, w5, by show ds.length ≤ _; rw [hds]; exact hdl⟩, hD⟩
end Go.Am.C39
namespace Go.Am.C39
open Go Go.Am Go.RowKit
def u8all (ds : List (List Int)) : List Value := (ds.map fun d => d.map (Value.int .u8)).flatten
theorem u8all_cons (d : List Int) (ds : List (List Int)) : u8all (d :: ds) = u8s d ++ u8all ds := rfl
theorem u8all_len : ∀ {ds : List (List Int)}, (∀ d ∈ ds, d.length = 8) → (u8all ds).length = ds.length * 8
  | [], _ => rfl
  | d :: ds, h => by
    rw [u8all_cons, List.length_append, u8all_len fun e he => h e (List.mem_cons_of_mem _ he), u8s, List.length_map, h d (List.mem_cons_self ..), List.length_cons]; omega
theorem u8all_drop : ∀ {ds : List (List Int)}, (∀ d ∈ ds, d.length = 8) → ∀ i (hi : i < ds.length), ((u8all ds).drop (i * 8)).take 8 = u8s ds[i]
  | d :: ds, h, 0, _ => by
    rw [u8all_cons, Nat.zero_mul, List.drop_zero, List.take_append_of_le_length (by rw [u8s, List.length_map, h d (List.mem_cons_self ..)]; exact Nat.le_refl _), List.take_of_length_le (by rw [u8s, List.length_map, h d (List.mem_cons_self ..)]; exact Nat.le_refl _)]; rfl
  | d :: ds, h, i + 1, hi => by
    have hl : (u8s d).length = 8 := by rw [u8s, List.length_map, h d (List.mem_cons_self ..)]
    rw [u8all_cons, show (i + 1) * 8 = (u8s d).length + i * 8 by rw [hl]; omega, List.drop_append, Nat.add_sub_cancel_left, List.drop_eq_nil_of_le (by omega), List.nil_append]
    exact u8all_drop (fun e he => h e (List.mem_cons_of_mem _ he)) i (by simpa using hi)
theorem dat_ent {w : World} {sv : Value} {ds : List (List Int)} (h : DatW w sv ds) (i : Nat) : ∃ (o : Option Ent) (v : Value), (∀ ρ : Ren, (∀ e, o = some e → ρ i = some e.p) → VRel ρ v sv) ∧ (∀ ρ e, o = some e → EntOk w ρ e) ∧
    ∀ (m : FM) (n : Nat), i < n → (∀ e, o = some e → m i = some (.cells e.cs e.p.sz false false)) → DatV m n v ds := by
  rcases h with ⟨rfl, rfl⟩ | ⟨a, c, rfl, rfl⟩ | ⟨blk, off, cap, cc, ty, fz, rfl, h0, h1, h2, h3, h4⟩
  · exact ⟨none, .slice none 0 0, fun ρ _ => .flat rfl, fun ρ e h => (by cases h), fun m n _ _ => DatV.nil m n⟩
  · exact ⟨none, .slice (some ⟨i, 0, none⟩) 0 VAG, fun ρ _ => .vag, fun ρ e h => (by cases h), fun m n hi _ => ⟨_, _, rfl, blt_true (show i < n from hi), .inl rfl⟩⟩
  · have hall : ∀ d ∈ ds, d.length = 8 := fun d hd => by
      obtain ⟨i, hi, rfl⟩ := List.mem_iff_getElem.1 hd
      exact (h4 i hi).1
    have hlen := u8all_len hall
    refine ⟨some ⟨⟨blk, off, cap * 8, 8⟩, u8all ds⟩, .slice (some ⟨i, 0, none⟩) ds.length UNK, fun ρ hρ => ?_, fun ρ e he => ?_, fun m n hi hm => ?_⟩
    · exact VRel.slice (p := ⟨blk, off, cap * 8, 8⟩) (hρ _ rfl) h1 (fun _ => by show 0 + cap * 8 = cap * 8; omega) (fun h => absurd rfl h) (by decide)
    · injection he with he; subst he
      refine ⟨cc, ty, fz, h2, by show off + (u8all ds).length ≤ _; rw [hlen]; exact h3, fun j x hx => ?_⟩
      replace hx : (u8all ds)[j]? = some x := hx
      have hj : j < ds.length * 8 := by rw [← hlen]; exact (List.getElem?_eq_some_iff.1 hx).1
      have hq : j / 8 < ds.length := by omega
      have hr : j % 8 < 8 := Nat.mod_lt _ (by omega)
      have hd := u8all_drop hall (j / 8) hq
      have hx2 : (u8s ds[j / 8])[j % 8]? = some x := by
        rw [← hd, List.getElem?_take, if_pos hr, List.getElem?_drop, show j / 8 * 8 + j % 8 = j by omega]; exact hx
      refine ⟨x, ?_, ?_⟩
      · show cc[off + j]? = some x
        have := (h4 (j / 8) hq).2 (j % 8) hr
        rw [show off + j / 8 * 8 + j % 8 = off + j by omega] at this
        rw [this]; exact hx2
      · rw [u8s, List.getElem?_map] at hx2
        cases hz : (ds[j / 8])[j % 8]? with
        | none => rw [hz] at hx2; cases hx2
        | some z => rw [hz] at hx2; injection hx2 with hx2; subst hx2; exact .int _ _ _
    · refine ⟨_, _, rfl, blt_true (show i < n from hi), .inr ⟨i, 0, u8all ds, false, false, rfl, hi, hm _ rfl, fun k hk => ⟨(h4 k hk).1, ?_⟩⟩⟩
      unfold cellsAt
      rw [ldrop_eq, ctake_eq, Nat.zero_add, if_pos (by rw [List.length_drop, hlen]; omega), u8all_drop hall k hk]
end Go.Am.C39
namespace Go.Am.C39
open Go Go.Am Go.Am.V Go.RowKit
theorem cmd_rel {ρ : Ren} (c : Cmd) {x y : Value} (h : VRel ρ x y) : VRel ρ (cmdV c x) (cmdV c y) := by
  have hL : LRel ρ (c.cells x) (c.cells y) := .cons (.flat rfl) (.cons (.flat rfl) (.cons (.flat rfl) (.cons (.flat rfl) (.cons (.flat rfl) (.cons (.flat rfl) (.cons (.flat rfl) (.cons (.flat rfl) (.cons h (.nil _)))))))))
  exact .agg rfl fun i p q hp hq => hL.2 i p q (by simpa [Cmd.cells] using hp) (by simpa [Cmd.cells] using hq)
theorem two_calls {f : Nat} (a b : Cmd) (sa sb : Value) (w : World) (hgl : Glob w.heap.size w) (ha : DatW w sa a.data) (hb : DatW w sb b.data)
    (hrun : ∀ (m : FM) (n : Nat) (d e : Value), DatV m n d a.data → DatV m n e b.data → Pure (callW PG (look tabB) (memosA memL Y39) f [cmdV a d, cmdV b e] m n) m n (.bool true)) :
    Calls Proofs.Tryd.prog f #[cmdV a sa, cmdV b sb] w fun e w' => e = .returned (.bool true) ∧ Below w.heap.size w w' := by
  obtain ⟨o1, v1, r1, e1, d1⟩ := dat_ent ha 0
  obtain ⟨o2, v2, r2, e2, d2⟩ := dat_ent hb 1
  have hget : ∀ (i : Nat) e, [o1, o2][i]? = some (some e) → (i = 0 ∧ o1 = some e) ∨ (i = 1 ∧ o2 = some e) := fun i e h => by
    match i, h with
    | 0, h => exact .inl ⟨rfl, by simpa using h⟩
    | 1, h => exact .inr ⟨rfl, by simpa using h⟩
    | i + 2, h => simp at h
  obtain ⟨hm, hf⟩ := ent_world (w := w) (L := [o1, o2]) hgl fun i e h => by
    rcases hget i e h with ⟨_, h⟩ | ⟨_, h⟩
    · exact e1 _ e h
    · exact e2 _ e h
  obtain ⟨r, hr⟩ := hrun (entMem [o1, o2]) 2 v1 v2 (d1 _ 2 (by omega) fun e h => by subst h; rfl) (d2 _ 2 (by omega) fun e h => by subst h; rfl)
  exact Go.Am.Env.topW envB (args' := #[cmdV a sa, cmdV b sb]) hr (.cons (cmd_rel a (r1 _ fun e h => by subst h; rfl)) (.cons (cmd_rel b (r2 _ fun e h => by subst h; rfl)) (.nil _))) hm hf
theorem one_calls {f : Nat} (a : Cmd) (sa : Value) (w : World) (hgl : Glob w.heap.size w) (ha : DatW w sa a.data)
    (hrun : ∀ (m : FM) (n : Nat) (d : Value), DatV m n d a.data → Pure (callW PG (look tabB) (memosA memL Y39) f [cmdV a d] m n) m n (.bool true)) :
    Calls Proofs.Tryd.prog f #[cmdV a sa] w fun e w' => e = .returned (.bool true) ∧ Below w.heap.size w w' := by
  obtain ⟨o1, v1, r1, e1, d1⟩ := dat_ent ha 0
  have hget : ∀ (i : Nat) e, [o1][i]? = some (some e) → i = 0 ∧ o1 = some e := fun i e h => by
    match i, h with
    | 0, h => exact ⟨rfl, by simpa using h⟩
    | i + 1, h => simp at h
  obtain ⟨hm, hf⟩ := ent_world (w := w) (L := [o1]) hgl fun i e h => e1 _ e (hget i e h).2
  obtain ⟨r, hr⟩ := hrun (entMem [o1]) 1 v1 (d1 _ 1 (by omega) fun e h => by subst h; rfl)
  exact Go.Am.Env.topW envB (args' := #[cmdV a sa]) hr (.cons (cmd_rel a (r1 _ fun e h => by subst h; rfl)) (.nil _)) hm hf
theorem commandOverlap_calls (a b : Cmd) (sa sb : Value) (w : World) (hgl : Glob w.heap.size w) (hF : a.Fit) (hG : b.Fit) (ha : DatW w sa a.data) (hb : DatW w sb b.data) :
    Calls Proofs.Tryd.prog 6 #[cmdV a sa, cmdV b sb] w fun e w' => e = .returned (.bool true) ∧ Below w.heap.size w w' :=
  two_calls a b sa sb w hgl ha hb fun m n d e hd he => overlap_pure m n a b d e hF hG hd he
theorem commandSelf_calls (a : Cmd) (sa : Value) (w : World) (hgl : Glob w.heap.size w) (hF : a.Fit) (ha : DatW w sa a.data) :
    Calls Proofs.Tryd.prog 7 #[cmdV a sa] w fun e w' => e = .returned (.bool true) ∧ Below w.heap.size w w' :=
  one_calls a sa w hgl ha fun m n d hd => self_pure m n a d hF hd
end Go.Am.C39
namespace Go.Am.C39
open Go Go.Am Go.Am.V Go.RowKit Go.ChangeShapes Go.WideShapes Go.ChangeAt
set_option maxRecDepth 1000000
theorem returns_listed {H : Type} {enc : TypeId × Value → H} {a : Assume} {C : Checked} {os : Os} {f : FuncId} {fn : Func} {s : ChangeSpec} {conds : List PathCond} {apart fresh handsOn again : Bool} {X : World → Array Value → Prop}
    (hX : ∀ (w w' : World) (args : Array Value), w.heap = w'.heap → X w args → X w' args)
    (own : ownKnob C.prog.godebug = none) (started : os.Started) (noInit : C.prog.inits.idxOf? f = none) (hfn : C.prog.funcs[f]? = some fn)
    (witness : ∃ (w : World) (tape : Tape) (i : Input), w.os = os ∧ (w.forCall tape i).Shaped C.prog ∧ i.vars = [] ∧ Input.okWide C.prog (w.forCall tape i) .any w.heap.size f i ∧
      ((s.pre enc C.prog fn conds apart (w.forCall tape i).memory i.args ∧ X (w.forCall tape i).memory i.args) ∧ sizedMet enc C.prog fn (OpenSpec.ofChange s) apart (w.forCall tape i).memory i.args) ∧ a.holds C.prog (lone (Frame.enter C.prog f i.args .normal) [] (w.forCall tape i)))
    (contract : ∀ (W : World) (args : Array Value) (base : Nat) (ds gs : List (DataW H)) (before : List MemPlace),
      (∀ (j : Nat) t v, fn.params[j]? = some t → args[j]? = some v → Value.okWide C.prog W .any base t v) →
      DataW.Whole enc C.prog fn.params.toList s.vars apart W args.toList ds gs before →
      (DataW.weightsEach C.prog (fn.params.toList ++ s.plain.varTypes C.prog) (ds ++ gs)).all (· ≤ reachBytes) = true → X W args → W.ShapedOpen C.prog →
      Calls C.prog f args W fun e W' => ∃ v, e = .returned v ∧ s.post enc C.prog fn apart fresh handsOn again W args v W') :
    ReturnsInHanded a C os f .any (fun w args => (s.pre enc C.prog fn conds apart w args ∧ X w args) ∧ sizedMet enc C.prog fn (OpenSpec.ofChange s) apart w args) (s.post enc C.prog fn apart fresh handsOn again) := by
  refine returnsInHanded_of_calls own started noInit witness ?_
  intro w tape i _ hsh _ hok hpre hholds
  obtain ⟨_, _, _, fn', hfn', _, _, _, _, hval⟩ := hok
  have e : fn' = fn := Option.some.inj (hfn'.symm.trans hfn)
  subst e
  obtain ⟨⟨⟨ds, gs, before, hw, hc⟩, hx⟩, hz⟩ := hpre
  have hw' := DataW.Whole.of_heap (w' := w.forCall tape i) (by rfl) hw
  refine (contract (w.forCall tape i) i.args w.heap.size ds gs before hval hw' (hz.weights hw) (hX _ _ _ (by rfl) hx) hsh).mono fun e W' ⟨v, he, hp⟩ => ?_
  subst he
  exact ChangeSpec.post_blind hp
theorem maxLen_cell {w : World} (h : w.ShapedOpen PG) : ∃ m, w.cell? ⟨0, 0, none⟩ = some (.int .i64 m) :=
  Go.Proofs.cell_of_shapedOpen_int (zero := #[.int .i64 0]) (t := 3) h (of_decide_eq_true (by kernel_rfl)) (by kernel_rfl) rfl (by kernel_rfl) (by kernel_rfl) u3
theorem cell_below {B : Nat} {w w' : World} (h : Below B w w') (hB : 0 < B) : w'.cell? ⟨0, 0, none⟩ = w.cell? ⟨0, 0, none⟩ := by
  unfold World.cell?
  rw [show w'.heap[(⟨0, 0, none⟩ : Addr).block]? = w.heap[(⟨0, 0, none⟩ : Addr).block]? from h.block 0 hB]
theorem pow_is {w : World} {l : List (String × DataW Unit)} (h : laidMet PG l w) (hm : ("internal/strconv.uint64pow10", Go.Proofs.YtibpnegblcdioaaDoor.Rows.laid_internal_strconv_uint64pow10) ∈ l) : Lib.TabIs PG w "internal/strconv.uint64pow10" .u64 Lib.pow10Tab := by
  obtain ⟨g, t, cs, fuel, p, h1, h2, h3, h4⟩ := Lib.laidMet.reads h hm
  obtain rfl : g = 3 := Option.some.inj (h1.symm.trans (by kernel_rfl))
  obtain rfl : t = 113 := Option.some.inj (h2.symm.trans (by kernel_rfl))
  rw [show (Go.Proofs.YtibpnegblcdioaaDoor.Rows.laid_internal_strconv_uint64pow10 : DataW Unit) = Lib.tabData .u64 Lib.pow10Tab by kernel_rfl] at h4
  unfold Lib.TabIs
  rw [h3, ← Lib.cells_of_tab (n := 20) (e := 56) (by kernel_rfl) (by kernel_rfl) (by kernel_rfl) (by kernel_rfl) h4]
theorem cell_belowG {B : Nat} {w w' : World} (h : Below B w w') {g : Nat} (hB : g < B) : w'.cell? ⟨g, 0, none⟩ = w.cell? ⟨g, 0, none⟩ := by
  unfold World.cell?
  rw [show w'.heap[(⟨g, 0, none⟩ : Addr).block]? = w.heap[(⟨g, 0, none⟩ : Addr).block]? from h.block g hB]
theorem cell_lt {w : World} {g : Nat} {v : Value} (hc : w.cell? ⟨g, 0, none⟩ = some v) : g < w.heap.size := by
  rcases Nat.lt_or_ge g w.heap.size with h | h
  · exact h
  · unfold World.cell? at hc
    rw [Array.getElem?_eq_none (by exact h)] at hc
    cases hc
theorem err_is {w : World} {l : List (String × DataW Unit)} (h : laidMet PG l w) {nm tn : String} {d : DataW Unit} {g t : Nat} {ms : Array (String × TypeId)} (hm : (nm, DataW.iface tn d) ∈ l) (hg : PG.globalNamed nm = some g) (ht : (PG.globals[g]?).map (·.type) = some t) (hi : PG.underlying t = some (.interface ms)) : ErrV w g := by
  obtain ⟨g', t', cs, fuel, p, h1, h2, h3, h4⟩ := Lib.laidMet.reads h hm
  obtain rfl : g' = g := Option.some.inj (h1.symm.trans hg)
  obtain rfl : t' = t := Option.some.inj (h2.symm.trans ht)
  obtain ⟨_, u, v, hcs, _, _⟩ := iface_of_trod hi h4
  refine ⟨.iface u v, ?_, .inr ⟨u, v, rfl⟩⟩
  unfold World.var? at h3
  rw [h1] at h3
  replace h3 : (match w.heap[g']? with | some (.cells cs _ _) => some cs | _ => none) = some cs := h3
  unfold World.cell?
  simp only
  split at h3
  · rename_i c _ _ hc
    injection h3 with h3
    subst h3
    rw [hc]
    obtain ⟨c⟩ := c
    replace hcs : c = _ := hcs
    subst hcs
    rfl
  · cases h3
theorem glob_of {w : World} {l : List (String × DataW Unit)} (hs : w.ShapedOpen PG) (h : laidMet PG l w) (hm : ("internal/strconv.uint64pow10", Go.Proofs.YtibpnegblcdioaaDoor.Rows.laid_internal_strconv_uint64pow10) ∈ l) (h1 : ("strconv.ErrSyntax", Go.Proofs.YtibpnegblcdioaaDoor.Rows.laid_strconv_ErrSyntax) ∈ l) (h2 : ("strconv.ErrRange", Go.Proofs.YtibpnegblcdioaaDoor.Rows.laid_strconv_ErrRange) ∈ l) : Glob w.heap.size w := fun w' hb => by
  obtain ⟨m, hc⟩ := maxLen_cell hs
  obtain ⟨e1, c1, k1⟩ := err_is h (tn := "*errors.errorString") (g := 1) (t := 53) (ms := ((PG.underlying 53).bind fun | .interface m => some m | _ => none).getD #[]) h1 (by kernel_rfl) (by kernel_rfl) (by kernel_rfl)
  obtain ⟨e2, c2, k2⟩ := err_is h (tn := "*errors.errorString") (g := 2) (t := 53) (ms := ((PG.underlying 53).bind fun | .interface m => some m | _ => none).getD #[]) h2 (by kernel_rfl) (by kernel_rfl) (by kernel_rfl)
  exact ⟨⟨⟨m, (cell_below hb (cell_lt hc)).trans hc⟩, Lib.tabBelow_of_tabIs (pow_is h hm) w' hb⟩, ⟨e1, (cell_belowG hb (cell_lt c1)).trans c1, k1⟩, ⟨e2, (cell_belowG hb (cell_lt c2)).trans c2, k2⟩⟩
end Go.Am.C39
