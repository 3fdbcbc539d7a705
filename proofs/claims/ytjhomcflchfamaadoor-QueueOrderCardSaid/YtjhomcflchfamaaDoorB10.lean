/- The machine and its runs, part 10: Am41a AmEql AmEqA AmBool Am41b AmSz AmLst AmMapW AmNil Am41p Am41q. -/
import Derived.Laws.StructEq
import Derived.Test.YtjhomcflchfamaaDoorB9
set_option linter.unusedVariables false
set_option linter.unusedSimpArgs false
set_option linter.unusedSectionVars false
namespace Go.Am.C41
open Go Go.Am
variable {E : Nat → Option AFn} {Y : Nat → List Value → FM → Nat → OR FM}
theorem set_at {c : Nat} (h : c < 256) : cget setL c = some (.bool (inSet c)) := by
  rw [cget_eq, setL, List.getElem?_map, List.getElem?_range h]; rfl
theorem contains_spec (hE : E 74 = some ac74) (m : FM) (n q sz : Nat) (opn wr : Bool) (hq : q < n) (hm : m q = some (.cells setL sz opn wr)) (c : Nat) (hc : c < 256) :
    Pure (callW PG E Y 74 [.pointer (some ⟨q, 0, none⟩), .int .u8 (c : Int)] m n) m n (.bool (inSet c)) := by
  refine pure_spec hE rfl rfl ?_
  have h1 := set_at hc
  simp only [ac74]
  simp (implicitDefEqProofs := false) (disch := omega) only [WPs, opds, List.all_cons, List.all_nil, List.cons_append, List.nil_append, cond_true, cond_false, eq_self, List.map_cons, List.map_nil, Nat.reduceAdd, Nat.testBit, Nat.reduceShiftRight, Nat.reduceAnd, Nat.reduceBNe, Nat.reduceMul, hm, h1]
def AllIn (s : ByteArray) (a b : Nat) : Prop := ∀ i, a ≤ i → i < b → inSet (bt s i) = true
theorem trimL_L0 (h49 : E 74 = some ac74) (m : FM) (n q sz : Nat) (opn wr : Bool) (hq : q < n) (hm : m q = some (.cells setL sz opn wr)) (s : ByteArray) (x1 x2 : Value) {Q : AX → List Value → FM → Nat → Nat → Prop}
    (hQ : ∀ k, k ≤ s.size → AllIn s 0 k → (k < s.size → inSet (bt s k) = false) → Q (.exit 0) [.string (s.extract k s.size), x1, x2, .pointer (some ⟨q, 0, none⟩)] m n 0) : ∀ d j, j + d = s.size → AllIn s 0 j →
    Gv (execW PG E Y ac70L0 [.string (s.extract j s.size), x1, x2, .pointer (some ⟨q, 0, none⟩)] m n) Q := by
  intro d
  induction d with
  | zero =>
    intro j hj ha
    have hz : (s.extract j s.size).size = 0 := by rw [ext_size]; omega
    refine wr_loopN (L := ac70L0) (b := ac70L0b) rfl ?_
    simp only [ac70L0b]
    simp (implicitDefEqProofs := false) (disch := omega) only [WPs, opds, List.all_cons, List.all_nil, List.cons_append, List.nil_append, cond_true, cond_false, eq_self, List.map_cons, List.map_nil, Nat.reduceAdd, Nat.testBit, Nat.reduceShiftRight, Nat.reduceAnd, Nat.reduceBNe, Nat.reduceMul, STs, hz]
    exact hQ j (by omega) ha (fun h => by omega)
  | succ d ih =>
    intro j hj ha
    have hz : (s.extract j s.size).size = s.size - j := by rw [ext_size]; omega
    have hb : bt (s.extract j s.size) 0 = bt s j := ext_bt s (by omega)
    refine wr_loopN (L := ac70L0) (b := ac70L0b) rfl ?_
    simp only [ac70L0b]
    simp (implicitDefEqProofs := false) (disch := omega) only [WPs, opds, List.all_cons, List.all_nil, List.cons_append, List.nil_append, cond_true, cond_false, eq_self, List.map_cons, List.map_nil, Nat.reduceAdd, Nat.testBit, Nat.reduceShiftRight, Nat.reduceAnd, Nat.reduceBNe, Nat.reduceMul, STs, hz, hb]
    refine use_pure (contains_spec h49 _ _ q sz opn wr hq hm _ (bt_lt s j)) fun r1 => ?_
    cases hin : inSet (bt s j)
    · simp (implicitDefEqProofs := false) (disch := omega) only [WPs, opds, List.all_cons, List.all_nil, List.cons_append, List.nil_append, cond_true, cond_false, eq_self, List.map_cons, List.map_nil, Nat.reduceAdd, Nat.testBit, Nat.reduceShiftRight, Nat.reduceAnd, Nat.reduceBNe, Nat.reduceMul, STs, hz]
      exact hQ j (by omega) ha (fun _ => hin)
    · have hx : (s.extract j s.size).extract 1 (s.size - j) = s.extract (j + 1) s.size := by rw [ext_ext]; congr 1; omega
      simp (implicitDefEqProofs := false) (disch := omega) only [WPs, opds, List.all_cons, List.all_nil, List.cons_append, List.nil_append, cond_true, cond_false, eq_self, List.map_cons, List.map_nil, Nat.reduceAdd, Nat.testBit, Nat.reduceShiftRight, Nat.reduceAnd, Nat.reduceBNe, Nat.reduceMul, STs, hz, hx]
      exact wr_end' ((ih (j + 1) (by omega) (fun i _ hi => by
        rcases Nat.lt_or_ge i j with h | h
        · exact ha i (Nat.zero_le _) h
        · have : i = j := by omega
          subst this; exact hin)).mono fun X e m n w hq => by simpa only [zero_lor'] using hq)
theorem left_ex (s : ByteArray) : ∀ d j, j + d = s.size → AllIn s 0 j → ∃ k, k ≤ s.size ∧ AllIn s 0 k ∧ (k < s.size → inSet (bt s k) = false)
  | 0, j, hj, ha => ⟨j, by omega, ha, fun h => by omega⟩
  | d + 1, j, hj, ha => by
    cases h : inSet (bt s j)
    · exact ⟨j, by omega, ha, fun _ => h⟩
    · exact left_ex s d (j + 1) (by omega) fun i _ hi => by
        rcases Nat.lt_or_ge i j with h1 | h1
        · exact ha i (Nat.zero_le _) h1
        · have : i = j := by omega
          subst this; exact h
theorem right_ex (s : ByteArray) : ∀ k, k ≤ s.size → AllIn s k s.size → ∃ k, k ≤ s.size ∧ AllIn s k s.size ∧ (0 < k → inSet (bt s (k - 1)) = false)
  | 0, hk, ha => ⟨0, hk, ha, fun h => by omega⟩
  | k + 1, hk, ha => by
    cases h : inSet (bt s k)
    · exact ⟨k + 1, hk, ha, fun _ => h⟩
    · exact right_ex s k (by omega) fun i hi h2 => by
        rcases Nat.lt_or_ge k i with h1 | h1
        · exact ha i h1 h2
        · have : i = k := by omega
          subst this; exact h
theorem left_uniq {s : ByteArray} {a b : Nat} (ha : a ≤ s.size) (hb : b ≤ s.size) (h1 : AllIn s 0 a) (h2 : AllIn s 0 b) (k1 : a < s.size → inSet (bt s a) = false) (k2 : b < s.size → inSet (bt s b) = false) : a = b := by
  rcases Nat.lt_trichotomy a b with h | h | h
  · have := h2 a (Nat.zero_le _) h
    rw [k1 (by omega)] at this; cases this
  · exact h
  · have := h1 b (Nat.zero_le _) h
    rw [k2 (by omega)] at this; cases this
theorem right_uniq {s : ByteArray} {a b : Nat} (ha : a ≤ s.size) (hb : b ≤ s.size) (h1 : AllIn s a s.size) (h2 : AllIn s b s.size) (k1 : 0 < a → inSet (bt s (a - 1)) = false) (k2 : 0 < b → inSet (bt s (b - 1)) = false) : a = b := by
  rcases Nat.lt_trichotomy a b with h | h | h
  · have := h1 (b - 1) (by omega) (by omega)
    rw [k2 (by omega)] at this; cases this
  · exact h
  · have := h2 (a - 1) (by omega) (by omega)
    rw [k1 (by omega)] at this; cases this
theorem trimL_spec (h45 : E 70 = some ac70) (h49 : E 74 = some ac74) (m : FM) (n q sz : Nat) (opn wr : Bool) (hq : q < n) (hm : m q = some (.cells setL sz opn wr)) (s : ByteArray) :
    ∃ k, k ≤ s.size ∧ AllIn s 0 k ∧ (k < s.size → inSet (bt s k) = false) ∧ Pure (callW PG E Y 70 [.string s, .pointer (some ⟨q, 0, none⟩)] m n) m n (.string (s.extract k s.size)) := by
  obtain ⟨k, hk, ha, hs⟩ := left_ex s s.size 0 (by omega) (fun i _ h => by omega)
  refine ⟨k, hk, ha, hs, pure_spec h45 rfl rfl ?_⟩
  have hx := ext_all s
  have hL := fun Q hQ => trimL_L0 (E := E) (Y := Y) h49 m n q sz opn wr hq hm s (.string ⟨#[]⟩) (.string s) (Q := Q) hQ s.size 0 (by omega) (fun i _ h => by omega)
  rw [hx] at hL
  simp only [ac70]
  simp (implicitDefEqProofs := false) (disch := omega) only [WPs, opds, List.all_cons, List.all_nil, List.cons_append, List.nil_append, cond_true, cond_false, eq_self, List.map_cons, List.map_nil, Nat.reduceAdd, Nat.testBit, Nat.reduceShiftRight, Nat.reduceAnd, Nat.reduceBNe, Nat.reduceMul]
  refine wr_cps (hL _ fun k' k1 k2 k3 r1 => ?_)
  obtain rfl := left_uniq hk k1 ha k2 hs k3
  simp (implicitDefEqProofs := false) (disch := omega) only [WPs, opds, List.all_cons, List.all_nil, List.cons_append, List.nil_append, cond_true, cond_false, eq_self, List.map_cons, List.map_nil, Nat.reduceAdd, Nat.testBit, Nat.reduceShiftRight, Nat.reduceAnd, Nat.reduceBNe, Nat.reduceMul]
theorem trimR_L0 (h49 : E 74 = some ac74) (m : FM) (n q sz : Nat) (opn wr : Bool) (hq : q < n) (hm : m q = some (.cells setL sz opn wr)) (s : ByteArray) (hl : s.size ≤ 9223372036854775807) (x1 x2 : Value) {Q : AX → List Value → FM → Nat → Nat → Prop}
    (hQ : ∀ k, k ≤ s.size → AllIn s k s.size → (0 < k → inSet (bt s (k - 1)) = false) → Q (.exit 0) [.string (s.extract 0 k), x1, x2, .pointer (some ⟨q, 0, none⟩)] m n 0) : ∀ j, j ≤ s.size → AllIn s j s.size →
    Gv (execW PG E Y ac71L0 [.string (s.extract 0 j), x1, x2, .pointer (some ⟨q, 0, none⟩)] m n) Q := by
  intro j
  induction j with
  | zero =>
    intro hj ha
    have hz : (s.extract 0 0).size = 0 := by rw [ext_size]; omega
    refine wr_loopN (L := ac71L0) (b := ac71L0b) rfl ?_
    simp only [ac71L0b]
    simp (implicitDefEqProofs := false) (disch := omega) only [WPs, opds, List.all_cons, List.all_nil, List.cons_append, List.nil_append, cond_true, cond_false, eq_self, List.map_cons, List.map_nil, Nat.reduceAdd, Nat.testBit, Nat.reduceShiftRight, Nat.reduceAnd, Nat.reduceBNe, Nat.reduceMul, STs, hz]
    exact hQ 0 (by omega) ha (fun h => by omega)
  | succ j ih =>
    intro hj ha
    have hz : (s.extract 0 (j + 1)).size = j + 1 := by rw [ext_size]; omega
    have hb : bt (s.extract 0 (j + 1)) j = bt s j := by rw [ext_bt s (by omega), Nat.zero_add]
    have hc : ((j + 1 : Nat) : Int) - 1 = (j : Int) := by omega
    refine wr_loopN (L := ac71L0) (b := ac71L0b) rfl ?_
    simp only [ac71L0b]
    simp (implicitDefEqProofs := false) (disch := omega) only [WPs, opds, List.all_cons, List.all_nil, List.cons_append, List.nil_append, cond_true, cond_false, eq_self, List.map_cons, List.map_nil, Nat.reduceAdd, Nat.testBit, Nat.reduceShiftRight, Nat.reduceAnd, Nat.reduceBNe, Nat.reduceMul, STs, hz, hc, hb]
    refine use_pure (contains_spec h49 _ _ q sz opn wr hq hm _ (bt_lt s j)) fun r1 => ?_
    cases hin : inSet (bt s j)
    · simp (implicitDefEqProofs := false) (disch := omega) only [WPs, opds, List.all_cons, List.all_nil, List.cons_append, List.nil_append, cond_true, cond_false, eq_self, List.map_cons, List.map_nil, Nat.reduceAdd, Nat.testBit, Nat.reduceShiftRight, Nat.reduceAnd, Nat.reduceBNe, Nat.reduceMul, STs, hz]
      exact hQ (j + 1) (by omega) ha (fun _ => hin)
    · have hx : (s.extract 0 (j + 1)).extract 0 j = s.extract 0 j := by rw [ext_ext]; congr 1; omega
      simp (implicitDefEqProofs := false) (disch := omega) only [WPs, opds, List.all_cons, List.all_nil, List.cons_append, List.nil_append, cond_true, cond_false, eq_self, List.map_cons, List.map_nil, Nat.reduceAdd, Nat.testBit, Nat.reduceShiftRight, Nat.reduceAnd, Nat.reduceBNe, Nat.reduceMul, STs, hz, hc, hx]
      exact wr_end' ((ih (by omega) (fun i hi h2 => by
        rcases Nat.lt_or_ge j i with h | h
        · exact ha i h h2
        · have : i = j := by omega
          subst this; exact hin)).mono fun X e m n w hq => by simpa only [zero_lor'] using hq)
theorem trimR_spec (h46 : E 71 = some ac71) (h49 : E 74 = some ac74) (m : FM) (n q sz : Nat) (opn wr : Bool) (hq : q < n) (hm : m q = some (.cells setL sz opn wr)) (s : ByteArray) (hl : s.size ≤ 9223372036854775807) :
    ∃ k, k ≤ s.size ∧ AllIn s k s.size ∧ (0 < k → inSet (bt s (k - 1)) = false) ∧ Pure (callW PG E Y 71 [.string s, .pointer (some ⟨q, 0, none⟩)] m n) m n (.string (s.extract 0 k)) := by
  obtain ⟨k, hk, ha, hs⟩ := right_ex s s.size (Nat.le_refl _) (fun i h h2 => by omega)
  refine ⟨k, hk, ha, hs, pure_spec h46 rfl rfl ?_⟩
  have hx := ext_all s
  have hL := fun Q hQ => trimR_L0 (E := E) (Y := Y) h49 m n q sz opn wr hq hm s hl (.string ⟨#[]⟩) (.string s) (Q := Q) hQ s.size (Nat.le_refl _) (fun i h h2 => by omega)
  rw [hx] at hL
  simp only [ac71]
  simp (implicitDefEqProofs := false) (disch := omega) only [WPs, opds, List.all_cons, List.all_nil, List.cons_append, List.nil_append, cond_true, cond_false, eq_self, List.map_cons, List.map_nil, Nat.reduceAdd, Nat.testBit, Nat.reduceShiftRight, Nat.reduceAnd, Nat.reduceBNe, Nat.reduceMul]
  refine wr_cps (hL _ fun k' k1 k2 k3 r1 => ?_)
  obtain rfl := right_uniq hk k1 ha k2 hs k3
  simp (implicitDefEqProofs := false) (disch := omega) only [WPs, opds, List.all_cons, List.all_nil, List.cons_append, List.nil_append, cond_true, cond_false, eq_self, List.map_cons, List.map_nil, Nat.reduceAdd, Nat.testBit, Nat.reduceShiftRight, Nat.reduceAnd, Nat.reduceBNe, Nat.reduceMul]
theorem set_put : setCells (List.replicate 256 (.bool false)) 0 setL = some setL := by kernel_rfl
theorem set_len : llen setL = 256 := by kernel_rfl
theorem set_one : setL.all one = true := by kernel_rfl
theorem e_tup0 (a b : Value) : extrV 0 (.tuple #[a, b]) = some a := rfl
theorem e_tup1 (a b : Value) : extrV 1 (.tuple #[a, b]) = some b := rfl
theorem trim_spec (h41 : E 64 = some ac64) (h45 : E 70 = some ac70) (h46 : E 71 = some ac71) (h49 : E 74 = some ac74) (h44 : ∀ m n, Pure (callW PG E Y 69 [.string cutS] m n) m n (.tuple #[.agg setL.toArray, .bool true])) (m : FM) (n : Nat) (s : ByteArray) (hl : s.size ≤ 9223372036854775807) :
    ∃ r : ByteArray, (r = ⟨#[]⟩ ↔ AllIn s 0 s.size) ∧ Pure (callW PG E Y 64 [.string s, .string cutS] m n) m n (.string r) := by
  have hcut : cutS ≠ ⟨#[]⟩ := by rw [Ne, size_zero]; decide
  have hcs : cutS.size = 36 := rfl
  by_cases h0 : s = ⟨#[]⟩
  · refine ⟨⟨#[]⟩, ⟨fun _ i _ hi => ?_, fun _ => rfl⟩, pure_spec h41 rfl rfl ?_⟩
    · rw [size_zero.1 h0] at hi; omega
    · simp only [ac64]
      simp (implicitDefEqProofs := false) (disch := omega) only [WPs, opds, List.all_cons, List.all_nil, List.cons_append, List.nil_append, cond_true, cond_false, eq_self, List.map_cons, List.map_nil, Nat.reduceAdd, Nat.testBit, Nat.reduceShiftRight, Nat.reduceAnd, Nat.reduceBNe, Nat.reduceMul, STs, h0]
  · obtain ⟨r, hr, hra, hrs, hR⟩ : ∃ k, k ≤ s.size ∧ AllIn s k s.size ∧ (0 < k → inSet (bt s (k - 1)) = false) ∧ True := by
      obtain ⟨k, h1, h2, h3⟩ := right_ex s s.size (Nat.le_refl _) (fun i h h2 => by omega)
      exact ⟨k, h1, h2, h3, trivial⟩
    obtain ⟨k, hk, hka, hks, hK⟩ : ∃ k, k ≤ (s.extract 0 r).size ∧ AllIn (s.extract 0 r) 0 k ∧ (k < (s.extract 0 r).size → inSet (bt (s.extract 0 r) k) = false) ∧ True := by
      obtain ⟨k, h1, h2, h3⟩ := left_ex (s.extract 0 r) (s.extract 0 r).size 0 (by omega) (fun i _ h => by omega)
      exact ⟨k, h1, h2, h3, trivial⟩
    have hz : (s.extract 0 r).size = r := by rw [ext_size]; omega
    refine ⟨(s.extract 0 r).extract k (s.extract 0 r).size, ?_, pure_spec h41 rfl rfl ?_⟩
    · rw [size_zero, ext_size, Nat.min_self, hz]
      rw [hz] at hk hks
      constructor
      · intro h
        rcases Nat.eq_zero_or_pos r with h1 | h1
        · subst h1; exact hra
        · have hin := hka (r - 1) (Nat.zero_le _) (by omega)
          rw [ext_bt s (by omega), Nat.zero_add, hrs h1] at hin; cases hin
      · intro h
        rcases Nat.eq_zero_or_pos r with h1 | h1
        · omega
        · have hin := h (r - 1) (Nat.zero_le _) (by omega)
          rw [hrs h1] at hin; cases hin
    · simp only [ac64]
      simp (implicitDefEqProofs := false) (disch := omega) only [WPs, opds, List.all_cons, List.all_nil, List.cons_append, List.nil_append, cond_true, cond_false, eq_self, List.map_cons, List.map_nil, Nat.reduceAdd, Nat.testBit, Nat.reduceShiftRight, Nat.reduceAnd, Nat.reduceBNe, Nat.reduceMul, STs, h0]
      refine use_pure (h44 _ _) fun r1 => ?_
      simp (implicitDefEqProofs := false) (disch := omega) only [WPs, opds, List.all_cons, List.all_nil, List.cons_append, List.nil_append, cond_true, cond_false, eq_self, List.map_cons, List.map_nil, Nat.reduceAdd, Nat.testBit, Nat.reduceShiftRight, Nat.reduceAnd, Nat.reduceBNe, Nat.reduceMul, STs, set_put, set_len, set_one, e_tup0, e_tup1]
      obtain ⟨r', q1, q2, q3, qP⟩ := trimR_spec (E := E) (Y := Y) h46 h49 (AMem.put m n (some (.cells setL 0 false true)) : FM) (n + 1) n 0 false true (by omega) (fput_same _ _ _) s hl
      obtain rfl := right_uniq hr q1 hra q2 hrs q3
      refine use_pure qP fun r2 => ?_
      simp (implicitDefEqProofs := false) (disch := omega) only [WPs, opds, List.all_cons, List.all_nil, List.cons_append, List.nil_append, cond_true, cond_false, eq_self, List.map_cons, List.map_nil, Nat.reduceAdd, Nat.testBit, Nat.reduceShiftRight, Nat.reduceAnd, Nat.reduceBNe, Nat.reduceMul]
      obtain ⟨k', p1, p2, p3, pP⟩ := trimL_spec (E := E) (Y := Y) h45 h49 (AMem.put m n (some (.cells setL 0 false true)) : FM) (n + 1) n 0 false true (by omega) (fput_same _ _ _) (s.extract 0 r)
      obtain rfl := left_uniq hk p1 hka p2 hks p3
      refine use_pure pP fun r3 => ?_
      simp (implicitDefEqProofs := false) (disch := omega) only [WPs, opds, List.all_cons, List.all_nil, List.cons_append, List.nil_append, cond_true, cond_false, eq_self, List.map_cons, List.map_nil, Nat.reduceAdd, Nat.testBit, Nat.reduceShiftRight, Nat.reduceAnd, Nat.reduceBNe, Nat.reduceMul]
def NameP (s : ByteArray) : Prop := 1 ≤ s.size ∧ s.size ≤ 16 ∧ (97 ≤ bt s 0 ∧ bt s 0 ≤ 122) ∧ AllIn s 0 s.size
open Classical in
noncomputable def nameB (s : ByteArray) : Bool := decide (NameP s)
open Classical in
theorem nameB_t {s : ByteArray} (h : NameP s) : nameB s = true := by unfold nameB; exact decide_eq_true h
open Classical in
theorem nameB_f {s : ByteArray} (h : ¬ NameP s) : nameB s = false := by unfold nameB; exact decide_eq_false h
structure Trims (E : Nat → Option AFn) (Y : Nat → List Value → FM → Nat → OR FM) : Prop where
  e41 : E 64 = some ac64
  e45 : E 70 = some ac70
  e46 : E 71 = some ac71
  e49 : E 74 = some ac74
  h44 : ∀ m n, Pure (callW PG E Y 69 [.string cutS] m n) m n (.tuple #[.agg setL.toArray, .bool true])
open Classical in
theorem name_spec (hE : E 52 = some ac52) (hT : Trims E Y) (m : FM) (n : Nat) (s : ByteArray) (hl : s.size ≤ 9223372036854775807) :
    Pure (callW PG E Y 52 [.string s] m n) m n (.bool (nameB s)) := by
  refine pure_spec hE rfl rfl ?_
  simp only [ac52]
  by_cases c1 : s.size = 0
  · rw [nameB_f fun h => by have := h.1; omega]
    simp (implicitDefEqProofs := false) (disch := omega) only [WPs, opds, List.all_cons, List.all_nil, List.cons_append, List.nil_append, cond_true, cond_false, eq_self, List.map_cons, List.map_nil, Nat.reduceAdd, Nat.testBit, Nat.reduceShiftRight, Nat.reduceAnd, Nat.reduceBNe, Nat.reduceMul, STs, c1]
  by_cases c2 : 16 < s.size
  · rw [nameB_f fun h => by have := h.2.1; omega]
    simp (implicitDefEqProofs := false) (disch := omega) only [WPs, opds, List.all_cons, List.all_nil, List.cons_append, List.nil_append, cond_true, cond_false, eq_self, List.map_cons, List.map_nil, Nat.reduceAdd, Nat.testBit, Nat.reduceShiftRight, Nat.reduceAnd, Nat.reduceBNe, Nat.reduceMul, STs]
  by_cases c3 : bt s 0 < 97
  · rw [nameB_f fun h => by have := h.2.2.1.1; omega]
    simp (implicitDefEqProofs := false) (disch := omega) only [WPs, opds, List.all_cons, List.all_nil, List.cons_append, List.nil_append, cond_true, cond_false, eq_self, List.map_cons, List.map_nil, Nat.reduceAdd, Nat.testBit, Nat.reduceShiftRight, Nat.reduceAnd, Nat.reduceBNe, Nat.reduceMul, STs]
  by_cases c4 : 122 < bt s 0
  · rw [nameB_f fun h => by have := h.2.2.1.2; omega]
    simp (implicitDefEqProofs := false) (disch := omega) only [WPs, opds, List.all_cons, List.all_nil, List.cons_append, List.nil_append, cond_true, cond_false, eq_self, List.map_cons, List.map_nil, Nat.reduceAdd, Nat.testBit, Nat.reduceShiftRight, Nat.reduceAnd, Nat.reduceBNe, Nat.reduceMul, STs]
  obtain ⟨r, hr, hP⟩ := trim_spec (E := E) (Y := Y) hT.e41 hT.e45 hT.e46 hT.e49 hT.h44 m n s hl
  simp (implicitDefEqProofs := false) (disch := omega) only [WPs, opds, List.all_cons, List.all_nil, List.cons_append, List.nil_append, cond_true, cond_false, eq_self, List.map_cons, List.map_nil, Nat.reduceAdd, Nat.testBit, Nat.reduceShiftRight, Nat.reduceAnd, Nat.reduceBNe, Nat.reduceMul, STs]
  refine use_pure hP fun r1 => ?_
  have : nameB s = decide (r = ⟨#[]⟩) := by
    unfold nameB
    exact decide_eq_decide.2 ⟨fun h => hr.2 h.2.2.2, fun h => ⟨by omega, by omega, ⟨by omega, by omega⟩, hr.1 h⟩⟩
  rw [this]
  simp (implicitDefEqProofs := false) (disch := omega) only [WPs, opds, List.all_cons, List.all_nil, List.cons_append, List.nil_append, cond_true, cond_false, eq_self, List.map_cons, List.map_nil, Nat.reduceAdd, Nat.testBit, Nat.reduceShiftRight, Nat.reduceAnd, Nat.reduceBNe, Nat.reduceMul, STs]
theorem inSet_f {c : Nat} (h1 : ¬ (97 ≤ c ∧ c ≤ 122)) (h2 : ¬ (48 ≤ c ∧ c ≤ 57)) : inSet c = false := by
  cases h : inSet c
  · rfl
  · unfold inSet at h
    simp only [Bool.or_eq_true, Bool.and_eq_true, Nat.ble_eq] at h
    omega
theorem inSet_t {c : Nat} (h : (97 ≤ c ∧ c ≤ 122) ∨ (48 ≤ c ∧ c ≤ 57)) : inSet c = true := by
  unfold inSet
  simp only [Bool.or_eq_true, Bool.and_eq_true, Nat.ble_eq]
  exact h
theorem Name_L0 (m : FM) (n : Nat) (s : ByteArray) (hl : s.size ≤ 16) (hn : 1 ≤ s.size) {Q : AX → List Value → FM → Nat → Nat → Prop}
    (hQt : NameP s → ∀ e', Q (.exit 0) e' m n 0) (hQf : ¬ NameP s → ∀ e', Q (.ret (.bool false)) e' m n 0) : ∀ d j, j + d = s.size → AllIn s 0 j → (0 < j → 97 ≤ bt s 0 ∧ bt s 0 ≤ 122) → ∀ x0 x2 x3 x4 : Value,
    Gv (execW PG E Y ac47L0 [x0, .int .i64 (j : Int), x2, x3, x4, .string s] m n) Q := by
  intro d
  induction d with
  | zero =>
    intro j hj ha h0 x0 x2 x3 x4
    have hP : NameP s := ⟨hn, hl, h0 (by omega), fun i h1 h2 => ha i h1 (by omega)⟩
    refine wr_loopN (L := ac47L0) (b := ac47L0b) rfl ?_
    simp only [ac47L0b]
    simp (implicitDefEqProofs := false) (disch := omega) only [WPs, opds, List.all_cons, List.all_nil, List.cons_append, List.nil_append, cond_true, cond_false, eq_self, List.map_cons, List.map_nil, Nat.reduceAdd, Nat.testBit, Nat.reduceShiftRight, Nat.reduceAnd, Nat.reduceBNe, Nat.reduceMul, STs]
    exact hQt hP _
  | succ d ih =>
    intro j hj ha h0 x0 x2 x3 x4
    have hbl := bt_lt s j
    refine wr_loopN (L := ac47L0) (b := ac47L0b) rfl ?_
    simp only [ac47L0b]
    have bad : ¬ (97 ≤ bt s j ∧ bt s j ≤ 122) → (j = 0 ∨ ¬ (48 ≤ bt s j ∧ bt s j ≤ 57)) → ¬ NameP s := fun h1 h2 hP => by
      have := hP.2.2.2 j (Nat.zero_le _) (by omega)
      rcases h2 with rfl | h2
      · exact h1 hP.2.2.1
      · rw [inSet_f h1 h2] at this; cases this
    have next : (97 ≤ bt s j ∧ bt s j ≤ 122) ∨ (0 < j ∧ 48 ≤ bt s j ∧ bt s j ≤ 57) → ∀ x0 x2 x3 x4 : Value, Gv (execW PG E Y ac47L0 [x0, .int .i64 ((j + 1 : Nat) : Int), x2, x3, x4, .string s] m n) Q := fun h =>
      ih (j + 1) (by omega) (fun i _ hi => by
        rcases Nat.lt_or_ge i j with h1 | h1
        · exact ha i (Nat.zero_le _) h1
        · have : i = j := by omega
          subst this; exact inSet_t (by omega)) (fun _ => by
        rcases Nat.eq_zero_or_pos j with h1 | h1
        · subst h1; omega
        · exact h0 h1)
    by_cases a1 : bt s j < 97
    · by_cases a2 : j = 0
      · have hb := bad (by omega) (.inl a2)
        simp (implicitDefEqProofs := false) (disch := omega) only [WPs, opds, List.all_cons, List.all_nil, List.cons_append, List.nil_append, cond_true, cond_false, eq_self, List.map_cons, List.map_nil, Nat.reduceAdd, Nat.testBit, Nat.reduceShiftRight, Nat.reduceAnd, Nat.reduceBNe, Nat.reduceMul, STs]
        exact hQf hb _
      by_cases a3 : bt s j < 48
      · have hb := bad (by omega) (.inr (by omega))
        simp (implicitDefEqProofs := false) (disch := omega) only [WPs, opds, List.all_cons, List.all_nil, List.cons_append, List.nil_append, cond_true, cond_false, eq_self, List.map_cons, List.map_nil, Nat.reduceAdd, Nat.testBit, Nat.reduceShiftRight, Nat.reduceAnd, Nat.reduceBNe, Nat.reduceMul, STs]
        exact hQf hb _
      by_cases a4 : 57 < bt s j
      · have hb := bad (by omega) (.inr (by omega))
        simp (implicitDefEqProofs := false) (disch := omega) only [WPs, opds, List.all_cons, List.all_nil, List.cons_append, List.nil_append, cond_true, cond_false, eq_self, List.map_cons, List.map_nil, Nat.reduceAdd, Nat.testBit, Nat.reduceShiftRight, Nat.reduceAnd, Nat.reduceBNe, Nat.reduceMul, STs]
        exact hQf hb _
      · simp (implicitDefEqProofs := false) (disch := omega) only [WPs, opds, List.all_cons, List.all_nil, List.cons_append, List.nil_append, cond_true, cond_false, eq_self, List.map_cons, List.map_nil, Nat.reduceAdd, Nat.testBit, Nat.reduceShiftRight, Nat.reduceAnd, Nat.reduceBNe, Nat.reduceMul, STs]
        exact wr_end' ((next (by omega) _ _ _ _).mono fun X e m n w hq => by simpa only [zero_lor'] using hq)
    · by_cases a2 : 122 < bt s j
      · by_cases a5 : j = 0
        · have hb := bad (by omega) (.inl a5)
          simp (implicitDefEqProofs := false) (disch := omega) only [WPs, opds, List.all_cons, List.all_nil, List.cons_append, List.nil_append, cond_true, cond_false, eq_self, List.map_cons, List.map_nil, Nat.reduceAdd, Nat.testBit, Nat.reduceShiftRight, Nat.reduceAnd, Nat.reduceBNe, Nat.reduceMul, STs]
          exact hQf hb _
        · have hb := bad (by omega) (.inr (by omega))
          simp (implicitDefEqProofs := false) (disch := omega) only [WPs, opds, List.all_cons, List.all_nil, List.cons_append, List.nil_append, cond_true, cond_false, eq_self, List.map_cons, List.map_nil, Nat.reduceAdd, Nat.testBit, Nat.reduceShiftRight, Nat.reduceAnd, Nat.reduceBNe, Nat.reduceMul, STs]
          exact hQf hb _
      · simp (implicitDefEqProofs := false) (disch := omega) only [WPs, opds, List.all_cons, List.all_nil, List.cons_append, List.nil_append, cond_true, cond_false, eq_self, List.map_cons, List.map_nil, Nat.reduceAdd, Nat.testBit, Nat.reduceShiftRight, Nat.reduceAnd, Nat.reduceBNe, Nat.reduceMul, STs]
        exact wr_end' ((next (by omega) _ _ _ _).mono fun X e m n w hq => by simpa only [zero_lor'] using hq)
open Classical in
theorem Name_spec (hE : E 47 = some ac47) (m : FM) (n : Nat) (s : ByteArray) : Pure (callW PG E Y 47 [.string s] m n) m n (.bool (nameB s)) := by
  refine pure_spec hE rfl rfl ?_
  simp only [ac47]
  by_cases c1 : s.size = 0
  · rw [nameB_f fun h => by have := h.1; omega]
    simp (implicitDefEqProofs := false) (disch := omega) only [WPs, opds, List.all_cons, List.all_nil, List.cons_append, List.nil_append, cond_true, cond_false, eq_self, List.map_cons, List.map_nil, Nat.reduceAdd, Nat.testBit, Nat.reduceShiftRight, Nat.reduceAnd, Nat.reduceBNe, Nat.reduceMul, STs, c1]
  by_cases c2 : 16 < s.size
  · rw [nameB_f fun h => by have := h.2.1; omega]
    simp (implicitDefEqProofs := false) (disch := omega) only [WPs, opds, List.all_cons, List.all_nil, List.cons_append, List.nil_append, cond_true, cond_false, eq_self, List.map_cons, List.map_nil, Nat.reduceAdd, Nat.testBit, Nat.reduceShiftRight, Nat.reduceAnd, Nat.reduceBNe, Nat.reduceMul, STs]
  simp (implicitDefEqProofs := false) (disch := omega) only [WPs, opds, List.all_cons, List.all_nil, List.cons_append, List.nil_append, cond_true, cond_false, eq_self, List.map_cons, List.map_nil, Nat.reduceAdd, Nat.testBit, Nat.reduceShiftRight, Nat.reduceAnd, Nat.reduceBNe, Nat.reduceMul, STs]
  refine wr_cps (Name_L0 m n s (by omega) (by omega) (fun h e' r1 => ?_) (fun h e' r1 => ?_) s.size 0 (by omega) (fun i _ h => by omega) (fun h => by omega) _ _ _ _)
  · rw [nameB_t h]
    simp (implicitDefEqProofs := false) (disch := omega) only [WPs, opds, List.all_cons, List.all_nil, List.cons_append, List.nil_append, cond_true, cond_false, eq_self, List.map_cons, List.map_nil, Nat.reduceAdd, Nat.testBit, Nat.reduceShiftRight, Nat.reduceAnd, Nat.reduceBNe, Nat.reduceMul]
  · rw [nameB_f h]
    simp (implicitDefEqProofs := false) (disch := omega) only [WPs, opds, List.all_cons, List.all_nil, List.cons_append, List.nil_append, cond_true, cond_false, eq_self, List.map_cons, List.map_nil, Nat.reduceAdd, Nat.testBit, Nat.reduceShiftRight, Nat.reduceAnd, Nat.reduceBNe, Nat.reduceMul]
end Go.Am.C41
namespace Go.Am
open Go
section
variable {P : Program}
theorem pr_bind {α β : Type} (s : Sem α) (f : α → Sem β) : pureRun P (s >>= f) = (pureRun P s).bind fun a => pureRun P (f a) := by
  show pureRun P (s.bind f) = _
  induction s with
  | pure a => rfl
  | program k ih => exact ih P
  | _ => rfl
theorem pr_pure {α : Type} (a : α) : pureRun P (pure a : Sem α) = some a := rfl
theorem pr_program : pureRun P program = some P := rfl
theorem pr_underlying {t : TypeId} {d : TypeDesc} (h : P.underlying t = some d) : pureRun P (underlying t) = some d := by
  unfold underlying
  rw [pr_bind, pr_program]
  show pureRun P (match P.underlying t with | some d => pure d | none => stuck "no such type") = some d
  rw [h]; rfl
theorem pr_part {t : TypeId} {k : IntKind} {cs : Array Value} {off : Nat} {v : Value} (h : P.underlying t = some (.int k)) (hv : cs[off]? = some v) : pureRun P (part t cs off) = some v := by
  have h1 : pureRun P (isAgg t) = some false := by
    unfold isAgg
    rw [pr_bind, pr_underlying h]; rfl
  unfold part
  rw [pr_bind, h1]
  show pureRun P (match cs[off]? with | some v => pure v | none => stuck "part: no such cell") = some v
  rw [hv]; rfl
theorem pr_equal_int {d : Nat} {t : TypeId} {k : IntKind} {a b : Int} (h : P.underlying t = some (.int k)) : pureRun P (Op.equalIn (d + 1) t (.int k a) (.int k b)) = some (a == b) := by
  unfold Op.equalIn
  rw [pr_bind, pr_underlying h]
  show pureRun P (if k = k then pure (a == b) else stuck "==: kinds differ") = _
  rw [if_pos rfl]; rfl
def okFields (P : Program) : List Field → Nat → Bool
  | [], _ => true
  | f :: fs, i => (f.name != "_") && f.offset == i && (match P.underlying f.type with | some (.int .i64) => true | _ => false) && okFields P fs (i + 1)
def intsT (P : Program) (t n : Nat) : Bool :=
  (match P.underlying t with | some (.struct _) => true | _ => false) && okFields P (P.fieldsOf t).toList 0 && (P.fieldsOf t).toList.length == n && !P.stoodInHeld t && !P.eqGuardType P.depth t
end
end Go.Am
namespace Go.Am
open Go
section
variable {P : Program}
def eqItemsA (d : Nat) (e : TypeId) (xs ys : Array Value) : List Nat → Sem Bool
  | [] => pure true
  | i :: is => do
    let a ← part e xs (i * 1)
    let b ← part e ys (i * 1)
    let r ← Op.equalIn d e a b
    if (!r) = true then pure false else eqItemsA d e xs ys is
theorem pr_sizeOf {e n : Nat} (h : isSz P e n = true) : pureRun P (sizeOf e) = some n := by
  obtain ⟨i, hi, hs⟩ := isSz_run h
  unfold sizeOf typeInfo
  rw [pr_bind, pr_bind, pr_program, Option.bind_some, hi]
  show some i.size = some n
  rw [hs]
theorem pr_equal_array (d : Nat) {t e : TypeId} {n : Nat} (xs ys : Array Value) (hu : P.underlying t = some (.array n e)) (hi : isSz P e 1 = true) :
    pureRun P (Op.equalIn (d + 1) t (.agg xs) (.agg ys)) = pureRun P (eqItemsA d e xs ys (List.range' 0 n)) := by
  simp only [Op.equalIn, pr_bind, pr_underlying hu, pr_sizeOf hi, Option.bind_some]
  simp only [Std.Legacy.Range.forIn_eq_forIn_range', Std.Legacy.Range.size, Nat.sub_zero, Nat.add_one_sub_one, Nat.div_one]
  generalize List.range' 0 n = is
  induction is with
  | nil => rfl
  | cons j is ih =>
    simp only [List.forIn_cons, eqItemsA, pr_bind]
    cases pureRun P (part e xs (j * 1)) with
    | none => rfl
    | some a =>
      simp only [Option.bind_some]
      cases pureRun P (part e ys (j * 1)) with
      | none => rfl
      | some b =>
        simp only [Option.bind_some]
        cases pureRun P (Op.equalIn d e a b) with
        | none => rfl
        | some r =>
          cases r
          · rfl
          · exact ih
theorem pr_items {d : Nat} {e : TypeId} {asl bs : List Int} (hu : P.underlying e = some (.int .u8)) : ∀ (k j : Nat), asl.length = j + k → bs.length = j + k →
    pureRun P (eqItemsA (d + 1) e (asl.map (Value.int .u8)).toArray (bs.map (Value.int .u8)).toArray (List.range' j k)) = some (decide (asl.drop j = bs.drop j))
  | 0, j, ha, hb => by
    rw [List.drop_eq_nil_of_le (by omega), List.drop_eq_nil_of_le (by omega)]
    rfl
  | k + 1, j, ha, hb => by
    have hai : j < asl.length := by omega
    have hbi : j < bs.length := by omega
    have ih := pr_items (d := d) (asl := asl) (bs := bs) hu k (j + 1) (by omega) (by omega)
    rw [List.range'_succ, eqItemsA, pr_bind, pr_part hu (v := .int .u8 asl[j]) (by simp [hai]), Option.bind_some, pr_bind, pr_part hu (v := .int .u8 bs[j]) (by simp [hbi]), Option.bind_some, pr_bind, pr_equal_int hu, Option.bind_some]
    rw [List.drop_eq_getElem_cons hai, List.drop_eq_getElem_cons hbi]
    by_cases he : asl[j] = bs[j]
    · have hb2 : (!(asl[j] == bs[j])) = false := by simp [he]
      rw [hb2]
      show pureRun P (eqItemsA (d + 1) e _ _ (List.range' (j + 1) k)) = _
      rw [ih]
      congr 1
      rw [he]
      simp only [List.cons.injEq, true_and]
    · have hb2 : (!(asl[j] == bs[j])) = true := by simp [he]
      rw [hb2]
      show some false = _
      simp only [List.cons.injEq, he, false_and, decide_false]
def bytesT (P : Program) (t n e : Nat) : Bool :=
  (match P.underlying t with | some (.array k f) => k == n && f == e | _ => false) && (match P.underlying e with | some (.int .u8) => true | _ => false) && isSz P e 1 && !P.eqGuardType P.depth t
theorem pr_bytes {t n e : Nat} (h : bytesT P t n e = true) (op : BinOp) (hop : op = .eql ∨ op = .neq) {asl bs : List Int} (ha : asl.length = n) (hb : bs.length = n) :
    binV P op t (.agg (asl.map (Value.int .u8)).toArray) (.agg (bs.map (Value.int .u8)).toArray) = some (.bool (match op with | .neq => !decide (asl = bs) | _ => decide (asl = bs))) := by
  rw [bytesT, Bool.and_eq_true, Bool.and_eq_true, Bool.and_eq_true] at h
  obtain ⟨⟨⟨h1, h2⟩, h3⟩, h5⟩ := h
  have hu : P.underlying t = some (.array n e) := by
    split at h1
    · rename_i k f hk
      simp only [Bool.and_eq_true, beq_iff_eq] at h1
      rw [hk, h1.1, h1.2]
    · cases h1
  have he : P.underlying e = some (.int .u8) := by
    split at h2
    · assumption
    · cases h2
  have hg : P.eqGuardType P.depth t = false := by simpa using h5
  have hfree : ∀ l : List Int, addrFree (.agg (l.map (Value.int .u8)).toArray) = true := fun l => by
    show (l.map (Value.int .u8)).all Am.flat = true
    rw [List.all_map, List.all_eq_true]; intro x _; rfl
  have e2 : pureRun P (Op.equal t (.agg (asl.map (Value.int .u8)).toArray) (.agg (bs.map (Value.int .u8)).toArray)) = some (decide (asl = bs)) := by
    show pureRun P (Op.equalIn (9999 + 1) t _ _) = _
    rw [pr_equal_array _ _ _ hu h3]
    have := pr_items (P := P) (d := 9998) (asl := asl) (bs := bs) he n 0 (by omega) (by omega)
    simpa using this
  have e1 : ∀ op, op = .eql ∨ op = .neq → pureRun P (eqGuard op t (.tmp 0) (.tmp 0) (.agg (asl.map (Value.int .u8)).toArray) (.agg (bs.map (Value.int .u8)).toArray)) = some () := by
    intro op ho
    have : pureRun P (program >>= fun p => program >>= fun q => if (!p.eqGuardType q.depth t) = true then pure () else (do if ← Op.eqGuardIn Op.maxDepth t (.agg (asl.map (Value.int .u8)).toArray) (.agg (bs.map (Value.int .u8)).toArray) then unsupported (.noEntry "binop/eql: two nil values of an interface type with methods, in a part of a struct or an array"))) = some () := by
      rw [pr_bind, pr_program, Option.bind_some, pr_bind, pr_program, Option.bind_some, hg]; rfl
    rcases ho with rfl | rfl <;> exact this
  show cond (addrFree _ && addrFree _ && notIface _) (flatO (pureRun P _)) none = _
  rw [hfree, hfree]
  show flatO (pureRun P (do eqGuard op t (.tmp 0) (.tmp 0) (.agg _) (.agg _); binOp op t (.agg _) (.agg _))) = _
  rw [pr_bind, e1 op hop, Option.bind_some]
  rcases hop with rfl | rfl
  · show flatO (pureRun P (Op.equal t (.agg _) (.agg _) >>= fun r => pure (.bool r))) = _
    rw [pr_bind, e2]; rfl
  · show flatO (pureRun P (Op.equal t (.agg _) (.agg _) >>= fun r => pure (.bool (!r)))) = _
    rw [pr_bind, e2]; rfl
end
end Go.Am
namespace Go.Am
open Go
variable {P : Program}
theorem pr_eqbool {t : Nat} (ht : P.underlying t = some .bool) (a b : Bool) : pureRun P (Op.equal t (.bool a) (.bool b)) = some (a == b) := by
  show pureRun P (Op.equalIn (9999 + 1) t _ _) = _
  unfold Op.equalIn
  rw [pr_bind, pr_underlying ht]; rfl
theorem eql_boolsP {t : Nat} (ht : P.underlying t = some .bool) (a b : Bool) : binV P .eql t (.bool a) (.bool b) = some (.bool (decide (a = b))) := by
  show flatO (pureRun P (do eqGuard .eql t (.tmp 0) (.tmp 0) (.bool a) (.bool b); binOp .eql t (.bool a) (.bool b))) = _
  rw [pr_bind]
  show flatO (pureRun P (Op.equal t (.bool a) (.bool b) >>= fun r => pure (.bool r))) = _
  rw [pr_bind, pr_eqbool ht]
  cases a <;> cases b <;> rfl
theorem neq_boolsP {t : Nat} (ht : P.underlying t = some .bool) (a b : Bool) : binV P .neq t (.bool a) (.bool b) = some (.bool (!decide (a = b))) := by
  show flatO (pureRun P (do eqGuard .neq t (.tmp 0) (.tmp 0) (.bool a) (.bool b); binOp .neq t (.bool a) (.bool b))) = _
  rw [pr_bind]
  show flatO (pureRun P (Op.equal t (.bool a) (.bool b) >>= fun r => pure (.bool (!r)))) = _
  rw [pr_bind, pr_eqbool ht]
  cases a <;> cases b <;> rfl
end Go.Am
namespace Go.Am.C41
open Go Go.Am
variable {E : Nat → Option AFn} {Y : Nat → List Value → FM → Nat → OR FM}
structure Cmd where
  tag : Int
  kind : Int
  ord : Int
  force : Bool
  vol : ByteArray
  oth : ByteArray
  at_ : Int
  len : Int
  data : List (List Int)
def Cmd.cells (c : Cmd) (d : Value) : List Value := [.int .i64 c.tag, .int .i64 c.kind, .int .i64 c.ord, .bool c.force, .string c.vol, .string c.oth, .int .i64 c.at_, .int .i64 c.len, d]
def cmdV (c : Cmd) (d : Value) : Value := .agg #[.int .i64 c.tag, .int .i64 c.kind, .int .i64 c.ord, .bool c.force, .string c.vol, .string c.oth, .int .i64 c.at_, .int .i64 c.len, d]
structure Cmd.Fit (c : Cmd) : Prop where
  tag : -9223372036854775808 ≤ c.tag ∧ c.tag < 9223372036854775808
  kind : -9223372036854775808 ≤ c.kind ∧ c.kind < 9223372036854775808
  ord : -9223372036854775808 ≤ c.ord ∧ c.ord < 9223372036854775808
  at_ : -9223372036854775808 ≤ c.at_ ∧ c.at_ < 9223372036854775808
  len : -9223372036854775808 ≤ c.len ∧ c.len < 9223372036854775808
  vol : c.vol.size ≤ 9223372036854775807
  oth : c.oth.size ≤ 9223372036854775807
  data : c.data.length ≤ 9223372036854775807
def u8s (l : List Int) : List Value := l.map (Value.int .u8)
def DatV (m : FM) (n : Nat) (v : Value) (ds : List (List Int)) : Prop :=
  ∃ a c, v = .slice a ds.length c ∧ belowV n v = true ∧ (ds = [] ∨ ∃ b o cs opn wr, a = some ⟨b, o, none⟩ ∧ b < n ∧ m b = some (.cells cs 8 opn wr) ∧ ∀ i (h : i < ds.length), ds[i].length = 8 ∧ cellsAt cs (o + i * 8) 8 = some (u8s ds[i]))
theorem DatV.len {m : FM} {n : Nat} {v : Value} {ds : List (List Int)} (h : DatV m n v ds) : lenV false v = some (.int .i64 (ds.length : Int)) := by
  obtain ⟨a, c, rfl, _⟩ := h; rfl
theorem DatV.one {m : FM} {n : Nat} {v : Value} {ds : List (List Int)} (h : DatV m n v ds) : Am.one v = true := by
  obtain ⟨a, c, rfl, _⟩ := h; rfl
theorem DatV.bel {m : FM} {n : Nat} {v : Value} {ds : List (List Int)} (h : DatV m n v ds) (k : Nat) (hk : n ≤ k) : belowV k v = true := by
  obtain ⟨a, c, rfl, hb, _⟩ := h
  cases a with
  | none => exact hb
  | some a => exact blt_true (show a.block < k from Nat.lt_of_lt_of_le (Nat.le_of_ble_eq_true hb) hk)
theorem DatV.frame {m m' : FM} {n n' : Nat} {v : Value} {ds : List (List Int)} (h : DatV m n v ds) (hn : n ≤ n') (hf : ∀ b, b < n → m' b = m b) : DatV m' n' v ds := by
  have hb := h.bel n' hn
  obtain ⟨a, c, rfl, _, h⟩ := h
  refine ⟨a, c, rfl, hb, ?_⟩
  rcases h with h | ⟨b, o, cs, opn, wr, h1, h2, h3, h4⟩
  · exact .inl h
  · exact .inr ⟨b, o, cs, opn, wr, h1, by omega, (hf b h2).trans h3, h4⟩
theorem DatV.nil (m : FM) (n : Nat) : DatV m n (.slice none 0 0) [] := ⟨none, 0, rfl, rfl, .inl rfl⟩
theorem DatV.at {m : FM} {n : Nat} {v : Value} {ds : List (List Int)} (h : DatV m n v ds) {i : Nat} (hi : i < ds.length) :
    ∃ b o cs opn wr, idxV 8 i v = some (.pointer (some ⟨b, o, none⟩)) ∧ b < n ∧ m b = some (.cells cs 8 opn wr) ∧ ds[i].length = 8 ∧ ctake (ldrop cs o) 8 = some (u8s ds[i]) := by
  obtain ⟨a, c, rfl, _, h⟩ := h
  rcases h with rfl | ⟨b, o, cs, opn, wr, rfl, h2, h3, h4⟩
  · simp at hi
  · exact ⟨b, o + i * 8, cs, opn, wr, idx_mk hi, h2, h3, h4 i hi⟩
def insideP (a l : Int) : Prop := 0 ≤ a ∧ 1 ≤ l ∧ a ≤ 65536 ∧ l ≤ 65536 ∧ a + l ≤ 65536
instance (a l : Int) : Decidable (insideP a l) := by unfold insideP; infer_instance
theorem inside_spec (hE : E 53 = some ac53) (m : FM) (n : Nat) (a l : Int) (ha : -9223372036854775808 ≤ a ∧ a < 9223372036854775808) (hl : -9223372036854775808 ≤ l ∧ l < 9223372036854775808) :
    Pure (callW PG E Y 53 [.int .i64 a, .int .i64 l] m n) m n (.bool (decide (insideP a l))) := by
  refine pure_spec hE rfl rfl ?_
  simp only [ac53]
  by_cases c1 : a < 0
  · rw [decide_eq_false (show ¬ insideP a l from fun h => by have := h.1; omega)]
    simp (implicitDefEqProofs := false) (disch := omega) only [WPs, opds, List.all_cons, List.all_nil, List.cons_append, List.nil_append, cond_true, cond_false, eq_self, List.map_cons, List.map_nil, Nat.reduceAdd, Nat.testBit, Nat.reduceShiftRight, Nat.reduceAnd, Nat.reduceBNe, Nat.reduceMul]
  by_cases c2 : l < 1
  · rw [decide_eq_false (show ¬ insideP a l from fun h => by have := h.2.1; omega)]
    simp (implicitDefEqProofs := false) (disch := omega) only [WPs, opds, List.all_cons, List.all_nil, List.cons_append, List.nil_append, cond_true, cond_false, eq_self, List.map_cons, List.map_nil, Nat.reduceAdd, Nat.testBit, Nat.reduceShiftRight, Nat.reduceAnd, Nat.reduceBNe, Nat.reduceMul]
  by_cases c3 : 65536 < a
  · rw [decide_eq_false (show ¬ insideP a l from fun h => by have := h.2.2.1; omega)]
    simp (implicitDefEqProofs := false) (disch := omega) only [WPs, opds, List.all_cons, List.all_nil, List.cons_append, List.nil_append, cond_true, cond_false, eq_self, List.map_cons, List.map_nil, Nat.reduceAdd, Nat.testBit, Nat.reduceShiftRight, Nat.reduceAnd, Nat.reduceBNe, Nat.reduceMul]
  have : decide (insideP a l) = decide (l ≤ 65536 - a) := decide_eq_decide.2 ⟨fun h => by have := h.2.2.2.2; omega, fun h => ⟨by omega, by omega, by omega, by omega, by omega⟩⟩
  rw [this]
  simp (implicitDefEqProofs := false) (disch := omega) only [WPs, opds, List.all_cons, List.all_nil, List.cons_append, List.nil_append, cond_true, cond_false, eq_self, List.map_cons, List.map_nil, Nat.reduceAdd, Nat.testBit, Nat.reduceShiftRight, Nat.reduceAnd, Nat.reduceBNe, Nat.reduceMul]
theorem within_spec (hE : E 48 = some ac48) (m : FM) (n : Nat) (a l : Int) (ha : -9223372036854775808 ≤ a ∧ a < 9223372036854775808) (hl : -9223372036854775808 ≤ l ∧ l < 9223372036854775808) :
    Pure (callW PG E Y 48 [.int .i64 a, .int .i64 l] m n) m n (.bool (decide (insideP a l))) := by
  refine pure_spec hE rfl rfl ?_
  simp only [ac48]
  by_cases c1 : a < 0
  · rw [decide_eq_false (show ¬ insideP a l from fun h => by have := h.1; omega)]
    simp (implicitDefEqProofs := false) (disch := omega) only [WPs, opds, List.all_cons, List.all_nil, List.cons_append, List.nil_append, cond_true, cond_false, eq_self, List.map_cons, List.map_nil, Nat.reduceAdd, Nat.testBit, Nat.reduceShiftRight, Nat.reduceAnd, Nat.reduceBNe, Nat.reduceMul]
  by_cases c2 : l < 1
  · rw [decide_eq_false (show ¬ insideP a l from fun h => by have := h.2.1; omega)]
    simp (implicitDefEqProofs := false) (disch := omega) only [WPs, opds, List.all_cons, List.all_nil, List.cons_append, List.nil_append, cond_true, cond_false, eq_self, List.map_cons, List.map_nil, Nat.reduceAdd, Nat.testBit, Nat.reduceShiftRight, Nat.reduceAnd, Nat.reduceBNe, Nat.reduceMul]
  by_cases c3 : 65536 < a
  · rw [decide_eq_false (show ¬ insideP a l from fun h => by have := h.2.2.1; omega)]
    simp (implicitDefEqProofs := false) (disch := omega) only [WPs, opds, List.all_cons, List.all_nil, List.cons_append, List.nil_append, cond_true, cond_false, eq_self, List.map_cons, List.map_nil, Nat.reduceAdd, Nat.testBit, Nat.reduceShiftRight, Nat.reduceAnd, Nat.reduceBNe, Nat.reduceMul]
  by_cases c4 : 65536 < l
  · rw [decide_eq_false (show ¬ insideP a l from fun h => by have := h.2.2.2.1; omega)]
    simp (implicitDefEqProofs := false) (disch := omega) only [WPs, opds, List.all_cons, List.all_nil, List.cons_append, List.nil_append, cond_true, cond_false, eq_self, List.map_cons, List.map_nil, Nat.reduceAdd, Nat.testBit, Nat.reduceShiftRight, Nat.reduceAnd, Nat.reduceBNe, Nat.reduceMul]
  have : decide (insideP a l) = decide (a + l ≤ 65536) := decide_eq_decide.2 ⟨fun h => h.2.2.2.2, fun h => ⟨by omega, by omega, by omega, by omega, by omega⟩⟩
  rw [this]
  simp (implicitDefEqProofs := false) (disch := omega) only [WPs, opds, List.all_cons, List.all_nil, List.cons_append, List.nil_append, cond_true, cond_false, eq_self, List.map_cons, List.map_nil, Nat.reduceAdd, Nat.testBit, Nat.reduceShiftRight, Nat.reduceAnd, Nat.reduceBNe, Nat.reduceMul]
def onlyC (c : Cmd) : Cmd := { tag := c.tag, kind := c.kind, ord := c.ord, force := false, vol := ⟨#[]⟩, oth := ⟨#[]⟩, at_ := 0, len := 0, data := [] }
theorem only_spec (hE : E 51 = some ac51) (m : FM) (n : Nat) (c : Cmd) (d : Value) (hd : one d = true) :
    Pure (callW PG E Y 51 [cmdV c d] m n) m n (cmdV (onlyC c) (.slice none 0 0)) := by
  refine pure_spec hE rfl rfl ?_
  simp only [ac51, cmdV, onlyC]
  simp (implicitDefEqProofs := false) (disch := omega) only [WPs, opds, List.all_cons, List.all_nil, List.cons_append, List.nil_append, cond_true, cond_false, eq_self, List.map_cons, List.map_nil, Nat.reduceAdd, Nat.testBit, Nat.reduceShiftRight, Nat.reduceAnd, Nat.reduceBNe, Nat.reduceMul]
theorem t51 : bytesT PG 52 8 5 = true := by kernel_rfl
theorem neq51 {a b : List Int} (ha : a.length = 8) (hb : b.length = 8) : binV PG .neq 52 (.agg (u8s a).toArray) (.agg (u8s b).toArray) = some (.bool (!decide (a = b))) := pr_bytes t51 .neq (.inr rfl) ha hb
theorem u8s_llen {l : List Int} (h : l.length = 8) : llen (u8s l) = 8 := by rw [llen_eq, u8s, List.length_map, h]
theorem u8s_one (l : List Int) : (u8s l).all one = true := by rw [u8s, List.all_map, List.all_eq_true]; intro x _; rfl
theorem cover_all : ∀ (zs cs : List Value), zs.length = cs.length → cover cs zs = some cs
  | [], [], _ => rfl
  | z :: zs, c :: cs, h => by
    show ocons c (cover cs zs) = _
    rw [cover_all zs cs (by simpa using h)]; rfl
  | [], _ :: _, h => by simp at h
  | _ :: _, [], h => by simp at h
theorem u8s_set {l : List Int} (h : l.length = 8) : cover (u8s l) [.int .u8 0, .int .u8 0, .int .u8 0, .int .u8 0, .int .u8 0, .int .u8 0, .int .u8 0, .int .u8 0] = some (u8s l) := by
  exact cover_all _ _ (by rw [u8s, List.length_map, h]; rfl)
theorem u8s_all {l : List Int} (h : l.length = 8) : ctake (u8s l) 8 = some (u8s l) := by
  rw [ctake_eq, if_pos (by rw [u8s, List.length_map, h]; exact Nat.le_refl _), List.take_of_length_le (by rw [u8s, List.length_map, h]; exact Nat.le_refl _)]
theorem u8s_bel (l : List Int) (k : Nat) : (u8s l).all (belowF k) = true := by rw [u8s, List.all_map, List.all_eq_true]; intro x _; rfl
theorem lor_asc (a b c : Nat) : Nat.lor (Nat.lor a b) c = Nat.lor a (Nat.lor b c) := Nat.or_assoc a b c
theorem same_L0 (m0 : FM) (n0 pa pb : Nat) (c d : Cmd) (cd dd : Value) (hpa : pa < n0) (hpb : pb < n0) (hA : m0 pa = some (.cells (c.cells cd) 0 false true)) (hB : m0 pb = some (.cells (d.cells dd) 0 false true))
    (hc : DatV m0 n0 cd c.data) (hd : DatV m0 n0 dd d.data) (hl : d.data.length = c.data.length) (hs : c.data.length ≤ 9223372036854775807) {Q : AX → List Value → FM → Nat → Nat → Prop} (x9 x10 : Value)
    (hQt : c.data = d.data → ∀ x0 x1 x2 x3 x4 x5 M N w, n0 ≤ N → (∀ b, b < n0 → M b = m0 b) → Nat.mod w (bit n0) = 0 → Q (.exit 0) [x0, x1, x2, x3, x4, x5, .pointer (some ⟨pb, 0, none⟩), .pointer (some ⟨pa, 0, none⟩), x9, x10] M N w)
    (hQf : c.data ≠ d.data → ∀ e' M N w, n0 ≤ N → (∀ b, b < n0 → M b = m0 b) → Nat.mod w (bit n0) = 0 → Q (.ret (.bool false)) e' M N w) : ∀ k j, j + k = c.data.length → c.data.take j = d.data.take j → ∀ (m : FM) (n : Nat) (w0 : Nat), n0 ≤ n → (∀ b, b < n0 → m b = m0 b) → Nat.mod w0 (bit n0) = 0 → ∀ x0 x2 x5 x6 : Value,
    Gv (execW PG E Y ac54L0 [x0, .int .i64 (j : Int), x2, .int .i64 (c.data.length : Int), cd, x5, x6, .pointer (some ⟨pb, 0, none⟩), .pointer (some ⟨pa, 0, none⟩), x9, x10] m n) fun X e M N w => Q X e M N (Nat.lor w0 w) := by
  intro k
  induction k with
  | zero =>
    intro j hj ht m n w0 hn hf hw x0 x2 x5 x6
    refine wr_loopN (L := ac54L0) (b := ac54L0b) rfl ?_
    simp only [ac54L0b]
    simp (implicitDefEqProofs := false) (disch := omega) only [WPs, opds, List.all_cons, List.all_nil, List.cons_append, List.nil_append, cond_true, cond_false, eq_self, List.map_cons, List.map_nil, Nat.reduceAdd, Nat.testBit, Nat.reduceShiftRight, Nat.reduceAnd, Nat.reduceBNe, Nat.reduceMul]
    refine hQt ?_ _ _ _ _ _ _ _ _ _ hn hf hw
    rw [← List.take_of_length_le (show c.data.length ≤ j by omega), ht, List.take_of_length_le (show d.data.length ≤ j by omega)]
  | succ k ih =>
    intro j hj ht m n w0 hn hf hw x0 x2 x5 x6
    have hjc : j < c.data.length := by omega
    have hjd : j < d.data.length := by omega
    obtain ⟨b1, o1, cs1, p1, q1, i1, i2, i3, i4, i5⟩ := hc.at hjc
    obtain ⟨b2, o2, cs2, p2, q2, g1, g2, g3, g4, g5⟩ := hd.at hjd
    refine wr_loopN (L := ac54L0) (b := ac54L0b) rfl ?_
    simp only [ac54L0b]
    by_cases he : c.data[j] = d.data[j]
    · have hne : (!decide (c.data[j] = d.data[j])) = false := by rw [decide_eq_true he]; rfl
      simp (implicitDefEqProofs := false) (disch := omega) only [WPs, opds, List.all_cons, List.all_nil, List.cons_append, List.nil_append, cond_true, cond_false, eq_self, List.map_cons, List.map_nil, Nat.reduceAdd, Nat.testBit, Nat.reduceShiftRight, Nat.reduceAnd, Nat.reduceBNe, Nat.reduceMul, i1, hf, i3, i5, u8s_llen i4, u8s_one, u8s_set i4, u8s_all i4, hB, Cmd.cells, g1, g3, g5, neq51 i4 g4, hd.bel, u8s_bel, Bool.and_self, hne]
      have ht' : c.data.take (j + 1) = d.data.take (j + 1) := by
        rw [List.take_succ_eq_append_getElem hjc, List.take_succ_eq_append_getElem hjd, ht, he]
      refine wr_end' ((ih (j + 1) (by omega) ht' (AMem.put m n (some (.cells (u8s c.data[j]) 0 false true)) : FM) (n + 1) (Nat.lor w0 (Nat.lor (bit n) (bit n))) (by omega) (fun b hb => ?_) ?_ _ _ _ _).mono fun X e m n w hq => ?_)
      · simp (implicitDefEqProofs := false) (disch := omega) only [WPs, opds, List.all_cons, List.all_nil, List.cons_append, List.nil_append, cond_true, cond_false, eq_self, List.map_cons, List.map_nil, Nat.reduceAdd, Nat.testBit, Nat.reduceShiftRight, Nat.reduceAnd, Nat.reduceBNe, Nat.reduceMul, hf]
      · simp (implicitDefEqProofs := false) (disch := omega) only [WPs, opds, List.all_cons, List.all_nil, List.cons_append, List.nil_append, cond_true, cond_false, eq_self, List.map_cons, List.map_nil, Nat.reduceAdd, Nat.testBit, Nat.reduceShiftRight, Nat.reduceAnd, Nat.reduceBNe, Nat.reduceMul, hw]
      · rw [lor_asc] at hq; exact hq
    · have hne : (!decide (c.data[j] = d.data[j])) = true := by rw [decide_eq_false he]; rfl
      simp (implicitDefEqProofs := false) (disch := omega) only [WPs, opds, List.all_cons, List.all_nil, List.cons_append, List.nil_append, cond_true, cond_false, eq_self, List.map_cons, List.map_nil, Nat.reduceAdd, Nat.testBit, Nat.reduceShiftRight, Nat.reduceAnd, Nat.reduceBNe, Nat.reduceMul, i1, hf, i3, i5, u8s_llen i4, u8s_one, u8s_set i4, u8s_all i4, hB, Cmd.cells, g1, g3, g5, neq51 i4 g4, hd.bel, u8s_bel, Bool.and_self, hne]
      refine hQf (fun h => he ?_) _ _ _ _ (by omega) (fun b hb => ?_) ?_
      · simp only [h]
      · simp (implicitDefEqProofs := false) (disch := omega) only [WPs, opds, List.all_cons, List.all_nil, List.cons_append, List.nil_append, cond_true, cond_false, eq_self, List.map_cons, List.map_nil, Nat.reduceAdd, Nat.testBit, Nat.reduceShiftRight, Nat.reduceAnd, Nat.reduceBNe, Nat.reduceMul, hf]
      · simp (implicitDefEqProofs := false) (disch := omega) only [WPs, opds, List.all_cons, List.all_nil, List.cons_append, List.nil_append, cond_true, cond_false, eq_self, List.map_cons, List.map_nil, Nat.reduceAdd, Nat.testBit, Nat.reduceShiftRight, Nat.reduceAnd, Nat.reduceBNe, Nat.reduceMul, hw]
theorem same_L (m0 : FM) (n0 pa pb : Nat) (c d : Cmd) (cd dd : Value) (hpa : pa < n0) (hpb : pb < n0) (hA : m0 pa = some (.cells (c.cells cd) 0 false true)) (hB : m0 pb = some (.cells (d.cells dd) 0 false true))
    (hc : DatV m0 n0 cd c.data) (hd : DatV m0 n0 dd d.data) (hl : d.data.length = c.data.length) (hs : c.data.length ≤ 9223372036854775807) (x0 x2 x5 x6 x9 x10 : Value) {Q : AX → List Value → FM → Nat → Nat → Prop}
    (hQt : c.data = d.data → ∀ x0 x1 x2 x3 x4 x5 M N w, n0 ≤ N → (∀ b, b < n0 → M b = m0 b) → Nat.mod w (bit n0) = 0 → Q (.exit 0) [x0, x1, x2, x3, x4, x5, .pointer (some ⟨pb, 0, none⟩), .pointer (some ⟨pa, 0, none⟩), x9, x10] M N w)
    (hQf : c.data ≠ d.data → ∀ e' M N w, n0 ≤ N → (∀ b, b < n0 → M b = m0 b) → Nat.mod w (bit n0) = 0 → Q (.ret (.bool false)) e' M N w) :
    Gv (execW PG E Y ac54L0 [x0, .int .i64 0, x2, .int .i64 (c.data.length : Int), cd, x5, x6, .pointer (some ⟨pb, 0, none⟩), .pointer (some ⟨pa, 0, none⟩), x9, x10] m0 n0) Q :=
  (same_L0 m0 n0 pa pb c d cd dd hpa hpb hA hB hc hd hl hs x9 x10 hQt hQf c.data.length 0 (by omega) (by rw [List.take_zero, List.take_zero]) m0 n0 0 (Nat.le_refl _) (fun b hb => rfl) (frz_zero _) x0 x2 x5 x6).mono fun X e M N w hq => by simpa only [zero_lor'] using hq
def sameB (c d : Cmd) : Bool := decide (c.data = d.data) && (decide (c.tag = d.tag) && (decide (c.kind = d.kind) && (decide (c.ord = d.ord) && (decide (c.force = d.force) && (decide (c.vol = d.vol) && (decide (c.oth = d.oth) && (decide (c.at_ = d.at_) && decide (c.len = d.len))))))))
theorem eql_bools (t : Nat) (ht : PG.underlying t = some .bool) (a b : Bool) : binV PG .eql t (.bool a) (.bool b) = some (.bool (decide (a = b))) := eql_boolsP ht a b
theorem t4 : PG.underlying 4 = some .bool := by kernel_rfl
theorem same_spec (hE : E 54 = some ac54) (m : FM) (n : Nat) (c d : Cmd) (cd dd : Value) (hc : DatV m n cd c.data) (hd : DatV m n dd d.data) (hs : c.data.length ≤ 9223372036854775807) (hs' : d.data.length ≤ 9223372036854775807) :
    Pure (callW PG E Y 54 [cmdV c cd, cmdV d dd] m n) m n (.bool (sameB c d)) := by
  refine pure_spec hE rfl rfl ?_
  simp only [ac54, cmdV]
  by_cases h0 : c.data.length = d.data.length
  · simp (implicitDefEqProofs := false) (disch := omega) only [WPs, opds, List.all_cons, List.all_nil, List.cons_append, List.nil_append, cond_true, cond_false, eq_self, List.map_cons, List.map_nil, Nat.reduceAdd, Nat.testBit, Nat.reduceShiftRight, Nat.reduceAnd, Nat.reduceBNe, Nat.reduceMul, hc.one, hd.one, hc.len, hd.len]
    have hc' : DatV (AMem.put (AMem.put m n (some (.cells (c.cells cd) 0 false true))) (n + 1) (some (.cells (d.cells dd) 0 false true)) : FM) (n + 2) cd c.data := hc.frame (by omega) fun b hb => by rw [fput_ne _ _ _ _ (by omega), fput_ne _ _ _ _ (by omega)]
    have hd' : DatV (AMem.put (AMem.put m n (some (.cells (c.cells cd) 0 false true))) (n + 1) (some (.cells (d.cells dd) 0 false true)) : FM) (n + 2) dd d.data := hd.frame (by omega) fun b hb => by rw [fput_ne _ _ _ _ (by omega), fput_ne _ _ _ _ (by omega)]
    refine wr_cps (same_L (AMem.put (AMem.put m n (some (.cells (c.cells cd) 0 false true))) (n + 1) (some (.cells (d.cells dd) 0 false true)) : FM) (n + 2) n (n + 1) c d cd dd (by omega) (by omega) (by rw [fput_ne _ _ _ _ (by omega)]; exact fput_same _ _ _) (fput_same _ _ _) hc' hd' h0.symm hs _ _ _ _ _ _ (fun hdat x0 x1 x2 x3 x4 x5 M N w h1 h2 h3 r1 => ?_) (fun hdat e' M N w h1 h2 h3 r1 => ?_))
    · have hMa : M n = some (.cells (c.cells cd) 0 false true) := by rw [h2 n (by omega), fput_ne _ _ _ _ (by omega)]; exact fput_same _ _ _
      have hMb : M (n + 1) = some (.cells (d.cells dd) 0 false true) := by rw [h2 (n + 1) (by omega)]; exact fput_same _ _ _
      have hw : Nat.mod w (bit n) = 0 := frz_down h3 (by omega)
      have hd0 := decide_eq_true hdat
      unfold sameB
      by_cases e0 : c.tag = d.tag
      case neg =>
        simp only [hd0, decide_eq_false e0, Bool.true_and, Bool.false_and, Bool.and_false]
        simp (implicitDefEqProofs := false) (disch := omega) only [WPs, opds, List.all_cons, List.all_nil, List.cons_append, List.nil_append, cond_true, cond_false, eq_self, List.map_cons, List.map_nil, Nat.reduceAdd, Nat.testBit, Nat.reduceShiftRight, Nat.reduceAnd, Nat.reduceBNe, Nat.reduceMul, hMa, hMb, Cmd.cells, hw, eql_bools 4 t4, STs, decide_eq_false e0]
      by_cases e1 : c.kind = d.kind
      case neg =>
        simp only [hd0, decide_eq_true e0, decide_eq_false e1, Bool.true_and, Bool.false_and, Bool.and_false]
        simp (implicitDefEqProofs := false) (disch := omega) only [WPs, opds, List.all_cons, List.all_nil, List.cons_append, List.nil_append, cond_true, cond_false, eq_self, List.map_cons, List.map_nil, Nat.reduceAdd, Nat.testBit, Nat.reduceShiftRight, Nat.reduceAnd, Nat.reduceBNe, Nat.reduceMul, hMa, hMb, Cmd.cells, hw, eql_bools 4 t4, STs, decide_eq_true e0, decide_eq_false e1]
      by_cases e2 : c.ord = d.ord
      case neg =>
        simp only [hd0, decide_eq_true e0, decide_eq_true e1, decide_eq_false e2, Bool.true_and, Bool.false_and, Bool.and_false]
        simp (implicitDefEqProofs := false) (disch := omega) only [WPs, opds, List.all_cons, List.all_nil, List.cons_append, List.nil_append, cond_true, cond_false, eq_self, List.map_cons, List.map_nil, Nat.reduceAdd, Nat.testBit, Nat.reduceShiftRight, Nat.reduceAnd, Nat.reduceBNe, Nat.reduceMul, hMa, hMb, Cmd.cells, hw, eql_bools 4 t4, STs, decide_eq_true e0, decide_eq_true e1, decide_eq_false e2]
      by_cases e3 : c.force = d.force
      case neg =>
        simp only [hd0, decide_eq_true e0, decide_eq_true e1, decide_eq_true e2, decide_eq_false e3, Bool.true_and, Bool.false_and, Bool.and_false]
        simp (implicitDefEqProofs := false) (disch := omega) only [WPs, opds, List.all_cons, List.all_nil, List.cons_append, List.nil_append, cond_true, cond_false, eq_self, List.map_cons, List.map_nil, Nat.reduceAdd, Nat.testBit, Nat.reduceShiftRight, Nat.reduceAnd, Nat.reduceBNe, Nat.reduceMul, hMa, hMb, Cmd.cells, hw, eql_bools 4 t4, STs, decide_eq_true e0, decide_eq_true e1, decide_eq_true e2, decide_eq_false e3]
      by_cases e4 : c.vol = d.vol
      case neg =>
        simp only [hd0, decide_eq_true e0, decide_eq_true e1, decide_eq_true e2, decide_eq_true e3, decide_eq_false e4, Bool.true_and, Bool.false_and, Bool.and_false]
        simp (implicitDefEqProofs := false) (disch := omega) only [WPs, opds, List.all_cons, List.all_nil, List.cons_append, List.nil_append, cond_true, cond_false, eq_self, List.map_cons, List.map_nil, Nat.reduceAdd, Nat.testBit, Nat.reduceShiftRight, Nat.reduceAnd, Nat.reduceBNe, Nat.reduceMul, hMa, hMb, Cmd.cells, hw, eql_bools 4 t4, STs, decide_eq_true e0, decide_eq_true e1, decide_eq_true e2, decide_eq_true e3, decide_eq_false e4]
      by_cases e5 : c.oth = d.oth
      case neg =>
        simp only [hd0, decide_eq_true e0, decide_eq_true e1, decide_eq_true e2, decide_eq_true e3, decide_eq_true e4, decide_eq_false e5, Bool.true_and, Bool.false_and, Bool.and_false]
        simp (implicitDefEqProofs := false) (disch := omega) only [WPs, opds, List.all_cons, List.all_nil, List.cons_append, List.nil_append, cond_true, cond_false, eq_self, List.map_cons, List.map_nil, Nat.reduceAdd, Nat.testBit, Nat.reduceShiftRight, Nat.reduceAnd, Nat.reduceBNe, Nat.reduceMul, hMa, hMb, Cmd.cells, hw, eql_bools 4 t4, STs, decide_eq_true e0, decide_eq_true e1, decide_eq_true e2, decide_eq_true e3, decide_eq_true e4, decide_eq_false e5]
      by_cases e6 : c.at_ = d.at_
      case neg =>
        simp only [hd0, decide_eq_true e0, decide_eq_true e1, decide_eq_true e2, decide_eq_true e3, decide_eq_true e4, decide_eq_true e5, decide_eq_false e6, Bool.true_and, Bool.false_and, Bool.and_false]
        simp (implicitDefEqProofs := false) (disch := omega) only [WPs, opds, List.all_cons, List.all_nil, List.cons_append, List.nil_append, cond_true, cond_false, eq_self, List.map_cons, List.map_nil, Nat.reduceAdd, Nat.testBit, Nat.reduceShiftRight, Nat.reduceAnd, Nat.reduceBNe, Nat.reduceMul, hMa, hMb, Cmd.cells, hw, eql_bools 4 t4, STs, decide_eq_true e0, decide_eq_true e1, decide_eq_true e2, decide_eq_true e3, decide_eq_true e4, decide_eq_true e5, decide_eq_false e6]
      simp only [hd0, decide_eq_true e0, decide_eq_true e1, decide_eq_true e2, decide_eq_true e3, decide_eq_true e4, decide_eq_true e5, decide_eq_true e6, Bool.true_and]
      simp (implicitDefEqProofs := false) (disch := omega) only [WPs, opds, List.all_cons, List.all_nil, List.cons_append, List.nil_append, cond_true, cond_false, eq_self, List.map_cons, List.map_nil, Nat.reduceAdd, Nat.testBit, Nat.reduceShiftRight, Nat.reduceAnd, Nat.reduceBNe, Nat.reduceMul, hMa, hMb, Cmd.cells, hw, eql_bools 4 t4, STs, decide_eq_true e0, decide_eq_true e1, decide_eq_true e2, decide_eq_true e3, decide_eq_true e4, decide_eq_true e5, decide_eq_true e6]
    · have : sameB c d = false := by unfold sameB; rw [decide_eq_false hdat]; rfl
      rw [this]
      have hw : Nat.mod w (bit n) = 0 := frz_down h3 (by omega)
      simp (implicitDefEqProofs := false) (disch := omega) only [WPs, opds, List.all_cons, List.all_nil, List.cons_append, List.nil_append, cond_true, cond_false, eq_self, List.map_cons, List.map_nil, Nat.reduceAdd, Nat.testBit, Nat.reduceShiftRight, Nat.reduceAnd, Nat.reduceBNe, Nat.reduceMul, hw]
  · have : sameB c d = false := by unfold sameB; rw [decide_eq_false (fun h => h0 (by rw [h]))]; rfl
    rw [this]
    simp (implicitDefEqProofs := false) (disch := omega) only [WPs, opds, List.all_cons, List.all_nil, List.cons_append, List.nil_append, cond_true, cond_false, eq_self, List.map_cons, List.map_nil, Nat.reduceAdd, Nat.testBit, Nat.reduceShiftRight, Nat.reduceAnd, Nat.reduceBNe, Nat.reduceMul, hc.one, hd.one, hc.len, hd.len]
end Go.Am.C41
namespace Go.Am
open Go
def SlZ (sz : Nat) (M : FM) (n0 N : Nat) (v : Value) (len : Nat) (cs : List Value) : Prop :=
  (len = 0 ∧ cs = [] ∧ v = .slice none 0 0) ∨ (0 < len ∧ cs.length = len * sz ∧ ∃ b, v = .slice (some ⟨b, 0, none⟩) len UNK ∧ n0 ≤ b ∧ b < N ∧ M b = some (.cells cs sz true true))
theorem SlZ.frame {sz : Nat} {M M' : FM} {n0 N N' : Nat} {v : Value} {len : Nat} {cs : List Value} (h : SlZ sz M n0 N v len cs) (hN : N ≤ N') (ht : ∀ b, n0 ≤ b → b < N → M' b = M b) : SlZ sz M' n0 N' v len cs := by
  rcases h with h | ⟨h0, hl, b, h1, h2, h3, h4⟩
  · exact .inl h
  · exact .inr ⟨h0, hl, b, h1, h2, by omega, (ht b h2 h3).trans h4⟩
theorem SlZ.low {sz : Nat} {M : FM} {n0 n1 N : Nat} {v : Value} {len : Nat} {cs : List Value} (h : SlZ sz M n0 N v len cs) (hn : n1 ≤ n0) : SlZ sz M n1 N v len cs := by
  rcases h with h | ⟨h0, hl, b, h1, h2, h3, h4⟩
  · exact .inl h
  · exact .inr ⟨h0, hl, b, h1, by omega, h3, h4⟩
theorem SlZ.len {sz : Nat} {M : FM} {n0 N : Nat} {v : Value} {len : Nat} {cs : List Value} (h : SlZ sz M n0 N v len cs) : lenV false v = some (.int .i64 (len : Int)) := by
  rcases h with ⟨rfl, rfl, rfl⟩ | ⟨_, _, b, rfl, _⟩ <;> rfl
theorem SlZ.bel {sz : Nat} {M : FM} {n0 N : Nat} {v : Value} {len : Nat} {cs : List Value} (h : SlZ sz M n0 N v len cs) (k : Nat) (hk : N ≤ k) : belowV k v = true := by
  rcases h with ⟨_, _, rfl⟩ | ⟨_, _, b, rfl, _, hb, _⟩
  · rfl
  · exact blt_true (show b < k by omega)
theorem SlZ.one {sz : Nat} {M : FM} {n0 N : Nat} {v : Value} {len : Nat} {cs : List Value} (h : SlZ sz M n0 N v len cs) : Am.one v = true := by
  rcases h with ⟨_, _, rfl⟩ | ⟨_, _, b, rfl, _⟩ <;> rfl
theorem SlZ.at {sz : Nat} {M : FM} {n0 N : Nat} {v : Value} {len : Nat} {cs : List Value} (h : SlZ sz M n0 N v len cs) {i : Nat} (hi : i < len) : ∃ b, idxV sz i v = some (.pointer (some ⟨b, i * sz, none⟩)) ∧ n0 ≤ b ∧ b < N ∧ M b = some (.cells cs sz true true) ∧ cs.length = len * sz := by
  rcases h with ⟨rfl, _, _⟩ | ⟨_, hl, b, rfl, h1, h2, h3⟩
  · omega
  · exact ⟨b, by rw [idx_mk hi, Nat.zero_add], h1, h2, h3, hl⟩
structure AppZ (sz : Nat) (M : FM) (n0 N : Nat) (len : Nat) (cs : List Value) (v' : Value) (M' : FM) (N' w : Nat) : Prop where
  v : v' = .slice (some ⟨N, 0, none⟩) len UNK
  n : N' = N + 1
  s : SlZ sz M' n0 N' v' len cs
  low : ∀ b, b < n0 → M' b = M b
  w : ∀ j, j ≤ n0 → Nat.mod w (bit j) = 0
theorem app_slZ {sz : Nat} {M : FM} {n0 N bytes : Nat} {v : Value} {len : Nat} {cs zs : List Value} (h : SlZ sz M n0 N v len cs) (ya : Option Addr) (yc ry : Nat) (h0 : n0 ≤ N) (hsz : 0 < sz) (hzl : zs.length = sz) (hz : zs.all Am.one = true) (hby : 0 < bytes) (hl : (len + 1) * bytes ≤ 140737488355328) :
    Rt (appO sz bytes M N v (.slice ya 1 yc) (shown M N sz v) (some (zs, ry))) fun v' M' N' w => AppZ sz M n0 N (len + 1) (cs ++ zs) v' M' N' w := by
  rcases h with ⟨rfl, rfl, rfl⟩ | ⟨hp, hcl, b, rfl, hb, hbN, hM⟩
  · rw [shown_nil, appO_mk, appV_mk]
    have hl' : (0 + 1) * bytes ≤ 140737488355328 := by simpa using hl
    rw [show (zs, ry).1.all Am.one = true from hz, blt_true hsz, blt_true hby, ble_true hl', appG_nil (by omega)]
    exact ⟨rfl, rfl, .inr ⟨by omega, by simp [hzl], N, rfl, h0, by omega, fput_same _ _ _⟩, fun b hb => fput_ne _ _ _ _ (by omega), fun j hj => frz_bit (by omega)⟩
  · rw [shown_pos hp, getb_lt hbN, hM, shownB_mk, Nat.beq_refl, cellsAt_mk, ldrop_z, cells_all hcl.symm]
    show Rt (appO sz bytes M N _ _ (some (cs, bit b)) _) _
    rw [appO_mk, appV_mk]
    rw [show (zs, ry).1.all Am.one = true from hz, blt_true hsz, blt_true hby, ble_true hl, appG_unk, getb_lt hbN, hM, appU_mk]
    exact ⟨rfl, rfl, .inr ⟨by omega, by rw [List.length_append, hcl, hzl, Nat.add_mul, Nat.one_mul], N, rfl, h0, by omega, fput_same _ _ _⟩, fun k hk => by rw [fput_ne _ _ _ _ (by omega), fput_ne _ _ _ _ (by omega)], fun j hj => by rw [frz_iff]; exact ⟨frz_bit (by omega), frz_bit (by omega)⟩⟩
end Go.Am
namespace Go.Am
open Go
section
variable {P : Program} {E : Nat → Option AFn} {Y : Nat → List Value → FM → Nat → OR FM} {m : FM} {n : Nat}
theorem kept_specA {f : Nat} {fn : AFn} {args : List Value} {R : Value → FM → Nat → Prop} (hE : E f = some fn) (ha : llen args = fn.na) (h : ∀ Q : AX → List Value → FM → Nat → Nat → Prop, (∀ v e m' n' w, n ≤ n' → (∀ b, b < n → m' b = m b) → Nat.mod w (bit n) = 0 → (addrFree v = false → R v m' n') → (addrFree v = true → R v m n) → Q (.ret v) e m' n' w) → Wr P E Y [] 0 (execW P E Y fn.code args m n) Q) : Rt (callW P E Y f args m n) fun v m' n' w => n ≤ n' ∧ (∀ b, b < n → m' b = m b) ∧ (∀ j, j ≤ n → Nat.mod w (bit j) = 0) ∧ R v m' n' := by
  rw [callW_fn hE ha]
  obtain ⟨X, e', m', n', r, w, hx, v, rfl, h1, h2, h3, h4, h5⟩ := Gv_some (wr_start (h (fun X _ m' n' w => ∃ v, X = .ret v ∧ n ≤ n' ∧ (∀ b, b < n → m' b = m b) ∧ Nat.mod w (bit n) = 0 ∧ (addrFree v = false → R v m' n') ∧ (addrFree v = true → R v m n)) fun v _ m' n' w k1 k2 k3 k4 k5 => ⟨v, rfl, k1, k2, k3, k4, k5⟩))
  rw [hx, leave_ret]
  cases hv : addrFree v
  · rw [leaveA_keep hv]
    exact ⟨h1, h2, fun j hj => frz_down h3 hj, h4 hv⟩
  · rw [leaveA_free hv h3]
    exact ⟨Nat.le_refl _, fun _ _ => rfl, fun j _ => Nat.zero_mod _, h5 hv⟩
end
section
variable {P : Program} {E : Nat → Option AFn} {Y : Nat → List Value → FM → Nat → OR FM}
def Kont (P : Program) (E : Nat → Option AFn) (Y : Nat → List Value → FM → Nat → OR FM) (K : List Frm) (w0 : Nat) (Q : AX → List Value → FM → Nat → Nat → Prop) : AX → List Value → FM → Nat → Nat → Prop := fun X e m n w => ∀ r, Wr P E Y K w0 (.ok X e m n r w) Q
theorem wr_kont {K : List Frm} {w0 : Nat} {x : CR FM} {Q : AX → List Value → FM → Nat → Nat → Prop} (h : Gv x fun X e m n w => Kont P E Y K w0 Q X e m n (Nat.lor 0 w)) : Wr P E Y K w0 x Q :=
  wr_cps (h.mono fun X e m n w hq r => by have := hq r; rwa [zero_lor'] at this)
end
def IntZ (M : FM) (n0 N : Nat) (v : Value) (xs : List Int) : Prop := SlZ 1 M n0 N v xs.length (xs.map (Value.int .i64))
theorem IntZ.nil (M : FM) (n0 N : Nat) : IntZ M n0 N (.slice none 0 0) [] := .inl ⟨rfl, rfl, rfl⟩
theorem IntZ.ints {M : FM} {n0 N : Nat} {v : Value} {xs : List Int} (h : IntZ M n0 N v xs) : Ints M N v xs := by
  rcases h with ⟨h0, h1, rfl⟩ | ⟨h0, hl, b, rfl, h1, h2, h3⟩
  · exact .inl ⟨rfl, h1⟩
  · exact .inr <| .inl ⟨b, 0, UNK, _, true, true, by rw [List.length_map], h2, h3, fun i x hx => by rw [Nat.zero_add]; exact hx⟩
def natsI (l : List Nat) : List Int := l.map Int.ofNat
theorem app_intZ {M : FM} {n0 N : Nat} {v : Value} {xs : List Int} (h : IntZ M n0 N v xs) (z : Int) (ya : Option Addr) (yc ry : Nat) (h0 : n0 ≤ N) (hl : xs.length ≤ 1000000) :
    Rt (appO 1 8 M N v (.slice ya 1 yc) (shown M N 1 v) (some ([.int .i64 z], ry))) fun v' M' N' w => N' = N + 1 ∧ IntZ M' n0 N' v' (xs ++ [z]) ∧ (∀ b, b < n0 → M' b = M b) ∧ ∀ j, j ≤ n0 → Nat.mod w (bit j) = 0 := by
  refine (app_slZ (zs := [.int .i64 z]) h ya yc ry h0 (by omega) rfl rfl (by omega) (by omega)).mono fun v' M' N' w hA => ⟨hA.n, ?_, hA.low, hA.w⟩
  have := hA.s
  unfold IntZ
  rw [List.length_append, List.map_append]
  exact this
theorem IntZ.frame {M M' : FM} {n0 N N' : Nat} {v : Value} {xs : List Int} (h : IntZ M n0 N v xs) (hN : N ≤ N') (ht : ∀ b, n0 ≤ b → b < N → M' b = M b) : IntZ M' n0 N' v xs := SlZ.frame h hN ht
theorem IntZ.free {M m : FM} {n0 N n : Nat} {v : Value} {xs : List Int} (h : IntZ M n0 N v xs) (hv : addrFree v = true) : Ints m n v xs := by
  rcases h with ⟨h0, h1, rfl⟩ | ⟨h0, hl, b, rfl, h1, h2, h3⟩
  · exact .inl ⟨rfl, h1⟩
  · cases hv
end Go.Am
namespace Go.Am
open Go
abbrev MI := List (Int × Value)
def mapC (mi : MI) : List (Value × Value) := mi.map fun p => (.int .i64 p.1, p.2)
def idxI (t : Int) : MI → Option Nat
  | [] => none
  | p :: mi => if t = p.1 then some 0 else (idxI t mi).map (· + 1)
def lookI (t : Int) : MI → Option Value
  | [] => none
  | p :: mi => if t = p.1 then some p.2 else lookI t mi
def setI (t : Int) (v : Value) : MI → MI
  | [] => [(t, v)]
  | p :: mi => if t = p.1 then (t, v) :: mi else p :: setI t v mi
def delI (t : Int) : MI → MI
  | [] => []
  | p :: mi => if t = p.1 then mi else p :: delI t mi
variable {P : Program}
theorem findNow_int (t : Int) (k : IntKind) : ∀ (mi : MI) (i : Nat), Instr.findNow (.int k) (.int .i64 t) (entOf ((mapC mi).map Prod.fst)) i = some ((idxI t mi).map fun j => (i + j, undef))
  | [], i => rfl
  | p :: mi, i => by
    show (match (if IntKind.i64 = IntKind.i64 then some (t == p.1) else none) with | some true => some (some (i, undef)) | some false => Instr.findNow (.int k) (.int .i64 t) (entOf ((mapC mi).map Prod.fst)) (i + 1) | none => none) = _
    rw [if_pos rfl]
    by_cases h : t = p.1
    · rw [show (t == p.1) = true from by simpa using h]
      show some (some (i, undef)) = some ((if t = p.1 then some 0 else _).map _)
      rw [if_pos h]; rfl
    · rw [show (t == p.1) = false from by simpa using h]
      show Instr.findNow (.int k) (.int .i64 t) (entOf ((mapC mi).map Prod.fst)) (i + 1) = some ((if t = p.1 then some 0 else (idxI t mi).map (· + 1)).map _)
      rw [if_neg h, findNow_int t k mi (i + 1)]
      cases idxI t mi with
      | none => rfl
      | some j => show some (some (i + 1 + j, undef)) = some (some (i + (j + 1), undef)); rw [show i + 1 + j = i + (j + 1) by omega]
theorem keyIdx_int {kt : Nat} {k : IntKind} (hk : P.underlying kt = some (.int k)) (e : Bool) (t : Int) (mi : MI) : keyIdx P e kt (.int .i64 t) ((mapC mi).map Prod.fst) = some (idxI t mi) := by
  unfold keyIdx
  rw [pr_bind]
  have h1 : pureRun P (Instr.checkKey e 10000 kt (.int .i64 t)) = some () := by
    show pureRun P (underlying kt >>= _) = _
    rw [pr_bind, pr_underlying hk]; rfl
  rw [h1]
  show Option.map _ (pureRun P (underlying kt >>= _)) = _
  rw [pr_bind, pr_underlying hk]
  show Option.map _ (pureRun P (match Instr.findNow (.int k) (.int .i64 t) (entOf ((mapC mi).map Prod.fst)) 0 with | some r => pure r | none => Instr.findAsking kt (.int .i64 t) (entOf ((mapC mi).map Prod.fst)))) = _
  rw [findNow_int]
  show some (Option.map _ (Option.map _ _)) = _
  rw [Option.map_map]
  cases idxI t mi with
  | none => rfl
  | some j => show some (some (0 + j)) = _; rw [Nat.zero_add]
theorem lookE_int (ok : Bool) (z : Value) (t : Int) : ∀ mi : MI, lookE ok z (mapC mi) (some (idxI t mi)) = some (match lookI t mi with | some v => lookR ok v true | none => lookR ok z false)
  | [] => rfl
  | p :: mi => by
    have ih := lookE_int ok z t mi
    unfold idxI lookI
    by_cases h : t = p.1
    · rw [if_pos h, if_pos h]; rfl
    · rw [if_neg h, if_neg h, ← ih]
      cases idxI t mi <;> rfl
theorem sameBits_int (n : Nat) (a b : Int) : Instr.sameBits n (.int .i64 a) (.int .i64 b) = (a == b) := by
  cases n <;> simp [Instr.sameBits]
theorem updE_int (t : Int) (v : Value) : ∀ mi : MI, updE (.int .i64 t) v (mapC mi) (some (idxI t mi)) = some (mapC (setI t v mi))
  | [] => rfl
  | p :: mi => by
    have ih := updE_int t v mi
    unfold idxI setI
    by_cases h : t = p.1
    · rw [if_pos h, if_pos h]
      show cond (Instr.sameBits 10000 (.int .i64 p.1) (.int .i64 t)) _ none = _
      rw [sameBits_int, show (p.1 == t) = true from by simpa using h.symm]; rfl
    · rw [if_neg h, if_neg h]
      cases hi : idxI t mi with
      | none =>
        rw [hi] at ih
        injection ih with ih
        show some ((Value.int .i64 p.1, p.2) :: (mapC mi ++ [(.int .i64 t, v)])) = some ((.int .i64 p.1, p.2) :: mapC (setI t v mi))
        rw [ih]
      | some j =>
        rw [hi] at ih
        replace ih : (match (mapC mi)[j]? with | some q => cond (Instr.sameBits 10000 q.1 (.int .i64 t)) (some ((mapC mi).set j (.int .i64 t, v))) none | none => none) = some (mapC (setI t v mi)) := ih
        show (match ((Value.int .i64 p.1, p.2) :: mapC mi)[j + 1]? with | some q => cond (Instr.sameBits 10000 q.1 (.int .i64 t)) (some (((Value.int .i64 p.1, p.2) :: mapC mi).set (j + 1) (.int .i64 t, v))) none | none => none) = some ((.int .i64 p.1, p.2) :: mapC (setI t v mi))
        rw [List.getElem?_cons_succ]
        cases hq : (mapC mi)[j]? with
        | none => rw [hq] at ih; cases ih
        | some q =>
          rw [hq] at ih
          replace ih : cond (Instr.sameBits 10000 q.1 (.int .i64 t)) (some ((mapC mi).set j (.int .i64 t, v))) none = some (mapC (setI t v mi)) := ih
          show cond (Instr.sameBits 10000 q.1 (.int .i64 t)) _ none = _
          cases hs : Instr.sameBits 10000 q.1 (.int .i64 t) with
          | false => rw [hs] at ih; cases ih
          | true =>
            rw [hs] at ih
            injection ih with ih
            show some ((Value.int .i64 p.1, p.2) :: (mapC mi).set j (.int .i64 t, v)) = _
            rw [ih]
theorem delE_int (t : Int) : ∀ mi : MI, delE (mapC mi) (some (idxI t mi)) = some (mapC (delI t mi))
  | [] => rfl
  | p :: mi => by
    have ih := delE_int t mi
    unfold idxI delI
    by_cases h : t = p.1
    · rw [if_pos h, if_pos h]; rfl
    · rw [if_neg h, if_neg h]
      cases hi : idxI t mi with
      | none =>
        rw [hi] at ih
        injection ih with ih
        show some ((Value.int .i64 p.1, p.2) :: mapC mi) = some ((.int .i64 p.1, p.2) :: mapC (delI t mi))
        rw [← ih]
      | some j =>
        rw [hi] at ih
        injection ih with ih
        show some ((Value.int .i64 p.1, p.2) :: (mapC mi).eraseIdx j) = some ((.int .i64 p.1, p.2) :: mapC (delI t mi))
        rw [ih]
section
variable {m : FM} {n b : Nat} {mi : MI} {kt : Nat} {k : IntKind}
theorem s_mp {rec : Nat → List Value → FM → Nat → OR FM} {e : List Value} (op : MOp) (xs : List Opd) : stepA P rec e m n (.mp op xs) = mapV P op (evs e xs) m n := rfl
def lookV (ok : Bool) (z : Value) : Option Value → Value
  | some v => lookR ok v true
  | none => lookR ok z false
theorem map_look (hk : P.underlying kt = some (.int k)) (hb : b < n) (hm : m b = some (.map (mapC mi))) (z : Value) (ok : Bool) (t : Int) :
    mapV P (.look kt z ok) [.map (some b), .int .i64 t] m n = .ok (lookV ok z (lookI t mi)) m n (bit b) 0 := by
  show lookB P kt z ok m n b (.int .i64 t) (getb m n b) = _
  rw [getb_lt hb, hm]
  show valR m n b (lookE ok z (mapC mi) (keyIdx P (mapC mi).isEmpty kt (.int .i64 t) ((mapC mi).map Prod.fst))) = _
  rw [keyIdx_int hk, lookE_int]
  cases lookI t mi <;> rfl
theorem map_upd (hk : P.underlying kt = some (.int k)) (hb : b < n) (hm : m b = some (.map (mapC mi))) (t : Int) (v : Value) :
    mapV P (.upd kt) [.map (some b), .int .i64 t, v] m n = .ok undef (AMem.put m b (some (.map (mapC (setI t v mi))))) n (bit b) (bit b) := by
  show updB P kt m n b (.int .i64 t) v (getb m n b) = _
  rw [getb_lt hb, hm]
  show putM m n b (updE (.int .i64 t) v (mapC mi) (keyIdx P false kt (.int .i64 t) ((mapC mi).map Prod.fst))) = _
  rw [keyIdx_int hk, updE_int]; rfl
theorem map_del (hk : P.underlying kt = some (.int k)) (hb : b < n) (hm : m b = some (.map (mapC mi))) (t : Int) :
    mapV P (.del kt) [.map (some b), .int .i64 t] m n = .ok undef (AMem.put m b (some (.map (mapC (delI t mi))))) n (bit b) (bit b) := by
  show delB P kt m n b (.int .i64 t) (getb m n b) = _
  rw [getb_lt hb, hm]
  show putM m n b (delE (mapC mi) (keyIdx P (mapC mi).isEmpty kt (.int .i64 t) ((mapC mi).map Prod.fst))) = _
  rw [keyIdx_int hk, delE_int]; rfl
theorem map_mk : mapV P .mk [] m n = .ok (.map (some n)) (AMem.put m n (some (.map (mapC [])))) (n + 1) 0 (bit n) := rfl
theorem one_map (b : Nat) : one (.map (some b)) = true := rfl
theorem cells_mapv (b : Nat) : (Value.map (some b)).cells.toList = [.map (some b)] := rfl
theorem belowV_map (n b : Nat) : belowV n (.map (some b)) = Nat.blt b n := rfl
end
end Go.Am
namespace Go.Am
open Go
variable {P : Program}
theorem eqlnil_slc {t : Nat} (ht : isSliceT P t = true) (a : Option Addr) (l c : Nat) : binV P .eql t (.slice a l c) (.slice none 0 0) = some (.bool a.isNone) := by
  show cond (isSliceT P t) (nilBin .eql a.isNone) none = _
  rw [ht]; rfl
theorem eqlnil_ptr {t : Nat} (ht : isPtrT P t = true) (a : Option Addr) : binV P .eql t (.pointer a) (.pointer none) = some (.bool a.isNone) := by
  show cond (isPtrT P t) (nilBin .eql a.isNone) none = _
  rw [ht]; rfl
theorem isNone_some {α : Type} (a : α) : (some a).isNone = false := rfl
theorem isNone_none {α : Type} : (none : Option α).isNone = true := rfl
end Go.Am
namespace Go.Am.C41
open Go Go.Am
variable {E : Nat → Option AFn} {Y : Nat → List Value → FM → Nat → OR FM}
def u8all (ds : List (List Int)) : List Value := (ds.map fun d => d.map (Value.int .u8)).flatten
theorem u8all_cons (d : List Int) (ds : List (List Int)) : u8all (d :: ds) = u8s d ++ u8all ds := rfl
theorem u8all_len : ∀ {ds : List (List Int)}, (∀ d ∈ ds, d.length = 8) → (u8all ds).length = ds.length * 8
  | [], _ => rfl
  | d :: ds, h => by
    rw [u8all_cons, List.length_append, u8all_len fun e he => h e (List.mem_cons_of_mem _ he), u8s, List.length_map, h d (List.mem_cons_self ..), List.length_cons]; omega
theorem u8all_one : ∀ {ds : List (List Int)}, (u8all ds).all Am.one = true
  | [] => rfl
  | d :: ds => by
    rw [u8all_cons, List.all_append, u8all_one, Bool.and_true, List.all_eq_true]
    intro x hx
    obtain ⟨z, _, rfl⟩ := List.mem_map.1 hx; rfl
theorem u8all_drop : ∀ {ds : List (List Int)}, (∀ d ∈ ds, d.length = 8) → ∀ i (hi : i < ds.length), ((u8all ds).drop (i * 8)).take 8 = u8s ds[i]
  | d :: ds, h, 0, _ => by
    rw [u8all_cons, Nat.zero_mul, List.drop_zero, List.take_append_of_le_length (by rw [u8s, List.length_map, h d (List.mem_cons_self ..)]; exact Nat.le_refl _), List.take_of_length_le (by rw [u8s, List.length_map, h d (List.mem_cons_self ..)]; exact Nat.le_refl _)]; rfl
  | d :: ds, h, i + 1, hi => by
    have hl : (u8s d).length = 8 := by rw [u8s, List.length_map, h d (List.mem_cons_self ..)]
    rw [u8all_cons, show (i + 1) * 8 = (u8s d).length + i * 8 by rw [hl]; omega, List.drop_append, Nat.add_sub_cancel_left, List.drop_eq_nil_of_le (by omega), List.nil_append]
    exact u8all_drop (fun e he => h e (List.mem_cons_of_mem _ he)) i (by simpa using hi)
def DatS (m : FM) (n : Nat) (v : Value) (ds : List (List Int)) : Prop :=
  (v = .slice none 0 0 ∧ ds = []) ∨ (∃ b o c, v = .slice (some ⟨b, o, none⟩) 0 c ∧ b < n ∧ ds = []) ∨
    ∃ b o c cs opn wr, v = .slice (some ⟨b, o, none⟩) ds.length c ∧ 0 < ds.length ∧ b < n ∧ m b = some (.cells cs 8 opn wr) ∧ (∀ d ∈ ds, d.length = 8) ∧ ctake (ldrop cs o) (ds.length * 8) = some (u8all ds)
theorem DatS.frame {m m' : FM} {n n' : Nat} {v : Value} {ds : List (List Int)} (h : DatS m n v ds) (hn : n ≤ n') (hf : ∀ b, b < n → m' b = m b) : DatS m' n' v ds := by
  rcases h with h | ⟨b, o, c, h1, h2, h3⟩ | ⟨b, o, c, cs, opn, wr, h1, h2, h3, h4, h5⟩
  · exact .inl h
  · exact .inr (.inl ⟨b, o, c, h1, by omega, h3⟩)
  · exact .inr (.inr ⟨b, o, c, cs, opn, wr, h1, h2, by omega, (hf b h3).trans h4, h5⟩)
theorem DatS.v {m : FM} {n : Nat} {v : Value} {ds : List (List Int)} (h : DatS m n v ds) : DatV m n v ds := by
  rcases h with ⟨rfl, rfl⟩ | ⟨b, o, c, rfl, h2, rfl⟩ | ⟨b, o, c, cs, opn, wr, rfl, h2, h3, h4, h5, h6⟩
  · exact DatV.nil m n
  · exact ⟨_, _, rfl, blt_true h2, .inl rfl⟩
  · refine ⟨_, _, rfl, blt_true h3, .inr ⟨b, o, cs, opn, wr, rfl, h3, h4, fun i hi => ⟨h5 _ (List.getElem_mem hi), ?_⟩⟩⟩
    have hl := u8all_len h5
    unfold cellsAt
    rw [ldrop_eq, ctake_eq] at h6 ⊢
    split at h6
    next hle =>
      injection h6 with h6
      rw [List.length_drop] at hle
      rw [if_pos (by rw [List.length_drop]; omega), ← u8all_drop h5 i hi, ← h6]
      congr 1
      rw [List.drop_take, List.drop_drop, List.take_take, Nat.min_eq_left (by omega)]
    next => cases h6
theorem DatS.shown {m : FM} {n : Nat} {v : Value} {ds : List (List Int)} (h : DatS m n v ds) : ∃ r, Am.shown m n 8 v = some (u8all ds, r) := by
  rcases h with ⟨rfl, rfl⟩ | ⟨b, o, c, rfl, h2, rfl⟩ | ⟨b, o, c, cs, opn, wr, rfl, h2, h3, h4, h5, h6⟩
  · exact ⟨0, rfl⟩
  · exact ⟨0, rfl⟩
  · refine ⟨bit b, ?_⟩
    rw [shown_pos h2, getb_lt h3, h4, shownB_mk, Nat.beq_refl]
    show cond true (Option.rec (motive := fun _ => Option (List Value × Nat)) none (fun x => some (x, bit b)) (ctake (ldrop cs o) (ds.length * 8))) none = _
    rw [h6]; rfl
def DatF (M : FM) (T : Nat → Prop) (v : Value) (ds : List (List Int)) : Prop :=
  (v = .slice none 0 0 ∧ ds = []) ∨ (∃ b c, v = .slice (some ⟨b, 0, none⟩) 0 c ∧ T b ∧ ds = []) ∨
    ∃ b, v = .slice (some ⟨b, 0, none⟩) ds.length UNK ∧ 0 < ds.length ∧ T b ∧ M b = some (.cells (u8all ds) 8 true true) ∧ ∀ d ∈ ds, d.length = 8
theorem DatF.frame {M M' : FM} {T T' : Nat → Prop} {v : Value} {ds : List (List Int)} (h : DatF M T v ds) (ht : ∀ b, T b → T' b ∧ M' b = M b) : DatF M' T' v ds := by
  rcases h with h | ⟨b, c, h1, h2, h3⟩ | ⟨b, h1, h2, h3, h4, h5⟩
  · exact .inl h
  · exact .inr (.inl ⟨b, c, h1, (ht b h2).1, h3⟩)
  · exact .inr (.inr ⟨b, h1, h2, (ht b h3).1, (ht b h3).2.trans h4, h5⟩)
theorem DatF.s {M : FM} {T : Nat → Prop} {N : Nat} {v : Value} {ds : List (List Int)} (h : DatF M T v ds) (hT : ∀ b, T b → b < N) : DatS M N v ds := by
  rcases h with h | ⟨b, c, h1, h2, h3⟩ | ⟨b, h1, h2, h3, h4, h5⟩
  · exact .inl h
  · exact .inr (.inl ⟨b, 0, c, h1, hT b h2, h3⟩)
  · exact .inr (.inr ⟨b, 0, UNK, _, true, true, h1, h2, hT b h3, h4, h5, by rw [ldrop_z]; exact cells_all (u8all_len h5).symm⟩)
theorem app_dat {M : FM} {n : Nat} {v : Value} {ds : List (List Int)} (h : DatS M n v ds) (hs : ds.length ≤ 1000000) (b N : Nat) (hb : n ≤ b) (hbN : b < N) (hM : M b = some (.cells [] 8 false true)) (hn : n ≤ N) :
    Rt (appO 8 8 M N (.slice (some ⟨b, 0, none⟩) 0 0) v (some ([], 0)) (Am.shown M N 8 v)) fun v' M' N' w => N ≤ N' ∧ (∀ k, k < n → M' k = M k) ∧ (∀ j, j ≤ n → Nat.mod w (bit j) = 0) ∧ DatF M' (fun k => n ≤ k ∧ k < N') v' ds ∧ (∀ k, k < N → k ≠ b → M' k = M k) := by
  have h' := h.frame hn (fun _ _ => rfl)
  obtain ⟨r, hr⟩ := h'.shown
  rw [hr, appO_mk]
  have h0 : ∀ c : Nat, appV 8 8 M N ([], 0) (u8all ds, r) (.slice (some ⟨b, 0, none⟩) 0 0) (.slice none 0 c) = appV 8 8 M N ([], 0) (u8all ds, r) (.slice (some ⟨b, 0, none⟩) 0 0) (.slice none 0 c) := fun _ => rfl
  by_cases hz : ds = []
  · subst hz
    have hv : ∃ a c, v = .slice a 0 c := by
      rcases h with ⟨rfl, _⟩ | ⟨b, o, c, rfl, _⟩ | ⟨b, o, c, cs, opn, wr, rfl, h2, _⟩
      · exact ⟨_, _, rfl⟩
      · exact ⟨_, _, rfl⟩
      · exact absurd h2 (by simp)
    obtain ⟨a, c, rfl⟩ := hv
    rw [appV_mk, show ((u8all ([] : List (List Int)), r).1.all Am.one) = true from rfl]
    show Rt (appR M N 8 0 (0 + 0) 0 [] (Nat.lor 0 r) b 0 (getb M N b)) _
    rw [getb_lt hbN, hM]
    show Rt (putC M N b 8 false (slcP 0 (0 + 0) 0 b) (Nat.lor 0 r) (setCells [] (Nat.add 0 (Nat.mul 0 8)) [])) _
    refine ⟨Nat.le_refl _, fun k hk => fput_ne _ _ _ _ (by omega), fun j hj => frz_bit (by omega), .inr (.inl ⟨b, 0, rfl, ⟨hb, hbN⟩, rfl⟩), fun k _ hk => fput_ne _ _ _ _ hk⟩
  · have hp : 0 < ds.length := List.length_pos_iff.2 hz
    have hlen : ∀ d ∈ ds, d.length = 8 := by
      rcases h with ⟨_, rfl⟩ | ⟨b, o, c, _, _, rfl⟩ | ⟨b, o, c, cs, opn, wr, _, _, _, _, h5, _⟩
      · exact absurd rfl hz
      · exact absurd rfl hz
      · exact h5
    have hv : ∃ a c, v = .slice a ds.length c := by
      rcases h with ⟨rfl, rfl⟩ | ⟨b, o, c, rfl, _, rfl⟩ | ⟨b, o, c, cs, opn, wr, rfl, h2, _⟩
      · exact ⟨_, _, rfl⟩
      · exact ⟨_, _, rfl⟩
      · exact ⟨_, _, rfl⟩
    obtain ⟨a, c, rfl⟩ := hv
    rw [appV_mk, show ((u8all ds, r).1.all Am.one) = true from u8all_one, blt_true (show 0 < 8 by omega), ble_true (show (0 + ds.length) * 8 ≤ 140737488355328 by omega)]
    show Rt (cond (Nat.ble (Nat.add 0 ds.length) 0) (appR M N 8 0 (0 + ds.length) 0 (u8all ds) (Nat.lor 0 r) b 0 (getb M N b)) (appN M N 8 (0 + ds.length) ([] ++ u8all ds) (Nat.lor 0 r))) _
    have hle : Nat.ble (Nat.add 0 ds.length) 0 = false := by
      cases hq : Nat.ble (Nat.add 0 ds.length) 0
      · rfl
      · have : 0 + ds.length ≤ 0 := Nat.le_of_ble_eq_true hq
        omega
    rw [hle, cond_false, Nat.zero_add, List.nil_append]
    refine ⟨Nat.le_succ _, fun k hk => fput_ne _ _ _ _ (by omega), fun j hj => frz_bit (by omega), .inr (.inr ⟨N, rfl, hp, ⟨by omega, by omega⟩, fput_same _ _ _, hlen⟩), fun k hk _ => fput_ne _ _ _ _ (by omega)⟩
theorem sl27 : isSliceT PG 27 = true := by kernel_rfl
theorem pt25 : isPtrT PG 25 = true := by kernel_rfl
theorem DatS.shape {m : FM} {n : Nat} {v : Value} {ds : List (List Int)} (h : DatS m n v ds) : (v = .slice none 0 0 ∧ ds = []) ∨ ∃ a c, v = .slice (some a) ds.length c := by
  rcases h with h | ⟨b, o, c, rfl, _, rfl⟩ | ⟨b, o, c, cs, opn, wr, rfl, _⟩
  · exact .inl h
  · exact .inr ⟨_, _, rfl⟩
  · exact .inr ⟨_, _, rfl⟩
theorem clone_spec (hE : E 55 = some ac55) (m : FM) (n : Nat) (v : Value) (ds : List (List Int)) (h : DatS m n v ds) (hs : ds.length ≤ 1000000) :
    Rt (callW PG E Y 55 [v] m n) fun v' m' n' w => n ≤ n' ∧ (∀ b, b < n → m' b = m b) ∧ (∀ j, j ≤ n → Nat.mod w (bit j) = 0) ∧ DatF m' (fun k => n ≤ k ∧ k < n') v' ds := by
  refine kept_specA hE rfl fun Q hQ => ?_
  simp only [ac55]
  have key := app_dat (h.frame (m' := AMem.put m n (some (.cells [] 8 false true))) (n' := n) (Nat.le_refl _) (fun b hb => fput_ne _ _ _ _ (by omega))) hs n (n + 1) (Nat.le_refl _) (by omega) (fput_same _ _ _) (by omega)
  rcases h.shape with ⟨rfl, rfl⟩ | ⟨a, c, rfl⟩
  · simp (implicitDefEqProofs := false) (disch := omega) only [WPs, opds, List.all_cons, List.all_nil, List.cons_append, List.nil_append, cond_true, cond_false, eq_self, List.map_cons, List.map_nil, Nat.reduceAdd, Nat.testBit, Nat.reduceShiftRight, Nat.reduceAnd, Nat.reduceBNe, Nat.reduceMul, eqlnil_slc sl27, isNone_none]
    exact hQ _ _ _ _ _ (Nat.le_refl _) (fun _ _ => rfl) (Nat.zero_mod _) (fun _ => .inl ⟨rfl, rfl⟩) (fun _ => .inl ⟨rfl, rfl⟩)
  · simp (implicitDefEqProofs := false) (disch := omega) only [WPs, opds, List.all_cons, List.all_nil, List.cons_append, List.nil_append, cond_true, cond_false, eq_self, List.map_cons, List.map_nil, Nat.reduceAdd, Nat.testBit, Nat.reduceShiftRight, Nat.reduceAnd, Nat.reduceBNe, Nat.reduceMul, eqlnil_slc sl27, isNone_some]
    refine use_rt key fun v' M' N' r' w' ⟨h1, h2, h3, h4, _⟩ => ?_
    simp (implicitDefEqProofs := false) (disch := omega) only [WPs, opds, List.all_cons, List.all_nil, List.cons_append, List.nil_append, cond_true, cond_false, eq_self, List.map_cons, List.map_nil, Nat.reduceAdd, Nat.testBit, Nat.reduceShiftRight, Nat.reduceAnd, Nat.reduceBNe, Nat.reduceMul]
    refine hQ _ _ _ _ _ (by omega) (fun b hb => by rw [h2 b hb, fput_ne _ _ _ _ (by omega)]) (by rw [frz_iff]; exact ⟨frz_bit (by omega), h3 n (Nat.le_refl _)⟩) (fun _ => h4) (fun hv => ?_)
    rcases h4 with ⟨h5, h6⟩ | ⟨b, c, h5, h6⟩ | ⟨b, h5, h6⟩
    · exact .inl ⟨h5, h6⟩
    · rw [h5] at hv; cases hv
    · rw [h5] at hv; cases hv
end Go.Am.C41
namespace Go.Am.C41
open Go Go.Am
variable {E : Nat → Option AFn} {Y : Nat → List Value → FM → Nat → OR FM}
theorem DatF.one {M : FM} {T : Nat → Prop} {v : Value} {ds : List (List Int)} (h : DatF M T v ds) : Am.one v = true := by
  rcases h with ⟨rfl, _⟩ | ⟨b, c, rfl, _⟩ | ⟨b, rfl, _⟩ <;> rfl
theorem dup_spec (hE : E 31 = some ac31) (h55 : E 55 = some ac55) (m : FM) (n : Nat) (c : Cmd) (v : Value) (h : DatS m n v c.data) (hs : c.data.length ≤ 1000000) :
    Rt (callW PG E Y 31 [cmdV c v] m n) fun v' m' n' w => n ≤ n' ∧ (∀ b, b < n → m' b = m b) ∧ (∀ j, j ≤ n → Nat.mod w (bit j) = 0) ∧ ∃ d, v' = cmdV c d ∧ DatF m' (fun k => n ≤ k ∧ k < n') d c.data := by
  refine kept_specA hE rfl fun Q hQ => ?_
  simp only [ac31, cmdV]
  simp (implicitDefEqProofs := false) (disch := omega) only [WPs, opds, List.all_cons, List.all_nil, List.cons_append, List.nil_append, cond_true, cond_false, eq_self, List.map_cons, List.map_nil, Nat.reduceAdd, Nat.testBit, Nat.reduceShiftRight, Nat.reduceAnd, Nat.reduceBNe, Nat.reduceMul, h.v.one]
  refine use_rt (clone_spec h55 _ _ v c.data (h.frame (by omega) fun b hb => by simp (implicitDefEqProofs := false) (disch := omega) only [WPs, opds, List.all_cons, List.all_nil, List.cons_append, List.nil_append, cond_true, cond_false, eq_self, List.map_cons, List.map_nil, Nat.reduceAdd, Nat.testBit, Nat.reduceShiftRight, Nat.reduceAnd, Nat.reduceBNe, Nat.reduceMul]) hs) fun d m1 n1 r1 w1 ⟨a1, a2, a3, a4⟩ => ?_
  have hd := a4.one
  have h0 := (a2 n (by omega)).trans (show _ = some (Blk.cells [.int .i64 c.tag, .int .i64 c.kind, .int .i64 c.ord, .bool c.force, .string c.vol, .string c.oth, .int .i64 c.at_, .int .i64 c.len, v] 0 false true) from by simp (implicitDefEqProofs := false) (disch := omega) only [WPs, opds, List.all_cons, List.all_nil, List.cons_append, List.nil_append, cond_true, cond_false, eq_self, List.map_cons, List.map_nil, Nat.reduceAdd, Nat.testBit, Nat.reduceShiftRight, Nat.reduceAnd, Nat.reduceBNe, Nat.reduceMul])
  have h1 := (a2 (n + 1) (by omega)).trans (show _ = some (Blk.cells [.int .i64 0, .int .i64 0, .int .i64 0, .bool false, .string ⟨#[]⟩, .string ⟨#[]⟩, .int .i64 0, .int .i64 0, .slice none 0 0] 0 false true) from by simp (implicitDefEqProofs := false) (disch := omega) only [WPs, opds, List.all_cons, List.all_nil, List.cons_append, List.nil_append, cond_true, cond_false, eq_self, List.map_cons, List.map_nil, Nat.reduceAdd, Nat.testBit, Nat.reduceShiftRight, Nat.reduceAnd, Nat.reduceBNe, Nat.reduceMul])
  simp (implicitDefEqProofs := false) (disch := omega) only [WPs, opds, List.all_cons, List.all_nil, List.cons_append, List.nil_append, cond_true, cond_false, eq_self, List.map_cons, List.map_nil, Nat.reduceAdd, Nat.testBit, Nat.reduceShiftRight, Nat.reduceAnd, Nat.reduceBNe, Nat.reduceMul, hd, h0, h1, cells_of_one hd]
  have a4' : DatF (AMem.put (AMem.put m1 n (some (.cells [.int .i64 c.tag, .int .i64 c.kind, .int .i64 c.ord, .bool c.force, .string c.vol, .string c.oth, .int .i64 c.at_, .int .i64 c.len, d] 0 false true))) (n + 1) (some (.cells [.int .i64 c.tag, .int .i64 c.kind, .int .i64 c.ord, .bool c.force, .string c.vol, .string c.oth, .int .i64 c.at_, .int .i64 c.len, d] 0 false true)) : FM) (fun k => n ≤ k ∧ k < n1) d c.data :=
    a4.frame fun b hb => ⟨⟨by omega, hb.2⟩, by rw [fput_ne _ _ _ _ (by omega), fput_ne _ _ _ _ (by omega)]⟩
  refine hQ _ _ _ _ _ (by omega) (fun b hb => by rw [fput_ne _ _ _ _ (by omega), fput_ne _ _ _ _ (by omega), a2 b (by omega)]; simp (implicitDefEqProofs := false) (disch := omega) only [WPs, opds, List.all_cons, List.all_nil, List.cons_append, List.nil_append, cond_true, cond_false, eq_self, List.map_cons, List.map_nil, Nat.reduceAdd, Nat.testBit, Nat.reduceShiftRight, Nat.reduceAnd, Nat.reduceBNe, Nat.reduceMul]) (by simp only [frz_iff]; exact ⟨⟨⟨frz_bit (by omega), frz_bit (by omega)⟩, a3 n (by omega), frz_bit (by omega)⟩, frz_bit (by omega)⟩) (fun _ => ⟨d, rfl, a4'⟩) (fun hv => ⟨d, rfl, ?_⟩)
  rcases a4 with ⟨h5, h6⟩ | ⟨b, cc, h5, h6⟩ | ⟨b, h5, h6⟩
  · exact .inl ⟨h5, h6⟩
  · rw [h5] at hv; simp [addrFree, flat] at hv
  · rw [h5] at hv; simp [addrFree, flat] at hv
def itC (its : List (Cmd × Value)) : MI := its.map fun it => (it.1.tag, cmdV it.1 it.2)
def stC' (S : List Int) : MI := S.map fun t => (t, .bool true)
def tagsL (its : List (Cmd × Value)) : List Int := its.map fun it => it.1.tag
structure QI (M : FM) (n0 N : Nat) (tag : Tags) (q : Nat) (its : List (Cmd × Value)) (S : List Int) (tv : Value) (cb sb : Nat) : Prop where
  q0 : n0 ≤ q
  q1 : q < N
  q2 : tag q = 1
  q3 : M q = some (.cells [tv, .map (some cb), .map (some sb)] 0 false true)
  c0 : n0 ≤ cb
  c1 : cb < N
  c2 : tag cb = 2
  c3 : M cb = some (.map (mapC (itC its)))
  s0 : n0 ≤ sb
  s1 : sb < N
  s2 : tag sb = 3
  s3 : M sb = some (.map (mapC (stC' S)))
  tg : IntT M n0 N 4 tag tv (tagsL its)
  dat : ∀ it ∈ its, it.1.Fit ∧ DatF M (fun k => n0 ≤ k ∧ k < N ∧ tag k = 5) it.2 it.1.data ∧ it.1.data.length ≤ 1000000
  nd : (tagsL its).Nodup
  sn : S.Nodup
  ss : ∀ t ∈ S, t ∈ tagsL its
  len : its.length ≤ 64
theorem QI.frame {M M' : FM} {n0 N N' : Nat} {tag tag' : Tags} {q : Nat} {its : List (Cmd × Value)} {S : List Int} {tv : Value} {cb sb : Nat} (h : QI M n0 N tag q its S tv cb sb) (hN : N ≤ N') (ht : ∀ b, n0 ≤ b → b < N → tag' b = tag b) (hM : ∀ b, n0 ≤ b → b < N → 1 ≤ tag b → tag b ≤ 5 → M' b = M b) : QI M' n0 N' tag' q its S tv cb sb where
  q0 := h.q0
  q1 := by have := h.q1; omega
  q2 := (ht q h.q0 h.q1).trans h.q2
  q3 := (hM q h.q0 h.q1 (by rw [h.q2]; omega) (by rw [h.q2]; omega)).trans h.q3
  c0 := h.c0
  c1 := by have := h.c1; omega
  c2 := (ht cb h.c0 h.c1).trans h.c2
  c3 := (hM cb h.c0 h.c1 (by rw [h.c2]; omega) (by rw [h.c2]; omega)).trans h.c3
  s0 := h.s0
  s1 := by have := h.s1; omega
  s2 := (ht sb h.s0 h.s1).trans h.s2
  s3 := (hM sb h.s0 h.s1 (by rw [h.s2]; omega) (by rw [h.s2]; omega)).trans h.s3
  tg := h.tg.frame hN fun b h1 h2 h3 => ⟨(ht b h1 h2).trans h3, hM b h1 h2 (by omega) (by omega)⟩
  dat := fun it hit => ⟨(h.dat it hit).1, (h.dat it hit).2.1.frame fun b ⟨h1, h2, h3⟩ => ⟨⟨h1, by omega, (ht b h1 h2).trans h3⟩, hM b h1 h2 (by omega) (by omega)⟩, (h.dat it hit).2.2⟩
  nd := h.nd
  sn := h.sn
  ss := h.ss
  len := h.len
theorem QI.stay {M M' : FM} {n0 N N' : Nat} {tag : Tags} {q : Nat} {its : List (Cmd × Value)} {S : List Int} {tv : Value} {cb sb : Nat} (h : QI M n0 N tag q its S tv cb sb) (hN : N ≤ N') (hM : ∀ b, b < N → M' b = M b) : QI M' n0 N' tag q its S tv cb sb :=
  h.frame hN (fun _ _ _ => rfl) fun b _ h2 _ _ => hM b h2
theorem lookC (t : Int) : ∀ its : List (Cmd × Value), lookI t (itC its) = (its.find? fun it => decide (t = it.1.tag)).map fun it => cmdV it.1 it.2
  | [] => rfl
  | it :: its => by
    show (if t = it.1.tag then some (cmdV it.1 it.2) else lookI t (itC its)) = _
    rw [lookC t its, List.find?_cons]
    by_cases h : t = it.1.tag
    · rw [if_pos h, decide_eq_true h]; rfl
    · rw [if_neg h, decide_eq_false h]
theorem lookS (t : Int) : ∀ S : List Int, lookI t (stC' S) = if t ∈ S then some (.bool true) else none
  | [] => rfl
  | x :: S => by
    show (if t = x then some (.bool true) else lookI t (stC' S)) = _
    rw [lookS t S]
    by_cases h : t = x
    · rw [if_pos h, if_pos (by rw [h]; exact List.mem_cons_self ..)]
    · rw [if_neg h]
      by_cases h2 : t ∈ S
      · rw [if_pos h2, if_pos (List.mem_cons_of_mem _ h2)]
      · rw [if_neg h2, if_neg (by simp [h, h2])]
theorem lookV_some (v z : Value) : lookV true z (some v) = .tuple [v, .bool true].toArray := rfl
theorem lookV_none (z : Value) : lookV true z none = .tuple [z, .bool false].toArray := rfl
theorem lookV_some1 (v z : Value) : lookV false z (some v) = v := rfl
theorem lookV_none1 (z : Value) : lookV false z none = z := rfl
theorem u3 : PG.underlying 3 = some (.int .i64) := by kernel_rfl
theorem belowV_tup (n : Nat) (l : List Value) : belowV n (.tuple l.toArray) = l.all (below1 n) := rfl
theorem below1_agg (n : Nat) (l : List Value) : below1 n (.agg l.toArray) = l.all (belowF n) := rfl
theorem below1_bool (n : Nat) (b : Bool) : below1 n (.bool b) = true := rfl
theorem find_tag {its : List (Cmd × Value)} {t : Int} {it : Cmd × Value} (h : its.find? (fun it => decide (t = it.1.tag)) = some it) : it ∈ its ∧ it.1.tag = t :=
  ⟨List.mem_of_find?_eq_some h, by have := List.find?_some h; simpa using (of_decide_eq_true this).symm⟩
theorem find_none {its : List (Cmd × Value)} {t : Int} (h : its.find? (fun it => decide (t = it.1.tag)) = none) : t ∉ tagsL its := by
  intro hm
  obtain ⟨it, h1, h2⟩ := List.mem_map.1 hm
  have := List.find?_eq_none.1 h it h1
  simp [h2] at this
theorem known_spec (hE : E 39 = some ac39) {M : FM} {n0 N : Nat} {tag : Tags} {q : Nat} {its : List (Cmd × Value)} {S : List Int} {tv : Value} {cb sb : Nat} (h : QI M n0 N tag q its S tv cb sb) (t : Int) :
    Pure (callW PG E Y 39 [.pointer (some ⟨q, 0, none⟩), .int .i64 t] M N) M N (.int .i64 (if t ∈ tagsL its then 0 else 9)) := by
  refine pure_spec hE rfl rfl ?_
  have h1 := h.q1
  have h2 := h.c1
  have h3 := h.q3
  have hlk := map_look (n := N) u3 h2 h.c3 (.agg #[.int .i64 0, .int .i64 0, .int .i64 0, .bool false, .string ⟨#[]⟩, .string ⟨#[]⟩, .int .i64 0, .int .i64 0, .slice none 0 0]) true t
  rw [lookC] at hlk
  simp only [ac39]
  cases hf : its.find? (fun it => decide (t = it.1.tag)) with
  | none =>
    rw [hf, Option.map_none, lookV_none] at hlk
    rw [if_neg (find_none hf)]
    simp (implicitDefEqProofs := false) (disch := omega) only [WPs, opds, List.all_cons, List.all_nil, List.cons_append, List.nil_append, cond_true, cond_false, eq_self, List.map_cons, List.map_nil, Nat.reduceAdd, Nat.testBit, Nat.reduceShiftRight, Nat.reduceAnd, Nat.reduceBNe, Nat.reduceMul, eqlnil_ptr pt25, isNone_some, h3, s_mp, hlk]
  | some it =>
    rw [hf, Option.map_some, lookV_some] at hlk
    obtain ⟨g1, g2⟩ := find_tag hf
    have hd := (h.dat it g1).2.1.one
    rw [if_pos (by rw [← g2]; exact List.mem_map.2 ⟨it, g1, rfl⟩)]
    simp (implicitDefEqProofs := false) (disch := omega) only [WPs, opds, List.all_cons, List.all_nil, List.cons_append, List.nil_append, cond_true, cond_false, eq_self, List.map_cons, List.map_nil, Nat.reduceAdd, Nat.testBit, Nat.reduceShiftRight, Nat.reduceAnd, Nat.reduceBNe, Nat.reduceMul, eqlnil_ptr pt25, isNone_some, h3, s_mp, hlk, cmdV, hd]
end Go.Am.C41
