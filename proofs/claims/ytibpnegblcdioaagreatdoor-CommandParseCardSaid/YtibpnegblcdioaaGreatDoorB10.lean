/- The machine and its runs, part 10: Az39a AzEql AzEqA Az39b Az39c Az39d Az39d0 Az39d1 Az39d2. -/
import Derived.Laws.StructEq
import Derived.Test.YtibpnegblcdioaaGreatDoorB9
set_option linter.unusedVariables false
set_option linter.unusedSimpArgs false
set_option linter.unusedSectionVars false
namespace Go.Am.C39
open Go Go.Am
variable {E : Nat → Option AFn} {Y : Nat → List Value → FM → Nat → OR FM}
theorem set_at {c : Nat} (h : c < 256) : cget setL c = some (.bool (inSet c)) := by
  rw [cget_eq, setL, List.getElem?_map, List.getElem?_range h]; rfl
theorem contains_spec (hE : E 87 = some ac87) (m : FM) (n q sz : Nat) (opn wr : Bool) (hq : q < n) (hm : m q = some (.cells setL sz opn wr)) (c : Nat) (hc : c < 256) :
    Pure (callW PG E Y 87 [.pointer (some ⟨q, 0, none⟩), .int .u8 (c : Int)] m n) m n (.bool (inSet c)) := by
  refine pure_spec hE rfl rfl ?_
  have h1 := set_at hc
  simp only [ac87]
  simp (implicitDefEqProofs := false) (disch := omega) only [WPs, opds, List.all_cons, List.all_nil, List.cons_append, List.nil_append, cond_true, cond_false, eq_self, List.map_cons, List.map_nil, Nat.reduceAdd, Nat.testBit, Nat.reduceShiftRight, Nat.reduceAnd, Nat.reduceBNe, Nat.reduceMul, hm, h1]
def AllIn (s : ByteArray) (a b : Nat) : Prop := ∀ i, a ≤ i → i < b → inSet (bt s i) = true
theorem trimL_L0 (h49 : E 87 = some ac87) (m : FM) (n q sz : Nat) (opn wr : Bool) (hq : q < n) (hm : m q = some (.cells setL sz opn wr)) (s : ByteArray) (x1 x2 : Value) {Q : AX → List Value → FM → Nat → Nat → Prop}
    (hQ : ∀ k, k ≤ s.size → AllIn s 0 k → (k < s.size → inSet (bt s k) = false) → Q (.exit 0) [.string (s.extract k s.size), x1, x2, .pointer (some ⟨q, 0, none⟩)] m n 0) : ∀ d j, j + d = s.size → AllIn s 0 j →
    Gv (execW PG E Y ac70L0 [.string (s.extract j s.size), x1, x2, .pointer (some ⟨q, 0, none⟩)] m n) Q := by
  intro d
  induction d with
  | zero =>
    intro j hj ha
    have hz : (s.extract j s.size).size = 0 := by rw [ext_size]; omega
    refine wr_loopN (L := ac70L0) (b := ac70L0b) rfl ?_
    simp only [ac70L0b]
    simp (implicitDefEqProofs := false) (disch := omega) only [WPs, opds, List.all_cons, List.all_nil, List.cons_append, List.nil_append, cond_true, cond_false, eq_self, List.map_cons, List.map_nil, Nat.reduceAdd, Nat.testBit, Nat.reduceShiftRight, Nat.reduceAnd, Nat.reduceBNe, Nat.reduceMul, STs, hz]
    exact hQ j (by omega) ha (fun h => by omega)
  | succ d ih =>
    intro j hj ha
    have hz : (s.extract j s.size).size = s.size - j := by rw [ext_size]; omega
    have hb : bt (s.extract j s.size) 0 = bt s j := ext_bt s (by omega)
    refine wr_loopN (L := ac70L0) (b := ac70L0b) rfl ?_
    simp only [ac70L0b]
    simp (implicitDefEqProofs := false) (disch := omega) only [WPs, opds, List.all_cons, List.all_nil, List.cons_append, List.nil_append, cond_true, cond_false, eq_self, List.map_cons, List.map_nil, Nat.reduceAdd, Nat.testBit, Nat.reduceShiftRight, Nat.reduceAnd, Nat.reduceBNe, Nat.reduceMul, STs, hz, hb]
    refine use_pure (contains_spec h49 _ _ q sz opn wr hq hm _ (bt_lt s j)) fun r1 => ?_
    cases hin : inSet (bt s j)
    · simp (implicitDefEqProofs := false) (disch := omega) only [WPs, opds, List.all_cons, List.all_nil, List.cons_append, List.nil_append, cond_true, cond_false, eq_self, List.map_cons, List.map_nil, Nat.reduceAdd, Nat.testBit, Nat.reduceShiftRight, Nat.reduceAnd, Nat.reduceBNe, Nat.reduceMul, STs, hz]
      exact hQ j (by omega) ha (fun _ => hin)
    · have hx : (s.extract j s.size).extract 1 (s.size - j) = s.extract (j + 1) s.size := by rw [ext_ext]; congr 1; omega
      simp (implicitDefEqProofs := false) (disch := omega) only [WPs, opds, List.all_cons, List.all_nil, List.cons_append, List.nil_append, cond_true, cond_false, eq_self, List.map_cons, List.map_nil, Nat.reduceAdd, Nat.testBit, Nat.reduceShiftRight, Nat.reduceAnd, Nat.reduceBNe, Nat.reduceMul, STs, hz, hx]
      exact wr_end' ((ih (j + 1) (by omega) (fun i _ hi => by
        rcases Nat.lt_or_ge i j with h | h
        · exact ha i (Nat.zero_le _) h
        · have : i = j := by omega
          subst this; exact hin)).mono fun X e m n w hq => by simpa only [zero_lor'] using hq)
theorem left_ex (s : ByteArray) : ∀ d j, j + d = s.size → AllIn s 0 j → ∃ k, k ≤ s.size ∧ AllIn s 0 k ∧ (k < s.size → inSet (bt s k) = false)
  | 0, j, hj, ha => ⟨j, by omega, ha, fun h => by omega⟩
  | d + 1, j, hj, ha => by
    cases h : inSet (bt s j)
    · exact ⟨j, by omega, ha, fun _ => h⟩
    · exact left_ex s d (j + 1) (by omega) fun i _ hi => by
        rcases Nat.lt_or_ge i j with h1 | h1
        · exact ha i (Nat.zero_le _) h1
        · have : i = j := by omega
          subst this; exact h
theorem right_ex (s : ByteArray) : ∀ k, k ≤ s.size → AllIn s k s.size → ∃ k, k ≤ s.size ∧ AllIn s k s.size ∧ (0 < k → inSet (bt s (k - 1)) = false)
  | 0, hk, ha => ⟨0, hk, ha, fun h => by omega⟩
  | k + 1, hk, ha => by
    cases h : inSet (bt s k)
    · exact ⟨k + 1, hk, ha, fun _ => h⟩
    · exact right_ex s k (by omega) fun i hi h2 => by
        rcases Nat.lt_or_ge k i with h1 | h1
        · exact ha i h1 h2
        · have : i = k := by omega
          subst this; exact h
theorem left_uniq {s : ByteArray} {a b : Nat} (ha : a ≤ s.size) (hb : b ≤ s.size) (h1 : AllIn s 0 a) (h2 : AllIn s 0 b) (k1 : a < s.size → inSet (bt s a) = false) (k2 : b < s.size → inSet (bt s b) = false) : a = b := by
  rcases Nat.lt_trichotomy a b with h | h | h
  · have := h2 a (Nat.zero_le _) h
    rw [k1 (by omega)] at this; cases this
  · exact h
  · have := h1 b (Nat.zero_le _) h
    rw [k2 (by omega)] at this; cases this
theorem right_uniq {s : ByteArray} {a b : Nat} (ha : a ≤ s.size) (hb : b ≤ s.size) (h1 : AllIn s a s.size) (h2 : AllIn s b s.size) (k1 : 0 < a → inSet (bt s (a - 1)) = false) (k2 : 0 < b → inSet (bt s (b - 1)) = false) : a = b := by
  rcases Nat.lt_trichotomy a b with h | h | h
  · have := h1 (b - 1) (by omega) (by omega)
    rw [k2 (by omega)] at this; cases this
  · exact h
  · have := h2 (a - 1) (by omega) (by omega)
    rw [k1 (by omega)] at this; cases this
theorem trimL_spec (h45 : E 70 = some ac70) (h49 : E 87 = some ac87) (m : FM) (n q sz : Nat) (opn wr : Bool) (hq : q < n) (hm : m q = some (.cells setL sz opn wr)) (s : ByteArray) :
    ∃ k, k ≤ s.size ∧ AllIn s 0 k ∧ (k < s.size → inSet (bt s k) = false) ∧ Pure (callW PG E Y 70 [.string s, .pointer (some ⟨q, 0, none⟩)] m n) m n (.string (s.extract k s.size)) := by
  obtain ⟨k, hk, ha, hs⟩ := left_ex s s.size 0 (by omega) (fun i _ h => by omega)
  refine ⟨k, hk, ha, hs, pure_spec h45 rfl rfl ?_⟩
  have hx := ext_all s
  have hL := fun Q hQ => trimL_L0 (E := E) (Y := Y) h49 m n q sz opn wr hq hm s (.string ⟨#[]⟩) (.string s) (Q := Q) hQ s.size 0 (by omega) (fun i _ h => by omega)
  rw [hx] at hL
  simp only [ac70]
  simp (implicitDefEqProofs := false) (disch := omega) only [WPs, opds, List.all_cons, List.all_nil, List.cons_append, List.nil_append, cond_true, cond_false, eq_self, List.map_cons, List.map_nil, Nat.reduceAdd, Nat.testBit, Nat.reduceShiftRight, Nat.reduceAnd, Nat.reduceBNe, Nat.reduceMul]
  refine wr_cps (hL _ fun k' k1 k2 k3 r1 => ?_)
  obtain rfl := left_uniq hk k1 ha k2 hs k3
  simp (implicitDefEqProofs := false) (disch := omega) only [WPs, opds, List.all_cons, List.all_nil, List.cons_append, List.nil_append, cond_true, cond_false, eq_self, List.map_cons, List.map_nil, Nat.reduceAdd, Nat.testBit, Nat.reduceShiftRight, Nat.reduceAnd, Nat.reduceBNe, Nat.reduceMul]
theorem trimR_L0 (h49 : E 87 = some ac87) (m : FM) (n q sz : Nat) (opn wr : Bool) (hq : q < n) (hm : m q = some (.cells setL sz opn wr)) (s : ByteArray) (hl : s.size ≤ 9223372036854775807) (x1 x2 : Value) {Q : AX → List Value → FM → Nat → Nat → Prop}
    (hQ : ∀ k, k ≤ s.size → AllIn s k s.size → (0 < k → inSet (bt s (k - 1)) = false) → Q (.exit 0) [.string (s.extract 0 k), x1, x2, .pointer (some ⟨q, 0, none⟩)] m n 0) : ∀ j, j ≤ s.size → AllIn s j s.size →
    Gv (execW PG E Y ac71L0 [.string (s.extract 0 j), x1, x2, .pointer (some ⟨q, 0, none⟩)] m n) Q := by
  intro j
  induction j with
  | zero =>
    intro hj ha
    have hz : (s.extract 0 0).size = 0 := by rw [ext_size]; omega
    refine wr_loopN (L := ac71L0) (b := ac71L0b) rfl ?_
    simp only [ac71L0b]
    simp (implicitDefEqProofs := false) (disch := omega) only [WPs, opds, List.all_cons, List.all_nil, List.cons_append, List.nil_append, cond_true, cond_false, eq_self, List.map_cons, List.map_nil, Nat.reduceAdd, Nat.testBit, Nat.reduceShiftRight, Nat.reduceAnd, Nat.reduceBNe, Nat.reduceMul, STs, hz]
    exact hQ 0 (by omega) ha (fun h => by omega)
  | succ j ih =>
    intro hj ha
    have hz : (s.extract 0 (j + 1)).size = j + 1 := by rw [ext_size]; omega
    have hb : bt (s.extract 0 (j + 1)) j = bt s j := by rw [ext_bt s (by omega), Nat.zero_add]
    have hc : ((j + 1 : Nat) : Int) - 1 = (j : Int) := by omega
    refine wr_loopN (L := ac71L0) (b := ac71L0b) rfl ?_
    simp only [ac71L0b]
    simp (implicitDefEqProofs := false) (disch := omega) only [WPs, opds, List.all_cons, List.all_nil, List.cons_append, List.nil_append, cond_true, cond_false, eq_self, List.map_cons, List.map_nil, Nat.reduceAdd, Nat.testBit, Nat.reduceShiftRight, Nat.reduceAnd, Nat.reduceBNe, Nat.reduceMul, STs, hz, hc, hb]
    refine use_pure (contains_spec h49 _ _ q sz opn wr hq hm _ (bt_lt s j)) fun r1 => ?_
    cases hin : inSet (bt s j)
    · simp (implicitDefEqProofs := false) (disch := omega) only [WPs, opds, List.all_cons, List.all_nil, List.cons_append, List.nil_append, cond_true, cond_false, eq_self, List.map_cons, List.map_nil, Nat.reduceAdd, Nat.testBit, Nat.reduceShiftRight, Nat.reduceAnd, Nat.reduceBNe, Nat.reduceMul, STs, hz]
      exact hQ (j + 1) (by omega) ha (fun _ => hin)
    · have hx : (s.extract 0 (j + 1)).extract 0 j = s.extract 0 j := by rw [ext_ext]; congr 1; omega
      simp (implicitDefEqProofs := false) (disch := omega) only [WPs, opds, List.all_cons, List.all_nil, List.cons_append, List.nil_append, cond_true, cond_false, eq_self, List.map_cons, List.map_nil, Nat.reduceAdd, Nat.testBit, Nat.reduceShiftRight, Nat.reduceAnd, Nat.reduceBNe, Nat.reduceMul, STs, hz, hc, hx]
      exact wr_end' ((ih (by omega) (fun i hi h2 => by
        rcases Nat.lt_or_ge j i with h | h
        · exact ha i h h2
        · have : i = j := by omega
          subst this; exact hin)).mono fun X e m n w hq => by simpa only [zero_lor'] using hq)
theorem trimR_spec (h46 : E 71 = some ac71) (h49 : E 87 = some ac87) (m : FM) (n q sz : Nat) (opn wr : Bool) (hq : q < n) (hm : m q = some (.cells setL sz opn wr)) (s : ByteArray) (hl : s.size ≤ 9223372036854775807) :
    ∃ k, k ≤ s.size ∧ AllIn s k s.size ∧ (0 < k → inSet (bt s (k - 1)) = false) ∧ Pure (callW PG E Y 71 [.string s, .pointer (some ⟨q, 0, none⟩)] m n) m n (.string (s.extract 0 k)) := by
  obtain ⟨k, hk, ha, hs⟩ := right_ex s s.size (Nat.le_refl _) (fun i h h2 => by omega)
  refine ⟨k, hk, ha, hs, pure_spec h46 rfl rfl ?_⟩
  have hx := ext_all s
  have hL := fun Q hQ => trimR_L0 (E := E) (Y := Y) h49 m n q sz opn wr hq hm s hl (.string ⟨#[]⟩) (.string s) (Q := Q) hQ s.size (Nat.le_refl _) (fun i h h2 => by omega)
  rw [hx] at hL
  simp only [ac71]
  simp (implicitDefEqProofs := false) (disch := omega) only [WPs, opds, List.all_cons, List.all_nil, List.cons_append, List.nil_append, cond_true, cond_false, eq_self, List.map_cons, List.map_nil, Nat.reduceAdd, Nat.testBit, Nat.reduceShiftRight, Nat.reduceAnd, Nat.reduceBNe, Nat.reduceMul]
  refine wr_cps (hL _ fun k' k1 k2 k3 r1 => ?_)
  obtain rfl := right_uniq hk k1 ha k2 hs k3
  simp (implicitDefEqProofs := false) (disch := omega) only [WPs, opds, List.all_cons, List.all_nil, List.cons_append, List.nil_append, cond_true, cond_false, eq_self, List.map_cons, List.map_nil, Nat.reduceAdd, Nat.testBit, Nat.reduceShiftRight, Nat.reduceAnd, Nat.reduceBNe, Nat.reduceMul]
theorem set_put : setCells (List.replicate 256 (.bool false)) 0 setL = some setL := by kernel_rfl
theorem set_len : llen setL = 256 := by kernel_rfl
theorem set_one : setL.all one = true := by kernel_rfl
theorem e_tup0 (a b : Value) : extrV 0 (.tuple #[a, b]) = some a := rfl
theorem e_tup1 (a b : Value) : extrV 1 (.tuple #[a, b]) = some b := rfl
theorem trim_spec (h41 : E 48 = some ac48) (h45 : E 70 = some ac70) (h46 : E 71 = some ac71) (h49 : E 87 = some ac87) (h44 : ∀ m n, Pure (callW PG E Y 69 [.string cutS] m n) m n (.tuple #[.agg setL.toArray, .bool true])) (m : FM) (n : Nat) (s : ByteArray) (hl : s.size ≤ 9223372036854775807) :
    ∃ r : ByteArray, (r = ⟨#[]⟩ ↔ AllIn s 0 s.size) ∧ Pure (callW PG E Y 48 [.string s, .string cutS] m n) m n (.string r) := by
  have hcut : cutS ≠ ⟨#[]⟩ := by rw [Ne, size_zero]; decide
  have hcs : cutS.size = 36 := rfl
  by_cases h0 : s = ⟨#[]⟩
  · refine ⟨⟨#[]⟩, ⟨fun _ i _ hi => ?_, fun _ => rfl⟩, pure_spec h41 rfl rfl ?_⟩
    · rw [size_zero.1 h0] at hi; omega
    · simp only [ac48]
      simp (implicitDefEqProofs := false) (disch := omega) only [WPs, opds, List.all_cons, List.all_nil, List.cons_append, List.nil_append, cond_true, cond_false, eq_self, List.map_cons, List.map_nil, Nat.reduceAdd, Nat.testBit, Nat.reduceShiftRight, Nat.reduceAnd, Nat.reduceBNe, Nat.reduceMul, STs, h0]
  · obtain ⟨r, hr, hra, hrs, hR⟩ : ∃ k, k ≤ s.size ∧ AllIn s k s.size ∧ (0 < k → inSet (bt s (k - 1)) = false) ∧ True := by
      obtain ⟨k, h1, h2, h3⟩ := right_ex s s.size (Nat.le_refl _) (fun i h h2 => by omega)
      exact ⟨k, h1, h2, h3, trivial⟩
    obtain ⟨k, hk, hka, hks, hK⟩ : ∃ k, k ≤ (s.extract 0 r).size ∧ AllIn (s.extract 0 r) 0 k ∧ (k < (s.extract 0 r).size → inSet (bt (s.extract 0 r) k) = false) ∧ True := by
      obtain ⟨k, h1, h2, h3⟩ := left_ex (s.extract 0 r) (s.extract 0 r).size 0 (by omega) (fun i _ h => by omega)
      exact ⟨k, h1, h2, h3, trivial⟩
    have hz : (s.extract 0 r).size = r := by rw [ext_size]; omega
    refine ⟨(s.extract 0 r).extract k (s.extract 0 r).size, ?_, pure_spec h41 rfl rfl ?_⟩
    · rw [size_zero, ext_size, Nat.min_self, hz]
      rw [hz] at hk hks
      constructor
      · intro h
        rcases Nat.eq_zero_or_pos r with h1 | h1
        · subst h1; exact hra
        · have hin := hka (r - 1) (Nat.zero_le _) (by omega)
          rw [ext_bt s (by omega), Nat.zero_add, hrs h1] at hin; cases hin
      · intro h
        rcases Nat.eq_zero_or_pos r with h1 | h1
        · omega
        · have hin := h (r - 1) (Nat.zero_le _) (by omega)
          rw [hrs h1] at hin; cases hin
    · simp only [ac48]
      simp (implicitDefEqProofs := false) (disch := omega) only [WPs, opds, List.all_cons, List.all_nil, List.cons_append, List.nil_append, cond_true, cond_false, eq_self, List.map_cons, List.map_nil, Nat.reduceAdd, Nat.testBit, Nat.reduceShiftRight, Nat.reduceAnd, Nat.reduceBNe, Nat.reduceMul, STs, h0]
      refine use_pure (h44 _ _) fun r1 => ?_
      simp (implicitDefEqProofs := false) (disch := omega) only [WPs, opds, List.all_cons, List.all_nil, List.cons_append, List.nil_append, cond_true, cond_false, eq_self, List.map_cons, List.map_nil, Nat.reduceAdd, Nat.testBit, Nat.reduceShiftRight, Nat.reduceAnd, Nat.reduceBNe, Nat.reduceMul, STs, set_put, set_len, set_one, e_tup0, e_tup1]
      obtain ⟨r', q1, q2, q3, qP⟩ := trimR_spec (E := E) (Y := Y) h46 h49 (AMem.put m n (some (.cells setL 0 false true)) : FM) (n + 1) n 0 false true (by omega) (fput_same _ _ _) s hl
      obtain rfl := right_uniq hr q1 hra q2 hrs q3
      refine use_pure qP fun r2 => ?_
      simp (implicitDefEqProofs := false) (disch := omega) only [WPs, opds, List.all_cons, List.all_nil, List.cons_append, List.nil_append, cond_true, cond_false, eq_self, List.map_cons, List.map_nil, Nat.reduceAdd, Nat.testBit, Nat.reduceShiftRight, Nat.reduceAnd, Nat.reduceBNe, Nat.reduceMul]
      obtain ⟨k', p1, p2, p3, pP⟩ := trimL_spec (E := E) (Y := Y) h45 h49 (AMem.put m n (some (.cells setL 0 false true)) : FM) (n + 1) n 0 false true (by omega) (fput_same _ _ _) (s.extract 0 r)
      obtain rfl := left_uniq hk p1 hka p2 hks p3
      refine use_pure pP fun r3 => ?_
      simp (implicitDefEqProofs := false) (disch := omega) only [WPs, opds, List.all_cons, List.all_nil, List.cons_append, List.nil_append, cond_true, cond_false, eq_self, List.map_cons, List.map_nil, Nat.reduceAdd, Nat.testBit, Nat.reduceShiftRight, Nat.reduceAnd, Nat.reduceBNe, Nat.reduceMul]
def NameP (s : ByteArray) : Prop := 1 ≤ s.size ∧ s.size ≤ 16 ∧ (97 ≤ bt s 0 ∧ bt s 0 ≤ 122) ∧ AllIn s 0 s.size
open Classical in
noncomputable def nameB (s : ByteArray) : Bool := decide (NameP s)
open Classical in
theorem nameB_t {s : ByteArray} (h : NameP s) : nameB s = true := by unfold nameB; exact decide_eq_true h
open Classical in
theorem nameB_f {s : ByteArray} (h : ¬ NameP s) : nameB s = false := by unfold nameB; exact decide_eq_false h
structure Trims (E : Nat → Option AFn) (Y : Nat → List Value → FM → Nat → OR FM) : Prop where
  e41 : E 48 = some ac48
  e45 : E 70 = some ac70
  e46 : E 71 = some ac71
  e49 : E 87 = some ac87
  h44 : ∀ m n, Pure (callW PG E Y 69 [.string cutS] m n) m n (.tuple #[.agg setL.toArray, .bool true])
open Classical in
theorem name_spec (hE : E 33 = some ac33) (hT : Trims E Y) (m : FM) (n : Nat) (s : ByteArray) (hl : s.size ≤ 9223372036854775807) :
    Pure (callW PG E Y 33 [.string s] m n) m n (.bool (nameB s)) := by
  refine pure_spec hE rfl rfl ?_
  simp only [ac33]
  by_cases c1 : s.size = 0
  · rw [nameB_f fun h => by have := h.1; omega]
    simp (implicitDefEqProofs := false) (disch := omega) only [WPs, opds, List.all_cons, List.all_nil, List.cons_append, List.nil_append, cond_true, cond_false, eq_self, List.map_cons, List.map_nil, Nat.reduceAdd, Nat.testBit, Nat.reduceShiftRight, Nat.reduceAnd, Nat.reduceBNe, Nat.reduceMul, STs, c1]
  by_cases c2 : 16 < s.size
  · rw [nameB_f fun h => by have := h.2.1; omega]
    simp (implicitDefEqProofs := false) (disch := omega) only [WPs, opds, List.all_cons, List.all_nil, List.cons_append, List.nil_append, cond_true, cond_false, eq_self, List.map_cons, List.map_nil, Nat.reduceAdd, Nat.testBit, Nat.reduceShiftRight, Nat.reduceAnd, Nat.reduceBNe, Nat.reduceMul, STs]
  by_cases c3 : bt s 0 < 97
  · rw [nameB_f fun h => by have := h.2.2.1.1; omega]
    simp (implicitDefEqProofs := false) (disch := omega) only [WPs, opds, List.all_cons, List.all_nil, List.cons_append, List.nil_append, cond_true, cond_false, eq_self, List.map_cons, List.map_nil, Nat.reduceAdd, Nat.testBit, Nat.reduceShiftRight, Nat.reduceAnd, Nat.reduceBNe, Nat.reduceMul, STs]
  by_cases c4 : 122 < bt s 0
  · rw [nameB_f fun h => by have := h.2.2.1.2; omega]
    simp (implicitDefEqProofs := false) (disch := omega) only [WPs, opds, List.all_cons, List.all_nil, List.cons_append, List.nil_append, cond_true, cond_false, eq_self, List.map_cons, List.map_nil, Nat.reduceAdd, Nat.testBit, Nat.reduceShiftRight, Nat.reduceAnd, Nat.reduceBNe, Nat.reduceMul, STs]
  obtain ⟨r, hr, hP⟩ := trim_spec (E := E) (Y := Y) hT.e41 hT.e45 hT.e46 hT.e49 hT.h44 m n s hl
  simp (implicitDefEqProofs := false) (disch := omega) only [WPs, opds, List.all_cons, List.all_nil, List.cons_append, List.nil_append, cond_true, cond_false, eq_self, List.map_cons, List.map_nil, Nat.reduceAdd, Nat.testBit, Nat.reduceShiftRight, Nat.reduceAnd, Nat.reduceBNe, Nat.reduceMul, STs]
  refine use_pure hP fun r1 => ?_
  have : nameB s = decide (r = ⟨#[]⟩) := by
    unfold nameB
    exact decide_eq_decide.2 ⟨fun h => hr.2 h.2.2.2, fun h => ⟨by omega, by omega, ⟨by omega, by omega⟩, hr.1 h⟩⟩
  rw [this]
  simp (implicitDefEqProofs := false) (disch := omega) only [WPs, opds, List.all_cons, List.all_nil, List.cons_append, List.nil_append, cond_true, cond_false, eq_self, List.map_cons, List.map_nil, Nat.reduceAdd, Nat.testBit, Nat.reduceShiftRight, Nat.reduceAnd, Nat.reduceBNe, Nat.reduceMul, STs]
theorem inSet_f {c : Nat} (h1 : ¬ (97 ≤ c ∧ c ≤ 122)) (h2 : ¬ (48 ≤ c ∧ c ≤ 57)) : inSet c = false := by
  cases h : inSet c
  · rfl
  · unfold inSet at h
    simp only [Bool.or_eq_true, Bool.and_eq_true, Nat.ble_eq] at h
    omega
theorem inSet_t {c : Nat} (h : (97 ≤ c ∧ c ≤ 122) ∨ (48 ≤ c ∧ c ≤ 57)) : inSet c = true := by
  unfold inSet
  simp only [Bool.or_eq_true, Bool.and_eq_true, Nat.ble_eq]
  exact h
theorem Name_L0 (m : FM) (n : Nat) (s : ByteArray) (hl : s.size ≤ 16) (hn : 1 ≤ s.size) {Q : AX → List Value → FM → Nat → Nat → Prop}
    (hQt : NameP s → ∀ e', Q (.exit 0) e' m n 0) (hQf : ¬ NameP s → ∀ e', Q (.ret (.bool false)) e' m n 0) : ∀ d j, j + d = s.size → AllIn s 0 j → (0 < j → 97 ≤ bt s 0 ∧ bt s 0 ≤ 122) → ∀ x0 x2 x3 x4 : Value,
    Gv (execW PG E Y ac29L0 [x0, .int .i64 (j : Int), x2, x3, x4, .string s] m n) Q := by
  intro d
  induction d with
  | zero =>
    intro j hj ha h0 x0 x2 x3 x4
    have hP : NameP s := ⟨hn, hl, h0 (by omega), fun i h1 h2 => ha i h1 (by omega)⟩
    refine wr_loopN (L := ac29L0) (b := ac29L0b) rfl ?_
    simp only [ac29L0b]
    simp (implicitDefEqProofs := false) (disch := omega) only [WPs, opds, List.all_cons, List.all_nil, List.cons_append, List.nil_append, cond_true, cond_false, eq_self, List.map_cons, List.map_nil, Nat.reduceAdd, Nat.testBit, Nat.reduceShiftRight, Nat.reduceAnd, Nat.reduceBNe, Nat.reduceMul, STs]
    exact hQt hP _
  | succ d ih =>
    intro j hj ha h0 x0 x2 x3 x4
    have hbl := bt_lt s j
    refine wr_loopN (L := ac29L0) (b := ac29L0b) rfl ?_
    simp only [ac29L0b]
    have bad : ¬ (97 ≤ bt s j ∧ bt s j ≤ 122) → (j = 0 ∨ ¬ (48 ≤ bt s j ∧ bt s j ≤ 57)) → ¬ NameP s := fun h1 h2 hP => by
      have := hP.2.2.2 j (Nat.zero_le _) (by omega)
      rcases h2 with rfl | h2
      · exact h1 hP.2.2.1
      · rw [inSet_f h1 h2] at this; cases this
    have next : (97 ≤ bt s j ∧ bt s j ≤ 122) ∨ (0 < j ∧ 48 ≤ bt s j ∧ bt s j ≤ 57) → ∀ x0 x2 x3 x4 : Value, Gv (execW PG E Y ac29L0 [x0, .int .i64 ((j + 1 : Nat) : Int), x2, x3, x4, .string s] m n) Q := fun h =>
      ih (j + 1) (by omega) (fun i _ hi => by
        rcases Nat.lt_or_ge i j with h1 | h1
        · exact ha i (Nat.zero_le _) h1
        · have : i = j := by omega
          subst this; exact inSet_t (by omega)) (fun _ => by
        rcases Nat.eq_zero_or_pos j with h1 | h1
        · subst h1; omega
        · exact h0 h1)
    by_cases a1 : bt s j < 97
    · by_cases a2 : j = 0
      · have hb := bad (by omega) (.inl a2)
        simp (implicitDefEqProofs := false) (disch := omega) only [WPs, opds, List.all_cons, List.all_nil, List.cons_append, List.nil_append, cond_true, cond_false, eq_self, List.map_cons, List.map_nil, Nat.reduceAdd, Nat.testBit, Nat.reduceShiftRight, Nat.reduceAnd, Nat.reduceBNe, Nat.reduceMul, STs]
        exact hQf hb _
      by_cases a3 : bt s j < 48
      · have hb := bad (by omega) (.inr (by omega))
        simp (implicitDefEqProofs := false) (disch := omega) only [WPs, opds, List.all_cons, List.all_nil, List.cons_append, List.nil_append, cond_true, cond_false, eq_self, List.map_cons, List.map_nil, Nat.reduceAdd, Nat.testBit, Nat.reduceShiftRight, Nat.reduceAnd, Nat.reduceBNe, Nat.reduceMul, STs]
        exact hQf hb _
      by_cases a4 : 57 < bt s j
      · have hb := bad (by omega) (.inr (by omega))
        simp (implicitDefEqProofs := false) (disch := omega) only [WPs, opds, List.all_cons, List.all_nil, List.cons_append, List.nil_append, cond_true, cond_false, eq_self, List.map_cons, List.map_nil, Nat.reduceAdd, Nat.testBit, Nat.reduceShiftRight, Nat.reduceAnd, Nat.reduceBNe, Nat.reduceMul, STs]
        exact hQf hb _
      · simp (implicitDefEqProofs := false) (disch := omega) only [WPs, opds, List.all_cons, List.all_nil, List.cons_append, List.nil_append, cond_true, cond_false, eq_self, List.map_cons, List.map_nil, Nat.reduceAdd, Nat.testBit, Nat.reduceShiftRight, Nat.reduceAnd, Nat.reduceBNe, Nat.reduceMul, STs]
        exact wr_end' ((next (by omega) _ _ _ _).mono fun X e m n w hq => by simpa only [zero_lor'] using hq)
    · by_cases a2 : 122 < bt s j
      · by_cases a5 : j = 0
        · have hb := bad (by omega) (.inl a5)
          simp (implicitDefEqProofs := false) (disch := omega) only [WPs, opds, List.all_cons, List.all_nil, List.cons_append, List.nil_append, cond_true, cond_false, eq_self, List.map_cons, List.map_nil, Nat.reduceAdd, Nat.testBit, Nat.reduceShiftRight, Nat.reduceAnd, Nat.reduceBNe, Nat.reduceMul, STs]
          exact hQf hb _
        · have hb := bad (by omega) (.inr (by omega))
          simp (implicitDefEqProofs := false) (disch := omega) only [WPs, opds, List.all_cons, List.all_nil, List.cons_append, List.nil_append, cond_true, cond_false, eq_self, List.map_cons, List.map_nil, Nat.reduceAdd, Nat.testBit, Nat.reduceShiftRight, Nat.reduceAnd, Nat.reduceBNe, Nat.reduceMul, STs]
          exact hQf hb _
      · simp (implicitDefEqProofs := false) (disch := omega) only [WPs, opds, List.all_cons, List.all_nil, List.cons_append, List.nil_append, cond_true, cond_false, eq_self, List.map_cons, List.map_nil, Nat.reduceAdd, Nat.testBit, Nat.reduceShiftRight, Nat.reduceAnd, Nat.reduceBNe, Nat.reduceMul, STs]
        exact wr_end' ((next (by omega) _ _ _ _).mono fun X e m n w hq => by simpa only [zero_lor'] using hq)
open Classical in
theorem Name_spec (hE : E 29 = some ac29) (m : FM) (n : Nat) (s : ByteArray) : Pure (callW PG E Y 29 [.string s] m n) m n (.bool (nameB s)) := by
  refine pure_spec hE rfl rfl ?_
  simp only [ac29]
  by_cases c1 : s.size = 0
  · rw [nameB_f fun h => by have := h.1; omega]
    simp (implicitDefEqProofs := false) (disch := omega) only [WPs, opds, List.all_cons, List.all_nil, List.cons_append, List.nil_append, cond_true, cond_false, eq_self, List.map_cons, List.map_nil, Nat.reduceAdd, Nat.testBit, Nat.reduceShiftRight, Nat.reduceAnd, Nat.reduceBNe, Nat.reduceMul, STs, c1]
  by_cases c2 : 16 < s.size
  · rw [nameB_f fun h => by have := h.2.1; omega]
    simp (implicitDefEqProofs := false) (disch := omega) only [WPs, opds, List.all_cons, List.all_nil, List.cons_append, List.nil_append, cond_true, cond_false, eq_self, List.map_cons, List.map_nil, Nat.reduceAdd, Nat.testBit, Nat.reduceShiftRight, Nat.reduceAnd, Nat.reduceBNe, Nat.reduceMul, STs]
  simp (implicitDefEqProofs := false) (disch := omega) only [WPs, opds, List.all_cons, List.all_nil, List.cons_append, List.nil_append, cond_true, cond_false, eq_self, List.map_cons, List.map_nil, Nat.reduceAdd, Nat.testBit, Nat.reduceShiftRight, Nat.reduceAnd, Nat.reduceBNe, Nat.reduceMul, STs]
  refine wr_cps (Name_L0 m n s (by omega) (by omega) (fun h e' r1 => ?_) (fun h e' r1 => ?_) s.size 0 (by omega) (fun i _ h => by omega) (fun h => by omega) _ _ _ _)
  · rw [nameB_t h]
    simp (implicitDefEqProofs := false) (disch := omega) only [WPs, opds, List.all_cons, List.all_nil, List.cons_append, List.nil_append, cond_true, cond_false, eq_self, List.map_cons, List.map_nil, Nat.reduceAdd, Nat.testBit, Nat.reduceShiftRight, Nat.reduceAnd, Nat.reduceBNe, Nat.reduceMul]
  · rw [nameB_f h]
    simp (implicitDefEqProofs := false) (disch := omega) only [WPs, opds, List.all_cons, List.all_nil, List.cons_append, List.nil_append, cond_true, cond_false, eq_self, List.map_cons, List.map_nil, Nat.reduceAdd, Nat.testBit, Nat.reduceShiftRight, Nat.reduceAnd, Nat.reduceBNe, Nat.reduceMul]
end Go.Am.C39
namespace Go.Am
open Go
section
variable {P : Program}
theorem pr_bind {α β : Type} (s : Sem α) (f : α → Sem β) : pureRun P (s >>= f) = (pureRun P s).bind fun a => pureRun P (f a) := by
  show pureRun P (s.bind f) = _
  induction s with
  | pure a => rfl
  | program k ih => exact ih P
  | _ => rfl
theorem pr_program : pureRun P program = some P := rfl
theorem pr_underlying {t : TypeId} {d : TypeDesc} (h : P.underlying t = some d) : pureRun P (underlying t) = some d := by
  unfold underlying
  rw [pr_bind, pr_program]
  show pureRun P (match P.underlying t with | some d => pure d | none => stuck "no such type") = some d
  rw [h]; rfl
theorem pr_part {t : TypeId} {k : IntKind} {cs : Array Value} {off : Nat} {v : Value} (h : P.underlying t = some (.int k)) (hv : cs[off]? = some v) : pureRun P (part t cs off) = some v := by
  have h1 : pureRun P (isAgg t) = some false := by
    unfold isAgg
    rw [pr_bind, pr_underlying h]; rfl
  unfold part
  rw [pr_bind, h1]
  show pureRun P (match cs[off]? with | some v => pure v | none => stuck "part: no such cell") = some v
  rw [hv]; rfl
theorem pr_equal_int {d : Nat} {t : TypeId} {k : IntKind} {a b : Int} (h : P.underlying t = some (.int k)) : pureRun P (Op.equalIn (d + 1) t (.int k a) (.int k b)) = some (a == b) := by
  unfold Op.equalIn
  rw [pr_bind, pr_underlying h]
  show pureRun P (if k = k then pure (a == b) else stuck "==: kinds differ") = _
  rw [if_pos rfl]; rfl
def okFields (P : Program) : List Field → Nat → Bool
  | [], _ => true
  | f :: fs, i => (f.name != "_") && f.offset == i && (match P.underlying f.type with | some (.int .i64) => true | _ => false) && okFields P fs (i + 1)
def intsT (P : Program) (t n : Nat) : Bool :=
  (match P.underlying t with | some (.struct _) => true | _ => false) && okFields P (P.fieldsOf t).toList 0 && (P.fieldsOf t).toList.length == n && !P.stoodInHeld t && !P.eqGuardType P.depth t
end
end Go.Am
namespace Go.Am
open Go
section
variable {P : Program}
def eqItemsA (d : Nat) (e : TypeId) (xs ys : Array Value) : List Nat → Sem Bool
  | [] => pure true
  | i :: is => do
    let a ← part e xs (i * 1)
    let b ← part e ys (i * 1)
    let r ← Op.equalIn d e a b
    if (!r) = true then pure false else eqItemsA d e xs ys is
theorem pr_sizeOf {e n : Nat} (h : isSz P e n = true) : pureRun P (sizeOf e) = some n := by
  obtain ⟨i, hi, hs⟩ := isSz_run h
  unfold sizeOf typeInfo
  rw [pr_bind, pr_bind, pr_program, Option.bind_some, hi]
  show some i.size = some n
  rw [hs]
theorem pr_equal_array (d : Nat) {t e : TypeId} {n : Nat} (xs ys : Array Value) (hu : P.underlying t = some (.array n e)) (hi : isSz P e 1 = true) :
    pureRun P (Op.equalIn (d + 1) t (.agg xs) (.agg ys)) = pureRun P (eqItemsA d e xs ys (List.range' 0 n)) := by
  simp only [Op.equalIn, pr_bind, pr_underlying hu, pr_sizeOf hi, Option.bind_some]
  simp only [Std.Legacy.Range.forIn_eq_forIn_range', Std.Legacy.Range.size, Nat.sub_zero, Nat.add_one_sub_one, Nat.div_one]
  generalize List.range' 0 n = is
  induction is with
  | nil => rfl
  | cons j is ih =>
    simp only [List.forIn_cons, eqItemsA, pr_bind]
    cases pureRun P (part e xs (j * 1)) with
    | none => rfl
    | some a =>
      simp only [Option.bind_some]
      cases pureRun P (part e ys (j * 1)) with
      | none => rfl
      | some b =>
        simp only [Option.bind_some]
        cases pureRun P (Op.equalIn d e a b) with
        | none => rfl
        | some r =>
          cases r
          · rfl
          · exact ih
theorem pr_items {d : Nat} {e : TypeId} {asl bs : List Int} (hu : P.underlying e = some (.int .u8)) : ∀ (k j : Nat), asl.length = j + k → bs.length = j + k →
    pureRun P (eqItemsA (d + 1) e (asl.map (Value.int .u8)).toArray (bs.map (Value.int .u8)).toArray (List.range' j k)) = some (decide (asl.drop j = bs.drop j))
  | 0, j, ha, hb => by
    rw [List.drop_eq_nil_of_le (by omega), List.drop_eq_nil_of_le (by omega)]
    rfl
  | k + 1, j, ha, hb => by
    have hai : j < asl.length := by omega
    have hbi : j < bs.length := by omega
    have ih := pr_items (d := d) (asl := asl) (bs := bs) hu k (j + 1) (by omega) (by omega)
    rw [List.range'_succ, eqItemsA, pr_bind, pr_part hu (v := .int .u8 asl[j]) (by simp [hai]), Option.bind_some, pr_bind, pr_part hu (v := .int .u8 bs[j]) (by simp [hbi]), Option.bind_some, pr_bind, pr_equal_int hu, Option.bind_some]
    rw [List.drop_eq_getElem_cons hai, List.drop_eq_getElem_cons hbi]
    by_cases he : asl[j] = bs[j]
    · have hb2 : (!(asl[j] == bs[j])) = false := by simp [he]
      rw [hb2]
      show pureRun P (eqItemsA (d + 1) e _ _ (List.range' (j + 1) k)) = _
      rw [ih]
      congr 1
      rw [he]
      simp only [List.cons.injEq, true_and]
    · have hb2 : (!(asl[j] == bs[j])) = true := by simp [he]
      rw [hb2]
      show some false = _
      simp only [List.cons.injEq, he, false_and, decide_false]
def bytesT (P : Program) (t n e : Nat) : Bool :=
  (match P.underlying t with | some (.array k f) => k == n && f == e | _ => false) && (match P.underlying e with | some (.int .u8) => true | _ => false) && isSz P e 1 && !P.eqGuardType P.depth t
theorem pr_bytes {t n e : Nat} (h : bytesT P t n e = true) (op : BinOp) (hop : op = .eql ∨ op = .neq) {asl bs : List Int} (ha : asl.length = n) (hb : bs.length = n) :
    binV P op t (.agg (asl.map (Value.int .u8)).toArray) (.agg (bs.map (Value.int .u8)).toArray) = some (.bool (match op with | .neq => !decide (asl = bs) | _ => decide (asl = bs))) := by
  rw [bytesT, Bool.and_eq_true, Bool.and_eq_true, Bool.and_eq_true] at h
  obtain ⟨⟨⟨h1, h2⟩, h3⟩, h5⟩ := h
  have hu : P.underlying t = some (.array n e) := by
    split at h1
    · rename_i k f hk
      simp only [Bool.and_eq_true, beq_iff_eq] at h1
      rw [hk, h1.1, h1.2]
    · cases h1
  have he : P.underlying e = some (.int .u8) := by
    split at h2
    · assumption
    · cases h2
  have hg : P.eqGuardType P.depth t = false := by simpa using h5
  have hfree : ∀ l : List Int, addrFree (.agg (l.map (Value.int .u8)).toArray) = true := fun l => by
    show (l.map (Value.int .u8)).all Am.flat = true
    rw [List.all_map, List.all_eq_true]; intro x _; rfl
  have e2 : pureRun P (Op.equal t (.agg (asl.map (Value.int .u8)).toArray) (.agg (bs.map (Value.int .u8)).toArray)) = some (decide (asl = bs)) := by
    show pureRun P (Op.equalIn (9999 + 1) t _ _) = _
    rw [pr_equal_array _ _ _ hu h3]
    have := pr_items (P := P) (d := 9998) (asl := asl) (bs := bs) he n 0 (by omega) (by omega)
    simpa using this
  have e1 : ∀ op, op = .eql ∨ op = .neq → pureRun P (eqGuard op t (.tmp 0) (.tmp 0) (.agg (asl.map (Value.int .u8)).toArray) (.agg (bs.map (Value.int .u8)).toArray)) = some () := by
    intro op ho
    have : pureRun P (program >>= fun p => program >>= fun q => if (!p.eqGuardType q.depth t) = true then pure () else (do if ← Op.eqGuardIn Op.maxDepth t (.agg (asl.map (Value.int .u8)).toArray) (.agg (bs.map (Value.int .u8)).toArray) then unsupported (.noEntry "binop/eql: two nil values of an interface type with methods, in a part of a struct or an array"))) = some () := by
      rw [pr_bind, pr_program, Option.bind_some, pr_bind, pr_program, Option.bind_some, hg]; rfl
    rcases ho with rfl | rfl <;> exact this
  show cond (addrFree _ && addrFree _ && notIface _) (flatO (pureRun P _)) none = _
  rw [hfree, hfree]
  show flatO (pureRun P (do eqGuard op t (.tmp 0) (.tmp 0) (.agg _) (.agg _); binOp op t (.agg _) (.agg _))) = _
  rw [pr_bind, e1 op hop, Option.bind_some]
  rcases hop with rfl | rfl
  · show flatO (pureRun P (Op.equal t (.agg _) (.agg _) >>= fun r => pure (.bool r))) = _
    rw [pr_bind, e2]; rfl
  · show flatO (pureRun P (Op.equal t (.agg _) (.agg _) >>= fun r => pure (.bool (!r)))) = _
    rw [pr_bind, e2]; rfl
end
end Go.Am
namespace Go.Am.C39
set_option maxRecDepth 100000
open Go Go.Am
variable {E : Nat → Option AFn} {Y : Nat → List Value → FM → Nat → OR FM}
structure Cmd where
  tag : Int
  kind : Int
  ord : Int
  force : Bool
  vol : ByteArray
  oth : ByteArray
  at_ : Int
  len : Int
  data : List (List Int)
def Cmd.cells (c : Cmd) (d : Value) : List Value := [.int .i64 c.tag, .int .i64 c.kind, .int .i64 c.ord, .bool c.force, .string c.vol, .string c.oth, .int .i64 c.at_, .int .i64 c.len, d]
def cmdV (c : Cmd) (d : Value) : Value := .agg #[.int .i64 c.tag, .int .i64 c.kind, .int .i64 c.ord, .bool c.force, .string c.vol, .string c.oth, .int .i64 c.at_, .int .i64 c.len, d]
structure Cmd.Fit (c : Cmd) : Prop where
  tag : -9223372036854775808 ≤ c.tag ∧ c.tag < 9223372036854775808
  kind : -9223372036854775808 ≤ c.kind ∧ c.kind < 9223372036854775808
  ord : -9223372036854775808 ≤ c.ord ∧ c.ord < 9223372036854775808
  at_ : -9223372036854775808 ≤ c.at_ ∧ c.at_ < 9223372036854775808
  len : -9223372036854775808 ≤ c.len ∧ c.len < 9223372036854775808
  vol : c.vol.size ≤ 9223372036854775807
  oth : c.oth.size ≤ 9223372036854775807
  data : c.data.length ≤ 9223372036854775807
def u8s (l : List Int) : List Value := l.map (Value.int .u8)
def DatV (m : FM) (n : Nat) (v : Value) (ds : List (List Int)) : Prop :=
  ∃ a c, v = .slice a ds.length c ∧ belowV n v = true ∧ (ds = [] ∨ ∃ b o cs opn wr, a = some ⟨b, o, none⟩ ∧ b < n ∧ m b = some (.cells cs 8 opn wr) ∧ ∀ i (h : i < ds.length), ds[i].length = 8 ∧ cellsAt cs (o + i * 8) 8 = some (u8s ds[i]))
theorem DatV.len {m : FM} {n : Nat} {v : Value} {ds : List (List Int)} (h : DatV m n v ds) : lenV false v = some (.int .i64 (ds.length : Int)) := by
  obtain ⟨a, c, rfl, _⟩ := h; rfl
theorem DatV.one {m : FM} {n : Nat} {v : Value} {ds : List (List Int)} (h : DatV m n v ds) : Am.one v = true := by
  obtain ⟨a, c, rfl, _⟩ := h; rfl
theorem DatV.bel {m : FM} {n : Nat} {v : Value} {ds : List (List Int)} (h : DatV m n v ds) (k : Nat) (hk : n ≤ k) : belowV k v = true := by
  obtain ⟨a, c, rfl, hb, _⟩ := h
  cases a with
  | none => exact hb
  | some a => exact blt_true (show a.block < k from Nat.lt_of_lt_of_le (Nat.le_of_ble_eq_true hb) hk)
theorem DatV.frame {m m' : FM} {n n' : Nat} {v : Value} {ds : List (List Int)} (h : DatV m n v ds) (hn : n ≤ n') (hf : ∀ b, b < n → m' b = m b) : DatV m' n' v ds := by
  have hb := h.bel n' hn
  obtain ⟨a, c, rfl, _, h⟩ := h
  refine ⟨a, c, rfl, hb, ?_⟩
  rcases h with h | ⟨b, o, cs, opn, wr, h1, h2, h3, h4⟩
  · exact .inl h
  · exact .inr ⟨b, o, cs, opn, wr, h1, by omega, (hf b h2).trans h3, h4⟩
theorem DatV.nil (m : FM) (n : Nat) : DatV m n (.slice none 0 0) [] := ⟨none, 0, rfl, rfl, .inl rfl⟩
theorem DatV.at {m : FM} {n : Nat} {v : Value} {ds : List (List Int)} (h : DatV m n v ds) {i : Nat} (hi : i < ds.length) :
    ∃ b o cs opn wr, idxV 8 i v = some (.pointer (some ⟨b, o, none⟩)) ∧ b < n ∧ m b = some (.cells cs 8 opn wr) ∧ ds[i].length = 8 ∧ ctake (ldrop cs o) 8 = some (u8s ds[i]) := by
  obtain ⟨a, c, rfl, _, h⟩ := h
  rcases h with rfl | ⟨b, o, cs, opn, wr, rfl, h2, h3, h4⟩
  · simp at hi
  · exact ⟨b, o + i * 8, cs, opn, wr, idx_mk hi, h2, h3, h4 i hi⟩
def insideP (a l : Int) : Prop := 0 ≤ a ∧ 1 ≤ l ∧ a ≤ 65536 ∧ l ≤ 65536 ∧ a + l ≤ 65536
instance (a l : Int) : Decidable (insideP a l) := by unfold insideP; infer_instance
theorem inside_spec (hE : E 34 = some ac34) (m : FM) (n : Nat) (a l : Int) (ha : -9223372036854775808 ≤ a ∧ a < 9223372036854775808) (hl : -9223372036854775808 ≤ l ∧ l < 9223372036854775808) :
    Pure (callW PG E Y 34 [.int .i64 a, .int .i64 l] m n) m n (.bool (decide (insideP a l))) := by
  refine pure_spec hE rfl rfl ?_
  simp only [ac34]
  by_cases c1 : a < 0
  · rw [decide_eq_false (show ¬ insideP a l from fun h => by have := h.1; omega)]
    simp (implicitDefEqProofs := false) (disch := omega) only [WPs, opds, List.all_cons, List.all_nil, List.cons_append, List.nil_append, cond_true, cond_false, eq_self, List.map_cons, List.map_nil, Nat.reduceAdd, Nat.testBit, Nat.reduceShiftRight, Nat.reduceAnd, Nat.reduceBNe, Nat.reduceMul]
  by_cases c2 : l < 1
  · rw [decide_eq_false (show ¬ insideP a l from fun h => by have := h.2.1; omega)]
    simp (implicitDefEqProofs := false) (disch := omega) only [WPs, opds, List.all_cons, List.all_nil, List.cons_append, List.nil_append, cond_true, cond_false, eq_self, List.map_cons, List.map_nil, Nat.reduceAdd, Nat.testBit, Nat.reduceShiftRight, Nat.reduceAnd, Nat.reduceBNe, Nat.reduceMul]
  by_cases c3 : 65536 < a
  · rw [decide_eq_false (show ¬ insideP a l from fun h => by have := h.2.2.1; omega)]
    simp (implicitDefEqProofs := false) (disch := omega) only [WPs, opds, List.all_cons, List.all_nil, List.cons_append, List.nil_append, cond_true, cond_false, eq_self, List.map_cons, List.map_nil, Nat.reduceAdd, Nat.testBit, Nat.reduceShiftRight, Nat.reduceAnd, Nat.reduceBNe, Nat.reduceMul]
  have : decide (insideP a l) = decide (l ≤ 65536 - a) := decide_eq_decide.2 ⟨fun h => by have := h.2.2.2.2; omega, fun h => ⟨by omega, by omega, by omega, by omega, by omega⟩⟩
  rw [this]
  simp (implicitDefEqProofs := false) (disch := omega) only [WPs, opds, List.all_cons, List.all_nil, List.cons_append, List.nil_append, cond_true, cond_false, eq_self, List.map_cons, List.map_nil, Nat.reduceAdd, Nat.testBit, Nat.reduceShiftRight, Nat.reduceAnd, Nat.reduceBNe, Nat.reduceMul]
theorem within_spec (hE : E 30 = some ac30) (m : FM) (n : Nat) (a l : Int) (ha : -9223372036854775808 ≤ a ∧ a < 9223372036854775808) (hl : -9223372036854775808 ≤ l ∧ l < 9223372036854775808) :
    Pure (callW PG E Y 30 [.int .i64 a, .int .i64 l] m n) m n (.bool (decide (insideP a l))) := by
  refine pure_spec hE rfl rfl ?_
  simp only [ac30]
  by_cases c1 : a < 0
  · rw [decide_eq_false (show ¬ insideP a l from fun h => by have := h.1; omega)]
    simp (implicitDefEqProofs := false) (disch := omega) only [WPs, opds, List.all_cons, List.all_nil, List.cons_append, List.nil_append, cond_true, cond_false, eq_self, List.map_cons, List.map_nil, Nat.reduceAdd, Nat.testBit, Nat.reduceShiftRight, Nat.reduceAnd, Nat.reduceBNe, Nat.reduceMul]
  by_cases c2 : l < 1
  · rw [decide_eq_false (show ¬ insideP a l from fun h => by have := h.2.1; omega)]
    simp (implicitDefEqProofs := false) (disch := omega) only [WPs, opds, List.all_cons, List.all_nil, List.cons_append, List.nil_append, cond_true, cond_false, eq_self, List.map_cons, List.map_nil, Nat.reduceAdd, Nat.testBit, Nat.reduceShiftRight, Nat.reduceAnd, Nat.reduceBNe, Nat.reduceMul]
  by_cases c3 : 65536 < a
  · rw [decide_eq_false (show ¬ insideP a l from fun h => by have := h.2.2.1; omega)]
    simp (implicitDefEqProofs := false) (disch := omega) only [WPs, opds, List.all_cons, List.all_nil, List.cons_append, List.nil_append, cond_true, cond_false, eq_self, List.map_cons, List.map_nil, Nat.reduceAdd, Nat.testBit, Nat.reduceShiftRight, Nat.reduceAnd, Nat.reduceBNe, Nat.reduceMul]
  by_cases c4 : 65536 < l
  · rw [decide_eq_false (show ¬ insideP a l from fun h => by have := h.2.2.2.1; omega)]
    simp (implicitDefEqProofs := false) (disch := omega) only [WPs, opds, List.all_cons, List.all_nil, List.cons_append, List.nil_append, cond_true, cond_false, eq_self, List.map_cons, List.map_nil, Nat.reduceAdd, Nat.testBit, Nat.reduceShiftRight, Nat.reduceAnd, Nat.reduceBNe, Nat.reduceMul]
  have : decide (insideP a l) = decide (a + l ≤ 65536) := decide_eq_decide.2 ⟨fun h => h.2.2.2.2, fun h => ⟨by omega, by omega, by omega, by omega, by omega⟩⟩
  rw [this]
  simp (implicitDefEqProofs := false) (disch := omega) only [WPs, opds, List.all_cons, List.all_nil, List.cons_append, List.nil_append, cond_true, cond_false, eq_self, List.map_cons, List.map_nil, Nat.reduceAdd, Nat.testBit, Nat.reduceShiftRight, Nat.reduceAnd, Nat.reduceBNe, Nat.reduceMul]
def onlyC (c : Cmd) : Cmd := { tag := c.tag, kind := c.kind, ord := c.ord, force := false, vol := ⟨#[]⟩, oth := ⟨#[]⟩, at_ := 0, len := 0, data := [] }
theorem only_spec (hE : E 32 = some ac32) (m : FM) (n : Nat) (c : Cmd) (d : Value) (hd : one d = true) :
    Pure (callW PG E Y 32 [cmdV c d] m n) m n (cmdV (onlyC c) (.slice none 0 0)) := by
  refine pure_spec hE rfl rfl ?_
  simp only [ac32, cmdV, onlyC]
  simp (implicitDefEqProofs := false) (disch := omega) only [WPs, opds, List.all_cons, List.all_nil, List.cons_append, List.nil_append, cond_true, cond_false, eq_self, List.map_cons, List.map_nil, Nat.reduceAdd, Nat.testBit, Nat.reduceShiftRight, Nat.reduceAnd, Nat.reduceBNe, Nat.reduceMul]
theorem t51 : bytesT PG 33 8 5 = true := by kernel_rfl
theorem neq51 {a b : List Int} (ha : a.length = 8) (hb : b.length = 8) : binV PG .neq 33 (.agg (u8s a).toArray) (.agg (u8s b).toArray) = some (.bool (!decide (a = b))) := pr_bytes t51 .neq (.inr rfl) ha hb
theorem u8s_llen {l : List Int} (h : l.length = 8) : llen (u8s l) = 8 := by rw [llen_eq, u8s, List.length_map, h]
theorem u8s_one (l : List Int) : (u8s l).all one = true := by rw [u8s, List.all_map, List.all_eq_true]; intro x _; rfl
theorem cover_all : ∀ (zs cs : List Value), zs.length = cs.length → cover cs zs = some cs
  | [], [], _ => rfl
  | z :: zs, c :: cs, h => by
    show ocons c (cover cs zs) = _
    rw [cover_all zs cs (by simpa using h)]; rfl
  | [], _ :: _, h => by simp at h
  | _ :: _, [], h => by simp at h
theorem u8s_set {l : List Int} (h : l.length = 8) : cover (u8s l) [.int .u8 0, .int .u8 0, .int .u8 0, .int .u8 0, .int .u8 0, .int .u8 0, .int .u8 0, .int .u8 0] = some (u8s l) := by
  exact cover_all _ _ (by rw [u8s, List.length_map, h]; rfl)
theorem u8s_all {l : List Int} (h : l.length = 8) : ctake (u8s l) 8 = some (u8s l) := by
  rw [ctake_eq, if_pos (by rw [u8s, List.length_map, h]; exact Nat.le_refl _), List.take_of_length_le (by rw [u8s, List.length_map, h]; exact Nat.le_refl _)]
theorem u8s_bel (l : List Int) (k : Nat) : (u8s l).all (belowF k) = true := by rw [u8s, List.all_map, List.all_eq_true]; intro x _; rfl
theorem lor_asc (a b c : Nat) : Nat.lor (Nat.lor a b) c = Nat.lor a (Nat.lor b c) := Nat.or_assoc a b c
theorem same_L0 (m0 : FM) (n0 pa pb : Nat) (c d : Cmd) (cd dd : Value) (hpa : pa < n0) (hpb : pb < n0) (hA : m0 pa = some (.cells (c.cells cd) 0 false true)) (hB : m0 pb = some (.cells (d.cells dd) 0 false true))
    (hc : DatV m0 n0 cd c.data) (hd : DatV m0 n0 dd d.data) (hl : d.data.length = c.data.length) (hs : c.data.length ≤ 9223372036854775807) {Q : AX → List Value → FM → Nat → Nat → Prop} (x9 x10 : Value)
    (hQt : c.data = d.data → ∀ x0 x1 x2 x3 x4 x5 M N w, n0 ≤ N → (∀ b, b < n0 → M b = m0 b) → Nat.mod w (bit n0) = 0 → Q (.exit 0) [x0, x1, x2, x3, x4, x5, .pointer (some ⟨pb, 0, none⟩), .pointer (some ⟨pa, 0, none⟩), x9, x10] M N w)
    (hQf : c.data ≠ d.data → ∀ e' M N w, n0 ≤ N → (∀ b, b < n0 → M b = m0 b) → Nat.mod w (bit n0) = 0 → Q (.ret (.bool false)) e' M N w) : ∀ k j, j + k = c.data.length → c.data.take j = d.data.take j → ∀ (m : FM) (n : Nat) (w0 : Nat), n0 ≤ n → (∀ b, b < n0 → m b = m0 b) → Nat.mod w0 (bit n0) = 0 → ∀ x0 x2 x5 x6 : Value,
    Gv (execW PG E Y ac35L0 [x0, .int .i64 (j : Int), x2, .int .i64 (c.data.length : Int), cd, x5, x6, .pointer (some ⟨pb, 0, none⟩), .pointer (some ⟨pa, 0, none⟩), x9, x10] m n) fun X e M N w => Q X e M N (Nat.lor w0 w) := by
  intro k
  induction k with
  | zero =>
    intro j hj ht m n w0 hn hf hw x0 x2 x5 x6
    refine wr_loopN (L := ac35L0) (b := ac35L0b) rfl ?_
    simp only [ac35L0b]
    simp (implicitDefEqProofs := false) (disch := omega) only [WPs, opds, List.all_cons, List.all_nil, List.cons_append, List.nil_append, cond_true, cond_false, eq_self, List.map_cons, List.map_nil, Nat.reduceAdd, Nat.testBit, Nat.reduceShiftRight, Nat.reduceAnd, Nat.reduceBNe, Nat.reduceMul]
    refine hQt ?_ _ _ _ _ _ _ _ _ _ hn hf hw
    rw [← List.take_of_length_le (show c.data.length ≤ j by omega), ht, List.take_of_length_le (show d.data.length ≤ j by omega)]
  | succ k ih =>
    intro j hj ht m n w0 hn hf hw x0 x2 x5 x6
    have hjc : j < c.data.length := by omega
    have hjd : j < d.data.length := by omega
    obtain ⟨b1, o1, cs1, p1, q1, i1, i2, i3, i4, i5⟩ := hc.at hjc
    obtain ⟨b2, o2, cs2, p2, q2, g1, g2, g3, g4, g5⟩ := hd.at hjd
    refine wr_loopN (L := ac35L0) (b := ac35L0b) rfl ?_
    simp only [ac35L0b]
    by_cases he : c.data[j] = d.data[j]
    · have hne : (!decide (c.data[j] = d.data[j])) = false := by rw [decide_eq_true he]; rfl
      simp (implicitDefEqProofs := false) (disch := omega) only [WPs, opds, List.all_cons, List.all_nil, List.cons_append, List.nil_append, cond_true, cond_false, eq_self, List.map_cons, List.map_nil, Nat.reduceAdd, Nat.testBit, Nat.reduceShiftRight, Nat.reduceAnd, Nat.reduceBNe, Nat.reduceMul, i1, hf, i3, i5, u8s_llen i4, u8s_one, u8s_set i4, u8s_all i4, hB, Cmd.cells, g1, g3, g5, neq51 i4 g4, hd.bel, u8s_bel, Bool.and_self, hne]
      have ht' : c.data.take (j + 1) = d.data.take (j + 1) := by
        rw [List.take_succ_eq_append_getElem hjc, List.take_succ_eq_append_getElem hjd, ht, he]
      refine wr_end' ((ih (j + 1) (by omega) ht' (AMem.put m n (some (.cells (u8s c.data[j]) 0 false true)) : FM) (n + 1) (Nat.lor w0 (Nat.lor (bit n) (bit n))) (by omega) (fun b hb => ?_) ?_ _ _ _ _).mono fun X e m n w hq => ?_)
      · simp (implicitDefEqProofs := false) (disch := omega) only [WPs, opds, List.all_cons, List.all_nil, List.cons_append, List.nil_append, cond_true, cond_false, eq_self, List.map_cons, List.map_nil, Nat.reduceAdd, Nat.testBit, Nat.reduceShiftRight, Nat.reduceAnd, Nat.reduceBNe, Nat.reduceMul, hf]
      · simp (implicitDefEqProofs := false) (disch := omega) only [WPs, opds, List.all_cons, List.all_nil, List.cons_append, List.nil_append, cond_true, cond_false, eq_self, List.map_cons, List.map_nil, Nat.reduceAdd, Nat.testBit, Nat.reduceShiftRight, Nat.reduceAnd, Nat.reduceBNe, Nat.reduceMul, hw]
      · rw [lor_asc] at hq; exact hq
    · have hne : (!decide (c.data[j] = d.data[j])) = true := by rw [decide_eq_false he]; rfl
      simp (implicitDefEqProofs := false) (disch := omega) only [WPs, opds, List.all_cons, List.all_nil, List.cons_append, List.nil_append, cond_true, cond_false, eq_self, List.map_cons, List.map_nil, Nat.reduceAdd, Nat.testBit, Nat.reduceShiftRight, Nat.reduceAnd, Nat.reduceBNe, Nat.reduceMul, i1, hf, i3, i5, u8s_llen i4, u8s_one, u8s_set i4, u8s_all i4, hB, Cmd.cells, g1, g3, g5, neq51 i4 g4, hd.bel, u8s_bel, Bool.and_self, hne]
      refine hQf (fun h => he ?_) _ _ _ _ (by omega) (fun b hb => ?_) ?_
      · simp only [h]
      · simp (implicitDefEqProofs := false) (disch := omega) only [WPs, opds, List.all_cons, List.all_nil, List.cons_append, List.nil_append, cond_true, cond_false, eq_self, List.map_cons, List.map_nil, Nat.reduceAdd, Nat.testBit, Nat.reduceShiftRight, Nat.reduceAnd, Nat.reduceBNe, Nat.reduceMul, hf]
      · simp (implicitDefEqProofs := false) (disch := omega) only [WPs, opds, List.all_cons, List.all_nil, List.cons_append, List.nil_append, cond_true, cond_false, eq_self, List.map_cons, List.map_nil, Nat.reduceAdd, Nat.testBit, Nat.reduceShiftRight, Nat.reduceAnd, Nat.reduceBNe, Nat.reduceMul, hw]
theorem same_L (m0 : FM) (n0 pa pb : Nat) (c d : Cmd) (cd dd : Value) (hpa : pa < n0) (hpb : pb < n0) (hA : m0 pa = some (.cells (c.cells cd) 0 false true)) (hB : m0 pb = some (.cells (d.cells dd) 0 false true))
    (hc : DatV m0 n0 cd c.data) (hd : DatV m0 n0 dd d.data) (hl : d.data.length = c.data.length) (hs : c.data.length ≤ 9223372036854775807) (x0 x2 x5 x6 x9 x10 : Value) {Q : AX → List Value → FM → Nat → Nat → Prop}
    (hQt : c.data = d.data → ∀ x0 x1 x2 x3 x4 x5 M N w, n0 ≤ N → (∀ b, b < n0 → M b = m0 b) → Nat.mod w (bit n0) = 0 → Q (.exit 0) [x0, x1, x2, x3, x4, x5, .pointer (some ⟨pb, 0, none⟩), .pointer (some ⟨pa, 0, none⟩), x9, x10] M N w)
    (hQf : c.data ≠ d.data → ∀ e' M N w, n0 ≤ N → (∀ b, b < n0 → M b = m0 b) → Nat.mod w (bit n0) = 0 → Q (.ret (.bool false)) e' M N w) :
    Gv (execW PG E Y ac35L0 [x0, .int .i64 0, x2, .int .i64 (c.data.length : Int), cd, x5, x6, .pointer (some ⟨pb, 0, none⟩), .pointer (some ⟨pa, 0, none⟩), x9, x10] m0 n0) Q :=
  (same_L0 m0 n0 pa pb c d cd dd hpa hpb hA hB hc hd hl hs x9 x10 hQt hQf c.data.length 0 (by omega) (by rw [List.take_zero, List.take_zero]) m0 n0 0 (Nat.le_refl _) (fun b hb => rfl) (frz_zero _) x0 x2 x5 x6).mono fun X e M N w hq => by simpa only [zero_lor'] using hq
def sameB (c d : Cmd) : Bool := decide (c.data = d.data) && (decide (c.tag = d.tag) && (decide (c.kind = d.kind) && (decide (c.ord = d.ord) && (decide (c.force = d.force) && (decide (c.vol = d.vol) && (decide (c.oth = d.oth) && (decide (c.at_ = d.at_) && decide (c.len = d.len))))))))
theorem eql_bools (t : Nat) (ht : PG.underlying t = some .bool) (a b : Bool) : binV PG .eql t (.bool a) (.bool b) = some (.bool (decide (a = b))) := by
  show flatO (pureRun PG (do eqGuard .eql t (.tmp 0) (.tmp 0) (.bool a) (.bool b); binOp .eql t (.bool a) (.bool b))) = _
  rw [pr_bind]
  show flatO (pureRun PG (Op.equal t (.bool a) (.bool b) >>= fun r => pure (.bool r))) = _
  rw [pr_bind]
  have : pureRun PG (Op.equal t (.bool a) (.bool b)) = some (a == b) := by
    show pureRun PG (Op.equalIn (9999 + 1) t _ _) = _
    unfold Op.equalIn
    rw [pr_bind, pr_underlying ht]; rfl
  rw [this]
  cases a <;> cases b <;> rfl
theorem t4 : PG.underlying 4 = some .bool := by kernel_rfl
theorem same_spec (hE : E 35 = some ac35) (m : FM) (n : Nat) (c d : Cmd) (cd dd : Value) (hc : DatV m n cd c.data) (hd : DatV m n dd d.data) (hs : c.data.length ≤ 9223372036854775807) (hs' : d.data.length ≤ 9223372036854775807) :
    Pure (callW PG E Y 35 [cmdV c cd, cmdV d dd] m n) m n (.bool (sameB c d)) := by
  refine pure_spec hE rfl rfl ?_
  simp only [ac35, cmdV]
  by_cases h0 : c.data.length = d.data.length
  · simp (implicitDefEqProofs := false) (disch := omega) only [WPs, opds, List.all_cons, List.all_nil, List.cons_append, List.nil_append, cond_true, cond_false, eq_self, List.map_cons, List.map_nil, Nat.reduceAdd, Nat.testBit, Nat.reduceShiftRight, Nat.reduceAnd, Nat.reduceBNe, Nat.reduceMul, hc.one, hd.one, hc.len, hd.len]
    have hc' : DatV (AMem.put (AMem.put m n (some (.cells (c.cells cd) 0 false true))) (n + 1) (some (.cells (d.cells dd) 0 false true)) : FM) (n + 2) cd c.data := hc.frame (by omega) fun b hb => by rw [fput_ne _ _ _ _ (by omega), fput_ne _ _ _ _ (by omega)]
    have hd' : DatV (AMem.put (AMem.put m n (some (.cells (c.cells cd) 0 false true))) (n + 1) (some (.cells (d.cells dd) 0 false true)) : FM) (n + 2) dd d.data := hd.frame (by omega) fun b hb => by rw [fput_ne _ _ _ _ (by omega), fput_ne _ _ _ _ (by omega)]
    refine wr_cps (same_L (AMem.put (AMem.put m n (some (.cells (c.cells cd) 0 false true))) (n + 1) (some (.cells (d.cells dd) 0 false true)) : FM) (n + 2) n (n + 1) c d cd dd (by omega) (by omega) (by rw [fput_ne _ _ _ _ (by omega)]; exact fput_same _ _ _) (fput_same _ _ _) hc' hd' h0.symm hs _ _ _ _ _ _ (fun hdat x0 x1 x2 x3 x4 x5 M N w h1 h2 h3 r1 => ?_) (fun hdat e' M N w h1 h2 h3 r1 => ?_))
    · have hMa : M n = some (.cells (c.cells cd) 0 false true) := by rw [h2 n (by omega), fput_ne _ _ _ _ (by omega)]; exact fput_same _ _ _
      have hMb : M (n + 1) = some (.cells (d.cells dd) 0 false true) := by rw [h2 (n + 1) (by omega)]; exact fput_same _ _ _
      have hw : Nat.mod w (bit n) = 0 := frz_down h3 (by omega)
      have hd0 := decide_eq_true hdat
      unfold sameB
      by_cases e0 : c.tag = d.tag
      case neg =>
        simp only [hd0, decide_eq_false e0, Bool.true_and, Bool.false_and, Bool.and_false]
        simp (implicitDefEqProofs := false) (disch := omega) only [WPs, opds, List.all_cons, List.all_nil, List.cons_append, List.nil_append, cond_true, cond_false, eq_self, List.map_cons, List.map_nil, Nat.reduceAdd, Nat.testBit, Nat.reduceShiftRight, Nat.reduceAnd, Nat.reduceBNe, Nat.reduceMul, hMa, hMb, Cmd.cells, hw, eql_bools 4 t4, STs, decide_eq_false e0]
      by_cases e1 : c.kind = d.kind
      case neg =>
        simp only [hd0, decide_eq_true e0, decide_eq_false e1, Bool.true_and, Bool.false_and, Bool.and_false]
        simp (implicitDefEqProofs := false) (disch := omega) only [WPs, opds, List.all_cons, List.all_nil, List.cons_append, List.nil_append, cond_true, cond_false, eq_self, List.map_cons, List.map_nil, Nat.reduceAdd, Nat.testBit, Nat.reduceShiftRight, Nat.reduceAnd, Nat.reduceBNe, Nat.reduceMul, hMa, hMb, Cmd.cells, hw, eql_bools 4 t4, STs, decide_eq_true e0, decide_eq_false e1]
      by_cases e2 : c.ord = d.ord
      case neg =>
        simp only [hd0, decide_eq_true e0, decide_eq_true e1, decide_eq_false e2, Bool.true_and, Bool.false_and, Bool.and_false]
        simp (implicitDefEqProofs := false) (disch := omega) only [WPs, opds, List.all_cons, List.all_nil, List.cons_append, List.nil_append, cond_true, cond_false, eq_self, List.map_cons, List.map_nil, Nat.reduceAdd, Nat.testBit, Nat.reduceShiftRight, Nat.reduceAnd, Nat.reduceBNe, Nat.reduceMul, hMa, hMb, Cmd.cells, hw, eql_bools 4 t4, STs, decide_eq_true e0, decide_eq_true e1, decide_eq_false e2]
      by_cases e3 : c.force = d.force
      case neg =>
        simp only [hd0, decide_eq_true e0, decide_eq_true e1, decide_eq_true e2, decide_eq_false e3, Bool.true_and, Bool.false_and, Bool.and_false]
        simp (implicitDefEqProofs := false) (disch := omega) only [WPs, opds, List.all_cons, List.all_nil, List.cons_append, List.nil_append, cond_true, cond_false, eq_self, List.map_cons, List.map_nil, Nat.reduceAdd, Nat.testBit, Nat.reduceShiftRight, Nat.reduceAnd, Nat.reduceBNe, Nat.reduceMul, hMa, hMb, Cmd.cells, hw, eql_bools 4 t4, STs, decide_eq_true e0, decide_eq_true e1, decide_eq_true e2, decide_eq_false e3]
      by_cases e4 : c.vol = d.vol
      case neg =>
        simp only [hd0, decide_eq_true e0, decide_eq_true e1, decide_eq_true e2, decide_eq_true e3, decide_eq_false e4, Bool.true_and, Bool.false_and, Bool.and_false]
        simp (implicitDefEqProofs := false) (disch := omega) only [WPs, opds, List.all_cons, List.all_nil, List.cons_append, List.nil_append, cond_true, cond_false, eq_self, List.map_cons, List.map_nil, Nat.reduceAdd, Nat.testBit, Nat.reduceShiftRight, Nat.reduceAnd, Nat.reduceBNe, Nat.reduceMul, hMa, hMb, Cmd.cells, hw, eql_bools 4 t4, STs, decide_eq_true e0, decide_eq_true e1, decide_eq_true e2, decide_eq_true e3, decide_eq_false e4]
      by_cases e5 : c.oth = d.oth
      case neg =>
        simp only [hd0, decide_eq_true e0, decide_eq_true e1, decide_eq_true e2, decide_eq_true e3, decide_eq_true e4, decide_eq_false e5, Bool.true_and, Bool.false_and, Bool.and_false]
        simp (implicitDefEqProofs := false) (disch := omega) only [WPs, opds, List.all_cons, List.all_nil, List.cons_append, List.nil_append, cond_true, cond_false, eq_self, List.map_cons, List.map_nil, Nat.reduceAdd, Nat.testBit, Nat.reduceShiftRight, Nat.reduceAnd, Nat.reduceBNe, Nat.reduceMul, hMa, hMb, Cmd.cells, hw, eql_bools 4 t4, STs, decide_eq_true e0, decide_eq_true e1, decide_eq_true e2, decide_eq_true e3, decide_eq_true e4, decide_eq_false e5]
      by_cases e6 : c.at_ = d.at_
      case neg =>
        simp only [hd0, decide_eq_true e0, decide_eq_true e1, decide_eq_true e2, decide_eq_true e3, decide_eq_true e4, decide_eq_true e5, decide_eq_false e6, Bool.true_and, Bool.false_and, Bool.and_false]
        simp (implicitDefEqProofs := false) (disch := omega) only [WPs, opds, List.all_cons, List.all_nil, List.cons_append, List.nil_append, cond_true, cond_false, eq_self, List.map_cons, List.map_nil, Nat.reduceAdd, Nat.testBit, Nat.reduceShiftRight, Nat.reduceAnd, Nat.reduceBNe, Nat.reduceMul, hMa, hMb, Cmd.cells, hw, eql_bools 4 t4, STs, decide_eq_true e0, decide_eq_true e1, decide_eq_true e2, decide_eq_true e3, decide_eq_true e4, decide_eq_true e5, decide_eq_false e6]
      simp only [hd0, decide_eq_true e0, decide_eq_true e1, decide_eq_true e2, decide_eq_true e3, decide_eq_true e4, decide_eq_true e5, decide_eq_true e6, Bool.true_and]
      simp (implicitDefEqProofs := false) (disch := omega) only [WPs, opds, List.all_cons, List.all_nil, List.cons_append, List.nil_append, cond_true, cond_false, eq_self, List.map_cons, List.map_nil, Nat.reduceAdd, Nat.testBit, Nat.reduceShiftRight, Nat.reduceAnd, Nat.reduceBNe, Nat.reduceMul, hMa, hMb, Cmd.cells, hw, eql_bools 4 t4, STs, decide_eq_true e0, decide_eq_true e1, decide_eq_true e2, decide_eq_true e3, decide_eq_true e4, decide_eq_true e5, decide_eq_true e6]
    · have : sameB c d = false := by unfold sameB; rw [decide_eq_false hdat]; rfl
      rw [this]
      have hw : Nat.mod w (bit n) = 0 := frz_down h3 (by omega)
      simp (implicitDefEqProofs := false) (disch := omega) only [WPs, opds, List.all_cons, List.all_nil, List.cons_append, List.nil_append, cond_true, cond_false, eq_self, List.map_cons, List.map_nil, Nat.reduceAdd, Nat.testBit, Nat.reduceShiftRight, Nat.reduceAnd, Nat.reduceBNe, Nat.reduceMul, hw]
  · have : sameB c d = false := by unfold sameB; rw [decide_eq_false (fun h => h0 (by rw [h]))]; rfl
    rw [this]
    simp (implicitDefEqProofs := false) (disch := omega) only [WPs, opds, List.all_cons, List.all_nil, List.cons_append, List.nil_append, cond_true, cond_false, eq_self, List.map_cons, List.map_nil, Nat.reduceAdd, Nat.testBit, Nat.reduceShiftRight, Nat.reduceAnd, Nat.reduceBNe, Nat.reduceMul, hc.one, hd.one, hc.len, hd.len]
end Go.Am.C39
namespace Go.Am.C39
set_option maxRecDepth 100000
open Go Go.Am
variable {E : Nat → Option AFn} {Y : Nat → List Value → FM → Nat → OR FM}
def HeadP (c : Cmd) : Prop := 0 ≤ c.tag ∧ c.tag ≤ 2147483647 ∧ (c.ord = 0 ∨ c.ord = 1)
def K1 (c : Cmd) : Prop := NameP c.vol ∧ c.oth = ⟨#[]⟩ ∧ c.data = [] ∧ c.force = false ∧ insideP c.at_ c.len ∧ c.len ≤ 16
def K2 (c : Cmd) : Prop := NameP c.vol ∧ c.oth = ⟨#[]⟩ ∧ insideP c.at_ c.len ∧ c.len ≤ 16 ∧ (c.data.length : Int) = c.len
def K3 (c : Cmd) : Prop := NameP c.vol ∧ c.oth = ⟨#[]⟩ ∧ c.data = [] ∧ insideP c.at_ c.len
def K4 (c : Cmd) : Prop := c.vol = ⟨#[]⟩ ∧ c.oth = ⟨#[]⟩ ∧ c.data = [] ∧ c.force = false ∧ c.at_ = 0 ∧ c.len = 0
def K5 (c : Cmd) : Prop := NameP c.vol ∧ c.oth = ⟨#[]⟩ ∧ c.data = [] ∧ c.force = false ∧ 1 ≤ c.len ∧ c.len ≤ 65536 ∧ 0 ≤ c.at_ ∧ c.at_ ≤ c.len
def K6 (c : Cmd) : Prop := NameP c.vol ∧ NameP c.oth ∧ c.oth ≠ c.vol ∧ c.data = [] ∧ c.force = false ∧ c.at_ = 0 ∧ c.len = 0
def K7 (c : Cmd) : Prop := NameP c.vol ∧ c.oth = ⟨#[]⟩ ∧ c.data = [] ∧ c.force = false ∧ c.at_ = 0 ∧ c.len = 0
def ValidP (c : Cmd) : Prop := HeadP c ∧ ((c.kind = 1 ∧ K1 c) ∨ (c.kind = 2 ∧ K2 c) ∨ (c.kind = 3 ∧ K3 c) ∨ (c.kind = 4 ∧ K4 c) ∨ (c.kind = 5 ∧ K5 c) ∨ (c.kind = 6 ∧ K6 c) ∨ (c.kind = 7 ∧ K7 c))
open Classical in
noncomputable def validB (c : Cmd) : Bool := decide (ValidP c)
open Classical in
theorem validB_t {c : Cmd} (h : ValidP c) : validB c = true := by unfold validB; exact decide_eq_true h
open Classical in
theorem validB_f {c : Cmd} (h : ¬ ValidP c) : validB c = false := by unfold validB; exact decide_eq_false h
theorem valid_1 {c : Cmd} (hk : c.kind = 1) : ValidP c ↔ HeadP c ∧ K1 c := by
  unfold ValidP
  refine and_congr_right fun _ => ⟨fun h => ?_, fun h => .inl ⟨hk, h⟩⟩
  rcases h with ⟨h1, h2⟩ | ⟨h1, h2⟩ | ⟨h1, h2⟩ | ⟨h1, h2⟩ | ⟨h1, h2⟩ | ⟨h1, h2⟩ | ⟨h1, h2⟩
  · exact h2
  · omega
  · omega
  · omega
  · omega
  · omega
  · omega
theorem valid_2 {c : Cmd} (hk : c.kind = 2) : ValidP c ↔ HeadP c ∧ K2 c := by
  unfold ValidP
  refine and_congr_right fun _ => ⟨fun h => ?_, fun h => .inr (.inl ⟨hk, h⟩)⟩
  rcases h with ⟨h1, h2⟩ | ⟨h1, h2⟩ | ⟨h1, h2⟩ | ⟨h1, h2⟩ | ⟨h1, h2⟩ | ⟨h1, h2⟩ | ⟨h1, h2⟩
  · omega
  · exact h2
  · omega
  · omega
  · omega
  · omega
  · omega
theorem valid_3 {c : Cmd} (hk : c.kind = 3) : ValidP c ↔ HeadP c ∧ K3 c := by
  unfold ValidP
  refine and_congr_right fun _ => ⟨fun h => ?_, fun h => .inr (.inr (.inl ⟨hk, h⟩))⟩
  rcases h with ⟨h1, h2⟩ | ⟨h1, h2⟩ | ⟨h1, h2⟩ | ⟨h1, h2⟩ | ⟨h1, h2⟩ | ⟨h1, h2⟩ | ⟨h1, h2⟩
  · omega
  · omega
  · exact h2
  · omega
  · omega
  · omega
  · omega
theorem valid_4 {c : Cmd} (hk : c.kind = 4) : ValidP c ↔ HeadP c ∧ K4 c := by
  unfold ValidP
  refine and_congr_right fun _ => ⟨fun h => ?_, fun h => .inr (.inr (.inr (.inl ⟨hk, h⟩)))⟩
  rcases h with ⟨h1, h2⟩ | ⟨h1, h2⟩ | ⟨h1, h2⟩ | ⟨h1, h2⟩ | ⟨h1, h2⟩ | ⟨h1, h2⟩ | ⟨h1, h2⟩
  · omega
  · omega
  · omega
  · exact h2
  · omega
  · omega
  · omega
theorem valid_5 {c : Cmd} (hk : c.kind = 5) : ValidP c ↔ HeadP c ∧ K5 c := by
  unfold ValidP
  refine and_congr_right fun _ => ⟨fun h => ?_, fun h => .inr (.inr (.inr (.inr (.inl ⟨hk, h⟩))))⟩
  rcases h with ⟨h1, h2⟩ | ⟨h1, h2⟩ | ⟨h1, h2⟩ | ⟨h1, h2⟩ | ⟨h1, h2⟩ | ⟨h1, h2⟩ | ⟨h1, h2⟩
  · omega
  · omega
  · omega
  · omega
  · exact h2
  · omega
  · omega
theorem valid_6 {c : Cmd} (hk : c.kind = 6) : ValidP c ↔ HeadP c ∧ K6 c := by
  unfold ValidP
  refine and_congr_right fun _ => ⟨fun h => ?_, fun h => .inr (.inr (.inr (.inr (.inr (.inl ⟨hk, h⟩)))))⟩
  rcases h with ⟨h1, h2⟩ | ⟨h1, h2⟩ | ⟨h1, h2⟩ | ⟨h1, h2⟩ | ⟨h1, h2⟩ | ⟨h1, h2⟩ | ⟨h1, h2⟩
  · omega
  · omega
  · omega
  · omega
  · omega
  · exact h2
  · omega
theorem valid_7 {c : Cmd} (hk : c.kind = 7) : ValidP c ↔ HeadP c ∧ K7 c := by
  unfold ValidP
  refine and_congr_right fun _ => ⟨fun h => ?_, fun h => .inr (.inr (.inr (.inr (.inr (.inr (⟨hk, h⟩))))))⟩
  rcases h with ⟨h1, h2⟩ | ⟨h1, h2⟩ | ⟨h1, h2⟩ | ⟨h1, h2⟩ | ⟨h1, h2⟩ | ⟨h1, h2⟩ | ⟨h1, h2⟩
  · omega
  · omega
  · omega
  · omega
  · omega
  · omega
  · exact h2
theorem valid_x {c : Cmd} (h : ¬ (1 ≤ c.kind ∧ c.kind ≤ 7)) : ¬ ValidP c := fun hv => by
  rcases hv.2 with ⟨h1, _⟩ | ⟨h1, _⟩ | ⟨h1, _⟩ | ⟨h1, _⟩ | ⟨h1, _⟩ | ⟨h1, _⟩ | ⟨h1, _⟩ <;> omega
end Go.Am.C39
namespace Go.Am.C39
set_option maxRecDepth 100000
open Go Go.Am
variable {E : Nat → Option AFn} {Y : Nat → List Value → FM → Nat → OR FM}
theorem sameB_iff {c d : Cmd} : sameB c d = true ↔ c = d := by
  cases c; cases d
  simp only [sameB, Bool.and_eq_true, decide_eq_true_eq, Cmd.mk.injEq]
  exact ⟨fun ⟨a, b, c, d, e, f, g, h, i⟩ => ⟨b, c, d, e, f, g, h, i, a⟩, fun ⟨b, c, d, e, f, g, h, i, a⟩ => ⟨a, b, c, d, e, f, g, h, i⟩⟩
theorem validB_iff {c : Cmd} : validB c = true ↔ ValidP c := by
  by_cases h : ValidP c
  · rw [validB_t h]; simp [h]
  · rw [validB_f h]; simp [h]
def used1 (c : Cmd) : Cmd := { tag := c.tag, kind := c.kind, ord := c.ord, force := false, vol := c.vol, oth := ⟨#[]⟩, at_ := c.at_, len := c.len, data := [] }
theorem vs_1 {c : Cmd} (hh : HeadP c) (hk : c.kind = 1) (h0 : NameP c.vol) (h1 : insideP c.at_ c.len) (h2 : c.len ≤ 16) : validB c = sameB c (used1 c) := by
  rw [Bool.eq_iff_iff, sameB_iff, validB_iff, valid_1 hk]
  constructor
  · rintro ⟨_, _, r1, r2, r3, _, _⟩
    cases c
    simp_all [used1]
  · intro h
    exact ⟨hh, h0, congrArg Cmd.oth h, congrArg Cmd.data h, congrArg Cmd.force h, h1, h2⟩
def used2 (c : Cmd) : Cmd := { tag := c.tag, kind := c.kind, ord := c.ord, force := c.force, vol := c.vol, oth := ⟨#[]⟩, at_ := c.at_, len := c.len, data := c.data }
theorem vs_2 {c : Cmd} (hh : HeadP c) (hk : c.kind = 2) (h0 : NameP c.vol) (h1 : insideP c.at_ c.len) (h2 : c.len ≤ 16) (h3 : (c.data.length : Int) = c.len) : validB c = sameB c (used2 c) := by
  rw [Bool.eq_iff_iff, sameB_iff, validB_iff, valid_2 hk]
  constructor
  · rintro ⟨_, _, r1, _, _, _⟩
    cases c
    simp_all [used2]
  · intro h
    exact ⟨hh, h0, congrArg Cmd.oth h, h1, h2, h3⟩
def used3 (c : Cmd) : Cmd := { tag := c.tag, kind := c.kind, ord := c.ord, force := c.force, vol := c.vol, oth := ⟨#[]⟩, at_ := c.at_, len := c.len, data := [] }
theorem vs_3 {c : Cmd} (hh : HeadP c) (hk : c.kind = 3) (h0 : NameP c.vol) (h1 : insideP c.at_ c.len) : validB c = sameB c (used3 c) := by
  rw [Bool.eq_iff_iff, sameB_iff, validB_iff, valid_3 hk]
  constructor
  · rintro ⟨_, _, r1, r2, _⟩
    cases c
    simp_all [used3]
  · intro h
    exact ⟨hh, h0, congrArg Cmd.oth h, congrArg Cmd.data h, h1⟩
def used4 (c : Cmd) : Cmd := { tag := c.tag, kind := c.kind, ord := c.ord, force := false, vol := c.vol, oth := ⟨#[]⟩, at_ := 0, len := 0, data := [] }
theorem vs_4 {c : Cmd} (hh : HeadP c) (hk : c.kind = 4) (h0 : c.vol = ⟨#[]⟩) : validB c = sameB c (used4 c) := by
  rw [Bool.eq_iff_iff, sameB_iff, validB_iff, valid_4 hk]
  constructor
  · rintro ⟨_, _, r1, r2, r3, r4, r5⟩
    cases c
    simp_all [used4]
  · intro h
    exact ⟨hh, h0, congrArg Cmd.oth h, congrArg Cmd.data h, congrArg Cmd.force h, congrArg Cmd.at_ h, congrArg Cmd.len h⟩
def used5 (c : Cmd) : Cmd := { tag := c.tag, kind := c.kind, ord := c.ord, force := false, vol := c.vol, oth := ⟨#[]⟩, at_ := c.at_, len := c.len, data := [] }
theorem vs_5 {c : Cmd} (hh : HeadP c) (hk : c.kind = 5) (h0 : NameP c.vol) (h1 : 1 ≤ c.len) (h2 : c.len ≤ 65536) (h3 : 0 ≤ c.at_) (h4 : c.at_ ≤ c.len) : validB c = sameB c (used5 c) := by
  rw [Bool.eq_iff_iff, sameB_iff, validB_iff, valid_5 hk]
  constructor
  · rintro ⟨_, _, r1, r2, r3, _, _, _, _⟩
    cases c
    simp_all [used5]
  · intro h
    exact ⟨hh, h0, congrArg Cmd.oth h, congrArg Cmd.data h, congrArg Cmd.force h, h1, h2, h3, h4⟩
def used6 (c : Cmd) : Cmd := { tag := c.tag, kind := c.kind, ord := c.ord, force := false, vol := c.vol, oth := c.oth, at_ := 0, len := 0, data := [] }
theorem vs_6 {c : Cmd} (hh : HeadP c) (hk : c.kind = 6) (h0 : NameP c.vol) (h1 : NameP c.oth) (h2 : c.oth ≠ c.vol) : validB c = sameB c (used6 c) := by
  rw [Bool.eq_iff_iff, sameB_iff, validB_iff, valid_6 hk]
  constructor
  · rintro ⟨_, _, _, _, r3, r4, r5, r6⟩
    cases c
    simp_all [used6]
  · intro h
    exact ⟨hh, h0, h1, h2, congrArg Cmd.data h, congrArg Cmd.force h, congrArg Cmd.at_ h, congrArg Cmd.len h⟩
def used7 (c : Cmd) : Cmd := { tag := c.tag, kind := c.kind, ord := c.ord, force := false, vol := c.vol, oth := ⟨#[]⟩, at_ := 0, len := 0, data := [] }
theorem vs_7 {c : Cmd} (hh : HeadP c) (hk : c.kind = 7) (h0 : NameP c.vol) : validB c = sameB c (used7 c) := by
  rw [Bool.eq_iff_iff, sameB_iff, validB_iff, valid_7 hk]
  constructor
  · rintro ⟨_, _, r1, r2, r3, r4, r5⟩
    cases c
    simp_all [used7]
  · intro h
    exact ⟨hh, h0, congrArg Cmd.oth h, congrArg Cmd.data h, congrArg Cmd.force h, congrArg Cmd.at_ h, congrArg Cmd.len h⟩
end Go.Am.C39
namespace Go.Am.C39
set_option maxRecDepth 100000
open Go Go.Am
variable {E : Nat → Option AFn} {Y : Nat → List Value → FM → Nat → OR FM}
set_option maxHeartbeats 8000000 in
theorem cmdValid_1 (hE : E 20 = some ac20) (hN : E 33 = some ac33) (hT : Trims E Y) (hI : E 34 = some ac34) (hO : E 32 = some ac32) (hS : E 35 = some ac35) (m : FM) (n : Nat) (c : Cmd) (d : Value) (hF : c.Fit) (hc : DatV m n d c.data) (hh : HeadP c) (hk : c.kind = 1) :
    Pure (callW PG E Y 20 [cmdV c d] m n) m n (.bool (validB c)) := by
  obtain ⟨f1, f2, f3, f4, f5, f6, f7, f8⟩ := hF
  have hNv : ∀ m n, Pure (callW PG E Y 33 [.string c.vol] m n) m n (.bool (nameB c.vol)) := fun m n => name_spec hN hT m n _ f6
  have hNo : ∀ m n, Pure (callW PG E Y 33 [.string c.oth] m n) m n (.bool (nameB c.oth)) := fun m n => name_spec hN hT m n _ f7
  have hIn : ∀ m n, Pure (callW PG E Y 34 [.int .i64 c.at_, .int .i64 c.len] m n) m n (.bool (decide (insideP c.at_ c.len))) := fun m n => inside_spec hI m n _ _ f4 f5
  have hOn : ∀ m n, Pure (callW PG E Y 32 [cmdV c d] m n) m n (.agg #[.int .i64 c.tag, .int .i64 c.kind, .int .i64 c.ord, .bool false, .string ⟨#[]⟩, .string ⟨#[]⟩, .int .i64 0, .int .i64 0, .slice none 0 0]) := fun m n => only_spec hO m n c d hc.one
  clear f1 f2 f3 f4 f5 f6 f7
  refine pure_spec hE rfl rfl ?_
  simp only [ac20, cmdV]
  rcases hh.2.2 with t4 | t4
  all_goals
    have t1 := hh.1
    have t2 := hh.2.1
    by_cases nv : NameP c.vol
    case neg =>
      rw [validB_f fun h => nv ((valid_1 hk).1 h).2.1]
      repeat (first | refine use_pure (hOn _ _) fun _ => ?_ | refine use_pure (hNv _ _) fun _ => ?_ | refine use_pure (hNo _ _) fun _ => ?_ | refine use_pure (hIn _ _) fun _ => ?_ | simp (implicitDefEqProofs := false) (disch := omega) only [WPs, opds, List.all_cons, List.all_nil, List.cons_append, List.nil_append, cond_true, cond_false, eq_self, List.map_cons, List.map_nil, Nat.reduceAdd, Nat.testBit, Nat.reduceShiftRight, Nat.reduceAnd, Nat.reduceBNe, Nat.reduceMul, hc.one, cells_of_one hc.one, hc.len, hc.bel, STs, Bool.not_true, Bool.not_false, nameB_f nv])
    by_cases hi : insideP c.at_ c.len
    case neg =>
      rw [validB_f fun h => hi ((valid_1 hk).1 h).2.2.2.2.2.1]
      repeat (first | refine use_pure (hOn _ _) fun _ => ?_ | refine use_pure (hNv _ _) fun _ => ?_ | refine use_pure (hNo _ _) fun _ => ?_ | refine use_pure (hIn _ _) fun _ => ?_ | simp (implicitDefEqProofs := false) (disch := omega) only [WPs, opds, List.all_cons, List.all_nil, List.cons_append, List.nil_append, cond_true, cond_false, eq_self, List.map_cons, List.map_nil, Nat.reduceAdd, Nat.testBit, Nat.reduceShiftRight, Nat.reduceAnd, Nat.reduceBNe, Nat.reduceMul, hc.one, cells_of_one hc.one, hc.len, hc.bel, STs, Bool.not_true, Bool.not_false, nameB_t nv, decide_eq_false hi])
    by_cases g5 : c.len ≤ 16
    case neg =>
      rw [validB_f fun h => g5 ((valid_1 hk).1 h).2.2.2.2.2.2]
      repeat (first | refine use_pure (hOn _ _) fun _ => ?_ | refine use_pure (hNv _ _) fun _ => ?_ | refine use_pure (hNo _ _) fun _ => ?_ | refine use_pure (hIn _ _) fun _ => ?_ | simp (implicitDefEqProofs := false) (disch := omega) only [WPs, opds, List.all_cons, List.all_nil, List.cons_append, List.nil_append, cond_true, cond_false, eq_self, List.map_cons, List.map_nil, Nat.reduceAdd, Nat.testBit, Nat.reduceShiftRight, Nat.reduceAnd, Nat.reduceBNe, Nat.reduceMul, hc.one, cells_of_one hc.one, hc.len, hc.bel, STs, Bool.not_true, Bool.not_false, nameB_t nv, decide_eq_true hi])
    rw [vs_1 hh hk nv hi g5]
    repeat (first | refine use_pure (hOn _ _) fun _ => ?_ | refine use_pure (hNv _ _) fun _ => ?_ | refine use_pure (hNo _ _) fun _ => ?_ | refine use_pure (hIn _ _) fun _ => ?_ | simp (implicitDefEqProofs := false) (disch := omega) only [WPs, opds, List.all_cons, List.all_nil, List.cons_append, List.nil_append, cond_true, cond_false, eq_self, List.map_cons, List.map_nil, Nat.reduceAdd, Nat.testBit, Nat.reduceShiftRight, Nat.reduceAnd, Nat.reduceBNe, Nat.reduceMul, hc.one, cells_of_one hc.one, hc.len, hc.bel, STs, Bool.not_true, Bool.not_false, nameB_t nv, decide_eq_true hi])
    refine use_pure (same_spec hS _ _ c (used1 c) d (.slice none 0 0) (hc.frame (by omega) fun b hb => by simp (implicitDefEqProofs := false) (disch := omega) only [WPs, opds, List.all_cons, List.all_nil, List.cons_append, List.nil_append, cond_true, cond_false, eq_self, List.map_cons, List.map_nil, Nat.reduceAdd, Nat.testBit, Nat.reduceShiftRight, Nat.reduceAnd, Nat.reduceBNe, Nat.reduceMul]) (DatV.nil _ _) f8 (Nat.zero_le _)) fun _ => ?_
    repeat (first | refine use_pure (hOn _ _) fun _ => ?_ | refine use_pure (hNv _ _) fun _ => ?_ | refine use_pure (hNo _ _) fun _ => ?_ | refine use_pure (hIn _ _) fun _ => ?_ | simp (implicitDefEqProofs := false) (disch := omega) only [WPs, opds, List.all_cons, List.all_nil, List.cons_append, List.nil_append, cond_true, cond_false, eq_self, List.map_cons, List.map_nil, Nat.reduceAdd, Nat.testBit, Nat.reduceShiftRight, Nat.reduceAnd, Nat.reduceBNe, Nat.reduceMul, hc.one, cells_of_one hc.one, hc.len, hc.bel, STs, Bool.not_true, Bool.not_false, nameB_t nv, decide_eq_true hi])
set_option maxHeartbeats 8000000 in
theorem cmdValid_2 (hE : E 20 = some ac20) (hN : E 33 = some ac33) (hT : Trims E Y) (hI : E 34 = some ac34) (hO : E 32 = some ac32) (hS : E 35 = some ac35) (m : FM) (n : Nat) (c : Cmd) (d : Value) (hF : c.Fit) (hc : DatV m n d c.data) (hh : HeadP c) (hk : c.kind = 2) :
    Pure (callW PG E Y 20 [cmdV c d] m n) m n (.bool (validB c)) := by
  obtain ⟨f1, f2, f3, f4, f5, f6, f7, f8⟩ := hF
  have hNv : ∀ m n, Pure (callW PG E Y 33 [.string c.vol] m n) m n (.bool (nameB c.vol)) := fun m n => name_spec hN hT m n _ f6
  have hNo : ∀ m n, Pure (callW PG E Y 33 [.string c.oth] m n) m n (.bool (nameB c.oth)) := fun m n => name_spec hN hT m n _ f7
  have hIn : ∀ m n, Pure (callW PG E Y 34 [.int .i64 c.at_, .int .i64 c.len] m n) m n (.bool (decide (insideP c.at_ c.len))) := fun m n => inside_spec hI m n _ _ f4 f5
  have hOn : ∀ m n, Pure (callW PG E Y 32 [cmdV c d] m n) m n (.agg #[.int .i64 c.tag, .int .i64 c.kind, .int .i64 c.ord, .bool false, .string ⟨#[]⟩, .string ⟨#[]⟩, .int .i64 0, .int .i64 0, .slice none 0 0]) := fun m n => only_spec hO m n c d hc.one
  clear f1 f2 f3 f4 f5 f6 f7
  refine pure_spec hE rfl rfl ?_
  simp only [ac20, cmdV]
  rcases hh.2.2 with t4 | t4
  all_goals
    have t1 := hh.1
    have t2 := hh.2.1
    by_cases nv : NameP c.vol
    case neg =>
      rw [validB_f fun h => nv ((valid_2 hk).1 h).2.1]
      repeat (first | refine use_pure (hOn _ _) fun _ => ?_ | refine use_pure (hNv _ _) fun _ => ?_ | refine use_pure (hNo _ _) fun _ => ?_ | refine use_pure (hIn _ _) fun _ => ?_ | simp (implicitDefEqProofs := false) (disch := omega) only [WPs, opds, List.all_cons, List.all_nil, List.cons_append, List.nil_append, cond_true, cond_false, eq_self, List.map_cons, List.map_nil, Nat.reduceAdd, Nat.testBit, Nat.reduceShiftRight, Nat.reduceAnd, Nat.reduceBNe, Nat.reduceMul, hc.one, cells_of_one hc.one, hc.len, hc.bel, STs, Bool.not_true, Bool.not_false, nameB_f nv])
    by_cases hi : insideP c.at_ c.len
    case neg =>
      rw [validB_f fun h => hi ((valid_2 hk).1 h).2.2.2.1]
      repeat (first | refine use_pure (hOn _ _) fun _ => ?_ | refine use_pure (hNv _ _) fun _ => ?_ | refine use_pure (hNo _ _) fun _ => ?_ | refine use_pure (hIn _ _) fun _ => ?_ | simp (implicitDefEqProofs := false) (disch := omega) only [WPs, opds, List.all_cons, List.all_nil, List.cons_append, List.nil_append, cond_true, cond_false, eq_self, List.map_cons, List.map_nil, Nat.reduceAdd, Nat.testBit, Nat.reduceShiftRight, Nat.reduceAnd, Nat.reduceBNe, Nat.reduceMul, hc.one, cells_of_one hc.one, hc.len, hc.bel, STs, Bool.not_true, Bool.not_false, nameB_t nv, decide_eq_false hi])
    by_cases g3 : c.len ≤ 16
    case neg =>
      rw [validB_f fun h => g3 ((valid_2 hk).1 h).2.2.2.2.1]
      repeat (first | refine use_pure (hOn _ _) fun _ => ?_ | refine use_pure (hNv _ _) fun _ => ?_ | refine use_pure (hNo _ _) fun _ => ?_ | refine use_pure (hIn _ _) fun _ => ?_ | simp (implicitDefEqProofs := false) (disch := omega) only [WPs, opds, List.all_cons, List.all_nil, List.cons_append, List.nil_append, cond_true, cond_false, eq_self, List.map_cons, List.map_nil, Nat.reduceAdd, Nat.testBit, Nat.reduceShiftRight, Nat.reduceAnd, Nat.reduceBNe, Nat.reduceMul, hc.one, cells_of_one hc.one, hc.len, hc.bel, STs, Bool.not_true, Bool.not_false, nameB_t nv, decide_eq_true hi])
    by_cases g4 : (c.data.length : Int) = c.len
    case neg =>
      rw [validB_f fun h => g4 ((valid_2 hk).1 h).2.2.2.2.2]
      repeat (first | refine use_pure (hOn _ _) fun _ => ?_ | refine use_pure (hNv _ _) fun _ => ?_ | refine use_pure (hNo _ _) fun _ => ?_ | refine use_pure (hIn _ _) fun _ => ?_ | simp (implicitDefEqProofs := false) (disch := omega) only [WPs, opds, List.all_cons, List.all_nil, List.cons_append, List.nil_append, cond_true, cond_false, eq_self, List.map_cons, List.map_nil, Nat.reduceAdd, Nat.testBit, Nat.reduceShiftRight, Nat.reduceAnd, Nat.reduceBNe, Nat.reduceMul, hc.one, cells_of_one hc.one, hc.len, hc.bel, STs, Bool.not_true, Bool.not_false, nameB_t nv, decide_eq_true hi])
    rw [vs_2 hh hk nv hi g3 g4]
    repeat (first | refine use_pure (hOn _ _) fun _ => ?_ | refine use_pure (hNv _ _) fun _ => ?_ | refine use_pure (hNo _ _) fun _ => ?_ | refine use_pure (hIn _ _) fun _ => ?_ | simp (implicitDefEqProofs := false) (disch := omega) only [WPs, opds, List.all_cons, List.all_nil, List.cons_append, List.nil_append, cond_true, cond_false, eq_self, List.map_cons, List.map_nil, Nat.reduceAdd, Nat.testBit, Nat.reduceShiftRight, Nat.reduceAnd, Nat.reduceBNe, Nat.reduceMul, hc.one, cells_of_one hc.one, hc.len, hc.bel, STs, Bool.not_true, Bool.not_false, nameB_t nv, decide_eq_true hi])
    refine use_pure (same_spec hS _ _ c (used2 c) d d (hc.frame (by omega) fun b hb => by simp (implicitDefEqProofs := false) (disch := omega) only [WPs, opds, List.all_cons, List.all_nil, List.cons_append, List.nil_append, cond_true, cond_false, eq_self, List.map_cons, List.map_nil, Nat.reduceAdd, Nat.testBit, Nat.reduceShiftRight, Nat.reduceAnd, Nat.reduceBNe, Nat.reduceMul]) (hc.frame (by omega) fun b hb => by simp (implicitDefEqProofs := false) (disch := omega) only [WPs, opds, List.all_cons, List.all_nil, List.cons_append, List.nil_append, cond_true, cond_false, eq_self, List.map_cons, List.map_nil, Nat.reduceAdd, Nat.testBit, Nat.reduceShiftRight, Nat.reduceAnd, Nat.reduceBNe, Nat.reduceMul]) f8 f8) fun _ => ?_
    repeat (first | refine use_pure (hOn _ _) fun _ => ?_ | refine use_pure (hNv _ _) fun _ => ?_ | refine use_pure (hNo _ _) fun _ => ?_ | refine use_pure (hIn _ _) fun _ => ?_ | simp (implicitDefEqProofs := false) (disch := omega) only [WPs, opds, List.all_cons, List.all_nil, List.cons_append, List.nil_append, cond_true, cond_false, eq_self, List.map_cons, List.map_nil, Nat.reduceAdd, Nat.testBit, Nat.reduceShiftRight, Nat.reduceAnd, Nat.reduceBNe, Nat.reduceMul, hc.one, cells_of_one hc.one, hc.len, hc.bel, STs, Bool.not_true, Bool.not_false, nameB_t nv, decide_eq_true hi])
end Go.Am.C39
namespace Go.Am.C39
set_option maxRecDepth 100000
open Go Go.Am
variable {E : Nat → Option AFn} {Y : Nat → List Value → FM → Nat → OR FM}
set_option maxHeartbeats 8000000 in
theorem cmdValid_3 (hE : E 20 = some ac20) (hN : E 33 = some ac33) (hT : Trims E Y) (hI : E 34 = some ac34) (hO : E 32 = some ac32) (hS : E 35 = some ac35) (m : FM) (n : Nat) (c : Cmd) (d : Value) (hF : c.Fit) (hc : DatV m n d c.data) (hh : HeadP c) (hk : c.kind = 3) :
    Pure (callW PG E Y 20 [cmdV c d] m n) m n (.bool (validB c)) := by
  obtain ⟨f1, f2, f3, f4, f5, f6, f7, f8⟩ := hF
  have hNv : ∀ m n, Pure (callW PG E Y 33 [.string c.vol] m n) m n (.bool (nameB c.vol)) := fun m n => name_spec hN hT m n _ f6
  have hNo : ∀ m n, Pure (callW PG E Y 33 [.string c.oth] m n) m n (.bool (nameB c.oth)) := fun m n => name_spec hN hT m n _ f7
  have hIn : ∀ m n, Pure (callW PG E Y 34 [.int .i64 c.at_, .int .i64 c.len] m n) m n (.bool (decide (insideP c.at_ c.len))) := fun m n => inside_spec hI m n _ _ f4 f5
  have hOn : ∀ m n, Pure (callW PG E Y 32 [cmdV c d] m n) m n (.agg #[.int .i64 c.tag, .int .i64 c.kind, .int .i64 c.ord, .bool false, .string ⟨#[]⟩, .string ⟨#[]⟩, .int .i64 0, .int .i64 0, .slice none 0 0]) := fun m n => only_spec hO m n c d hc.one
  clear f1 f2 f3 f4 f5 f6 f7
  refine pure_spec hE rfl rfl ?_
  simp only [ac20, cmdV]
  rcases hh.2.2 with t4 | t4
  all_goals
    have t1 := hh.1
    have t2 := hh.2.1
    by_cases nv : NameP c.vol
    case neg =>
      rw [validB_f fun h => nv ((valid_3 hk).1 h).2.1]
      repeat (first | refine use_pure (hOn _ _) fun _ => ?_ | refine use_pure (hNv _ _) fun _ => ?_ | refine use_pure (hNo _ _) fun _ => ?_ | refine use_pure (hIn _ _) fun _ => ?_ | simp (implicitDefEqProofs := false) (disch := omega) only [WPs, opds, List.all_cons, List.all_nil, List.cons_append, List.nil_append, cond_true, cond_false, eq_self, List.map_cons, List.map_nil, Nat.reduceAdd, Nat.testBit, Nat.reduceShiftRight, Nat.reduceAnd, Nat.reduceBNe, Nat.reduceMul, hc.one, hc.len, hc.bel, STs, Bool.not_true, Bool.not_false, nameB_f nv])
    by_cases hi : insideP c.at_ c.len
    case neg =>
      rw [validB_f fun h => hi ((valid_3 hk).1 h).2.2.2.2]
      repeat (first | refine use_pure (hOn _ _) fun _ => ?_ | refine use_pure (hNv _ _) fun _ => ?_ | refine use_pure (hNo _ _) fun _ => ?_ | refine use_pure (hIn _ _) fun _ => ?_ | simp (implicitDefEqProofs := false) (disch := omega) only [WPs, opds, List.all_cons, List.all_nil, List.cons_append, List.nil_append, cond_true, cond_false, eq_self, List.map_cons, List.map_nil, Nat.reduceAdd, Nat.testBit, Nat.reduceShiftRight, Nat.reduceAnd, Nat.reduceBNe, Nat.reduceMul, hc.one, hc.len, hc.bel, STs, Bool.not_true, Bool.not_false, nameB_t nv, decide_eq_false hi])
    rw [vs_3 hh hk nv hi]
    repeat (first | refine use_pure (hOn _ _) fun _ => ?_ | refine use_pure (hNv _ _) fun _ => ?_ | refine use_pure (hNo _ _) fun _ => ?_ | refine use_pure (hIn _ _) fun _ => ?_ | simp (implicitDefEqProofs := false) (disch := omega) only [WPs, opds, List.all_cons, List.all_nil, List.cons_append, List.nil_append, cond_true, cond_false, eq_self, List.map_cons, List.map_nil, Nat.reduceAdd, Nat.testBit, Nat.reduceShiftRight, Nat.reduceAnd, Nat.reduceBNe, Nat.reduceMul, hc.one, hc.len, hc.bel, STs, Bool.not_true, Bool.not_false, nameB_t nv, decide_eq_true hi])
    refine use_pure (same_spec hS _ _ c (used3 c) d (.slice none 0 0) (hc.frame (by omega) fun b hb => by simp (implicitDefEqProofs := false) (disch := omega) only [WPs, opds, List.all_cons, List.all_nil, List.cons_append, List.nil_append, cond_true, cond_false, eq_self, List.map_cons, List.map_nil, Nat.reduceAdd, Nat.testBit, Nat.reduceShiftRight, Nat.reduceAnd, Nat.reduceBNe, Nat.reduceMul]) (DatV.nil _ _) f8 (Nat.zero_le _)) fun _ => ?_
    repeat (first | refine use_pure (hOn _ _) fun _ => ?_ | refine use_pure (hNv _ _) fun _ => ?_ | refine use_pure (hNo _ _) fun _ => ?_ | refine use_pure (hIn _ _) fun _ => ?_ | simp (implicitDefEqProofs := false) (disch := omega) only [WPs, opds, List.all_cons, List.all_nil, List.cons_append, List.nil_append, cond_true, cond_false, eq_self, List.map_cons, List.map_nil, Nat.reduceAdd, Nat.testBit, Nat.reduceShiftRight, Nat.reduceAnd, Nat.reduceBNe, Nat.reduceMul, hc.one, hc.len, hc.bel, STs, Bool.not_true, Bool.not_false, nameB_t nv, decide_eq_true hi])
set_option maxHeartbeats 8000000 in
theorem cmdValid_4 (hE : E 20 = some ac20) (hN : E 33 = some ac33) (hT : Trims E Y) (hI : E 34 = some ac34) (hO : E 32 = some ac32) (hS : E 35 = some ac35) (m : FM) (n : Nat) (c : Cmd) (d : Value) (hF : c.Fit) (hc : DatV m n d c.data) (hh : HeadP c) (hk : c.kind = 4) :
    Pure (callW PG E Y 20 [cmdV c d] m n) m n (.bool (validB c)) := by
  obtain ⟨f1, f2, f3, f4, f5, f6, f7, f8⟩ := hF
  have hNv : ∀ m n, Pure (callW PG E Y 33 [.string c.vol] m n) m n (.bool (nameB c.vol)) := fun m n => name_spec hN hT m n _ f6
  have hNo : ∀ m n, Pure (callW PG E Y 33 [.string c.oth] m n) m n (.bool (nameB c.oth)) := fun m n => name_spec hN hT m n _ f7
  have hIn : ∀ m n, Pure (callW PG E Y 34 [.int .i64 c.at_, .int .i64 c.len] m n) m n (.bool (decide (insideP c.at_ c.len))) := fun m n => inside_spec hI m n _ _ f4 f5
  have hOn : ∀ m n, Pure (callW PG E Y 32 [cmdV c d] m n) m n (.agg #[.int .i64 c.tag, .int .i64 c.kind, .int .i64 c.ord, .bool false, .string ⟨#[]⟩, .string ⟨#[]⟩, .int .i64 0, .int .i64 0, .slice none 0 0]) := fun m n => only_spec hO m n c d hc.one
  clear f1 f2 f3 f4 f5 f6 f7
  refine pure_spec hE rfl rfl ?_
  simp only [ac20, cmdV]
  rcases hh.2.2 with t4 | t4
  all_goals
    have t1 := hh.1
    have t2 := hh.2.1
    by_cases hv : c.vol = ⟨#[]⟩
    case neg =>
      rw [validB_f fun h => hv ((valid_4 hk).1 h).2.1]
      repeat (first | refine use_pure (hOn _ _) fun _ => ?_ | refine use_pure (hNv _ _) fun _ => ?_ | refine use_pure (hNo _ _) fun _ => ?_ | refine use_pure (hIn _ _) fun _ => ?_ | simp (implicitDefEqProofs := false) (disch := omega) only [WPs, opds, List.all_cons, List.all_nil, List.cons_append, List.nil_append, cond_true, cond_false, eq_self, List.map_cons, List.map_nil, Nat.reduceAdd, Nat.testBit, Nat.reduceShiftRight, Nat.reduceAnd, Nat.reduceBNe, Nat.reduceMul, hc.one, hc.len, hc.bel, STs, Bool.not_true, Bool.not_false, decide_eq_false hv])
    rw [vs_4 hh hk hv]
    repeat (first | refine use_pure (hOn _ _) fun _ => ?_ | refine use_pure (hNv _ _) fun _ => ?_ | refine use_pure (hNo _ _) fun _ => ?_ | refine use_pure (hIn _ _) fun _ => ?_ | simp (implicitDefEqProofs := false) (disch := omega) only [WPs, opds, List.all_cons, List.all_nil, List.cons_append, List.nil_append, cond_true, cond_false, eq_self, List.map_cons, List.map_nil, Nat.reduceAdd, Nat.testBit, Nat.reduceShiftRight, Nat.reduceAnd, Nat.reduceBNe, Nat.reduceMul, hc.one, hc.len, hc.bel, STs, Bool.not_true, Bool.not_false, decide_eq_true hv])
    refine use_pure (same_spec hS _ _ c (used4 c) d (.slice none 0 0) (hc.frame (by omega) fun b hb => by simp (implicitDefEqProofs := false) (disch := omega) only [WPs, opds, List.all_cons, List.all_nil, List.cons_append, List.nil_append, cond_true, cond_false, eq_self, List.map_cons, List.map_nil, Nat.reduceAdd, Nat.testBit, Nat.reduceShiftRight, Nat.reduceAnd, Nat.reduceBNe, Nat.reduceMul]) (DatV.nil _ _) f8 (Nat.zero_le _)) fun _ => ?_
    repeat (first | refine use_pure (hOn _ _) fun _ => ?_ | refine use_pure (hNv _ _) fun _ => ?_ | refine use_pure (hNo _ _) fun _ => ?_ | refine use_pure (hIn _ _) fun _ => ?_ | simp (implicitDefEqProofs := false) (disch := omega) only [WPs, opds, List.all_cons, List.all_nil, List.cons_append, List.nil_append, cond_true, cond_false, eq_self, List.map_cons, List.map_nil, Nat.reduceAdd, Nat.testBit, Nat.reduceShiftRight, Nat.reduceAnd, Nat.reduceBNe, Nat.reduceMul, hc.one, hc.len, hc.bel, STs, Bool.not_true, Bool.not_false, decide_eq_true hv])
end Go.Am.C39
namespace Go.Am.C39
set_option maxRecDepth 100000
open Go Go.Am
variable {E : Nat → Option AFn} {Y : Nat → List Value → FM → Nat → OR FM}
set_option maxHeartbeats 8000000 in
theorem cmdValid_5 (hE : E 20 = some ac20) (hN : E 33 = some ac33) (hT : Trims E Y) (hI : E 34 = some ac34) (hO : E 32 = some ac32) (hS : E 35 = some ac35) (m : FM) (n : Nat) (c : Cmd) (d : Value) (hF : c.Fit) (hc : DatV m n d c.data) (hh : HeadP c) (hk : c.kind = 5) :
    Pure (callW PG E Y 20 [cmdV c d] m n) m n (.bool (validB c)) := by
  obtain ⟨f1, f2, f3, f4, f5, f6, f7, f8⟩ := hF
  have hNv : ∀ m n, Pure (callW PG E Y 33 [.string c.vol] m n) m n (.bool (nameB c.vol)) := fun m n => name_spec hN hT m n _ f6
  have hNo : ∀ m n, Pure (callW PG E Y 33 [.string c.oth] m n) m n (.bool (nameB c.oth)) := fun m n => name_spec hN hT m n _ f7
  have hIn : ∀ m n, Pure (callW PG E Y 34 [.int .i64 c.at_, .int .i64 c.len] m n) m n (.bool (decide (insideP c.at_ c.len))) := fun m n => inside_spec hI m n _ _ f4 f5
  have hOn : ∀ m n, Pure (callW PG E Y 32 [cmdV c d] m n) m n (.agg #[.int .i64 c.tag, .int .i64 c.kind, .int .i64 c.ord, .bool false, .string ⟨#[]⟩, .string ⟨#[]⟩, .int .i64 0, .int .i64 0, .slice none 0 0]) := fun m n => only_spec hO m n c d hc.one
  clear f1 f2 f3 f4 f5 f6 f7
  refine pure_spec hE rfl rfl ?_
  simp only [ac20, cmdV]
  rcases hh.2.2 with t4 | t4
  all_goals
    have t1 := hh.1
    have t2 := hh.2.1
    by_cases nv : NameP c.vol
    case neg =>
      rw [validB_f fun h => nv ((valid_5 hk).1 h).2.1]
      repeat (first | refine use_pure (hOn _ _) fun _ => ?_ | refine use_pure (hNv _ _) fun _ => ?_ | refine use_pure (hNo _ _) fun _ => ?_ | refine use_pure (hIn _ _) fun _ => ?_ | simp (implicitDefEqProofs := false) (disch := omega) only [WPs, opds, List.all_cons, List.all_nil, List.cons_append, List.nil_append, cond_true, cond_false, eq_self, List.map_cons, List.map_nil, Nat.reduceAdd, Nat.testBit, Nat.reduceShiftRight, Nat.reduceAnd, Nat.reduceBNe, Nat.reduceMul, hc.one, hc.len, hc.bel, STs, Bool.not_true, Bool.not_false, nameB_f nv])
    by_cases g4 : 1 ≤ c.len
    case neg =>
      rw [validB_f fun h => g4 ((valid_5 hk).1 h).2.2.2.2.2.1]
      repeat (first | refine use_pure (hOn _ _) fun _ => ?_ | refine use_pure (hNv _ _) fun _ => ?_ | refine use_pure (hNo _ _) fun _ => ?_ | refine use_pure (hIn _ _) fun _ => ?_ | simp (implicitDefEqProofs := false) (disch := omega) only [WPs, opds, List.all_cons, List.all_nil, List.cons_append, List.nil_append, cond_true, cond_false, eq_self, List.map_cons, List.map_nil, Nat.reduceAdd, Nat.testBit, Nat.reduceShiftRight, Nat.reduceAnd, Nat.reduceBNe, Nat.reduceMul, hc.one, hc.len, hc.bel, STs, Bool.not_true, Bool.not_false, nameB_t nv])
    by_cases g5 : c.len ≤ 65536
    case neg =>
      rw [validB_f fun h => g5 ((valid_5 hk).1 h).2.2.2.2.2.2.1]
      repeat (first | refine use_pure (hOn _ _) fun _ => ?_ | refine use_pure (hNv _ _) fun _ => ?_ | refine use_pure (hNo _ _) fun _ => ?_ | refine use_pure (hIn _ _) fun _ => ?_ | simp (implicitDefEqProofs := false) (disch := omega) only [WPs, opds, List.all_cons, List.all_nil, List.cons_append, List.nil_append, cond_true, cond_false, eq_self, List.map_cons, List.map_nil, Nat.reduceAdd, Nat.testBit, Nat.reduceShiftRight, Nat.reduceAnd, Nat.reduceBNe, Nat.reduceMul, hc.one, hc.len, hc.bel, STs, Bool.not_true, Bool.not_false, nameB_t nv])
    by_cases g6 : 0 ≤ c.at_
    case neg =>
      rw [validB_f fun h => g6 ((valid_5 hk).1 h).2.2.2.2.2.2.2.1]
      repeat (first | refine use_pure (hOn _ _) fun _ => ?_ | refine use_pure (hNv _ _) fun _ => ?_ | refine use_pure (hNo _ _) fun _ => ?_ | refine use_pure (hIn _ _) fun _ => ?_ | simp (implicitDefEqProofs := false) (disch := omega) only [WPs, opds, List.all_cons, List.all_nil, List.cons_append, List.nil_append, cond_true, cond_false, eq_self, List.map_cons, List.map_nil, Nat.reduceAdd, Nat.testBit, Nat.reduceShiftRight, Nat.reduceAnd, Nat.reduceBNe, Nat.reduceMul, hc.one, hc.len, hc.bel, STs, Bool.not_true, Bool.not_false, nameB_t nv])
    by_cases g7 : c.at_ ≤ c.len
    case neg =>
      rw [validB_f fun h => g7 ((valid_5 hk).1 h).2.2.2.2.2.2.2.2]
      repeat (first | refine use_pure (hOn _ _) fun _ => ?_ | refine use_pure (hNv _ _) fun _ => ?_ | refine use_pure (hNo _ _) fun _ => ?_ | refine use_pure (hIn _ _) fun _ => ?_ | simp (implicitDefEqProofs := false) (disch := omega) only [WPs, opds, List.all_cons, List.all_nil, List.cons_append, List.nil_append, cond_true, cond_false, eq_self, List.map_cons, List.map_nil, Nat.reduceAdd, Nat.testBit, Nat.reduceShiftRight, Nat.reduceAnd, Nat.reduceBNe, Nat.reduceMul, hc.one, hc.len, hc.bel, STs, Bool.not_true, Bool.not_false, nameB_t nv])
    rw [vs_5 hh hk nv g4 g5 g6 g7]
    repeat (first | refine use_pure (hOn _ _) fun _ => ?_ | refine use_pure (hNv _ _) fun _ => ?_ | refine use_pure (hNo _ _) fun _ => ?_ | refine use_pure (hIn _ _) fun _ => ?_ | simp (implicitDefEqProofs := false) (disch := omega) only [WPs, opds, List.all_cons, List.all_nil, List.cons_append, List.nil_append, cond_true, cond_false, eq_self, List.map_cons, List.map_nil, Nat.reduceAdd, Nat.testBit, Nat.reduceShiftRight, Nat.reduceAnd, Nat.reduceBNe, Nat.reduceMul, hc.one, hc.len, hc.bel, STs, Bool.not_true, Bool.not_false, nameB_t nv])
    refine use_pure (same_spec hS _ _ c (used5 c) d (.slice none 0 0) (hc.frame (by omega) fun b hb => by simp (implicitDefEqProofs := false) (disch := omega) only [WPs, opds, List.all_cons, List.all_nil, List.cons_append, List.nil_append, cond_true, cond_false, eq_self, List.map_cons, List.map_nil, Nat.reduceAdd, Nat.testBit, Nat.reduceShiftRight, Nat.reduceAnd, Nat.reduceBNe, Nat.reduceMul]) (DatV.nil _ _) f8 (Nat.zero_le _)) fun _ => ?_
    repeat (first | refine use_pure (hOn _ _) fun _ => ?_ | refine use_pure (hNv _ _) fun _ => ?_ | refine use_pure (hNo _ _) fun _ => ?_ | refine use_pure (hIn _ _) fun _ => ?_ | simp (implicitDefEqProofs := false) (disch := omega) only [WPs, opds, List.all_cons, List.all_nil, List.cons_append, List.nil_append, cond_true, cond_false, eq_self, List.map_cons, List.map_nil, Nat.reduceAdd, Nat.testBit, Nat.reduceShiftRight, Nat.reduceAnd, Nat.reduceBNe, Nat.reduceMul, hc.one, hc.len, hc.bel, STs, Bool.not_true, Bool.not_false, nameB_t nv])
end Go.Am.C39
