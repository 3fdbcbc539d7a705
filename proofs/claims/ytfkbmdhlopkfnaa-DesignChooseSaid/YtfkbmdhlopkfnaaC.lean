/- The machine and its runs, part C: Am07sj2 Am07sk Am07sok. -/
import Derived.Test.YtfkbmdhlopkfnaaB16
import Derived.Test.YtfkbmdhlopkfnaaE
set_option linter.unusedVariables false
set_option linter.unusedSimpArgs false
set_option linter.unusedSectionVars false
namespace Go.Am.C07
open Go Go.Am
set_option maxRecDepth 1000000
variable {E : Nat → Option AFn} {Y : Nat → List Value → FM → Nat → OR FM}
theorem aff2 : affR A2 T2 2 = refAff A2 T2 2 := by decide +kernel
theorem aff3 : affR A3 T3 3 = refAff A3 T3 3 := by decide +kernel
theorem aff4 : affR A4 T4 4 = refAff A4 T4 4 := by decide +kernel
theorem aff5 : affR A5 T5 5 = refAff A5 T5 5 := by decide +kernel
theorem aff7 : affR A7 T7 7 = refAff A7 T7 7 := by decide +kernel
theorem pts2 : ptsR 2 T2 = Co2 := by decide +kernel
theorem pts3 : ptsR 3 T3 = Co3 := by decide +kernel
theorem pts4 : ptsR 4 T4 = Co4 := by decide +kernel
theorem pts5 : ptsR 5 T5 = Co5 := by decide +kernel
theorem pts7 : ptsR 7 T7 = Co7 := by decide +kernel
def allLtP (q : Nat) (ps : List P3) : Bool := ps.all fun r => decide (r.x < q) && (decide (r.y < q) && decide (r.z < q))
theorem lt_of_all {q : Nat} {ps : List P3} (h : allLtP q ps = true) : ∀ r ∈ ps, r.lt q := by
  unfold allLtP at h
  simp only [List.all_eq_true, Bool.and_eq_true, decide_eq_true_eq] at h
  exact h
theorem pts_lt {q : Nat} {A T : Tab} (h : Sm q A T) : ∀ r ∈ ptsR q T, r.lt q := by
  obtain ⟨hs, h7, h2⟩ := h
  cases hs
  · rw [pts2]; exact lt_of_all (by kernel_rfl)
  · rw [pts3]; exact lt_of_all (by kernel_rfl)
  · rw [pts4]; exact lt_of_all (by kernel_rfl)
  · rw [pts5]; exact lt_of_all (by kernel_rfl)
  · rw [pts7]; exact lt_of_all (by kernel_rfl)
  · omega
  · omega
theorem rproj_spec (T : En E Y) {q : Nat} {A M : Tab} (hs : Sm q A M) (m : FM) (n : Nat) : Rt (callW PG E Y 29 [.int .i64 (q : Int)] m n) (Kpt m n fun v M' N' => DesV M' n N' v ((q * q + q + 1 : Nat) : Int) (projR A M (ptsR q M))) := by
  have hC : ∀ m n, Rt (callW PG E Y 39 [.int .i64 (q : Int)] m n) (Kpt m n fun v M' N' => SlZ 3 M' n N' v (ptsR q M).length (ptCells (ptsR q M))) := by
    obtain ⟨hq, h7, h2⟩ := hs
    cases hq
    · exact coR_of T.e39 (by decide) pts2 T.co2
    · exact coR_of T.e39 (by decide) pts3 T.co3
    · exact coR_of T.e39 (by decide) pts4 T.co4
    · exact coR_of T.e39 (by decide) pts5 T.co5
    · exact coR_of T.e39 (by decide) pts7 T.co7
    · omega
    · omega
  have h := refProj_spec (Y := Y) T.e29 hs.size.good (T.ar hs) (ps := ptsR q M) (by rw [pts_len hs]; have := Nat.mul_le_mul hs.le hs.le; have := hs.le; omega) (by rw [pts_len hs]; omega) (pts_lt hs) m n hC
  rw [pts_len hs] at h
  exact h
theorem raff_spec (T : En E Y) {q : Nat} {A M : Tab} (hs : Sm q A M) (m : FM) (n : Nat) : Rt (callW PG E Y 30 [.int .i64 (q : Int)] m n) (Kpt m n fun v M' N' => DesV M' n N' v ((q * q : Nat) : Int) (affR A M q)) := by
  have h := refAff_spec (Y := Y) T.e30 hs.size.good (T.ar hs) hs.ge hs.le m n
  have e : affR A M q = refAff A M q := by
    obtain ⟨hq, h7, h2⟩ := hs
    cases hq
    · exact aff2
    · exact aff3
    · exact aff4
    · exact aff5
    · exact aff7
    · omega
    · omega
  rw [e]
  exact h
theorem rchoose_bad (T : En E Y) {D w : Int} (h : ¬ ChOk D w) (m : FM) (n : Nat) : ChR E Y 19 D w 1 0 [] m n := by
  refine kept_specQ T.e19 rfl fun Q hQ => ?_
  simp only [ac19]
  unfold ChOk at h
  have fza : Nat.mod (bit n) (bit n) = 0 := frz_bit (Nat.le_refl _)
  have hq : ∀ (M : FM) (N w2 : Nat) (e : List Value), n ≤ N → (∀ b, b < n → M b = m b) → Nat.mod w2 (bit n) = 0 → Q (.ret (.tuple #[.agg #[.int .i64 0, .slice none 0 0], .int .i64 1])) e M N w2 := fun M N w2 e h1 h2 h3 =>
    hQ _ _ _ _ _ h1 h2 h3 rfl ⟨_, rfl, _, rfl, RowsZ.rows (RowsZ.nil M N N)⟩
  by_cases h1 : w < 4
  · simp (implicitDefEqProofs := false) (disch := omega) only [W2, opds, Nat.testBit, Nat.reduceAdd, Nat.reduceShiftRight, Nat.reduceAnd, Nat.reduceBNe, Nat.reduceMul, fput_same]
    exact hq _ _ _ _ (by omega) (fun b hb => fput_ne _ _ _ _ (by omega)) (by simp only [frz_iff]; exact ⟨fza, fza⟩)
  by_cases h2 : 16 < w
  · simp (implicitDefEqProofs := false) (disch := omega) only [W2, opds, Nat.testBit, Nat.reduceAdd, Nat.reduceShiftRight, Nat.reduceAnd, Nat.reduceBNe, Nat.reduceMul, fput_same]
    exact hq _ _ _ _ (by omega) (fun b hb => fput_ne _ _ _ _ (by omega)) (by simp only [frz_iff]; exact ⟨fza, fza⟩)
  by_cases h3 : D < w
  · simp (implicitDefEqProofs := false) (disch := omega) only [W2, opds, Nat.testBit, Nat.reduceAdd, Nat.reduceShiftRight, Nat.reduceAnd, Nat.reduceBNe, Nat.reduceMul, fput_same]
    exact hq _ _ _ _ (by omega) (fun b hb => fput_ne _ _ _ _ (by omega)) (by simp only [frz_iff]; exact ⟨fza, fza⟩)
  have h4 : 60 < D := by omega
  simp (implicitDefEqProofs := false) (disch := omega) only [W2, opds, Nat.testBit, Nat.reduceAdd, Nat.reduceShiftRight, Nat.reduceAnd, Nat.reduceBNe, Nat.reduceMul, fput_same]
  exact hq _ _ _ _ (by omega) (fun b hb => fput_ne _ _ _ _ (by omega)) (by simp only [frz_iff]; exact ⟨fza, fza⟩)
def szN : List Nat := [2, 3, 4, 5, 7]
def szI : List Int := [2, 3, 4, 5, 7]
theorem sz_get {j : Nat} (h : j < 5) : ∃ q : Nat, q ≤ 7 ∧ szI[j]? = some (q : Int) ∧ szN[j]? = some q := by
  match j, h with
  | 0, _ => exact ⟨2, by omega, rfl, rfl⟩
  | 1, _ => exact ⟨3, by omega, rfl, rfl⟩
  | 2, _ => exact ⟨4, by omega, rfl, rfl⟩
  | 3, _ => exact ⟨5, by omega, rfl, rfl⟩
  | 4, _ => exact ⟨7, by omega, rfl, rfl⟩
theorem sz_mem {q : Nat} (h : q ∈ szN) : ∃ A M, Sm q A M := by
  unfold szN at h
  simp only [List.mem_cons, List.not_mem_nil, or_false] at h
  rcases h with rfl | rfl | rfl | rfl | rfl
  · exact ⟨_, _, .s2, by omega, by omega⟩
  · exact ⟨_, _, .s3, by omega, by omega⟩
  · exact ⟨_, _, .s4, by omega, by omega⟩
  · exact ⟨_, _, .s5, by omega, by omega⟩
  · exact ⟨_, _, .s7, by omega, by omega⟩
theorem mem_sz {q : Nat} {A M : Tab} (h : Sm q A M) : q ∈ szN := by
  obtain ⟨hs, h7, h2⟩ := h
  unfold szN
  cases hs <;> first | (simp; done) | omega
theorem rch_L0 (T : En E Y) {M : FM} {N sb rb D w : Nat} (hw : w ≤ 60) (hD : D ≤ 60) (hsb : sb < N) (hrb : rb < N) (hM : M sb = some (.cells (szI.map (Value.int .i64)) 1 false true)) (hr : M rb = some (.cells [.int .i64 0, .slice none 0 0] 0 false true)) (x0 y2 y4 y5 : Value) (ys : List Value) {Q : AX → List Value → FM → Nat → Nat → Prop}
    (hRet : ∀ q A M0, Sm q A M0 → D = q * q + q + 1 → w = q + 1 → ∀ rv M' N' w1 e, N ≤ N' → (∀ b, b < N → b ≠ rb → M' b = M b) → (∀ j, j ≤ rb → Nat.mod w1 (bit j) = 0) → Rows M' N' rv (projR A M0 (ptsR q M0)) → Q (.ret (.tuple #[.agg #[.int .i64 (D : Int), rv], .int .i64 0])) e M' N' w1)
    (hEx : (∀ q ∈ szN, ¬ (D = q * q + q + 1 ∧ w = q + 1)) → Q (.exit 0) (x0 :: y2 :: .slice (some ⟨sb, 0, none⟩) 5 5 :: y4 :: y5 :: .pointer (some ⟨rb, 0, none⟩) :: .int .i64 (D : Int) :: .int .i64 (w : Int) :: ys) M N 0) :
    ∀ d j : Nat, j + d = 5 → (∀ i q : Nat, i < j → szN[i]? = some q → ¬ (D = q * q + q + 1 ∧ w = q + 1)) → Gv (execW PG E Y ac19L0 (x0 :: .int .i64 (j : Int) :: y2 :: .slice (some ⟨sb, 0, none⟩) 5 5 :: y4 :: y5 :: .pointer (some ⟨rb, 0, none⟩) :: .int .i64 (D : Int) :: .int .i64 (w : Int) :: ys) M N) Q := by
  intro d
  induction d with
  | zero =>
    intro j hj hn
    obtain rfl : j = 5 := by omega
    refine wr_loopN (L := ac19L0) (b := ac19L0b) rfl ?_
    simp only [ac19L0b]
    simp (implicitDefEqProofs := false) (disch := omega) only [W2, opds, Nat.testBit, Nat.reduceAdd, Nat.reduceShiftRight, Nat.reduceAnd, Nat.reduceBNe, Nat.reduceMul]
    refine hEx fun q hq hh => ?_
    obtain ⟨i, hi, he⟩ := List.getElem_of_mem hq
    exact hn i q hi (by rw [List.getElem?_eq_getElem hi, he]) hh
  | succ d ih =>
    intro j hj hn
    obtain ⟨q, hq7, g1, g2⟩ := sz_get (j := j) (by omega)
    have hqq : q * q ≤ 7 * 7 := Nat.mul_le_mul hq7 hq7
    refine wr_loopN (L := ac19L0) (b := ac19L0b) rfl ?_
    simp only [ac19L0b]
    by_cases hm : D = q * q + q + 1 ∧ w = q + 1
    · obtain ⟨hm1, hm2⟩ := hm
      obtain ⟨A, M0, hs⟩ := sz_mem (List.mem_of_getElem? g2)
      have hf := rproj_spec T hs
      rw [← hm1] at hf
      have e1 : D = q * q + (q + 1) := by omega
      simp (implicitDefEqProofs := false) (disch := omega) only [W2, opds, Nat.testBit, Nat.reduceAdd, Nat.reduceShiftRight, Nat.reduceAnd, Nat.reduceBNe, Nat.reduceMul, hM, cg_int g1, decide_eq_true e1, decide_eq_true hm2]
      refine use_rt (hf _ _) fun v M1 N1 r1 w1 ⟨n1, m1, f1, rv, hd, hZ⟩ => ?_
      subst hd
      have o1 := hZ.one
      have k1 := (m1 rb hrb).trans hr
      simp (implicitDefEqProofs := false) (disch := omega) only [W2, opds, Nat.testBit, Nat.reduceAdd, Nat.reduceShiftRight, Nat.reduceAnd, Nat.reduceBNe, Nat.reduceMul, o1, k1]
      refine hRet q A M0 hs hm1 hm2 _ _ _ _ _ (by omega) (fun b hb hne => by rw [fput_ne _ _ _ _ hne, m1 b (by omega)]) (fun j hj => ?_) (RowsZ.frame hZ (by omega) fun b h1 h2 => by rw [fput_ne _ _ _ _ (by omega)]).rows
      simp only [frz_iff]
      exact ⟨f1 j (by omega), frz_bit hj⟩
    · have hn' : ∀ i q : Nat, i < j + 1 → szN[i]? = some q → ¬ (D = q * q + q + 1 ∧ w = q + 1) := fun i q' hi hg => by
        by_cases hij : i < j
        · exact hn i q' hij hg
        · obtain rfl : i = j := by omega
          rw [g2] at hg
          cases hg
          exact hm
      by_cases e1 : D = q * q + (q + 1)
      · have e2 : ¬ w = q + 1 := fun h => hm ⟨by omega, h⟩
        simp (implicitDefEqProofs := false) (disch := omega) only [W2, opds, Nat.testBit, Nat.reduceAdd, Nat.reduceShiftRight, Nat.reduceAnd, Nat.reduceBNe, Nat.reduceMul, hM, cg_int g1, decide_eq_true e1, decide_eq_false e2]
        exact wr_end (ih (j + 1) (by omega) hn') fun X e m n w hq => by simpa only [zero_lor'] using hq
      · simp (implicitDefEqProofs := false) (disch := omega) only [W2, opds, Nat.testBit, Nat.reduceAdd, Nat.reduceShiftRight, Nat.reduceAnd, Nat.reduceBNe, Nat.reduceMul, hM, cg_int g1, decide_eq_false e1]
        exact wr_end (ih (j + 1) (by omega) hn') fun X e m n w hq => by simpa only [zero_lor'] using hq
theorem rch_L1 (T : En E Y) {M : FM} {N sb rb D w : Nat} (hw : w ≤ 60) (hD : D ≤ 60) (hsb : sb < N) (hrb : rb < N) (hM : M sb = some (.cells (szI.map (Value.int .i64)) 1 false true)) (hr : M rb = some (.cells [.int .i64 0, .slice none 0 0] 0 false true)) (x0 y2 y3 z4 y4 y5 : Value) (ys : List Value) {Q : AX → List Value → FM → Nat → Nat → Prop}
    (hRet : ∀ q A M0, Sm q A M0 → D = q * q → w = q → ∀ rv M' N' w1 e, N ≤ N' → (∀ b, b < N → b ≠ rb → M' b = M b) → (∀ j, j ≤ rb → Nat.mod w1 (bit j) = 0) → Rows M' N' rv (affR A M0 q) → Q (.ret (.tuple #[.agg #[.int .i64 (D : Int), rv], .int .i64 0])) e M' N' w1)
    (hEx : (∀ q ∈ szN, ¬ (D = q * q ∧ w = q)) → Q (.exit 2) (x0 :: y2 :: y3 :: z4 :: .slice (some ⟨sb, 0, none⟩) 5 5 :: y4 :: y5 :: .pointer (some ⟨rb, 0, none⟩) :: .int .i64 (D : Int) :: .int .i64 (w : Int) :: ys) M N 0) :
    ∀ d j : Nat, j + d = 5 → (∀ i q : Nat, i < j → szN[i]? = some q → ¬ (D = q * q ∧ w = q)) → Gv (execW PG E Y ac19L1 (x0 :: .int .i64 (j : Int) :: y2 :: y3 :: z4 :: .slice (some ⟨sb, 0, none⟩) 5 5 :: y4 :: y5 :: .pointer (some ⟨rb, 0, none⟩) :: .int .i64 (D : Int) :: .int .i64 (w : Int) :: ys) M N) Q := by
  intro d
  induction d with
  | zero =>
    intro j hj hn
    obtain rfl : j = 5 := by omega
    refine wr_loopN (L := ac19L1) (b := ac19L1b) rfl ?_
    simp only [ac19L1b]
    simp (implicitDefEqProofs := false) (disch := omega) only [W2, opds, Nat.testBit, Nat.reduceAdd, Nat.reduceShiftRight, Nat.reduceAnd, Nat.reduceBNe, Nat.reduceMul]
    refine hEx fun q hq hh => ?_
    obtain ⟨i, hi, he⟩ := List.getElem_of_mem hq
    exact hn i q hi (by rw [List.getElem?_eq_getElem hi, he]) hh
  | succ d ih =>
    intro j hj hn
    obtain ⟨q, hq7, g1, g2⟩ := sz_get (j := j) (by omega)
    have hqq : q * q ≤ 7 * 7 := Nat.mul_le_mul hq7 hq7
    refine wr_loopN (L := ac19L1) (b := ac19L1b) rfl ?_
    simp only [ac19L1b]
    by_cases hm : D = q * q ∧ w = q
    · obtain ⟨hm1, hm2⟩ := hm
      obtain ⟨A, M0, hs⟩ := sz_mem (List.mem_of_getElem? g2)
      have hf := raff_spec T hs
      rw [← hm1] at hf
      have e1 : D = q * q := by omega
      simp (implicitDefEqProofs := false) (disch := omega) only [W2, opds, Nat.testBit, Nat.reduceAdd, Nat.reduceShiftRight, Nat.reduceAnd, Nat.reduceBNe, Nat.reduceMul, hM, cg_int g1, decide_eq_true e1, decide_eq_true hm2]
      refine use_rt (hf _ _) fun v M1 N1 r1 w1 ⟨n1, m1, f1, rv, hd, hZ⟩ => ?_
      subst hd
      have o1 := hZ.one
      have k1 := (m1 rb hrb).trans hr
      simp (implicitDefEqProofs := false) (disch := omega) only [W2, opds, Nat.testBit, Nat.reduceAdd, Nat.reduceShiftRight, Nat.reduceAnd, Nat.reduceBNe, Nat.reduceMul, o1, k1]
      refine hRet q A M0 hs hm1 hm2 _ _ _ _ _ (by omega) (fun b hb hne => by rw [fput_ne _ _ _ _ hne, m1 b (by omega)]) (fun j hj => ?_) (RowsZ.frame hZ (by omega) fun b h1 h2 => by rw [fput_ne _ _ _ _ (by omega)]).rows
      simp only [frz_iff]
      exact ⟨f1 j (by omega), frz_bit hj⟩
    · have hn' : ∀ i q : Nat, i < j + 1 → szN[i]? = some q → ¬ (D = q * q ∧ w = q) := fun i q' hi hg => by
        by_cases hij : i < j
        · exact hn i q' hij hg
        · obtain rfl : i = j := by omega
          rw [g2] at hg
          cases hg
          exact hm
      by_cases e1 : D = q * q
      · have e2 : ¬ w = q := fun h => hm ⟨by omega, h⟩
        simp (implicitDefEqProofs := false) (disch := omega) only [W2, opds, Nat.testBit, Nat.reduceAdd, Nat.reduceShiftRight, Nat.reduceAnd, Nat.reduceBNe, Nat.reduceMul, hM, cg_int g1, decide_eq_true e1, decide_eq_false e2]
        exact wr_end (ih (j + 1) (by omega) hn') fun X e m n w hq => by simpa only [zero_lor'] using hq
      · simp (implicitDefEqProofs := false) (disch := omega) only [W2, opds, Nat.testBit, Nat.reduceAdd, Nat.reduceShiftRight, Nat.reduceAnd, Nat.reduceBNe, Nat.reduceMul, hM, cg_int g1, decide_eq_false e1]
        exact wr_end (ih (j + 1) (by omega) hn') fun X e m n w hq => by simpa only [zero_lor'] using hq
theorem Sm.uniq {q : Nat} {A M A' M' : Tab} (h : Sm q A M) (h' : Sm q A' M') : A = A' ∧ M = M' := by
  obtain ⟨hs, h7, h2⟩ := h
  obtain ⟨hs', _, _⟩ := h'
  cases hs <;> cases hs' <;> first | exact ⟨rfl, rfl⟩ | omega
theorem rchoose_spec (T : En E Y) {D w : Nat} (h : ChOk D w) {e D' : Int} {gs : List (List Int)} (hC : Cls D w e D' gs) (m : FM) (n : Nat) : ChR E Y 19 (D : Int) (w : Int) e D' gs m n := by
  obtain ⟨h1, h2, h3, h4⟩ := h
  refine kept_specQ T.e19 rfl fun Q hQ => ?_
  simp only [ac19]
  simp (implicitDefEqProofs := false) (disch := omega) only [W2, opds, Nat.testBit, Nat.reduceAdd, Nat.reduceShiftRight, Nat.reduceAnd, Nat.reduceBNe, Nat.reduceMul]
  generalize hM2 : (AMem.put (AMem.put m n (some (.cells [.int .i64 0, .slice none 0 0] 0 false true))) (n + 1) (some (.cells [.int .i64 2, .int .i64 3, .int .i64 4, .int .i64 5, .int .i64 7] 1 false true)) : FM) = M2
  have a0 : M2 n = some (.cells [.int .i64 0, .slice none 0 0] 0 false true) := by rw [← hM2, fput_ne _ _ _ _ (by omega)]; exact fput_same _ _ _
  have a1 : M2 (n + 1) = some (.cells (szI.map (Value.int .i64)) 1 false true) := by rw [← hM2]; exact fput_same _ _ _
  have lo : ∀ b, b < n → M2 b = m b := fun b hb => by rw [← hM2, fput_ne _ _ _ _ (by omega), fput_ne _ _ _ _ (by omega)]
  clear hM2
  have fza : Nat.mod (bit n) (bit n) = 0 := frz_bit (Nat.le_refl _)
  have fzb : Nat.mod (bit (n + 1)) (bit n) = 0 := frz_bit (by omega)
  refine wr_kont (rch_L0 T (sb := n + 1) (rb := n) (D := D) (w := w) (by omega) (by omega) (by omega) (by omega) a1 a0 _ _ _ _ [] (fun q A M0 hs hD hw rv M3 N3 w3 e3 n3 m3 f3 hR rr => ?_) (fun hn0 => ?_) 5 0 rfl (fun i q hi => absurd hi (Nat.not_lt_zero i)))
  · simp (implicitDefEqProofs := false) (disch := omega) only [W2, opds, Nat.testBit, Nat.reduceAdd, Nat.reduceShiftRight, Nat.reduceAnd, Nat.reduceBNe, Nat.reduceMul]
    have hg : e = 0 ∧ D' = (D : Int) ∧ gs = projR A M0 (ptsR q M0) := by
      cases hC with
      | proj q' A' M' hs' h1' h2' =>
        obtain rfl : q = q' := by omega
        obtain ⟨rfl, rfl⟩ := hs.uniq hs'
        exact ⟨rfl, rfl, rfl⟩
      | aff q' A' M' hs' h1' h2' =>
        exfalso
        subst hw
        subst h1'
        rw [hD] at h2'
        have := hs.ge
        have e2 := sq_eq q
        have : (q + 1) * 2 ≤ (q + 1) * (q + 1) := Nat.mul_le_mul (Nat.le_refl _) (by omega)
        have := Nat.add_mul q 1 (q + 1)
        have := Nat.mul_add q q 1
        omega
      | lim hn hl => exact absurd ⟨hD, hw⟩ (hn q A M0 hs).1
      | ok hn hl => exact absurd ⟨hD, hw⟩ (hn q A M0 hs).1
    obtain ⟨rfl, rfl, rfl⟩ := hg
    refine hQ _ _ _ _ _ (by omega) (fun b hb => by rw [m3 b (by omega) (by omega)]; exact lo b hb) (by simp only [frz_iff]; exact ⟨⟨fza, fzb⟩, f3 n (Nat.le_refl _)⟩) rfl ⟨_, rfl, rv, rfl, hR⟩
  · intro rr
    simp (implicitDefEqProofs := false) (disch := omega) only [W2, opds, Nat.testBit, Nat.reduceAdd, Nat.reduceShiftRight, Nat.reduceAnd, Nat.reduceBNe, Nat.reduceMul]
    refine wr_kont (rch_L1 T (sb := n + 1) (rb := n) (D := D) (w := w) (by omega) (by omega) (by omega) (by omega) a1 a0 _ _ _ _ _ _ [] (fun q A M0 hs hD hw rv M3 N3 w3 e3 n3 m3 f3 hR rr => ?_) (fun hn1 => ?_) 5 0 rfl (fun i q hi => absurd hi (Nat.not_lt_zero i)))
    · simp (implicitDefEqProofs := false) (disch := omega) only [W2, opds, Nat.testBit, Nat.reduceAdd, Nat.reduceShiftRight, Nat.reduceAnd, Nat.reduceBNe, Nat.reduceMul]
      have hg : e = 0 ∧ D' = (D : Int) ∧ gs = affR A M0 q := by
        cases hC with
        | proj q' A' M' hs' h1' h2' => exact absurd ⟨h2', h1'⟩ (hn0 q' (mem_sz hs'))
        | aff q' A' M' hs' h1' h2' =>
          obtain rfl : q = q' := by omega
          obtain ⟨rfl, rfl⟩ := hs.uniq hs'
          exact ⟨rfl, rfl, rfl⟩
        | lim hn hl => exact absurd ⟨hD, hw⟩ (hn q A M0 hs).2
        | ok hn hl => exact absurd ⟨hD, hw⟩ (hn q A M0 hs).2
      obtain ⟨rfl, rfl, rfl⟩ := hg
      refine hQ _ _ _ _ _ (by omega) (fun b hb => by rw [m3 b (by omega) (by omega)]; exact lo b hb) (by simp only [frz_iff]; exact ⟨⟨fza, fzb⟩, f3 n (Nat.le_refl _)⟩) rfl ⟨_, rfl, rv, rfl, hR⟩
    · intro rr
      have hCnt := rCount_spec (E := E) (Y := Y) T.e12 T.e25
      simp (implicitDefEqProofs := false) (disch := omega) only [W2, opds, Nat.testBit, Nat.reduceAdd, Nat.reduceShiftRight, Nat.reduceAnd, Nat.reduceBNe, Nat.reduceMul]
      refine use_pure (hCnt _ _ (D : Int) (w : Int) (by omega) (by omega) (by omega)) fun _ => ?_
      cases hC with
      | proj q' A' M' hs' h1' h2' => exact absurd ⟨h2', h1'⟩ (hn0 q' (mem_sz hs'))
      | aff q' A' M' hs' h1' h2' => exact absurd ⟨h2', h1'⟩ (hn1 q' (mem_sz hs'))
      | lim hn hl =>
        have hl' : cplN D w > 4096 := hl
        simp (implicitDefEqProofs := false) (disch := omega) only [W2, opds, Nat.testBit, Nat.reduceAdd, Nat.reduceShiftRight, Nat.reduceAnd, Nat.reduceBNe, Nat.reduceMul, decide_eq_true hl', a0]
        refine hQ _ _ _ _ _ (by omega) (fun b hb => by rw [fput_ne _ _ _ _ (by omega)]; exact lo b hb) (by simp only [frz_iff]; exact ⟨⟨fza, fzb⟩, fza⟩) rfl ⟨_, rfl, _, rfl, RowsZ.rows (RowsZ.nil _ n _)⟩
      | ok hn hl =>
        have hl' : ¬ cplN D w > 4096 := hl
        have hN : cplN D w = (ch D w : Int) := cplN_ch (by omega) (by omega)
        simp (implicitDefEqProofs := false) (disch := omega) only [W2, opds, Nat.testBit, Nat.reduceAdd, Nat.reduceShiftRight, Nat.reduceAnd, Nat.reduceBNe, Nat.reduceMul, decide_eq_false hl', a0]
        refine use_rt (refCpl_spec T.e14 (by omega) (by omega) (by omega) (by omega) _ _) fun v M3 N3 r3 w3 ⟨n3, m3, f3, rv2, hv, hZ⟩ => ?_
        subst hv
        have o2 := hZ.one
        have k1 := (m3 n (by omega)).trans a0
        simp (implicitDefEqProofs := false) (disch := omega) only [W2, opds, Nat.testBit, Nat.reduceAdd, Nat.reduceShiftRight, Nat.reduceAnd, Nat.reduceBNe, Nat.reduceMul, o2, k1]
        refine hQ _ _ _ _ _ (by omega) (fun b hb => by rw [fput_ne _ _ _ _ (by omega), m3 b (by omega)]; exact lo b hb) (by simp only [frz_iff]; exact ⟨⟨fza, fzb⟩, f3 n (by omega), fza⟩) rfl ⟨_, rfl, rv2, rfl, (RowsZ.frame hZ (by omega) fun b h1 h2 => fput_ne _ _ _ _ (by omega)).rows⟩
end Go.Am.C07
namespace Go.Am.C07
open Go Go.Am
variable {E : Nat → Option AFn} {Y : Nat → List Value → FM → Nat → OR FM}
theorem cls_small {D w : Nat} (hw : w ≤ D) (hw2 : w ≤ 16) {e D' : Int} {gs : List (List Int)} (hc : Cls D w e D' gs) : gs.length < 1000000 ∧ ∀ g ∈ gs, g.length < 1000000 := by
  cases hc with
  | proj q A M hs h1 h2 => exact smallL_out (proj_small hs)
  | aff q A M hs h1 h2 => exact smallL_out (aff_small hs)
  | lim hn hl => exact ⟨by decide, fun g hg => absurd hg (List.not_mem_nil)⟩
  | ok hn hl =>
    have hN : cplN D w = (ch D w : Int) := cplN_ch (by omega) (by omega)
    have hlen : (cplL D w).length = ch D w := cpl_len D w
    exact ⟨by omega, fun g hg => by rw [(cpl_fm (D := D) (k := w) g hg).1]; omega⟩
theorem cls_mid {D w : Nat} (h : ChOk D w) {e D' : Int} {gs : List (List Int)} (hc : Cls D w e D' gs) (h1 : 1000 < cplN D w) (h2 : cplN D w ≤ 4096) (h3 : ¬ (D = 16 ∧ w = 4)) : e = 0 ∧ D' = D ∧ (gs.length : Int) = cplN D w := by
  obtain ⟨k1, k2, k3, k4⟩ := h
  cases hc with
  | proj q A M hs g1 g2 =>
    exfalso
    obtain ⟨hs, h7, hh⟩ := hs
    have e3 : cplN ((13 : Nat) : Int) ((4 : Nat) : Int) = 715 := by decide +kernel
    have e4 : cplN ((21 : Nat) : Int) ((5 : Nat) : Int) > 4096 := by decide +kernel
    have e5 : cplN ((31 : Nat) : Int) ((6 : Nat) : Int) > 4096 := by decide +kernel
    have e7 : cplN ((57 : Nat) : Int) ((8 : Nat) : Int) > 4096 := by decide +kernel
    cases hs
    · omega
    · obtain rfl : D = 13 := by omega
      obtain rfl : w = 4 := by omega
      omega
    · obtain rfl : D = 21 := by omega
      obtain rfl : w = 5 := by omega
      omega
    · obtain rfl : D = 31 := by omega
      obtain rfl : w = 6 := by omega
      omega
    · obtain rfl : D = 57 := by omega
      obtain rfl : w = 8 := by omega
      omega
    · omega
    · omega
  | aff q A M hs g1 g2 =>
    exfalso
    obtain ⟨hs, h7, hh⟩ := hs
    have e5 : cplN ((25 : Nat) : Int) ((5 : Nat) : Int) > 4096 := by decide +kernel
    have e7 : cplN ((49 : Nat) : Int) ((7 : Nat) : Int) > 4096 := by decide +kernel
    cases hs
    · omega
    · omega
    · omega
    · obtain rfl : D = 25 := by omega
      obtain rfl : w = 5 := by omega
      omega
    · obtain rfl : D = 49 := by omega
      obtain rfl : w = 7 := by omega
      omega
    · omega
    · omega
  | lim hn hl => omega
  | ok hn hl =>
    have hN : cplN D w = (ch D w : Int) := cplN_ch (by omega) (by omega)
    have hlen : (cplL D w).length = ch D w := cpl_len D w
    exact ⟨rfl, rfl, by rw [hlen, hN]⟩
structure Both (E : Nat → Option AFn) (Y : Nat → List Value → FM → Nat → OR FM) (D w e D' : Int) (gs : List (List Int)) : Prop where
  a : ∀ m n, ChR E Y 18 D w e D' gs m n
  b : ∀ m n, ChR E Y 19 D w e D' gs m n
  l : gs.length < 1000000
  r : ∀ g ∈ gs, g.length < 1000000
theorem both_bad (T : En E Y) {D w : Int} (h : ¬ ChOk D w) : Both E Y D w 1 0 [] := ⟨choose_bad T h, rchoose_bad T h, by decide, fun g hg => absurd hg (List.not_mem_nil)⟩
theorem both_ok (T : En E Y) {D w : Nat} (h : ChOk D w) {e D' : Int} {gs : List (List Int)} (hc : Cls D w e D' gs) : Both E Y D w e D' gs := by
  have hh := h
  obtain ⟨k1, k2, k3, k4⟩ := hh
  exact ⟨choose_spec T h hc, rchoose_spec T h hc, (cls_small (by omega) (by omega) hc).1, (cls_small (by omega) (by omega) hc).2⟩
theorem designChoose_exec (T : En E Y) (hA : ∀ m n, Pure (callW PG E Y 10 [] m n) m n (.bool true)) (D w : Int) (m : FM) (n : Nat) : Pure (callW PG E Y 5 [.int .i64 D, .int .i64 w] m n) m n (.bool true) := by
  refine pure_spec T.e5 rfl rfl ?_
  simp only [ac5]
  simp (implicitDefEqProofs := false) (disch := omega) only [W2, opds, Nat.testBit, Nat.reduceAdd, Nat.reduceShiftRight, Nat.reduceAnd, Nat.reduceBNe, Nat.reduceMul]
  refine use_pure (hA _ _) fun _ => ?_
  simp (implicitDefEqProofs := false) (disch := omega) only [W2, opds, Nat.testBit, Nat.reduceAdd, Nat.reduceShiftRight, Nat.reduceAnd, Nat.reduceBNe, Nat.reduceMul]
  have fza : Nat.mod (bit n) (bit n) = 0 := frz_bit (Nat.le_refl _)
  obtain ⟨e, D', gs, hB, hcase⟩ : ∃ e D' gs, Both E Y D w e D' gs ∧ (¬ ChOk D w ∨ (1000 < cplN D w → cplN D w ≤ 4096 → ¬ (D = 16 ∧ w = 4) → e = 0 ∧ D' = D ∧ (gs.length : Int) = cplN D w)) := by
    by_cases hc : ChOk D w
    · have hc' := hc
      obtain ⟨k1, k2, k3, k4⟩ := hc'
      obtain ⟨d, rfl⟩ : ∃ d : Nat, D = (d : Int) := ⟨D.toNat, by omega⟩
      obtain ⟨k, rfl⟩ : ∃ k : Nat, w = (k : Int) := ⟨w.toNat, by omega⟩
      obtain ⟨e, D', gs, hcls⟩ := cls_some d k
      exact ⟨e, D', gs, both_ok T hc hcls, .inr fun a b c => cls_mid hc hcls a b (by omega)⟩
    · exact ⟨_, _, _, both_bad T hc, .inl hc⟩
  unfold ChOk at hcase
  refine use_rt (hB.a _ _) fun v M1 N1 r1 w1 ⟨n1, m1, f1, dv, hv, rv, hd, hR⟩ => ?_
  subst hv
  subst hd
  have o1 := hR.one
  simp (implicitDefEqProofs := false) (disch := omega) only [W2, opds, Nat.testBit, Nat.reduceAdd, Nat.reduceShiftRight, Nat.reduceAnd, Nat.reduceBNe, Nat.reduceMul, o1]
  generalize hM2 : (AMem.put M1 N1 (some (.cells [.int .i64 D', rv] 0 false true)) : FM) = M2
  have d2 : M2 N1 = some (.cells [.int .i64 D', rv] 0 false true) := by rw [← hM2]; exact fput_same _ _ _
  have hR2 : Rows M2 (N1 + 1) rv gs := hR.frame (by omega) fun b hb => by rw [← hM2, fput_ne _ _ _ _ (by omega)]
  have hbel := hR2.bel (N1 + 1) (Nat.le_refl _)
  have fzn := f1 n (Nat.le_refl _)
  have fzb : Nat.mod (bit N1) (bit n) = 0 := frz_bit (by omega)
  have hrl := hR2.len
  have hC := rCount_spec (E := E) (Y := Y) T.e12 T.e25
  clear hM2
  by_cases h1 : D < 2
  · simp (implicitDefEqProofs := false) (disch := omega) only [W2, opds, Nat.testBit, Nat.reduceAdd, Nat.reduceShiftRight, Nat.reduceAnd, Nat.reduceBNe, Nat.reduceMul]
    refine use_rt (hB.b _ _) fun v M3 N3 r3 w3 ⟨n3, m3, f3, dv2, hv, rv2, hd, hR3⟩ => ?_
    subst hv
    subst hd
    have o2 := hR3.one
    have d3 : M3 N1 = _ := (m3 N1 (Nat.lt_succ_self _)).trans d2
    generalize hM4 : (AMem.put M3 N3 (some (.cells [.int .i64 D', rv2] 0 false true)) : FM) = M4
    have d4 : M4 N1 = some (.cells [.int .i64 D', rv] 0 false true) := by rw [← hM4, fput_ne _ _ _ _ (by omega)]; exact d3
    have e4 : M4 N3 = some (.cells [.int .i64 D', rv2] 0 false true) := by rw [← hM4]; exact fput_same _ _ _
    have hRa : Rows M4 (N3 + 1) rv gs := hR2.frame (by omega) fun b hb => by rw [← hM4, fput_ne _ _ _ _ (by omega)]; exact m3 b (by omega)
    have hRb : Rows M4 (N3 + 1) rv2 gs := hR3.frame (by omega) fun b hb => by rw [← hM4, fput_ne _ _ _ _ (by omega)]
    have bA := hRa.bel (N3 + 1) (Nat.le_refl _)
    have bB := hRb.bel (N3 + 1) (Nat.le_refl _)
    have bA2 := hRa.belF (N3 + 1) (Nat.le_refl _)
    have bB2 := hRb.belF (N3 + 1) (Nat.le_refl _)
    have hld := land_frz (f3 (N1 + 1) (Nat.le_refl _)) (Nat.lt_succ_self N1)
    have fz3 := f3 n (by omega)
    have fzc : Nat.mod (bit N3) (bit n) = 0 := frz_bit (by omega)
    have hS := same_spec (E := E) (Y := Y) T.e13 (D1 := D') (D2 := D') hRa hRb hB.l hB.l hB.r hB.r
    rw [decide_eq_true (show D' = D' ∧ gs = gs from ⟨rfl, rfl⟩)] at hS
    simp (implicitDefEqProofs := false) (disch := omega) only [W2, opds, Nat.testBit, Nat.reduceAdd, Nat.reduceShiftRight, Nat.reduceAnd, Nat.reduceBNe, Nat.reduceMul, o2]
    simp only [hM4]
    simp (implicitDefEqProofs := false) (disch := omega) only [W2, opds, Nat.testBit, Nat.reduceAdd, Nat.reduceShiftRight, Nat.reduceAnd, Nat.reduceBNe, Nat.reduceMul, d4, e4, d3, bA, bB, bA2, bB2, hld, hM4]
    refine use_pure (hS) fun _ => ?_
    simp (implicitDefEqProofs := false) (disch := omega) only [W2, opds, Nat.testBit, Nat.reduceAdd, Nat.reduceShiftRight, Nat.reduceAnd, Nat.reduceBNe, Nat.reduceMul, fzn, fz3, fzb, fzc, hld, fza]
  by_cases h2 : 60 < D
  · simp (implicitDefEqProofs := false) (disch := omega) only [W2, opds, Nat.testBit, Nat.reduceAdd, Nat.reduceShiftRight, Nat.reduceAnd, Nat.reduceBNe, Nat.reduceMul]
    refine use_rt (hB.b _ _) fun v M3 N3 r3 w3 ⟨n3, m3, f3, dv2, hv, rv2, hd, hR3⟩ => ?_
    subst hv
    subst hd
    have o2 := hR3.one
    have d3 : M3 N1 = _ := (m3 N1 (Nat.lt_succ_self _)).trans d2
    generalize hM4 : (AMem.put M3 N3 (some (.cells [.int .i64 D', rv2] 0 false true)) : FM) = M4
    have d4 : M4 N1 = some (.cells [.int .i64 D', rv] 0 false true) := by rw [← hM4, fput_ne _ _ _ _ (by omega)]; exact d3
    have e4 : M4 N3 = some (.cells [.int .i64 D', rv2] 0 false true) := by rw [← hM4]; exact fput_same _ _ _
    have hRa : Rows M4 (N3 + 1) rv gs := hR2.frame (by omega) fun b hb => by rw [← hM4, fput_ne _ _ _ _ (by omega)]; exact m3 b (by omega)
    have hRb : Rows M4 (N3 + 1) rv2 gs := hR3.frame (by omega) fun b hb => by rw [← hM4, fput_ne _ _ _ _ (by omega)]
    have bA := hRa.bel (N3 + 1) (Nat.le_refl _)
    have bB := hRb.bel (N3 + 1) (Nat.le_refl _)
    have bA2 := hRa.belF (N3 + 1) (Nat.le_refl _)
    have bB2 := hRb.belF (N3 + 1) (Nat.le_refl _)
    have hld := land_frz (f3 (N1 + 1) (Nat.le_refl _)) (Nat.lt_succ_self N1)
    have fz3 := f3 n (by omega)
    have fzc : Nat.mod (bit N3) (bit n) = 0 := frz_bit (by omega)
    have hS := same_spec (E := E) (Y := Y) T.e13 (D1 := D') (D2 := D') hRa hRb hB.l hB.l hB.r hB.r
    rw [decide_eq_true (show D' = D' ∧ gs = gs from ⟨rfl, rfl⟩)] at hS
    simp (implicitDefEqProofs := false) (disch := omega) only [W2, opds, Nat.testBit, Nat.reduceAdd, Nat.reduceShiftRight, Nat.reduceAnd, Nat.reduceBNe, Nat.reduceMul, o2]
    simp only [hM4]
    simp (implicitDefEqProofs := false) (disch := omega) only [W2, opds, Nat.testBit, Nat.reduceAdd, Nat.reduceShiftRight, Nat.reduceAnd, Nat.reduceBNe, Nat.reduceMul, d4, e4, d3, bA, bB, bA2, bB2, hld, hM4]
    refine use_pure (hS) fun _ => ?_
    simp (implicitDefEqProofs := false) (disch := omega) only [W2, opds, Nat.testBit, Nat.reduceAdd, Nat.reduceShiftRight, Nat.reduceAnd, Nat.reduceBNe, Nat.reduceMul, fzn, fz3, fzb, fzc, hld, fza]
  by_cases h3 : w < 2
  · simp (implicitDefEqProofs := false) (disch := omega) only [W2, opds, Nat.testBit, Nat.reduceAdd, Nat.reduceShiftRight, Nat.reduceAnd, Nat.reduceBNe, Nat.reduceMul]
    refine use_rt (hB.b _ _) fun v M3 N3 r3 w3 ⟨n3, m3, f3, dv2, hv, rv2, hd, hR3⟩ => ?_
    subst hv
    subst hd
    have o2 := hR3.one
    have d3 : M3 N1 = _ := (m3 N1 (Nat.lt_succ_self _)).trans d2
    generalize hM4 : (AMem.put M3 N3 (some (.cells [.int .i64 D', rv2] 0 false true)) : FM) = M4
    have d4 : M4 N1 = some (.cells [.int .i64 D', rv] 0 false true) := by rw [← hM4, fput_ne _ _ _ _ (by omega)]; exact d3
    have e4 : M4 N3 = some (.cells [.int .i64 D', rv2] 0 false true) := by rw [← hM4]; exact fput_same _ _ _
    have hRa : Rows M4 (N3 + 1) rv gs := hR2.frame (by omega) fun b hb => by rw [← hM4, fput_ne _ _ _ _ (by omega)]; exact m3 b (by omega)
    have hRb : Rows M4 (N3 + 1) rv2 gs := hR3.frame (by omega) fun b hb => by rw [← hM4, fput_ne _ _ _ _ (by omega)]
    have bA := hRa.bel (N3 + 1) (Nat.le_refl _)
    have bB := hRb.bel (N3 + 1) (Nat.le_refl _)
    have bA2 := hRa.belF (N3 + 1) (Nat.le_refl _)
    have bB2 := hRb.belF (N3 + 1) (Nat.le_refl _)
    have hld := land_frz (f3 (N1 + 1) (Nat.le_refl _)) (Nat.lt_succ_self N1)
    have fz3 := f3 n (by omega)
    have fzc : Nat.mod (bit N3) (bit n) = 0 := frz_bit (by omega)
    have hS := same_spec (E := E) (Y := Y) T.e13 (D1 := D') (D2 := D') hRa hRb hB.l hB.l hB.r hB.r
    rw [decide_eq_true (show D' = D' ∧ gs = gs from ⟨rfl, rfl⟩)] at hS
    simp (implicitDefEqProofs := false) (disch := omega) only [W2, opds, Nat.testBit, Nat.reduceAdd, Nat.reduceShiftRight, Nat.reduceAnd, Nat.reduceBNe, Nat.reduceMul, o2]
    simp only [hM4]
    simp (implicitDefEqProofs := false) (disch := omega) only [W2, opds, Nat.testBit, Nat.reduceAdd, Nat.reduceShiftRight, Nat.reduceAnd, Nat.reduceBNe, Nat.reduceMul, d4, e4, d3, bA, bB, bA2, bB2, hld, hM4]
    refine use_pure (hS) fun _ => ?_
    simp (implicitDefEqProofs := false) (disch := omega) only [W2, opds, Nat.testBit, Nat.reduceAdd, Nat.reduceShiftRight, Nat.reduceAnd, Nat.reduceBNe, Nat.reduceMul, fzn, fz3, fzb, fzc, hld, fza]
  by_cases h4 : D < w
  · simp (implicitDefEqProofs := false) (disch := omega) only [W2, opds, Nat.testBit, Nat.reduceAdd, Nat.reduceShiftRight, Nat.reduceAnd, Nat.reduceBNe, Nat.reduceMul]
    refine use_rt (hB.b _ _) fun v M3 N3 r3 w3 ⟨n3, m3, f3, dv2, hv, rv2, hd, hR3⟩ => ?_
    subst hv
    subst hd
    have o2 := hR3.one
    have d3 : M3 N1 = _ := (m3 N1 (Nat.lt_succ_self _)).trans d2
    generalize hM4 : (AMem.put M3 N3 (some (.cells [.int .i64 D', rv2] 0 false true)) : FM) = M4
    have d4 : M4 N1 = some (.cells [.int .i64 D', rv] 0 false true) := by rw [← hM4, fput_ne _ _ _ _ (by omega)]; exact d3
    have e4 : M4 N3 = some (.cells [.int .i64 D', rv2] 0 false true) := by rw [← hM4]; exact fput_same _ _ _
    have hRa : Rows M4 (N3 + 1) rv gs := hR2.frame (by omega) fun b hb => by rw [← hM4, fput_ne _ _ _ _ (by omega)]; exact m3 b (by omega)
    have hRb : Rows M4 (N3 + 1) rv2 gs := hR3.frame (by omega) fun b hb => by rw [← hM4, fput_ne _ _ _ _ (by omega)]
    have bA := hRa.bel (N3 + 1) (Nat.le_refl _)
    have bB := hRb.bel (N3 + 1) (Nat.le_refl _)
    have bA2 := hRa.belF (N3 + 1) (Nat.le_refl _)
    have bB2 := hRb.belF (N3 + 1) (Nat.le_refl _)
    have hld := land_frz (f3 (N1 + 1) (Nat.le_refl _)) (Nat.lt_succ_self N1)
    have fz3 := f3 n (by omega)
    have fzc : Nat.mod (bit N3) (bit n) = 0 := frz_bit (by omega)
    have hS := same_spec (E := E) (Y := Y) T.e13 (D1 := D') (D2 := D') hRa hRb hB.l hB.l hB.r hB.r
    rw [decide_eq_true (show D' = D' ∧ gs = gs from ⟨rfl, rfl⟩)] at hS
    simp (implicitDefEqProofs := false) (disch := omega) only [W2, opds, Nat.testBit, Nat.reduceAdd, Nat.reduceShiftRight, Nat.reduceAnd, Nat.reduceBNe, Nat.reduceMul, o2]
    simp only [hM4]
    simp (implicitDefEqProofs := false) (disch := omega) only [W2, opds, Nat.testBit, Nat.reduceAdd, Nat.reduceShiftRight, Nat.reduceAnd, Nat.reduceBNe, Nat.reduceMul, d4, e4, d3, bA, bB, bA2, bB2, hld, hM4]
    refine use_pure (hS) fun _ => ?_
    simp (implicitDefEqProofs := false) (disch := omega) only [W2, opds, Nat.testBit, Nat.reduceAdd, Nat.reduceShiftRight, Nat.reduceAnd, Nat.reduceBNe, Nat.reduceMul, fzn, fz3, fzb, fzc, hld, fza]
  simp (implicitDefEqProofs := false) (disch := omega) only [W2, opds, Nat.testBit, Nat.reduceAdd, Nat.reduceShiftRight, Nat.reduceAnd, Nat.reduceBNe, Nat.reduceMul]
  refine use_pure (hC _ _ D w (by omega) (by omega) (by omega)) fun _ => ?_
  generalize hZ : cplN D w = Z at hcase
  by_cases h5 : 1000 < Z
  · by_cases h6 : 4096 < Z
    · simp (implicitDefEqProofs := false) (disch := omega) only [W2, opds, Nat.testBit, Nat.reduceAdd, Nat.reduceShiftRight, Nat.reduceAnd, Nat.reduceBNe, Nat.reduceMul]
      refine use_rt (hB.b _ _) fun v M3 N3 r3 w3 ⟨n3, m3, f3, dv2, hv, rv2, hd, hR3⟩ => ?_
      subst hv
      subst hd
      have o2 := hR3.one
      have d3 : M3 N1 = _ := (m3 N1 (Nat.lt_succ_self _)).trans d2
      generalize hM4 : (AMem.put M3 N3 (some (.cells [.int .i64 D', rv2] 0 false true)) : FM) = M4
      have d4 : M4 N1 = some (.cells [.int .i64 D', rv] 0 false true) := by rw [← hM4, fput_ne _ _ _ _ (by omega)]; exact d3
      have e4 : M4 N3 = some (.cells [.int .i64 D', rv2] 0 false true) := by rw [← hM4]; exact fput_same _ _ _
      have hRa : Rows M4 (N3 + 1) rv gs := hR2.frame (by omega) fun b hb => by rw [← hM4, fput_ne _ _ _ _ (by omega)]; exact m3 b (by omega)
      have hRb : Rows M4 (N3 + 1) rv2 gs := hR3.frame (by omega) fun b hb => by rw [← hM4, fput_ne _ _ _ _ (by omega)]
      have bA := hRa.bel (N3 + 1) (Nat.le_refl _)
      have bB := hRb.bel (N3 + 1) (Nat.le_refl _)
      have bA2 := hRa.belF (N3 + 1) (Nat.le_refl _)
      have bB2 := hRb.belF (N3 + 1) (Nat.le_refl _)
      have hld := land_frz (f3 (N1 + 1) (Nat.le_refl _)) (Nat.lt_succ_self N1)
      have fz3 := f3 n (by omega)
      have fzc : Nat.mod (bit N3) (bit n) = 0 := frz_bit (by omega)
      have hS := same_spec (E := E) (Y := Y) T.e13 (D1 := D') (D2 := D') hRa hRb hB.l hB.l hB.r hB.r
      rw [decide_eq_true (show D' = D' ∧ gs = gs from ⟨rfl, rfl⟩)] at hS
      simp (implicitDefEqProofs := false) (disch := omega) only [W2, opds, Nat.testBit, Nat.reduceAdd, Nat.reduceShiftRight, Nat.reduceAnd, Nat.reduceBNe, Nat.reduceMul, o2]
      simp only [hM4]
      simp (implicitDefEqProofs := false) (disch := omega) only [W2, opds, Nat.testBit, Nat.reduceAdd, Nat.reduceShiftRight, Nat.reduceAnd, Nat.reduceBNe, Nat.reduceMul, d4, e4, d3, bA, bB, bA2, bB2, hld, hM4]
      refine use_pure (hS) fun _ => ?_
      simp (implicitDefEqProofs := false) (disch := omega) only [W2, opds, Nat.testBit, Nat.reduceAdd, Nat.reduceShiftRight, Nat.reduceAnd, Nat.reduceBNe, Nat.reduceMul, fzn, fz3, fzb, fzc, hld, fza]
    · by_cases h7 : w < 4
      · simp (implicitDefEqProofs := false) (disch := omega) only [W2, opds, Nat.testBit, Nat.reduceAdd, Nat.reduceShiftRight, Nat.reduceAnd, Nat.reduceBNe, Nat.reduceMul]
        refine use_rt (hB.b _ _) fun v M3 N3 r3 w3 ⟨n3, m3, f3, dv2, hv, rv2, hd, hR3⟩ => ?_
        subst hv
        subst hd
        have o2 := hR3.one
        have d3 : M3 N1 = _ := (m3 N1 (Nat.lt_succ_self _)).trans d2
        generalize hM4 : (AMem.put M3 N3 (some (.cells [.int .i64 D', rv2] 0 false true)) : FM) = M4
        have d4 : M4 N1 = some (.cells [.int .i64 D', rv] 0 false true) := by rw [← hM4, fput_ne _ _ _ _ (by omega)]; exact d3
        have e4 : M4 N3 = some (.cells [.int .i64 D', rv2] 0 false true) := by rw [← hM4]; exact fput_same _ _ _
        have hRa : Rows M4 (N3 + 1) rv gs := hR2.frame (by omega) fun b hb => by rw [← hM4, fput_ne _ _ _ _ (by omega)]; exact m3 b (by omega)
        have hRb : Rows M4 (N3 + 1) rv2 gs := hR3.frame (by omega) fun b hb => by rw [← hM4, fput_ne _ _ _ _ (by omega)]
        have bA := hRa.bel (N3 + 1) (Nat.le_refl _)
        have bB := hRb.bel (N3 + 1) (Nat.le_refl _)
        have bA2 := hRa.belF (N3 + 1) (Nat.le_refl _)
        have bB2 := hRb.belF (N3 + 1) (Nat.le_refl _)
        have hld := land_frz (f3 (N1 + 1) (Nat.le_refl _)) (Nat.lt_succ_self N1)
        have fz3 := f3 n (by omega)
        have fzc : Nat.mod (bit N3) (bit n) = 0 := frz_bit (by omega)
        have hS := same_spec (E := E) (Y := Y) T.e13 (D1 := D') (D2 := D') hRa hRb hB.l hB.l hB.r hB.r
        rw [decide_eq_true (show D' = D' ∧ gs = gs from ⟨rfl, rfl⟩)] at hS
        simp (implicitDefEqProofs := false) (disch := omega) only [W2, opds, Nat.testBit, Nat.reduceAdd, Nat.reduceShiftRight, Nat.reduceAnd, Nat.reduceBNe, Nat.reduceMul, o2]
        simp only [hM4]
        simp (implicitDefEqProofs := false) (disch := omega) only [W2, opds, Nat.testBit, Nat.reduceAdd, Nat.reduceShiftRight, Nat.reduceAnd, Nat.reduceBNe, Nat.reduceMul, d4, e4, d3, bA, bB, bA2, bB2, hld, hM4]
        refine use_pure (hS) fun _ => ?_
        simp (implicitDefEqProofs := false) (disch := omega) only [W2, opds, Nat.testBit, Nat.reduceAdd, Nat.reduceShiftRight, Nat.reduceAnd, Nat.reduceBNe, Nat.reduceMul, fzn, fz3, fzb, fzc, hld, fza]
      · by_cases h8 : 16 < w
        · simp (implicitDefEqProofs := false) (disch := omega) only [W2, opds, Nat.testBit, Nat.reduceAdd, Nat.reduceShiftRight, Nat.reduceAnd, Nat.reduceBNe, Nat.reduceMul]
          refine use_rt (hB.b _ _) fun v M3 N3 r3 w3 ⟨n3, m3, f3, dv2, hv, rv2, hd, hR3⟩ => ?_
          subst hv
          subst hd
          have o2 := hR3.one
          have d3 : M3 N1 = _ := (m3 N1 (Nat.lt_succ_self _)).trans d2
          generalize hM4 : (AMem.put M3 N3 (some (.cells [.int .i64 D', rv2] 0 false true)) : FM) = M4
          have d4 : M4 N1 = some (.cells [.int .i64 D', rv] 0 false true) := by rw [← hM4, fput_ne _ _ _ _ (by omega)]; exact d3
          have e4 : M4 N3 = some (.cells [.int .i64 D', rv2] 0 false true) := by rw [← hM4]; exact fput_same _ _ _
          have hRa : Rows M4 (N3 + 1) rv gs := hR2.frame (by omega) fun b hb => by rw [← hM4, fput_ne _ _ _ _ (by omega)]; exact m3 b (by omega)
          have hRb : Rows M4 (N3 + 1) rv2 gs := hR3.frame (by omega) fun b hb => by rw [← hM4, fput_ne _ _ _ _ (by omega)]
          have bA := hRa.bel (N3 + 1) (Nat.le_refl _)
          have bB := hRb.bel (N3 + 1) (Nat.le_refl _)
          have bA2 := hRa.belF (N3 + 1) (Nat.le_refl _)
          have bB2 := hRb.belF (N3 + 1) (Nat.le_refl _)
          have hld := land_frz (f3 (N1 + 1) (Nat.le_refl _)) (Nat.lt_succ_self N1)
          have fz3 := f3 n (by omega)
          have fzc : Nat.mod (bit N3) (bit n) = 0 := frz_bit (by omega)
          have hS := same_spec (E := E) (Y := Y) T.e13 (D1 := D') (D2 := D') hRa hRb hB.l hB.l hB.r hB.r
          rw [decide_eq_true (show D' = D' ∧ gs = gs from ⟨rfl, rfl⟩)] at hS
          simp (implicitDefEqProofs := false) (disch := omega) only [W2, opds, Nat.testBit, Nat.reduceAdd, Nat.reduceShiftRight, Nat.reduceAnd, Nat.reduceBNe, Nat.reduceMul, o2]
          simp only [hM4]
          simp (implicitDefEqProofs := false) (disch := omega) only [W2, opds, Nat.testBit, Nat.reduceAdd, Nat.reduceShiftRight, Nat.reduceAnd, Nat.reduceBNe, Nat.reduceMul, d4, e4, d3, bA, bB, bA2, bB2, hld, hM4]
          refine use_pure (hS) fun _ => ?_
          simp (implicitDefEqProofs := false) (disch := omega) only [W2, opds, Nat.testBit, Nat.reduceAdd, Nat.reduceShiftRight, Nat.reduceAnd, Nat.reduceBNe, Nat.reduceMul, fzn, fz3, fzb, fzc, hld, fza]
        · by_cases h9 : D = 16
          · by_cases h10 : w = 4
            · simp (implicitDefEqProofs := false) (disch := omega) only [W2, opds, Nat.testBit, Nat.reduceAdd, Nat.reduceShiftRight, Nat.reduceAnd, Nat.reduceBNe, Nat.reduceMul]
              refine use_rt (hB.b _ _) fun v M3 N3 r3 w3 ⟨n3, m3, f3, dv2, hv, rv2, hd, hR3⟩ => ?_
              subst hv
              subst hd
              have o2 := hR3.one
              have d3 : M3 N1 = _ := (m3 N1 (Nat.lt_succ_self _)).trans d2
              generalize hM4 : (AMem.put M3 N3 (some (.cells [.int .i64 D', rv2] 0 false true)) : FM) = M4
              have d4 : M4 N1 = some (.cells [.int .i64 D', rv] 0 false true) := by rw [← hM4, fput_ne _ _ _ _ (by omega)]; exact d3
              have e4 : M4 N3 = some (.cells [.int .i64 D', rv2] 0 false true) := by rw [← hM4]; exact fput_same _ _ _
              have hRa : Rows M4 (N3 + 1) rv gs := hR2.frame (by omega) fun b hb => by rw [← hM4, fput_ne _ _ _ _ (by omega)]; exact m3 b (by omega)
              have hRb : Rows M4 (N3 + 1) rv2 gs := hR3.frame (by omega) fun b hb => by rw [← hM4, fput_ne _ _ _ _ (by omega)]
              have bA := hRa.bel (N3 + 1) (Nat.le_refl _)
              have bB := hRb.bel (N3 + 1) (Nat.le_refl _)
              have bA2 := hRa.belF (N3 + 1) (Nat.le_refl _)
              have bB2 := hRb.belF (N3 + 1) (Nat.le_refl _)
              have hld := land_frz (f3 (N1 + 1) (Nat.le_refl _)) (Nat.lt_succ_self N1)
              have fz3 := f3 n (by omega)
              have fzc : Nat.mod (bit N3) (bit n) = 0 := frz_bit (by omega)
              have hS := same_spec (E := E) (Y := Y) T.e13 (D1 := D') (D2 := D') hRa hRb hB.l hB.l hB.r hB.r
              rw [decide_eq_true (show D' = D' ∧ gs = gs from ⟨rfl, rfl⟩)] at hS
              simp (implicitDefEqProofs := false) (disch := omega) only [W2, opds, Nat.testBit, Nat.reduceAdd, Nat.reduceShiftRight, Nat.reduceAnd, Nat.reduceBNe, Nat.reduceMul, o2]
              simp only [hM4]
              simp (implicitDefEqProofs := false) (disch := omega) only [W2, opds, Nat.testBit, Nat.reduceAdd, Nat.reduceShiftRight, Nat.reduceAnd, Nat.reduceBNe, Nat.reduceMul, d4, e4, d3, bA, bB, bA2, bB2, hld, hM4]
              refine use_pure (hS) fun _ => ?_
              simp (implicitDefEqProofs := false) (disch := omega) only [W2, opds, Nat.testBit, Nat.reduceAdd, Nat.reduceShiftRight, Nat.reduceAnd, Nat.reduceBNe, Nat.reduceMul, fzn, fz3, fzb, fzc, hld, fza]
            · obtain ⟨rfl, rfl, hlen⟩ := (hcase.resolve_left (by omega)) h5 (by omega) (by omega)
              simp (implicitDefEqProofs := false) (disch := omega) only [W2, opds, Nat.testBit, Nat.reduceAdd, Nat.reduceShiftRight, Nat.reduceAnd, Nat.reduceBNe, Nat.reduceMul, d2, hbel, hrl, decide_eq_true hlen]
              exact fzn
          · obtain ⟨rfl, rfl, hlen⟩ := (hcase.resolve_left (by omega)) h5 (by omega) (by omega)
            simp (implicitDefEqProofs := false) (disch := omega) only [W2, opds, Nat.testBit, Nat.reduceAdd, Nat.reduceShiftRight, Nat.reduceAnd, Nat.reduceBNe, Nat.reduceMul, d2, hbel, hrl, decide_eq_true hlen]
            exact fzn
  · simp (implicitDefEqProofs := false) (disch := omega) only [W2, opds, Nat.testBit, Nat.reduceAdd, Nat.reduceShiftRight, Nat.reduceAnd, Nat.reduceBNe, Nat.reduceMul]
    refine use_rt (hB.b _ _) fun v M3 N3 r3 w3 ⟨n3, m3, f3, dv2, hv, rv2, hd, hR3⟩ => ?_
    subst hv
    subst hd
    have o2 := hR3.one
    have d3 : M3 N1 = _ := (m3 N1 (Nat.lt_succ_self _)).trans d2
    generalize hM4 : (AMem.put M3 N3 (some (.cells [.int .i64 D', rv2] 0 false true)) : FM) = M4
    have d4 : M4 N1 = some (.cells [.int .i64 D', rv] 0 false true) := by rw [← hM4, fput_ne _ _ _ _ (by omega)]; exact d3
    have e4 : M4 N3 = some (.cells [.int .i64 D', rv2] 0 false true) := by rw [← hM4]; exact fput_same _ _ _
    have hRa : Rows M4 (N3 + 1) rv gs := hR2.frame (by omega) fun b hb => by rw [← hM4, fput_ne _ _ _ _ (by omega)]; exact m3 b (by omega)
    have hRb : Rows M4 (N3 + 1) rv2 gs := hR3.frame (by omega) fun b hb => by rw [← hM4, fput_ne _ _ _ _ (by omega)]
    have bA := hRa.bel (N3 + 1) (Nat.le_refl _)
    have bB := hRb.bel (N3 + 1) (Nat.le_refl _)
    have bA2 := hRa.belF (N3 + 1) (Nat.le_refl _)
    have bB2 := hRb.belF (N3 + 1) (Nat.le_refl _)
    have hld := land_frz (f3 (N1 + 1) (Nat.le_refl _)) (Nat.lt_succ_self N1)
    have fz3 := f3 n (by omega)
    have fzc : Nat.mod (bit N3) (bit n) = 0 := frz_bit (by omega)
    have hS := same_spec (E := E) (Y := Y) T.e13 (D1 := D') (D2 := D') hRa hRb hB.l hB.l hB.r hB.r
    rw [decide_eq_true (show D' = D' ∧ gs = gs from ⟨rfl, rfl⟩)] at hS
    simp (implicitDefEqProofs := false) (disch := omega) only [W2, opds, Nat.testBit, Nat.reduceAdd, Nat.reduceShiftRight, Nat.reduceAnd, Nat.reduceBNe, Nat.reduceMul, o2]
    simp only [hM4]
    simp (implicitDefEqProofs := false) (disch := omega) only [W2, opds, Nat.testBit, Nat.reduceAdd, Nat.reduceShiftRight, Nat.reduceAnd, Nat.reduceBNe, Nat.reduceMul, d4, e4, d3, bA, bB, bA2, bB2, hld, hM4]
    refine use_pure (hS) fun _ => ?_
    simp (implicitDefEqProofs := false) (disch := omega) only [W2, opds, Nat.testBit, Nat.reduceAdd, Nat.reduceShiftRight, Nat.reduceAnd, Nat.reduceBNe, Nat.reduceMul, fzn, fz3, fzb, fzc, hld, fza]
end Go.Am.C07
namespace Go.Am.C07
open Go Go.Am Go.Am.V
set_option maxRecDepth 1000000
theorem designChoose_calls (D K : Int) (w : World) : Calls Proofs.Try.prog 5 #[.int .i64 D, .int .i64 K] w fun e w' => e = .returned (.bool true) ∧ RowKit.Below w.heap.size w w' :=
  callsD_of (args := [.int .i64 D, .int .i64 K]) (fun m n => designChoose_exec enD awakeD D K m n) rfl w
end Go.Am.C07
