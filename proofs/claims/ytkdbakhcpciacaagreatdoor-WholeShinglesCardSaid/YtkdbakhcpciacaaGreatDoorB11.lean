/- The machine and its runs, part 11: AxSt AxSu AxSv AxSw AxSx AxSy AxTa AxTb AxTc AxTd AxTe. -/
import Derived.Laws.Shifts
import Derived.Test.YtkdbakhcpciacaaGreatDoorB10
set_option linter.unusedVariables false
set_option linter.unusedSimpArgs false
set_option linter.unusedSectionVars false
namespace Go.Am.CS
set_option maxRecDepth 100000
open Go Go.Am
variable {E : Nat → Option AFn} {Y : Nat → List Value → FM → Nat → OR FM}
def candB (S : Nat) (z : Int) (l : List Bnd) (j : Nat) : Prop := ∃ h : j < l.length, (j : Int) ≠ z ∧ 0 < l[j].used ∧ l[j].live < S
def ChI (S : Nat) (z : Int) (l : List Bnd) (j : Nat) (best : Int) : Prop := (best = -1 ∧ ∀ k, k < j → ¬ candB S z l k) ∨ (∃ k : Nat, best = (k : Int) ∧ k < j ∧ candB S z l k)
theorem choose_L0 (h138 : E 138 = some ac138) (h171 : E 171 = some ac171) (h173 : E 173 = some ac173) (h174 : E 174 = some ac174) {i : Ids} {pb : Nat} {m : FM} {n : Nat} {v : Value} {l : List Bnd} (h : BsW i pb m n v l) {S : Nat} (hS1 : 1 ≤ S) (hS : S ≤ 100) (ho : BOk S l) (now z : Int) (x4 x5 x6 x7 : Value) {Q : AX → List Value → FM → Nat → Nat → Prop}
    (hQ : ∀ best x1 x2 M N w, ChI S z l l.length best → Nat.mod w (bit n) = 0 → Q (.exit 0) [.int .i64 best, x1, x2, x4, x5, x6, x7, v, .int .i64 (S : Int), .int .u64 now, .int .i64 z] M N w) :
    ∀ (d j : Nat), j + d = l.length → ∀ (best : Int) (x2 : Value) (M : FM) (N w0 : Nat), ChI S z l j best → n ≤ N → (∀ b, b < n → M b = m b) → Nat.mod w0 (bit n) = 0 →
    Gv (execW PG E Y ac99L0 [.int .i64 best, .int .i64 (j : Int), x2, .int .i64 (l.length : Int), x4, x5, x6, x7, v, .int .i64 (S : Int), .int .u64 now, .int .i64 z] M N) fun X e m n w => Q X e m n (Nat.lor w0 w) := by
  obtain ⟨p1, p2, p3, p4⟩ := h.p
  obtain ⟨ab, hi, hab, _, _, opn, wr, hma⟩ := h.at
  have hl5 : l.length ≤ 5 := by obtain ⟨_, _, _, _, _, _, _, _, _, _, h7⟩ := h; exact h7
  intro d
  induction d with
  | zero =>
    intro j hj best x2 M N w0 hI hN hf hw
    refine wr_loopN (L := ac99L0) (b := ac99L0b) rfl ?_
    simp only [ac99L0b]
    obtain rfl : j = l.length := by omega
    simp (implicitDefEqProofs := false) (disch := omega) only [W2, opds, Nat.testBit, Nat.reduceAdd, Nat.reduceShiftRight, Nat.reduceAnd, Nat.reduceBNe, Nat.reduceMul]
    exact hQ _ _ _ _ _ _ hI hw
  | succ d ih =>
    intro j hj best x2 M N w0 hI hN hf hw
    have hj1 : j < l.length := by omega
    obtain ⟨c1, c2, c3, c4, c5⟩ := bcells_at hj1
    have hix := hi j hj1
    have hmM := (hf ab hab).trans hma
    refine wr_loopN (L := ac99L0) (b := ac99L0b) rfl ?_
    simp only [ac99L0b]
    generalize hM1 : (AMem.put M N (some (.cells [.int .i64 (l[j].used : Int), .int .i64 (l[j].live : Int), .int .u64 l[j].age, .int .u64 l[j].wear] 0 false true)) : FM) = M1
    have l1 : ∀ b, b < N → M1 b = M b := fun b hb => by rw [← hM1, fput_ne _ _ _ _ (by omega)]
    have l0 : M1 N = some (.cells [.int .i64 (l[j].used : Int), .int .i64 (l[j].live : Int), .int .u64 l[j].age, .int .u64 l[j].wear] 0 false true) := by rw [← hM1]; exact fput_same _ _ _
    have hmM1 := (l1 ab (by omega)).trans hmM
    have p5 := h.bel (N + 1) (by omega)
    have oj := ho _ (List.getElem_mem hj1)
    have fin : ∀ z', ChI S z l (j + 1) z' → Wr PG E Y [] (Nat.lor (bit N) (bit N)) (execW PG E Y ac99L0 [.int .i64 z', .int .i64 ((j + 1 : Nat) : Int), x2, .int .i64 (l.length : Int), x4, x5, x6, x7, v, .int .i64 (S : Int), .int .u64 now, .int .i64 z] M1 (N + 1)) fun X e m n w => Q X e m n (Nat.lor w0 w) := fun z' hz => by
      refine wr_end (ih (j + 1) (by omega) _ _ _ _ (Nat.lor w0 (Nat.lor (bit N) (bit N))) hz (by omega) (fun b h1 => by rw [l1 b (by omega), hf b h1]) (by simp only [frz_iff]; exact ⟨hw, frz_bit (by omega), frz_bit (by omega)⟩)) fun X e m n w hq => ?_
      rw [show Nat.lor w0 (Nat.lor (Nat.lor (bit N) (bit N)) w) = Nat.lor (Nat.lor w0 (Nat.lor (bit N) (bit N))) w from (lor_assoc' _ _ _).symm]
      exact hq
    have skip : ¬ candB S z l j → ChI S z l (j + 1) best := fun hc => by
      rcases hI with ⟨e, hn⟩ | ⟨k, e, hk, hc'⟩
      · refine .inl ⟨e, fun k hk => ?_⟩
        by_cases e2 : k = j
        · subst e2; exact hc
        · exact hn k (by omega)
      · exact .inr ⟨k, e, by omega, hc'⟩
    have keepI : ∀ k : Nat, best = (k : Int) → ChI S z l (j + 1) best := fun k e => by
      rcases hI with ⟨e', hn⟩ | ⟨k, e, hk, hc'⟩
      · omega
      · exact .inr ⟨k, e, by omega, hc'⟩
    by_cases hz : (j : Int) = z
    · simp (implicitDefEqProofs := false) (disch := omega) only [W2, opds, Nat.testBit, Nat.reduceAdd, Nat.reduceShiftRight, Nat.reduceAnd, Nat.reduceBNe, Nat.reduceMul, p2, hix, hmM, c1, hM1, l0]
      exact fin _ (skip fun ⟨_, q, _⟩ => q hz)
    · by_cases hu : l[j].used = 0
      · simp (implicitDefEqProofs := false) (disch := omega) only [W2, opds, Nat.testBit, Nat.reduceAdd, Nat.reduceShiftRight, Nat.reduceAnd, Nat.reduceBNe, Nat.reduceMul, p2, hix, hmM, c1, hM1, l0]
        exact fin _ (skip fun ⟨_, _, q, _⟩ => by omega)
      · by_cases hlv : S ≤ l[j].live
        · simp (implicitDefEqProofs := false) (disch := omega) only [W2, opds, Nat.testBit, Nat.reduceAdd, Nat.reduceShiftRight, Nat.reduceAnd, Nat.reduceBNe, Nat.reduceMul, p2, hix, hmM, c1, hM1, l0]
          exact fin _ (skip fun ⟨_, _, _, q⟩ => by omega)
        · have hcand : candB S z l j := ⟨hj1, hz, by omega, by omega⟩
          have here : ChI S z l (j + 1) (j : Int) := .inr ⟨j, rfl, by omega, hcand⟩
          rcases hI with ⟨rfl, hn⟩ | ⟨k, rfl, hk, hc'⟩
          · simp (implicitDefEqProofs := false) (disch := omega) only [W2, opds, Nat.testBit, Nat.reduceAdd, Nat.reduceShiftRight, Nat.reduceAnd, Nat.reduceBNe, Nat.reduceMul, p2, hix, hmM, c1, hM1, l0]
            exact fin _ here
          · have hk1 : k < l.length := by omega
            obtain ⟨d1, d2, d3, d4, d5⟩ := bcells_at hk1
            have hik := hi k hk1
            have ok := ho _ (List.getElem_mem hk1)
            obtain ⟨r1, hb1⟩ := better_spec (Y := Y) h138 h171 h173 h174 M1 (N + 1) l[j] l[k] now (by omega) (by omega) hS1 hS
            obtain ⟨r2, hb2⟩ := better_spec (Y := Y) h138 h171 h173 h174 M1 (N + 1) l[k] l[j] now (by omega) (by omega) hS1 hS
            simp (implicitDefEqProofs := false) (disch := omega) only [W2, opds, Nat.testBit, Nat.reduceAdd, Nat.reduceShiftRight, Nat.reduceAnd, Nat.reduceBNe, Nat.reduceMul, p2, p5, hix, hmM, c1, hM1, l0, hik, hmM1, d1]
            refine use_pureX hb1 fun q1 => ?_
            cases r1
            · simp (implicitDefEqProofs := false) (disch := omega) only [W2, opds, Nat.testBit, Nat.reduceAdd, Nat.reduceShiftRight, Nat.reduceAnd, Nat.reduceBNe, Nat.reduceMul, p2, p5, hix, hmM, c1, hM1, l0, hik, hmM1, d1]
              refine use_pureX hb2 fun q2 => ?_
              cases r2
              · by_cases hlt : l[j].wear < l[k].wear
                · simp (implicitDefEqProofs := false) (disch := omega) only [W2, opds, Nat.testBit, Nat.reduceAdd, Nat.reduceShiftRight, Nat.reduceAnd, Nat.reduceBNe, Nat.reduceMul, p2, p5, hix, hmM, c1, hM1, l0, hik, hmM1, d1, d5]
                  exact fin _ here
                · simp (implicitDefEqProofs := false) (disch := omega) only [W2, opds, Nat.testBit, Nat.reduceAdd, Nat.reduceShiftRight, Nat.reduceAnd, Nat.reduceBNe, Nat.reduceMul, p2, p5, hix, hmM, c1, hM1, l0, hik, hmM1, d1, d5]
                  exact fin _ (.inr ⟨k, rfl, by omega, hc'⟩)
              · simp (implicitDefEqProofs := false) (disch := omega) only [W2, opds, Nat.testBit, Nat.reduceAdd, Nat.reduceShiftRight, Nat.reduceAnd, Nat.reduceBNe, Nat.reduceMul, p2, p5, hix, hmM, c1, hM1, l0, hik, hmM1, d1, d5]
                exact fin _ (.inr ⟨k, rfl, by omega, hc'⟩)
            · simp (implicitDefEqProofs := false) (disch := omega) only [W2, opds, Nat.testBit, Nat.reduceAdd, Nat.reduceShiftRight, Nat.reduceAnd, Nat.reduceBNe, Nat.reduceMul, p2, p5, hix, hmM, c1, hM1, l0, hik, hmM1, d1]
              exact fin _ here
theorem choose_spec (hE : E 99 = some ac99) (h137 : E 137 = some ac137) (h169 : E 169 = some ac169) (h192 : E 192 = some ac192) (h170 : E 170 = some ac170) (h138 : E 138 = some ac138) (h171 : E 171 = some ac171) (h173 : E 173 = some ac173) (h174 : E 174 = some ac174) {i : Ids} {pb : Nat} {m : FM} {n : Nat} {v : Value} {l : List Bnd} (h : BsW i pb m n v l) {S : Nat} (hS1 : 1 ≤ S) (hS : S ≤ 100) (ho : BOk S l) (now z : Int) (hex : ∃ k, candB S z l k) : ∃ k : Nat, candB S z l k ∧ Pure (callW PG E Y 99 [v, .int .i64 (S : Int), .int .u64 now, .int .i64 z] m n) m n (.tuple #[.int .i64 (k : Int), .int .i64 0]) := by
  obtain ⟨p1, p2, p3, p4⟩ := h.p
  obtain ⟨r, ⟨k, rfl, hk⟩, hp⟩ := pure_specE (P := PG) (E := E) (Y := Y) (m := m) (n := n) (args := [v, .int .i64 (S : Int), .int .u64 now, .int .i64 z]) (S := fun r => ∃ k : Nat, r = .tuple #[.int .i64 (k : Int), .int .i64 0] ∧ candB S z l k) hE rfl (fun r hS => by obtain ⟨k, rfl, _⟩ := hS; rfl) (by
    simp only [ac99]
    simp (implicitDefEqProofs := false) (disch := omega) only [W2, opds, Nat.testBit, Nat.reduceAdd, Nat.reduceShiftRight, Nat.reduceAnd, Nat.reduceBNe, Nat.reduceMul, p2]
    refine use_pure (bvalid_spec h137 h169 h192 h170 h hS1 hS ho) fun r1 => ?_
    simp (implicitDefEqProofs := false) (disch := omega) only [W2, opds, Nat.testBit, Nat.reduceAdd, Nat.reduceShiftRight, Nat.reduceAnd, Nat.reduceBNe, Nat.reduceMul, p1, p2]
    refine wr_kont ((choose_L0 h138 h171 h173 h174 h hS1 hS ho now z _ _ _ _ (fun best x1 x2 M N w hI hw => ?_) l.length 0 (Nat.zero_add _) (-1) _ m n 0 (.inl ⟨rfl, fun k hk => absurd hk (Nat.not_lt_zero _)⟩) (Nat.le_refl _) (fun _ _ => rfl) (frz_zero _)).mono fun X e m' n' w hq => by simpa only [zero_lor'] using hq)
    intro rr
    rcases hI with ⟨_, hn⟩ | ⟨k, rfl, hk, hc⟩
    · obtain ⟨k, hc⟩ := hex
      exact absurd hc (hn k hc.1)
    · simp (implicitDefEqProofs := false) (disch := omega) only [W2, opds, Nat.testBit, Nat.reduceAdd, Nat.reduceShiftRight, Nat.reduceAnd, Nat.reduceBNe, Nat.reduceMul]
      exact ⟨⟨_, rfl, k, rfl, hc⟩, hw⟩)
  exact ⟨k, hk, hp⟩
end Go.Am.CS
namespace Go.Am.CS
set_option maxRecDepth 100000
open Go Go.Am
variable {E : Nat → Option AFn} {Y : Nat → List Value → FM → Nat → OR FM}
theorem shr1_ex (a : Int) : ∃ z, bitV PG .shr 37 (.int .u64 a) (.int .u64 1) = some (.int .u64 z) := ⟨_, rfl⟩
noncomputable def shr1Z (a : Int) : Int := (shr1_ex a).choose
theorem shr1_eq (a : Int) : bitV PG .shr 37 (.int .u64 a) (.int .u64 1) = some (.int .u64 (shr1Z a)) := (shr1_ex a).choose_spec
theorem xor_ex (a b : Int) : ∃ z, bitV PG .xor 37 (.int .u64 a) (.int .u64 b) = some (.int .u64 z) := ⟨_, rfl⟩
noncomputable def xorZ (a b : Int) : Int := (xor_ex a b).choose
theorem xor_eq (a b : Int) : bitV PG .xor 37 (.int .u64 a) (.int .u64 b) = some (.int .u64 (xorZ a b)) := (xor_ex a b).choose_spec
theorem wrap_u64 (a : Int) : 0 ≤ IntKind.u64.wrap a ∧ IntKind.u64.wrap a < 18446744073709551616 := by
  have e : IntKind.u64.wrap a = a % 18446744073709551616 := by simp [IntKind.wrap, IntKind.signed, IntKind.bits]
  rw [e]
  exact ⟨Int.emod_nonneg _ (by decide), Int.emod_lt_of_pos _ (by decide)⟩
theorem cv8_ex (a : Int) : ∃ z, convV .u64 (.int .u8 a) = some (.int .u64 z) := ⟨_, rfl⟩
noncomputable def cv8Z (a : Int) : Int := (cv8_ex a).choose
theorem cv8_eq (a : Int) : convV .u64 (.int .u8 a) = some (.int .u64 (cv8Z a)) := (cv8_ex a).choose_spec
noncomputable def stepF (x : Int) : Int := if andZ x 1 = 1 then xorZ (shr1Z x) 14514072000185962306 else shr1Z x
theorem step_spec (hE : E 168 = some ac168) (m : FM) (n : Nat) (x : Int) : Pure (callW PG E Y 168 [.int .u64 x] m n) m n (.int .u64 (stepF x)) := by
  refine pure_spec hE rfl rfl ?_
  simp only [ac168]
  by_cases h : andZ x 1 = 1
  · rw [show stepF x = xorZ (shr1Z x) 14514072000185962306 from if_pos h]
    simp (implicitDefEqProofs := false) (disch := omega) only [W2, opds, Nat.testBit, Nat.reduceAdd, Nat.reduceShiftRight, Nat.reduceAnd, Nat.reduceBNe, Nat.reduceMul, s_bit, and_eq, shr1_eq, xor_eq]
  · rw [show stepF x = shr1Z x from if_neg h]
    simp (implicitDefEqProofs := false) (disch := omega) only [W2, opds, Nat.testBit, Nat.reduceAdd, Nat.reduceShiftRight, Nat.reduceAnd, Nat.reduceBNe, Nat.reduceMul, s_bit, and_eq, shr1_eq, xor_eq]
noncomputable def stepsF : Nat → Int → Int
  | 0, x => x
  | k + 1, x => stepF (stepsF k x)
theorem step_L0 (hE : E 168 = some ac168) {m : FM} {n : Nat} (x : Int) (x3 x4 x5 x6 x7 x8 x9 x10 x11 x12 x13 x14 x15 : Value) {Q : AX → List Value → FM → Nat → Nat → Prop}
    (hQ : ∀ x1 x2, Q (.exit 2) [.int .u64 (stepsF 8 x), x1, x2, x3, x4, x5, x6, x7, x8, x9, x10, x11, x12, x13, x14, x15] m n 0) :
    ∀ (d j : Nat), j + d = 8 → ∀ (x2 : Value), Gv (execW PG E Y ac134L0 [.int .u64 (stepsF j x), .int .i64 (j : Int), x2, x3, x4, x5, x6, x7, x8, x9, x10, x11, x12, x13, x14, x15] m n) Q := by
  intro d
  induction d with
  | zero =>
    intro j hj x2
    refine wr_loopN (L := ac134L0) (b := ac134L0b) rfl ?_
    simp only [ac134L0b]
    obtain rfl : j = 8 := by omega
    simp (implicitDefEqProofs := false) (disch := omega) only [W2, opds, Nat.testBit, Nat.reduceAdd, Nat.reduceShiftRight, Nat.reduceAnd, Nat.reduceBNe, Nat.reduceMul]
    exact hQ _ _
  | succ d ih =>
    intro j hj x2
    refine wr_loopN (L := ac134L0) (b := ac134L0b) rfl ?_
    simp only [ac134L0b]
    simp (implicitDefEqProofs := false) (disch := omega) only [W2, opds, Nat.testBit, Nat.reduceAdd, Nat.reduceShiftRight, Nat.reduceAnd, Nat.reduceBNe, Nat.reduceMul]
    refine use_pure (step_spec hE _ _ _) fun r1 => ?_
    simp (implicitDefEqProofs := false) (disch := omega) only [W2, opds, Nat.testBit, Nat.reduceAdd, Nat.reduceShiftRight, Nat.reduceAnd, Nat.reduceBNe, Nat.reduceMul]
    refine wr_end (ih (j + 1) (by omega) _) fun X e m n w hq => ?_
    rwa [zero_lor']
noncomputable def updF : List Int → Int → Int
  | [], x => x
  | c :: cs, x => updF cs (stepsF 8 (xorZ x (cv8Z c)))
theorem updF_snoc : ∀ (cs : List Int) (c x : Int), updF (cs ++ [c]) x = stepsF 8 (xorZ (updF cs x) (cv8Z c))
  | [], c, x => rfl
  | d :: cs, c, x => updF_snoc cs c _
def u8s (us : List Int) : List Value := us.map (Value.int .u8)
theorem upd_L1 (hE : E 168 = some ac168) {m : FM} {n : Nat} {v : Value} {us : List Int} (h : Sh 1 m n v us.length (u8s us)) (x : Int) (x4 x5 x6 : Value) (hl : us.length ≤ 1000) {Q : AX → List Value → FM → Nat → Nat → Prop}
    (hQ : ∀ x1 x2, Q (.exit 0) [.int .u64 (updF us x), x1, x2, x4, x5, x6, v] m n 0) :
    ∀ (d j : Nat), j + d = us.length → ∀ (x2 : Value), Gv (execW PG E Y ac134L1 [.int .u64 (updF (us.take j) x), .int .i64 (j : Int), x2, .int .i64 (us.length : Int), x4, x5, x6, v] m n) Q := by
  have hvo := h.one
  obtain ⟨b, o, c, xs, opn, wr, hv, hb, hm, hcs, h0⟩ := h
  intro d
  induction d with
  | zero =>
    intro j hj x2
    refine wr_loopN (L := ac134L1) (b := ac134L1b) rfl ?_
    simp only [ac134L1b]
    obtain rfl : j = us.length := by omega
    rw [List.take_length]
    simp (implicitDefEqProofs := false) (disch := omega) only [W2, opds, Nat.testBit, Nat.reduceAdd, Nat.reduceShiftRight, Nat.reduceAnd, Nat.reduceBNe, Nat.reduceMul]
    exact hQ _ _
  | succ d ih =>
    intro j hj x2
    have hj1 : j < us.length := by omega
    have hix : idxV 1 j v = some (.pointer (some ⟨b, o + j, none⟩)) := by rw [hv, idx_mk hj1, Nat.mul_one]
    have hat : cget xs (o + j) = some (.int .u8 us[j]) := by
      obtain ⟨e1, e2, e3⟩ := cellsAt_some hcs
      rw [cget_eq, ← e3 j (by omega), u8s, List.getElem?_map, List.getElem?_eq_getElem hj1]
      rfl
    refine wr_loopN (L := ac134L1) (b := ac134L1b) rfl ?_
    simp only [ac134L1b]
    simp (implicitDefEqProofs := false) (disch := omega) only [W2, opds, Nat.testBit, Nat.reduceAdd, Nat.reduceShiftRight, Nat.reduceAnd, Nat.reduceBNe, Nat.reduceMul, hix, hm, hat, cv8_eq, s_bit, xor_eq, hvo]
    refine wr_kont ((step_L0 hE (xorZ (updF (us.take j) x) (cv8Z us[j])) _ _ _ _ _ _ _ _ _ _ _ _ _ (fun x1 x2 => ?_) 8 0 rfl (.int .i64 0)).mono fun X e m' n' w hq => by simpa only [zero_lor'] using hq)
    intro rr
    have e : stepsF 8 (xorZ (updF (us.take j) x) (cv8Z us[j])) = updF (us.take (j + 1)) x := by rw [← updF_snoc, show us.take j ++ [us[j]] = us.take (j + 1) from (List.take_succ_eq_append_getElem hj1).symm]
    simp (implicitDefEqProofs := false) (disch := omega) only [W2, opds, Nat.testBit, Nat.reduceAdd, Nat.reduceShiftRight, Nat.reduceAnd, Nat.reduceBNe, Nat.reduceMul]
    rw [e]
    refine wr_end (ih (j + 1) (by omega) _) fun X e m n w hq => ?_
    rwa [zero_lor']
theorem upd_spec (hE : E 134 = some ac134) (h168 : E 168 = some ac168) {m : FM} {n : Nat} {v : Value} {us : List Int} (h : Sh 1 m n v us.length (u8s us)) (hl : us.length ≤ 1000) (x : Int) : Pure (callW PG E Y 134 [.int .u64 x, v] m n) m n (.int .u64 (notI .u64 (updF us (notI .u64 x)))) := by
  have hvo := h.one
  refine pure_spec hE rfl rfl ?_
  simp only [ac134]
  simp (implicitDefEqProofs := false) (disch := omega) only [W2, opds, Nat.testBit, Nat.reduceAdd, Nat.reduceShiftRight, Nat.reduceAnd, Nat.reduceBNe, Nat.reduceMul, h.len, hvo, show ∀ a : Int, unaV .xor (.int .u64 a) = some (.int .u64 (notI .u64 a)) from fun _ => rfl]
  refine wr_kont ((upd_L1 h168 h (notI .u64 x) _ _ _ hl (fun x1 x2 => ?_) us.length 0 (Nat.zero_add _) (.int .i64 0)).mono fun X e m' n' w hq => by simpa only [zero_lor'] using hq)
  intro rr
  simp (implicitDefEqProofs := false) (disch := omega) only [W2, opds, Nat.testBit, Nat.reduceAdd, Nat.reduceShiftRight, Nat.reduceAnd, Nat.reduceBNe, Nat.reduceMul, show ∀ a : Int, unaV .xor (.int .u64 a) = some (.int .u64 (notI .u64 a)) from fun _ => rfl]
noncomputable def crcF (us : List Int) : Int := notI .u64 (updF us (notI .u64 0))
theorem crc_rng (us : List Int) : 0 ≤ crcF us ∧ crcF us < 18446744073709551616 := wrap_u64 _
theorem sum_spec (hE : E 92 = some ac92) (h134 : E 134 = some ac134) (h168 : E 168 = some ac168) {m : FM} {n : Nat} {v : Value} {us : List Int} (h : Sh 1 m n v us.length (u8s us)) (hl : us.length ≤ 1000) : Pure (callW PG E Y 92 [v] m n) m n (.int .u64 (crcF us)) := by
  have hvo := h.one
  refine pure_spec hE rfl rfl ?_
  simp only [ac92]
  simp (implicitDefEqProofs := false) (disch := omega) only [W2, opds, Nat.testBit, Nat.reduceAdd, Nat.reduceShiftRight, Nat.reduceAnd, Nat.reduceBNe, Nat.reduceMul, hvo]
  refine use_pure (upd_spec h134 h168 h hl 0) fun r1 => ?_
  simp (implicitDefEqProofs := false) (disch := omega) only [W2, opds, Nat.testBit, Nat.reduceAdd, Nat.reduceShiftRight, Nat.reduceAnd, Nat.reduceBNe, Nat.reduceMul]
  rfl
end Go.Am.CS
namespace Go.Am.CS
set_option maxRecDepth 100000
open Go Go.Am
variable {E : Nat → Option AFn} {Y : Nat → List Value → FM → Nat → OR FM}
theorem shr_k (a : Int) (k : Nat) (hk : k ≤ 64) : bitV PG .shr 37 (.int .u64 a) (.int .i64 (k : Int)) = some (.int .u64 (a / 2 ^ k)) := by
  show flatO (pureRun PG (eqGuard .shr 37 (.tmp 0) (.tmp 0) (.int .u64 a) (.int .i64 (k : Int)) >>= fun _ => Op.shift .shr .u64 a .i64 (k : Int))) = _
  rw [shift_shr_any .u64 .i64 a k (Int.natCast_nonneg k)]
  show some (Value.int .u64 (a / 2 ^ min (k : Int).toNat 64)) = _
  rw [Int.toNat_natCast, Nat.min_eq_left hk]
theorem shl_k (a : Int) (k : Nat) (hk : k ≤ 64) : bitV PG .shl 37 (.int .u64 a) (.int .i64 (k : Int)) = some (.int .u64 (IntKind.u64.wrap (a * 2 ^ k))) := by
  show flatO (pureRun PG (eqGuard .shl 37 (.tmp 0) (.tmp 0) (.int .u64 a) (.int .i64 (k : Int)) >>= fun _ => Op.shift .shl .u64 a .i64 (k : Int))) = _
  rw [shift_shl_any .u64 .i64 a k (Int.natCast_nonneg k)]
  show some (Value.int .u64 (IntKind.u64.wrap (a * 2 ^ min (k : Int).toNat 64))) = _
  rw [Int.toNat_natCast, Nat.min_eq_left hk]
def byteZ (a : Int) (i : Nat) : Int := wrapF .u8 (a / 2 ^ (8 * i))
def bytesZ (a : Int) (k : Nat) : List Int := (List.range k).map (byteZ a)
theorem conv8 (a : Int) : convV .u8 (.int .u64 a) = some (.int .u8 (wrapF .u8 a)) := rfl
theorem put_L0 {m0 : FM} {n0 : Nat} {a : Int} {k : Nat} (hk : k ≤ 8) {cs0 : List Value} {l0 : Nat} (hl0 : l0 ≤ 1000) (x4 x5 : Value) {Q : AX → List Value → FM → Nat → Nat → Prop}
    (hQ : ∀ (x2 v : Value) M N w, n0 ≤ N → (∀ b, b < n0 → M b = m0 b) → (∀ j, j ≤ n0 → Nat.mod w (bit j) = 0) → SlZ 1 M n0 N v (l0 + k) (cs0 ++ u8s (bytesZ a k)) → Q (.exit 0) [v, x2, x4, x5, .int .u64 a, .int .i64 (k : Int)] M N w) :
    ∀ (d j : Nat), j + d = k → ∀ (v x2 : Value) (M : FM) (N w0 : Nat), n0 ≤ N → (∀ b, b < n0 → M b = m0 b) → (∀ j, j ≤ n0 → Nat.mod w0 (bit j) = 0) → SlZ 1 M n0 N v (l0 + j) (cs0 ++ u8s (bytesZ a j)) →
    Gv (execW PG E Y ac147L0 [v, .int .i64 (j : Int), x2, x4, x5, .int .u64 a, .int .i64 (k : Int)] M N) fun X e m n w => Q X e m n (Nat.lor w0 w) := by
  intro d
  induction d with
  | zero =>
    intro j hj v x2 M N w0 hN hf hw hS
    refine wr_loopN (L := ac147L0) (b := ac147L0b) rfl ?_
    simp only [ac147L0b]
    obtain rfl : j = k := by omega
    simp (implicitDefEqProofs := false) (disch := omega) only [W2, opds, Nat.testBit, Nat.reduceAdd, Nat.reduceShiftRight, Nat.reduceAnd, Nat.reduceBNe, Nat.reduceMul]
    exact hQ _ _ _ _ _ hN hf hw hS
  | succ d ih =>
    intro j hj v x2 M N w0 hN hf hw hS
    have hone := hS.one
    refine wr_loopN (L := ac147L0) (b := ac147L0b) rfl ?_
    simp only [ac147L0b]
    have hsh : bitV PG .shr 37 (.int .u64 a) (.int .i64 (8 * (j : Int))) = some (.int .u64 (a / 2 ^ (8 * j))) := by rw [show 8 * (j : Int) = ((8 * j : Nat) : Int) by omega]; exact shr_k a (8 * j) (by omega)
    simp (implicitDefEqProofs := false) (disch := omega) only [W2, opds, Nat.testBit, Nat.reduceAdd, Nat.reduceShiftRight, Nat.reduceAnd, Nat.reduceBNe, Nat.reduceMul, s_bit, hsh, conv8, hone]
    rw [show wrapF .u8 (a / 2 ^ (8 * j)) = byteZ a j from rfl]
    generalize hM1 : (AMem.put M N _ : FM) = M1
    have l1 : ∀ b, b < N → M1 b = M b := fun b hb => by rw [← hM1, fput_ne _ _ _ _ (by omega)]
    have hS1 := hS.frame (show N ≤ N + 1 by omega) fun b h1 h2 => l1 b h2
    refine use_rt (app_slZ hS1 _ _ _ (by omega) (by omega) rfl (by rfl) (by omega) (by omega)) fun v1 M2 N2 r1 w1 hh => ?_
    obtain ⟨hv1, hn1, hs1, hl1, hw1⟩ := hh
    subst hn1
    have e1 : cs0 ++ u8s (bytesZ a j) ++ [Value.int .u8 (byteZ a j)] = cs0 ++ u8s (bytesZ a (j + 1)) := by
      rw [List.append_assoc, bytesZ, bytesZ, List.range_succ, List.map_append, u8s, u8s, List.map_append]; rfl
    rw [e1] at hs1
    simp (implicitDefEqProofs := false) (disch := omega) only [W2, opds, Nat.testBit, Nat.reduceAdd, Nat.reduceShiftRight, Nat.reduceAnd, Nat.reduceBNe, Nat.reduceMul]
    refine wr_end (ih (j + 1) (by omega) v1 _ M2 _ (Nat.lor w0 (Nat.lor (bit N) w1)) (by omega) (fun b hb => by rw [hl1 b hb, l1 b (by omega), hf b hb]) (fun i hi => by simp only [frz_iff]; exact ⟨hw i hi, frz_bit (by omega), hw1 i hi⟩) hs1) fun X e m n w hq => ?_
    rw [show Nat.lor w0 (Nat.lor (Nat.lor (bit N) w1) w) = Nat.lor (Nat.lor w0 (Nat.lor (bit N) w1)) w from (lor_assoc' _ _ _).symm]
    exact hq
theorem ret_spec {P : Program} {m : FM} {n : Nat} {f : Nat} {fn : AFn} {args : List Value} {R : Value → FM → Nat → Nat → Prop} (hE : E f = some fn) (ha : llen args = fn.na) (h : ∀ Q : AX → List Value → FM → Nat → Nat → Prop, (∀ v e m' n' w, addrFree v = false → R v m' n' w → Q (.ret v) e m' n' w) → Wr P E Y [] 0 (execW P E Y fn.code args m n) Q) : Rt (callW P E Y f args m n) R := by
  rw [callW_fn hE ha]
  obtain ⟨X, e', m', n', r, w, hx, v, rfl, h1, h2⟩ := Gv_some (wr_start (h (fun X _ m' n' w => ∃ v, X = .ret v ∧ addrFree v = false ∧ R v m' n' w) fun v _ m' n' w k1 k2 => ⟨v, rfl, k1, k2⟩))
  rw [hx, leave_ret, leaveA_keep h1]
  exact h2
theorem put_spec (hE : E 147 = some ac147) {m : FM} {n n0 : Nat} (hn : n0 ≤ n) {a : Int} {k : Nat} (hk : k ≤ 8) (hk0 : 0 < k) {v : Value} {l0 : Nat} {cs0 : List Value} (hl0 : l0 ≤ 1000) (h : SlZ 1 m n0 n v l0 cs0) :
    Rt (callW PG E Y 147 [v, .int .u64 a, .int .i64 (k : Int)] m n) fun v' m' n' w => n0 ≤ n' ∧ (∀ b, b < n0 → m' b = m b) ∧ (∀ j, j ≤ n0 → Nat.mod w (bit j) = 0) ∧ SlZ 1 m' n0 n' v' (l0 + k) (cs0 ++ u8s (bytesZ a k)) := by
  refine ret_spec hE rfl fun Q hQ => ?_
  have hone := h.one
  simp only [ac147]
  simp (implicitDefEqProofs := false) (disch := omega) only [W2, opds, Nat.testBit, Nat.reduceAdd, Nat.reduceShiftRight, Nat.reduceAnd, Nat.reduceBNe, Nat.reduceMul]
  refine wr_kont ((put_L0 hk hl0 _ _ (fun x2 v1 M N w hN hf hw hS => ?_) k 0 (Nat.zero_add _) v (.int .i64 0) m n 0 hn (fun _ _ => rfl) (fun j _ => frz_zero _) (by simpa [bytesZ, u8s] using h)).mono fun X e m' n' w hq => by simpa only [zero_lor'] using hq)
  intro rr
  have h1 := hS.one
  simp (implicitDefEqProofs := false) (disch := omega) only [W2, opds, Nat.testBit, Nat.reduceAdd, Nat.reduceShiftRight, Nat.reduceAnd, Nat.reduceBNe, Nat.reduceMul]
  refine hQ _ _ _ _ _ ?_ ⟨hN, hf, by simpa only [zero_lor'] using hw, hS⟩
  rcases hS with ⟨q, _⟩ | ⟨_, _, b, rfl, _⟩
  · omega
  · rfl
end Go.Am.CS
namespace Go.Am.CS
set_option maxRecDepth 100000
open Go Go.Am
variable {E : Nat → Option AFn} {Y : Nat → List Value → FM → Nat → OR FM}
def sumN (ns : List Nat) : Nat → Nat
  | 0 => 0
  | j + 1 => sumN ns j + (ns[j]?.getD 0) * 2 ^ (8 * j)
theorem sumN_lt {ns : List Nat} (h : ∀ x ∈ ns, x < 256) : ∀ j, j ≤ ns.length → sumN ns j < 2 ^ (8 * j)
  | 0, _ => by simp [sumN]
  | j + 1, hj => by
    have h1 := sumN_lt h j (by omega)
    have h2 : ns[j] < 256 := h _ (List.getElem_mem (by omega))
    rw [sumN, List.getElem?_eq_getElem (by omega), Option.getD_some, show 8 * (j + 1) = 8 * j + 8 by omega, Nat.pow_add]
    have h3 : ns[j] * 2 ^ (8 * j) ≤ 255 * 2 ^ (8 * j) := Nat.mul_le_mul_right _ (by omega)
    omega
theorem or_eq (a b : Int) : bitV PG .or 37 (.int .u64 a) (.int .u64 b) = some (.int .u64 (IntKind.u64.wrap ((BitVec.ofInt 64 a ||| BitVec.ofInt 64 b).toNat : Int))) := rfl
theorem or_nat {A u k : Nat} (hA : A < 2 ^ k) (hk : A + u * 2 ^ k < 2 ^ 64) : bitV PG .or 37 (.int .u64 (A : Int)) (.int .u64 ((u * 2 ^ k : Nat) : Int)) = some (.int .u64 ((A + u * 2 ^ k : Nat) : Int)) := by
  rw [or_eq]
  have e1 : (BitVec.ofInt 64 (A : Int) ||| BitVec.ofInt 64 ((u * 2 ^ k : Nat) : Int)).toNat = A + u * 2 ^ k := by
    rw [BitVec.toNat_or, BitVec.ofInt_natCast, BitVec.ofInt_natCast, BitVec.toNat_ofNat, BitVec.toNat_ofNat, Nat.mod_eq_of_lt (by omega), Nat.mod_eq_of_lt (by omega), Nat.mul_comm u, Nat.or_comm, ← Nat.two_pow_add_eq_or_of_lt hA, Nat.add_comm]
  rw [e1]
  have e2 : IntKind.u64.wrap ((A + u * 2 ^ k : Nat) : Int) = ((A + u * 2 ^ k : Nat) : Int) := by
    have e : ∀ a : Int, IntKind.u64.wrap a = a % 18446744073709551616 := fun a => by simp [IntKind.wrap, IntKind.signed, IntKind.bits]
    rw [e]
    exact Int.emod_eq_of_lt (by omega) (by omega)
  rw [e2]
def n8s (ns : List Nat) : List Value := ns.map fun x : Nat => Value.int .u8 (x : Int)
theorem wrap_small {x : Nat} (h : x < 2 ^ 64) : IntKind.u64.wrap (x : Int) = (x : Int) := by
  have e : ∀ a : Int, IntKind.u64.wrap a = a % 18446744073709551616 := fun a => by simp [IntKind.wrap, IntKind.signed, IntKind.bits]
  rw [e]
  exact Int.emod_eq_of_lt (by omega) (by omega)
theorem cv_nat {x : Nat} (h : x < 256) : convV .u64 (.int .u8 (x : Int)) = some (.int .u64 (x : Int)) := by
  show some (Value.int .u64 (wrapF .u64 (x : Int))) = _
  rw [wrapF_eq, wrap_small (by omega)]
theorem shl_nat {x i : Nat} (hx : x < 256) (hi : i < 8) : bitV PG .shl 37 (.int .u64 (x : Int)) (.int .i64 (8 * (i : Int))) = some (.int .u64 ((x * 2 ^ (8 * i) : Nat) : Int)) := by
  rw [show 8 * (i : Int) = ((8 * i : Nat) : Int) by omega, shl_k _ _ (by omega)]
  have h1 : 2 ^ (8 * i) ≤ 2 ^ 56 := Nat.pow_le_pow_right (by omega) (by omega)
  have h2 : x * 2 ^ (8 * i) ≤ 255 * 2 ^ 56 := Nat.mul_le_mul (by omega) h1
  rw [show (x : Int) * 2 ^ (8 * i) = ((x * 2 ^ (8 * i) : Nat) : Int) by push_cast; rfl, wrap_small (by omega)]
theorem get_L0 {m : FM} {n : Nat} {v : Value} {ns : List Nat} (h : Sh 1 m n v ns.length (n8s ns)) (hb : ∀ x ∈ ns, x < 256) (hl : ns.length ≤ 8) (x4 x5 : Value) {Q : AX → List Value → FM → Nat → Nat → Prop}
    (hQ : ∀ x2, Q (.exit 0) [.int .u64 (sumN ns ns.length : Int), x2, .int .i64 (ns.length : Int), x4, x5, v] m n 0) :
    ∀ (d j : Nat), j + d = ns.length → ∀ (x2 : Value), Gv (execW PG E Y ac115L0 [.int .u64 (sumN ns j : Int), .int .i64 (j : Int), x2, .int .i64 (ns.length : Int), x4, x5, v] m n) Q := by
  have hvo := h.one
  obtain ⟨b, o, c, xs, opn, wr, hv, hbn, hm, hcs, h0⟩ := h
  intro d
  induction d with
  | zero =>
    intro j hj x2
    refine wr_loopN (L := ac115L0) (b := ac115L0b) rfl ?_
    simp only [ac115L0b]
    obtain rfl : j = ns.length := by omega
    simp (implicitDefEqProofs := false) (disch := omega) only [W2, opds, Nat.testBit, Nat.reduceAdd, Nat.reduceShiftRight, Nat.reduceAnd, Nat.reduceBNe, Nat.reduceMul]
    exact hQ _
  | succ d ih =>
    intro j hj x2
    have hj1 : j < ns.length := by omega
    have hix : idxV 1 j v = some (.pointer (some ⟨b, o + j, none⟩)) := by rw [hv, idx_mk hj1, Nat.mul_one]
    have hat : cget xs (o + j) = some (.int .u8 ((ns[j] : Nat) : Int)) := by
      obtain ⟨e1, e2, e3⟩ := cellsAt_some hcs
      rw [cget_eq, ← e3 j (by omega), n8s, List.getElem?_map, List.getElem?_eq_getElem hj1]
      rfl
    have hx := hb _ (List.getElem_mem hj1)
    have hlt := sumN_lt hb j (by omega)
    have hlt2 := sumN_lt hb (j + 1) (by omega)
    have hs : sumN ns (j + 1) = sumN ns j + ns[j] * 2 ^ (8 * j) := by rw [sumN, List.getElem?_eq_getElem hj1, Option.getD_some]
    have h64 : 2 ^ (8 * (j + 1)) ≤ 2 ^ 64 := Nat.pow_le_pow_right (by omega) (by omega)
    have hor := or_nat (u := ns[j]) hlt (by omega)
    rw [← hs] at hor
    refine wr_loopN (L := ac115L0) (b := ac115L0b) rfl ?_
    simp only [ac115L0b]
    simp (implicitDefEqProofs := false) (disch := omega) only [W2, opds, Nat.testBit, Nat.reduceAdd, Nat.reduceShiftRight, Nat.reduceAnd, Nat.reduceBNe, Nat.reduceMul, hix, hm, hat, cv_nat hx, s_bit, shl_nat hx (show j < 8 by omega), hor, hvo]
    refine wr_end (ih (j + 1) (by omega) _) fun X e m n w hq => ?_
    rwa [zero_lor']
theorem get_spec (hE : E 115 = some ac115) {m : FM} {n : Nat} {v : Value} {ns : List Nat} (h : Sh 1 m n v ns.length (n8s ns)) (hb : ∀ x ∈ ns, x < 256) (hl : ns.length ≤ 8) : Pure (callW PG E Y 115 [v] m n) m n (.int .u64 (sumN ns ns.length : Int)) := by
  have hvo := h.one
  refine pure_spec hE rfl rfl ?_
  simp only [ac115]
  simp (implicitDefEqProofs := false) (disch := omega) only [W2, opds, Nat.testBit, Nat.reduceAdd, Nat.reduceShiftRight, Nat.reduceAnd, Nat.reduceBNe, Nat.reduceMul, h.len, hvo]
  refine wr_kont ((get_L0 h hb hl _ _ (fun x2 => ?_) ns.length 0 (Nat.zero_add _) (.int .i64 0)).mono fun X e m' n' w hq => by simpa only [zero_lor'] using hq)
  intro rr
  simp (implicitDefEqProofs := false) (disch := omega) only [W2, opds, Nat.testBit, Nat.reduceAdd, Nat.reduceShiftRight, Nat.reduceAnd, Nat.reduceBNe, Nat.reduceMul]
def bytesN (A k : Nat) : List Nat := (List.range k).map fun i => A / 2 ^ (8 * i) % 256
theorem bytesN_len (A k : Nat) : (bytesN A k).length = k := by rw [bytesN, List.length_map, List.length_range]
theorem bytesN_lt (A k : Nat) : ∀ x ∈ bytesN A k, x < 256 := fun x hx => by
  obtain ⟨i, _, rfl⟩ := List.mem_map.1 hx
  exact Nat.mod_lt _ (by omega)
theorem sum_bytes (A k : Nat) : ∀ j, j ≤ k → sumN (bytesN A k) j = A % 2 ^ (8 * j)
  | 0, _ => by simp [sumN, Nat.mod_one]
  | j + 1, hj => by
    rw [sumN, sum_bytes A k j (by omega), bytesN, List.getElem?_map, List.getElem?_range (by omega), Option.map_some, Option.getD_some, show 8 * (j + 1) = 8 * j + 8 by omega, Nat.pow_add, Nat.mod_mul, Nat.mul_comm (2 ^ (8 * j))]
theorem wrap8_nat (x : Nat) : wrapF .u8 (x : Int) = ((x % 256 : Nat) : Int) := by
  rw [wrapF_eq]
  have e : ∀ a : Int, IntKind.u8.wrap a = a % 256 := fun a => by simp [IntKind.wrap, IntKind.signed, IntKind.bits]
  rw [e]; omega
theorem u8s_bytes (A k : Nat) : u8s (bytesZ (A : Int) k) = n8s (bytesN A k) := by
  rw [u8s, n8s, bytesZ, bytesN, List.map_map, List.map_map]
  apply List.map_congr_left
  intro i _
  show Value.int .u8 (byteZ (A : Int) i) = _
  rw [byteZ, show (A : Int) / 2 ^ (8 * i) = ((A / 2 ^ (8 * i) : Nat) : Int) by push_cast; rfl, wrap8_nat]; rfl
end Go.Am.CS
namespace Go.Am.CS
set_option maxRecDepth 100000
open Go Go.Am
variable {E : Nat → Option AFn} {Y : Nat → List Value → FM → Nat → OR FM}
theorem app_slZn {sz k : Nat} {M : FM} {n0 N bytes : Nat} {v : Value} {len : Nat} {cs zs : List Value} (h : SlZ sz M n0 N v len cs) (ya : Option Addr) (yc ry : Nat) (h0 : n0 ≤ N) (hk : 0 < k) (hsz : 0 < sz) (hzl : zs.length = k * sz) (hz : zs.all Am.one = true) (hby : 0 < bytes) (hl : (len + k) * bytes ≤ 140737488355328) :
    Rt (appO sz bytes M N v (.slice ya k yc) (shown M N sz v) (some (zs, ry))) fun v' M' N' w => AppZ sz M n0 N (len + k) (cs ++ zs) v' M' N' w := by
  rcases h with ⟨rfl, rfl, rfl⟩ | ⟨hp, hcl, b, rfl, hb, hbN, hM⟩
  · rw [shown_nil, appO_mk, appV_mk]
    have hl' : (0 + k) * bytes ≤ 140737488355328 := by simpa using hl
    rw [show (zs, ry).1.all Am.one = true from hz, blt_true hsz, blt_true hby, ble_true hl', appG_nil (by omega)]
    exact ⟨rfl, rfl, .inr ⟨by omega, by simp [hzl], N, rfl, h0, by omega, fput_same _ _ _⟩, fun b hb => fput_ne _ _ _ _ (by omega), fun j hj => frz_bit (by omega)⟩
  · rw [shown_pos hp, getb_lt hbN, hM, shownB_mk, Nat.beq_refl, cellsAt_mk, ldrop_z, cells_all hcl.symm]
    show Rt (appO sz bytes M N _ _ (some (cs, bit b)) _) _
    rw [appO_mk, appV_mk]
    rw [show (zs, ry).1.all Am.one = true from hz, blt_true hsz, blt_true hby, ble_true hl, appG_unk, getb_lt hbN, hM, appU_mk]
    exact ⟨rfl, rfl, .inr ⟨by omega, by rw [List.length_append, hcl, hzl, Nat.add_mul], N, rfl, h0, by omega, fput_same _ _ _⟩, fun k hk => by rw [fput_ne _ _ _ _ (by omega), fput_ne _ _ _ _ (by omega)], fun j hj => by rw [frz_iff]; exact ⟨frz_bit (by omega), frz_bit (by omega)⟩⟩
theorem evalid_spec (hE : E 116 = some ac116) (m : FM) (n : Nat) {b ver d0 d1 d2 d3 d4 d5 d6 d7 : Nat} (hb : b < 65536) (hv : 1 ≤ ver) : Pure (callW PG E Y 116 [.agg #[.int .i64 1, .int .i64 (b : Int), .int .u64 (ver : Int), .int .u8 (d0 : Int), .int .u8 (d1 : Int), .int .u8 (d2 : Int), .int .u8 (d3 : Int), .int .u8 (d4 : Int), .int .u8 (d5 : Int), .int .u8 (d6 : Int), .int .u8 (d7 : Int)]] m n) m n (.bool true) := by
  refine pure_spec hE rfl rfl ?_
  simp only [ac116]
  simp (implicitDefEqProofs := false) (disch := omega) only [W2, opds, Nat.testBit, Nat.reduceAdd, Nat.reduceShiftRight, Nat.reduceAnd, Nat.reduceBNe, Nat.reduceMul]
noncomputable def crcN (ns : List Nat) : Nat := (crcF (ns.map fun x : Nat => (x : Int))).toNat
theorem crcN_eq (ns : List Nat) : (crcN ns : Int) = crcF (ns.map fun x : Nat => (x : Int)) := by
  have := (crc_rng (ns.map fun x : Nat => (x : Int))).1
  rw [crcN]; omega
theorem crcN_lt (ns : List Nat) : crcN ns < 2 ^ 64 := by
  have := (crc_rng (ns.map fun x : Nat => (x : Int))).2
  have := crcN_eq ns
  omega
theorem n8s_u8s (ns : List Nat) : u8s (ns.map fun x : Nat => (x : Int)) = n8s ns := by
  rw [u8s, n8s, List.map_map]; rfl
theorem n8s_len (ns : List Nat) : (n8s ns).length = ns.length := List.length_map _
theorem n8s_app (a b : List Nat) : n8s (a ++ b) = n8s a ++ n8s b := List.map_append
theorem sumN_spec (hE : E 92 = some ac92) (h134 : E 134 = some ac134) (h168 : E 168 = some ac168) {m : FM} {n : Nat} {v : Value} {ns : List Nat} (h : Sh 1 m n v ns.length (n8s ns)) (hl : ns.length ≤ 1000) : Pure (callW PG E Y 92 [v] m n) m n (.int .u64 (crcN ns : Int)) := by
  rw [crcN_eq]
  refine sum_spec hE h134 h168 (us := ns.map fun x : Nat => (x : Int)) ?_ (by rw [List.length_map]; exact hl)
  rw [List.length_map, n8s_u8s]; exact h
theorem cvi_nat {x : Nat} (h : x < 2 ^ 63) : convV .u64 (.int .i64 (x : Int)) = some (.int .u64 (x : Int)) := by
  show some (Value.int .u64 (wrapF .u64 (x : Int))) = _
  rw [wrapF_eq, wrap_small (by omega)]
def plainN (b ver : Nat) (ds : List Nat) (t : Nat) : List Nat := bytesN 1 1 ++ bytesN b 4 ++ bytesN ver 8 ++ ds ++ bytesN t 8
noncomputable def encN (b ver : Nat) (ds : List Nat) (t : Nat) : List Nat := plainN b ver ds t ++ bytesN (crcN (plainN b ver ds t)) 8
theorem encode_spec (hE : E 111 = some ac111) (h116 : E 116 = some ac116) (h147 : E 147 = some ac147) (h92 : E 92 = some ac92) (h134 : E 134 = some ac134) (h168 : E 168 = some ac168) (m : FM) (n : Nat) {b ver d0 d1 d2 d3 d4 d5 d6 d7 t : Nat} (hb : b < 65536) (hv : 1 ≤ ver) : Rt (callW PG E Y 111 [.agg #[.int .i64 1, .int .i64 (b : Int), .int .u64 (ver : Int), .int .u8 (d0 : Int), .int .u8 (d1 : Int), .int .u8 (d2 : Int), .int .u8 (d3 : Int), .int .u8 (d4 : Int), .int .u8 (d5 : Int), .int .u8 (d6 : Int), .int .u8 (d7 : Int)], .int .u64 (t : Int)] m n) fun r m' n' w => n ≤ n' ∧ (∀ b, b < n → m' b = m b) ∧ (∀ j, j ≤ n → Nat.mod w (bit j) = 0) ∧ ∃ v', r = .tuple #[v', .int .i64 0] ∧ SlZ 1 m' n n' v' 37 (n8s (encN b ver [d0, d1, d2, d3, d4, d5, d6, d7] t)) := by
  refine kept_specQ (R := fun r m' n' => ∃ v', r = .tuple #[v', .int .i64 0] ∧ SlZ 1 m' n n' v' 37 (n8s (encN b ver [d0, d1, d2, d3, d4, d5, d6, d7] t))) hE rfl fun Q hQ => ?_
  simp only [ac111]
  simp (implicitDefEqProofs := false) (disch := omega) only [W2, opds, Nat.testBit, Nat.reduceAdd, Nat.reduceShiftRight, Nat.reduceAnd, Nat.reduceBNe, Nat.reduceMul]
  refine use_pure (evalid_spec h116 _ _ hb hv) fun r1 => ?_
  simp (implicitDefEqProofs := false) (disch := omega) only [W2, opds, Nat.testBit, Nat.reduceAdd, Nat.reduceShiftRight, Nat.reduceAnd, Nat.reduceBNe, Nat.reduceMul, show convV .u64 (.int .i64 1) = some (.int .u64 1) from cvi_nat (x := 1) (by omega)]
  generalize hM1 : (AMem.put m n _ : FM) = M1
  have l1 : ∀ b, b < n → M1 b = m b := fun b hb => by rw [← hM1, fput_ne _ _ _ _ (by omega)]
  have l0 : M1 n = some (.cells [.int .i64 1, .int .i64 (b : Int), .int .u64 (ver : Int), .int .u8 (d0 : Int), .int .u8 (d1 : Int), .int .u8 (d2 : Int), .int .u8 (d3 : Int), .int .u8 (d4 : Int), .int .u8 (d5 : Int), .int .u8 (d6 : Int), .int .u8 (d7 : Int)] 0 false true) := by rw [← hM1]; exact fput_same _ _ _
  refine use_rt (put_spec h147 (n0 := n + 1) (Nat.le_refl _) (a := ((1 : Nat) : Int)) (k := 1) (by omega) (by omega) (l0 := 0) (cs0 := []) (by omega) (.inl ⟨rfl, rfl, rfl⟩)) fun v1 m1 n1 r1 w1 hh => ?_
  obtain ⟨a1, f1, k1, s1⟩ := hh
  have o1 := s1.one
  have e1 := (f1 n (by omega)).trans l0
  simp (implicitDefEqProofs := false) (disch := omega) only [W2, opds, Nat.testBit, Nat.reduceAdd, Nat.reduceShiftRight, Nat.reduceAnd, Nat.reduceBNe, Nat.reduceMul, e1, o1, cvi_nat (x := b) (by omega)]
  refine use_rt (put_spec h147 (n0 := n + 1) a1 (a := (b : Int)) (k := 4) (by omega) (by omega) (by omega) s1) fun v2 m2 n2 r2 w2 hh => ?_
  obtain ⟨a2, f2, k2, s2⟩ := hh
  have o2 := s2.one
  have e2 := (f2 n (by omega)).trans e1
  simp (implicitDefEqProofs := false) (disch := omega) only [W2, opds, Nat.testBit, Nat.reduceAdd, Nat.reduceShiftRight, Nat.reduceAnd, Nat.reduceBNe, Nat.reduceMul, e2, o2]
  refine use_rt (put_spec h147 (n0 := n + 1) a2 (a := (ver : Int)) (k := 8) (by omega) (by omega) (by omega) s2) fun v3 m3 n3 r3 w3 hh => ?_
  obtain ⟨a3, f3, k3, s3⟩ := hh
  have o3 := s3.one
  have e3 := (f3 n (by omega)).trans e2
  have ha8 : arrV 8 (.pointer (some ⟨n, 3, none⟩)) = some (.slice (some ⟨n, 3, none⟩) 8 8) := by
    unfold arrV
    rw [blt_true (show 8 < UNK by decide)]; rfl
  have hlt : ∀ x, x ∈ bytesN 1 1 ++ bytesN b 4 ++ bytesN ver 8 → x < 256 := fun x hx => by
    rcases List.mem_append.1 hx with hx | hx
    · rcases List.mem_append.1 hx with hx | hx <;> exact bytesN_lt _ _ x hx
    · exact bytesN_lt _ _ x hx
  simp (implicitDefEqProofs := false) (disch := omega) only [W2, opds, Nat.testBit, Nat.reduceAdd, Nat.reduceShiftRight, Nat.reduceAnd, Nat.reduceBNe, Nat.reduceMul, e3, o3, ha8, show ∀ (x : Opd) (e : List Value) (m : FM) (n : Nat), stepA PG (callW PG E Y) e m n (.pur (.arrs 8) [x]) = valO m n (arrV 8 (ev e x)) from fun _ _ _ _ => rfl]
  refine use_rt (app_slZn (k := 8) (sz := 1) s3 _ _ _ (by omega) (by omega) (by omega) rfl rfl (by omega) (by omega)) fun v4 m4 n4 r4 w4 hh => ?_
  obtain ⟨z1, z2, s4, f4, k4⟩ := hh
  subst z2
  have o4 := s4.one
  have e4 := (f4 n (by omega)).trans e3
  simp (implicitDefEqProofs := false) (disch := omega) only [W2, opds, Nat.testBit, Nat.reduceAdd, Nat.reduceShiftRight, Nat.reduceAnd, Nat.reduceBNe, Nat.reduceMul, e4, o4]
  refine use_rt (put_spec h147 (n0 := n + 1) (by omega) (a := (t : Int)) (k := 8) (by omega) (by omega) (by omega) s4) fun v5 m5 n5 r5 w5 hh => ?_
  obtain ⟨a5, f5, k5, s5⟩ := hh
  have o5 := s5.one
  have e5 : [] ++ u8s (bytesZ ((1 : Nat) : Int) 1) ++ u8s (bytesZ (b : Int) 4) ++ u8s (bytesZ (ver : Int) 8) ++ [Value.int .u8 (d0 : Int), .int .u8 (d1 : Int), .int .u8 (d2 : Int), .int .u8 (d3 : Int), .int .u8 (d4 : Int), .int .u8 (d5 : Int), .int .u8 (d6 : Int), .int .u8 (d7 : Int)] ++ u8s (bytesZ (t : Int) 8) = n8s (plainN b ver [d0, d1, d2, d3, d4, d5, d6, d7] t) := by
    simp only [u8s_bytes, plainN, n8s_app, List.nil_append]
    rfl
  rw [e5] at s5
  have h5 := sh_of_slz s5 (by omega)
  simp (implicitDefEqProofs := false) (disch := omega) only [W2, opds, Nat.testBit, Nat.reduceAdd, Nat.reduceShiftRight, Nat.reduceAnd, Nat.reduceBNe, Nat.reduceMul, o5]
  refine use_pure (sumN_spec h92 h134 h168 (ns := plainN b ver [d0, d1, d2, d3, d4, d5, d6, d7] t) (by rw [show (plainN b ver [d0, d1, d2, d3, d4, d5, d6, d7] t).length = 29 by simp only [plainN, List.length_append, bytesN_len, List.length_cons, List.length_nil]]; exact h5) (by simp only [plainN, List.length_append, bytesN_len, List.length_cons, List.length_nil]; omega)) fun r6 => ?_
  simp (implicitDefEqProofs := false) (disch := omega) only [W2, opds, Nat.testBit, Nat.reduceAdd, Nat.reduceShiftRight, Nat.reduceAnd, Nat.reduceBNe, Nat.reduceMul, o5]
  refine use_rt (put_spec h147 (n0 := n + 1) (by omega) (a := (crcN (plainN b ver [d0, d1, d2, d3, d4, d5, d6, d7] t) : Int)) (k := 8) (by omega) (by omega) (by omega) s5) fun v7 m7 n7 r7 w7 hh => ?_
  obtain ⟨a7, f7, k7, s7⟩ := hh
  have o7 := s7.one
  simp (implicitDefEqProofs := false) (disch := omega) only [W2, opds, Nat.testBit, Nat.reduceAdd, Nat.reduceShiftRight, Nat.reduceAnd, Nat.reduceBNe, Nat.reduceMul, o7]
  have e7 : n8s (plainN b ver [d0, d1, d2, d3, d4, d5, d6, d7] t) ++ u8s (bytesZ (crcN (plainN b ver [d0, d1, d2, d3, d4, d5, d6, d7] t) : Int) 8) = n8s (encN b ver [d0, d1, d2, d3, d4, d5, d6, d7] t) := by
    rw [u8s_bytes, encN, n8s_app]
  rw [e7] at s7
  refine hQ _ _ _ _ _ (by omega) (fun b hb => by rw [f7 b (by omega), f5 b (by omega), f4 b (by omega), f3 b (by omega), f2 b (by omega), f1 b (by omega), l1 b hb]) ?_ ?_ ⟨v7, rfl, s7.low (by omega)⟩
  · simp only [frz_iff]
    exact ⟨⟨⟨⟨⟨⟨frz_bit (Nat.le_refl _), k1 n (by omega)⟩, k2 n (by omega)⟩, k3 n (by omega)⟩, k4 n (by omega)⟩, k5 n (by omega)⟩, k7 n (by omega)⟩
  · exact slz_tup s7 (by omega)
end Go.Am.CS
namespace Go.Am.CS
set_option maxRecDepth 100000
open Go Go.Am
variable {E : Nat → Option AFn} {Y : Nat → List Value → FM → Nat → OR FM}
theorem slc_sub {M : FM} {N b l h len : Nat} {cs : List Value} {opn wr : Bool} {lo hi : Option Value} (hl : optInt 0 lo = some l) (hh : optInt len hi = some h) (h1 : l < h) (h2 : h ≤ len) (hb : b < N) (hm : M b = some (.cells cs 1 opn wr)) {k : Nat} (hk : k = h - l) :
    slcM M N 1 (slcV 1 lo hi (.slice (some ⟨b, 0, none⟩) len UNK)) (.slice (some ⟨b, 0, none⟩) len UNK) = .ok (.slice (some ⟨b, l, none⟩) k UNK) M N (bit b) 0 := by
  subst hk
  have e1 : slcV 1 lo hi (.slice (some ⟨b, 0, none⟩) len UNK) = some (.slice (some ⟨b, l, none⟩) (h - l) UNK) := by
    have hc : (Nat.ble l h && Nat.ble h len) = true := by rw [ble_true (by omega), ble_true h2]; rfl
    simp only [slcV, hl, hh, hc, cond_true]
    have k1 : Nat.beq UNK UNK = true := Nat.beq_refl _
    have k2 : Nat.beq UNK VAG = false := nbeq_f (by decide)
    have k3 : (Nat.blt l len || Nat.beq l 0) = true := by rw [blt_true (by omega)]; rfl
    simp only [slcA, k1, k2, k3, cond_true, cond_false]
    rw [show Nat.add 0 (Nat.mul l 1) = l from by show 0 + l * 1 = l; omega]; rfl
  rw [e1, slcM_unk, getb_lt hb, hm]
  show cond (Nat.beq 1 1) _ _ = _
  rw [Nat.beq_refl]; rfl
theorem cells_mid {A B C : List Value} {o k : Nat} (ho : o = A.length) (hk : k = B.length) : cellsAt (A ++ (B ++ C)) o k = some B := by
  subst ho; subst hk
  show ctake (ldrop _ _) _ = _
  rw [ldrop_eq, List.drop_left, ctake_eq, if_pos (by rw [List.length_append]; omega), List.take_left]
theorem sh_mid {M : FM} {N b c : Nat} {A B C : List Value} {o k : Nat} {opn wr : Bool} (ho : o = A.length) (hk : k = B.length) (hb : b < N) (hm : M b = some (.cells (A ++ (B ++ C)) 1 opn wr)) (h0 : 0 < k) : Sh 1 M N (.slice (some ⟨b, o, none⟩) k c) k B :=
  ⟨b, o, c, _, opn, wr, rfl, hb, hm, by rw [Nat.mul_one]; exact cells_mid ho hk, h0⟩
theorem sum_all {A k : Nat} (h : A < 2 ^ (8 * k)) : sumN (bytesN A k) (bytesN A k).length = A := by
  rw [bytesN_len, sum_bytes A k k (Nat.le_refl _), Nat.mod_eq_of_lt h]
theorem ci_nat {x : Nat} (h : x < 2 ^ 62) : convV .i64 (.int .u64 (x : Int)) = some (.int .i64 (x : Int)) := by
  show some (Value.int .i64 (wrapF .i64 (x : Int))) = _
  rw [wrapF_eq, wrap_i64 (by omega) (by omega)]
theorem decode_spec (hE : E 71 = some ac71) (h115 : E 115 = some ac115) (h116 : E 116 = some ac116) (h92 : E 92 = some ac92) (h134 : E 134 = some ac134) (h168 : E 168 = some ac168) {m : FM} {n bb : Nat} {opn wr : Bool} {b ver d0 d1 d2 d3 d4 d5 d6 d7 t : Nat} (hb : b < 65536) (hv : 1 ≤ ver) (hv2 : ver < 2 ^ 64) (ht : t < 2 ^ 64) (hds : ∀ x ∈ [d0, d1, d2, d3, d4, d5, d6, d7], x < 256) (hbb : bb < n) (hm : m bb = some (.cells (n8s (encN b ver [d0, d1, d2, d3, d4, d5, d6, d7] t)) 1 opn wr)) :
    Rt (callW PG E Y 71 [.slice (some ⟨bb, 0, none⟩) 37 UNK] m n) fun r m' n' w => n ≤ n' ∧ (∀ b, b < n → m' b = m b) ∧ (∀ j, j ≤ n → Nat.mod w (bit j) = 0) ∧ r = .tuple #[.agg #[.int .i64 1, .int .i64 (b : Int), .int .u64 (ver : Int), .int .u8 (d0 : Int), .int .u8 (d1 : Int), .int .u8 (d2 : Int), .int .u8 (d3 : Int), .int .u8 (d4 : Int), .int .u8 (d5 : Int), .int .u8 (d6 : Int), .int .u8 (d7 : Int)], .int .u64 (t : Int), .int .i64 0] := by
  generalize hds' : [d0, d1, d2, d3, d4, d5, d6, d7] = ds at hm hds
  have hdl : ds.length = 8 := by rw [← hds']; rfl
  refine kept_specQ (R := fun r m' n' => r = .tuple #[.agg #[.int .i64 1, .int .i64 (b : Int), .int .u64 (ver : Int), .int .u8 (d0 : Int), .int .u8 (d1 : Int), .int .u8 (d2 : Int), .int .u8 (d3 : Int), .int .u8 (d4 : Int), .int .u8 (d5 : Int), .int .u8 (d6 : Int), .int .u8 (d7 : Int)], .int .u64 (t : Int), .int .i64 0]) hE rfl fun Q hQ => ?_
  have hpl : (plainN b ver ds t).length = 29 := by simp only [plainN, List.length_append, bytesN_len, hdl]
  have hcl := crcN_lt (plainN b ver ds t)
  have c1 : n8s (encN b ver ds t) = [] ++ (n8s (plainN b ver ds t) ++ n8s (bytesN (crcN (plainN b ver ds t)) 8)) := by rw [encN, n8s_app]; rfl
  have c2 : n8s (encN b ver ds t) = n8s (plainN b ver ds t) ++ (n8s (bytesN (crcN (plainN b ver ds t)) 8) ++ []) := by rw [encN, n8s_app, List.append_nil]
  have c3 : n8s (encN b ver ds t) = n8s (bytesN 1 1) ++ (n8s (bytesN b 4) ++ (n8s (bytesN ver 8) ++ (n8s ds ++ (n8s (bytesN t 8) ++ n8s (bytesN (crcN (plainN b ver ds t)) 8))))) := by
    rw [encN, plainN]; simp only [n8s_app, List.append_assoc]
  have c4 : n8s (encN b ver ds t) = n8s (bytesN 1 1 ++ bytesN b 4) ++ (n8s (bytesN ver 8) ++ (n8s ds ++ (n8s (bytesN t 8) ++ n8s (bytesN (crcN (plainN b ver ds t)) 8)))) := by
    rw [c3]; simp only [n8s_app, List.append_assoc]
  have c5 : n8s (encN b ver ds t) = n8s (bytesN 1 1 ++ bytesN b 4 ++ bytesN ver 8) ++ (n8s ds ++ (n8s (bytesN t 8) ++ n8s (bytesN (crcN (plainN b ver ds t)) 8))) := by
    rw [c3]; simp only [n8s_app, List.append_assoc]
  have c6 : n8s (encN b ver ds t) = n8s (bytesN 1 1 ++ bytesN b 4 ++ bytesN ver 8 ++ ds) ++ (n8s (bytesN t 8) ++ n8s (bytesN (crcN (plainN b ver ds t)) 8)) := by
    rw [c3]; simp only [n8s_app, List.append_assoc]
  have g0 : cget (n8s (encN b ver ds t)) 0 = some (.int .u8 1) := by rw [c3]; rfl
  have g13 : cellsAt (n8s (encN b ver ds t)) 13 8 = some (n8s ds) := by
    rw [c5]; exact cells_mid (by simp only [n8s_len, List.length_append, bytesN_len]) (by rw [n8s_len, hdl])
  generalize n8s (encN b ver ds t) = cs at *
  have h29 : Sh 1 m n (.slice (some ⟨bb, 29, none⟩) 8 UNK) (bytesN (crcN (plainN b ver ds t)) 8).length (n8s (bytesN (crcN (plainN b ver ds t)) 8)) := by
    rw [bytesN_len]; rw [c2] at hm
    exact sh_mid (by rw [n8s_len, hpl]) (by rw [n8s_len, bytesN_len]) hbb hm (by omega)
  have h0 : Sh 1 m n (.slice (some ⟨bb, 0, none⟩) 29 UNK) (plainN b ver ds t).length (n8s (plainN b ver ds t)) := by
    rw [hpl]; rw [c1] at hm
    exact sh_mid rfl (by rw [n8s_len, hpl]) hbb hm (by omega)
  have h1 : Sh 1 m n (.slice (some ⟨bb, 1, none⟩) 4 UNK) (bytesN b 4).length (n8s (bytesN b 4)) := by
    rw [bytesN_len]; rw [c3] at hm
    exact sh_mid rfl (by rw [n8s_len, bytesN_len]) hbb hm (by omega)
  have h5 : Sh 1 m n (.slice (some ⟨bb, 5, none⟩) 8 UNK) (bytesN ver 8).length (n8s (bytesN ver 8)) := by
    rw [bytesN_len]; rw [c4] at hm
    exact sh_mid (by simp only [n8s_len, List.length_append, bytesN_len]) (by rw [n8s_len, bytesN_len]) hbb hm (by omega)
  have h21 : ∀ M N, N = n + 1 → (∀ b, b < n → M b = m b) → Sh 1 M N (.slice (some ⟨bb, 21, none⟩) 8 UNK) (bytesN t 8).length (n8s (bytesN t 8)) := fun M N hN hf => by
    rw [bytesN_len]; rw [c6] at hm
    exact sh_mid (by simp only [n8s_len, List.length_append, bytesN_len, hdl]) (by rw [n8s_len, bytesN_len]) (by omega) ((hf bb hbb).trans hm) (by omega)
  have SL : ∀ (M : FM) (N : Nat), bb < N → (∀ b, b < n → M b = m b) →
      slcM M N 1 (slcV 1 (some (.int .i64 29)) none (.slice (some ⟨bb, 0, none⟩) 37 UNK)) (.slice (some ⟨bb, 0, none⟩) 37 UNK) = .ok (.slice (some ⟨bb, 29, none⟩) 8 UNK) M N (bit bb) 0 ∧
      slcM M N 1 (slcV 1 none (some (.int .i64 29)) (.slice (some ⟨bb, 0, none⟩) 37 UNK)) (.slice (some ⟨bb, 0, none⟩) 37 UNK) = .ok (.slice (some ⟨bb, 0, none⟩) 29 UNK) M N (bit bb) 0 ∧
      slcM M N 1 (slcV 1 (some (.int .i64 1)) (some (.int .i64 5)) (.slice (some ⟨bb, 0, none⟩) 37 UNK)) (.slice (some ⟨bb, 0, none⟩) 37 UNK) = .ok (.slice (some ⟨bb, 1, none⟩) 4 UNK) M N (bit bb) 0 ∧
      slcM M N 1 (slcV 1 (some (.int .i64 5)) (some (.int .i64 13)) (.slice (some ⟨bb, 0, none⟩) 37 UNK)) (.slice (some ⟨bb, 0, none⟩) 37 UNK) = .ok (.slice (some ⟨bb, 5, none⟩) 8 UNK) M N (bit bb) 0 ∧
      slcM M N 1 (slcV 1 (some (.int .i64 13)) (some (.int .i64 21)) (.slice (some ⟨bb, 0, none⟩) 37 UNK)) (.slice (some ⟨bb, 0, none⟩) 37 UNK) = .ok (.slice (some ⟨bb, 13, none⟩) 8 UNK) M N (bit bb) 0 ∧
      slcM M N 1 (slcV 1 (some (.int .i64 21)) (some (.int .i64 29)) (.slice (some ⟨bb, 0, none⟩) 37 UNK)) (.slice (some ⟨bb, 0, none⟩) 37 UNK) = .ok (.slice (some ⟨bb, 21, none⟩) 8 UNK) M N (bit bb) 0 := fun M N hN hf => by
    have hM := (hf bb hbb).trans hm
    exact ⟨slc_sub (l := 29) (h := 37) rfl rfl (by omega) (by omega) hN hM rfl, slc_sub (l := 0) (h := 29) rfl rfl (by omega) (by omega) hN hM rfl, slc_sub (l := 1) (h := 5) rfl rfl (by omega) (by omega) hN hM rfl, slc_sub (l := 5) (h := 13) rfl rfl (by omega) (by omega) hN hM rfl, slc_sub (l := 13) (h := 21) rfl rfl (by omega) (by omega) hN hM rfl, slc_sub (l := 21) (h := 29) rfl rfl (by omega) (by omega) hN hM rfl⟩
  simp only [ac71]
  simp (implicitDefEqProofs := false) (disch := omega) only [W2, opds, Nat.testBit, Nat.reduceAdd, Nat.reduceShiftRight, Nat.reduceAnd, Nat.reduceBNe, Nat.reduceMul]
  generalize hM1 : (AMem.put m n _ : FM) = M1
  have l1 : ∀ b, b < n → M1 b = m b := fun b hb => by rw [← hM1, fput_ne _ _ _ _ (by omega)]
  have l0 : M1 n = some (.cells [.int .i64 0, .int .i64 0, .int .u64 0, .int .u8 0, .int .u8 0, .int .u8 0, .int .u8 0, .int .u8 0, .int .u8 0, .int .u8 0, .int .u8 0] 0 false true) := by rw [← hM1]; exact fput_same _ _ _
  obtain ⟨q1, q2, q3, q4, q5, q6⟩ := SL M1 (n + 1) (by omega) l1
  have hm1 := (l1 bb hbb).trans hm
  simp (implicitDefEqProofs := false) (disch := omega) only [W2, opds, Nat.testBit, Nat.reduceAdd, Nat.reduceShiftRight, Nat.reduceAnd, Nat.reduceBNe, Nat.reduceMul, s_slc, oev_some, oev_none, Option.toList_some, Option.toList_none, q1]
  refine use_pureX (get_spec h115 (h29.frame (by omega) l1) (bytesN_lt _ _) (by rw [bytesN_len]; omega)) fun r1 => ?_
  rw [sum_all (k := 8) (by omega)]
  simp (implicitDefEqProofs := false) (disch := omega) only [W2, opds, Nat.testBit, Nat.reduceAdd, Nat.reduceShiftRight, Nat.reduceAnd, Nat.reduceBNe, Nat.reduceMul, s_slc, oev_some, oev_none, Option.toList_some, Option.toList_none, q2]
  refine use_pureX (sumN_spec h92 h134 h168 (h0.frame (by omega) l1) (by omega)) fun r2 => ?_
  simp (implicitDefEqProofs := false) (disch := omega) only [W2, opds, Nat.testBit, Nat.reduceAdd, Nat.reduceShiftRight, Nat.reduceAnd, Nat.reduceBNe, Nat.reduceMul, s_slc, oev_some, oev_none, Option.toList_some, Option.toList_none, hm1, g0, show convV .i64 (.int .u8 1) = some (.int .i64 1) from rfl, q3]
  refine use_pureX (get_spec h115 (h1.frame (by omega) l1) (bytesN_lt _ _) (by rw [bytesN_len]; omega)) fun r3 => ?_
  rw [sum_all (k := 4) (by omega)]
  simp (implicitDefEqProofs := false) (disch := omega) only [W2, opds, Nat.testBit, Nat.reduceAdd, Nat.reduceShiftRight, Nat.reduceAnd, Nat.reduceBNe, Nat.reduceMul, s_slc, oev_some, oev_none, Option.toList_some, Option.toList_none, ci_nat (x := b) (by omega), q4]
  refine use_pureX (get_spec h115 (h5.frame (by omega) l1) (bytesN_lt _ _) (by rw [bytesN_len]; omega)) fun r4 => ?_
  rw [sum_all (k := 8) (by omega)]
  have hs2 : s2aV 8 (.slice (some ⟨bb, 13, none⟩) 8 UNK) = some (.pointer (some ⟨bb, 13, none⟩)) := rfl
  have g13' : n8s ds = [.int .u8 (d0 : Int), .int .u8 (d1 : Int), .int .u8 (d2 : Int), .int .u8 (d3 : Int), .int .u8 (d4 : Int), .int .u8 (d5 : Int), .int .u8 (d6 : Int), .int .u8 (d7 : Int)] := by rw [← hds']; rfl
  rw [g13', cellsAt_mk] at g13
  simp (implicitDefEqProofs := false) (disch := omega) only [W2, opds, Nat.testBit, Nat.reduceAdd, Nat.reduceShiftRight, Nat.reduceAnd, Nat.reduceBNe, Nat.reduceMul, s_slc, oev_some, oev_none, Option.toList_some, Option.toList_none, q5, show ∀ (x : Opd) (e : List Value) (m : FM) (n : Nat), stepA PG (callW PG E Y) e m n (.pur (.s2a 8) [x]) = valO m n (s2aV 8 (ev e x)) from fun _ _ _ _ => rfl, hs2, hm1, g13, l0]
  refine use_pure (evalid_spec h116 _ _ hb hv) fun r5 => ?_
  generalize hM2 : (AMem.put M1 n _ : FM) = M2
  have l2 : ∀ b, b < n → M2 b = m b := fun b hb => by rw [← hM2, fput_ne _ _ _ _ (by omega), l1 b hb]
  have l3 : M2 n = some (.cells [.int .i64 1, .int .i64 (b : Int), .int .u64 (ver : Int), .int .u8 (d0 : Int), .int .u8 (d1 : Int), .int .u8 (d2 : Int), .int .u8 (d3 : Int), .int .u8 (d4 : Int), .int .u8 (d5 : Int), .int .u8 (d6 : Int), .int .u8 (d7 : Int)] 0 false true) := by rw [← hM2]; exact fput_same _ _ _
  obtain ⟨q1, q2, q3, q4, q5, q6⟩ := SL M2 (n + 1) (by omega) l2
  simp (implicitDefEqProofs := false) (disch := omega) only [W2, opds, Nat.testBit, Nat.reduceAdd, Nat.reduceShiftRight, Nat.reduceAnd, Nat.reduceBNe, Nat.reduceMul, s_slc, oev_some, oev_none, Option.toList_some, Option.toList_none, q6, l3]
  refine use_pureX (get_spec h115 (h21 M2 (n + 1) rfl l2) (bytesN_lt _ _) (by rw [bytesN_len]; omega)) fun r6 => ?_
  rw [sum_all (k := 8) (by omega)]
  simp (implicitDefEqProofs := false) (disch := omega) only [W2, opds, Nat.testBit, Nat.reduceAdd, Nat.reduceShiftRight, Nat.reduceAnd, Nat.reduceBNe, Nat.reduceMul, l3]
  refine hQ _ _ _ _ _ (by omega) (fun b hb => by rw [fput_ne _ _ _ _ (by omega), l2 b hb]) ?_ rfl rfl
  simp only [frz_iff]
  simp [frz_bit]
end Go.Am.CS
namespace Go.Am.CS
set_option maxRecDepth 100000
open Go Go.Am
variable {E : Nat → Option AFn} {Y : Nat → List Value → FM → Nat → OR FM}
theorem retry_spec (h21 : E 21 = some ac21) {m : FM} {n k0 : Nat} (hk0 : k0 < n) {f : Nat} {cs : List Value} {S : FM → Nat → Nat → Prop} (hcall : Rt (callW PG E Y f cs m n) fun r m' n' w => Nat.testBit w k0 = true ∧ (r = .int .i64 0 ∧ S m' n' w)) :
    Rt (callW PG E Y 21 [.func (.func f) #[] cs.toArray] m n) fun r m' n' w => Nat.testBit w k0 = true ∧ (r = .int .i64 0 ∧ S m' n' w) := by
  refine wrt_spec (R := fun r m' n' w => r = .int .i64 0 ∧ S m' n' w) h21 rfl hk0 fun Q hQ => ?_
  simp only [ac21]
  simp (implicitDefEqProofs := false) (disch := omega) only [W2, opds, Nat.testBit, Nat.reduceAdd, Nat.reduceShiftRight, Nat.reduceAnd, Nat.reduceBNe, Nat.reduceMul, s_callv, callv0, List.nil_append]
  refine use_rt hcall fun r1 m1 n1 r2 w1 hh => ?_
  obtain ⟨h1, rfl, h2⟩ := hh
  simp (implicitDefEqProofs := false) (disch := omega) only [W2, opds, Nat.testBit, Nat.reduceAdd, Nat.reduceShiftRight, Nat.reduceAnd, Nat.reduceBNe, Nat.reduceMul]
  refine wr_kont (wr_loopN (L := ac21L0) (b := ac21L0b) rfl ?_)
  simp only [ac21L0b]
  simp (implicitDefEqProofs := false) (disch := omega) only [W2, opds, Nat.testBit, Nat.reduceAdd, Nat.reduceShiftRight, Nat.reduceAnd, Nat.reduceBNe, Nat.reduceMul]
  intro rr
  simp (implicitDefEqProofs := false) (disch := omega) only [W2, opds, Nat.testBit, Nat.reduceAdd, Nat.reduceShiftRight, Nat.reduceAnd, Nat.reduceBNe, Nat.reduceMul]
  exact hQ _ _ _ _ _ h1 ⟨rfl, h2⟩
structure Ent where
  ver : Nat
  adr : Nat
def Ent.k (x : Ent) : Int := if x.ver = 0 then 0 else 1
def Ent.a (x : Ent) : Int := if x.ver = 0 then -1 else (x.adr : Int)
def ecells : List Ent → List Value
  | [] => []
  | x :: xs => .int .i64 x.k :: .int .u64 (x.ver : Int) :: .int .i64 x.a :: ecells xs
theorem ecells_len : ∀ l : List Ent, (ecells l).length = l.length * 3
  | [] => rfl
  | x :: xs => by simp only [ecells, List.length_cons, ecells_len xs]; omega
theorem ecells_app : ∀ a b : List Ent, ecells (a ++ b) = ecells a ++ ecells b
  | [], b => rfl
  | x :: xs, b => by simp only [ecells, List.cons_append, ecells_app xs b]
theorem ecells_drop (l : List Ent) : ∀ j, (ecells l).drop (j * 3) = ecells (l.drop j) := by
  induction l with
  | nil => intro j; simp [ecells]
  | cons x xs ih =>
    intro j
    cases j with
    | zero => simp
    | succ j => rw [show (j + 1) * 3 = j * 3 + 1 + 1 + 1 by omega, ecells, List.drop_succ_cons, List.drop_succ_cons, List.drop_succ_cons, ih j, List.drop_succ_cons]
theorem ecells_at {l : List Ent} {j : Nat} (h : j < l.length) : ldrop (ecells l) (j * 3) = .int .i64 l[j].k :: .int .u64 (l[j].ver : Int) :: .int .i64 l[j].a :: ecells (l.drop (j + 1)) ∧ cget (ecells l) (j * 3) = some (.int .i64 l[j].k) ∧ cget (ecells l) (j * 3 + 1) = some (.int .u64 (l[j].ver : Int)) ∧ cget (ecells l) (j * 3 + 2) = some (.int .i64 l[j].a) := by
  have e : (ecells l).drop (j * 3) = .int .i64 l[j].k :: .int .u64 (l[j].ver : Int) :: .int .i64 l[j].a :: ecells (l.drop (j + 1)) := by
    rw [ecells_drop, List.drop_eq_getElem_cons h, ecells]
  have g : ∀ k, cget (ecells l) (j * 3 + k) = ((ecells l).drop (j * 3))[k]? := fun k => by rw [cget_eq, List.getElem?_drop]
  refine ⟨?_, by have := g 0; rw [e] at this; exact this, by have := g 1; rw [e] at this; exact this, by have := g 2; rw [e] at this; exact this⟩
  rw [ldrop_eq, e]
theorem ecells_set (l : List Ent) : ∀ (k : Nat) (h : k < l.length) (x : Ent), setCells (ecells l) (k * 3) [.int .i64 x.k, .int .u64 (x.ver : Int), .int .i64 x.a] = some (ecells (l.set k x)) := by
  induction l with
  | nil => intro k h; cases h
  | cons y ys ih =>
    intro k h x
    cases k with
    | zero =>
      rw [setCells_eq, if_pos (by rw [ecells_len]; simp; omega)]
      rfl
    | succ k =>
      have hl : k < ys.length := by rw [List.length_cons] at h; omega
      have := ih k hl x
      rw [setCells_eq] at this ⊢
      rw [if_pos (by rw [ecells_len]; simp; omega)] at this
      rw [if_pos (by rw [ecells_len, List.length_cons]; simp; omega)]
      injection this with this
      rw [List.set_cons_succ, ecells, ecells, ← this, show (k + 1) * 3 = k * 3 + 1 + 1 + 1 by omega]
      simp only [List.take_succ_cons, List.drop_succ_cons, List.cons_append, List.length_cons, List.length_nil]
def drC (i : Ids) (len : Nat) (bv : Value) (t : Nat) : List Value := [.pointer (some ⟨i.D, 0, none⟩), .int .u64 0, .slice (some ⟨i.EN, 0, none⟩) len UNK, bv, .int .u64 (t : Int), .int .i64 0]
structure Drv (i : Ids) (T O pb : Nat) (M : FM) (N : Nat) (xs : List (Int × Value)) (c : Nat) (es : List Ent) (bs : List Bnd) (t : Nat) : Prop where
  dsk : Dsk i T O pb M N xs c
  r : ∃ bv, M i.R = some (.cells (drC i es.length bv t) 0 false true) ∧ BsW i pb M N bv bs
  en : M i.EN = some (.cells (ecells es) 3 true true)
  bl : bs.length = 5
  el : es.length ≤ 100
theorem Drv.keep {i : Ids} {T O pb : Nat} {M M' : FM} {N N' : Nat} {xs : List (Int × Value)} {c : Nat} {es : List Ent} {bs : List Bnd} {t : Nat} (h : Drv i T O pb M N xs c es bs t) (hN : N ≤ N') (hf : ∀ b, b < N → M' b = M b) : Drv i T O pb M' N' xs c es bs t := by
  obtain ⟨h0, h1, h2, h3, h4, h5, h6, h7, h8, h9⟩ := h.dsk.cc.ok
  have hK := h.dsk.cc.KN
  obtain ⟨bv, hr, hb⟩ := h.r
  exact ⟨h.dsk.keep hN hf, ⟨bv, (hf _ (by omega)).trans hr, hb.keep hN hf⟩, (hf _ (by omega)).trans h.en, h.bl, h.el⟩
theorem Drv.disk {i : Ids} {T O pb pb' : Nat} {M M' : FM} {N N' w : Nat} {xs xs' : List (Int × Value)} {c c' : Nat} {es : List Ent} {bs : List Bnd} {t : Nat} (h : Drv i T O pb M N xs c es bs t) (hN : N ≤ N') (hf : Fr i.P i.D pb N M M' w) (hp : pb' = pb ∨ N ≤ pb') (hd : Dsk i T O pb' M' N' xs' c') : Drv i T O pb' M' N' xs' c' es bs t := by
  obtain ⟨h0, h1, h2, h3, h4, h5, h6, h7, h8, h9⟩ := h.dsk.cc.ok
  have hK := h.dsk.cc.KN
  have hpk := h.dsk.cc.pbk
  obtain ⟨bv, hr, hb⟩ := h.r
  exact ⟨hd, ⟨bv, (hf _ (by omega) (by omega) (by omega)).1.trans hr, hb.fr hf (by omega) (Nat.le_refl _) hN hp⟩, (hf _ (by omega) (by omega) (by omega)).1.trans h.en, h.bl, h.el⟩
structure Fn3 (E : Nat → Option AFn) (Y : Nat → List Value → FM → Nat → OR FM) (T O : Nat) : Prop extends Fn2 E Y T O where
  e21 : E 21 = some ac21
  e32 : E 32 = some ac32
  e33 : E 33 = some ac33
  e34 : E 34 = some ac34
  e31 : E 31 = some ac31
  e35 : E 35 = some ac35
  e53 : E 53 = some ac53
  e66 : E 66 = some ac66
  e67 : E 67 = some ac67
  e68 : E 68 = some ac68
  e69 : E 69 = some ac69
  e70 : E 70 = some ac70
  e71 : E 71 = some ac71
  e92 : E 92 = some ac92
  e99 : E 99 = some ac99
  e100 : E 100 = some ac100
  e101 : E 101 = some ac101
  e103 : E 103 = some ac103
  e104 : E 104 = some ac104
  e105 : E 105 = some ac105
  e106 : E 106 = some ac106
  e107 : E 107 = some ac107
  e108 : E 108 = some ac108
  e109 : E 109 = some ac109
  e110 : E 110 = some ac110
  e111 : E 111 = some ac111
  e112 : E 112 = some ac112
  e113 : E 113 = some ac113
  e114 : E 114 = some ac114
  e115 : E 115 = some ac115
  e116 : E 116 = some ac116
  e134 : E 134 = some ac134
  e137 : E 137 = some ac137
  e138 : E 138 = some ac138
  e139 : E 139 = some ac139
  e140 : E 140 = some ac140
  e141 : E 141 = some ac141
  e142 : E 142 = some ac142
  e143 : E 143 = some ac143
  e144 : E 144 = some ac144
  e145 : E 145 = some ac145
  e146 : E 146 = some ac146
  e147 : E 147 = some ac147
  e148 : E 148 = some ac148
  e168 : E 168 = some ac168
  e169 : E 169 = some ac169
  e170 : E 170 = some ac170
  e171 : E 171 = some ac171
  e173 : E 173 = some ac173
  e174 : E 174 = some ac174
  e175 : E 175 = some ac175
  e184 : E 184 = some ac184
  e185 : E 185 = some ac185
  e192 : E 192 = some ac192
theorem s_fldV (k : Nat) (x : Opd) (e : List Value) (m : FM) (n : Nat) : stepA PG (callW PG E Y) e m n (.pur (.fld k) [x]) = valO m n (fieV k (ev e x)) := rfl
theorem fie_mk (k : Nat) (l : List Value) : fieV k (.agg l.toArray) = cget l k := rfl
theorem eqlnil34 (a : Addr) : binV PG .eql 34 (.pointer (some a)) (.pointer none) = some (.bool false) := by
  rw [eqlnil_ptr (by kernel_rfl)]; rfl
theorem geom_spec (hE : E 53 = some ac53) {i : Ids} {T O pb : Nat} {m : FM} {n : Nat} {xs : List (Int × Value)} {c : Nat} (h : Dsk i T O pb m n xs c) : Pure (callW PG E Y 53 [.pointer (some ⟨i.D, 0, none⟩)] m n) m n (gV T O) := by
  obtain ⟨h0, h1, h2, h3, h4, h5, h6, h7, h8, h9⟩ := h.cc.ok
  have hKN := h.cc.KN
  obtain ⟨s0, s1, s2, s3, op, hd⟩ := h.dk
  simp only [dkC] at hd
  refine pure_spec hE rfl rfl ?_
  simp only [ac53, gV]
  simp (implicitDefEqProofs := false) (disch := omega) only [W2, opds, Nat.testBit, Nat.reduceAdd, Nat.reduceShiftRight, Nat.reduceAnd, Nat.reduceBNe, Nat.reduceMul, eqlnil27, hd]
theorem dsize_spec {T O : Nat} (F : Fn3 E Y T O) {i : Ids} {pb : Nat} {m : FM} {n : Nat} {xs : List (Int × Value)} {c : Nat} {es : List Ent} {bs : List Bnd} {t : Nat} (h : Drv i T O pb m n xs c es bs t) : Pure (callW PG E Y 100 [.pointer (some ⟨i.R, 0, none⟩)] m n) m n (.int .i64 ((T * 2 : Nat) : Int)) := by
  obtain ⟨h0, h1, h2, h3, h4, h5, h6, h7, h8, h9⟩ := h.dsk.cc.ok
  have hKN := h.dsk.cc.KN
  obtain ⟨bv, hr, hb⟩ := h.r
  simp only [drC] at hr
  refine pure_spec F.e100 rfl rfl ?_
  simp only [ac100]
  simp (implicitDefEqProofs := false) (disch := omega) only [W2, opds, Nat.testBit, Nat.reduceAdd, Nat.reduceShiftRight, Nat.reduceAnd, Nat.reduceBNe, Nat.reduceMul, hr]
  refine use_pure (geom_spec F.e53 h.dsk) fun r1 => ?_
  simp (implicitDefEqProofs := false) (disch := omega) only [W2, opds, Nat.testBit, Nat.reduceAdd, Nat.reduceShiftRight, Nat.reduceAnd, Nat.reduceBNe, Nat.reduceMul]
  refine use_pure (bandSize_spec F.e54 F.G _ _) fun r2 => ?_
  simp (implicitDefEqProofs := false) (disch := omega) only [W2, opds, Nat.testBit, Nat.reduceAdd, Nat.reduceShiftRight, Nat.reduceAnd, Nat.reduceBNe, Nat.reduceMul]
theorem dband_spec {T O : Nat} (F : Fn3 E Y T O) {i : Ids} {pb : Nat} {m : FM} {n : Nat} {xs : List (Int × Value)} {c : Nat} {es : List Ent} {bs : List Bnd} {t : Nat} (h : Drv i T O pb m n xs c es bs t) (a : Nat) (ha : 4 ≤ a) (hz : a < 4 + 5 * (T * 2)) : Pure (callW PG E Y 103 [.pointer (some ⟨i.R, 0, none⟩), .int .i64 (a : Int)] m n) m n (.int .i64 (((a - 4) / (T * 2) : Nat) : Int)) := by
  obtain ⟨h0, h1, h2, h3, h4, h5, h6, h7, h8, h9⟩ := h.dsk.cc.ok
  have hKN := h.dsk.cc.KN
  have g1 := F.G.ok.t1
  have g2 := F.G.ok.t2
  obtain ⟨bv, hr, hb⟩ := h.r
  simp only [drC] at hr
  refine pure_spec F.e103 rfl rfl ?_
  simp only [ac103]
  simp (implicitDefEqProofs := false) (disch := omega) only [W2, opds, Nat.testBit, Nat.reduceAdd, Nat.reduceShiftRight, Nat.reduceAnd, Nat.reduceBNe, Nat.reduceMul, hr]
  refine use_pure (geom_spec F.e53 h.dsk) fun r1 => ?_
  simp only [gV]
  simp (implicitDefEqProofs := false) (disch := omega) only [W2, opds, Nat.testBit, Nat.reduceAdd, Nat.reduceShiftRight, Nat.reduceAnd, Nat.reduceBNe, Nat.reduceMul, s_fldV, fie_mk]
  refine use_pure (dsize_spec F h) fun r2 => ?_
  have h3 : ((a - 4) / (T * 2) : Nat) ≤ 100 := Nat.le_trans (Nat.div_le_self _ _) (by omega)
  have h4 : (0 : Int) ≤ (((a - 4) / (T * 2) : Nat) : Int) := Int.natCast_nonneg _
  have h5 : (((a - 4) / (T * 2) : Nat) : Int) ≤ 100 := by exact_mod_cast h3
  simp (implicitDefEqProofs := false) (disch := omega) only [W2, opds, Nat.testBit, Nat.reduceAdd, Nat.reduceShiftRight, Nat.reduceAnd, Nat.reduceBNe, Nat.reduceMul]
theorem dhasb_spec {T O : Nat} (F : Fn3 E Y T O) {i : Ids} {pb : Nat} {m : FM} {n : Nat} {xs : List (Int × Value)} {c : Nat} {es : List Ent} {bs : List Bnd} {t : Nat} (h : Drv i T O pb m n xs c es bs t) {k : Nat} (hk : k < es.length) : Pure (callW PG E Y 33 [.pointer (some ⟨i.R, 0, none⟩), .int .i64 (k : Int)] m n) m n (.bool true) := by
  obtain ⟨h0, h1, h2, h3, h4, h5, h6, h7, h8, h9⟩ := h.dsk.cc.ok
  have hKN := h.dsk.cc.KN
  have hel := h.el
  obtain ⟨bv, hr, hb⟩ := h.r
  simp only [drC] at hr
  refine pure_spec F.e33 rfl rfl ?_
  simp only [ac33]
  simp (implicitDefEqProofs := false) (disch := omega) only [W2, opds, Nat.testBit, Nat.reduceAdd, Nat.reduceShiftRight, Nat.reduceAnd, Nat.reduceBNe, Nat.reduceMul, hr]
theorem state_spec {T O : Nat} (F : Fn3 E Y T O) {i : Ids} {pb : Nat} {m : FM} {n : Nat} {xs : List (Int × Value)} {c : Nat} {es : List Ent} {bs : List Bnd} {t : Nat} (h : Drv i T O pb m n xs c es bs t) : Pure (callW PG E Y 32 [.pointer (some ⟨i.R, 0, none⟩)] m n) m n (.int .i64 0) := by
  obtain ⟨h0, h1, h2, h3, h4, h5, h6, h7, h8, h9⟩ := h.dsk.cc.ok
  have hKN := h.dsk.cc.KN
  obtain ⟨bv, hr, hb⟩ := h.r
  simp only [drC] at hr
  refine pure_spec F.e32 rfl rfl ?_
  simp only [ac32]
  simp (implicitDefEqProofs := false) (disch := omega) only [W2, opds, Nat.testBit, Nat.reduceAdd, Nat.reduceShiftRight, Nat.reduceAnd, Nat.reduceBNe, Nat.reduceMul, eqlnil34, hr]
end Go.Am.CS
namespace Go.Am.CS
set_option maxRecDepth 100000
open Go Go.Am
variable {E : Nat → Option AFn} {Y : Nat → List Value → FM → Nat → OR FM}
theorem slz_bs' {i : Ids} {pb : Nat} {M M' : FM} {n0 N N' : Nat} {v : Value} {l : List Bnd} (h : SlZ 4 M n0 N v l.length (bcells l)) (hf : ∀ b, n0 ≤ b → b < N → M' b = M b) (hN : N ≤ N') (hl5 : l.length = 5) (hk : i.K ≤ n0) (hp : pb < n0 ∨ N ≤ pb) : BsW i pb M' N' v l := slz_bs h hf hN (by omega) (by omega) hk hp
theorem Dsk.keepX {i : Ids} {T O pb : Nat} {M M' : FM} {N N' : Nat} {xs : List (Int × Value)} {c : Nat} (h : Dsk i T O pb M N xs c) (hN : N ≤ N') (hf : ∀ b, b < N → b ≠ i.R → b ≠ i.EN → M' b = M b) : Dsk i T O pb M' N' xs c := by
  obtain ⟨h0, h1, h2, h3, h4, h5, h6, h7, h8, h9⟩ := h.cc.ok
  have hK := h.cc.KN
  obtain ⟨s0, s1, s2, s3, op, hd⟩ := h.dk
  obtain ⟨lf, hp⟩ := h.pw
  exact ⟨h.cc.keepX hN fun b hb _ _ k1 k2 => hf b hb k1 k2, ⟨s0, s1, s2, s3, op, (hf _ (by omega) (by omega) (by omega)).trans hd⟩, lf, (hf _ (by omega) (by omega) (by omega)).trans hp⟩
theorem slz_bt {sz : Nat} {M : FM} {n0 N : Nat} {v : Value} {len : Nat} {cs : List Value} (h : SlZ sz M n0 N v len cs) (k : Nat) (hk : N ≤ k) : belowV k (.tuple #[v, .int .i64 0]) = true := by
  rcases h with ⟨_, _, rfl⟩ | ⟨_, _, b, rfl, _, hb, _⟩
  · rfl
  · show (Nat.blt b k && (true && true)) = true
    rw [blt_true (by omega)]; rfl
def unlB (S : Nat) (x : Ent) (bs : List Bnd) : List Bnd := if x.ver = 0 then bs else match bs[(x.adr - 4) / S]? with
  | some y => bs.set ((x.adr - 4) / S) { y with live := y.live - 1 }
  | none => bs
theorem unlB_len (S : Nat) (x : Ent) (bs : List Bnd) : (unlB S x bs).length = bs.length := by
  unfold unlB
  split
  · rfl
  · split <;> simp
theorem unlB_eq {S : Nat} {x : Ent} {bs : List Bnd} (hv : ¬ x.ver = 0) (h : (x.adr - 4) / S < bs.length) : unlB S x bs = bs.set ((x.adr - 4) / S) { bs[(x.adr - 4) / S] with live := bs[(x.adr - 4) / S].live - 1 } := by
  rw [unlB, if_neg hv, List.getElem?_eq_getElem h]
theorem idx_ent {b k len c : Nat} (h : k < len) : idxV 3 k (.slice (some ⟨b, 0, none⟩) len c) = some (.pointer (some ⟨b, k * 3, none⟩)) := by rw [idx_mk h, Nat.zero_add]
theorem dunlink {T O : Nat} (F : Fn3 E Y T O) {i : Ids} {pb : Nat} {m : FM} {n : Nat} {xs : List (Int × Value)} {c : Nat} {es : List Ent} {bs : List Bnd} {t : Nat} (h : Drv i T O pb m n xs c es bs t) {k : Nat} (hk : k < es.length) (hx : ¬ es[k].ver = 0 → 4 ≤ es[k].adr ∧ es[k].adr < 4 + 5 * (T * 2) ∧ ∀ hb : (es[k].adr - 4) / (T * 2) < bs.length, 1 ≤ bs[(es[k].adr - 4) / (T * 2)].live ∧ bs[(es[k].adr - 4) / (T * 2)].live ≤ 100) :
    Rt (callW PG E Y 106 [.pointer (some ⟨i.R, 0, none⟩), .int .i64 (k : Int)] m n) fun r m' n' w => Nat.testBit w i.EN = true ∧ (n ≤ n' ∧ Fr i.P i.EN pb n m m' w ∧ Drv i T O pb m' n' xs c (es.set k ⟨0, 0⟩) (unlB (T * 2) es[k] bs) t) := by
  obtain ⟨h0, h1, h2, h3, h4, h5, h6, h7, h8, h9⟩ := h.dsk.cc.ok
  have hKN := h.dsk.cc.KN
  have hpk := h.dsk.cc.pbk
  have hpN := h.dsk.cc.pbN
  have hel := h.el
  have hbl := h.bl
  have g1 := F.G.ok.t1
  have g2 := F.G.ok.t2
  obtain ⟨bv, hr, hb⟩ := h.r
  simp only [drC] at hr
  have hen := h.en
  obtain ⟨a1, a2, a3, a4⟩ := ecells_at hk
  have hix := idx_ent (b := i.EN) (c := UNK) hk
  have hset : setCells (ecells es) (k * 3) [.int .i64 0, .int .u64 0, .int .i64 (-1)] = some (ecells (es.set k ⟨0, 0⟩)) := ecells_set es k hk ⟨0, 0⟩
  refine wrt_specN (R := fun m' n' w => n ≤ n' ∧ Fr i.P i.EN pb n m m' w ∧ Drv i T O pb m' n' xs c (es.set k ⟨0, 0⟩) (unlB (T * 2) es[k] bs) t) F.e106 rfl rfl (show i.EN < n by omega) fun Q hQ => ?_
  simp only [ac106]
  by_cases hv : es[k].ver = 0
  · have ea : es[k].a = -1 := if_pos hv
    rw [ea] at a4
    simp (implicitDefEqProofs := false) (disch := omega) only [W2, opds, Nat.testBit, Nat.reduceAdd, Nat.reduceShiftRight, Nat.reduceAnd, Nat.reduceBNe, Nat.reduceMul, hr, hix, hen, a4, hset]
    refine hQ _ _ _ _ (by rw [bit_test]; simp) ⟨Nat.le_refl _, fun b hb hk hne => ⟨fput_ne _ _ _ _ (by omega), bit_ne (by omega)⟩, ?_⟩
    have l1 : ∀ b, b ≠ i.EN → (AMem.put m i.EN (some (.cells (ecells (es.set k ⟨0, 0⟩)) 3 true true)) : FM) b = m b := fun b hb => fput_ne _ _ _ _ hb
    refine ⟨h.dsk.keepX (Nat.le_refl _) fun b _ _ hne => l1 b hne, ⟨bv, ?_, ?_⟩, fput_same _ _ _, by rw [unlB_len]; exact hbl, by rw [List.length_set]; exact hel⟩
    · rw [List.length_set, l1 _ (by omega)]; exact hr
    · rw [unlB, if_pos hv]
      exact hb.fr2 (by omega) h9 fun b _ _ e2 => l1 b e2
  · have ea : es[k].a = (es[k].adr : Int) := if_neg hv
    rw [ea] at a4
    obtain ⟨x1, x2, x3⟩ := hx hv
    have hdb : (es[k].adr - 4) / (T * 2) < bs.length := by
      rw [hbl]
      exact Nat.div_lt_of_lt_mul (by omega)
    obtain ⟨x4, x5⟩ := x3 hdb
    obtain ⟨p1, p2, p3, p4⟩ := hb.p
    simp (implicitDefEqProofs := false) (disch := omega) only [W2, opds, Nat.testBit, Nat.reduceAdd, Nat.reduceShiftRight, Nat.reduceAnd, Nat.reduceBNe, Nat.reduceMul, hr, hix, hen, a4, p2, p3]
    refine use_pureX (dband_spec F h _ x1 x2) fun r1 => ?_
    simp (implicitDefEqProofs := false) (disch := omega) only [W2, opds, Nat.testBit, Nat.reduceAdd, Nat.reduceShiftRight, Nat.reduceAnd, Nat.reduceBNe, Nat.reduceMul, p2, p3]
    refine use_rtX (unlink_spec F.e142 F.e143 F.e145 F.e185 hb hdb x4 x5) fun r2 m2 n2 r3 w2 hh => ?_
    obtain ⟨hn2, hf2, hw2, v', rfl, hs2⟩ := hh
    have hvo := hs2.one
    have hr2 := (hf2 i.R (by omega)).trans hr
    have hen2 := (hf2 i.EN (by omega)).trans hen
    obtain ⟨k1, k2⟩ := land_frz (hw2 n (Nat.le_refl _)) (show i.R < n by omega)
    simp (implicitDefEqProofs := false) (disch := omega) only [W2, opds, Nat.testBit, Nat.reduceAdd, Nat.reduceShiftRight, Nat.reduceAnd, Nat.reduceBNe, Nat.reduceMul, extr_mk, hvo, cells_of_one hvo, hr2, hen2, slz_bt hs2, k1, k2, hs2.bel, hs2.belF, hix, hset]
    generalize hM3 : (AMem.put (AMem.put m2 i.R _) i.EN _ : FM) = M3
    have l3 : ∀ b, b ≠ i.R → b ≠ i.EN → M3 b = m2 b := fun b e1 e2 => by rw [← hM3, fput_ne _ _ _ _ e2, fput_ne _ _ _ _ e1]
    have q1 : M3 i.R = some (.cells (drC i es.length v' t) 0 false true) := by rw [← hM3, fput_ne _ _ _ _ (by omega)]; exact fput_same _ _ _
    have q2 : M3 i.EN = some (.cells (ecells (es.set k ⟨0, 0⟩)) 3 true true) := by rw [← hM3]; exact fput_same _ _ _
    rw [← unlB_eq hv hdb] at hs2
    refine hQ _ _ _ _ (by simp only [lor_test, bit_test]; simp) ⟨by omega, fun b hb hk hne => ⟨by rw [l3 b (by omega) (by omega), hf2 b hb], ?_⟩, ?_⟩
    · simp only [lor_test, mod_bit (hw2 n (Nat.le_refl _)) b hb, bit_ne (show b ≠ i.R by omega), bit_ne (show b ≠ i.EN by omega)]; rfl
    · refine ⟨h.dsk.keepX (by omega) fun b hb e1 e2 => by rw [l3 b e1 e2, hf2 b hb], ⟨v', ?_, ?_⟩, q2, by rw [unlB_len]; exact hbl, by rw [List.length_set]; exact hel⟩
      · rw [List.length_set]; exact q1
      · exact slz_bs' hs2 (fun b e1 e2 => l3 b (by omega) (by omega)) (Nat.le_refl _) (by rw [unlB_len]; exact hbl) (by omega) (.inl (by omega))
end Go.Am.CS
namespace Go.Am.CS
set_option maxRecDepth 100000
open Go Go.Am
variable {E : Nat → Option AFn} {Y : Nat → List Value → FM → Nat → OR FM}
theorem c114_spec {T O : Nat} (F : Fn3 E Y T O) {i : Ids} {pb : Nat} {m : FM} {n : Nat} {xs : List (Int × Value)} {c : Nat} {es : List Ent} {bs : List Bnd} {t : Nat} (h : Drv i T O pb m n xs c es bs t) {n0 bd ba bo a : Nat} {oc : Value} (hn0 : i.K ≤ n0) (kd : n0 ≤ bd ∧ bd ≠ bo ∧ bd < n ∧ m bd = some (.cells [.pointer (some ⟨i.R, 0, none⟩)] 0 false true)) (ka : n0 ≤ ba ∧ ba ≠ bo ∧ ba < n ∧ m ba = some (.cells [.int .i64 (a : Int)] 0 false true)) (ko : n0 ≤ bo ∧ bo < n ∧ m bo = some (.cells [oc] 0 false true)) (ha : a < xs.length) {v : Value} {len : Nat} {cs : List Value} (hx : xs[a] = (1, v)) (hv : By i pb m n v len cs) (hone : cs.all Am.one = true) (hl : len ≤ 64) :
    Rt (callW PG E Y 114 [.pointer (some ⟨bd, 0, none⟩), .pointer (some ⟨ba, 0, none⟩), .pointer (some ⟨bo, 0, none⟩)] m n) fun r m' n' w => Nat.testBit w bo = true ∧ (r = .int .i64 0 ∧ (n ≤ n' ∧ Nat.testBit w i.P = true ∧ (∀ b, b < n → b ≠ bo → b ≠ i.P → b ≠ i.D → m' b = m b) ∧ (∀ b, b < n → b ≠ bo → ¬ (i.P ≤ b ∧ b ≤ i.D) → b ≠ pb → Nat.testBit w b = false) ∧ (∃ s0 s1 s2 s3 op, m' i.D = some (.cells (dkC i T O s0 s1 s2 s3 op) 0 false true)) ∧ (∃ lf, m' i.P = some (.cells (pwC lf) 0 false true)) ∧ ∃ v', m' bo = some (.cells [v'] 0 false true) ∧ SlZ 1 m' n n' v' len cs)) := by
  obtain ⟨h0, h1, h2, h3, h4, h5, h6, h7, h8, h9⟩ := h.dsk.cc.ok
  have hKN := h.dsk.cc.KN
  have hxl := h.dsk.cc.con.len
  obtain ⟨bv, hr, hb⟩ := h.r
  simp only [drC] at hr
  obtain ⟨kd1, kd2, kd3, kd4⟩ := kd
  obtain ⟨ka1, ka2, ka3, ka4⟩ := ka
  obtain ⟨ko1, ko2, ko3⟩ := ko
  refine wrt_spec (R := fun r m' n' w => r = .int .i64 0 ∧ (n ≤ n' ∧ Nat.testBit w i.P = true ∧ (∀ b, b < n → b ≠ bo → b ≠ i.P → b ≠ i.D → m' b = m b) ∧ (∀ b, b < n → b ≠ bo → ¬ (i.P ≤ b ∧ b ≤ i.D) → b ≠ pb → Nat.testBit w b = false) ∧ (∃ s0 s1 s2 s3 op, m' i.D = some (.cells (dkC i T O s0 s1 s2 s3 op) 0 false true)) ∧ (∃ lf, m' i.P = some (.cells (pwC lf) 0 false true)) ∧ ∃ v', m' bo = some (.cells [v'] 0 false true) ∧ SlZ 1 m' n n' v' len cs)) F.e114 rfl ko2 fun Q hQ => ?_
  simp only [ac114]
  simp (implicitDefEqProofs := false) (disch := omega) only [W2, opds, Nat.testBit, Nat.reduceAdd, Nat.reduceShiftRight, Nat.reduceAnd, Nat.reduceBNe, Nat.reduceMul, kd4, hr, ka4]
  refine use_rtX (disk_read F.toFn2 h.dsk ha hx hv hone hl) fun r1 m1 n1 r2 w1 hh => ?_
  obtain ⟨hw1, hn1, hf1, hF1, hD1, v', rfl, hS1⟩ := hh
  have hvo := hS1.one
  have ko4 := (hf1 bo ko2 (by omega) (by omega)).trans ko3
  simp (implicitDefEqProofs := false) (disch := omega) only [W2, opds, Nat.testBit, Nat.reduceAdd, Nat.reduceShiftRight, Nat.reduceAnd, Nat.reduceBNe, Nat.reduceMul, extr_mk, slz_bt hS1, hvo, cells_of_one hvo, hS1.bel, hS1.belF, ko4]
  have l2 : ∀ b, b ≠ bo → (AMem.put m1 bo (some (.cells [v'] 0 false true)) : FM) b = m1 b := fun b hb => fput_ne _ _ _ _ hb
  obtain ⟨s0, s1, s2, s3, op, hd⟩ := hD1.dk
  obtain ⟨lf, hp⟩ := hD1.pw
  refine hQ _ _ _ _ _ (by simp only [lor_test, bit_test]; simp) ⟨rfl, hn1, by simp only [lor_test, hw1]; simp, fun b hb e1 e2 e3 => by rw [l2 b e1, hf1 b hb e2 e3], fun b hb e1 e2 e3 => ?_, ⟨s0, s1, s2, s3, op, by rw [l2 _ (by omega)]; exact hd⟩, ⟨lf, by rw [l2 _ (by omega)]; exact hp⟩, v', fput_same _ _ _, hS1.frame (Nat.le_refl _) fun b e1 e2 => l2 b (by omega)⟩
  simp only [lor_test, (hF1 b hb e2 e3).2, bit_ne e1]; rfl
theorem dsector {T O : Nat} (F : Fn3 E Y T O) {i : Ids} {pb : Nat} {m : FM} {n : Nat} {xs : List (Int × Value)} {c : Nat} {es : List Ent} {bs : List Bnd} {t : Nat} (h : Drv i T O pb m n xs c es bs t) {a : Nat} (ha : a < xs.length) {v : Value} {len : Nat} {cs : List Value} (hx : xs[a] = (1, v)) (hv : By i pb m n v len cs) (hone : cs.all Am.one = true) (hl : len ≤ 64) :
    Rt (callW PG E Y 70 [.pointer (some ⟨i.R, 0, none⟩), .int .i64 (a : Int)] m n) fun r m' n' w => Nat.testBit w i.P = true ∧ (n ≤ n' ∧ (∀ b, b < n → b ≠ i.P → b ≠ i.D → m' b = m b) ∧ Fr i.P i.EN pb n m m' w ∧ Dsk i T O pb m' n' xs c ∧ ∃ v', r = .tuple #[v', .int .i64 0] ∧ SlZ 1 m' n n' v' len cs) := by
  obtain ⟨h0, h1, h2, h3, h4, h5, h6, h7, h8, h9⟩ := h.dsk.cc.ok
  have hKN := h.dsk.cc.KN
  refine wrt_spec (R := fun r m' n' w => n ≤ n' ∧ (∀ b, b < n → b ≠ i.P → b ≠ i.D → m' b = m b) ∧ Fr i.P i.EN pb n m m' w ∧ Dsk i T O pb m' n' xs c ∧ ∃ v', r = .tuple #[v', .int .i64 0] ∧ SlZ 1 m' n n' v' len cs) F.e70 rfl (show i.P < n by omega) fun Q hQ => ?_
  simp only [ac70]
  simp (implicitDefEqProofs := false) (disch := omega) only [W2, opds, Nat.testBit, Nat.reduceAdd, Nat.reduceShiftRight, Nat.reduceAnd, Nat.reduceBNe, Nat.reduceMul, s_func]
  generalize hM1 : (AMem.put (AMem.put (AMem.put m n _) (n + 1) _) (n + 2) _ : FM) = M1
  have l1 : ∀ b, b < n → M1 b = m b := fun b hb => by rw [← hM1, fput_ne _ _ _ _ (by omega), fput_ne _ _ _ _ (by omega), fput_ne _ _ _ _ (by omega)]
  have p0 : M1 n = some (.cells [.pointer (some ⟨i.R, 0, none⟩)] 0 false true) := by rw [← hM1, fput_ne _ _ _ _ (by omega), fput_ne _ _ _ _ (by omega)]; exact fput_same _ _ _
  have p1 : M1 (n + 1) = some (.cells [.int .i64 (a : Int)] 0 false true) := by rw [← hM1, fput_ne _ _ _ _ (by omega)]; exact fput_same _ _ _
  have p2 : M1 (n + 2) = some (.cells [.slice none 0 0] 0 false true) := by rw [← hM1]; exact fput_same _ _ _
  have hv1 : By i pb M1 (n + 3) v len cs := hv.fr (lo := 0) (hi := 0) (w := 0) (fun b hb _ _ => ⟨l1 b hb, Nat.zero_testBit _⟩) (by omega) (by omega) (.inl rfl)
  have hD1 := h.keep (show n ≤ n + 3 by omega) l1
  refine use_rt (retry_spec F.e21 (f := 114) (cs := [.pointer (some ⟨n, 0, none⟩), .pointer (some ⟨n + 1, 0, none⟩), .pointer (some ⟨n + 2, 0, none⟩)]) (show n + 2 < n + 3 by omega) (c114_spec F hD1 (n0 := n) (by omega) ⟨by omega, by omega, by omega, p0⟩ ⟨by omega, by omega, by omega, p1⟩ ⟨by omega, by omega, p2⟩ ha hx hv1 hone hl)) fun r3 m3 n3 r4 w3 hh => ?_
  obtain ⟨q0, rfl, q1, q2, q3, q4, ⟨s0, s1, s2, s3, op, q5⟩, ⟨lf, q6⟩, v', q7, q8⟩ := hh
  have hvo := q8.one
  simp (implicitDefEqProofs := false) (disch := omega) only [W2, opds, Nat.testBit, Nat.reduceAdd, Nat.reduceShiftRight, Nat.reduceAnd, Nat.reduceBNe, Nat.reduceMul, q7, hvo]
  refine hQ _ _ _ _ _ (by simp only [lor_test, q2]; simp) ⟨by omega, fun b hb e1 e2 => by rw [q3 b (by omega) (by omega) e1 e2, l1 b hb], fun b hb hk hne => ⟨by rw [q3 b (by omega) (by omega) (by omega) (by omega), l1 b hb], ?_⟩, ⟨?_, ⟨s0, s1, s2, s3, op, q5⟩, lf, q6⟩, v', rfl, q8.low (by omega)⟩
  · simp only [lor_test, q4 b (by omega) (by omega) (by omega) hne, bit_ne (show b ≠ n by omega), bit_ne (show b ≠ n + 1 by omega), bit_ne (show b ≠ n + 2 by omega)]; rfl
  · exact h.dsk.cc.keepX (by omega) fun b hb e1 e2 _ _ => by rw [q3 b (by omega) (by omega) e1 e2, l1 b hb]
end Go.Am.CS
namespace Go.Am.CS
set_option maxRecDepth 100000
open Go Go.Am
variable {E : Nat → Option AFn} {Y : Nat → List Value → FM → Nat → OR FM}
theorem Dsk.re {i : Ids} {T O pb : Nat} {M M1 M' : FM} {N N1 N' : Nat} {xs : List (Int × Value)} {c : Nat} (h : Dsk i T O pb M N xs c) (hN : N ≤ N') (hf : ∀ b, b < N → b ≠ i.P → b ≠ i.D → M' b = M b) (h1 : Dsk i T O pb M1 N1 xs c) (hD : M' i.D = M1 i.D) (hP : M' i.P = M1 i.P) : Dsk i T O pb M' N' xs c := by
  obtain ⟨s0, s1, s2, s3, op, hd⟩ := h1.dk
  obtain ⟨lf, hp⟩ := h1.pw
  exact ⟨h.cc.keepX hN fun b hb e1 e2 _ _ => hf b hb e1 e2, ⟨s0, s1, s2, s3, op, hD.trans hd⟩, lf, hP.trans hp⟩
def entA (b ver d0 d1 d2 d3 d4 d5 d6 d7 : Nat) : Value := .agg #[.int .i64 1, .int .i64 (b : Int), .int .u64 (ver : Int), .int .u8 (d0 : Int), .int .u8 (d1 : Int), .int .u8 (d2 : Int), .int .u8 (d3 : Int), .int .u8 (d4 : Int), .int .u8 (d5 : Int), .int .u8 (d6 : Int), .int .u8 (d7 : Int)]
theorem n8s_one (ns : List Nat) : (n8s ns).all Am.one = true := by
  rw [n8s, List.all_map, List.all_eq_true]; intro x _; rfl
theorem n8s_u8 (ns : List Nat) : (n8s ns).all isU8 = true := by
  rw [n8s, List.all_map, List.all_eq_true]; intro x _; rfl
theorem dfetch {T O : Nat} (F : Fn3 E Y T O) {i : Ids} {pb : Nat} {m : FM} {n : Nat} {xs : List (Int × Value)} {c : Nat} {es : List Ent} {bs : List Bnd} {t : Nat} (h : Drv i T O pb m n xs c es bs t) {k : Nat} (hk : k < es.length) (hv1 : 1 ≤ es[k].ver) (hv2 : es[k].ver < 2 ^ 64) (ha : es[k].adr < xs.length) {v : Value} (hx : xs[es[k].adr] = (1, v)) {d0 d1 d2 d3 d4 d5 d6 d7 t0 : Nat} (ht : t0 < 2 ^ 64) (hds : ∀ x ∈ [d0, d1, d2, d3, d4, d5, d6, d7], x < 256) (hv : By i pb m n v 37 (n8s (encN k es[k].ver [d0, d1, d2, d3, d4, d5, d6, d7] t0))) :
    Rt (callW PG E Y 34 [.pointer (some ⟨i.R, 0, none⟩), .int .i64 (k : Int)] m n) fun r m' n' w => Nat.testBit w i.P = true ∧ (n ≤ n' ∧ (∀ b, b < n → b ≠ i.P → b ≠ i.D → m' b = m b) ∧ Fr i.P i.EN pb n m m' w ∧ Dsk i T O pb m' n' xs c ∧ r = .tuple #[entA k es[k].ver d0 d1 d2 d3 d4 d5 d6 d7, .int .i64 0]) := by
  obtain ⟨h0, h1, h2, h3, h4, h5, h6, h7, h8, h9⟩ := h.dsk.cc.ok
  have hKN := h.dsk.cc.KN
  have hel := h.el
  obtain ⟨bv, hr, hb⟩ := h.r
  simp only [drC] at hr
  have hen := h.en
  have hx1 : es[k].k = 1 := if_neg (by omega)
  have hx2 : es[k].a = (es[k].adr : Int) := if_neg (by omega)
  obtain ⟨a1, a2, a3, a4⟩ := ecells_at hk
  rw [hx1, hx2] at a1
  have hix := idx_ent (b := i.EN) (c := UNK) hk
  refine wrt_spec (R := fun r m' n' w => n ≤ n' ∧ (∀ b, b < n → b ≠ i.P → b ≠ i.D → m' b = m b) ∧ Fr i.P i.EN pb n m m' w ∧ Dsk i T O pb m' n' xs c ∧ r = .tuple #[entA k es[k].ver d0 d1 d2 d3 d4 d5 d6 d7, .int .i64 0]) F.e34 rfl (show i.P < n by omega) fun Q hQ => ?_
  simp only [ac34]
  simp (implicitDefEqProofs := false) (disch := omega) only [W2, opds, Nat.testBit, Nat.reduceAdd, Nat.reduceShiftRight, Nat.reduceAnd, Nat.reduceBNe, Nat.reduceMul, hr, hix, hen, a1]
  generalize hM1 : (AMem.put (AMem.put m n _) (n + 1) _ : FM) = M1
  have l1 : ∀ b, b < n → M1 b = m b := fun b hb => by rw [← hM1, fput_ne _ _ _ _ (by omega), fput_ne _ _ _ _ (by omega)]
  have p0 : M1 n = some (.cells [.int .i64 0, .int .i64 0, .int .u64 0, .int .u8 0, .int .u8 0, .int .u8 0, .int .u8 0, .int .u8 0, .int .u8 0, .int .u8 0, .int .u8 0] 0 false true) := by rw [← hM1, fput_ne _ _ _ _ (by omega)]; exact fput_same _ _ _
  have p1 : M1 (n + 1) = some (.cells [.int .i64 1, .int .u64 (es[k].ver : Int), .int .i64 (es[k].adr : Int)] 0 false true) := by rw [← hM1]; exact fput_same _ _ _
  have hD1 := h.keep (show n ≤ n + 2 by omega) l1
  have hw1 : By i pb M1 (n + 2) v 37 _ := hv.fr (lo := 0) (hi := 0) (w := 0) (fun b hb _ _ => ⟨l1 b hb, Nat.zero_testBit _⟩) (by omega) (by omega) (.inl rfl)
  refine use_rt (dsector F hD1 ha hx hw1 (n8s_one _) (by omega)) fun r2 m2 n2 r3 w2 hh => ?_
  obtain ⟨q0, q1, q2, q3, q4, v', rfl, hS⟩ := hh
  rcases hS with ⟨q, _⟩ | ⟨_, hcl, b2, rfl, e1, e2, e3⟩
  · omega
  have p0' := (q2 n (by omega) (by omega) (by omega)).trans p0
  have p1' := (q2 (n + 1) (by omega) (by omega) (by omega)).trans p1
  simp (implicitDefEqProofs := false) (disch := omega) only [W2, opds, Nat.testBit, Nat.reduceAdd, Nat.reduceShiftRight, Nat.reduceAnd, Nat.reduceBNe, Nat.reduceMul, extr_mk]
  refine use_rt (decode_spec F.e71 F.e115 F.e116 F.e92 F.e134 F.e168 (b := k) (by omega) hv1 hv2 ht hds e2 e3) fun r5 m5 n5 r6 w5 hh => ?_
  obtain ⟨z1, z2, z3, rfl⟩ := hh
  have p0'' := (z2 n (by omega)).trans p0'
  have p1'' := (z2 (n + 1) (by omega)).trans p1'
  simp (implicitDefEqProofs := false) (disch := omega) only [W2, opds, Nat.testBit, Nat.reduceAdd, Nat.reduceShiftRight, Nat.reduceAnd, Nat.reduceBNe, Nat.reduceMul, extr_mk, p1'', p0'']
  generalize hM6 : (AMem.put (AMem.put m5 n5 _) n _ : FM) = M6
  have l6 : ∀ b, b ≠ n → b < n2 → M6 b = m2 b := fun b f1 f2 => by rw [← hM6, fput_ne _ _ _ _ f1, fput_ne _ _ _ _ (by omega), z2 b f2]
  have fr : ∀ b, b < n → b ≠ i.P → b ≠ i.D → M6 b = m b := fun b hb f1 f2 => by rw [l6 b (by omega) (by omega), q2 b (by omega) f1 f2, l1 b hb]
  refine hQ _ _ _ _ _ (by simp only [lor_test, q0]; simp) ⟨by omega, fr, fun b hb hk' hne => ⟨fr b hb (by omega) (by omega), ?_⟩, h.dsk.re (by omega) fr q4 (l6 _ (by omega) (by omega)) (l6 _ (by omega) (by omega)), rfl⟩
  simp only [lor_test, (q3 b (by omega) hk' hne).2, mod_bit (z3 n2 (Nat.le_refl _)) b (by omega), bit_ne (show b ≠ n by omega), bit_ne (show b ≠ n + 1 by omega), bit_ne (show b ≠ n5 by omega)]; rfl
end Go.Am.CS
namespace Go.Am.CS
set_option maxRecDepth 100000
open Go Go.Am
variable {E : Nat → Option AFn} {Y : Nat → List Value → FM → Nat → OR FM}
theorem opF_or (S : Nat) (l : List Bnd) : ∀ j, j ≤ l.length → (opF S l j = -1 ∧ ∀ q, (h : q < l.length) → q < j → partB S l[q] = false) ∨ (∃ (k : Nat) (h : k < l.length), opF S l j = (k : Int) ∧ partB S l[k] = true)
  | 0, _ => .inl ⟨rfl, fun q _ h => by omega⟩
  | j + 1, hj => by
    have ih := opF_or S l j (by omega)
    rw [opF_succ S l j (by omega)]
    cases hp : partB S l[j]
    · rw [Bool.false_and, cond_false]
      rcases ih with ⟨h1, h2⟩ | h
      · refine .inl ⟨h1, fun q hq hqj => ?_⟩
        by_cases e : q = j
        · subst e; exact hp
        · exact h2 q hq (by omega)
      · exact .inr h
    · rw [Bool.true_and]
      cases hn : newerB l (opF S l j) j
      · rw [cond_false]
        rcases ih with ⟨h1, h2⟩ | h
        · rw [h1] at hn
          rw [newerB, decide_eq_false_iff_not] at hn
          exact absurd (.inl (by omega)) hn
        · exact .inr h
      · rw [cond_true]
        exact .inr ⟨j, by omega, rfl, hp⟩
theorem lsF_or (l : List Bnd) : ∀ j, j ≤ l.length → (lsF l j = -1 ∧ ∀ q, (h : q < l.length) → q < j → ¬ l[q].used = 0) ∨ (∃ (k : Nat) (h : k < l.length), lsF l j = (k : Int) ∧ l[k].used = 0)
  | 0, _ => .inl ⟨rfl, fun q _ h => by omega⟩
  | j + 1, hj => by
    have ih := lsF_or l j (by omega)
    rw [lsF_succ l j (by omega)]
    by_cases hu : l[j].used = 0
    · rw [show (l[j].used == 0) = true by simp [hu], Bool.true_and]
      cases hn : lessB l (lsF l j) j
      · rw [cond_false]
        rcases ih with ⟨h1, h2⟩ | h
        · rw [h1] at hn
          rw [lessB, decide_eq_false_iff_not] at hn
          exact absurd (.inl (by omega)) hn
        · exact .inr h
      · rw [cond_true]
        exact .inr ⟨j, by omega, rfl, hu⟩
    · rw [show (l[j].used == 0) = false by simp [hu], Bool.false_and, cond_false]
      rcases ih with ⟨h1, h2⟩ | h
      · refine .inl ⟨h1, fun q hq hqj => ?_⟩
        by_cases e : q = j
        · subst e; exact hu
        · exact h2 q hq (by omega)
      · exact .inr h
def Takes (S : Nat) (l : List Bnd) (k : Nat) : Prop := ∃ h : k < l.length, l[k].used < S ∧ (0 < l[k].used ∨ ∀ q, (h : q < l.length) → ¬ (0 < l[q].used ∧ l[q].used < S))
theorem dopen {T O : Nat} (F : Fn3 E Y T O) {i : Ids} {pb : Nat} {m : FM} {n : Nat} {xs : List (Int × Value)} {c : Nat} {es : List Ent} {bs : List Bnd} {t : Nat} (h : Drv i T O pb m n xs c es bs t) (ho : BOk (T * 2) bs) {z : Int} (hz : z < 0 ∨ ∃ (e : Nat) (he : e < bs.length), z = (e : Int) ∧ bs[e].used = T * 2) (hroom : ∃ (q : Nat) (hq : q < bs.length), bs[q].used < T * 2) :
    ∃ k : Nat, Takes (T * 2) bs k ∧ Pure (callW PG E Y 110 [.pointer (some ⟨i.R, 0, none⟩), .int .i64 z] m n) m n (.tuple #[.int .i64 (k : Int), .int .i64 0]) := by
  obtain ⟨h0, h1, h2, h3, h4, h5, h6, h7, h8, h9⟩ := h.dsk.cc.ok
  have hKN := h.dsk.cc.KN
  have hpN := h.dsk.cc.pbN
  have hbl := h.bl
  have g1 := F.G.ok.t1
  have g2 := F.G.ok.t2
  obtain ⟨bv, hr, hb⟩ := h.r
  simp only [drC] at hr
  obtain ⟨p1, p2, p3, p4⟩ := hb.p
  obtain ⟨v, ⟨k, rfl, hk⟩, hp⟩ := pure_specE (P := PG) (E := E) (Y := Y) (m := m) (n := n) (args := [.pointer (some ⟨i.R, 0, none⟩), .int .i64 z]) (S := fun v => ∃ k : Nat, v = .tuple #[.int .i64 (k : Int), .int .i64 0] ∧ Takes (T * 2) bs k) F.e110 rfl (fun v hS => by obtain ⟨k, rfl, _⟩ := hS; rfl) (by
    simp only [ac110]
    simp (implicitDefEqProofs := false) (disch := omega) only [W2, opds, Nat.testBit, Nat.reduceAdd, Nat.reduceShiftRight, Nat.reduceAnd, Nat.reduceBNe, Nat.reduceMul, hr]
    refine use_rt (clone145 F.e145 hb) fun v1 m1 n1 r1 w1 hh => ?_
    obtain ⟨hn1, hf1, hw1, hS1⟩ := hh
    have hvo := hS1.one
    have hD1 := h.keep hn1 hf1
    have hB1 : BsW i pb m1 n1 v1 bs := slz_bs' hS1 (fun _ _ _ => rfl) (Nat.le_refl _) hbl (by omega) (.inl hpN)
    rcases hz with hz | ⟨e, he, rfl, hu⟩
    · simp (implicitDefEqProofs := false) (disch := omega) only [W2, opds, Nat.testBit, Nat.reduceAdd, Nat.reduceShiftRight, Nat.reduceAnd, Nat.reduceBNe, Nat.reduceMul, hvo]
      refine use_pure (dsize_spec F hD1) fun r2 => ?_
      simp (implicitDefEqProofs := false) (disch := omega) only [W2, opds, Nat.testBit, Nat.reduceAdd, Nat.reduceShiftRight, Nat.reduceAnd, Nat.reduceBNe, Nat.reduceMul, hvo]
      refine use_pure (bopen_spec F.e101 F.e137 F.e139 F.e169 F.e192 F.e170 hB1 (S := T * 2) (by omega) (by omega) ho) fun r3 => ?_
      rcases opF_or (T * 2) bs bs.length (Nat.le_refl _) with ⟨o1, o2⟩ | ⟨k, hk, o1, o2⟩
      · rw [o1]
        simp (implicitDefEqProofs := false) (disch := omega) only [W2, opds, Nat.testBit, Nat.reduceAdd, Nat.reduceShiftRight, Nat.reduceAnd, Nat.reduceBNe, Nat.reduceMul, hvo]
        have hl : ∃ (k : Nat) (h : k < bs.length), lsF bs bs.length = (k : Int) ∧ bs[k].used = 0 := by
          rcases lsF_or bs bs.length (Nat.le_refl _) with ⟨o3, o4⟩ | hq
          · obtain ⟨q, hq, hu⟩ := hroom
            have := o2 q hq hq
            rw [partB, decide_eq_false_iff_not] at this
            exact absurd ⟨by have := o4 q hq hq; omega, hu⟩ this
          · exact hq
        obtain ⟨k, hk, o3, o4⟩ := hl
        refine use_pure (least_spec F.e146 hB1 (by rw [o3]; omega)) fun r4 => ?_
        rw [o3]
        simp (implicitDefEqProofs := false) (disch := omega) only [W2, opds, Nat.testBit, Nat.reduceAdd, Nat.reduceShiftRight, Nat.reduceAnd, Nat.reduceBNe, Nat.reduceMul, extr_mk]
        refine ⟨⟨_, rfl, k, rfl, hk, by rw [o4]; omega, .inr fun q hq hpq => ?_⟩, hw1 n (Nat.le_refl _)⟩
        have := o2 q hq hq
        rw [partB, decide_eq_false_iff_not] at this
        exact this hpq
      · rw [o1]
        simp (implicitDefEqProofs := false) (disch := omega) only [W2, opds, Nat.testBit, Nat.reduceAdd, Nat.reduceShiftRight, Nat.reduceAnd, Nat.reduceBNe, Nat.reduceMul, hvo]
        rw [partB, decide_eq_true_eq] at o2
        exact ⟨⟨_, rfl, k, rfl, hk, o2.2, .inl o2.1⟩, hw1 n (Nat.le_refl _)⟩
    · rcases hS1 with ⟨q, _⟩ | ⟨_, hcl, cb, rfl, hb1, hb2, hm1⟩
      · omega
      have hix : idxV 4 e (.slice (some ⟨cb, 0, none⟩) bs.length UNK) = some (.pointer (some ⟨cb, e * 4, none⟩)) := by rw [idx_mk he, Nat.zero_add]
      have hset := (set_cell he).1 (T * 2)
      rw [← hu, show ({ bs[e] with used := bs[e].used } : Bnd) = bs[e] from rfl, List.set_getElem_self, hu] at hset
      simp (implicitDefEqProofs := false) (disch := omega) only [W2, opds, Nat.testBit, Nat.reduceAdd, Nat.reduceShiftRight, Nat.reduceAnd, Nat.reduceBNe, Nat.reduceMul, hvo]
      refine use_pure (dsize_spec F hD1) fun r2 => ?_
      simp (implicitDefEqProofs := false) (disch := omega) only [W2, opds, Nat.testBit, Nat.reduceAdd, Nat.reduceShiftRight, Nat.reduceAnd, Nat.reduceBNe, Nat.reduceMul, hvo, hix, hm1, hset]
      generalize hM2 : (AMem.put m1 cb _ : FM) = M2
      have l2 : ∀ b, b ≠ cb → M2 b = m1 b := fun b hb => by rw [← hM2, fput_ne _ _ _ _ hb]
      have hD2 := h.keep hn1 (M' := M2) fun b hb => by rw [l2 b (by omega), hf1 b hb]
      have hB2 : BsW i pb M2 n1 (.slice (some ⟨cb, 0, none⟩) bs.length UNK) bs := ⟨cb, UNK, true, true, rfl, by omega, by omega, hb2, by rw [← hM2]; exact fput_same _ _ _, by omega, by omega⟩
      refine use_pure (dsize_spec F hD2) fun r2 => ?_
      simp (implicitDefEqProofs := false) (disch := omega) only [W2, opds, Nat.testBit, Nat.reduceAdd, Nat.reduceShiftRight, Nat.reduceAnd, Nat.reduceBNe, Nat.reduceMul, hvo]
      refine use_pure (bopen_spec F.e101 F.e137 F.e139 F.e169 F.e192 F.e170 hB2 (S := T * 2) (by omega) (by omega) ho) fun r3 => ?_
      rcases opF_or (T * 2) bs bs.length (Nat.le_refl _) with ⟨o1, o2⟩ | ⟨k, hk, o1, o2⟩
      · rw [o1]
        simp (implicitDefEqProofs := false) (disch := omega) only [W2, opds, Nat.testBit, Nat.reduceAdd, Nat.reduceShiftRight, Nat.reduceAnd, Nat.reduceBNe, Nat.reduceMul, hvo]
        have hl : ∃ (k : Nat) (h : k < bs.length), lsF bs bs.length = (k : Int) ∧ bs[k].used = 0 := by
          rcases lsF_or bs bs.length (Nat.le_refl _) with ⟨o3, o4⟩ | hq
          · obtain ⟨q, hq, hu⟩ := hroom
            have := o2 q hq hq
            rw [partB, decide_eq_false_iff_not] at this
            exact absurd ⟨by have := o4 q hq hq; omega, hu⟩ this
          · exact hq
        obtain ⟨k, hk, o3, o4⟩ := hl
        refine use_pure (least_spec F.e146 hB2 (by rw [o3]; omega)) fun r4 => ?_
        rw [o3]
        simp (implicitDefEqProofs := false) (disch := omega) only [W2, opds, Nat.testBit, Nat.reduceAdd, Nat.reduceShiftRight, Nat.reduceAnd, Nat.reduceBNe, Nat.reduceMul, extr_mk]
        refine ⟨⟨_, rfl, k, rfl, hk, by rw [o4]; omega, .inr fun q hq hpq => ?_⟩, hw1 n (Nat.le_refl _)⟩
        have := o2 q hq hq
        rw [partB, decide_eq_false_iff_not] at this
        exact this hpq
      · rw [o1]
        simp (implicitDefEqProofs := false) (disch := omega) only [W2, opds, Nat.testBit, Nat.reduceAdd, Nat.reduceShiftRight, Nat.reduceAnd, Nat.reduceBNe, Nat.reduceMul, hvo]
        rw [partB, decide_eq_true_eq] at o2
        exact ⟨⟨_, rfl, k, rfl, hk, o2.2, .inl o2.1⟩, hw1 n (Nat.le_refl _)⟩)
  exact ⟨k, hk, hp⟩
end Go.Am.CS
