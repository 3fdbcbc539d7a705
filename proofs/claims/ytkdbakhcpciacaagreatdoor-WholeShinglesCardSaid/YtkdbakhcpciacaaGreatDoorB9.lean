/- The machine and its runs, part 9: AxSe AxSf AxSg AxSh AxSi AxUp AxSj. -/
import Derived.Test.YtkdbakhcpciacaaGreatDoorB8
set_option linter.unusedVariables false
set_option linter.unusedSimpArgs false
set_option linter.unusedSectionVars false
namespace Go.Am.CS
set_option maxRecDepth 100000
open Go Go.Am
variable {E : Nat → Option AFn} {Y : Nat → List Value → FM → Nat → OR FM}
theorem mod_bit {w n : Nat} (h : Nat.mod w (bit n) = 0) (k : Nat) (hk : k < n) : Nat.testBit w k = false := by
  have e : bit n = 2 ^ n := by rw [bit]; exact Nat.one_shiftLeft n
  rw [e] at h
  have h' : w % 2 ^ n = 0 := h
  have := Nat.testBit_mod_two_pow w n k
  rw [h', Nat.zero_testBit] at this
  simpa [hk] using this.symm
theorem wrt_spec {P : Program} {m : FM} {n k0 : Nat} {f : Nat} {fn : AFn} {args : List Value} {R : Value → FM → Nat → Nat → Prop} (hE : E f = some fn) (ha : llen args = fn.na) (hk0 : k0 < n) (h : ∀ Q : AX → List Value → FM → Nat → Nat → Prop, (∀ v e m' n' w, Nat.testBit w k0 = true → R v m' n' w → Q (.ret v) e m' n' w) → Wr P E Y [] 0 (execW P E Y fn.code args m n) Q) : Rt (callW P E Y f args m n) fun v m' n' w => Nat.testBit w k0 = true ∧ R v m' n' w := by
  rw [callW_fn hE ha]
  obtain ⟨X, e', m', n', r, w, hx, v, rfl, h1, h2⟩ := Gv_some (wr_start (h (fun X _ m' n' w => ∃ v, X = .ret v ∧ Nat.testBit w k0 = true ∧ R v m' n' w) fun v _ m' n' w k1 k2 => ⟨v, rfl, k1, k2⟩))
  rw [hx, leave_ret]
  have hn : ¬ Nat.mod w (bit n) = 0 := fun hw => by rw [mod_bit hw k0 hk0] at h1; cases h1
  have : leaveA m n v m' n' r w = .ok v m' n' r w := by
    unfold leaveA
    have hc : (addrFree v && Nat.beq (Nat.mod w (bit n)) 0) = false := by
      cases h3 : addrFree v
      · rfl
      · cases h4 : Nat.beq (Nat.mod w (bit n)) 0
        · rfl
        · exact absurd (Nat.eq_of_beq_eq_true h4) hn
    rw [hc]; rfl
  rw [this]
  exact ⟨h1, h2⟩
theorem land_frz {w k b : Nat} (h : Nat.mod w (bit k) = 0) (hb : b < k) : Nat.land w (bit b) = 0 ∧ Nat.land (bit b) w = 0 := by
  have e : Nat.land w (bit b) = 0 := by
    apply Nat.eq_of_testBit_eq
    intro i
    show (w &&& bit b).testBit i = _
    rw [Nat.testBit_and, bit_test, Nat.zero_testBit]
    by_cases hi : b = i
    · subst hi; rw [mod_bit h b hb]; rfl
    · simp [hi]
  exact ⟨e, by rw [show Nat.land (bit b) w = Nat.land w (bit b) from Nat.and_comm _ _]; exact e⟩
theorem bit_mod {w n : Nat} (h : ∀ b, b < n → Nat.testBit w b = false) : Nat.mod w (bit n) = 0 := by
  have e : bit n = 2 ^ n := by rw [bit]; exact Nat.one_shiftLeft n
  rw [e]
  apply Nat.eq_of_testBit_eq
  intro i
  show (w % 2 ^ n).testBit i = _
  rw [Nat.testBit_mod_two_pow, Nat.zero_testBit]
  by_cases hi : i < n
  · simp [h i hi]
  · simp [hi]
theorem bit_ne {a b : Nat} (h : b ≠ a) : Nat.testBit (bit a) b = false := by
  rw [bit_test]; simp; omega
theorem ints_at {l : List Nat} {j : Nat} (h : j < l.length) : cget (intsV l) j = some (.int .i64 ((l[j] : Nat) : Int)) := by
  rw [cget_eq, intsV, List.getElem?_map, List.getElem?_eq_getElem h]; rfl
theorem kill_L0 {T O : Nat} {mb cb N : Nat} {l : List Nat} {lb : Nat} {lv : Value} {M0 : FM} {xs0 : List (Int × Value)} {o w' : Bool} (hlv : ∀ j, j < l.length → idxV 1 j lv = some (.pointer (some ⟨lb, j, none⟩))) (hlo : Am.one lv = true) (hlb : 0 < l.length → lb < N ∧ lb ≠ cb ∧ M0 lb = some (.cells (intsV l) 1 o w')) (h0 : Med M0 N mb cb T O xs0) (hlt : ∀ s ∈ l, s < xs0.length) (hll : l.length ≤ 1000) (x2 x3 x4 x6 x7 : Value) {Q : AX → List Value → FM → Nat → Nat → Prop}
    (hQ : ∀ M w, (∀ b, b ≠ cb → M b = M0 b) → M cb = some (.cells (secs (killX xs0 l)) 2 true true) → (∀ b, b ≠ cb → Nat.testBit w b = false) → Q (.exit 1) [x2, .int .i64 (l.length : Int), lv, x3, x4, .pointer (some ⟨mb, 0, none⟩), x6, x7] M N w) :
    ∀ (d j : Nat), j + d = l.length → ∀ (M : FM) (w0 : Nat), (∀ b, b ≠ cb → M b = M0 b) → M cb = some (.cells (secs (killX xs0 (l.take j))) 2 true true) → (∀ b, b ≠ cb → Nat.testBit w0 b = false) →
    Gv (execW PG E Y ac64L0 [.int .i64 (j : Int), x2, .int .i64 (l.length : Int), lv, x3, x4, .pointer (some ⟨mb, 0, none⟩), x6, x7] M N) fun X e m n w => Q X e m n (Nat.lor w0 w) := by
  have hst0 := h0.st
  have hmbN := h0.mbN
  have hcbN := h0.cbN
  have hne := h0.ne
  intro d
  induction d with
  | zero =>
    intro j hj M w0 hM hC hw
    refine wr_loopN (L := ac64L0) (b := ac64L0b) rfl ?_
    simp only [ac64L0b]
    obtain rfl : j = l.length := by omega
    rw [List.take_length] at hC
    simp (implicitDefEqProofs := false) (disch := omega) only [W2, opds, Nat.testBit, Nat.reduceAdd, Nat.reduceShiftRight, Nat.reduceAnd, Nat.reduceBNe, Nat.reduceMul]
    exact hQ _ _ hM hC hw
  | succ d ih =>
    intro j hj M w0 hM hC hw
    have hst := (hM mb hne).trans hst0
    obtain ⟨hlbN, hlc, hlm⟩ := hlb (by omega)
    have hlM := (hM lb hlc).trans hlm
    have hli := hlv j (by omega)
    have hat := ints_at (l := l) (j := j) (by omega)
    have hs := hlt _ (List.getElem_mem (show j < l.length by omega))
    have hkl := killX_len (l.take j) xs0
    have hset := secs_set (killX xs0 (l.take j)) (l[j]'(by omega)) (by omega) 2 (.slice none 0 0)
    have hidx := idx_sec (cb := cb) (c := UNK) hs
    refine wr_loopN (L := ac64L0) (b := ac64L0b) rfl ?_
    simp only [ac64L0b]
    simp (implicitDefEqProofs := false) (disch := omega) only [W2, opds, Nat.testBit, Nat.reduceAdd, Nat.reduceShiftRight, Nat.reduceAnd, Nat.reduceBNe, Nat.reduceMul, hst, hlM, hat, hidx, hC, hset, hli, hlo]
    have e1 : (killX xs0 (l.take j)).set (l[j]'(by omega)) (2, .slice none 0 0) = killX xs0 (l.take (j + 1)) := by
      rw [List.take_succ_eq_append_getElem (by omega)]
      unfold killX
      rw [List.foldl_append]; rfl
    rw [e1]
    refine wr_end (ih (j + 1) (by omega) _ (Nat.lor w0 (bit cb)) (fun b hb => by rw [fput_ne _ _ _ _ hb, hM b hb]) (fput_same _ _ _) (fun k hk => by rw [lor_test, hw k hk, bit_ne hk]; rfl)) fun X e m n w hq => ?_
    rw [show Nat.lor w0 (Nat.lor (bit cb) w) = Nat.lor (Nat.lor w0 (bit cb)) w from (lor_assoc' _ _ _).symm]
    exact hq
theorem _root_.Go.Am.SlZ.belF {sz : Nat} {M : FM} {n0 N : Nat} {v : Value} {len : Nat} {cs : List Value} (h : SlZ sz M n0 N v len cs) (k : Nat) (hk : N ≤ k) : belowF k v = true := by
  rcases h with ⟨_, _, rfl⟩ | ⟨_, _, b, rfl, _, hb, _⟩
  · rfl
  · exact blt_true (show b < k by omega)
theorem _root_.Go.Am.SlZ.ints {M : FM} {n0 N : Nat} {v : Value} {l : List Nat} {cb : Nat} (h : SlZ 1 M n0 N v l.length (intsV l)) (hc : cb < n0) : ∃ lb, (∀ j, j < l.length → idxV 1 j v = some (.pointer (some ⟨lb, j, none⟩))) ∧ (0 < l.length → lb < N ∧ lb ≠ cb ∧ M lb = some (.cells (intsV l) 1 true true)) := by
  rcases h with ⟨h1, _, rfl⟩ | ⟨_, _, b, rfl, h1, h2, h3⟩
  · exact ⟨0, fun j hj => by omega, fun h => by omega⟩
  · exact ⟨b, fun j hj => by rw [idx_mk hj, Nat.zero_add, Nat.mul_one], fun _ => ⟨h2, by omega, h3⟩⟩
theorem shads_len (T O a : Nat) : (shads T O a).length = shn T O a := by rw [shads, List.length_map, List.length_range]
theorem media_write (hE : E 64 = some ac64) (h97 : E 97 = some ac97) (h61 : E 61 = some ac61) (h98 : E 98 = some ac98) (h136 : E 136 = some ac136) (h50 : E 50 = some ac50) (h54 : E 54 = some ac54) {T O : Nat} (G : Geo E Y T O) {m : FM} {n mb cb : Nat} {xs : List (Int × Value)} (h : Med m n mb cb T O xs) (a : Nat) (ha : a < 4 + 5 * (T * 2)) {v : Value} {len : Nat} {bs : List Value} (hv : Sh 1 m n v len bs) (hone : bs.all Am.one = true) (hl : len ≤ 64) :
    Rt (callW PG E Y 64 [.pointer (some ⟨mb, 0, none⟩), .int .i64 (a : Int), v] m n) fun r m' n' w => Nat.testBit w cb = true ∧ (n ≤ n' ∧ (∀ b, b < n → b ≠ cb → m' b = m b ∧ Nat.testBit w b = false) ∧ r = .int .i64 0 ∧ ∃ v', SlZ 1 m' n n' v' len bs ∧ Med m' n' mb cb T O (writeX T O a v' xs)) := by
  have hcbN := h.cbN
  have hmbN := h.mbN
  have hne := h.ne
  have hst := h.st
  have hsc := h.sc
  have hxl := h.len
  have hg := G.ok
  have g2 := hg.t2
  have hvo := hv.one
  refine wrt_spec (R := fun r m' n' w => n ≤ n' ∧ (∀ b, b < n → b ≠ cb → m' b = m b ∧ Nat.testBit w b = false) ∧ r = .int .i64 0 ∧ ∃ v', SlZ 1 m' n n' v' len bs ∧ Med m' n' mb cb T O (writeX T O a v' xs)) hE rfl hcbN fun Q hQ => ?_
  simp only [ac64]
  simp (implicitDefEqProofs := false) (disch := omega) only [W2, opds, Nat.testBit, Nat.reduceAdd, Nat.reduceShiftRight, Nat.reduceAnd, Nat.reduceBNe, Nat.reduceMul, eqlnil57, hvo]
  refine use_pure (mhas_spec h97 h hg a (by omega)) fun r1 => ?_
  simp (implicitDefEqProofs := false) (disch := omega) only [W2, opds, Nat.testBit, Nat.reduceAdd, Nat.reduceShiftRight, Nat.reduceAnd, Nat.reduceBNe, Nat.reduceMul, hv.len, hvo]
  simp (implicitDefEqProofs := false) (disch := omega) only [W2, opds, Nat.testBit, Nat.reduceAdd, Nat.reduceShiftRight, Nat.reduceAnd, Nat.reduceBNe, Nat.reduceMul, hst, hvo, hv.bel]
  refine use_rtX (clone61 h61 m n hv hone (by omega)) fun v1 m1 n1 r2 w1 hh => ?_
  obtain ⟨hn1, hf1, hw1, hS1⟩ := hh
  obtain ⟨k1, k2⟩ := land_frz (hw1 n (Nat.le_refl _)) hmbN
  obtain ⟨k3, k4⟩ := land_frz (hw1 n (Nat.le_refl _)) hcbN
  have hst1 := (hf1 mb hmbN).trans hst
  have hsc1 := (hf1 cb hcbN).trans hsc
  have hset := secs_set xs a (by omega) 1 v1
  have hidx := idx_sec (cb := cb) (c := UNK) (show a < xs.length by omega)
  have ho1 := hS1.one
  simp (implicitDefEqProofs := false) (disch := omega) only [W2, opds, Nat.testBit, Nat.reduceAdd, Nat.reduceShiftRight, Nat.reduceAnd, Nat.reduceBNe, Nat.reduceMul, k1, k2, k3, k4, hS1.bel, ho1, cells_of_one ho1, hidx, hsc1, hset]
  generalize hM2 : (AMem.put m1 cb (some (.cells (secs (xs.set a (1, v1))) 2 true true)) : FM) = M2
  have h2c : M2 cb = some (.cells (secs (xs.set a (1, v1))) 2 true true) := by rw [← hM2]; exact fput_same _ _ _
  have h2o : ∀ b, b ≠ cb → M2 b = m1 b := fun b hb => by rw [← hM2]; exact fput_ne _ _ _ _ hb
  have hst2 := (h2o mb hne).trans hst1
  have hS2 : SlZ 1 M2 n n1 v1 len bs := hS1.frame (Nat.le_refl _) fun b h1 h2 => h2o b (by omega)
  simp (implicitDefEqProofs := false) (disch := omega) only [W2, opds, Nat.testBit, Nat.reduceAdd, Nat.reduceShiftRight, Nat.reduceAnd, Nat.reduceBNe, Nat.reduceMul, hS1.belF, hst2]
  refine use_rt (shadow_spec h98 h136 h50 h54 G _ _ a (by omega)) fun v3 m3 n3 r3 w3 hh => ?_
  obtain ⟨hn3, hf3, hw3, hS3⟩ := hh
  have ho3 := hS3.one
  simp (implicitDefEqProofs := false) (disch := omega) only [W2, opds, Nat.testBit, Nat.reduceAdd, Nat.reduceShiftRight, Nat.reduceAnd, Nat.reduceBNe, Nat.reduceMul, hS3.len, ho3]
  rw [← shads_len] at hS3
  rw [← shads_len]
  obtain ⟨lb, hli, hlb⟩ := hS3.ints (cb := cb) (by omega)
  have hmed3 : Med m3 n3 mb cb T O (xs.set a (1, v1)) := by
    refine ⟨(hf3 mb (by omega)).trans ?_, (hf3 cb (by omega)).trans h2c, by rw [List.length_set]; exact hxl, by omega, by omega, hne, fun x hx => ?_⟩
    · rw [hst2, List.length_set]
    · rcases List.mem_or_eq_of_mem_set hx with hx | rfl
      · exact h.one x hx
      · exact ho1
  have hlt : ∀ s ∈ shads T O a, s < (xs.set a (1, v1)).length := fun s hs => by rw [List.length_set]; have := shads_lt hg ha hs; omega
  have hll : (shads T O a).length ≤ 1000 := by rw [shads_len]; unfold shn; split <;> first | omega | (have := Nat.min_le_left O (T - 1 - trk T a); have := hg.o; omega)
  refine wr_kont ((kill_L0 (l := shads T O a) hli ho3 hlb hmed3 hlt hll _ _ _ _ _ (fun M w hM hC hw => ?_) _ 0 (Nat.zero_add _) m3 0 (fun _ _ => rfl) hmed3.sc (fun j _ => Nat.zero_testBit _)).mono fun X e m' n' w hq => by simpa only [zero_lor'] using hq)
  intro rr
  simp (implicitDefEqProofs := false) (disch := omega) only [W2, opds, Nat.testBit, Nat.reduceAdd, Nat.reduceShiftRight, Nat.reduceAnd, Nat.reduceBNe, Nat.reduceMul]
  have hw3' := hw3 cb (by omega)
  refine hQ _ _ _ _ _ ?_ ⟨by omega, fun b hb hbc => ⟨by rw [hM b hbc, hf3 b (by omega), h2o b hbc, hf1 b hb], ?_⟩, rfl, v1, ?_, ?_⟩
  · simp only [lor_test, bit_test]
    simp
  · rw [lor_test, lor_test, lor_test, mod_bit (hw1 n (Nat.le_refl _)) b hb, bit_ne hbc, mod_bit (hw3 n1 (Nat.le_refl _)) b (by omega), hw b hbc]; rfl
  · exact hS2.frame (by omega) fun b h1 h2 => by rw [hM b (by omega), hf3 b (by omega)]
  · refine ⟨(hM mb hne).trans ?_, hC, by rw [writeX, killX_len, List.length_set]; exact hxl, by omega, by omega, hne, killX_one _ _ fun x hx => hmed3.one x hx⟩
    rw [hmed3.st, writeX, killX_len]
end Go.Am.CS
namespace Go.Am.CS
set_option maxRecDepth 100000
open Go Go.Am
variable {E : Nat → Option AFn} {Y : Nat → List Value → FM → Nat → OR FM}
theorem media_read (hE : E 72 = some ac72) (h97 : E 97 = some ac97) (h61 : E 61 = some ac61) {T O : Nat} (G : GOk T O) {m : FM} {n mb cb : Nat} {xs : List (Int × Value)} (h : Med m n mb cb T O xs) (a : Nat) (ha : a < xs.length) {v : Value} {len : Nat} {bs : List Value} (hx : xs[a] = (1, v)) (hv : Sh 1 m n v len bs) (hone : bs.all Am.one = true) (hl : len ≤ 64) :
    Rt (callW PG E Y 72 [.pointer (some ⟨mb, 0, none⟩), .int .i64 (a : Int)] m n) fun r m' n' w => n ≤ n' ∧ (∀ b, b < n → m' b = m b) ∧ (∀ j, j ≤ n → Nat.mod w (bit j) = 0) ∧ ∃ v', r = .tuple #[v', .int .i64 0] ∧ SlZ 1 m' n n' v' len bs := by
  have hcbN := h.cbN
  have hmbN := h.mbN
  have hne := h.ne
  have hst := h.st
  have hsc := h.sc
  have hxl := h.len
  have g2 := G.t2
  refine kept_specQ (R := fun r m' n' => ∃ v', r = .tuple #[v', .int .i64 0] ∧ SlZ 1 m' n n' v' len bs) hE rfl fun Q hQ => ?_
  obtain ⟨hg1, hg2⟩ := secs_get xs a ha
  rw [hx, ← cget_eq] at hg1 hg2
  simp only at hg1 hg2
  have hidx := idx_sec (cb := cb) (c := UNK) ha
  have hvo := hv.one
  simp only [ac72]
  simp (implicitDefEqProofs := false) (disch := omega) only [W2, opds, Nat.testBit, Nat.reduceAdd, Nat.reduceShiftRight, Nat.reduceAnd, Nat.reduceBNe, Nat.reduceMul, eqlnil57]
  refine use_pure (mhas_spec h97 h G a (by omega)) fun r1 => ?_
  simp (implicitDefEqProofs := false) (disch := omega) only [W2, opds, Nat.testBit, Nat.reduceAdd, Nat.reduceShiftRight, Nat.reduceAnd, Nat.reduceBNe, Nat.reduceMul, hst, hidx, hsc]
  simp (implicitDefEqProofs := false) (disch := omega) only [W2, opds, Nat.testBit, Nat.reduceAdd, Nat.reduceShiftRight, Nat.reduceAnd, Nat.reduceBNe, Nat.reduceMul, hst, hidx, hsc, hg1, hg2, hvo]
  refine use_rt (clone61 h61 m n hv hone (by omega)) fun v1 m1 n1 r2 w1 hh => ?_
  obtain ⟨hn1, hf1, hw1, hS1⟩ := hh
  simp (implicitDefEqProofs := false) (disch := omega) only [W2, opds, Nat.testBit, Nat.reduceAdd, Nat.reduceShiftRight, Nat.reduceAnd, Nat.reduceBNe, Nat.reduceMul]
  refine hQ _ _ _ _ _ hn1 hf1 ?_ ?_ ⟨v1, rfl, hS1⟩
  · simp (implicitDefEqProofs := false) (disch := omega) only [W2, opds, Nat.testBit, Nat.reduceAdd, Nat.reduceShiftRight, Nat.reduceAnd, Nat.reduceBNe, Nat.reduceMul, hw1 n (Nat.le_refl _)]
  · obtain ⟨b, _, _, hl1, hl2⟩ := hv.sl
    rcases hS1 with ⟨q, _⟩ | ⟨_, _, b, rfl, _⟩
    · omega
    · rfl
def blankX (xs : List (Int × Value)) (a : Nat) : Nat → List (Int × Value)
  | 0 => xs
  | i + 1 => (blankX xs a i).set (a + i) (0, .slice none 0 0)
theorem blankX_len (xs : List (Int × Value)) (a : Nat) : ∀ i, (blankX xs a i).length = xs.length
  | 0 => rfl
  | i + 1 => by rw [blankX, List.length_set, blankX_len xs a i]
theorem blankX_one (xs : List (Int × Value)) (a : Nat) (h : ∀ x ∈ xs, Am.one x.2 = true) : ∀ i, ∀ x ∈ blankX xs a i, Am.one x.2 = true
  | 0 => h
  | i + 1 => fun x hx => by
    rcases List.mem_or_eq_of_mem_set hx with hx | rfl
    · exact blankX_one xs a h i x hx
    · rfl
theorem erase_L0 {T O : Nat} {mb cb N a : Nat} {M0 : FM} {xs0 : List (Int × Value)} (h0 : Med M0 N mb cb T O xs0) (k : Nat) (ha : a + k ≤ xs0.length) (hk : xs0.length ≤ 1000) (x1 x3 x4 x6 x7 x9 : Value) {Q : AX → List Value → FM → Nat → Nat → Prop}
    (hQ : ∀ X e M w, X = .exit 0 → (∀ b, b ≠ cb → M b = M0 b) → M cb = some (.cells (secs (blankX xs0 a k)) 2 true true) → (∀ b, b ≠ cb → Nat.testBit w b = false) → (0 < k → Nat.testBit w cb = true) → Q X e M N w) :
    ∀ (d j : Nat), j + d = k → ∀ (x1 : Value) (M : FM) (w0 : Nat), (∀ b, b ≠ cb → M b = M0 b) → M cb = some (.cells (secs (blankX xs0 a j)) 2 true true) → (∀ b, b ≠ cb → Nat.testBit w0 b = false) → (0 < j → Nat.testBit w0 cb = true) →
    Gv (execW PG E Y ac96L0 [.int .i64 (j : Int), x1, .int .i64 (k : Int), x3, x4, .int .i64 (a : Int), x6, x7, .pointer (some ⟨mb, 0, none⟩), x9] M N) fun X e m n w => Q X e m n (Nat.lor w0 w) := by
  have hst0 := h0.st
  have hmbN := h0.mbN
  have hcbN := h0.cbN
  have hne := h0.ne
  intro d
  induction d with
  | zero =>
    intro j hj x1 M w0 hM hC hw ht
    refine wr_loopN (L := ac96L0) (b := ac96L0b) rfl ?_
    simp only [ac96L0b]
    obtain rfl : j = k := by omega
    simp (implicitDefEqProofs := false) (disch := omega) only [W2, opds, Nat.testBit, Nat.reduceAdd, Nat.reduceShiftRight, Nat.reduceAnd, Nat.reduceBNe, Nat.reduceMul]
    exact hQ _ _ _ _ rfl hM hC hw ht
  | succ d ih =>
    intro j hj x1 M w0 hM hC hw ht
    have hst := (hM mb hne).trans hst0
    have hkl := blankX_len xs0 a j
    have hset := secs_set (blankX xs0 a j) (a + j) (by omega) 0 (.slice none 0 0)
    have hidx := idx_sec (cb := cb) (c := UNK) (show a + j < xs0.length by omega)
    refine wr_loopN (L := ac96L0) (b := ac96L0b) rfl ?_
    simp only [ac96L0b]
    simp (implicitDefEqProofs := false) (disch := omega) only [W2, opds, Nat.testBit, Nat.reduceAdd, Nat.reduceShiftRight, Nat.reduceAnd, Nat.reduceBNe, Nat.reduceMul, hst, hidx, hC, hset]
    rw [show (blankX xs0 a j).set (a + j) (0, .slice none 0 0) = blankX xs0 a (j + 1) from rfl]
    refine wr_end (ih (j + 1) (by omega) _ _ (Nat.lor w0 (bit cb)) (fun b hb => by rw [fput_ne _ _ _ _ hb, hM b hb]) (fput_same _ _ _) (fun k hk => by rw [lor_test, hw k hk, bit_ne hk]; rfl) (fun _ => by rw [lor_test, bit_test]; simp)) fun X e m n w hq => ?_
    rw [show Nat.lor w0 (Nat.lor (bit cb) w) = Nat.lor (Nat.lor w0 (bit cb)) w from (lor_assoc' _ _ _).symm]
    exact hq
theorem media_erase (hE : E 96 = some ac96) (h135 : E 135 = some ac135) (h54 : E 54 = some ac54) {T O : Nat} (G : Geo E Y T O) {m : FM} {n mb cb : Nat} {xs : List (Int × Value)} (h : Med m n mb cb T O xs) (b : Nat) (hb : b < 5) :
    Rt (callW PG E Y 96 [.pointer (some ⟨mb, 0, none⟩), .int .i64 (b : Int)] m n) fun r m' n' w => Nat.testBit w cb = true ∧ (n ≤ n' ∧ (∀ b, b < n → b ≠ cb → m' b = m b ∧ Nat.testBit w b = false) ∧ r = .int .i64 0 ∧ Med m' n' mb cb T O (blankX xs (4 + b * T * 2) (T * 2))) := by
  have hcbN := h.cbN
  have hmbN := h.mbN
  have hne := h.ne
  have hst := h.st
  have hsc := h.sc
  have hxl := h.len
  have hg := G.ok
  have g2 := hg.t2
  refine wrt_spec (R := fun r m' n' w => n ≤ n' ∧ (∀ b, b < n → b ≠ cb → m' b = m b ∧ Nat.testBit w b = false) ∧ r = .int .i64 0 ∧ Med m' n' mb cb T O (blankX xs (4 + b * T * 2) (T * 2))) hE rfl hcbN fun Q hQ => ?_
  simp only [ac96]
  simp (implicitDefEqProofs := false) (disch := omega) only [W2, opds, Nat.testBit, Nat.reduceAdd, Nat.reduceShiftRight, Nat.reduceAnd, Nat.reduceBNe, Nat.reduceMul, eqlnil57, hst]
  refine use_pure (address_spec h135 G m n b hb) fun r1 => ?_
  simp (implicitDefEqProofs := false) (disch := omega) only [W2, opds, Nat.testBit, Nat.reduceAdd, Nat.reduceShiftRight, Nat.reduceAnd, Nat.reduceBNe, Nat.reduceMul, extr_mk, hst]
  refine use_pure (bandSize_spec h54 G m n) fun r2 => ?_
  simp (implicitDefEqProofs := false) (disch := omega) only [W2, opds, Nat.testBit, Nat.reduceAdd, Nat.reduceShiftRight, Nat.reduceAnd, Nat.reduceBNe, Nat.reduceMul]
  have hbs : 4 + b * T * 2 + T * 2 ≤ xs.length := by
    have : b * T ≤ 4 * T := Nat.mul_le_mul_right _ (by omega)
    omega
  refine wr_kont ((erase_L0 h (T * 2) hbs (by omega) (.int .i64 0) _ _ _ _ _ (fun X e M w hX hM hC hw ht => ?_) _ 0 (Nat.zero_add _) _ m 0 (fun _ _ => rfl) hsc (fun j _ => Nat.zero_testBit _) (fun h => by omega)).mono fun X e m' n' w hq => by simpa only [zero_lor'] using hq)
  intro rr
  subst hX
  simp (implicitDefEqProofs := false) (disch := omega) only [W2, opds, Nat.testBit, Nat.reduceAdd, Nat.reduceShiftRight, Nat.reduceAnd, Nat.reduceBNe, Nat.reduceMul]
  refine hQ _ _ _ _ _ (ht (by have := hg.t1; omega)) ⟨Nat.le_refl _, fun b hb hbc => ⟨hM b hbc, hw b hbc⟩, rfl, (hM mb hne).trans ?_, hC, by rw [blankX_len]; exact hxl, hmbN, hcbN, hne, blankX_one _ _ h.one _⟩
  rw [hst, blankX_len]
end Go.Am.CS
namespace Go.Am.CS
set_option maxRecDepth 100000
open Go Go.Am
variable {E : Nat → Option AFn} {Y : Nat → List Value → FM → Nat → OR FM}
structure Ids where
  K0 : Nat
  P : Nat
  sd : Nat
  md : Nat
  sc : Nat
  mc : Nat
  C : Nat
  D : Nat
  R : Nat
  EN : Nat
  K : Nat
structure Ids.Ok (i : Ids) : Prop where
  h0 : i.K0 ≤ i.P
  h1 : i.P < i.sd
  h2 : i.sd < i.md
  h3 : i.md < i.sc
  h4 : i.sc < i.mc
  h5 : i.mc < i.C
  h6 : i.C < i.D
  h7 : i.D < i.R
  h8 : i.R < i.EN
  h9 : i.EN < i.K
def Fr (lo hi pb n : Nat) (m m' : FM) (w : Nat) : Prop := ∀ b, b < n → ¬ (lo ≤ b ∧ b ≤ hi) → b ≠ pb → m' b = m b ∧ Nat.testBit w b = false
theorem Fr.trans {lo hi pb pb1 n n1 : Nat} {m m1 m2 : FM} {w1 w2 : Nat} (h1 : Fr lo hi pb n m m1 w1) (h2 : Fr lo hi pb1 n1 m1 m2 w2) (hn : n ≤ n1) (hp : pb1 = pb ∨ n ≤ pb1) : Fr lo hi pb n m m2 (Nat.lor w1 w2) := fun b hb hk hne => by
  obtain ⟨k1, k2⟩ := h1 b hb hk hne
  obtain ⟨k3, k4⟩ := h2 b (by omega) hk (by omega)
  exact ⟨k3.trans k1, by rw [lor_test, k2, k4]; rfl⟩
def isU8 : Value → Bool
  | .int .u8 _ => true
  | _ => false
def By (i : Ids) (pb : Nat) (M : FM) (N : Nat) (v : Value) (len : Nat) (cs : List Value) : Prop :=
  ∃ b o c xs opn wr, v = .slice (some ⟨b, o, none⟩) len c ∧ i.K ≤ b ∧ b ≠ pb ∧ b < N ∧ M b = some (.cells xs 1 opn wr) ∧ cellsAt xs o (len * 1) = some cs ∧ 0 < len ∧ cs.all isU8 = true
theorem By.sh {i : Ids} {pb : Nat} {M : FM} {N : Nat} {v : Value} {len : Nat} {cs : List Value} (h : By i pb M N v len cs) : Sh 1 M N v len cs := by
  obtain ⟨b, o, c, xs, opn, wr, h1, _, _, h2, h3, h4, h5, _⟩ := h
  exact ⟨b, o, c, xs, opn, wr, h1, h2, h3, h4, h5⟩
theorem By.u8 {i : Ids} {pb : Nat} {M : FM} {N : Nat} {v : Value} {len : Nat} {cs : List Value} (h : By i pb M N v len cs) : cs.all isU8 = true := by
  obtain ⟨b, o, c, xs, opn, wr, _, _, _, _, _, _, _, h6⟩ := h
  exact h6
theorem By.fr {i : Ids} {lo hi : Nat} {pb pb' : Nat} {M M' : FM} {N N' w : Nat} {v : Value} {len : Nat} {cs : List Value} (h : By i pb M N v len cs) (hf : Fr lo hi pb N M M' w) (hh : hi < i.K) (hN : N ≤ N') (hp : pb' = pb ∨ N ≤ pb') : By i pb' M' N' v len cs := by
  obtain ⟨b, o, c, xs, opn, wr, h1, h2, h3, h4, h5, h6, h7⟩ := h
  exact ⟨b, o, c, xs, opn, wr, h1, h2, by omega, by omega, ((hf b h4 (by omega) h3).1).trans h5, h6, h7⟩
theorem SlZ.by {i : Ids} {pb : Nat} {M : FM} {n0 N : Nat} {v : Value} {len : Nat} {cs : List Value} (h : SlZ 1 M n0 N v len cs) (hl : 0 < len) (hk : i.K ≤ n0) (hp : pb < n0 ∨ N ≤ pb) (h8 : cs.all isU8 = true) : By i pb M N v len cs := by
  rcases h with ⟨h1, _⟩ | ⟨h0, hcl, b, rfl, h1, h2, h3⟩
  · omega
  · exact ⟨b, 0, UNK, cs, true, true, rfl, by omega, by omega, h2, h3, by rw [cellsAt_mk, ldrop_z]; exact cells_all hcl.symm, hl, h8⟩
def Pop (i : Ids) (T pb : Nat) (M : FM) (N : Nat) (o : Value) : Prop :=
  (∃ ba bb a v len bs, o = .func (.func 63) #[] #[.pointer (some ⟨ba, 0, none⟩), .pointer (some ⟨bb, 0, none⟩)] ∧ i.K ≤ ba ∧ ba ≠ pb ∧ ba < N ∧ i.K ≤ bb ∧ bb ≠ pb ∧ bb < N ∧ M ba = some (.cells [.int .i64 ((a : Nat) : Int)] 0 false true) ∧ M bb = some (.cells [v] 0 false true) ∧ a < 4 + 5 * (T * 2) ∧ By i pb M N v len bs ∧ bs.all Am.one = true ∧ len ≤ 64) ∨
  (∃ ba b, o = .func (.func 95) #[] #[.pointer (some ⟨ba, 0, none⟩)] ∧ i.K ≤ ba ∧ ba ≠ pb ∧ ba < N ∧ M ba = some (.cells [.int .i64 ((b : Nat) : Int)] 0 false true) ∧ b < 5)
theorem Pop.fr {i : Ids} {lo hi : Nat} {T pb pb' : Nat} {M M' : FM} {N N' w : Nat} {o : Value} (h : Pop i T pb M N o) (hf : Fr lo hi pb N M M' w) (hh : hi < i.K) (hN : N ≤ N') (hp : pb' = pb ∨ N ≤ pb') : Pop i T pb' M' N' o := by
  rcases h with ⟨ba, bb, a, v, len, bs, h1, h2, h3, h4, h5, h6, h7, h8, h9, h10, h11, h12, h13⟩ | ⟨ba, b, h1, h2, h3, h4, h5, h6⟩
  · exact .inl ⟨ba, bb, a, v, len, bs, h1, h2, by omega, by omega, h5, by omega, by omega, (hf ba h4 (by omega) h3).1.trans h8, (hf bb h7 (by omega) h6).1.trans h9, h10, h11.fr hf hh hN hp, h12, h13⟩
  · exact .inr ⟨ba, b, h1, h2, by omega, by omega, (hf ba h4 (by omega) h3).1.trans h5, h6⟩
theorem Pop.one {i : Ids} {T pb : Nat} {M : FM} {N : Nat} {o : Value} (h : Pop i T pb M N o) : Am.one o = true ∧ belowV N o = true ∧ ∃ (f : Nat) (cs : List Value), o = .func (.func f) ([] : List Value).toArray cs.toArray := by
  rcases h with ⟨ba, bb, a, v, len, bs, rfl, h2, h3, h4, h5, h6, h7, _⟩ | ⟨ba, b, rfl, h2, h3, h4, h5⟩
  · refine ⟨rfl, ?_, _, _, rfl⟩
    have e := belowV_func N 63 [] [.pointer (some ⟨ba, 0, none⟩), .pointer (some ⟨bb, 0, none⟩)]
    refine e.trans ?_
    simp [below1_ptr, h4, h7, blt_true]
  · refine ⟨rfl, ?_, _, _, rfl⟩
    have e := belowV_func N 95 [] [.pointer (some ⟨ba, 0, none⟩)]
    refine e.trans ?_
    simp [below1_ptr, h4, blt_true]
def Pend (i : Ids) (T pb : Nat) (M : FM) (N c : Nat) (pv : Value) : Prop :=
  ∃ pcs : List Value, pcs.length ≤ c ∧ (∀ o ∈ pcs, Pop i T pb M N o) ∧ ((pcs = [] ∧ pv = .slice none 0 0) ∨ (0 < pcs.length ∧ i.K ≤ pb ∧ pb < N ∧ pv = .slice (some ⟨pb, 0, none⟩) pcs.length UNK ∧ M pb = some (.cells pcs 1 true true)))
theorem Pend.fr {i : Ids} {lo hi : Nat} {T pb : Nat} {M M' : FM} {N N' w c : Nat} {pv : Value} (h : Pend i T pb M N c pv) (hf : Fr lo hi pb N M M' w) (hh : hi < i.K) (hb : i.K ≤ pb → M' pb = M pb) (hN : N ≤ N') : Pend i T pb M' N' c pv := by
  obtain ⟨pcs, h1, h2, h3⟩ := h
  refine ⟨pcs, h1, fun o ho => (h2 o ho).fr hf hh hN (.inl rfl), ?_⟩
  rcases h3 with h3 | ⟨h3, h4, h5, h6, h7⟩
  · exact .inl h3
  · exact .inr ⟨h3, h4, by omega, h6, (hb h4).trans h7⟩
theorem Pend.one {i : Ids} {T pb : Nat} {M : FM} {N c : Nat} {pv : Value} (h : Pend i T pb M N c pv) : Am.one pv = true ∧ belowV N pv = true ∧ belowF N pv = true := by
  obtain ⟨pcs, h1, h2, ⟨_, rfl⟩ | ⟨h3, h4, h5, rfl, h7⟩⟩ := h
  · exact ⟨rfl, rfl, rfl⟩
  · exact ⟨rfl, blt_true h5, blt_true h5⟩
theorem pend_app {i : Ids} {T pb : Nat} {M : FM} {N c : Nat} {pv : Value} (h : Pend i T pb M N c pv) (hc : c ≤ 100000) (h0 : 0 < i.K) (hK : i.K ≤ N) (z : Value) (hz : Am.one z = true) (hp : Pop i T pb M N z) (ya : Option Addr) (yc ry : Nat) :
    Rt (appO 1 8 M N pv (.slice ya 1 yc) (shown M N 1 pv) (some ([z], ry))) fun v' M' N' w => N' = N + 1 ∧ Pend i T N M' N' (c + 1) v' ∧ (∀ b, b < N → b ≠ pb → M' b = M b ∧ Nat.testBit w b = false) ∧ (pb < i.K → M' pb = M pb ∧ Nat.testBit w pb = false) := by
  obtain ⟨pcs, h1, h2, ⟨rfl, rfl⟩ | ⟨h3, h4, h5, rfl, h7⟩⟩ := h
  · rw [shown_nil, appO_mk, appV_mk]
    rw [show ([z], ry).1.all Am.one = true by simp [hz], blt_true (show 0 < 1 by omega), blt_true (show 0 < 8 by omega), ble_true (show (0 + 1) * 8 ≤ 140737488355328 by omega), appG_nil (by omega)]
    have hf : Fr 0 0 pb N M (AMem.put M N (some (.cells ([] ++ [z]) 1 true true))) 0 := fun b hb _ _ => ⟨fput_ne _ _ _ _ (by omega), Nat.zero_testBit _⟩
    refine ⟨rfl, ⟨[z], by simp, fun o ho => ?_, .inr ⟨by simp, hK, by omega, rfl, fput_same _ _ _⟩⟩, fun b hb _ => ⟨fput_ne _ _ _ _ (by omega), bit_ne (by omega)⟩, fun hb => ⟨fput_ne _ _ _ _ (by omega), bit_ne (by omega)⟩⟩
    rw [List.mem_singleton] at ho
    subst ho
    exact hp.fr hf h0 (by omega) (.inr (Nat.le_refl _))
  · rw [shown_pos h3, getb_lt h5, h7, shownB_mk, Nat.beq_refl, cellsAt_mk, ldrop_z, cells_all (show pcs.length * 1 = pcs.length by omega)]
    show Rt (appO 1 8 M N _ _ (some (pcs, bit pb)) _) _
    rw [appO_mk, appV_mk]
    rw [show ([z], ry).1.all Am.one = true by simp [hz], blt_true (show 0 < 1 by omega), blt_true (show 0 < 8 by omega), ble_true (show (pcs.length + 1) * 8 ≤ 140737488355328 by omega), appG_unk, getb_lt h5, h7, appU_mk]
    have k1 : ∀ b, b < N → b ≠ pb → (AMem.put (AMem.put M pb none) N (some (.cells (pcs ++ [z]) 1 true true)) : FM) b = M b := fun b hb hb' => by rw [fput_ne _ _ _ _ (by omega), fput_ne _ _ _ _ hb']
    have hf : Fr 0 0 pb N M (AMem.put (AMem.put M pb none) N (some (.cells (pcs ++ [z]) 1 true true))) (Nat.lor (bit pb) (bit N)) := fun b hb _ hb' => ⟨k1 b hb hb', by rw [lor_test, bit_ne hb', bit_ne (by omega)]; rfl⟩
    refine ⟨rfl, ⟨pcs ++ [z], by rw [List.length_append, List.length_singleton]; omega, fun o ho => ?_, .inr ⟨by rw [List.length_append, List.length_singleton]; omega, hK, by omega, by rw [List.length_append, List.length_singleton], fput_same _ _ _⟩⟩, fun b hb hb' => ⟨k1 b hb hb', by rw [lor_test, bit_ne hb', bit_ne (by omega)]; rfl⟩, fun hb => by omega⟩
    rcases List.mem_append.1 ho with ho | ho
    · exact (h2 o ho).fr hf h0 (by omega) (.inr (Nat.le_refl _))
    · rw [List.mem_singleton] at ho
      subst ho
      exact hp.fr hf h0 (by omega) (.inr (Nat.le_refl _))
end Go.Am.CS
namespace Go.Am.CS
set_option maxRecDepth 100000
open Go Go.Am
variable {E : Nat → Option AFn} {Y : Nat → List Value → FM → Nat → OR FM}
def ptr (b : Nat) : Value := .pointer (some ⟨b, 0, none⟩)
structure Cch (i : Ids) (T O pb : Nat) (M : FM) (N : Nat) (xs : List (Int × Value)) (c : Nat) : Prop where
  ok : i.Ok
  KN : i.K ≤ N
  pbk : i.K ≤ pb ∨ pb = i.sd
  pbN : pb < N
  st : ∃ pv, M i.C = some (.cells [.pointer (some ⟨i.md, 0, none⟩), .pointer (some ⟨i.mc, 0, none⟩), pv] 0 false true) ∧ Pend i T pb M N c pv
  con : Med M N i.mc i.sc T O xs
  dur : ∃ ys, Med M N i.md i.sd T O ys
theorem Med.keep {T O mb cb : Nat} {M M' : FM} {N N' : Nat} {xs : List (Int × Value)} (h : Med M N mb cb T O xs) (hN : N ≤ N') (hf : ∀ b, b < N → M' b = M b) : Med M' N' mb cb T O xs := h.frame hN (hf _ h.mbN) (hf _ h.cbN)
theorem Cch.keep {i : Ids} {T O pb : Nat} {M M' : FM} {N N' : Nat} {xs : List (Int × Value)} {c : Nat} (h : Cch i T O pb M N xs c) (hN : N ≤ N') (hf : ∀ b, b < N → M' b = M b) : Cch i T O pb M' N' xs c := by
  obtain ⟨h0, h1, h2, h3, h4, h5, h6, h7, h8, h9⟩ := h.ok
  have hK := h.KN
  have hp := h.pbN
  obtain ⟨pv, hst, hpe⟩ := h.st
  obtain ⟨ys, hy⟩ := h.dur
  exact ⟨h.ok, by omega, h.pbk, by omega, ⟨pv, (hf _ (by omega)).trans hst, hpe.fr (w := 0) (lo := i.sd) (hi := i.C) (fun b hb _ _ => ⟨hf b hb, Nat.zero_testBit _⟩) (by omega) (fun _ => hf _ hp) hN⟩, h.con.keep hN hf, ys, hy.keep hN hf⟩
theorem Med.fr {i : Ids} {T O pb mb cb : Nat} {M M' : FM} {N N' w : Nat} {xs : List (Int × Value)} (h : Med M N mb cb T O xs) (hN : N ≤ N') (hf : ∀ b, b = mb ∨ b = cb → M' b = M b) : Med M' N' mb cb T O xs := h.frame hN (hf _ (.inl rfl)) (hf _ (.inr rfl))
theorem eqlnil61 (a : Addr) : binV PG .eql 61 (.pointer (some a)) (.pointer none) = some (.bool false) := by
  rw [eqlnil_ptr (by kernel_rfl)]; rfl
theorem neqnil61 (a : Addr) : binV PG .neq 61 (.pointer (some a)) (.pointer none) = some (.bool true) := by
  show cond (isPtrT PG 61) (nilBin .neq false) none = _
  rw [show isPtrT PG 61 = true by kernel_rfl]; rfl
theorem cells_func (f : Fn) (a c : Array Value) : (Value.func f a c).cells.toList = [Value.func f a c] := rfl
theorem callv0 (rec : Nat → List Value → FM → Nat → OR FM) (args : List Value) (m : FM) (n f : Nat) (c : List Value) : callV rec args m n (.func (.func f) #[] c.toArray) = rec f (args ++ c) m n := rfl
theorem one_func (f : Fn) (a c : Array Value) : Am.one (.func f a c) = true := rfl
theorem cache_do (hE : E 62 = some ac62) {i : Ids} {T O pb : Nat} {m : FM} {n : Nat} {xs : List (Int × Value)} {c : Nat} (h : Cch i T O pb m n xs c) (hc : c ≤ 100000) {f : Nat} {cs : List Value} {X : List (Int × Value) → FM → Nat → Prop} (hp : Pop i T pb m n (.func (.func f) #[] cs.toArray))
    (hX : ∀ xs' M N, X xs' M N → Med M N i.mc i.sc T O xs') (hcall : Rt (callW PG E Y f (.pointer (some ⟨i.mc, 0, none⟩) :: cs) m n) fun r m1 n1 w => Nat.testBit w i.sc = true ∧ (n ≤ n1 ∧ (∀ b, b < n → b ≠ i.sc → m1 b = m b ∧ Nat.testBit w b = false) ∧ r = .int .i64 0 ∧ ∃ xs', X xs' m1 n1)) :
    Rt (callW PG E Y 62 [.pointer (some ⟨i.C, 0, none⟩), .func (.func f) #[] cs.toArray] m n) fun r m' n' w => Nat.testBit w i.sc = true ∧ (∃ xs' m1 n1 pb', n ≤ n1 ∧ n1 ≤ n' ∧ X xs' m1 n1 ∧ (∀ b, n ≤ b → b < n1 → m' b = m1 b) ∧ Fr i.sd i.C pb n m m' w ∧ n1 ≤ pb' ∧ r = .int .i64 0 ∧ Cch i T O pb' m' n' xs' (c + 1)) := by
  have ho := h.ok
  obtain ⟨h0, h1, h2, h3, h4, h5, h6, h7, h8, h9⟩ := ho
  have hKN := h.KN
  obtain ⟨pv, hst, hpend⟩ := h.st
  refine wrt_spec (R := fun r m' n' w => (∃ xs' m1 n1 pb', n ≤ n1 ∧ n1 ≤ n' ∧ X xs' m1 n1 ∧ (∀ b, n ≤ b → b < n1 → m' b = m1 b) ∧ Fr i.sd i.C pb n m m' w ∧ n1 ≤ pb' ∧ r = .int .i64 0 ∧ Cch i T O pb' m' n' xs' (c + 1))) hE rfl (show i.sc < n by omega) fun Q hQ => ?_
  simp only [ac62]
  simp (implicitDefEqProofs := false) (disch := omega) only [W2, opds, Nat.testBit, Nat.reduceAdd, Nat.reduceShiftRight, Nat.reduceAnd, Nat.reduceBNe, Nat.reduceMul, eqlnil61, hst]
  simp (implicitDefEqProofs := false) (disch := omega) only [W2, opds, Nat.testBit, Nat.reduceAdd, Nat.reduceShiftRight, Nat.reduceAnd, Nat.reduceBNe, Nat.reduceMul, s_callv, callv0, List.cons_append, List.nil_append]
  refine use_rt hcall fun r1 m1 n1 r2 w1 hh => ?_
  obtain ⟨hw1, hn1, hf1, rfl, xs', hx⟩ := hh
  have hst1 := (hf1 i.C (by omega) (by omega)).1.trans hst
  have hpend1 : Pend i T pb m1 n1 c pv := hpend.fr (w := w1) (lo := i.sd) (hi := i.C) (fun b hb hb' _ => hf1 b hb (by omega)) (by omega) (fun hk => (hf1 pb h.pbN (by omega)).1) hn1
  obtain ⟨hpo, hpb, hpf⟩ := hpend1.one
  simp (implicitDefEqProofs := false) (disch := omega) only [W2, opds, Nat.testBit, Nat.reduceAdd, Nat.reduceShiftRight, Nat.reduceAnd, Nat.reduceBNe, Nat.reduceMul, hst1, hpo, cells_func, one_func]
  generalize hM1 : (AMem.put m1 n1 (some (Blk.cells [Value.func (Fn.func f) #[] cs.toArray] 1 false true)) : FM) = M1
  have l1 : ∀ b, b < n1 → M1 b = m1 b := fun b hb => by rw [← hM1, fput_ne _ _ _ _ (by omega)]
  have hpend2 : Pend i T pb M1 (n1 + 1) c pv := hpend1.fr (w := 0) (lo := i.sd) (hi := i.C) (fun b hb hb' _ => ⟨l1 b hb, Nat.zero_testBit _⟩) (by omega) (fun hk => l1 pb (by have := h.pbN; omega)) (by omega)
  have hpop2 : Pop i T pb M1 (n1 + 1) (.func (.func f) #[] cs.toArray) := hp.fr (w := w1) (lo := i.sd) (hi := i.C) (fun b hb hb' _ => ⟨(l1 b (by omega)).trans (hf1 b hb (by omega)).1, (hf1 b hb (by omega)).2⟩) (by omega) (by omega) (.inl rfl)
  have hpbN := h.pbN
  refine use_rt (pend_app hpend2 hc (by omega) (by omega) _ rfl hpop2 _ _ _) fun v2 M2 N2 r3 w3 hh => ?_
  obtain ⟨rfl, hp2, hf2, hf2'⟩ := hh
  have l2 : ∀ b, b < i.K → b < n1 + 1 → M2 b = M1 b ∧ Nat.testBit w3 b = false := fun b hb hn => by
    by_cases e : b = pb
    · subst e; exact hf2' hb
    · exact hf2 b hn e
  have hst2 := (l2 i.C (by omega) (by omega)).1.trans ((l1 i.C (by omega)).trans hst1)
  obtain ⟨hvo, hvb, hvf⟩ := hp2.one
  simp (implicitDefEqProofs := false) (disch := omega) only [W2, opds, Nat.testBit, Nat.reduceAdd, Nat.reduceShiftRight, Nat.reduceAnd, Nat.reduceBNe, Nat.reduceMul, hst2, hvo, cells_of_one hvo]
  generalize hM3 : (AMem.put M2 i.C (some (Blk.cells [.pointer (some ⟨i.md, 0, none⟩), .pointer (some ⟨i.mc, 0, none⟩), v2] 0 false true)) : FM) = M3
  have l3 : ∀ b, b ≠ i.C → M3 b = M2 b := fun b hb => by rw [← hM3, fput_ne _ _ _ _ hb]
  have l4 : ∀ b, b < i.K → b ≠ i.C → b < n1 → M3 b = m1 b := fun b hb hne hn => by rw [l3 b hne, (l2 b hb (by omega)).1, l1 b hn]
  have hX1 := hX _ _ _ hx
  refine hQ _ _ _ _ _ ?_ ⟨xs', m1, n1, n1 + 1, hn1, by omega, hx, fun b h1 h2 => ?_, fun b hb hk hne => ⟨?_, ?_⟩, by omega, rfl, ?_⟩
  · simp only [lor_test, hw1]; simp
  · rw [l3 b (by omega), (hf2 b (by omega) (by omega)).1, l1 b h2]
  · rw [l3 b (by omega), (hf2 b (by omega) hne).1, l1 b (by omega), (hf1 b hb (by omega)).1]
  · simp only [lor_test, (hf1 b hb (by omega)).2, bit_ne (show b ≠ n1 by omega), (hf2 b (by omega) hne).2, bit_ne (show b ≠ i.C by omega)]; rfl
  · refine ⟨h.ok, by omega, by have := h.pbk; omega, by omega, ⟨v2, by rw [← hM3]; exact fput_same _ _ _, hp2.fr (w := 0) (lo := i.sd) (hi := i.C) (fun b hb hk _ => ⟨l3 b (by omega), Nat.zero_testBit _⟩) (by omega) (fun _ => l3 _ (by omega)) (Nat.le_refl _)⟩, hX1.fr (i := i) (w := 0) (pb := 0) (by omega) fun b hb => l4 b (by omega) (by omega) (by have := hX1.mbN; have := hX1.cbN; omega), ?_⟩
    obtain ⟨ys, hy⟩ := h.dur
    exact ⟨ys, hy.fr (i := i) (w := 0) (pb := 0) (by omega) fun b hb => by rw [l4 b (by omega) (by omega) (by omega), (hf1 b (by omega) (by omega)).1]⟩
theorem slz_by {i : Ids} {pb : Nat} {M M' : FM} {n0 N N' : Nat} {v : Value} {len : Nat} {cs : List Value} (h : SlZ 1 M n0 N v len cs) (hf : ∀ b, n0 ≤ b → b < N → M' b = M b) (hN : N ≤ N') (hl : 0 < len) (hk : i.K ≤ n0) (hp : pb < n0 ∨ N ≤ pb) (h8 : cs.all isU8 = true) : By i pb M' N' v len cs := by
  rcases h with ⟨h1, _⟩ | ⟨h0, hcl, b, rfl, h1, h2, h3⟩
  · omega
  · exact ⟨b, 0, UNK, cs, true, true, rfl, by omega, by omega, by omega, (hf b h1 h2).trans h3, by rw [cellsAt_mk, ldrop_z]; exact cells_all hcl.symm, hl, h8⟩
theorem run63 (hE : E 63 = some ac63) (h64 : E 64 = some ac64) (h97 : E 97 = some ac97) (h61 : E 61 = some ac61) (h98 : E 98 = some ac98) (h136 : E 136 = some ac136) (h50 : E 50 = some ac50) (h54 : E 54 = some ac54) {T O : Nat} (G : Geo E Y T O) {m : FM} {n mb cb : Nat} {xs : List (Int × Value)} (h : Med m n mb cb T O xs) {ba bb a : Nat} {v : Value} {len : Nat} {bs : List Value} (hba : ba < n) (hbb : bb < n) (hma : m ba = some (.cells [.int .i64 (a : Int)] 0 false true)) (hmb : m bb = some (.cells [v] 0 false true)) (ha : a < 4 + 5 * (T * 2)) (hv : Sh 1 m n v len bs) (hone : bs.all Am.one = true) (hl : len ≤ 64) :
    Rt (callW PG E Y 63 [.pointer (some ⟨mb, 0, none⟩), .pointer (some ⟨ba, 0, none⟩), .pointer (some ⟨bb, 0, none⟩)] m n) fun r m' n' w => Nat.testBit w cb = true ∧ (n ≤ n' ∧ (∀ b, b < n → b ≠ cb → m' b = m b ∧ Nat.testBit w b = false) ∧ r = .int .i64 0 ∧ ∃ v', SlZ 1 m' n n' v' len bs ∧ Med m' n' mb cb T O (writeX T O a v' xs)) := by
  have hcbN := h.cbN
  refine wrt_spec (R := fun r m' n' w => n ≤ n' ∧ (∀ b, b < n → b ≠ cb → m' b = m b ∧ Nat.testBit w b = false) ∧ r = .int .i64 0 ∧ ∃ v', SlZ 1 m' n n' v' len bs ∧ Med m' n' mb cb T O (writeX T O a v' xs)) hE rfl hcbN fun Q hQ => ?_
  have hvo := hv.one
  simp only [ac63]
  simp (implicitDefEqProofs := false) (disch := omega) only [W2, opds, Nat.testBit, Nat.reduceAdd, Nat.reduceShiftRight, Nat.reduceAnd, Nat.reduceBNe, Nat.reduceMul, hma, hmb, hvo]
  refine use_rt (media_write h64 h97 h61 h98 h136 h50 h54 G h a ha hv hone hl) fun r1 m1 n1 r2 w1 hh => ?_
  obtain ⟨ht, hr⟩ := hh
  have hr1 := hr.2.2.1
  subst hr1
  simp (implicitDefEqProofs := false) (disch := omega) only [W2, opds, Nat.testBit, Nat.reduceAdd, Nat.reduceShiftRight, Nat.reduceAnd, Nat.reduceBNe, Nat.reduceMul]
  exact hQ _ _ _ _ _ ht hr
theorem run95 (hE : E 95 = some ac95) (h96 : E 96 = some ac96) (h135 : E 135 = some ac135) (h54 : E 54 = some ac54) {T O : Nat} (G : Geo E Y T O) {m : FM} {n mb cb : Nat} {xs : List (Int × Value)} (h : Med m n mb cb T O xs) {ba b : Nat} (hba : ba < n) (hma : m ba = some (.cells [.int .i64 (b : Int)] 0 false true)) (hb : b < 5) :
    Rt (callW PG E Y 95 [.pointer (some ⟨mb, 0, none⟩), .pointer (some ⟨ba, 0, none⟩)] m n) fun r m' n' w => Nat.testBit w cb = true ∧ (n ≤ n' ∧ (∀ b, b < n → b ≠ cb → m' b = m b ∧ Nat.testBit w b = false) ∧ r = .int .i64 0 ∧ Med m' n' mb cb T O (blankX xs (4 + b * T * 2) (T * 2))) := by
  have hcbN := h.cbN
  refine wrt_spec (R := fun r m' n' w => n ≤ n' ∧ (∀ b, b < n → b ≠ cb → m' b = m b ∧ Nat.testBit w b = false) ∧ r = .int .i64 0 ∧ Med m' n' mb cb T O (blankX xs (4 + b * T * 2) (T * 2))) hE rfl hcbN fun Q hQ => ?_
  simp only [ac95]
  simp (implicitDefEqProofs := false) (disch := omega) only [W2, opds, Nat.testBit, Nat.reduceAdd, Nat.reduceShiftRight, Nat.reduceAnd, Nat.reduceBNe, Nat.reduceMul, hma]
  refine use_rt (media_erase h96 h135 h54 G h b hb) fun r1 m1 n1 r2 w1 hh => ?_
  obtain ⟨ht, hr⟩ := hh
  have hr1 := hr.2.2.1
  subst hr1
  simp (implicitDefEqProofs := false) (disch := omega) only [W2, opds, Nat.testBit, Nat.reduceAdd, Nat.reduceShiftRight, Nat.reduceAnd, Nat.reduceBNe, Nat.reduceMul]
  exact hQ _ _ _ _ _ ht hr
structure Fn1 (E : Nat → Option AFn) (Y : Nat → List Value → FM → Nat → OR FM) (T O : Nat) : Prop where
  G : Geo E Y T O
  e50 : E 50 = some ac50
  e54 : E 54 = some ac54
  e61 : E 61 = some ac61
  e62 : E 62 = some ac62
  e63 : E 63 = some ac63
  e64 : E 64 = some ac64
  e72 : E 72 = some ac72
  e95 : E 95 = some ac95
  e96 : E 96 = some ac96
  e97 : E 97 = some ac97
  e98 : E 98 = some ac98
  e135 : E 135 = some ac135
  e136 : E 136 = some ac136
theorem cache_write {T O : Nat} (F : Fn1 E Y T O) (hE : E 29 = some ac29) {i : Ids} {pb : Nat} {m : FM} {n : Nat} {xs : List (Int × Value)} {c : Nat} (h : Cch i T O pb m n xs c) (hc : c ≤ 100000) {a : Nat} (ha : a < 4 + 5 * (T * 2)) {v : Value} {len : Nat} {bs : List Value} (hv : Sh 1 m n v len bs) (hone : bs.all Am.one = true) (hu8 : bs.all isU8 = true) (hl : len ≤ 64) :
    Rt (callW PG E Y 29 [.pointer (some ⟨i.C, 0, none⟩), .int .i64 (a : Int), v] m n) fun r m' n' w => Nat.testBit w i.sc = true ∧ (∃ pb' v', n ≤ n' ∧ Fr i.sd i.C pb n m m' w ∧ n ≤ pb' ∧ r = .int .i64 0 ∧ Cch i T O pb' m' n' (writeX T O a v' xs) (c + 1) ∧ By i pb' m' n' v' len bs) := by
  obtain ⟨h0, h1, h2, h3, h4, h5, h6, h7, h8, h9⟩ := h.ok
  have hKN := h.KN
  have hpbN := h.pbN
  have hvo := hv.one
  refine wrt_spec (R := fun r m' n' w => (∃ pb' v', n ≤ n' ∧ Fr i.sd i.C pb n m m' w ∧ n ≤ pb' ∧ r = .int .i64 0 ∧ Cch i T O pb' m' n' (writeX T O a v' xs) (c + 1) ∧ By i pb' m' n' v' len bs)) hE rfl (show i.sc < n by omega) fun Q hQ => ?_
  simp only [ac29]
  simp (implicitDefEqProofs := false) (disch := omega) only [W2, opds, Nat.testBit, Nat.reduceAdd, Nat.reduceShiftRight, Nat.reduceAnd, Nat.reduceBNe, Nat.reduceMul, hvo, cells_of_one hvo]
  generalize hM1 : (AMem.put (AMem.put m n (some (Blk.cells [Value.int IntKind.i64 ↑a] 0 false true))) (n + 1) (some (Blk.cells [v] 0 false true)) : FM) = M1
  have l1 : ∀ b, b < n → M1 b = m b := fun b hb => by rw [← hM1, fput_ne _ _ _ _ (by omega), fput_ne _ _ _ _ (by omega)]
  have lb : M1 (n + 1) = some (Blk.cells [v] 0 false true) := by rw [← hM1]; exact fput_same _ _ _
  have la : M1 n = some (Blk.cells [Value.int IntKind.i64 ↑a] 0 false true) := by rw [← hM1, fput_ne _ _ _ _ (by omega)]; exact fput_same _ _ _
  refine use_rt (clone61 F.e61 M1 (n + 2) (hv.frame (by omega) l1) hone (by omega)) fun v1 m2 n2 r2 w2 hh => ?_
  obtain ⟨hn2, hf2, hw2, hS2⟩ := hh
  have lb2 := (hf2 (n + 1) (by omega)).trans lb
  have ho1 := hS2.one
  simp (implicitDefEqProofs := false) (disch := omega) only [W2, opds, Nat.testBit, Nat.reduceAdd, Nat.reduceShiftRight, Nat.reduceAnd, Nat.reduceBNe, Nat.reduceMul, lb2, cells_of_one ho1, ho1, s_func]
  generalize hM3 : (AMem.put m2 (n + 1) (some (Blk.cells [v1] 0 false true)) : FM) = M3
  have l3 : ∀ b, b ≠ n + 1 → M3 b = m2 b := fun b hb => by rw [← hM3, fput_ne _ _ _ _ hb]
  have l4 : ∀ b, b < n → M3 b = m b := fun b hb => by rw [l3 b (by omega), hf2 b (by omega), l1 b hb]
  have lb3 : M3 (n + 1) = some (Blk.cells [v1] 0 false true) := by rw [← hM3]; exact fput_same _ _ _
  have la3 : M3 n = some (Blk.cells [Value.int IntKind.i64 ↑a] 0 false true) := by rw [l3 n (by omega), hf2 n (by omega), la]
  have hlen0 : 0 < len := by obtain ⟨_, _, _, _, _, h⟩ := hv.sl; exact h
  have hBy : By i pb M3 n2 v1 len bs := slz_by hS2 (fun b k1 k2 => l3 b (by omega)) (Nat.le_refl _) hlen0 (by omega) (by omega) hu8
  have hC3 := h.keep (show n ≤ n2 by omega) l4
  refine use_rt (cache_do F.e62 (f := 63) (cs := [.pointer (some ⟨n, 0, none⟩), .pointer (some ⟨n + 1, 0, none⟩)]) (X := fun xs' M N => ∃ v', xs' = writeX T O a v' xs ∧ SlZ 1 M n2 N v' len bs ∧ Med M N i.mc i.sc T O (writeX T O a v' xs)) hC3 hc (.inl ⟨n, n + 1, a, v1, len, bs, rfl, by omega, by omega, by omega, by omega, by omega, by omega, la3, lb3, ha, hBy, hone, hl⟩) (fun xs' M N hx => by obtain ⟨v', rfl, _, hx⟩ := hx; exact hx) ?_) fun r4 m4 n4 r5 w4 hh => ?_
  · refine (run63 F.e63 F.e64 F.e97 F.e61 F.e98 F.e136 F.e50 F.e54 F.G hC3.con (by omega) (by omega) la3 lb3 ha hBy.sh hone hl).mono ?_
    intro r' M N w hh
    obtain ⟨k1, k2, k3, k4, v', k5, k6⟩ := hh
    exact ⟨k1, k2, k3, k4, _, v', rfl, k5, k6⟩
  · obtain ⟨hw4, xs', m5, n5, pb', k1, k2, ⟨v', rfl, k3, k4⟩, k5, k6, k7, rfl, k8⟩ := hh
    simp (implicitDefEqProofs := false) (disch := omega) only [W2, opds, Nat.testBit, Nat.reduceAdd, Nat.reduceShiftRight, Nat.reduceAnd, Nat.reduceBNe, Nat.reduceMul]
    refine hQ _ _ _ _ _ ?_ ⟨pb', v', by omega, fun b hb hk hne => ⟨?_, ?_⟩, by omega, rfl, k8, slz_by k3 k5 k2 hlen0 (by omega) (by omega) hu8⟩
    · simp only [lor_test, hw4]; simp
    · rw [(k6 b (by omega) hk hne).1, l4 b hb]
    · simp only [lor_test, (k6 b (by omega) hk hne).2, bit_ne (show b ≠ n by omega), bit_ne (show b ≠ n + 1 by omega), mod_bit (hw2 (n + 2) (Nat.le_refl _)) b (by omega)]; rfl
end Go.Am.CS
namespace Go.Am.CS
set_option maxRecDepth 100000
open Go Go.Am
variable {E : Nat → Option AFn} {Y : Nat → List Value → FM → Nat → OR FM}
theorem s_slc (P : Program) (rec : Nat → List Value → FM → Nat → OR FM) (e : List Value) (m : FM) (n sz : Nat) (x : Opd) (lo hi : Option Opd) : stepA P rec e m n (.slc sz x lo hi) = slcM m n sz (slcV sz (oev e lo) (oev e hi) (ev e x)) (ev e x) := rfl
theorem oev_some (e : List Value) (x : Opd) : oev e (some x) = some (ev e x) := rfl
theorem oev_none (e : List Value) : oev e none = none := rfl
theorem mx_nat (k : Nat) : mxV (.int .i64 (k : Int)) (.int .i64 0) = some (.int .i64 (k : Int)) := by
  show some (Value.int .i64 (cond (ltB (k : Int) 0) 0 (k : Int))) = _
  rw [ltB_eq, decide_eq_false (by omega)]; rfl
theorem mn_same (k : Nat) : mnV (.int .i64 (k : Int)) (.int .i64 (k : Int)) = some (.int .i64 (k : Int)) := by
  show some (Value.int .i64 (cond _ _ _)) = _
  cases ltB (k : Int) (k : Int) <;> rfl
theorem slcM_unk {M : FM} {N sz b o len : Nat} (v : Option Value) : slcM M N sz v (Value.slice (some ⟨b, o, none⟩) len UNK) = cond (szOk sz (getb M N b)) (valR M N b v) .no := by
  have : Nat.beq UNK UNK = true := Nat.beq_refl _
  simp only [slcM, this, cond_true]
theorem slcA_unk {sz h len b o : Nat} (h0 : 0 < len) : slcA sz 0 h len UNK (some ⟨b, o, none⟩) = some (Value.slice (some ⟨b, o, none⟩) h UNK) := by
  have h1 : Nat.beq UNK UNK = true := Nat.beq_refl _
  have h2 : Nat.beq UNK VAG = false := nbeq_f (by decide)
  have h3 : (Nat.blt 0 len || Nat.beq 0 0) = true := by simp
  simp only [slcA, h1, h2, h3, cond_true, cond_false]
  rw [show Nat.add o (Nat.mul 0 sz) = o from by show o + 0 * sz = o; omega, show Nat.sub h 0 = h from rfl]
theorem slc_whole {M : FM} {N b h sz : Nat} {cs : List Value} {opn wr : Bool} (hp : 0 < h) (hb : b < N) (hm : M b = some (.cells cs sz opn wr)) :
    slcM M N sz (slcV sz none (some (Value.int .i64 (h : Int))) (Value.slice (some ⟨b, 0, none⟩) h UNK)) (Value.slice (some ⟨b, 0, none⟩) h UNK) = .ok (Value.slice (some ⟨b, 0, none⟩) h UNK) M N (bit b) 0 := by
  have h0 : slcV sz none (some (Value.int .i64 (h : Int))) (Value.slice (some ⟨b, 0, none⟩) h UNK) = some (Value.slice (some ⟨b, 0, none⟩) h UNK) := by
    have hc : (Nat.ble 0 h && Nat.ble h h) = true := by rw [ble_true (Nat.zero_le _), ble_true (Nat.le_refl h)]; rfl
    show cond (Nat.ble 0 h && Nat.ble h h) (slcA sz 0 h h UNK _) none = _
    rw [hc, cond_true]
    exact slcA_unk hp
  rw [h0, slcM_unk, getb_lt hb, hm]
  show cond (Nat.beq sz sz) _ _ = _
  rw [Nat.beq_refl]; rfl
theorem cache_erase {T O : Nat} (F : Fn1 E Y T O) (hE : E 56 = some ac56) {i : Ids} {pb : Nat} {m : FM} {n : Nat} {xs : List (Int × Value)} {c : Nat} (h : Cch i T O pb m n xs c) (hc : c ≤ 100000) {b : Nat} (hb : b < 5) :
    Rt (callW PG E Y 56 [.pointer (some ⟨i.C, 0, none⟩), .int .i64 (b : Int)] m n) fun r m' n' w => Nat.testBit w i.sc = true ∧ (∃ pb', n ≤ n' ∧ Fr i.sd i.C pb n m m' w ∧ n ≤ pb' ∧ r = .int .i64 0 ∧ Cch i T O pb' m' n' (blankX xs (4 + b * T * 2) (T * 2)) (c + 1)) := by
  obtain ⟨h0, h1, h2, h3, h4, h5, h6, h7, h8, h9⟩ := h.ok
  have hKN := h.KN
  have hpbN := h.pbN
  refine wrt_spec (R := fun r m' n' w => (∃ pb', n ≤ n' ∧ Fr i.sd i.C pb n m m' w ∧ n ≤ pb' ∧ r = .int .i64 0 ∧ Cch i T O pb' m' n' (blankX xs (4 + b * T * 2) (T * 2)) (c + 1))) hE rfl (show i.sc < n by omega) fun Q hQ => ?_
  simp only [ac56]
  simp (implicitDefEqProofs := false) (disch := omega) only [W2, opds, Nat.testBit, Nat.reduceAdd, Nat.reduceShiftRight, Nat.reduceAnd, Nat.reduceBNe, Nat.reduceMul, s_func]
  generalize hM1 : (AMem.put m n (some (Blk.cells [Value.int IntKind.i64 ↑b] 0 false true)) : FM) = M1
  have l1 : ∀ b, b < n → M1 b = m b := fun b hb => by rw [← hM1, fput_ne _ _ _ _ (by omega)]
  have la : M1 n = some (Blk.cells [Value.int IntKind.i64 ↑b] 0 false true) := by rw [← hM1]; exact fput_same _ _ _
  have hC3 := h.keep (show n ≤ n + 1 by omega) l1
  refine use_rt (cache_do F.e62 (f := 95) (cs := [.pointer (some ⟨n, 0, none⟩)]) (X := fun xs' M N => xs' = blankX xs (4 + b * T * 2) (T * 2) ∧ Med M N i.mc i.sc T O (blankX xs (4 + b * T * 2) (T * 2))) hC3 hc (.inr ⟨n, b, rfl, by omega, by omega, by omega, la, hb⟩) (fun xs' M N hx => by obtain ⟨rfl, hx⟩ := hx; exact hx) ?_) fun r4 m4 n4 r5 w4 hh => ?_
  · refine (run95 F.e95 F.e96 F.e135 F.e54 F.G hC3.con (by omega) la hb).mono ?_
    intro r' M N w hh
    obtain ⟨k1, k2, k3, k4, k5⟩ := hh
    exact ⟨k1, k2, k3, k4, _, rfl, k5⟩
  · obtain ⟨hw4, xs', m5, n5, pb', k1, k2, ⟨rfl, k3⟩, k5, k6, k7, rfl, k8⟩ := hh
    simp (implicitDefEqProofs := false) (disch := omega) only [W2, opds, Nat.testBit, Nat.reduceAdd, Nat.reduceShiftRight, Nat.reduceAnd, Nat.reduceBNe, Nat.reduceMul]
    refine hQ _ _ _ _ _ ?_ ⟨pb', by omega, fun b hb hk hne => ⟨?_, ?_⟩, by omega, rfl, k8⟩
    · simp only [lor_test, hw4]; simp
    · rw [(k6 b (by omega) hk hne).1, l1 b hb]
    · simp only [lor_test, (k6 b (by omega) hk hne).2, bit_ne (show b ≠ n by omega)]; rfl
theorem cache_read {T O : Nat} (F : Fn1 E Y T O) (hE : E 37 = some ac37) {i : Ids} {pb : Nat} {m : FM} {n : Nat} {xs : List (Int × Value)} {c : Nat} (h : Cch i T O pb m n xs c) {a : Nat} (ha : a < xs.length) {v : Value} {len : Nat} {bs : List Value} (hx : xs[a] = (1, v)) (hv : Sh 1 m n v len bs) (hone : bs.all Am.one = true) (hl : len ≤ 64) :
    Rt (callW PG E Y 37 [.pointer (some ⟨i.C, 0, none⟩), .int .i64 (a : Int)] m n) fun r m' n' w => n ≤ n' ∧ (∀ b, b < n → m' b = m b) ∧ (∀ j, j ≤ n → Nat.mod w (bit j) = 0) ∧ ∃ v', r = .tuple #[v', .int .i64 0] ∧ SlZ 1 m' n n' v' len bs := by
  obtain ⟨h0, h1, h2, h3, h4, h5, h6, h7, h8, h9⟩ := h.ok
  have hKN := h.KN
  obtain ⟨pv, hst, hpend⟩ := h.st
  refine kept_specQ (R := fun r m' n' => ∃ v', r = .tuple #[v', .int .i64 0] ∧ SlZ 1 m' n n' v' len bs) hE rfl fun Q hQ => ?_
  simp only [ac37]
  simp (implicitDefEqProofs := false) (disch := omega) only [W2, opds, Nat.testBit, Nat.reduceAdd, Nat.reduceShiftRight, Nat.reduceAnd, Nat.reduceBNe, Nat.reduceMul, eqlnil61, hst]
  refine use_rt (media_read F.e72 F.e97 F.e61 F.G.ok h.con a ha hx hv hone hl) fun r1 m1 n1 r2 w1 hh => ?_
  obtain ⟨hn1, hf1, hw1, v1, rfl, hS1⟩ := hh
  simp (implicitDefEqProofs := false) (disch := omega) only [W2, opds, Nat.testBit, Nat.reduceAdd, Nat.reduceShiftRight, Nat.reduceAnd, Nat.reduceBNe, Nat.reduceMul, extr_mk]
  refine hQ _ _ _ _ _ hn1 hf1 ?_ ?_ ⟨v1, rfl, hS1⟩
  · simp (implicitDefEqProofs := false) (disch := omega) only [W2, opds, Nat.testBit, Nat.reduceAdd, Nat.reduceShiftRight, Nat.reduceAnd, Nat.reduceBNe, Nat.reduceMul, hw1 n (Nat.le_refl _)]
  · obtain ⟨b, _, _, hl1, hl2⟩ := hv.sl
    rcases hS1 with ⟨q, _⟩ | ⟨_, _, b, rfl, _⟩
    · omega
    · rfl
theorem wrt_specN {P : Program} {m : FM} {n k0 : Nat} {f : Nat} {fn : AFn} {args : List Value} {R : FM → Nat → Nat → Prop} (hE : E f = some fn) (ha : llen args = fn.na) (he : fn.endrs = []) (hk0 : k0 < n) (h : ∀ Q : AX → List Value → FM → Nat → Nat → Prop, (∀ e m' n' w, Nat.testBit w k0 = true → R m' n' w → Q .norm e m' n' w) → Wr P E Y [] 0 (execW P E Y fn.code args m n) Q) : Rt (callW P E Y f args m n) fun v m' n' w => Nat.testBit w k0 = true ∧ R m' n' w := by
  rw [callW_fn hE ha]
  obtain ⟨X, e', m', n', r, w, hx, rfl, h1, h2⟩ := Gv_some (wr_start (h (fun X _ m' n' w => X = .norm ∧ Nat.testBit w k0 = true ∧ R m' n' w) fun _ m' n' w k1 k2 => ⟨rfl, k1, k2⟩))
  rw [hx]
  have e1 : leaveC fn m n (.ok .norm e' m' n' r w) = leaveA m n (.tuple #[]) m' n' (Nat.lor r 0) w := by
    show leaveO m n m' n' r w (resA e' m' n' fn.endrs) = _
    rw [he]; rfl
  have hn : ¬ Nat.mod w (bit n) = 0 := fun hw => by rw [mod_bit hw k0 hk0] at h1; cases h1
  have e2 : leaveA m n (.tuple #[]) m' n' (Nat.lor r 0) w = .ok (.tuple #[]) m' n' (Nat.lor r 0) w := by
    unfold leaveA
    have hc : (addrFree (.tuple #[]) && Nat.beq (Nat.mod w (bit n)) 0) = false := by
      cases h4 : Nat.beq (Nat.mod w (bit n)) 0
      · exact Bool.and_false _
      · exact absurd (Nat.eq_of_beq_eq_true h4) hn
    rw [hc]; rfl
  rw [e1, e2]
  exact ⟨h1, h2⟩
theorem pop_run {T O : Nat} (F : Fn1 E Y T O) {i : Ids} {pb mb cb : Nat} {m : FM} {n : Nat} {ys : List (Int × Value)} {o : Value} (h : Pop i T pb m n o) (hm : Med m n mb cb T O ys) : ∃ (f : Nat) (cs : List Value), o = .func (.func f) #[] cs.toArray ∧ Rt (callW PG E Y f (.pointer (some ⟨mb, 0, none⟩) :: cs) m n) fun r m' n' w => n ≤ n' ∧ (∀ b, b < n → b ≠ cb → m' b = m b ∧ Nat.testBit w b = false) ∧ ∃ ys', Med m' n' mb cb T O ys' := by
  rcases h with ⟨ba, bb, a, v, len, bs, rfl, h2, h3, h4, h5, h6, h7, h8, h9, h10, h11, h12, h13⟩ | ⟨ba, b, rfl, h2, h3, h4, h5, h6⟩
  · refine ⟨63, [.pointer (some ⟨ba, 0, none⟩), .pointer (some ⟨bb, 0, none⟩)], rfl, (run63 F.e63 F.e64 F.e97 F.e61 F.e98 F.e136 F.e50 F.e54 F.G hm h4 h7 h8 h9 h10 h11.sh h12 h13).mono ?_⟩
    intro r M N w hh
    obtain ⟨k1, k2, k3, k4, v', k5, k6⟩ := hh
    exact ⟨k2, k3, _, k6⟩
  · refine ⟨95, [.pointer (some ⟨ba, 0, none⟩)], rfl, (run95 F.e95 F.e96 F.e135 F.e54 F.G hm h4 h5 h6).mono ?_⟩
    intro r M N w hh
    obtain ⟨k1, k2, k3, k4, k5⟩ := hh
    exact ⟨k2, k3, _, k5⟩
theorem cut_L0 {T O : Nat} (F : Fn1 E Y T O) {i : Ids} (ok : i.Ok) {pb : Nat} {m : FM} {n : Nat} (hK : i.K ≤ n) {pv q : Value} {pcs : List Value} (hst : m i.C = some (.cells [.pointer (some ⟨i.md, 0, none⟩), q, pv] 0 false true)) (hsv : ∀ j, j < pcs.length → idxV 1 j pv = some (.pointer (some ⟨pb, j, none⟩)) ∧ pb < n ∧ i.K ≤ pb ∧ m pb = some (.cells pcs 1 true true)) (hso : Am.one pv = true) (hpo : ∀ o ∈ pcs, Pop i T pb m n o) (x4 x5 x7 : Value) {Q : AX → List Value → FM → Nat → Nat → Prop} (hl : pcs.length ≤ 100000)
    (hQ : ∀ (x1 : Value) M N w, n ≤ N → (∀ b, b < n → b ≠ i.sd → M b = m b ∧ Nat.testBit w b = false) → (∃ ys, Med M N i.md i.sd T O ys) → Q (.exit 0) [x1, .int .i64 ((pcs.length : Nat) : Int), pv, x4, x5, .pointer (some ⟨i.C, 0, none⟩), x7] M N w) :
    ∀ (d j : Nat), j + d = pcs.length → ∀ (x1 : Value) (M : FM) (N w0 : Nat), n ≤ N → (∀ b, b < n → b ≠ i.sd → M b = m b ∧ Nat.testBit w0 b = false) → (∃ ys, Med M N i.md i.sd T O ys) →
    Gv (execW PG E Y ac65L0 [.int .i64 (j : Int), x1, .int .i64 ((pcs.length : Nat) : Int), pv, x4, x5, .pointer (some ⟨i.C, 0, none⟩), x7] M N) fun X e m n w => Q X e m n (Nat.lor w0 w) := by
  obtain ⟨h0, h1, h2, h3, h4, h5, h6, h7, h8, h9⟩ := ok
  intro d
  induction d with
  | zero =>
    intro j hj x1 M N w0 hN hf hy
    refine wr_loopN (L := ac65L0) (b := ac65L0b) rfl ?_
    simp only [ac65L0b]
    obtain rfl : j = pcs.length := by omega
    simp (implicitDefEqProofs := false) (disch := omega) only [W2, opds, Nat.testBit, Nat.reduceAdd, Nat.reduceShiftRight, Nat.reduceAnd, Nat.reduceBNe, Nat.reduceMul]
    exact hQ _ _ _ _ hN hf hy
  | succ d ih =>
    intro j hj x1 M N w0 hN hf hy
    refine wr_loopN (L := ac65L0) (b := ac65L0b) rfl ?_
    obtain ⟨hi, hpn, hpK, hpm⟩ := hsv j (by omega)
    have hpM := (hf pb hpn (by omega)).1.trans hpm
    have hsM := (hf i.C (by omega) (by omega)).1.trans hst
    have hat : cget pcs j = some pcs[j] := by rw [cget_eq, List.getElem?_eq_getElem (by omega)]
    have hp : Pop i T pb M N pcs[j] := (hpo _ (List.getElem_mem _)).fr (w := w0) (lo := i.sd) (hi := i.C) (fun b hb hk _ => hf b hb (by omega)) (by omega) hN (.inl rfl)
    obtain ⟨ys, hy⟩ := hy
    obtain ⟨f, cs, ho, hr⟩ := pop_run F hp hy
    simp only [ac65L0b]
    rw [ho] at hat
    simp (implicitDefEqProofs := false) (disch := omega) only [W2, opds, Nat.testBit, Nat.reduceAdd, Nat.reduceShiftRight, Nat.reduceAnd, Nat.reduceBNe, Nat.reduceMul, hi, hpM, hat, hso, hsM, one_func, s_callv, callv0, List.cons_append, List.nil_append]
    refine use_rt hr fun r1 m1 n1 r2 w1 hh => ?_
    obtain ⟨k1, k2, k3⟩ := hh
    simp (implicitDefEqProofs := false) (disch := omega) only [W2, opds, Nat.testBit, Nat.reduceAdd, Nat.reduceShiftRight, Nat.reduceAnd, Nat.reduceBNe, Nat.reduceMul]
    refine wr_end (ih (j + 1) (by omega) _ _ _ (Nat.lor w0 w1) (by omega) (fun b hb hne => ⟨by rw [(k2 b (by omega) hne).1, (hf b hb hne).1], by rw [lor_test, (hf b hb hne).2, (k2 b (by omega) hne).2]; rfl⟩) k3) fun X e m n w hq => ?_
    rw [show Nat.lor w0 (Nat.lor w1 w) = Nat.lor (Nat.lor w0 w1) w from (lor_assoc' _ _ _).symm]
    exact hq
theorem cache_cut {T O : Nat} (F : Fn1 E Y T O) (hE : E 65 = some ac65) {i : Ids} {pb : Nat} {m : FM} {n : Nat} {xs : List (Int × Value)} {c : Nat} (h : Cch i T O pb m n xs c) (hc : c ≤ 100000) {pv : Value} {pcs : List Value} (hst : m i.C = some (.cells [.pointer (some ⟨i.md, 0, none⟩), .pointer (some ⟨i.mc, 0, none⟩), pv] 0 false true)) (hpl : pcs.length ≤ c) (hpo : ∀ o ∈ pcs, Pop i T pb m n o) (hpv : (pcs = [] ∧ pv = .slice none 0 0) ∨ (0 < pcs.length ∧ i.K ≤ pb ∧ pb < n ∧ pv = .slice (some ⟨pb, 0, none⟩) pcs.length UNK ∧ m pb = some (.cells pcs 1 true true))) :
    Rt (callW PG E Y 65 [.pointer (some ⟨i.C, 0, none⟩), .int .i64 ((pcs.length : Nat) : Int)] m n) fun r m' n' w => Nat.testBit w i.C = true ∧ (n ≤ n' ∧ Fr i.sd i.C pb n m m' w ∧ Cch i T O pb m' n' xs 0) := by
  obtain ⟨h0, h1, h2, h3, h4, h5, h6, h7, h8, h9⟩ := h.ok
  have hKN := h.KN
  have hpbN := h.pbN
  have hlen : lenV false pv = some (.int .i64 ((pcs.length : Nat) : Int)) ∧ Am.one pv = true ∧ belowV n pv = true ∧ (∃ r, slcM m n 1 (slcV 1 none (some (.int .i64 ((pcs.length : Nat) : Int))) pv) pv = .ok pv m n r 0) ∧ ∀ j, j < pcs.length → idxV 1 j pv = some (.pointer (some ⟨pb, j, none⟩)) ∧ pb < n ∧ i.K ≤ pb ∧ m pb = some (.cells pcs 1 true true) := by
    rcases hpv with ⟨rfl, rfl⟩ | ⟨k1, k2, k3, rfl, k4⟩
    · exact ⟨rfl, rfl, rfl, ⟨0, rfl⟩, fun j hj => absurd hj (Nat.not_lt_zero _)⟩
    · exact ⟨rfl, rfl, blt_true k3, ⟨bit pb, slc_whole k1 k3 k4⟩, fun j hj => ⟨by rw [idx_mk hj, Nat.zero_add, Nat.mul_one], k3, k2, k4⟩⟩
  obtain ⟨l1, l2, l3, ⟨r0, l4⟩, l5⟩ := hlen
  refine wrt_specN (R := fun m' n' w => (n ≤ n' ∧ Fr i.sd i.C pb n m m' w ∧ Cch i T O pb m' n' xs 0)) hE rfl rfl (show i.C < n by omega) fun Q hQ => ?_
  simp only [ac65]
  simp (implicitDefEqProofs := false) (disch := omega) only [W2, opds, Nat.testBit, Nat.reduceAdd, Nat.reduceShiftRight, Nat.reduceAnd, Nat.reduceBNe, Nat.reduceMul, eqlnil61, hst, l1, l2, l3, mx_nat, mn_same, s_slc, oev_some, oev_none, Option.toList_none, Option.toList_some, List.nil_append, List.append_nil, List.all_cons, List.all_nil, l4, show ∀ x y : Opd, ∀ (e : List Value), stepA PG (callW PG E Y) e m n (.pur .min [x, y]) = valO m n (mnV (ev e x) (ev e y)) from fun _ _ _ => rfl]
  refine wr_kont ((cut_L0 F h.ok (by omega) hst l5 l2 hpo _ _ _ (by omega) (fun x1 M N w hN hf hy => ?_) pcs.length 0 (Nat.zero_add _) _ m n 0 (Nat.le_refl _) (fun b _ _ => ⟨rfl, Nat.zero_testBit _⟩) h.dur).mono fun X e m' n' w hq => by simpa only [zero_lor'] using hq)
  intro rr
  have hsM := (hf i.C (by omega) (by omega)).1.trans hst
  simp (implicitDefEqProofs := false) (disch := omega) only [W2, opds, Nat.testBit, Nat.reduceAdd, Nat.reduceShiftRight, Nat.reduceAnd, Nat.reduceBNe, Nat.reduceMul, hsM]
  generalize hM3 : (AMem.put M i.C (some (Blk.cells [.pointer (some ⟨i.md, 0, none⟩), .pointer (some ⟨i.mc, 0, none⟩), .slice none 0 0] 0 false true)) : FM) = M3
  have m3 : ∀ b, b ≠ i.C → M3 b = M b := fun b hb => by rw [← hM3, fput_ne _ _ _ _ hb]
  have hcm := h.con.mbN
  have hcc := h.con.cbN
  refine hQ _ _ _ _ (by rw [lor_test, bit_test]; simp) ⟨hN, fun b hb hk hne => ⟨by rw [m3 b (by omega), (hf b hb (by omega)).1], by rw [lor_test, (hf b hb (by omega)).2, bit_ne (by omega)]; rfl⟩, ?_⟩
  refine ⟨h.ok, by omega, h.pbk, by omega, ⟨.slice none 0 0, by rw [← hM3]; exact fput_same _ _ _, [], Nat.le_refl _, fun o ho => (by cases ho), .inl ⟨rfl, rfl⟩⟩, h.con.frame hN (by rw [m3 _ (by omega), (hf _ (by omega) (by omega)).1]) (by rw [m3 _ (by omega), (hf _ (by omega) (by omega)).1]), ?_⟩
  obtain ⟨ys, hy⟩ := hy
  exact ⟨ys, hy.frame (Nat.le_refl _) (m3 _ (by omega)) (m3 _ (by omega))⟩
theorem cache_flush {T O : Nat} (F : Fn1 E Y T O) (hE : E 30 = some ac30) (h65 : E 65 = some ac65) {i : Ids} {pb : Nat} {m : FM} {n : Nat} {xs : List (Int × Value)} {c : Nat} (h : Cch i T O pb m n xs c) (hc : c ≤ 100000) :
    Rt (callW PG E Y 30 [.pointer (some ⟨i.C, 0, none⟩)] m n) fun r m' n' w => Nat.testBit w i.C = true ∧ (n ≤ n' ∧ Fr i.sd i.C pb n m m' w ∧ Cch i T O pb m' n' xs 0) := by
  obtain ⟨h0, h1, h2, h3, h4, h5, h6, h7, h8, h9⟩ := h.ok
  have hKN := h.KN
  obtain ⟨pv, hst, hpe⟩ := h.st
  obtain ⟨pcs, k1, k2, k3⟩ := hpe
  have hlen : lenV false pv = some (.int .i64 ((pcs.length : Nat) : Int)) ∧ Am.one pv = true := by
    rcases k3 with ⟨rfl, rfl⟩ | ⟨q1, q2, q3, rfl, q4⟩ <;> exact ⟨rfl, rfl⟩
  refine wrt_specN (R := fun m' n' w => (n ≤ n' ∧ Fr i.sd i.C pb n m m' w ∧ Cch i T O pb m' n' xs 0)) hE rfl rfl (show i.C < n by omega) fun Q hQ => ?_
  simp only [ac30]
  simp (implicitDefEqProofs := false) (disch := omega) only [W2, opds, Nat.testBit, Nat.reduceAdd, Nat.reduceShiftRight, Nat.reduceAnd, Nat.reduceBNe, Nat.reduceMul, neqnil61, hst, hlen.1, hlen.2]
  refine use_rt (cache_cut F h65 h hc hst k1 k2 k3) fun r1 m1 n1 r2 w1 hh => ?_
  simp (implicitDefEqProofs := false) (disch := omega) only [W2, opds, Nat.testBit, Nat.reduceAdd, Nat.reduceShiftRight, Nat.reduceAnd, Nat.reduceBNe, Nat.reduceMul]
  exact hQ _ _ _ _ hh.1 hh.2
end Go.Am.CS
namespace Go.Am
open Go Go.RowKit
section
variable {μ : Type} [AMem μ] {P : Program}
def Up (n n' r w : Nat) : Prop := n ≤ n' ∧ ∀ i, n' ≤ i → r.testBit i = false ∧ w.testBit i = false
theorem Up.refl (n : Nat) : Up n n 0 0 := ⟨Nat.le_refl _, fun i _ => ⟨Nat.zero_testBit i, Nat.zero_testBit i⟩⟩
theorem Up.trans {n n1 n2 r1 w1 r2 w2 : Nat} (h : Up n n1 r1 w1) (k : Up n1 n2 r2 w2) : Up n n2 (Nat.lor r1 r2) (Nat.lor w1 w2) :=
  ⟨Nat.le_trans h.1 k.1, fun i hi => by
    have a := h.2 i (Nat.le_trans k.1 hi)
    have b := k.2 i hi
    rw [lor_test, lor_test, a.1, a.2, b.1, b.2]
    exact ⟨rfl, rfl⟩⟩
theorem bit_up {b n i : Nat} (hb : b < n) (hi : n ≤ i) : (bit b).testBit i = false := by
  rw [bit_test]
  exact decide_eq_false (by omega)
theorem up_read {b n : Nat} (hb : b < n) : Up n n (bit b) 0 := ⟨Nat.le_refl _, fun i hi => ⟨bit_up hb hi, Nat.zero_testBit i⟩⟩
theorem up_new (n : Nat) {r : Nat} (hr : ∀ i, n ≤ i → r.testBit i = false) : Up n (n + 1) r (bit n) := ⟨Nat.le_succ _, fun i hi => ⟨hr i (by omega), bit_up (Nat.lt_succ_self _) hi⟩⟩
theorem newb_up {m m' : μ} {n n' r wm : Nat} {O : Blk} {f : Nat → Value} {v : Value} (h : newb m n O f = .ok v m' n' r wm) : Up n n' r wm := by
  unfold newb at h
  cases hl : AMem.lim m n
  · rw [hl, cond_false] at h; cases h
  · rw [hl, cond_true] at h; injection h with e1 e2 e3 e4 e5; subst e2; subst e3; subst e4; subst e5; exact up_new _ fun i _ => Nat.zero_testBit i
omit [AMem μ] in
theorem valO_up {m m' : μ} {n n' r wm : Nat} {x : Option Value} {v : Value} (h : valO m n x = .ok v m' n' r wm) : Up n n' r wm := by
  obtain ⟨_, rfl, rfl, rfl, rfl⟩ := valO_ok h; exact Up.refl _
omit [AMem μ] in
theorem valR_up {m m' : μ} {n n' r wm b : Nat} {x : Option Value} {v : Value} (hb : b < n) (h : valR m n b x = .ok v m' n' r wm) : Up n n' r wm := by
  obtain ⟨_, rfl, rfl, rfl, rfl⟩ := valR_ok h; exact up_read hb
theorem szOk_lt {m : μ} {sz n b : Nat} (h : szOk sz (getb m n b) = true) : b < n := by
  unfold szOk at h
  split at h
  · rename_i hg; exact (getb_some hg).1
  · cases h
theorem withCells_lt {m : μ} {n b : Nat} {f : List Value → OR μ} {v : Value} {m' : μ} {n' r wm : Nat} (h : withCells (getb m n b) f = .ok v m' n' r wm) : b < n ∧ ∃ c, f c = .ok v m' n' r wm := by
  cases hg : getb m n b with
  | none => rw [hg] at h; cases h
  | some B => rw [hg] at h; exact ⟨(getb_some hg).1, withCells_ok h⟩
theorem putC_up {m m' : μ} {n n' r r0 wm b sz : Nat} {opn : Bool} {v0 v : Value} {c : Option (List Value)} (hb : b < n) (hr : ∀ i, n ≤ i → r0.testBit i = false) (h : putC m n b sz opn v0 r0 c = .ok v m' n' r wm) : Up n n' r wm := by
  unfold putC at h; split at h
  · injection h with e1 e2 e3 e4 e5; subst e2; subst e3; subst e4; subst e5; exact ⟨Nat.le_refl _, fun i hi => ⟨hr i hi, bit_up hb hi⟩⟩
  · cases h
theorem appN_up {m m' : μ} {n n' r r0 wm sz len : Nat} {c : List Value} {v : Value} (hr : ∀ i, n ≤ i → r0.testBit i = false) (h : appN m n sz len c r0 = .ok v m' n' r wm) : Up n n' r wm := by
  unfold appN at h
  cases hl : AMem.lim m n
  · rw [hl, cond_false] at h; cases h
  · rw [hl, cond_true] at h; injection h with e1 e2 e3 e4 e5; subst e2; subst e3; subst e4; subst e5; exact up_new _ hr
theorem putM_up {m m' : μ} {n n' r wm b : Nat} {v : Value} {es : Option (List (Value × Value))} (hb : b < n) (h : putM m n b es = .ok v m' n' r wm) : Up n n' r wm := by
  unfold putM at h; split at h
  · injection h with e1 e2 e3 e4 e5; subst e2; subst e3; subst e4; subst e5; exact ⟨Nat.le_refl _, fun i hi => ⟨bit_up hb hi, bit_up hb hi⟩⟩
  · cases h
theorem shown_up {m : μ} {n sz : Nat} {v : Value} {p : List Value × Nat} (h : shown m n sz v = some p) : ∀ i, n ≤ i → p.2.testBit i = false := by
  intro i hi
  unfold shown at h
  split at h
  · injection h with h; subst h; exact Nat.zero_testBit i
  · rename_i b o l c
    cases h0 : Nat.beq l 0
    · rw [h0, cond_false] at h
      unfold shownB at h
      split at h
      · rename_i cs s q1 q2 hg
        cases hs : szF s sz
        · rw [hs] at h; cases h
        · rw [hs, cond_true] at h
          cases hc : cellsAt cs o (Nat.mul l sz) with
          | none => rw [hc] at h; cases h
          | some x =>
            rw [hc] at h
            injection h with h
            subst h
            exact bit_up (getb_some hg).1 hi
      · cases h
    · rw [h0, cond_true] at h; injection h with h; subst h; exact Nat.zero_testBit i
  · cases h
omit [AMem μ] in
theorem condU_ok {c : Bool} {x : OR μ} {v : Value} {m' : μ} {n' r w : Nat} (h : cond c x .no = .ok v m' n' r w) : x = .ok v m' n' r w := by
  cases c
  · cases h
  · exact h
theorem cpyV_up {m m' : μ} {n n' r wm sz : Nat} {v x y : Value} {p : Option (List Value × Nat)} (hp : ∀ q, p = some q → ∀ i, n ≤ i → q.2.testBit i = false) (h : cpyV sz m n p x y = .ok v m' n' r wm) : Up n n' r wm := by
  unfold cpyV at h
  split at h
  · split at h
    · replace h := condU_ok h
      unfold cpyB at h
      split at h
      · rename_i hg
        replace h := condU_ok h
        exact putC_up (getb_some hg).1 (fun i hi => by rw [lor_test, hp _ rfl i hi, bit_up (getb_some hg).1 hi]; rfl) h
      · cases h
    · cases h
  · cases h
theorem mapV_up {m m' : μ} {n n' r wm : Nat} {v : Value} {op : MOp} {xs : List Value} (h : mapV P op xs m n = .ok v m' n' r wm) : Up n n' r wm := by
  unfold mapV at h
  split at h
  · exact newb_up h
  · rename_i kt z ok x k
    cases hf : addrFree k
    · rw [hf, cond_false] at h; cases h
    · rw [hf, cond_true] at h
      split at h
      · exact valO_up h
      · unfold lookB at h
        split at h
        · rename_i hg; exact valR_up (getb_some hg).1 h
        · cases h
      · cases h
  · rename_i kt x k y
    cases hf : addrFree k
    · rw [hf, cond_false] at h; cases h
    · rw [hf, cond_true] at h
      split at h
      · unfold updB at h
        split at h
        · rename_i hg; exact putM_up (getb_some hg).1 h
        · cases h
      · cases h
  · rename_i kt x k
    cases hf : addrFree k
    · rw [hf, cond_false] at h; cases h
    · rw [hf, cond_true] at h
      split at h
      · unfold delB at h
        split at h
        · rename_i hg; exact putM_up (getb_some hg).1 h
        · cases h
      · cases h
  · split at h
    · unfold strB at h
      split at h
      · rename_i c sz opn wr hg
        cases hz : Nat.beq sz 1
        · rw [hz] at h; cases h
        · rw [hz] at h; exact valR_up (getb_some hg).1 h
      · cases h
    · cases h
  · exact cpyV_up (fun q hq => shown_up hq) h
  · cases h
theorem step_up {e : List Value} {m m' : μ} {n n' r wm : Nat} {v : Value} {rec : Nat → List Value → μ → Nat → OR μ} {x : AOp} (hrec : ∀ f args m n v m' n' r wm, rec f args m n = .ok v m' n' r wm → Up n n' r wm)
    (h : stepA P rec e m n x = .ok v m' n' r wm) : Up n n' r wm := by
  cases x with
  | mov x => injection h with e1 e2 e3 e4 e5; subst e2; subst e3; subst e4; subst e5; exact Up.refl _
  | func f a c => injection h with e1 e2 e3 e4 e5; subst e2; subst e3; subst e4; subst e5; exact Up.refl _
  | pick c a b => exact valO_up h
  | bin op t x y => exact valO_up h
  | una op x => exact valO_up h
  | conv k x => exact valO_up h
  | fld off x => exact valO_up h
  | idx sz x i => exact valO_up h
  | ida k sz x i => exact valO_up h
  | build z ps => exact valO_up h
  | extr i x => exact valO_up h
  | nilck x => exact valO_up h
  | len s x => exact valO_up h
  | mx x y => exact valO_up h
  | pur op xs => exact valO_up h
  | mp op xs => exact mapV_up h
  | slc sz x lo hi =>
    replace h : slcM m n sz (slcV sz (oev e lo) (oev e hi) (ev e x)) (ev e x) = .ok v m' n' r wm := h
    unfold slcM at h
    split at h
    · rename_i b o ln c hx
      cases hc : Nat.beq c UNK
      · rw [hc, cond_false] at h; exact valO_up h
      · rw [hc, cond_true] at h
        cases hz : szOk sz (getb m n b)
        · rw [hz, cond_false] at h; cases h
        · rw [hz, cond_true] at h; exact valR_up (szOk_lt hz) h
    · exact valO_up h
  | new c => exact newb_up h
  | box x => exact newb_up h
  | mkl sz len z ps =>
    replace h : mklC m n sz len (fillA (parts2 sz e ps) (reps z len)) = .ok v m' n' r wm := h
    unfold mklC at h; split at h
    · exact newb_up h
    · cases h
  | make sz bytes z l c =>
    replace h : makeV sz bytes z m n (natOf (ev e l)) (natOf (ev e c)) = .ok v m' n' r wm := h
    unfold makeV at h; split at h
    · rename_i l1 c1 _ _
      cases hb : (Nat.ble l1 c1 && Nat.ble (Nat.mul c1 bytes) 281474976710656 && Nat.ble c1 1099511627776)
      · rw [hb, cond_false] at h; cases h
      · rw [hb, cond_true] at h; exact newb_up h
    · cases h
  | ld1 x =>
    replace h : ld1V m n (ev e x) = .ok v m' n' r wm := h
    unfold ld1V at h; split at h
    · obtain ⟨hb, c, h⟩ := withCells_lt h; exact valR_up hb h
    · cases h
  | ldn k x =>
    replace h : ldnV k m n (ev e x) = .ok v m' n' r wm := h
    unfold ldnV at h; split at h
    · obtain ⟨hb, c, h⟩ := withCells_lt h; exact valR_up hb h
    · cases h
  | st k x y =>
    replace h : stV k (ev e y).cells.toList m n (ev e x) = .ok v m' n' r wm := h
    unfold stV at h; split at h
    · rename_i b o hx
      cases hc : (Nat.beq (llen (ev e y).cells.toList) k && (ev e y).cells.toList.all one)
      · rw [hc, cond_false] at h; cases h
      · rw [hc, cond_true] at h
        unfold stC at h; split at h
        · rename_i hg; exact putC_up (getb_some hg).1 (fun i hi => bit_up (getb_some hg).1 hi) h
        · cases h
    · cases h
  | app sz bytes x y =>
    replace h : appO sz bytes m n (ev e x) (ev e y) (shown m n sz (ev e x)) (shown m n sz (ev e y)) = .ok v m' n' r wm := h
    unfold appO at h; split at h
    · rename_i a b ha hb'
      have hr : ∀ i, n ≤ i → (Nat.lor a.2 b.2).testBit i = false := fun i hi => by rw [lor_test, shown_up ha i hi, shown_up hb' i hi]; rfl
      unfold appV at h; split at h
      · rename_i ax lx cx ay ly cy hx hy
        cases hc : (b.1.all one && Nat.blt 0 sz && Nat.blt 0 bytes && Nat.ble (Nat.mul (Nat.add lx ly) bytes) 140737488355328)
        · rw [hc, cond_false] at h; cases h
        · rw [hc, cond_true] at h
          unfold appG at h; split at h
          · cases hl : Nat.beq ly 0
            · rw [hl, cond_false] at h; exact appN_up hr h
            · rw [hl, cond_true] at h; injection h with e1 e2 e3 e4 e5; subst e2; subst e3; subst e4; subst e5; exact ⟨Nat.le_refl _, fun i hi => ⟨hr i hi, Nat.zero_testBit i⟩⟩
          · rename_i bx ox
            cases hv : Nat.beq cx VAG
            · rw [hv, cond_false] at h
              cases hu : Nat.beq cx UNK
              · rw [hu, cond_false] at h
                cases hl : Nat.ble (Nat.add lx ly) cx
                · rw [hl, cond_false] at h; exact appN_up hr h
                · rw [hl, cond_true] at h
                  unfold appR at h; split at h
                  · rename_i hg; exact putC_up (getb_some hg).1 hr h
                  · cases h
              · rw [hu, cond_true] at h
                unfold appU at h; split at h
                · rename_i c s hg
                  cases hl : (AMem.lim m n && Nat.beq s sz)
                  · rw [hl, cond_false] at h; cases h
                  · rw [hl, cond_true] at h; injection h with e1 e2 e3 e4 e5; subst e2; subst e3; subst e4; subst e5
                    rw [Bool.and_eq_true] at hl
                    exact ⟨Nat.le_succ _, fun i hi => ⟨hr i (Nat.le_of_succ_le hi), by rw [lor_test, bit_up (getb_some hg).1 (Nat.le_of_succ_le hi), bit_up (Nat.lt_succ_self n) hi]; rfl⟩⟩
                · cases h
            · rw [hv, cond_true] at h; cases h
          · cases h
      · cases h
    · cases h
  | call f args => exact hrec _ _ _ _ _ _ _ _ _ h
  | callv x args =>
    replace h : callV rec (evs e args) m n (ev e x) = .ok v m' n' r wm := h
    unfold callV at h; split at h
    · exact hrec _ _ _ _ _ _ _ _ _ h
    · cases h
theorem opsA_up {rec : Nat → List Value → μ → Nat → OR μ} (hrec : ∀ f args m n v m' n' r wm, rec f args m n = .ok v m' n' r wm → Up n n' r wm) :
    ∀ (l : List AI) (e : List Value) (m : μ) (n r0 w0 : Nat) (X : AX) (e' : List Value) (m' : μ) (n' r wm : Nat), opsA P rec l e m n r0 w0 = .ok X e' m' n' r wm →
      ∃ r1 w1, r = Nat.lor r0 r1 ∧ wm = Nat.lor w0 w1 ∧ Up n n' r1 w1
  | [], e, m, n, r0, w0, X, e', m', n', r, wm, h => by
    obtain ⟨_, _, rfl, rfl, rfl, rfl⟩ := doneA_ok h
    exact ⟨0, 0, (lor_zero' _).symm, (lor_zero' _).symm, Up.refl _⟩
  | i :: l, e, m, n, r0, w0, X, e', m', n', r, wm, h => by
    have ih := opsA_up hrec l
    have step : ∀ {o : AOp} {e2 : Value → List Value}, (orRec (stepA P rec e m n o) fun v m n r' w' => opsA P rec l (e2 v) m n (Nat.lor r0 r') (Nat.lor w0 w')) = .ok X e' m' n' r wm → ∃ r1 w1, r = Nat.lor r0 r1 ∧ wm = Nat.lor w0 w1 ∧ Up n n' r1 w1 := by
      intro o e2 h
      obtain ⟨v, m1, n1, r1, w1, h1, h2⟩ := orRec_ok h
      have l1 := step_up hrec h1
      obtain ⟨r2, w2, rfl, rfl, l2⟩ := ih _ _ _ _ _ _ _ _ _ _ _ h2
      exact ⟨Nat.lor r1 r2, Nat.lor w1 w2, lor_assoc' _ _ _, lor_assoc' _ _ _, l1.trans l2⟩
    cases i with
    | nop i => exact ih _ _ _ _ _ _ _ _ _ _ _ h
    | op o => exact step (e2 := fun v => v :: e) h
    | opg o gi gw =>
      replace h : cond (wantB gw (lget e gi)) (orRec (stepA P rec e m n o) fun v m n r' w' => opsA P rec l (v :: e) m n (Nat.lor r0 r') (Nat.lor w0 w')) (opsA P rec l (undef :: e) m n r0 w0) = .ok X e' m' n' r wm := h
      cases hw : wantB gw (lget e gi)
      · rw [hw, cond_false] at h; exact ih _ _ _ _ _ _ _ _ _ _ _ h
      · rw [hw, cond_true] at h; exact step (e2 := fun v => v :: e) h
    | eff o => exact step (e2 := fun _ => e) h
    | effg o gi gw =>
      replace h : cond (wantB gw (lget e gi)) (orRec (stepA P rec e m n o) fun v m n r' w' => opsA P rec l e m n (Nat.lor r0 r') (Nat.lor w0 w')) (opsA P rec l e m n r0 w0) = .ok X e' m' n' r wm := h
      cases hw : wantB gw (lget e gi)
      · rw [hw, cond_false] at h; exact ih _ _ _ _ _ _ _ _ _ _ _ h
      · rw [hw, cond_true] at h; exact step (e2 := fun _ => e) h
theorem opsD_up {rec : Nat → List Value → μ → Nat → OR μ} (hrec : ∀ f args m n v m' n' r wm, rec f args m n = .ok v m' n' r wm → Up n n' r wm) :
    ∀ (l : List AI) (bs : List Nat) (k : Nat) (done : List (Nat × Nat × Nat)) (e : List Value) (m : μ) (n r0 w0 : Nat) (X : AX) (e' : List Value) (m' : μ) (n' r wm : Nat), opsD P rec l bs k done e m n r0 w0 = .ok X e' m' n' r wm →
      ∃ r1 w1, r = Nat.lor r0 r1 ∧ wm = Nat.lor w0 w1 ∧ Up n n' r1 w1
  | [], bs, k, done, e, m, n, r0, w0, X, e', m', n', r, wm, h => by
    obtain ⟨_, _, rfl, rfl, rfl, rfl⟩ := doneA_ok h
    exact ⟨0, 0, (lor_zero' _).symm, (lor_zero' _).symm, Up.refl _⟩
  | i :: l, bs, k, done, e, m, n, r0, w0, X, e', m', n', r, wm, h => by
    have ih := opsD_up hrec l
    have step : ∀ {o : AOp} {e2 : Value → List Value}, (okD (bs.headD 0) k done (stepD P rec e m n o) fun v m n r' w' done => opsD P rec l bs.tail (Nat.succ k) done (e2 v) m n (Nat.lor r0 r') (Nat.lor w0 w')) = .ok X e' m' n' r wm → ∃ r1 w1, r = Nat.lor r0 r1 ∧ wm = Nat.lor w0 w1 ∧ Up n n' r1 w1 := by
      intro o e2 h
      obtain ⟨v, m1, n1, r1, w1, h1, h2⟩ := okD_ok h
      have l1 := step_up hrec (stepD_ok h1).2
      rcases h2 with ⟨_, h2⟩ | ⟨_, h2⟩
      all_goals
        obtain ⟨r2, w2, rfl, rfl, l2⟩ := ih _ _ _ _ _ _ _ _ _ _ _ _ _ _ h2
        exact ⟨Nat.lor r1 r2, Nat.lor w1 w2, lor_assoc' _ _ _, lor_assoc' _ _ _, l1.trans l2⟩
    cases i with
    | nop i => exact ih _ _ _ _ _ _ _ _ _ _ _ _ _ _ h
    | op o => exact step (e2 := fun v => v :: e) h
    | opg o gi gw =>
      replace h : cond (wantB gw (lget e gi)) (okD (bs.headD 0) k done (stepD P rec e m n o) fun v m n r' w' done => opsD P rec l bs.tail (Nat.succ k) done (v :: e) m n (Nat.lor r0 r') (Nat.lor w0 w')) (opsD P rec l bs.tail (Nat.succ k) done (undef :: e) m n r0 w0) = .ok X e' m' n' r wm := h
      cases hw : wantB gw (lget e gi)
      · rw [hw, cond_false] at h; exact ih _ _ _ _ _ _ _ _ _ _ _ _ _ _ h
      · rw [hw, cond_true] at h; exact step (e2 := fun v => v :: e) h
    | eff o => exact step (e2 := fun _ => e) h
    | effg o gi gw =>
      replace h : cond (wantB gw (lget e gi)) (okD (bs.headD 0) k done (stepD P rec e m n o) fun v m n r' w' done => opsD P rec l bs.tail (Nat.succ k) done e m n (Nat.lor r0 r') (Nat.lor w0 w')) (opsD P rec l bs.tail (Nat.succ k) done e m n r0 w0) = .ok X e' m' n' r wm := h
      cases hw : wantB gw (lget e gi)
      · rw [hw, cond_false] at h; exact ih _ _ _ _ _ _ _ _ _ _ _ _ _ _ h
      · rw [hw, cond_true] at h; exact step (e2 := fun _ => e) h
omit [AMem μ] in
theorem leaveA_up {m0 m m' : μ} {n0 n n' r r0 w0 wm : Nat} {v0 v : Value} (h0 : Up n0 n r0 w0) (h : leaveA m0 n0 v0 m n r0 w0 = .ok v m' n' r wm) : Up n0 n' r wm := by
  unfold leaveA at h
  cases hb : (addrFree v0 && Nat.beq (Nat.mod w0 (bit n0)) 0)
  · rw [hb, cond_false] at h; injection h with e1 e2 e3 e4 e5; subst e2; subst e3; subst e4; subst e5; exact h0
  · rw [hb, cond_true, forceN_eq] at h; injection h with e1 e2 e3 e4 e5; subst e2; subst e3; subst e4; subst e5
    refine ⟨Nat.le_refl _, fun i hi => ⟨?_, Nat.zero_testBit i⟩⟩
    show (r0 % bit n0).testBit i = false
    rw [show bit n0 = 2 ^ n0 by rw [bit]; exact Nat.one_shiftLeft n0, Nat.testBit_mod_two_pow]
    simp only [Bool.and_eq_false_imp, decide_eq_true_eq]
    omega
theorem resO_up {e : List Value} {m : μ} {n : Nat} {vs : List Value} {r : Nat} {x : ROp} {p : List Value × Nat} (hr : ∀ i, n ≤ i → r.testBit i = false) (h : resO e m n vs r x = some p) : ∀ i, n ≤ i → p.2.testBit i = false := by
  intro i hi
  have key : ∀ {f : Nat → List Value → Option Value} {v : Value}, resP m n vs r f v = some p → p.2.testBit i = false := by
    intro f v h
    unfold resP at h
    split at h
    · rename_i b o
      cases hg : getb m n b with
      | none => rw [hg] at h; cases h
      | some B =>
        rw [hg] at h
        cases B with
        | map es => cases h
        | cells c s q1 q2 =>
          replace h : Option.rec (motive := fun _ => Option (List Value × Nat)) none (fun v => some (v :: vs, Nat.lor r (bit b))) (f o c) = some p := h
          cases hf : f o c with
          | none => rw [hf] at h; cases h
          | some v =>
            rw [hf] at h
            injection h with h
            subst h
            show (Nat.lor r (bit b)).testBit i = false
            rw [lor_test, hr i hi, bit_up (getb_some hg).1 hi]; rfl
    · cases h
  cases x with
  | v j => injection h with h; subst h; exact hr i hi
  | cell j => exact key h
  | cells j k => exact key h
theorem resA_up {e : List Value} {m : μ} {n : Nat} : ∀ {l : List ROp} {p : List Value × Nat}, resA e m n l = some p → ∀ i, n ≤ i → p.2.testBit i = false
  | [], p, h => by
    intro i hi
    injection h with h; subst h; exact Nat.zero_testBit i
  | x :: l, p, h => by
    replace h : Option.rec (motive := fun _ => Option (List Value × Nat)) none (fun p => resO e m n p.1 p.2 x) (resA e m n l) = some p := h
    cases hq : resA e m n l with
    | none => rw [hq] at h; cases h
    | some q =>
      rw [hq] at h
      exact resO_up (resA_up hq) h
theorem call_up {E : Nat → Option AFn} {Y : Nat → List Value → μ → Nat → OR μ} (hY : ∀ f args m n v m' n' r wm, Y f args m n = .ok v m' n' r wm → Up n n' r wm) {rec : AC → List Value → μ → Nat → CR μ} (hrec : ∀ c e m n X e' m' n' r wm, rec c e m n = .ok X e' m' n' r wm → Up n n' r wm)
    {f : Nat} {args : List Value} {m m' : μ} {n n' r wm : Nat} {v : Value} (h : callA E Y rec f args m n = .ok v m' n' r wm) : Up n n' r wm := by
  unfold callA at h
  cases hE : E f with
  | none => rw [hE] at h; exact hY _ _ _ _ _ _ _ _ _ h
  | some fn =>
    rw [hE] at h
    replace h : callF rec args m n fn = .ok v m' n' r wm := h
    unfold callF at h
    cases hl : Nat.beq (llen args) fn.na
    · rw [hl, cond_false] at h; cases h
    · rw [hl, cond_true] at h
      cases hr : rec fn.code args m n with
      | no => rw [hr] at h; cases h
      | ok X e1 m1 n1 r1 w1 =>
        rw [hr] at h
        replace h : leaveX fn m n e1 m1 n1 r1 w1 X = .ok v m' n' r wm := h
        have l1 := hrec _ _ _ _ _ _ _ _ _ _ hr
        unfold leaveX at h
        split at h
        · unfold leaveO at h; split at h
          · rename_i vs r' hq
            have hq' := resA_up hq
            exact leaveA_up ⟨l1.1, fun i hi => ⟨by rw [lor_test, (l1.2 i hi).1, hq' i hi]; rfl, (l1.2 i hi).2⟩⟩ h
          · cases h
        · exact leaveA_up l1 h
        · cases h
theorem exec_up {E : Nat → Option AFn} {Y : Nat → List Value → μ → Nat → OR μ} (hY : ∀ f args m n v m' n' r wm, Y f args m n = .ok v m' n' r wm → Up n n' r wm) : ∀ (k : Nat) (c : AC) (e : List Value) (m : μ) (n : Nat) (X : AX) (e' : List Value) (m' : μ) (n' r wm : Nat), exec P E Y k c e m n = .ok X e' m' n' r wm → Up n n' r wm
  | 0, c, e, m, n, X, e', m', n', r, wm, h => by cases h
  | k + 1, c, e, m, n, X, e', m', n', r, wm, h => by
    have ih := exec_up (E := E) (Y := Y) hY k
    replace h : execF P E Y (exec P E Y k) c e m n = .ok X e' m' n' r wm := h
    have norm : ∀ {f : List Value → μ → Nat → CR μ} {X1 : AX} {e1 : List Value} {m1 : μ} {n1 r1 w1 : Nat}, Up n n1 r1 w1 → (∀ e m n X e' m' n' r wm, f e m n = .ok X e' m' n' r wm → Up n n' r wm) → onNorm f X1 e1 m1 n1 r1 w1 = .ok X e' m' n' r wm → Up n n' r wm := by
      intro f X1 e1 m1 n1 r1 w1 l1 hf h
      unfold onNorm at h
      split at h
      · obtain ⟨r2, w2, h2, rfl, rfl⟩ := addRW_ok h
        exact l1.trans (hf _ _ _ _ _ _ _ _ _ h2)
      · injection h with e1 e2 e3 e4 e5 e6; subst e3; subst e4; subst e5; subst e6; exact l1
    cases c with
    | skip => injection h with e1 e2 e3 e4 e5 e6; subst e3; subst e4; subst e5; subst e6; exact Up.refl _
    | reg l =>
      obtain ⟨r1, w1, rfl, rfl, l1⟩ := opsA_up (P := P) (fun f args m n v m' n' r wm h => call_up hY ih h) l _ _ _ _ _ _ _ _ _ _ _ h
      rw [zero_lor', zero_lor']; exact l1
    | regD l bs =>
      obtain ⟨r1, w1, rfl, rfl, l1⟩ := opsD_up (P := P) (fun f args m n v m' n' r wm h => call_up hY ih h) l _ _ _ _ _ _ _ _ _ _ _ _ _ _ h
      rw [zero_lor', zero_lor']; exact l1
    | seq a b =>
      obtain ⟨X1, e1, m1, n1, r1, w1, h1, h2⟩ := crRec_ok h
      exact norm (ih _ _ _ _ _ _ _ _ _ _ h1) (fun _ _ _ _ _ _ _ _ _ h => ih _ _ _ _ _ _ _ _ _ _ h) h2
    | cond x a b =>
      replace h : onCond (exec P E Y k a e m n) (exec P E Y k b e m n) (ev e x) = .ok X e' m' n' r wm := h
      unfold onCond at h
      split at h
      · rename_i t _
        cases t
        · exact ih _ _ _ _ _ _ _ _ _ _ h
        · exact ih _ _ _ _ _ _ _ _ _ _ h
      · cases h
    | block id sh b =>
      obtain ⟨X1, e1, m1, n1, r1, w1, h1, h2⟩ := crRec_ok h
      have l1 := ih _ _ _ _ _ _ _ _ _ _ h1
      unfold onBlock at h2
      split at h2
      · rename_i i
        cases hi : Nat.beq i id
        · rw [hi, cond_false] at h2; injection h2 with e1 e2 e3 e4 e5 e6; subst e3; subst e4; subst e5; subst e6; exact l1
        · rw [hi, cond_true] at h2; injection h2 with e1 e2 e3 e4 e5 e6; subst e3; subst e4; subst e5; subst e6; exact l1
      · injection h2 with e1 e2 e3 e4 e5 e6; subst e3; subst e4; subst e5; subst e6; exact l1
    | loop sh b =>
      obtain ⟨X1, e1, m1, n1, r1, w1, h1, h2⟩ := crRec_ok h
      exact norm (ih _ _ _ _ _ _ _ _ _ _ h1) (fun _ _ _ _ _ _ _ _ _ h => ih _ _ _ _ _ _ _ _ _ _ h) h2
    | pre sel d c => exact ih _ _ _ _ _ _ _ _ _ _ h
    | post c sel d =>
      obtain ⟨X1, e1, m1, n1, r1, w1, h1, h2⟩ := crRec_ok h
      have l1 := ih _ _ _ _ _ _ _ _ _ _ h1
      unfold onPost at h2
      split at h2
      · injection h2 with e1 e2 e3 e4 e5 e6; subst e3; subst e4; subst e5; subst e6; exact l1
      · injection h2 with e1 e2 e3 e4 e5 e6; subst e3; subst e4; subst e5; subst e6; exact l1
    | exit id => injection h with e1 e2 e3 e4 e5 e6; subst e3; subst e4; subst e5; subst e6; exact Up.refl _
    | ret rs =>
      replace h : onRet e m n (resA e m n rs) = .ok X e' m' n' r wm := h
      unfold onRet at h
      split at h
      · rename_i vs r' hq
        injection h with e1 e2 e3 e4 e5 e6; subst e3; subst e4; subst e5; subst e6
        exact ⟨Nat.le_refl _, fun i hi => ⟨resA_up hq i hi, Nat.zero_testBit i⟩⟩
      · cases h
theorem callW_up {E : Nat → Option AFn} {Y : Nat → List Value → μ → Nat → OR μ} (hY : ∀ f args m n v m' n' r wm, Y f args m n = .ok v m' n' r wm → Up n n' r wm) {f : Nat} {args : List Value} {m m' : μ} {n n' r w : Nat} {v : Value} (h : callA E Y (execW P E Y) f args m n = .ok v m' n' r w) : Up n n' r w :=
  call_up hY (fun c e m n X e' m' n' r wm h => by
    obtain ⟨k, hk⟩ := execW_some h
    exact exec_up hY k c e m n X e' m' n' r wm hk) h
end
end Go.Am
namespace Go.Am.CS
set_option maxRecDepth 100000
open Go Go.Am
variable {E : Nat → Option AFn} {Y : Nat → List Value → FM → Nat → OR FM}
def dkC (i : Ids) (T O : Nat) (s0 s1 s2 s3 op : Int) : List Value := [.int .i64 s0, .int .i64 s1, .int .i64 s2, .int .i64 s3, .int .i64 op, .int .i64 4, .int .i64 5, .int .i64 (T : Int), .int .i64 2, .int .i64 (O : Int), .pointer (some ⟨i.C, 0, none⟩), .slice none 0 0, .pointer (some ⟨i.P, 0, none⟩), .int .i64 0, .int .u64 0, .bool false]
def pwC (lf : Int) : List Value := [.bool false, .bool false, .int .i64 lf, .int .i64 0]
structure Dsk (i : Ids) (T O pb : Nat) (M : FM) (N : Nat) (xs : List (Int × Value)) (c : Nat) : Prop where
  cc : Cch i T O pb M N xs c
  dk : ∃ s0 s1 s2 s3 op, M i.D = some (.cells (dkC i T O s0 s1 s2 s3 op) 0 false true)
  pw : ∃ lf, M i.P = some (.cells (pwC lf) 0 false true)
theorem land_of_test {i r : Nat} (h : r.testBit i = false) : Nat.land (bit i) r = 0 := by
  apply Nat.eq_of_testBit_eq
  intro k
  show (bit i &&& r).testBit k = _
  rw [Nat.testBit_and, bit_test, Nat.zero_testBit]
  by_cases hk : i = k
  · subst hk; rw [h, Bool.and_false]
  · simp [hk]
theorem use_rtXU {P : Program} {K : List Frm} {l : List (AI × Nat)} {w0 r0 w1 : Nat} {e : List Value} {Q : AX → List Value → FM → Nat → Nat → Prop} {b k : Nat} {kv : Bool} {done : List (Nat × Nat × Nat)} {R : Value → FM → Nat → Nat → Prop} {f : Nat} {args : List Value} {m : FM} {n : Nat} (hY : ∀ f args m n v m' n' r wm, Y f args m n = .ok v m' n' r wm → Up n n' r wm) (h : Rt (callW P E Y f args m n) R) (hk : ∀ v m' n' r' w', R v m' n' w' → (∀ i, n' ≤ i → Nat.land (bit i) r' = 0 ∧ Nat.land (bit i) w' = 0) → Wr P E Y K w0 (outX (runX P (callW P E Y) l (keepD b kv k done e r0 w1 (.ok v m' n' r' w')))) Q) : Wr P E Y K w0 (outX (runX P (callW P E Y) l (keepD b kv k done e r0 w1 (callW P E Y f args m n)))) Q := by
  obtain ⟨v, m', n', r', w', hx, hq⟩ := h.some
  rw [hx]
  have hu := callW_up hY hx
  exact hk _ _ _ _ _ hq fun i hi => ⟨land_of_test (hu.2 i hi).1, land_of_test (hu.2 i hi).2⟩
def YUp (Y : Nat → List Value → FM → Nat → OR FM) : Prop := ∀ f args m n v m' n' r wm, Y f args m n = .ok v m' n' r wm → Up n n' r wm
theorem eqlnil27 (a : Addr) : binV PG .eql 27 (.pointer (some a)) (.pointer none) = some (.bool false) := by
  rw [eqlnil_ptr (by kernel_rfl)]; rfl
theorem dstate_spec (hE : E 58 = some ac58) {i : Ids} {T O pb : Nat} {m : FM} {n : Nat} {xs : List (Int × Value)} {c : Nat} (h : Dsk i T O pb m n xs c) : Pure (callW PG E Y 58 [.pointer (some ⟨i.D, 0, none⟩)] m n) m n (.int .i64 0) := by
  obtain ⟨h0, h1, h2, h3, h4, h5, h6, h7, h8, h9⟩ := h.cc.ok
  have hKN := h.cc.KN
  obtain ⟨s0, s1, s2, s3, op, hd⟩ := h.dk
  obtain ⟨lf, hp⟩ := h.pw
  simp only [dkC] at hd
  simp only [pwC] at hp
  refine pure_spec hE rfl rfl ?_
  simp only [ac58]
  simp (implicitDefEqProofs := false) (disch := omega) only [W2, opds, Nat.testBit, Nat.reduceAdd, Nat.reduceShiftRight, Nat.reduceAnd, Nat.reduceBNe, Nat.reduceMul, eqlnil27, hd, hp]
theorem dcall_spec (hE : E 59 = some ac59) {i : Ids} {T O pb : Nat} {m : FM} {n : Nat} {xs : List (Int × Value)} {c : Nat} (h : Dsk i T O pb m n xs c) : Rt (callW PG E Y 59 [.pointer (some ⟨i.P, 0, none⟩)] m n) fun r m' n' w => Nat.testBit w i.P = true ∧ (r = .bool true ∧ n' = n ∧ (∀ b, b ≠ i.P → m' b = m b ∧ Nat.testBit w b = false) ∧ ∃ lf, m' i.P = some (.cells (pwC lf) 0 false true)) := by
  obtain ⟨h0, h1, h2, h3, h4, h5, h6, h7, h8, h9⟩ := h.cc.ok
  have hKN := h.cc.KN
  obtain ⟨lf, hp⟩ := h.pw
  simp only [pwC] at hp
  refine wrt_spec (R := fun r m' n' w => (r = .bool true ∧ n' = n ∧ (∀ b, b ≠ i.P → m' b = m b ∧ Nat.testBit w b = false) ∧ ∃ lf, m' i.P = some (.cells (pwC lf) 0 false true))) hE rfl (show i.P < n by omega) fun Q hQ => ?_
  simp only [ac59]
  simp (implicitDefEqProofs := false) (disch := omega) only [W2, opds, Nat.testBit, Nat.reduceAdd, Nat.reduceShiftRight, Nat.reduceAnd, Nat.reduceBNe, Nat.reduceMul, hp]
  exact hQ _ _ _ _ _ (by rw [bit_test]; simp) ⟨rfl, rfl, fun b hb => ⟨fput_ne _ _ _ _ hb, bit_ne hb⟩, _, fput_same _ _ _⟩
def fV : Value := .agg #[.int .i64 0, .int .i64 0, .int .i64 0]
theorem fault_spec (hE : E 60 = some ac60) (m : FM) (n : Nat) (op : Int) : Rt (callW PG E Y 60 [.slice none 0 0, .int .i64 op] m n) fun r m' n' w => n ≤ n' ∧ (∀ b, b < n → m' b = m b) ∧ (∀ j, j ≤ n → Nat.mod w (bit j) = 0) ∧ r = .tuple #[fV, .bool false] := by
  refine kept_specQ (R := fun r m' n' => r = .tuple #[fV, .bool false]) hE rfl fun Q hQ => ?_
  simp only [ac60]
  simp (implicitDefEqProofs := false) (disch := omega) only [W2, opds, Nat.testBit, Nat.reduceAdd, Nat.reduceShiftRight, Nat.reduceAnd, Nat.reduceBNe, Nat.reduceMul]
  refine wr_kont (wr_loopN (L := ac60L0) (b := ac60L0b) rfl ?_)
  simp only [ac60L0b]
  simp (implicitDefEqProofs := false) (disch := omega) only [W2, opds, Nat.testBit, Nat.reduceAdd, Nat.reduceShiftRight, Nat.reduceAnd, Nat.reduceBNe, Nat.reduceMul]
  intro rr
  simp (implicitDefEqProofs := false) (disch := omega) only [W2, opds, Nat.testBit, Nat.reduceAdd, Nat.reduceShiftRight, Nat.reduceAnd, Nat.reduceBNe, Nat.reduceMul]
  refine hQ _ _ _ _ _ (by omega) (fun b hb => fput_ne _ _ _ _ (by omega)) ?_ rfl rfl
  rw [frz_iff]; exact ⟨frz_bit (Nat.le_refl _), frz_bit (Nat.le_refl _)⟩
theorem Cch.keepX {i : Ids} {T O pb : Nat} {M M' : FM} {N N' : Nat} {xs : List (Int × Value)} {c : Nat} (h : Cch i T O pb M N xs c) (hN : N ≤ N') (hf : ∀ b, b < N → b ≠ i.P → b ≠ i.D → b ≠ i.R → b ≠ i.EN → M' b = M b) : Cch i T O pb M' N' xs c := by
  obtain ⟨h0, h1, h2, h3, h4, h5, h6, h7, h8, h9⟩ := h.ok
  have hK := h.KN
  have hp := h.pbN
  obtain ⟨pv, hst, hpe⟩ := h.st
  obtain ⟨ys, hy⟩ := h.dur
  exact ⟨h.ok, by omega, h.pbk, by omega, ⟨pv, (hf _ (by omega) (by omega) (by omega) (by omega) (by omega)).trans hst, hpe.fr (w := 0) (lo := i.P) (hi := i.EN) (fun b hb hk _ => ⟨hf b hb (by omega) (by omega) (by omega) (by omega), Nat.zero_testBit _⟩) (by omega) (fun _ => hf _ hp (by omega) (by omega) (by omega) (by omega)) hN⟩, h.con.frame hN (hf _ (by omega) (by omega) (by omega) (by omega) (by omega)) (hf _ (by omega) (by omega) (by omega) (by omega) (by omega)), ys, hy.frame hN (hf _ (by omega) (by omega) (by omega) (by omega) (by omega)) (hf _ (by omega) (by omega) (by omega) (by omega) (by omega))⟩
theorem perform_spec (hU : YUp Y) (hE : E 26 = some ac26) (h58 : E 58 = some ac58) (h59 : E 59 = some ac59) (h60 : E 60 = some ac60) {i : Ids} {T O pb : Nat} {m : FM} {n : Nat} {xs : List (Int × Value)} {c : Nat} (h : Dsk i T O pb m n xs c) {f : Nat} {cs : List Value} {R : Value → FM → Nat → Nat → Prop} (hone : ∀ v m n w, R v m n w → Am.one v = true)
    (hcall : ∀ m2 n2, n ≤ n2 → Dsk i T O pb m2 n2 xs c → (∀ b, b < n → b ≠ i.P → b ≠ i.D → m2 b = m b) → Rt (callW PG E Y f (fV :: cs) m2 n2) R) :
    Rt (callW PG E Y 26 [.pointer (some ⟨i.D, 0, none⟩), .int .u64 0, .func (.func f) #[] cs.toArray] m n) fun r m' n' w => Nat.testBit w i.P = true ∧ ∃ w0 w1, w = Nat.lor w0 w1 ∧ (∀ b, b < n → ¬ (i.P ≤ b ∧ b ≤ i.D) → Nat.testBit w0 b = false) ∧ R r m' n' w1 := by
  obtain ⟨h0, h1, h2, h3, h4, h5, h6, h7, h8, h9⟩ := h.cc.ok
  have hKN := h.cc.KN
  obtain ⟨s0, s1, s2, s3, op, hd⟩ := h.dk
  simp only [dkC] at hd
  refine wrt_spec (R := fun r m' n' w => ∃ w0 w1, w = Nat.lor w0 w1 ∧ (∀ b, b < n → ¬ (i.P ≤ b ∧ b ≤ i.D) → Nat.testBit w0 b = false) ∧ R r m' n' w1) hE rfl (show i.P < n by omega) fun Q hQ => ?_
  simp only [ac26]
  simp (implicitDefEqProofs := false) (disch := omega) only [W2, opds, Nat.testBit, Nat.reduceAdd, Nat.reduceShiftRight, Nat.reduceAnd, Nat.reduceBNe, Nat.reduceMul]
  refine use_pure (dstate_spec h58 h) fun r1 => ?_
  simp (implicitDefEqProofs := false) (disch := omega) only [W2, opds, Nat.testBit, Nat.reduceAdd, Nat.reduceShiftRight, Nat.reduceAnd, Nat.reduceBNe, Nat.reduceMul, hd]
  refine use_rt (dcall_spec h59 h) fun r2 m2 n2 r3 w2 hh => ?_
  obtain ⟨ht, rfl, rfl, hf2, lf, hp2⟩ := hh
  have hd2 := (hf2 i.D (by omega)).1.trans hd
  simp (implicitDefEqProofs := false) (disch := omega) only [W2, opds, Nat.testBit, Nat.reduceAdd, Nat.reduceShiftRight, Nat.reduceAnd, Nat.reduceBNe, Nat.reduceMul, hd2, show binV PG .neq 37 (.int .u64 0) (.int .u64 0) = some (.bool false) from rfl]
  refine use_rtXU hU (fault_spec h60 _ _ _) fun r4 m4 n4 r5 w4 hh hu => ?_
  obtain ⟨hn4, hf4, hw4, rfl⟩ := hh
  have hd4 := (hf4 i.D (by omega)).trans hd2
  obtain ⟨l1, l2⟩ := land_frz (hw4 n2 (Nat.le_refl _)) (show i.D < n2 by omega)
  simp only [fV]
  obtain ⟨l3, l4⟩ := hu n4 (Nat.le_refl _)
  simp (implicitDefEqProofs := false) (disch := omega) only [W2, opds, Nat.testBit, Nat.reduceAdd, Nat.reduceShiftRight, Nat.reduceAnd, Nat.reduceBNe, Nat.reduceMul, hd4, l1, l2, l3, l4, extr_mk, show ∀ k, belowV k (.tuple #[.agg #[.int .i64 0, .int .i64 0, .int .i64 0], .bool false]) = true from fun _ => rfl, s_callv, callv0, List.cons_append, List.nil_append]
  generalize hM5 : (AMem.put m4 n4 (some (Blk.cells [Value.int IntKind.i64 0, Value.int IntKind.i64 0, Value.int IntKind.i64 0] 0 false true)) : FM) = M5
  have l5 : ∀ b, b < n4 → M5 b = m4 b := fun b hb => by rw [← hM5, fput_ne _ _ _ _ (by omega)]
  generalize hM6 : (AMem.put M5 i.D _ : FM) = M6
  have l6 : ∀ b, b ≠ i.D → M6 b = M5 b := fun b hb => by rw [← hM6, fput_ne _ _ _ _ hb]
  have l7 : ∀ b, b < n2 → b ≠ i.D → b ≠ i.P → M6 b = m b := fun b hb k1 k2 => by rw [l6 b k1, l5 b (by omega), hf4 b hb, (hf2 b k2).1]
  have hD : Dsk i T O pb M6 (n4 + 1) xs c := ⟨h.cc.keepX (by omega) fun b hb k1 k2 _ _ => l7 b hb k2 k1, ⟨s0, s1, s2, s3, _, by rw [← hM6]; exact fput_same _ _ _⟩, lf, by rw [l6 _ (by omega), l5 _ (by omega), hf4 _ (by omega)]; exact hp2⟩
  refine use_rt (hcall M6 (n4 + 1) (by omega) hD fun b hb k1 k2 => l7 b hb k2 k1) fun r7 m7 n7 r8 w7 hh => ?_
  have ho7 := hone _ _ _ _ hh
  simp (implicitDefEqProofs := false) (disch := omega) only [W2, opds, Nat.testBit, Nat.reduceAdd, Nat.reduceShiftRight, Nat.reduceAnd, Nat.reduceBNe, Nat.reduceMul, ho7]
  refine hQ _ _ _ _ _ ?_ ⟨_, w7, rfl, fun b hb hk => ?_, hh⟩
  · simp only [lor_test, ht]; simp
  · simp only [lor_test, (hf2 b (show b ≠ i.P by omega)).2, mod_bit (hw4 n2 (Nat.le_refl _)) b hb, bit_ne (show b ≠ n4 by omega), bit_ne (show b ≠ i.D by omega)]; rfl
end Go.Am.CS
