/- The machine and its runs, part 10: An13h An13i An13j An13m An13c An13d An13k An13n An13o An13q AnMapW An13v. -/
import Derived.Lib.SplitLaws
import Derived.Test.YtleikndkannffaaDoorB9
set_option linter.unusedVariables false
set_option linter.unusedSimpArgs false
set_option linter.unusedSectionVars false
namespace Go.Am.C13
open Go Go.Am Go.Am.V
variable {E : Nat → Option AFn} {Y : Nat → List Value → FM → Nat → OR FM}
theorem chg_spec {P : Program} {m : FM} {n : Nat} {f : Nat} {fn : AFn} {args : List Value} {R : Value → FM → Nat → Nat → Prop} (hE : E f = some fn) (ha : llen args = fn.na) (h : ∀ Q : AX → List Value → FM → Nat → Nat → Prop, (∀ v e m' n' w, (addrFree v = true → Nat.mod w (bit n) = 0 → R v m n 0) → (¬ (addrFree v = true ∧ Nat.mod w (bit n) = 0) → R v m' n' w) → Q (.ret v) e m' n' w) → Wr P E Y [] 0 (execW P E Y fn.code args m n) Q) : Rt (callW P E Y f args m n) R := by
  rw [callW_fn hE ha]
  obtain ⟨X, e', m', n', r, w, hx, v, rfl, h1, h2⟩ := Gv_some (wr_start (h (fun X _ m' n' w => ∃ v, X = .ret v ∧ (addrFree v = true → Nat.mod w (bit n) = 0 → R v m n 0) ∧ (¬ (addrFree v = true ∧ Nat.mod w (bit n) = 0) → R v m' n' w)) fun v _ m' n' w k1 k2 => ⟨v, rfl, k1, k2⟩))
  rw [hx, leave_ret]
  by_cases hc : addrFree v = true ∧ Nat.mod w (bit n) = 0
  · rw [leaveA_free hc.1 hc.2]; exact h1 hc.1 hc.2
  · have : leaveA m n v m' n' r w = .ok v m' n' r w := by
      unfold leaveA
      have hb : (addrFree v && Nat.beq (Nat.mod w (bit n)) 0) = false := by
        cases h3 : addrFree v
        · rfl
        · cases h4 : Nat.beq (Nat.mod w (bit n)) 0
          · rfl
          · exact absurd ⟨h3, Nat.eq_of_beq_eq_true h4⟩ hc
      rw [hb]; rfl
    rw [this]; exact h2 hc
theorem ex0 (a b c : Value) : extrV 0 (.tuple #[a, b, c]) = some a := rfl
theorem ex1 (a b c : Value) : extrV 1 (.tuple #[a, b, c]) = some b := rfl
theorem ex2 (a b c : Value) : extrV 2 (.tuple #[a, b, c]) = some c := rfl
theorem ey0 (a b : Value) : extrV 0 (.tuple #[a, b]) = some a := rfl
theorem ey1 (a b : Value) : extrV 1 (.tuple #[a, b]) = some b := rfl
def cutL (s sep : ByteArray) : ByteArray := ⟨(Lib.cut s.data.toList sep.data.toList).1.toArray⟩
def cutR (s sep : ByteArray) : ByteArray := ⟨(Lib.cut s.data.toList sep.data.toList).2.1.toArray⟩
def cutF (s sep : ByteArray) : Bool := (Lib.cut s.data.toList sep.data.toList).2.2
theorem word_spec (L : LibY E Y) (hE : E 26 = some ac26) {M : FM} {N rb ob : Nat} {s sep : ByteArray} {ok : Bool} (hrb : rb < N) (hob : ob < N) (hne : rb ≠ ob) (hr : M rb = some (.cells [.string s] 0 false true)) (ho : M ob = some (.cells [.bool ok] 0 false true)) (hs : s.size < 4294967281) :
    Rt (callW PG E Y 26 [.string sep, .pointer (some ⟨rb, 0, none⟩), .pointer (some ⟨ob, 0, none⟩)] M N) fun v M' N' w => v = .string (cutL s sep) ∧ N ≤ N' ∧ M' rb = some (.cells [.string (cutR s sep)] 0 false true) ∧ M' ob = some (.cells [.bool (ok && cutF s sep)] 0 false true) ∧ (∀ b, b < N → b ≠ rb → b ≠ ob → M' b = M b) ∧ ∀ j, j ≤ rb → j ≤ ob → Nat.mod w (bit j) = 0 := by
  refine chg_spec hE rfl fun Q hQ => ?_
  obtain ⟨rc, hc⟩ := L.cut M N s sep hs
  have hL : (⟨(Lib.cut s.data.toList sep.data.toList).1.toArray⟩ : ByteArray) = cutL s sep := rfl
  have hR : (⟨(Lib.cut s.data.toList sep.data.toList).2.1.toArray⟩ : ByteArray) = cutR s sep := rfl
  have hF : (Lib.cut s.data.toList sep.data.toList).2.2 = cutF s sep := rfl
  rw [hL, hR, hF] at hc
  simp only [ac26]
  cases ok with
  | true =>
    simp (implicitDefEqProofs := false) (disch := omega) only [WPs, opds, List.all_cons, List.all_nil, List.cons_append, List.nil_append, cond_true, cond_false, eq_self, List.map_cons, List.map_nil, Nat.reduceAdd, Nat.testBit, Nat.reduceShiftRight, Nat.reduceAnd, Nat.reduceBNe, Nat.reduceMul, hr, ho, hc, ex0, ex1, ex2]
    have hno : ¬ Nat.mod (Nat.lor (bit ob) (bit rb)) (bit N) = 0 := fun hw => by
      have := mod_bit hw rb hrb
      rw [lor_test, bit_test, bit_test] at this
      simp at this
    exact hQ _ _ _ _ _ (fun _ hw => absurd hw hno) (fun _ => ⟨rfl, Nat.le_refl _, fput_same _ _ _, by rw [fput_ne _ _ _ _ (fun e => hne e.symm), fput_same]; rfl, fun b hb h1 h2 => by rw [fput_ne _ _ _ _ h1, fput_ne _ _ _ _ h2], fun j h1 h2 => by simp only [frz_iff]; exact ⟨frz_bit h2, frz_bit h1⟩⟩)
  | false =>
    simp (implicitDefEqProofs := false) (disch := omega) only [WPs, opds, List.all_cons, List.all_nil, List.cons_append, List.nil_append, cond_true, cond_false, eq_self, List.map_cons, List.map_nil, Nat.reduceAdd, Nat.testBit, Nat.reduceShiftRight, Nat.reduceAnd, Nat.reduceBNe, Nat.reduceMul, hr, ho, hc, ex0, ex1, ex2]
    have hno : ¬ Nat.mod (Nat.lor (bit ob) (bit rb)) (bit N) = 0 := fun hw => by
      have := mod_bit hw rb hrb
      rw [lor_test, bit_test, bit_test] at this
      simp at this
    exact hQ _ _ _ _ _ (fun _ hw => absurd hw hno) (fun _ => ⟨rfl, Nat.le_refl _, fput_same _ _ _, by rw [fput_ne _ _ _ _ (fun e => hne e.symm), fput_same]; rfl, fun b hb h1 h2 => by rw [fput_ne _ _ _ _ h1, fput_ne _ _ _ _ h2], fun j h1 h2 => by simp only [frz_iff]; exact ⟨frz_bit h2, frz_bit h1⟩⟩)
theorem itoaB_eq (z : Int) (s : ByteArray) : decide (itoaB z = s) = decide (Lib.itoa z = s.data.toList) := decide_eq_decide.2 ⟨fun h => by rw [← h]; rfl, fun h => str_ext h⟩
theorem isn_opq : purV PG (.isn .eql 49) [.iface 0 .nilIface] = some (.bool false) := by kernel_rfl
theorem number_spec (L : LibY E Y) (hE : E 28 = some ac28) {M : FM} {N ob : Nat} {s : ByteArray} {l : Txt.Bs} {ok : Bool} (hob : ob < N) (ho : M ob = some (.cells [.bool ok] 0 false true)) (hs : s.size < 4294967281) (hl : s.data.toList = l) :
    Rt (callW PG E Y 28 [.string s, .pointer (some ⟨ob, 0, none⟩)] M N) fun v M' N' w => v = .int .i64 (numV l) ∧ N ≤ N' ∧ M' ob = some (.cells [.bool (ok && numOk l)] 0 false true) ∧ (∀ b, b < N → b ≠ ob → M' b = M b) ∧ ∀ j, j ≤ ob → Nat.mod w (bit j) = 0 := by
  subst hl
  refine chg_spec hE rfl fun Q hQ => ?_
  obtain ⟨rc, hc⟩ := L.atoi M N s hs
  have hn : purV PG (.isn .eql 49) [.nilIface] = some (.bool true) := by kernel_rfl
  have hno : ¬ Nat.mod (bit ob) (bit N) = 0 := fun hw => by
    have := mod_bit hw ob hob
    rw [bit_test] at this
    simp at this
  unfold atoiR at hc
  cases hz : Lib.atoiAll s.data.toList
  · rename_i z
    rw [hz] at hc
    simp only at hc
    obtain ⟨h0, h1⟩ := Lib.atoiAll_bounds hz
    have e1 : numV s.data.toList = z := by rw [numV, hz]
    have e2 : numOk s.data.toList = decide (Lib.itoa z = s.data.toList) := by rw [numOk, hz]
    rw [e1, e2] at hQ
    simp only [ac28]
    cases ok with
    | true =>
      simp (implicitDefEqProofs := false) (disch := omega) only [WPs, opds, List.all_cons, List.all_nil, List.cons_append, List.nil_append, cond_true, cond_false, eq_self, List.map_cons, List.map_nil, Nat.reduceAdd, Nat.testBit, Nat.reduceShiftRight, Nat.reduceAnd, Nat.reduceBNe, Nat.reduceMul, ho, hc, ey0, ey1, t_pur, hn]
      refine use_pure (L.itoa _ _ z h0 h1) fun _ => ?_
      simp (implicitDefEqProofs := false) (disch := omega) only [WPs, opds, List.all_cons, List.all_nil, List.cons_append, List.nil_append, cond_true, cond_false, eq_self, List.map_cons, List.map_nil, Nat.reduceAdd, Nat.testBit, Nat.reduceShiftRight, Nat.reduceAnd, Nat.reduceBNe, Nat.reduceMul, eql_str, ho]
      exact hQ _ _ _ _ _ (fun _ hw => absurd hw hno) (fun _ => ⟨rfl, Nat.le_refl _, by rw [fput_same, itoaB_eq]; rfl, fun b hb h1 => fput_ne _ _ _ _ h1, fun j h1 => frz_bit h1⟩)
    | false =>
      simp (implicitDefEqProofs := false) (disch := omega) only [WPs, opds, List.all_cons, List.all_nil, List.cons_append, List.nil_append, cond_true, cond_false, eq_self, List.map_cons, List.map_nil, Nat.reduceAdd, Nat.testBit, Nat.reduceShiftRight, Nat.reduceAnd, Nat.reduceBNe, Nat.reduceMul, ho, hc, ey0, ey1, t_pur, hn]
      exact hQ _ _ _ _ _ (fun _ hw => absurd hw hno) (fun _ => ⟨rfl, Nat.le_refl _, by rw [fput_same]; rfl, fun b hb h1 => fput_ne _ _ _ _ h1, fun j h1 => frz_bit h1⟩)
  · rw [hz] at hc
    simp only at hc
    have e1 : numV s.data.toList = 0 := by rw [numV, hz]
    have e2 : numOk s.data.toList = false := by rw [numOk, hz]
    rw [e1, e2] at hQ
    simp only [ac28]
    cases ok with
    | true =>
      simp (implicitDefEqProofs := false) (disch := omega) only [WPs, opds, List.all_cons, List.all_nil, List.cons_append, List.nil_append, cond_true, cond_false, eq_self, List.map_cons, List.map_nil, Nat.reduceAdd, Nat.testBit, Nat.reduceShiftRight, Nat.reduceAnd, Nat.reduceBNe, Nat.reduceMul, ho, hc, ey0, ey1, t_pur, isn_opq]
      exact hQ _ _ _ _ _ (fun _ hw => absurd hw hno) (fun _ => ⟨rfl, Nat.le_refl _, by rw [fput_same]; rfl, fun b hb h1 => fput_ne _ _ _ _ h1, fun j h1 => frz_bit h1⟩)
    | false =>
      simp (implicitDefEqProofs := false) (disch := omega) only [WPs, opds, List.all_cons, List.all_nil, List.cons_append, List.nil_append, cond_true, cond_false, eq_self, List.map_cons, List.map_nil, Nat.reduceAdd, Nat.testBit, Nat.reduceShiftRight, Nat.reduceAnd, Nat.reduceBNe, Nat.reduceMul, ho, hc, ey0, ey1, t_pur, isn_opq]
      exact hQ _ _ _ _ _ (fun _ hw => absurd hw hno) (fun _ => ⟨rfl, Nat.le_refl _, by rw [fput_same]; rfl, fun b hb h1 => fput_ne _ _ _ _ h1, fun j h1 => frz_bit h1⟩)
  · rw [hz] at hc
    simp only at hc
    have e1 : numV s.data.toList = Lib.atoiSat s.data.toList := by rw [numV, hz]
    have e2 : numOk s.data.toList = false := by rw [numOk, hz]
    rw [e1, e2] at hQ
    simp only [ac28]
    cases ok with
    | true =>
      simp (implicitDefEqProofs := false) (disch := omega) only [WPs, opds, List.all_cons, List.all_nil, List.cons_append, List.nil_append, cond_true, cond_false, eq_self, List.map_cons, List.map_nil, Nat.reduceAdd, Nat.testBit, Nat.reduceShiftRight, Nat.reduceAnd, Nat.reduceBNe, Nat.reduceMul, ho, hc, ey0, ey1, t_pur, isn_opq]
      exact hQ _ _ _ _ _ (fun _ hw => absurd hw hno) (fun _ => ⟨rfl, Nat.le_refl _, by rw [fput_same]; rfl, fun b hb h1 => fput_ne _ _ _ _ h1, fun j h1 => frz_bit h1⟩)
    | false =>
      simp (implicitDefEqProofs := false) (disch := omega) only [WPs, opds, List.all_cons, List.all_nil, List.cons_append, List.nil_append, cond_true, cond_false, eq_self, List.map_cons, List.map_nil, Nat.reduceAdd, Nat.testBit, Nat.reduceShiftRight, Nat.reduceAnd, Nat.reduceBNe, Nat.reduceMul, ho, hc, ey0, ey1, t_pur, isn_opq]
      exact hQ _ _ _ _ _ (fun _ hw => absurd hw hno) (fun _ => ⟨rfl, Nat.le_refl _, by rw [fput_same]; rfl, fun b hb h1 => fput_ne _ _ _ _ h1, fun j h1 => frz_bit h1⟩)
end Go.Am.C13
namespace Go.Am.C13
open Go Go.Am Go.Am.V
variable {E : Nat → Option AFn} {Y : Nat → List Value → FM → Nat → OR FM}
def kindTo (nm : ByteArray) : Nat → Int
  | 0 => 0
  | k + 1 => if 0 < k ∧ W8.getD k ⟨#[]⟩ = nm then (k : Int) else kindTo nm k
theorem w8_at {k : Nat} (h : k < 8) : purV PG (.ind 8) [.agg (W8.map Value.string).toArray, .int .i64 (k : Int)] = some (.string (W8.getD k ⟨#[]⟩)) := by
  rcases (by omega : k = 0 ∨ k = 1 ∨ k = 2 ∨ k = 3 ∨ k = 4 ∨ k = 5 ∨ k = 6 ∨ k = 7) with rfl | rfl | rfl | rfl | rfl | rfl | rfl | rfl <;> rfl
theorem kind_L0 {M0 : FM} {N fb : Nat} {nm : ByteArray} {a t : Int} (hfb : fb < N) (ys : List Value) {Q : AX → List Value → FM → Nat → Nat → Prop}
    (hQ : ∀ M w, M fb = some (.cells [.int .i64 a, .int .i64 (kindTo nm 8), .int .i64 t] 0 false true) → (∀ b, b ≠ fb → M b = M0 b) → (∀ j, j ≤ fb → Nat.mod w (bit j) = 0) → ∀ x0 x1, Q (.exit 2) (x0 :: x1 :: .agg (W8.map Value.string).toArray :: .string nm :: .pointer (some ⟨fb, 0, none⟩) :: ys) M N w) :
    ∀ d k, k + d = 8 → ∀ (M : FM) (w0 : Nat) (x1 : Value), M fb = some (.cells [.int .i64 a, .int .i64 (kindTo nm k), .int .i64 t] 0 false true) → (∀ b, b ≠ fb → M b = M0 b) → (∀ j, j ≤ fb → Nat.mod w0 (bit j) = 0) →
    Gv (execW PG E Y ac14L0 (.int .i64 (k : Int) :: x1 :: .agg (W8.map Value.string).toArray :: .string nm :: .pointer (some ⟨fb, 0, none⟩) :: ys) M N) fun X e m n w => Q X e m n (Nat.lor w0 w) := by
  intro d
  induction d with
  | zero =>
    intro k hk M w0 x1 hM hMb hw
    obtain rfl : k = 8 := by omega
    refine wr_loopN (L := ac14L0) (b := ac14L0b) rfl ?_
    simp only [ac14L0b]
    simp (implicitDefEqProofs := false) (disch := omega) only [WPs, opds, List.all_cons, List.all_nil, List.cons_append, List.nil_append, cond_true, cond_false, eq_self, List.map_cons, List.map_nil, Nat.reduceAdd, Nat.testBit, Nat.reduceShiftRight, Nat.reduceAnd, Nat.reduceBNe, Nat.reduceMul]
    exact hQ _ _ hM hMb hw _ _
  | succ d ih =>
    intro k hk M w0 x1 hM hMb hw
    have hk8 := w8_at (k := k) (by omega)
    refine wr_loopN (L := ac14L0) (b := ac14L0b) rfl ?_
    simp only [ac14L0b]
    by_cases h0 : 0 < k
    · by_cases he : W8.getD k ⟨#[]⟩ = nm
      · have hkt : kindTo nm (k + 1) = (k : Int) := by rw [kindTo, if_pos ⟨h0, he⟩]
        simp (implicitDefEqProofs := false) (disch := omega) only [WPs, opds, List.all_cons, List.all_nil, List.cons_append, List.nil_append, cond_true, cond_false, eq_self, List.map_cons, List.map_nil, Nat.reduceAdd, Nat.testBit, Nat.reduceShiftRight, Nat.reduceAnd, Nat.reduceBNe, Nat.reduceMul, t_pur, hk8, eql_str, decide_eq_true he, hM, decide_eq_true (show (0 : Int) < (k : Int) by omega)]
        refine wr_end (ih (k + 1) (by omega) _ (Nat.lor w0 (bit fb)) _ (by rw [fput_same, hkt]) (fun b hb => by rw [fput_ne _ _ _ _ hb]; exact hMb b hb) (fun j hj => by simp only [frz_iff]; exact ⟨hw j hj, frz_bit hj⟩)) fun X e m n w hq => ?_
        rw [← lor_assoc']; exact hq
      · have hkt : kindTo nm (k + 1) = kindTo nm k := by rw [kindTo, if_neg fun h => he h.2]
        simp (implicitDefEqProofs := false) (disch := omega) only [WPs, opds, List.all_cons, List.all_nil, List.cons_append, List.nil_append, cond_true, cond_false, eq_self, List.map_cons, List.map_nil, Nat.reduceAdd, Nat.testBit, Nat.reduceShiftRight, Nat.reduceAnd, Nat.reduceBNe, Nat.reduceMul, t_pur, hk8, eql_str, decide_eq_false he, decide_eq_true (show (0 : Int) < (k : Int) by omega)]
        exact wr_end (ih (k + 1) (by omega) M w0 _ (by rw [hkt]; exact hM) hMb hw) fun X e m n w hq => by simpa only [zero_lor'] using hq
    · have hkt : kindTo nm (k + 1) = kindTo nm k := by rw [kindTo, if_neg fun h => h0 h.1]
      simp (implicitDefEqProofs := false) (disch := omega) only [WPs, opds, List.all_cons, List.all_nil, List.cons_append, List.nil_append, cond_true, cond_false, eq_self, List.map_cons, List.map_nil, Nat.reduceAdd, Nat.testBit, Nat.reduceShiftRight, Nat.reduceAnd, Nat.reduceBNe, Nat.reduceMul, t_pur, hk8, decide_eq_false (show ¬ (0 : Int) < (k : Int) by omega)]
      exact wr_end (ih (k + 1) (by omega) M w0 _ (by rw [hkt]; exact hM) hMb hw) fun X e m n w hq => by simpa only [zero_lor'] using hq
end Go.Am.C13
namespace Go.Am.C13
open Go Go.Am Go.Am.V
variable {E : Nat → Option AFn} {Y : Nat → List Value → FM → Nat → OR FM}
def sp1 : ByteArray := ⟨#[32]⟩
def to4 : ByteArray := ⟨#[32, 116, 111, 32]⟩
def kindB (p : ByteArray) : Int := kindTo (cutL p sp1) 8
theorem kind_list (nm : ByteArray) : ∀ k : Nat, k ≤ 8 → kindTo nm k = kindL nm.data.toList k
  | 0, _ => rfl
  | k + 1, hk => by
    have ih := kind_list nm k (by omega)
    have e : (W8.getD k ⟨#[]⟩).data.toList = W8L.getD k [] := by
      rcases (by omega : k = 0 ∨ k = 1 ∨ k = 2 ∨ k = 3 ∨ k = 4 ∨ k = 5 ∨ k = 6 ∨ k = 7) with rfl | rfl | rfl | rfl | rfl | rfl | rfl | rfl <;> rfl
    unfold kindTo kindL
    rw [ih, ← e]
    have h : (W8.getD k ⟨#[]⟩ = nm) ↔ ((W8.getD k ⟨#[]⟩).data.toList = nm.data.toList) := ⟨fun h => by rw [h], fun h => str_ext h⟩
    by_cases h1 : 0 < k ∧ W8.getD k ⟨#[]⟩ = nm
    · rw [if_pos h1, if_pos ⟨h1.1, h.1 h1.2⟩]
    · rw [if_neg h1, if_neg fun h2 => h1 ⟨h2.1, h.2 h2.2⟩]
theorem kindB_list (p : ByteArray) : kindB p = kindP p.data.toList := kind_list _ 8 (by omega)
theorem cut_size (s sep : ByteArray) : (cutL s sep).size ≤ s.size ∧ (cutR s sep).size ≤ s.size := by
  have h1 : (Lib.cut s.data.toList sep.data.toList).1.length ≤ s.data.toList.length := by
    unfold Lib.cut
    split
    · rw [List.length_take]; omega
    · exact Nat.le_refl _
  have h2 : (Lib.cut s.data.toList sep.data.toList).2.1.length ≤ s.data.toList.length := by
    unfold Lib.cut
    split
    · show (List.drop _ _).length ≤ _
      rw [List.length_drop]; omega
    · exact Nat.zero_le _
  rw [Array.length_toList] at h1 h2
  constructor
  · show (Lib.cut s.data.toList sep.data.toList).1.toArray.size ≤ s.data.size
    rw [List.size_toArray]; exact h1
  · show (Lib.cut s.data.toList sep.data.toList).2.1.toArray.size ≤ s.data.size
    rw [List.size_toArray]; exact h2
theorem parse_L1 (L : LibY E Y) (hWd : E 26 = some ac26) (hNm : E 28 = some ac28) (hW : E 22 = some ac22) (hA : E 21 = some ac21) {m : FM} {n : Nat} {ps : List ByteArray} {fs : List Flt} {bs : List Bool} (hlp : ps.length ≤ 2000000) (hlf : fs.length = ps.length) (hlb : bs.length = ps.length)
    (hsz : ∀ p ∈ ps, p.size < 1000000000) (hP : ∀ i (h : i < ps.length), fs[i]'(by omega) = partF ps[i].data.toList ∧ bs[i]'(by omega) = partOk ps[i].data.toList) (x5 x10 x11 x12 x13 : Value) {Q : AX → List Value → FM → Nat → Nat → Prop}
    (hQ : ∀ ov M N' w, n + 3 ≤ N' → (∀ b, b < n → M b = m b) → M (n + 1) = some (.cells [.bool (bs.all id)] 0 false true) → FlZ M (n + 3) N' ov fs → (∀ j, j ≤ n → Nat.mod w (bit j) = 0) → ∀ x2, Q (.exit 0) [ov, x2, .int .i64 (ps.length : Int), .slice (some ⟨n + 2, 0, none⟩) ps.length ps.length, x5, .func (.func 28) #[] #[.pointer (some ⟨n + 1, 0, none⟩)], .func (.func 26) #[] #[.pointer (some ⟨n, 0, none⟩), .pointer (some ⟨n + 1, 0, none⟩)], .pointer (some ⟨n + 1, 0, none⟩), .pointer (some ⟨n, 0, none⟩), x10, x11, x12, x13] M N' w) :
    ∀ d j, j + d = ps.length → ∀ (M : FM) (N' w0 : Nat) (ov x2 : Value) (s : ByteArray), n + 3 ≤ N' → (∀ b, b < n → M b = m b) → M n = some (.cells [.string s] 0 false true) → M (n + 1) = some (.cells [.bool ((bs.take j).all id)] 0 false true) → M (n + 2) = some (.cells (ps.map Value.string) 1 false true) → FlZ M (n + 3) N' ov (fs.take j) → (∀ j, j ≤ n → Nat.mod w0 (bit j) = 0) →
    Gv (execW PG E Y ac14L1 [ov, .int .i64 (j : Int), x2, .int .i64 (ps.length : Int), .slice (some ⟨n + 2, 0, none⟩) ps.length ps.length, x5, .func (.func 28) #[] #[.pointer (some ⟨n + 1, 0, none⟩)], .func (.func 26) #[] #[.pointer (some ⟨n, 0, none⟩), .pointer (some ⟨n + 1, 0, none⟩)], .pointer (some ⟨n + 1, 0, none⟩), .pointer (some ⟨n, 0, none⟩), x10, x11, x12, x13] M N') fun X e m n w => Q X e m n (Nat.lor w0 w) := by
  intro d
  induction d with
  | zero =>
    intro j hj M N' w0 ov x2 s hN hM hr ho hp hZ hw
    obtain rfl : j = ps.length := by omega
    rw [List.take_of_length_le (by omega)] at hZ ho
    refine wr_loopN (L := ac14L1) (b := ac14L1b) rfl ?_
    simp only [ac14L1b]
    simp (implicitDefEqProofs := false) (disch := omega) only [WPs, opds, List.all_cons, List.all_nil, List.cons_append, List.nil_append, cond_true, cond_false, eq_self, List.map_cons, List.map_nil, Nat.reduceAdd, Nat.testBit, Nat.reduceShiftRight, Nat.reduceAnd, Nat.reduceBNe, Nat.reduceMul]
    exact hQ _ _ _ _ hN hM ho hZ hw _
  | succ d ih =>
    intro j hj M N' w0 ov x2 s hN hM hr ho hp hZ hw
    have hjl : j < ps.length := by omega
    have hPj := hP j hjl
    have hsj := hsz ps[j] (List.getElem_mem hjl)
    have ih' := ih (j + 1) (by omega)
    have hat : cget (ps.map Value.string) j = some (.string ps[j]) := by rw [cget_eq, List.getElem?_map, List.getElem?_eq_getElem hjl]; rfl
    refine wr_loopN (L := ac14L1) (b := ac14L1b) rfl ?_
    simp only [ac14L1b]
    have hft : fs.take (j + 1) = fs.take j ++ [fs[j]'(by omega)] := by rw [List.take_add_one, List.getElem?_eq_getElem (by omega), Option.toList_some]
    have hbt : (bs.take (j + 1)).all id = ((bs.take j).all id && bs[j]'(by omega)) := by rw [List.take_add_one, List.getElem?_eq_getElem (by omega), Option.toList_some, List.all_append]; simp
    rw [hft, hbt] at ih'
    generalize fs[j]'(by omega) = f at hPj ih'
    generalize bs[j]'(by omega) = bj at hPj ih'
    generalize ps[j] = p at hPj hsj hat
    simp (implicitDefEqProofs := false) (disch := omega) only [WPs, opds, List.all_cons, List.all_nil, List.cons_append, List.nil_append, cond_true, cond_false, eq_self, List.map_cons, List.map_nil, Nat.reduceAdd, Nat.testBit, Nat.reduceShiftRight, Nat.reduceAnd, Nat.reduceBNe, Nat.reduceMul, hp, hat, hr, s_callv, callv_mk]
    generalize hM1 : (AMem.put (AMem.put M n (some (.cells [.string p] 0 false true))) N' (some (.cells [.int .i64 0, .int .i64 0, .int .i64 0] 0 false true)) : FM) = M1
    have m1 : ∀ b, b < N' → b ≠ n → M1 b = M b := fun b hb hn => by rw [← hM1, fput_ne _ _ _ _ (by omega), fput_ne _ _ _ _ hn]
    have r1 : M1 n = some (.cells [.string p] 0 false true) := by rw [← hM1, fput_ne _ _ _ _ (by omega)]; exact fput_same _ _ _
    have o1 : M1 (n + 1) = some (.cells [.bool ((bs.take j).all id)] 0 false true) := by rw [m1 _ (by omega) (by omega)]; exact ho
    have b1 : M1 N' = some (.cells [.int .i64 0, .int .i64 0, .int .i64 0] 0 false true) := by rw [← hM1]; exact fput_same _ _ _
    generalize (bs.take j).all id = ok at o1 ih'
    refine use_rt (word_spec L hWd (s := p) (sep := ⟨#[32]⟩) (by omega : n < N' + 1) (by omega : n + 1 < N' + 1) (by omega) r1 o1 (by omega)) fun v M2 N2 rr2 w2 ⟨hv, n2, r2, o2, m2, f2⟩ => ?_
    subst hv
    have b2 : M2 N' = some (.cells [.int .i64 0, .int .i64 0, .int .i64 0] 0 false true) := by rw [m2 _ (by omega) (by omega) (by omega)]; exact b1
    simp (implicitDefEqProofs := false) (disch := omega) only [WPs, opds, List.all_cons, List.all_nil, List.cons_append, List.nil_append, cond_true, cond_false, eq_self, List.map_cons, List.map_nil, Nat.reduceAdd, Nat.testBit, Nat.reduceShiftRight, Nat.reduceAnd, Nat.reduceBNe, Nat.reduceMul]
    refine use_pure (words_spec hW _ _) fun _ => ?_
    simp (implicitDefEqProofs := false) (disch := omega) only [WPs, opds, List.all_cons, List.all_nil, List.cons_append, List.nil_append, cond_true, cond_false, eq_self, List.map_cons, List.map_nil, Nat.reduceAdd, Nat.testBit, Nat.reduceShiftRight, Nat.reduceAnd, Nat.reduceBNe, Nat.reduceMul]
    refine wr_kont (kind_L0 (M0 := M2) (N := N2) (fb := N') (nm := cutL p sp1) (a := 0) (t := 0) (by omega) _ (fun M3 w3 b3 m3 f3 x0 x1 rr3 => ?_) 8 0 (by omega) M2 0 _ b2 (fun _ _ => rfl) (fun _ _ => Nat.zero_mod _))
    have r3 : M3 n = some (.cells [.string (cutR p sp1)] 0 false true) := by rw [m3 _ (by omega)]; exact r2
    have o3 : M3 (n + 1) = some (.cells [.bool (ok && cutF p sp1)] 0 false true) := by rw [m3 _ (by omega)]; exact o2
    replace b3 : M3 N' = some (.cells [.int .i64 0, .int .i64 (kindB p), .int .i64 0] 0 false true) := b3
    simp (implicitDefEqProofs := false) (disch := omega) only [WPs, opds, List.all_cons, List.all_nil, List.cons_append, List.nil_append, cond_true, cond_false, eq_self, List.map_cons, List.map_nil, Nat.reduceAdd, Nat.testBit, Nat.reduceShiftRight, Nat.reduceAnd, Nat.reduceBNe, Nat.reduceMul, b3]
    refine use_pure (aims_spec hA _ _ _) fun _ => ?_
    have hzf : ∀ (M' : FM) (K : Nat), N' ≤ K → (∀ b, b < N' → b ≠ n → b ≠ n + 1 → M' b = M b) → FlZ M' (n + 3) K ov (fs.take j) := fun M' K hK hh => SlZ.frame hZ hK fun b h1 h2 => hh b h2 (by omega) (by omega)
    have q3 : ∀ b, b < N' → b ≠ n → b ≠ n + 1 → M3 b = M b := fun b h1 h2 h3 => by rw [m3 b (by omega), m2 b (by omega) h2 h3, m1 b h1 h2]
    have hcs := cut_size p sp1
    obtain ⟨hPf, hPb⟩ := hPj
    have hkl := kindB_list p
    cases hk : aimsB (kindB p) with
    | false =>
      obtain ⟨z, hz⟩ : ∃ z, numV (cutR p sp1).data.toList = z := ⟨_, rfl⟩
      have hk2 : ¬ aimL (kindP p.data.toList) = true := by rw [← hkl]; show ¬ aimsB (kindB p) = true; rw [hk]; decide
      obtain rfl : f = ⟨z, kindB p, 0⟩ := by rw [hPf, partF, if_neg hk2, hkl, ← hz]; rfl
      obtain rfl : bj = (cutF p sp1 && numOk (cutR p sp1).data.toList) := by rw [hPb, partOk, if_neg hk2]; rfl
      simp (implicitDefEqProofs := false) (disch := omega) only [WPs, opds, List.all_cons, List.all_nil, List.cons_append, List.nil_append, cond_true, cond_false, eq_self, List.map_cons, List.map_nil, Nat.reduceAdd, Nat.testBit, Nat.reduceShiftRight, Nat.reduceAnd, Nat.reduceBNe, Nat.reduceMul, r3, s_callv, callv_mk]
      refine use_rt (number_spec L hNm (s := cutR p sp1) (by omega : n + 1 < N2) o3 (by omega) rfl) fun v M4 N4 rr4 w4 ⟨hv, n4, o4, m4, f4⟩ => ?_
      rw [hz] at hv
      subst hv
      have b4 : M4 N' = some (.cells [.int .i64 0, .int .i64 (kindB p), .int .i64 0] 0 false true) := by rw [m4 _ (by omega) (by omega)]; exact b3
      simp (implicitDefEqProofs := false) (disch := omega) only [WPs, opds, List.all_cons, List.all_nil, List.cons_append, List.nil_append, cond_true, cond_false, eq_self, List.map_cons, List.map_nil, Nat.reduceAdd, Nat.testBit, Nat.reduceShiftRight, Nat.reduceAnd, Nat.reduceBNe, Nat.reduceMul, b4]
      refine use_rt (app_flZ (hzf _ (N4 + 1) (by omega) (fun b h1 h2 h3 => by rw [fput_ne _ _ _ _ (by omega), fput_ne _ _ _ _ (by omega), m4 b (by omega) h3, q3 b h1 h2 h3])) ⟨z, kindB p, 0⟩ _ _ _ (by omega) (by rw [List.length_take]; omega)) fun v5 M5 N5 r5 w5 ⟨e5, z5, low5, fr5⟩ => ?_
      subst e5
      simp (implicitDefEqProofs := false) (disch := omega) only [WPs, opds, List.all_cons, List.all_nil, List.cons_append, List.nil_append, cond_true, cond_false, eq_self, List.map_cons, List.map_nil, Nat.reduceAdd, Nat.testBit, Nat.reduceShiftRight, Nat.reduceAnd, Nat.reduceBNe, Nat.reduceMul]
      have l5 : ∀ b, b < n + 3 → b ≠ n + 1 → M5 b = M3 b := fun b h1 h2 => by rw [low5 b h1, fput_ne _ _ _ _ (by omega), fput_ne _ _ _ _ (by omega), m4 b (by omega) h2]
      refine wr_end (ih' M5 (N4 + 2) (Nat.lor w0 (Nat.lor (Nat.lor (Nat.lor (Nat.lor (Nat.lor (bit n) (bit N')) w2) w3) (Nat.lor w4 (bit N'))) (Nat.lor (bit N4) w5))) v5 _ (cutR p sp1) (by omega) (fun b hb => by rw [l5 b (by omega) (by omega), q3 b (by omega) (by omega) (by omega), hM b hb]) (by rw [l5 n (by omega) (by omega)]; exact r3) (by rw [low5 _ (by omega), fput_ne _ _ _ _ (by omega), fput_ne _ _ _ _ (by omega), o4, Bool.and_assoc]) (by rw [l5 _ (by omega) (by omega), q3 _ (by omega) (by omega) (by omega)]; exact hp) z5 (fun i hi => ?_)) fun X e m n w hq => ?_
      · simp only [frz_iff]
        exact ⟨hw i hi, ⟨⟨⟨⟨frz_bit hi, frz_bit (by omega)⟩, f2 i hi (by omega)⟩, f3 i (by omega)⟩, f4 i (by omega), frz_bit (by omega)⟩, frz_bit (by omega), fr5 i (by omega)⟩
      · rw [← lor_assoc']; exact hq
    | true =>
      obtain ⟨z, hz⟩ : ∃ z, numV (cutL (cutR p sp1) to4).data.toList = z := ⟨_, rfl⟩
      obtain ⟨y, hy⟩ : ∃ y, numV (cutR (cutR p sp1) to4).data.toList = y := ⟨_, rfl⟩
      have hk2 : aimL (kindP p.data.toList) = true := by rw [← hkl]; exact hk
      obtain rfl : f = ⟨z, kindB p, y⟩ := by rw [hPf, partF, if_pos hk2, hkl, ← hz, ← hy]; rfl
      obtain rfl : bj = (((cutF p sp1 && cutF (cutR p sp1) to4) && numOk (cutL (cutR p sp1) to4).data.toList) && numOk (cutR (cutR p sp1) to4).data.toList) := by rw [hPb, partOk, if_pos hk2]; rfl
      simp (implicitDefEqProofs := false) (disch := omega) only [WPs, opds, List.all_cons, List.all_nil, List.cons_append, List.nil_append, cond_true, cond_false, eq_self, List.map_cons, List.map_nil, Nat.reduceAdd, Nat.testBit, Nat.reduceShiftRight, Nat.reduceAnd, Nat.reduceBNe, Nat.reduceMul, r3, s_callv, callv_mk]
      have hcs2 := cut_size (cutR p sp1) to4
      refine use_rt (word_spec L hWd (s := cutR p sp1) (sep := ⟨#[32, 116, 111, 32]⟩) (by omega : n < N2) (by omega : n + 1 < N2) (by omega) r3 o3 (by omega)) fun v M4 N4 rr4 w4 ⟨hv, n4, r4, o4, m4, f4⟩ => ?_
      subst hv
      have b4 : M4 N' = some (.cells [.int .i64 0, .int .i64 (kindB p), .int .i64 0] 0 false true) := by rw [m4 _ (by omega) (by omega) (by omega)]; exact b3
      simp (implicitDefEqProofs := false) (disch := omega) only [WPs, opds, List.all_cons, List.all_nil, List.cons_append, List.nil_append, cond_true, cond_false, eq_self, List.map_cons, List.map_nil, Nat.reduceAdd, Nat.testBit, Nat.reduceShiftRight, Nat.reduceAnd, Nat.reduceBNe, Nat.reduceMul, s_callv, callv_mk]
      refine use_rt (number_spec L hNm (s := cutL (cutR p sp1) to4) (by omega : n + 1 < N4) o4 (by omega) rfl) fun v M5 N5 rr5 w5 ⟨hv, n5, o5, m5, f5⟩ => ?_
      rw [hz] at hv
      subst hv
      have b5 : M5 N' = some (.cells [.int .i64 0, .int .i64 (kindB p), .int .i64 0] 0 false true) := by rw [m5 _ (by omega) (by omega)]; exact b4
      have r5 : M5 n = some (.cells [.string (cutR (cutR p sp1) to4)] 0 false true) := by rw [m5 _ (by omega) (by omega)]; exact r4
      simp (implicitDefEqProofs := false) (disch := omega) only [WPs, opds, List.all_cons, List.all_nil, List.cons_append, List.nil_append, cond_true, cond_false, eq_self, List.map_cons, List.map_nil, Nat.reduceAdd, Nat.testBit, Nat.reduceShiftRight, Nat.reduceAnd, Nat.reduceBNe, Nat.reduceMul, b5, r5, s_callv, callv_mk]
      generalize hM5 : (AMem.put M5 N' (some (.cells [.int .i64 z, .int .i64 (kindB p), .int .i64 0] 0 false true)) : FM) = M5'
      have p5 : ∀ b, b ≠ N' → M5' b = M5 b := fun b hb => by rw [← hM5]; exact fput_ne _ _ _ _ hb
      have o5' := o5
      rw [← p5 (n + 1) (by omega)] at o5'
      refine use_rt (number_spec L hNm (s := cutR (cutR p sp1) to4) (by omega : n + 1 < N5) o5' (by omega) rfl) fun v M6 N6 rr6 w6 ⟨hv, n6, o6, m6, f6⟩ => ?_
      rw [hy] at hv
      subst hv
      have b6 : M6 N' = some (.cells [.int .i64 z, .int .i64 (kindB p), .int .i64 0] 0 false true) := by rw [m6 _ (by omega) (by omega), ← hM5]; exact fput_same _ _ _
      simp (implicitDefEqProofs := false) (disch := omega) only [WPs, opds, List.all_cons, List.all_nil, List.cons_append, List.nil_append, cond_true, cond_false, eq_self, List.map_cons, List.map_nil, Nat.reduceAdd, Nat.testBit, Nat.reduceShiftRight, Nat.reduceAnd, Nat.reduceBNe, Nat.reduceMul, b6]
      have q6 : ∀ b, b < N' → b ≠ n → b ≠ n + 1 → M6 b = M b := fun b h1 h2 h3 => by rw [m6 b (by omega) h3, p5 b (by omega), m5 b (by omega) h3, m4 b (by omega) h2 h3, q3 b h1 h2 h3]
      refine use_rt (app_flZ (hzf _ (N6 + 1) (by omega) (fun b h1 h2 h3 => by rw [fput_ne _ _ _ _ (by omega), fput_ne _ _ _ _ (by omega), q6 b h1 h2 h3])) ⟨z, kindB p, y⟩ _ _ _ (by omega) (by rw [List.length_take]; omega)) fun v7 M7 N7 r7 w7 ⟨e7, z7, low7, fr7⟩ => ?_
      subst e7
      simp (implicitDefEqProofs := false) (disch := omega) only [WPs, opds, List.all_cons, List.all_nil, List.cons_append, List.nil_append, cond_true, cond_false, eq_self, List.map_cons, List.map_nil, Nat.reduceAdd, Nat.testBit, Nat.reduceShiftRight, Nat.reduceAnd, Nat.reduceBNe, Nat.reduceMul]
      have l7 : ∀ b, b < n + 3 → b ≠ n + 1 → M7 b = M4 b := fun b h1 h2 => by rw [low7 b h1, fput_ne _ _ _ _ (by omega), fput_ne _ _ _ _ (by omega), m6 b (by omega) h2, p5 b (by omega), m5 b (by omega) h2]
      refine wr_end (ih' M7 (N6 + 2) (Nat.lor w0 (Nat.lor (Nat.lor (Nat.lor (Nat.lor (Nat.lor (Nat.lor (bit n) (bit N')) w2) w3) (Nat.lor (Nat.lor w4 w5) (bit N'))) (Nat.lor w6 (bit N'))) (Nat.lor (bit N6) w7))) v7 _ (cutR (cutR p sp1) to4) (by omega) (fun b hb => by rw [l7 b (by omega) (by omega), m4 b (by omega) (by omega) (by omega), q3 b (by omega) (by omega) (by omega), hM b hb]) (by rw [l7 n (by omega) (by omega)]; exact r4) (by rw [low7 _ (by omega), fput_ne _ _ _ _ (by omega), fput_ne _ _ _ _ (by omega), o6]; simp only [Bool.and_assoc]; rfl) (by rw [l7 _ (by omega) (by omega), m4 _ (by omega) (by omega) (by omega), q3 _ (by omega) (by omega) (by omega)]; exact hp) z7 (fun i hi => ?_)) fun X e m n w hq => ?_
      · simp only [frz_iff]
        exact ⟨hw i hi, ⟨⟨⟨⟨⟨frz_bit hi, frz_bit (by omega)⟩, f2 i hi (by omega)⟩, f3 i (by omega)⟩, ⟨f4 i hi (by omega), f5 i (by omega)⟩, frz_bit (by omega)⟩, f6 i (by omega), frz_bit (by omega)⟩, frz_bit (by omega), fr7 i (by omega)⟩
      · rw [← lor_assoc']; exact hq
theorem parse_specP (L : LibY E Y) (hE : E 14 = some ac14) (hWd : E 26 = some ac26) (hNm : E 28 = some ac28) (hW : E 22 = some ac22) (hA : E 21 = some ac21) (hV : E 10 = some ac10) (m : FM) (n : Nat) {t : ByteArray} {fs : List Flt} {bs : List Bool} (ht : t ≠ ⟨#[]⟩) (hts : t.size < 1000000000) (hc : Lib.countB t semi < 2000000) (hlen : (splitL t semi).length = Lib.countB t semi + 1) (hlf : fs.length = (splitL t semi).length) (hlb : bs.length = (splitL t semi).length)
    (hsz : ∀ p ∈ splitL t semi, p.size < 1000000000) (hP : ∀ i (h : i < (splitL t semi).length), fs[i]'(by omega) = partF (splitL t semi)[i].data.toList ∧ bs[i]'(by omega) = partOk (splitL t semi)[i].data.toList) :
    Rt (callW PG E Y 14 [.string t] m n) fun v M' N' w => n ≤ N' ∧ (∀ b, b < n → M' b = m b) ∧ (∀ j, j ≤ n → Nat.mod w (bit j) = 0) ∧ ∃ lv, v = .tuple #[lv, .int .i64 (if (bs.all id && validB fs) = true then 0 else 4)] ∧ FlZ M' n N' lv (if (bs.all id && validB fs) = true then fs else []) := by
  obtain ⟨rs, hspl⟩ := L.split (AMem.put (AMem.put (AMem.put (AMem.put m n (some (.cells [.string ⟨#[]⟩] 0 false true))) (n + 1) (some (.cells [.bool false] 0 false true))) n (some (.cells [.string t] 0 false true))) (n + 1) (some (.cells [.bool true] 0 false true))) (n + 2) t semi (by omega) (by decide) (by omega)
  refine kept_specA (R := fun v M' N' => ∃ lv, v = .tuple #[lv, .int .i64 (if (bs.all id && validB fs) = true then 0 else 4)] ∧ FlZ M' n N' lv (if (bs.all id && validB fs) = true then fs else [])) hE rfl fun Q hQ => ?_
  simp only [ac14]
  have hspl2 := hspl
  simp only [semi] at hspl2
  simp (implicitDefEqProofs := false) (disch := omega) only [WPs, opds, List.all_cons, List.all_nil, List.cons_append, List.nil_append, cond_true, cond_false, eq_self, List.map_cons, List.map_nil, Nat.reduceAdd, Nat.testBit, Nat.reduceShiftRight, Nat.reduceAnd, Nat.reduceBNe, Nat.reduceMul, eql_str, decide_eq_false ht, s_func, hspl2]
  have hsz' : ∀ b, b < n → (AMem.put (AMem.put (AMem.put (AMem.put (AMem.put m n (some (.cells [.string ⟨#[]⟩] 0 false true))) (n + 1) (some (.cells [.bool false] 0 false true))) n (some (.cells [.string t] 0 false true))) (n + 1) (some (.cells [.bool true] 0 false true))) (n + 2) (some (.cells ((splitL t semi).map Value.string) 1 false true)) : FM) b = m b := fun b hb => by
    rw [fput_ne _ _ _ _ (by omega), fput_ne _ _ _ _ (by omega), fput_ne _ _ _ _ (by omega), fput_ne _ _ _ _ (by omega), fput_ne _ _ _ _ (by omega)]
  have hcl : Lib.countB t ⟨#[59, 32]⟩ + 1 = (splitL t semi).length := hlen.symm
  rw [hcl]
  refine wr_kont (parse_L1 L hWd hNm hW hA (m := m) (n := n) (ps := splitL t semi) (fs := fs) (bs := bs) (by omega) hlf hlb hsz hP _ _ _ _ _ (fun ov M N' w hN hM ho hZ hw x2 rr => ?_) (splitL t semi).length 0 (by omega) _ (n + 3) 0 _ _ t (Nat.le_refl _) hsz' (by rw [fput_ne _ _ _ _ (by omega), fput_ne _ _ _ _ (by omega)]; exact fput_same _ _ _) (by rw [fput_ne _ _ _ _ (by omega)]; exact fput_same _ _ _) (fput_same _ _ _) (FlZ.nil _ _ _) (fun _ _ => Nat.zero_mod _))
  have fz := hw n (Nat.le_refl _)
  have fzn : Nat.mod (bit n) (bit n) = 0 := frz_bit (Nat.le_refl _)
  have fzn1 : Nat.mod (bit (n + 1)) (bit n) = 0 := frz_bit (by omega)
  have fzn2 : Nat.mod (bit (n + 2)) (bit n) = 0 := frz_bit (by omega)
  have hmask : Nat.mod (Nat.lor (Nat.lor (Nat.lor (Nat.lor (Nat.lor (bit n) (bit (n + 1))) (bit n)) (bit (n + 1))) (bit (n + 2))) w) (bit n) = 0 := by
    simp only [frz_iff]
    exact ⟨⟨⟨⟨⟨fzn, fzn1⟩, fzn⟩, fzn1⟩, fzn2⟩, fz⟩
  have bad : ∀ b : Bool, b = false → ∀ M' N', ∃ lv, Value.tuple #[Value.slice none 0 0, .int .i64 4] = .tuple #[lv, .int .i64 (if b = true then 0 else 4)] ∧ FlZ M' n N' lv (if b = true then fs else []) := fun b hb M' N' => by subst hb; exact ⟨_, rfl, FlZ.nil _ _ _⟩
  cases hb : bs.all id with
  | false =>
    rw [hb] at ho
    simp (implicitDefEqProofs := false) (disch := omega) only [WPs, opds, List.all_cons, List.all_nil, List.cons_append, List.nil_append, cond_true, cond_false, eq_self, List.map_cons, List.map_nil, Nat.reduceAdd, Nat.testBit, Nat.reduceShiftRight, Nat.reduceAnd, Nat.reduceBNe, Nat.reduceMul, ho]
    exact hQ _ _ _ _ _ (by omega) hM hmask (fun _ => bad _ (by rw [hb]; rfl) _ _) (fun _ => bad _ (by rw [hb]; rfl) _ _)
  | true =>
    rw [hb] at ho
    simp (implicitDefEqProofs := false) (disch := omega) only [WPs, opds, List.all_cons, List.all_nil, List.cons_append, List.nil_append, cond_true, cond_false, eq_self, List.map_cons, List.map_nil, Nat.reduceAdd, Nat.testBit, Nat.reduceShiftRight, Nat.reduceAnd, Nat.reduceBNe, Nat.reduceMul, ho]
    refine use_pure (valid_spec hV hA _ _ ov fs hZ.s (by omega)) fun _ => ?_
    cases hv : validB fs with
    | false =>
      simp (implicitDefEqProofs := false) (disch := omega) only [WPs, opds, List.all_cons, List.all_nil, List.cons_append, List.nil_append, cond_true, cond_false, eq_self, List.map_cons, List.map_nil, Nat.reduceAdd, Nat.testBit, Nat.reduceShiftRight, Nat.reduceAnd, Nat.reduceBNe, Nat.reduceMul]
      exact hQ _ _ _ _ _ (by omega) hM hmask (fun _ => bad _ (by rw [hb, hv]; rfl) _ _) (fun _ => bad _ (by rw [hb, hv]; rfl) _ _)
    | true =>
      simp (implicitDefEqProofs := false) (disch := omega) only [WPs, opds, List.all_cons, List.all_nil, List.cons_append, List.nil_append, cond_true, cond_false, eq_self, List.map_cons, List.map_nil, Nat.reduceAdd, Nat.testBit, Nat.reduceShiftRight, Nat.reduceAnd, Nat.reduceBNe, Nat.reduceMul]
      have hbv : (bs.all id && validB fs) = true := by rw [hb, hv]; rfl
      refine hQ _ _ _ _ _ (by omega) hM hmask (fun _ => ⟨ov, by rw [hbv]; rfl, by rw [if_pos hbv]; exact SlZ.low hZ (by omega)⟩) (fun hfree => ⟨ov, by rw [hbv]; rfl, ?_⟩)
      rw [if_pos hbv]
      rcases hZ with ⟨h1, _, rfl⟩ | ⟨_, _, b, rfl, _⟩
      · rw [List.length_eq_zero_iff.1 h1]; exact FlZ.nil _ _ _
      · cases hfree
def progE (t : Txt.Bs) : Int × List Flt := if t = [] then (0, []) else if goodP t = true then (0, resP t) else (4, [])
theorem splitK_len (sep : Txt.Bs) : ∀ (k : Nat) (s : Txt.Bs), ∀ p ∈ Lib.splitK sep 0 k s, p.length ≤ s.length
  | 0, s, p, hp => by
    unfold Lib.splitK at hp
    rw [List.mem_singleton] at hp
    subst hp; exact Nat.le_refl _
  | k + 1, s, p, hp => by
    unfold Lib.splitK at hp
    split at hp
    · rw [List.mem_singleton] at hp
      subst hp; exact Nat.le_refl _
    · rcases List.mem_cons.1 hp with rfl | hp
      · rw [List.length_take]; omega
      · have := splitK_len sep k _ p hp
        rw [List.length_drop] at this; omega
theorem split_list (t : ByteArray) : (splitL t semi).map (·.data.toList) = Lib.split t.data.toList semiL := Lib.splitB_data semi 0 _ t
theorem empty_iff (t : ByteArray) : t = ⟨#[]⟩ ↔ t.data.toList = [] := ⟨fun h => by rw [h], fun h => str_ext h⟩
theorem parse_spec (L : LibY E Y) (hE : E 14 = some ac14) (hWd : E 26 = some ac26) (hNm : E 28 = some ac28) (hW : E 22 = some ac22) (hA : E 21 = some ac21) (hV : E 10 = some ac10) (m : FM) (n : Nat) {t : ByteArray} (hts : t.size < 1000000000) (hc : Lib.countB t semi < 2000000) :
    Rt (callW PG E Y 14 [.string t] m n) fun v M' N' w => n ≤ N' ∧ (∀ b, b < n → M' b = m b) ∧ (∀ j, j ≤ n → Nat.mod w (bit j) = 0) ∧ ∃ lv, v = .tuple #[lv, .int .i64 (progE t.data.toList).1] ∧ FlZ M' n N' lv (progE t.data.toList).2 := by
  by_cases ht : t = ⟨#[]⟩
  · have e : progE t.data.toList = (0, []) := by rw [progE, if_pos ((empty_iff t).1 ht)]
    rw [e]
    refine kept_specA (R := fun v M' N' => ∃ lv, v = .tuple #[lv, .int .i64 0] ∧ FlZ M' n N' lv []) hE rfl fun Q hQ => ?_
    simp only [ac14]
    simp (implicitDefEqProofs := false) (disch := omega) only [WPs, opds, List.all_cons, List.all_nil, List.cons_append, List.nil_append, cond_true, cond_false, eq_self, List.map_cons, List.map_nil, Nat.reduceAdd, Nat.testBit, Nat.reduceShiftRight, Nat.reduceAnd, Nat.reduceBNe, Nat.reduceMul, eql_str, decide_eq_true ht, s_func]
    have fzn : Nat.mod (bit n) (bit n) = 0 := frz_bit (Nat.le_refl _)
    have fzn1 : Nat.mod (bit (n + 1)) (bit n) = 0 := frz_bit (by omega)
    refine hQ _ _ _ _ _ (by omega) (fun b hb => by rw [fput_ne _ _ _ _ (by omega), fput_ne _ _ _ _ (by omega), fput_ne _ _ _ _ (by omega), fput_ne _ _ _ _ (by omega)]) ?_ (fun _ => ⟨_, rfl, FlZ.nil _ _ _⟩) (fun _ => ⟨_, rfl, FlZ.nil _ _ _⟩)
    simp only [frz_iff]
    simp only [fzn, fzn1, and_self]
  · have hsp := split_list t
    have hlen : (splitL t semi).length = Lib.countB t semi + 1 := Lib.splitB_all semi (by decide) 0 _ t rfl
    have hmem : ∀ p ∈ splitL t semi, p.size < 1000000000 := fun p hp => by
      have h1 : p.data.toList ∈ (splitL t semi).map (·.data.toList) := List.mem_map_of_mem hp
      rw [hsp] at h1
      have := splitK_len semiL _ _ _ h1
      rw [str_len, str_len] at this
      omega
    have key := parse_specP L hE hWd hNm hW hA hV m n (t := t) (fs := (splitL t semi).map fun p => partF p.data.toList) (bs := (splitL t semi).map fun p => partOk p.data.toList) ht hts hc hlen (List.length_map ..) (List.length_map ..) hmem (fun i h => by rw [List.getElem_map, List.getElem_map]; exact ⟨rfl, rfl⟩)
    have e1 : (splitL t semi).map (fun p => partF p.data.toList) = resP t.data.toList := by
      rw [resP, ← hsp, List.map_map]; rfl
    have e2 : (((splitL t semi).map fun p => partOk p.data.toList).all id && validB (resP t.data.toList)) = goodP t.data.toList := by
      rw [goodP, ← e1, ← hsp, List.all_map, List.all_map, List.map_map]; rfl
    rw [e1, e2] at key
    refine key.mono fun v M' N' w ⟨h1, h2, h3, lv, h4, h5⟩ => ⟨h1, h2, h3, lv, ?_, ?_⟩
    · rw [h4, progE, if_neg fun h => ht ((empty_iff t).2 h)]
      split <;> rfl
    · rw [progE, if_neg fun h => ht ((empty_iff t).2 h)]
      split at h5 <;> rename_i hg
      · rw [if_pos hg]; exact h5
      · rw [if_neg hg]; exact h5
end Go.Am.C13
namespace Go.Am.C13
open Go Go.Am Go.Am.V
set_option maxRecDepth 100000
variable {E : Nat → Option AFn} {Y : Nat → List Value → FM → Nat → OR FM}
def exT : ByteArray := ⟨#[100, 114, 111, 112, 32, 51, 59, 32, 115, 116, 114, 97, 121, 32, 55, 32, 116, 111, 32, 49, 50, 59, 32, 100, 105, 101, 32, 50, 48]⟩
def exS : ByteArray := ⟨#[100, 114, 111, 112, 32, 48, 51]⟩
def exL : List Flt := [⟨3, 1, 0⟩, ⟨7, 3, 12⟩, ⟨20, 7, 0⟩]
def exP : ByteArray := ⟨#[100, 114, 111, 112, 32, 51]⟩
def exQ : ByteArray := ⟨#[115, 116, 114, 97, 121, 32, 55, 32, 116, 111, 32, 49, 50]⟩
def exR : ByteArray := ⟨#[100, 105, 101, 32, 50, 48]⟩
theorem ex_valid : validB exL = true := by decide
theorem itoa3 : itoaB 3 = ⟨#[51]⟩ := by
  have h : Lib.itoa ((3 : Nat) : Int) = [51] := by rw [Lib.itoa_nonneg, Lib.decDigits_one (by omega)]; rfl
  show (⟨(Lib.itoa ((3 : Nat) : Int)).toArray⟩ : ByteArray) = _
  rw [h]
theorem itoa7 : itoaB 7 = ⟨#[55]⟩ := by
  have h : Lib.itoa ((7 : Nat) : Int) = [55] := by rw [Lib.itoa_nonneg, Lib.decDigits_one (by omega)]; rfl
  show (⟨(Lib.itoa ((7 : Nat) : Int)).toArray⟩ : ByteArray) = _
  rw [h]
theorem itoa12 : itoaB 12 = ⟨#[49, 50]⟩ := by
  have h : Lib.itoa ((12 : Nat) : Int) = [49, 50] := by rw [Lib.itoa_nonneg, Lib.decDigits_two (by omega) (by omega)]; rfl
  show (⟨(Lib.itoa ((12 : Nat) : Int)).toArray⟩ : ByteArray) = _
  rw [h]
theorem itoa20 : itoaB 20 = ⟨#[50, 48]⟩ := by
  have h : Lib.itoa ((20 : Nat) : Int) = [50, 48] := by rw [Lib.itoa_nonneg, Lib.decDigits_two (by omega) (by omega)]; rfl
  show (⟨(Lib.itoa ((20 : Nat) : Int)).toArray⟩ : ByteArray) = _
  rw [h]
theorem exT_count : Lib.countB exT semi = 2 := by decide
theorem exS_count : Lib.countB exS semi = 0 := by decide
theorem exL_text : textB exL = exT := by
  rw [textB, if_pos ex_valid]
  have h : exL.map fltT = [exP, exQ, exR] := by
    show [fltT ⟨3, 1, 0⟩, fltT ⟨7, 3, 12⟩, fltT ⟨20, 7, 0⟩] = _
    have h1 : fltT ⟨3, 1, 0⟩ = exP := by
      rw [fltT, if_neg (by decide)]
      show wordB 1 ++ ⟨#[32]⟩ ++ itoaB 3 = _
      rw [itoa3]; decide
    have h2 : fltT ⟨7, 3, 12⟩ = exQ := by
      rw [fltT, if_pos (by decide)]
      show wordB 3 ++ ⟨#[32]⟩ ++ itoaB 7 ++ (⟨#[32, 116, 111, 32]⟩ ++ itoaB 12) = _
      rw [itoa7, itoa12]; decide
    have h3 : fltT ⟨20, 7, 0⟩ = exR := by
      rw [fltT, if_neg (by decide)]
      show wordB 7 ++ ⟨#[32]⟩ ++ itoaB 20 = _
      rw [itoa20]; decide
    rw [h1, h2, h3]
  rw [h]
  decide
structure Te (E : Nat → Option AFn) : Prop where
  e9 : E 9 = some ac9
  e10 : E 10 = some ac10
  e12 : E 12 = some ac12
  e14 : E 14 = some ac14
  e15 : E 15 = some ac15
  e21 : E 21 = some ac21
  e22 : E 22 = some ac22
  e26 : E 26 = some ac26
  e28 : E 28 = some ac28
theorem progT : progE exT.data.toList = (0, exL) := by
  have h := textB_list exL
  rw [exL_text] at h
  obtain ⟨h1, h2, _⟩ := prog_back ex_valid (by intro f hf; simp only [exL, List.mem_cons, List.not_mem_nil, or_false] at hf; rcases hf with rfl | rfl | rfl <;> exact ⟨by decide, by decide⟩) (by simp [exL])
  rw [← h] at h1 h2
  rw [progE, if_neg (by decide), if_pos h1, h2]
theorem progS : progE exS.data.toList = (4, []) := by
  have ha : Lib.atoiAll [48, 51] = .ok 3 := by decide
  have hi : Lib.itoa 3 = [51] := congrArg (fun b : ByteArray => b.data.toList) itoa3
  have hn : numOk [48, 51] = false := by rw [numOk, ha]; simp only; rw [hi]; decide
  have hp : partOk exS.data.toList = false := by
    rw [partOk, if_neg (by decide), show (Lib.cut exS.data.toList [32]).2.1 = [48, 51] by decide, hn, Bool.and_false]
  have hg : goodP exS.data.toList = false := by
    rw [goodP, show Lib.split exS.data.toList semiL = [exS.data.toList] by decide, List.all_cons, hp]; rfl
  rw [progE, if_neg (by decide), if_neg (by rw [hg]; decide)]
theorem parseT (L : LibY E Y) (T : Te E) (m : FM) (n : Nat) : Rt (callW PG E Y 14 [.string exT] m n) fun v M' N' w => n ≤ N' ∧ (∀ b, b < n → M' b = m b) ∧ (∀ j, j ≤ n → Nat.mod w (bit j) = 0) ∧ ∃ lv, v = .tuple #[lv, .int .i64 0] ∧ FlZ M' n N' lv exL := by
  have h := parse_spec L T.e14 T.e26 T.e28 T.e22 T.e21 T.e10 m n (t := exT) (by decide) (by rw [exT_count]; omega)
  rwa [progT] at h
theorem parseS (L : LibY E Y) (T : Te E) (m : FM) (n : Nat) : Rt (callW PG E Y 14 [.string exS] m n) fun v M' N' w => n ≤ N' ∧ (∀ b, b < n → M' b = m b) ∧ (∀ j, j ≤ n → Nat.mod w (bit j) = 0) ∧ ∃ lv, v = .tuple #[lv, .int .i64 4] := by
  have h := parse_spec L T.e14 T.e26 T.e28 T.e22 T.e21 T.e10 m n (t := exS) (by decide) (by rw [exS_count]; omega)
  rw [progS] at h
  exact h.mono fun v M' N' w ⟨h1, h2, h3, lv, h4, h5⟩ => ⟨h1, h2, h3, lv, h4⟩
theorem awake_spec (L : LibY E Y) (T : Te E) (m : FM) (n : Nat) : Pure (callW PG E Y 9 [] m n) m n (.bool true) := by
  refine pure_spec T.e9 rfl rfl ?_
  simp only [ac9]
  simp (implicitDefEqProofs := false) (disch := omega) only [WPs, opds, List.all_cons, List.all_nil, List.cons_append, List.nil_append, cond_true, cond_false, eq_self, List.map_cons, List.map_nil, Nat.reduceAdd, Nat.testBit, Nat.reduceShiftRight, Nat.reduceAnd, Nat.reduceBNe, Nat.reduceMul]
  generalize hM1 : (AMem.put m n (some (.cells [.int .i64 3, .int .i64 1, .int .i64 0, .int .i64 7, .int .i64 3, .int .i64 12, .int .i64 20, .int .i64 7, .int .i64 0] 3 false true)) : FM) = M1
  have hL : FlS M1 (n + 1) (.slice (some ⟨n, 0, none⟩) 3 3) exL := ⟨_, _, rfl, blt_true (Nat.lt_succ_self n), .inr ⟨n, 0, flCells exL, false, true, rfl, Nat.lt_succ_self n, by rw [← hM1]; exact fput_same _ _ _, fun i hi => by rw [Nat.zero_add]; exact flCells_at exL hi⟩⟩
  have fzn : Nat.mod (bit n) (bit n) = 0 := frz_bit (Nat.le_refl _)
  refine use_rt (parseT L T M1 (n + 1)) fun v M2 N2 r2 w2 ⟨n2, m2, f2, lv, hv, hz⟩ => ?_
  subst hv
  have fz2 := f2 n (by omega)
  simp (implicitDefEqProofs := false) (disch := omega) only [WPs, opds, List.all_cons, List.all_nil, List.cons_append, List.nil_append, cond_true, cond_false, eq_self, List.map_cons, List.map_nil, Nat.reduceAdd, Nat.testBit, Nat.reduceShiftRight, Nat.reduceAnd, Nat.reduceBNe, Nat.reduceMul, ey0, ey1]
  refine use_rt (parseS L T M2 N2) fun v M3 N3 r3 w3 ⟨n3, m3, f3, lv3, hv⟩ => ?_
  subst hv
  have fz3 := f3 n (by omega)
  simp (implicitDefEqProofs := false) (disch := omega) only [WPs, opds, List.all_cons, List.all_nil, List.cons_append, List.nil_append, cond_true, cond_false, eq_self, List.map_cons, List.map_nil, Nat.reduceAdd, Nat.testBit, Nat.reduceShiftRight, Nat.reduceAnd, Nat.reduceBNe, Nat.reduceMul, ey0, ey1]
  have hL3 : FlS M3 N3 (.slice (some ⟨n, 0, none⟩) 3 3) exL := (hL.frame (by omega) m2).frame n3 m3
  have hz3 : FlS M3 N3 lv exL := hz.s.frame n3 m3
  refine use_pure (valid_spec T.e10 T.e21 M3 N3 _ exL hL3 (by decide)) fun _ => ?_
  rw [ex_valid]
  simp (implicitDefEqProofs := false) (disch := omega) only [WPs, opds, List.all_cons, List.all_nil, List.cons_append, List.nil_append, cond_true, cond_false, eq_self, List.map_cons, List.map_nil, Nat.reduceAdd, Nat.testBit, Nat.reduceShiftRight, Nat.reduceAnd, Nat.reduceBNe, Nat.reduceMul]
  refine use_pure (text_spec L T.e12 T.e10 T.e22 T.e21 M3 N3 _ exL hL3 (by decide) (by decide)) fun _ => ?_
  rw [exL_text]
  have hex : (⟨#[100, 114, 111, 112, 32, 51, 59, 32, 115, 116, 114, 97, 121, 32, 55, 32, 116, 111, 32, 49, 50, 59, 32, 100, 105, 101, 32, 50, 48]⟩ : ByteArray) = exT := rfl
  rw [hex]
  simp (implicitDefEqProofs := false) (disch := omega) only [WPs, opds, List.all_cons, List.all_nil, List.cons_append, List.nil_append, cond_true, cond_false, eq_self, List.map_cons, List.map_nil, Nat.reduceAdd, Nat.testBit, Nat.reduceShiftRight, Nat.reduceAnd, Nat.reduceBNe, Nat.reduceMul, eql_str, decide_eq_true (show exT = exT from rfl)]
  refine use_pure (same_spec T.e15 M3 N3 _ _ exL exL hz3 hL3 (by decide) (by decide)) fun _ => ?_
  rw [sameB_iff.2 rfl]
  simp (implicitDefEqProofs := false) (disch := omega) only [WPs, opds, List.all_cons, List.all_nil, List.cons_append, List.nil_append, cond_true, cond_false, eq_self, List.map_cons, List.map_nil, Nat.reduceAdd, Nat.testBit, Nat.reduceShiftRight, Nat.reduceAnd, Nat.reduceBNe, Nat.reduceMul]
  exact ⟨fz2, fz3⟩
end Go.Am.C13
namespace Go.Am.C13
open Go Go.Am
variable {E : Nat → Option AFn} {Y : Nat → List Value → FM → Nat → OR FM}
theorem refValid_L0 {m : FM} {N : Nat} {lv : Value} {fs : List Flt} (h : FlS m N lv fs) (hs : fs.length ≤ 9223372036854775807) (t : Bool) {Q : AX → List Value → FM → Nat → Nat → Prop}
    (hT : t = true → ∀ e M N' w, (∀ j, j ≤ N → Nat.mod w (bit j) = 0) → Q (.exit 0) e M N' w) (hF : t = false → ∀ e M N' w, (∀ j, j ≤ N → Nat.mod w (bit j) = 0) → Q (.ret (.bool false)) e M N' w) :
    ∀ d j, j + d = fs.length → ∀ (M : FM) (N' w0 : Nat) (p : Int) (x0 x2 x3 : Value), okFs p (fs.drop j) = t → (∀ k, j = k + 1 → 0 ≤ p ∧ (fs[k]?).map Flt.at_ = some p) → (j = 0 → p = -1) → N ≤ N' → (∀ b, b < N → M b = m b) → (∀ j, j ≤ N → Nat.mod w0 (bit j) = 0) →
    Gv (execW PG E Y ac11L0 [x0, .int .i64 (j : Int), x2, x3, lv] M N') fun X e m n w => Q X e m n (Nat.lor w0 w) := by
  intro d
  induction d with
  | zero =>
    intro j hj M N' w0 p x0 x2 x3 hp hk hz hN hM hw
    obtain rfl : j = fs.length := by omega
    rw [List.drop_length] at hp
    refine wr_loopN (L := ac11L0) (b := ac11L0b) rfl ?_
    simp only [ac11L0b]
    simp (implicitDefEqProofs := false) (disch := omega) only [WPs, opds, List.all_cons, List.all_nil, List.cons_append, List.nil_append, cond_true, cond_false, eq_self, List.map_cons, List.map_nil, Nat.reduceAdd, Nat.testBit, Nat.reduceShiftRight, Nat.reduceAnd, Nat.reduceBNe, Nat.reduceMul, h.len]
    exact hT hp.symm _ _ _ _ hw
  | succ d ih =>
    intro j hj M N' w0 p x0 x2 x3 hp hk hz hN hM hw
    have hjl : j < fs.length := by omega
    have h' := h.frame hN hM
    obtain ⟨b, o, cells, opn, wr, i1, i2, i3, i4⟩ := h'.at hjl
    have hbel := h'.bel N' (Nat.le_refl _)
    rw [List.drop_eq_getElem_cons hjl] at hp
    have ih' := ih (j + 1) (by omega)
    have hkn : ∀ k, j + 1 = k + 1 → 0 ≤ fs[j].at_ → 0 ≤ fs[j].at_ ∧ (fs[k]?).map Flt.at_ = some fs[j].at_ := fun k hk h0 => by
      obtain rfl : j = k := by omega
      exact ⟨h0, by rw [List.getElem?_eq_getElem hjl]; rfl⟩
    generalize fs[j] = f at i4 hp hkn
    simp only [okFs] at hp
    generalize hM0 : (AMem.put M N' (some (.cells f.cells 0 false true)) : FM) = M0
    have hM0b' : ∀ b, b < N' → M0 b = M b := fun b hb => by rw [← hM0, fput_ne _ _ _ _ (by omega)]
    have hM0b : ∀ b, b < N → M0 b = m b := fun b hb => by rw [hM0b' b (by omega)]; exact hM b hb
    have hbx : M0 N' = some (.cells f.cells 0 false true) := by rw [← hM0]; exact fput_same _ _ _
    have fz : ∀ i, i ≤ N → Nat.mod (Nat.lor w0 (Nat.lor (bit N') (bit N'))) (bit i) = 0 := fun i hi => by simp only [frz_iff]; exact ⟨hw i hi, frz_bit (by omega), frz_bit (by omega)⟩
    have hbl2 := (h'.frame (Nat.le_succ N') hM0b').bel (N' + 1) (Nat.le_refl _)
    simp only [Flt.cells] at i4 hM0 hbx
    have prev : ∀ k, j = k + 1 → ∃ b' o' cells' opn' wr', idxV 3 k lv = some (.pointer (some ⟨b', o', none⟩)) ∧ b' < N' ∧ M0 b' = some (.cells cells' 3 opn' wr') ∧ cget cells' o' = some (.int .i64 p) := fun k hk1 => by
      obtain ⟨h0, hp1⟩ := hk k hk1
      have hkl : k < fs.length := by omega
      obtain ⟨b', o', cells', opn', wr', j1, j2, j3, j4⟩ := h'.at hkl
      rw [List.getElem?_eq_getElem hkl] at hp1
      injection hp1 with hp1
      refine ⟨b', o', cells', opn', wr', j1, j2, by rw [hM0b' b' j2]; exact j3, ?_⟩
      have e := ctake_eq (ldrop cells' o') 3
      rw [j4] at e
      split at e
      · injection e with e
        have e2 : (ldrop cells' o')[0]? = some (.int .i64 fs[k].at_) := by
          have := congrArg (fun l => l[0]?) e
          simp only [List.getElem?_take] at this
          rw [if_pos (by omega)] at this
          rw [← this]; rfl
        rw [ldrop_eq, List.getElem?_drop, Nat.add_zero, hp1] at e2
        rw [cget_eq]; exact e2
      · cases e
    refine wr_loopN (L := ac11L0) (b := ac11L0b) rfl ?_
    simp only [ac11L0b]
    cases j with
    | zero =>
      have hp1 := hz rfl
      by_cases hok : okF p f = true
      · obtain ⟨c1, c2, c3, c4, c5⟩ := okF_iff.1 hok
        rw [hok, Bool.true_and] at hp
        by_cases c6 : f.to = 0
        · simp (implicitDefEqProofs := false) (disch := omega) only [WPs, opds, List.all_cons, List.all_nil, List.cons_append, List.nil_append, cond_true, cond_false, eq_self, List.map_cons, List.map_nil, Nat.reduceAdd, Nat.testBit, Nat.reduceShiftRight, Nat.reduceAnd, Nat.reduceBNe, Nat.reduceMul, i1, i3, i4, hM0, hbx, h.len, hbel, hbl2]
          refine wr_end (ih' M0 (N' + 1) (Nat.lor w0 (Nat.lor (bit N') (bit N'))) f.at_ _ _ _ hp (fun k' hk' => hkn k' hk' (by omega)) (fun hh => by omega) (by omega) hM0b fz) fun X e m n w hq => ?_
          rw [← lor_assoc']; exact hq
        · by_cases c7 : f.kind = 3
          · simp (implicitDefEqProofs := false) (disch := omega) only [WPs, opds, List.all_cons, List.all_nil, List.cons_append, List.nil_append, cond_true, cond_false, eq_self, List.map_cons, List.map_nil, Nat.reduceAdd, Nat.testBit, Nat.reduceShiftRight, Nat.reduceAnd, Nat.reduceBNe, Nat.reduceMul, i1, i3, i4, hM0, hbx, h.len, hbel, hbl2]
            refine wr_end (ih' M0 (N' + 1) (Nat.lor w0 (Nat.lor (bit N') (bit N'))) f.at_ _ _ _ hp (fun k' hk' => hkn k' hk' (by omega)) (fun hh => by omega) (by omega) hM0b fz) fun X e m n w hq => ?_
            rw [← lor_assoc']; exact hq
          · simp (implicitDefEqProofs := false) (disch := omega) only [WPs, opds, List.all_cons, List.all_nil, List.cons_append, List.nil_append, cond_true, cond_false, eq_self, List.map_cons, List.map_nil, Nat.reduceAdd, Nat.testBit, Nat.reduceShiftRight, Nat.reduceAnd, Nat.reduceBNe, Nat.reduceMul, i1, i3, i4, hM0, hbx, h.len, hbel, hbl2]
            refine wr_end (ih' M0 (N' + 1) (Nat.lor w0 (Nat.lor (bit N') (bit N'))) f.at_ _ _ _ hp (fun k' hk' => hkn k' hk' (by omega)) (fun hh => by omega) (by omega) hM0b fz) fun X e m n w hq => ?_
            rw [← lor_assoc']; exact hq
      · have hok' : okF p f = false := by simpa using hok
        rw [hok', Bool.false_and] at hp
        have hn := fun hh => hok (okF_iff.2 hh)
        by_cases c1 : p < f.at_
        case neg =>
          simp (implicitDefEqProofs := false) (disch := omega) only [WPs, opds, List.all_cons, List.all_nil, List.cons_append, List.nil_append, cond_true, cond_false, eq_self, List.map_cons, List.map_nil, Nat.reduceAdd, Nat.testBit, Nat.reduceShiftRight, Nat.reduceAnd, Nat.reduceBNe, Nat.reduceMul, i1, i3, i4, hM0, hbx, h.len, hbel, hbl2]
          exact hF hp.symm _ _ _ _ fz
        by_cases c2 : 1 ≤ f.kind
        case neg =>
          simp (implicitDefEqProofs := false) (disch := omega) only [WPs, opds, List.all_cons, List.all_nil, List.cons_append, List.nil_append, cond_true, cond_false, eq_self, List.map_cons, List.map_nil, Nat.reduceAdd, Nat.testBit, Nat.reduceShiftRight, Nat.reduceAnd, Nat.reduceBNe, Nat.reduceMul, i1, i3, i4, hM0, hbx, h.len, hbel, hbl2]
          exact hF hp.symm _ _ _ _ fz
        by_cases c3 : f.kind ≤ 7
        case neg =>
          simp (implicitDefEqProofs := false) (disch := omega) only [WPs, opds, List.all_cons, List.all_nil, List.cons_append, List.nil_append, cond_true, cond_false, eq_self, List.map_cons, List.map_nil, Nat.reduceAdd, Nat.testBit, Nat.reduceShiftRight, Nat.reduceAnd, Nat.reduceBNe, Nat.reduceMul, i1, i3, i4, hM0, hbx, h.len, hbel, hbl2]
          exact hF hp.symm _ _ _ _ fz
        by_cases c4 : 0 ≤ f.to
        case neg =>
          simp (implicitDefEqProofs := false) (disch := omega) only [WPs, opds, List.all_cons, List.all_nil, List.cons_append, List.nil_append, cond_true, cond_false, eq_self, List.map_cons, List.map_nil, Nat.reduceAdd, Nat.testBit, Nat.reduceShiftRight, Nat.reduceAnd, Nat.reduceBNe, Nat.reduceMul, i1, i3, i4, hM0, hbx, h.len, hbel, hbl2]
          exact hF hp.symm _ _ _ _ fz
        have c5 : ¬ (f.to = 0 ∨ f.kind = 3 ∨ f.kind = 5) := fun hh => hn ⟨c1, c2, c3, c4, hh⟩
        have c6 : f.to ≠ 0 := fun hh => c5 (.inl hh)
        have c7 : f.kind ≠ 3 := fun hh => c5 (.inr (.inl hh))
        have c8 : f.kind ≠ 5 := fun hh => c5 (.inr (.inr hh))
        simp (implicitDefEqProofs := false) (disch := omega) only [WPs, opds, List.all_cons, List.all_nil, List.cons_append, List.nil_append, cond_true, cond_false, eq_self, List.map_cons, List.map_nil, Nat.reduceAdd, Nat.testBit, Nat.reduceShiftRight, Nat.reduceAnd, Nat.reduceBNe, Nat.reduceMul, i1, i3, i4, hM0, hbx, h.len, hbel, hbl2]
        exact hF hp.symm _ _ _ _ fz
    | succ k =>
      obtain ⟨b', o', cells', opn', wr', q1, q2, q3, q4⟩ := prev k rfl
      have hp0 := (hk k rfl).1
      have hsub : ((k + 1 : Nat) : Int) - 1 = (k : Int) := by omega
      by_cases hok : okF p f = true
      · obtain ⟨c1, c2, c3, c4, c5⟩ := okF_iff.1 hok
        rw [hok, Bool.true_and] at hp
        by_cases c6 : f.to = 0
        · simp (implicitDefEqProofs := false) (disch := omega) only [WPs, opds, List.all_cons, List.all_nil, List.cons_append, List.nil_append, cond_true, cond_false, eq_self, List.map_cons, List.map_nil, Nat.reduceAdd, Nat.testBit, Nat.reduceShiftRight, Nat.reduceAnd, Nat.reduceBNe, Nat.reduceMul, i1, i3, i4, hM0, hbx, h.len, hbel, hbl2, q1, q3, q4, hsub]
          refine wr_end (ih' M0 (N' + 1) (Nat.lor w0 (Nat.lor (bit N') (bit N'))) f.at_ _ _ _ hp (fun k' hk' => hkn k' hk' (by omega)) (fun hh => by omega) (by omega) hM0b fz) fun X e m n w hq => ?_
          rw [← lor_assoc']; exact hq
        · by_cases c7 : f.kind = 3
          · simp (implicitDefEqProofs := false) (disch := omega) only [WPs, opds, List.all_cons, List.all_nil, List.cons_append, List.nil_append, cond_true, cond_false, eq_self, List.map_cons, List.map_nil, Nat.reduceAdd, Nat.testBit, Nat.reduceShiftRight, Nat.reduceAnd, Nat.reduceBNe, Nat.reduceMul, i1, i3, i4, hM0, hbx, h.len, hbel, hbl2, q1, q3, q4, hsub]
            refine wr_end (ih' M0 (N' + 1) (Nat.lor w0 (Nat.lor (bit N') (bit N'))) f.at_ _ _ _ hp (fun k' hk' => hkn k' hk' (by omega)) (fun hh => by omega) (by omega) hM0b fz) fun X e m n w hq => ?_
            rw [← lor_assoc']; exact hq
          · simp (implicitDefEqProofs := false) (disch := omega) only [WPs, opds, List.all_cons, List.all_nil, List.cons_append, List.nil_append, cond_true, cond_false, eq_self, List.map_cons, List.map_nil, Nat.reduceAdd, Nat.testBit, Nat.reduceShiftRight, Nat.reduceAnd, Nat.reduceBNe, Nat.reduceMul, i1, i3, i4, hM0, hbx, h.len, hbel, hbl2, q1, q3, q4, hsub]
            refine wr_end (ih' M0 (N' + 1) (Nat.lor w0 (Nat.lor (bit N') (bit N'))) f.at_ _ _ _ hp (fun k' hk' => hkn k' hk' (by omega)) (fun hh => by omega) (by omega) hM0b fz) fun X e m n w hq => ?_
            rw [← lor_assoc']; exact hq
      · have hok' : okF p f = false := by simpa using hok
        rw [hok', Bool.false_and] at hp
        have hn := fun hh => hok (okF_iff.2 hh)
        by_cases a0 : f.at_ < 0
        case pos =>
          simp (implicitDefEqProofs := false) (disch := omega) only [WPs, opds, List.all_cons, List.all_nil, List.cons_append, List.nil_append, cond_true, cond_false, eq_self, List.map_cons, List.map_nil, Nat.reduceAdd, Nat.testBit, Nat.reduceShiftRight, Nat.reduceAnd, Nat.reduceBNe, Nat.reduceMul, i1, i3, i4, hM0, hbx, h.len, hbel, hbl2, q1, q3, q4, hsub]
          exact hF hp.symm _ _ _ _ fz
        by_cases c1 : p < f.at_
        case neg =>
          simp (implicitDefEqProofs := false) (disch := omega) only [WPs, opds, List.all_cons, List.all_nil, List.cons_append, List.nil_append, cond_true, cond_false, eq_self, List.map_cons, List.map_nil, Nat.reduceAdd, Nat.testBit, Nat.reduceShiftRight, Nat.reduceAnd, Nat.reduceBNe, Nat.reduceMul, i1, i3, i4, hM0, hbx, h.len, hbel, hbl2, q1, q3, q4, hsub]
          exact hF hp.symm _ _ _ _ fz
        by_cases c2 : 1 ≤ f.kind
        case neg =>
          simp (implicitDefEqProofs := false) (disch := omega) only [WPs, opds, List.all_cons, List.all_nil, List.cons_append, List.nil_append, cond_true, cond_false, eq_self, List.map_cons, List.map_nil, Nat.reduceAdd, Nat.testBit, Nat.reduceShiftRight, Nat.reduceAnd, Nat.reduceBNe, Nat.reduceMul, i1, i3, i4, hM0, hbx, h.len, hbel, hbl2, q1, q3, q4, hsub]
          exact hF hp.symm _ _ _ _ fz
        by_cases c3 : f.kind ≤ 7
        case neg =>
          simp (implicitDefEqProofs := false) (disch := omega) only [WPs, opds, List.all_cons, List.all_nil, List.cons_append, List.nil_append, cond_true, cond_false, eq_self, List.map_cons, List.map_nil, Nat.reduceAdd, Nat.testBit, Nat.reduceShiftRight, Nat.reduceAnd, Nat.reduceBNe, Nat.reduceMul, i1, i3, i4, hM0, hbx, h.len, hbel, hbl2, q1, q3, q4, hsub]
          exact hF hp.symm _ _ _ _ fz
        by_cases c4 : 0 ≤ f.to
        case neg =>
          simp (implicitDefEqProofs := false) (disch := omega) only [WPs, opds, List.all_cons, List.all_nil, List.cons_append, List.nil_append, cond_true, cond_false, eq_self, List.map_cons, List.map_nil, Nat.reduceAdd, Nat.testBit, Nat.reduceShiftRight, Nat.reduceAnd, Nat.reduceBNe, Nat.reduceMul, i1, i3, i4, hM0, hbx, h.len, hbel, hbl2, q1, q3, q4, hsub]
          exact hF hp.symm _ _ _ _ fz
        have c5 : ¬ (f.to = 0 ∨ f.kind = 3 ∨ f.kind = 5) := fun hh => hn ⟨c1, c2, c3, c4, hh⟩
        have c6 : f.to ≠ 0 := fun hh => c5 (.inl hh)
        have c7 : f.kind ≠ 3 := fun hh => c5 (.inr (.inl hh))
        have c8 : f.kind ≠ 5 := fun hh => c5 (.inr (.inr hh))
        simp (implicitDefEqProofs := false) (disch := omega) only [WPs, opds, List.all_cons, List.all_nil, List.cons_append, List.nil_append, cond_true, cond_false, eq_self, List.map_cons, List.map_nil, Nat.reduceAdd, Nat.testBit, Nat.reduceShiftRight, Nat.reduceAnd, Nat.reduceBNe, Nat.reduceMul, i1, i3, i4, hM0, hbx, h.len, hbel, hbl2, q1, q3, q4, hsub]
        exact hF hp.symm _ _ _ _ fz
theorem refValid_spec (hE : E 11 = some ac11) (m : FM) (n : Nat) (lv : Value) (fs : List Flt) (h : FlS m n lv fs) (hs : fs.length ≤ 9223372036854775807) : Pure (callW PG E Y 11 [lv] m n) m n (.bool (validB fs)) := by
  refine pure_spec hE rfl rfl ?_
  simp only [ac11]
  simp (implicitDefEqProofs := false) (disch := omega) only [WPs, opds, List.all_cons, List.all_nil, List.cons_append, List.nil_append, cond_true, cond_false, eq_self, List.map_cons, List.map_nil, Nat.reduceAdd, Nat.testBit, Nat.reduceShiftRight, Nat.reduceAnd, Nat.reduceBNe, Nat.reduceMul]
  refine wr_kont (refValid_L0 h hs (validB fs) (fun ht e M N' w hw rr => ?_) (fun ht e M N' w hw rr => ?_) fs.length 0 (by omega) m n 0 (-1) _ _ _ rfl (fun k hk => by omega) (fun _ => rfl) (Nat.le_refl _) (fun _ _ => rfl) (fun _ _ => Nat.zero_mod _))
  · have fz := hw n (Nat.le_refl _)
    rw [ht]
    simp (implicitDefEqProofs := false) (disch := omega) only [WPs, opds, List.all_cons, List.all_nil, List.cons_append, List.nil_append, cond_true, cond_false, eq_self, List.map_cons, List.map_nil, Nat.reduceAdd, Nat.testBit, Nat.reduceShiftRight, Nat.reduceAnd, Nat.reduceBNe, Nat.reduceMul, fz]
  · have fz := hw n (Nat.le_refl _)
    rw [ht]
    simp (implicitDefEqProofs := false) (disch := omega) only [WPs, opds, List.all_cons, List.all_nil, List.cons_append, List.nil_append, cond_true, cond_false, eq_self, List.map_cons, List.map_nil, Nat.reduceAdd, Nat.testBit, Nat.reduceShiftRight, Nat.reduceAnd, Nat.reduceBNe, Nat.reduceMul, fz]
end Go.Am.C13
namespace Go.Am.C13
open Go Go.Am
variable {E : Nat → Option AFn} {Y : Nat → List Value → FM → Nat → OR FM}
def atV (o : Option Flt) : Value := match o with
  | some f => .tuple #[fltV f, .bool true]
  | none => .tuple #[fltV ⟨0, 0, 0⟩, .bool false]
def zero3 : List Value := [.int .i64 0, .int .i64 0, .int .i64 0]
end Go.Am.C13
namespace Go.Am.C13
open Go Go.Am Go.Am.V
set_option maxRecDepth 1000000
theorem inI64_of {z : Int} (h0 : -9223372036854775808 ≤ z) (h1 : z ≤ 9223372036854775807) : inI64 z = true := by
  cases z with
  | ofNat a =>
    have h1 : (a : Int) ≤ 9223372036854775807 := h1
    exact Nat.ble_eq_true_of_le (show a + 1 ≤ 9223372036854775808 by omega)
  | negSucc a => exact Nat.ble_eq_true_of_le (show a + 1 ≤ 9223372036854775808 by omega)
theorem y_itoa (m : FM) (n : Nat) {z : Int} (h0 : -9223372036854775808 ≤ z) (h1 : z ≤ 9223372036854775807) : Y13 23 [.int .i64 z] m n = .ok (.string (itoaB z)) m n 0 0 := by
  have h : pfnA pItoa 23 [.int .i64 z] m n = .ok (.string (itoaB z)) m n 0 0 := by
    show Option.rec (motive := fun _ => OR FM) .no (fun v => .ok v m n 0 0) (cond (inI64 z) (some (Value.string ⟨(Lib.itoa z).toArray⟩)) none) = _
    rw [inI64_of h0 h1]; rfl
  show altA (pfnA pItoa) _ 23 _ m n = _
  unfold altA
  rw [h]
theorem y_cut (m : FM) (n : Nat) {s sep : ByteArray} (hs : s.size < 4294967281) : Y13 27 [.string s, .string sep] m n = .ok (.tuple #[.string ⟨(Lib.cut s.data.toList sep.data.toList).1.toArray⟩, .string ⟨(Lib.cut s.data.toList sep.data.toList).2.1.toArray⟩, .bool (Lib.cut s.data.toList sep.data.toList).2.2]) m n 0 0 := by
  have h : pfnA pCut 27 [.string s, .string sep] m n = .ok (.tuple #[.string ⟨(Lib.cut s.data.toList sep.data.toList).1.toArray⟩, .string ⟨(Lib.cut s.data.toList sep.data.toList).2.1.toArray⟩, .bool (Lib.cut s.data.toList sep.data.toList).2.2]) m n 0 0 := by
    show Option.rec (motive := fun _ => OR FM) .no (fun v => .ok v m n 0 0) (cond (Nat.blt s.size 4294967281) _ none) = _
    rw [show Nat.blt s.size 4294967281 = true from Nat.ble_eq_true_of_le hs]; rfl
  show altA (pfnA pItoa) (altA (pfnA pCut) _) 27 _ m n = _
  unfold altA
  rw [show pfnA pItoa 27 [.string s, .string sep] m n = .no from rfl, h]
theorem y_atoi (m : FM) (n : Nat) {s : ByteArray} (hs : s.size < 4294967281) : Y13 29 [.string s] m n = .ok (atoiR s.data.toList) m n 0 0 := by
  have h : atoiA 29 29 [.string s] m n = .ok (atoiR s.data.toList) m n 0 0 := by
    show cond (Nat.blt s.size 4294967281) (OR.ok (atoiR s.data.toList) m n 0 0) OR.no = _
    rw [show Nat.blt s.size 4294967281 = true from Nat.ble_eq_true_of_le hs]; rfl
  show altA (pfnA pItoa) (altA (pfnA pCut) (altA (atoiA 29) _)) 29 _ m n = _
  unfold altA
  rw [show pfnA pItoa 29 [.string s] m n = .no from rfl, show pfnA pCut 29 [.string s] m n = .no from rfl, h]
theorem y_split (m : FM) (n : Nat) {s sep : ByteArray} (hs : s.size < 4294967281) (h1 : 1 ≤ sep.size) (h2 : Lib.countB s sep < 4294967281) : Y13 30 [.string s, .string sep] m n = .ok (.slice (some ⟨n, 0, none⟩) (Lib.countB s sep + 1) (Lib.countB s sep + 1)) (AMem.put m n (some (.cells ((splitL s sep).map Value.string) 1 false true))) (n + 1) 0 (bit n) := by
  have h : splitA 30 30 [.string s, .string sep] m n = .ok (.slice (some ⟨n, 0, none⟩) (Lib.countB s sep + 1) (Lib.countB s sep + 1)) (AMem.put m n (some (.cells ((splitL s sep).map Value.string) 1 false true))) (n + 1) 0 (bit n) := by
    show cond (Nat.blt s.size 4294967281 && Nat.ble 1 sep.size && Nat.blt (Lib.countB s sep) 4294967281) _ _ = _
    rw [show Nat.blt s.size 4294967281 = true from Nat.ble_eq_true_of_le hs, show Nat.ble 1 sep.size = true from Nat.ble_eq_true_of_le h1, show Nat.blt (Lib.countB s sep) 4294967281 = true from Nat.ble_eq_true_of_le h2]; rfl
  show altA (pfnA pItoa) (altA (pfnA pCut) (altA (atoiA 29) (altA (splitA 30) (joinA 24)))) 30 _ m n = _
  unfold altA
  rw [show pfnA pItoa 30 [.string s, .string sep] m n = .no from rfl, show pfnA pCut 30 [.string s, .string sep] m n = .no from rfl, show atoiA 29 30 [.string s, .string sep] m n = .no from rfl, h]
theorem strsOf_map : ∀ xs : List ByteArray, strsOf (xs.map Value.string) = some xs
  | [] => rfl
  | x :: xs => by
    show (strsOf (xs.map Value.string)).map (x :: ·) = _
    rw [strsOf_map xs]; rfl
theorem y_join (m : FM) (n b c : Nat) (opn wr : Bool) (xs : List ByteArray) (sep : ByteArray) (hb : b < n) (hm : m b = some (.cells (xs.map Value.string) 1 opn wr)) (h0 : 0 < xs.length) (h1 : xs.length < 140737488355328) (h2 : (joinS xs sep).size ≤ 140737488355328) : Y13 24 [.slice (some ⟨b, 0, none⟩) xs.length c, .string sep] m n = .ok (.string (joinS xs sep)) m n (bit b) 0 := by
  have h : joinA 24 24 [.slice (some ⟨b, 0, none⟩) xs.length c, .string sep] m n = .ok (.string (joinS xs sep)) m n (bit b) 0 := by
    show (match getb m n b with
      | some (.cells cs sz opn wr) => match (ctake (ldrop cs 0) xs.length).bind strsOf with
        | some ys => cond (Nat.blt 0 xs.length && Nat.blt xs.length 140737488355328 && Nat.ble (joinS ys sep).size 140737488355328 && Nat.beq sz 1) (OR.ok (Value.string (joinS ys sep)) m n (bit b) 0) .no
        | none => .no
      | _ => .no) = _
    rw [getb_lt hb, hm]
    show (match (ctake (ldrop (xs.map Value.string) 0) xs.length).bind strsOf with
        | some ys => cond (Nat.blt 0 xs.length && Nat.blt xs.length 140737488355328 && Nat.ble (joinS ys sep).size 140737488355328 && Nat.beq 1 1) (OR.ok (Value.string (joinS ys sep)) m n (bit b) 0) .no
        | none => .no) = _
    rw [ldrop_z, cells_all (List.length_map ..).symm]
    show (match strsOf (xs.map Value.string) with
        | some ys => cond (Nat.blt 0 xs.length && Nat.blt xs.length 140737488355328 && Nat.ble (joinS ys sep).size 140737488355328 && Nat.beq 1 1) (OR.ok (Value.string (joinS ys sep)) m n (bit b) 0) .no
        | none => .no) = _
    rw [strsOf_map]
    show cond (Nat.blt 0 xs.length && Nat.blt xs.length 140737488355328 && Nat.ble (joinS xs sep).size 140737488355328 && true) _ _ = _
    rw [show Nat.blt 0 xs.length = true from Nat.ble_eq_true_of_le h0, show Nat.blt xs.length 140737488355328 = true from Nat.ble_eq_true_of_le h1, show Nat.ble (joinS xs sep).size 140737488355328 = true from Nat.ble_eq_true_of_le h2]; rfl
  show altA (pfnA pItoa) (altA (pfnA pCut) (altA (atoiA 29) (altA (splitA 30) (joinA 24)))) 24 [.slice (some ⟨b, 0, none⟩) xs.length c, .string sep] m n = .ok (.string (joinS xs sep)) m n (bit b) 0
  unfold altA
  rw [show pfnA pItoa 24 [.slice (some ⟨b, 0, none⟩) xs.length c, .string sep] m n = .no from rfl, show pfnA pCut 24 [.slice (some ⟨b, 0, none⟩) xs.length c, .string sep] m n = .no from rfl, show atoiA 29 24 [.slice (some ⟨b, 0, none⟩) xs.length c, .string sep] m n = .no from rfl, show splitA 30 24 [.slice (some ⟨b, 0, none⟩) xs.length c, .string sep] m n = .no from rfl, h]
theorem libY : LibY (look tab) Y13 where
  itoa := fun m n z h0 h1 => ⟨0, by rw [callW_Y (by kernel_rfl), y_itoa m n h0 h1]⟩
  cut := fun m n s sep hs => ⟨0, by rw [callW_Y (by kernel_rfl), y_cut m n hs]⟩
  atoi := fun m n s hs => ⟨0, by rw [callW_Y (by kernel_rfl), y_atoi m n hs]⟩
  split := fun m n s sep hs h1 h2 => ⟨0, by rw [callW_Y (by kernel_rfl), y_split m n hs h1 h2]⟩
  join0 := fun m n sep => ⟨0, by rw [callW_Y (by kernel_rfl)]; rfl⟩
  join := fun m n b c opn wr xs sep hb hm h0 h1 h2 => ⟨bit b, by rw [callW_Y (by kernel_rfl), y_join m n b c opn wr xs sep hb hm h0 h1 h2]⟩
end Go.Am.C13
namespace Go.Am.C13
open Go Go.Am Go.Am.V
variable {E : Nat → Option AFn} {Y : Nat → List Value → FM → Nat → OR FM}
end Go.Am.C13
namespace Go.Am.C13
open Go Go.Am
def Own3 (M : FM) (P : Nat → Prop) (v : Value) (l : List Flt) : Prop :=
  (l = [] ∧ v = .slice none 0 0) ∨ (l = [] ∧ ∃ b, v = .slice (some ⟨b, 0, none⟩) 0 0 ∧ P b ∧ M b = some (.cells [] 3 false true)) ∨ (l ≠ [] ∧ ∃ b, v = .slice (some ⟨b, 0, none⟩) l.length UNK ∧ P b ∧ M b = some (.cells (flCells l) 3 true true))
theorem Own3.frame {M M' : FM} {P P' : Nat → Prop} {v : Value} {l : List Flt} (h : Own3 M P v l) (ht : ∀ b, P b → P' b ∧ M' b = M b) : Own3 M' P' v l := by
  rcases h with h | ⟨h1, b, h2, h3, h4⟩ | ⟨h1, b, h2, h3, h4⟩
  · exact .inl h
  · exact .inr (.inl ⟨h1, b, h2, (ht b h3).1, (ht b h3).2.trans h4⟩)
  · exact .inr (.inr ⟨h1, b, h2, (ht b h3).1, (ht b h3).2.trans h4⟩)
theorem Own3.len {M : FM} {P : Nat → Prop} {v : Value} {l : List Flt} (h : Own3 M P v l) : lenV false v = some (.int .i64 (l.length : Int)) := by
  rcases h with ⟨rfl, rfl⟩ | ⟨rfl, b, rfl, _⟩ | ⟨_, b, rfl, _⟩ <;> rfl
theorem Own3.one {M : FM} {P : Nat → Prop} {v : Value} {l : List Flt} (h : Own3 M P v l) : Am.one v = true := by
  rcases h with ⟨rfl, rfl⟩ | ⟨rfl, b, rfl, _⟩ | ⟨_, b, rfl, _⟩ <;> rfl
theorem Own3.bel {M : FM} {P : Nat → Prop} {v : Value} {l : List Flt} (h : Own3 M P v l) (k : Nat) (hk : ∀ b, P b → b < k) : belowV k v = true := by
  rcases h with ⟨rfl, rfl⟩ | ⟨rfl, b, rfl, hb, _⟩ | ⟨_, b, rfl, hb, _⟩
  · rfl
  · exact blt_true (hk b hb)
  · exact blt_true (hk b hb)
end Go.Am.C13
namespace Go.Am.C13
open Go Go.Am Go.Am.V
variable {E : Nat → Option AFn} {Y : Nat → List Value → FM → Nat → OR FM}
end Go.Am.C13
namespace Go.Am
open Go
abbrev MI := List (Int × Value)
def mapC (mi : MI) : List (Value × Value) := mi.map fun p => (.int .i64 p.1, p.2)
def idxI (t : Int) : MI → Option Nat
  | [] => none
  | p :: mi => if t = p.1 then some 0 else (idxI t mi).map (· + 1)
def lookI (t : Int) : MI → Option Value
  | [] => none
  | p :: mi => if t = p.1 then some p.2 else lookI t mi
def setI (t : Int) (v : Value) : MI → MI
  | [] => [(t, v)]
  | p :: mi => if t = p.1 then (t, v) :: mi else p :: setI t v mi
def delI (t : Int) : MI → MI
  | [] => []
  | p :: mi => if t = p.1 then mi else p :: delI t mi
variable {P : Program}
section
variable {m : FM} {n b : Nat} {mi : MI} {kt : Nat} {k : IntKind}
theorem s_mp {rec : Nat → List Value → FM → Nat → OR FM} {e : List Value} (op : MOp) (xs : List Opd) : stepA P rec e m n (.mp op xs) = mapV P op (evs e xs) m n := rfl
def lookV (ok : Bool) (z : Value) : Option Value → Value
  | some v => lookR ok v true
  | none => lookR ok z false
end
end Go.Am
namespace Go.Am.C13
open Go Go.Am Go.Am.V
variable {E : Nat → Option AFn} {Y : Nat → List Value → FM → Nat → OR FM}
theorem str_one {P : Program} {m : FM} {n b c : Nat} {z : Int} {o w : Bool} (hb : b < n) (hm : m b = some (.cells [.int .u8 z] 1 o w)) : mapV P .str [.slice (some ⟨b, 0, none⟩) 1 c] m n = .ok (.string ⟨#[UInt8.ofNat z.toNat]⟩) m n (bit b) 0 := by
  show strB m n b 0 1 (getb m n b) = _
  rw [getb_lt hb, hm]; rfl
theorem wrap_u8 {z : Int} (h0 : 0 ≤ z) (h1 : z < 256) : IntKind.u8.wrap z = z := by
  show z % 256 = z
  omega
theorem conv_u8 {z : Nat} (q : IntKind) (h : z < 256) : convV .u8 (.int q (z : Int)) = some (.int .u8 (z : Int)) := by
  show some (Value.int .u8 (wrapF .u8 (z : Int))) = _
  rw [wrapF_eq, wrap_u8 (by omega) (by omega)]
theorem itoa_small {u : Nat} (h : u < 10) : itoaB (u : Int) = ⟨#[UInt8.ofNat (48 + u)]⟩ := by
  refine str_ext ?_
  rw [itoa_list, Txt.itoa_nat, Lib.decDigits, dif_pos h]
theorem itoa_big {u : Nat} (h : ¬ u < 10) : itoaB (u : Int) = itoaB ((u / 10 : Nat) : Int) ++ ⟨#[UInt8.ofNat (48 + u % 10)]⟩ := by
  refine str_ext ?_
  rw [app_list, itoa_list, itoa_list, Txt.itoa_nat, Txt.itoa_nat, Lib.decDigits, dif_neg h]
theorem pure_specB {P : Program} {m : FM} {n f : Nat} {fn : AFn} {args : List Value} {v : Value} (hE : E f = some fn) (ha : llen args = fn.na) (hv : addrFree v = true) (h : Wr P E Y [] 0 (execW P E Y fn.code args m n) fun X _ _ _ w => X = .ret v ∧ Nat.mod w (bit n) = 0) : ∃ r, callW P E Y f args m n = .ok v m n r 0 ∧ Nat.land (bit n) r = 0 := by
  rw [callW_fn hE ha]
  obtain ⟨X, e, m', n', r, w, hx, rfl, hw⟩ := Gv_some (wr_start h)
  rw [hx, leave_ret]
  refine ⟨_, leaveA_free hv hw, ?_⟩
  apply Nat.eq_of_testBit_eq
  intro j
  show Nat.testBit (bit n &&& (r % bit n)) j = _
  rw [Nat.testBit_and, bit_test, Nat.zero_testBit]
  by_cases hj : n = j
  · subst hj
    rw [show bit n = 2 ^ n by rw [bit]; exact Nat.one_shiftLeft n, Nat.testBit_mod_two_pow]
    simp
  · simp [hj]
theorem refNumber_specB (hE : E 38 = some ac38) : ∀ (u : Nat) (m : FM) (n : Nat), u ≤ 9223372036854775807 → ∃ r, callW PG E Y 38 [.int .i64 (u : Int)] m n = .ok (.string (itoaB u)) m n r 0 ∧ Nat.land (bit n) r = 0 := by
  intro u
  induction u using Nat.strongRecOn with
  | ind u ih =>
    intro m n hu
    refine pure_specB hE rfl rfl ?_
    simp only [ac38]
    have fzn : Nat.mod (bit n) (bit n) = 0 := frz_bit (Nat.le_refl _)
    by_cases h : u < 10
    · have s1 := str_one (P := PG) (m := AMem.put m n (some (.cells [.int .u8 ((48 + u : Nat) : Int)] 1 false true))) (n := n + 1) (b := n) (c := 1) (by omega) (fput_same _ _ _)
      simp (implicitDefEqProofs := false) (disch := omega) only [WPs, opds, List.all_cons, List.all_nil, List.cons_append, List.nil_append, cond_true, cond_false, eq_self, List.map_cons, List.map_nil, Nat.reduceAdd, Nat.testBit, Nat.reduceShiftRight, Nat.reduceAnd, Nat.reduceBNe, Nat.reduceMul, s_mp, conv_u8, s1]
      rw [itoa_small h]; rfl
    · have s1 := str_one (P := PG) (m := AMem.put m n (some (.cells [.int .u8 ((48 + u % 10 : Nat) : Int)] 1 false true))) (n := n + 1) (b := n) (c := 1) (by omega) (fput_same _ _ _)
      obtain ⟨r, hr, hl⟩ := ih (u / 10) (by omega) m n (by omega)
      have hi := itoa_size (z := ((u / 10 : Nat) : Int)) (by omega) (by omega)
      have a1 := add_str (P := PG) 9 (a := itoaB ((u / 10 : Nat) : Int)) (b := ⟨#[UInt8.ofNat ((48 + u % 10 : Nat) : Int).toNat]⟩) (by have : (⟨#[UInt8.ofNat ((48 + u % 10 : Nat) : Int).toNat]⟩ : ByteArray).size = 1 := rfl; omega)
      simp (implicitDefEqProofs := false) (disch := omega) only [WPs, opds, List.all_cons, List.all_nil, List.cons_append, List.nil_append, cond_true, cond_false, eq_self, List.map_cons, List.map_nil, Nat.reduceAdd, Nat.testBit, Nat.reduceShiftRight, Nat.reduceAnd, Nat.reduceBNe, Nat.reduceMul, s_mp, conv_u8, hr, hl, s1, a1]
      rw [itoa_big h]; rfl
theorem refNumber_spec (hE : E 38 = some ac38) (u : Nat) (m : FM) (n : Nat) (hu : u ≤ 9223372036854775807) : Pure (callW PG E Y 38 [.int .i64 (u : Int)] m n) m n (.string (itoaB u)) :=
  let ⟨r, h, _⟩ := refNumber_specB hE u m n hu
  ⟨r, h⟩
theorem begins_spec (hE : E 32 = some ac32) (m : FM) (n : Nat) (s w : ByteArray) : Pure (callW PG E Y 32 [.string s, .string w] m n) m n (.bool (begB s.data.toList w.data.toList)) := by
  refine pure_spec hE rfl rfl ?_
  simp only [ac32]
  by_cases h : w.size ≤ s.size
  · simp (implicitDefEqProofs := false) (disch := omega) only [WPs, opds, List.all_cons, List.all_nil, List.cons_append, List.nil_append, cond_true, cond_false, eq_self, List.map_cons, List.map_nil, Nat.reduceAdd, Nat.testBit, Nat.reduceShiftRight, Nat.reduceAnd, Nat.reduceBNe, Nat.reduceMul, t_pur, t_subh h, eql_str]
    have h2 := h
    rw [← str_len, ← str_len] at h2
    rw [begB, decide_eq_true h2, Bool.true_and]
    refine decide_eq_decide.2 ⟨fun e => ?_, fun e => str_ext ?_⟩
    · have := congrArg (fun b : ByteArray => b.data.toList) e
      simp only [ext_list, List.drop_zero, Nat.sub_zero] at this
      rw [str_len]; exact this
    · rw [ext_list, List.drop_zero, Nat.sub_zero, ← str_len]; exact e
  · simp (implicitDefEqProofs := false) (disch := omega) only [WPs, opds, List.all_cons, List.all_nil, List.cons_append, List.nil_append, cond_true, cond_false, eq_self, List.map_cons, List.map_nil, Nat.reduceAdd, Nat.testBit, Nat.reduceShiftRight, Nat.reduceAnd, Nat.reduceBNe, Nat.reduceMul, t_pur, eql_str]
    have h2 := h
    rw [← str_len, ← str_len] at h2
    rw [begB, decide_eq_false h2, Bool.false_and]
theorem refWord_spec (hE : E 37 = some ac37) {k : Int} (h1 : 1 ≤ k) (h2 : k ≤ 7) (m : FM) (n : Nat) : Pure (callW PG E Y 37 [.int .i64 k] m n) m n (.string (wordB k)) := by
  refine pure_spec hE rfl rfl ?_
  simp only [ac37]
  have hw := (word_at h1 h2).1
  simp only [W8, List.map_cons, List.map_nil] at hw
  simp (implicitDefEqProofs := false) (disch := omega) only [WPs, opds, List.all_cons, List.all_nil, List.cons_append, List.nil_append, cond_true, cond_false, eq_self, List.map_cons, List.map_nil, Nat.reduceAdd, Nat.testBit, Nat.reduceShiftRight, Nat.reduceAnd, Nat.reduceBNe, Nat.reduceMul, t_pur, hw]
theorem one_spec (hE : E 25 = some ac25) (hW : E 37 = some ac37) (hN : E 38 = some ac38) {f : Flt} (h1 : 1 ≤ f.kind) (h2 : f.kind ≤ 7) (h3 : 0 ≤ f.at_) (h4 : 0 ≤ f.to) (h5 : small f) (m : FM) (n : Nat) : Pure (callW PG E Y 25 [.agg f.cells.toArray] m n) m n (.string (fltT f)) := by
  refine pure_spec hE rfl rfl ?_
  obtain ⟨a, k, t⟩ := f
  simp only at h1 h2 h3 h4
  obtain ⟨h5, h6⟩ := h5
  simp only at h5 h6
  obtain ⟨u, rfl⟩ := Int.eq_ofNat_of_zero_le h3
  obtain ⟨v, rfl⟩ := Int.eq_ofNat_of_zero_le h4
  obtain ⟨hwd, hws⟩ := word_at h1 h2
  have hi1 := itoa_size (z := (u : Int)) (by omega) (by omega)
  have hi2 := itoa_size (z := (v : Int)) (by omega) (by omega)
  have s1 : (⟨#[32]⟩ : ByteArray).size = 1 := rfl
  have s4 : (⟨#[32, 116, 111, 32]⟩ : ByteArray).size = 4 := rfl
  have a1 := add_str (P := PG) 9 (a := wordB k) (b := ⟨#[32]⟩) (by omega)
  have a2 := add_str (P := PG) 9 (a := wordB k ++ ⟨#[32]⟩) (b := itoaB (u : Int)) (by rw [size_app]; omega)
  have a3 := add_str (P := PG) 9 (a := wordB k ++ ⟨#[32]⟩ ++ itoaB (u : Int)) (b := ⟨#[32, 116, 111, 32]⟩) (by simp only [size_app]; omega)
  have a4 := add_str (P := PG) 9 (a := wordB k ++ ⟨#[32]⟩ ++ itoaB (u : Int) ++ ⟨#[32, 116, 111, 32]⟩) (b := itoaB (v : Int)) (by simp only [size_app]; omega)
  have fzn : Nat.mod (bit n) (bit n) = 0 := frz_bit (Nat.le_refl _)
  simp only [ac25, Flt.cells]
  simp (implicitDefEqProofs := false) (disch := omega) only [WPs, opds, List.all_cons, List.all_nil, List.cons_append, List.nil_append, cond_true, cond_false, eq_self, List.map_cons, List.map_nil, Nat.reduceAdd, Nat.testBit, Nat.reduceShiftRight, Nat.reduceAnd, Nat.reduceBNe, Nat.reduceMul]
  refine use_pureX (refWord_spec hW h1 h2 _ _) fun _ => ?_
  simp (implicitDefEqProofs := false) (disch := omega) only [WPs, opds, List.all_cons, List.all_nil, List.cons_append, List.nil_append, cond_true, cond_false, eq_self, List.map_cons, List.map_nil, Nat.reduceAdd, Nat.testBit, Nat.reduceShiftRight, Nat.reduceAnd, Nat.reduceBNe, Nat.reduceMul, a1]
  refine use_pureX (refNumber_spec hN u _ _ (by omega)) fun _ => ?_
  simp (implicitDefEqProofs := false) (disch := omega) only [WPs, opds, List.all_cons, List.all_nil, List.cons_append, List.nil_append, cond_true, cond_false, eq_self, List.map_cons, List.map_nil, Nat.reduceAdd, Nat.testBit, Nat.reduceShiftRight, Nat.reduceAnd, Nat.reduceBNe, Nat.reduceMul, a2]
  by_cases k3 : k = 3
  · have hT : fltT ⟨(u : Int), k, (v : Int)⟩ = wordB k ++ ⟨#[32]⟩ ++ itoaB (u : Int) ++ ⟨#[32, 116, 111, 32]⟩ ++ itoaB (v : Int) := by rw [fltT, if_pos (by simp [aimsB, k3]), ByteArray.append_assoc (b := ⟨#[32, 116, 111, 32]⟩)]
    simp (implicitDefEqProofs := false) (disch := omega) only [WPs, opds, List.all_cons, List.all_nil, List.cons_append, List.nil_append, cond_true, cond_false, eq_self, List.map_cons, List.map_nil, Nat.reduceAdd, Nat.testBit, Nat.reduceShiftRight, Nat.reduceAnd, Nat.reduceBNe, Nat.reduceMul, decide_eq_true k3, a3]
    refine use_pure (refNumber_spec hN v _ _ (by omega)) fun _ => ?_
    simp (implicitDefEqProofs := false) (disch := omega) only [WPs, opds, List.all_cons, List.all_nil, List.cons_append, List.nil_append, cond_true, cond_false, eq_self, List.map_cons, List.map_nil, Nat.reduceAdd, Nat.testBit, Nat.reduceShiftRight, Nat.reduceAnd, Nat.reduceBNe, Nat.reduceMul, a4]
    rw [hT]
  · by_cases k5 : k = 5
    · have hT : fltT ⟨(u : Int), k, (v : Int)⟩ = wordB k ++ ⟨#[32]⟩ ++ itoaB (u : Int) ++ ⟨#[32, 116, 111, 32]⟩ ++ itoaB (v : Int) := by rw [fltT, if_pos (by simp [aimsB, k5]), ByteArray.append_assoc (b := ⟨#[32, 116, 111, 32]⟩)]
      simp (implicitDefEqProofs := false) (disch := omega) only [WPs, opds, List.all_cons, List.all_nil, List.cons_append, List.nil_append, cond_true, cond_false, eq_self, List.map_cons, List.map_nil, Nat.reduceAdd, Nat.testBit, Nat.reduceShiftRight, Nat.reduceAnd, Nat.reduceBNe, Nat.reduceMul, decide_eq_false k3, decide_eq_true k5, a3]
      refine use_pure (refNumber_spec hN v _ _ (by omega)) fun _ => ?_
      simp (implicitDefEqProofs := false) (disch := omega) only [WPs, opds, List.all_cons, List.all_nil, List.cons_append, List.nil_append, cond_true, cond_false, eq_self, List.map_cons, List.map_nil, Nat.reduceAdd, Nat.testBit, Nat.reduceShiftRight, Nat.reduceAnd, Nat.reduceBNe, Nat.reduceMul, a4]
      rw [hT]
    · have hT : fltT ⟨(u : Int), k, (v : Int)⟩ = wordB k ++ ⟨#[32]⟩ ++ itoaB (u : Int) := by rw [fltT, if_neg (by simp [aimsB, k3, k5])]
      simp (implicitDefEqProofs := false) (disch := omega) only [WPs, opds, List.all_cons, List.all_nil, List.cons_append, List.nil_append, cond_true, cond_false, eq_self, List.map_cons, List.map_nil, Nat.reduceAdd, Nat.testBit, Nat.reduceShiftRight, Nat.reduceAnd, Nat.reduceBNe, Nat.reduceMul, decide_eq_false k3, decide_eq_false k5]
      rw [hT]
theorem joinS_snoc {xs : List ByteArray} (h : xs ≠ []) (x sep : ByteArray) : joinS (xs ++ [x]) sep = joinS xs sep ++ sep ++ x := by
  refine str_ext ?_
  rw [app_list, app_list]
  show Lib.join ((xs ++ [x]).map (·.data.toList)) sep.data.toList = Lib.join (xs.map (·.data.toList)) sep.data.toList ++ sep.data.toList ++ x.data.toList
  cases xs with
  | nil => exact absurd rfl h
  | cons y ys =>
    rw [List.cons_append, List.map_cons, List.map_cons, List.map_append, Lib.join_cons, Lib.join_cons]
    simp [Lib.joinTail]
theorem joinS_one (x sep : ByteArray) : joinS [x] sep = x := by
  refine str_ext ?_
  show Lib.join [x.data.toList] sep.data.toList = _
  rw [Lib.join_one]
theorem joinS_size (fs : List Flt) (hf : ∀ f ∈ fs, 1 ≤ f.kind ∧ f.kind ≤ 7 ∧ 0 ≤ f.at_ ∧ f.at_ ≤ 9223372036854775807 ∧ 0 ≤ f.to ∧ f.to ≤ 9223372036854775807) : (joinS (fs.map fltT) semi).size ≤ fs.length * 54 := by
  have hj := join_len semi.data.toList 52 ((fs.map fltT).map (·.data.toList)) (fun x hx => by
    rw [List.map_map] at hx
    obtain ⟨f, hf', rfl⟩ := List.mem_map.1 hx
    exact fltT_size (hf f hf'))
  rw [List.length_map, List.length_map] at hj
  have e : (joinS (fs.map fltT) semi).size = (Lib.join ((fs.map fltT).map (·.data.toList)) semi.data.toList).length := by simp [joinS, ByteArray.size]
  have s2 : semi.data.toList.length = 2 := rfl
  rw [s2] at hj
  omega
theorem reft_L0 (hO : E 25 = some ac25) (hW : E 37 = some ac37) (hN : E 38 = some ac38) {m : FM} {n : Nat} {lv : Value} {fs : List Flt} (h : FlS m n lv fs) (hs : fs.length ≤ 1048576) (hfit : ∀ f ∈ fs, 1 ≤ f.kind ∧ f.kind ≤ 7 ∧ 0 ≤ f.at_ ∧ f.at_ ≤ 9223372036854775807 ∧ 0 ≤ f.to ∧ f.to ≤ 9223372036854775807) (x2 x3 x4 x5 : Value) {Q : AX → List Value → FM → Nat → Nat → Prop}
    (hQ : ∀ w, Nat.mod w (bit n) = 0 → Q (.exit 0) [.string (joinS (fs.map fltT) semi), x2, x3, x4, x5, lv] m n w) :
    ∀ d j, j + d = fs.length → ∀ (w0 : Nat), Nat.mod w0 (bit n) = 0 →
    Gv (execW PG E Y ac13L0 [.string (joinS ((fs.take j).map fltT) semi), .int .i64 (j : Int), x2, x3, x4, x5, lv] m n) fun X e m n w => Q X e m n (Nat.lor w0 w) := by
  intro d
  induction d with
  | zero =>
    intro j hj w0 hw
    refine wr_loopN (L := ac13L0) (b := ac13L0b) rfl ?_
    simp only [ac13L0b]
    obtain rfl : j = fs.length := by omega
    rw [List.take_length]
    simp (implicitDefEqProofs := false) (disch := omega) only [WPs, opds, List.all_cons, List.all_nil, List.cons_append, List.nil_append, cond_true, cond_false, eq_self, List.map_cons, List.map_nil, Nat.reduceAdd, Nat.testBit, Nat.reduceShiftRight, Nat.reduceAnd, Nat.reduceBNe, Nat.reduceMul, h.len]
    exact hQ _ hw
  | succ d ih =>
    intro j hj w0 hw
    have hjl : j < fs.length := by omega
    obtain ⟨b, o, cells, opn, wr, i1, i2, i3, i4⟩ := h.at hjl
    have ih' := ih (j + 1) (by omega)
    have hjs := joinS_size (fs.take j) (fun f hf => hfit f (List.mem_of_mem_take hf))
    rw [List.length_take] at hjs
    have hmin : min j fs.length * 54 ≤ 1048576 * 54 := Nat.mul_le_mul_right 54 (by omega)
    have hf := hfit fs[j] (List.getElem_mem hjl)
    have hT : (fs.take (j + 1)).map fltT = (fs.take j).map fltT ++ [fltT fs[j]] := by rw [List.take_add_one, List.getElem?_eq_getElem hjl, Option.toList_some, List.map_append]; rfl
    rw [hT] at ih'
    have hsz := fltT_size hf
    generalize fs[j] = f at i4 ih' hf hsz
    have s2 : (⟨#[59, 32]⟩ : ByteArray).size = 2 := rfl
    have i5 : ctake (ldrop cells o) 3 = some [.int .i64 f.at_, .int .i64 f.kind, .int .i64 f.to] := i4
    refine wr_loopN (L := ac13L0) (b := ac13L0b) rfl ?_
    simp only [ac13L0b]
    by_cases h0 : j = 0
    · subst h0
      rw [show (fs.take 0).map fltT = [] from rfl, List.nil_append, joinS_one] at ih'
      rw [show (fs.take 0).map fltT = [] from rfl]
      have e0 : joinS [] semi = ⟨#[]⟩ := rfl
      rw [e0]
      have a0 := add_str (P := PG) 9 (a := ⟨#[]⟩) (b := fltT f) (by have : (⟨#[]⟩ : ByteArray).size = 0 := rfl; omega)
      simp (implicitDefEqProofs := false) (disch := omega) only [WPs, opds, List.all_cons, List.all_nil, List.cons_append, List.nil_append, cond_true, cond_false, eq_self, List.map_cons, List.map_nil, Nat.reduceAdd, Nat.testBit, Nat.reduceShiftRight, Nat.reduceAnd, Nat.reduceBNe, Nat.reduceMul, h.len, i1, i3, i5]
      refine use_pure (one_spec hO hW hN hf.1 hf.2.1 hf.2.2.1 hf.2.2.2.2.1 ⟨hf.2.2.2.1, hf.2.2.2.2.2⟩ _ _) fun _ => ?_
      have e1 : (⟨#[]⟩ : ByteArray) ++ fltT f = fltT f := str_ext (by rw [app_list]; rfl)
      simp (implicitDefEqProofs := false) (disch := omega) only [WPs, opds, List.all_cons, List.all_nil, List.cons_append, List.nil_append, cond_true, cond_false, eq_self, List.map_cons, List.map_nil, Nat.reduceAdd, Nat.testBit, Nat.reduceShiftRight, Nat.reduceAnd, Nat.reduceBNe, Nat.reduceMul, a0, e1]
      exact wr_end (ih' w0 hw) fun X e m n w hq => by simpa only [zero_lor'] using hq
    · have hne : (fs.take j).map fltT ≠ [] := by
        intro e
        have h1 : ((fs.take j).map fltT).length = 0 := by rw [e]; rfl
        rw [List.length_map, List.length_take] at h1
        omega
      rw [joinS_snoc hne] at ih'
      have a1 := add_str (P := PG) 9 (a := joinS ((fs.take j).map fltT) semi) (b := ⟨#[59, 32]⟩) (by omega)
      have a2 := add_str (P := PG) 9 (a := joinS ((fs.take j).map fltT) semi ++ ⟨#[59, 32]⟩) (b := fltT f) (by rw [size_app]; omega)
      simp (implicitDefEqProofs := false) (disch := omega) only [WPs, opds, List.all_cons, List.all_nil, List.cons_append, List.nil_append, cond_true, cond_false, eq_self, List.map_cons, List.map_nil, Nat.reduceAdd, Nat.testBit, Nat.reduceShiftRight, Nat.reduceAnd, Nat.reduceBNe, Nat.reduceMul, h.len, i1, i3, i5, a1]
      refine use_pure (one_spec hO hW hN hf.1 hf.2.1 hf.2.2.1 hf.2.2.2.2.1 ⟨hf.2.2.2.1, hf.2.2.2.2.2⟩ _ _) fun _ => ?_
      simp (implicitDefEqProofs := false) (disch := omega) only [WPs, opds, List.all_cons, List.all_nil, List.cons_append, List.nil_append, cond_true, cond_false, eq_self, List.map_cons, List.map_nil, Nat.reduceAdd, Nat.testBit, Nat.reduceShiftRight, Nat.reduceAnd, Nat.reduceBNe, Nat.reduceMul, a2]
      exact wr_end (ih' w0 hw) fun X e m n w hq => by simpa only [zero_lor'] using hq
theorem refText_spec (hE : E 13 = some ac13) (hV : E 11 = some ac11) (hO : E 25 = some ac25) (hW : E 37 = some ac37) (hN : E 38 = some ac38) (m : FM) (n : Nat) (lv : Value) (fs : List Flt) (h : FlS m n lv fs) (hs : fs.length ≤ 1048576) (hi : ∀ f ∈ fs, f.at_ ≤ 9223372036854775807 ∧ f.to ≤ 9223372036854775807) : Pure (callW PG E Y 13 [lv] m n) m n (.string (textB fs)) := by
  refine pure_spec hE rfl rfl ?_
  simp only [ac13]
  simp (implicitDefEqProofs := false) (disch := omega) only [WPs, opds, List.all_cons, List.all_nil, List.cons_append, List.nil_append, cond_true, cond_false, eq_self, List.map_cons, List.map_nil, Nat.reduceAdd, Nat.testBit, Nat.reduceShiftRight, Nat.reduceAnd, Nat.reduceBNe, Nat.reduceMul]
  refine use_pure (refValid_spec hV m n lv fs h (by omega)) fun _ => ?_
  cases hv : validB fs with
  | false =>
    rw [show textB fs = ⟨#[]⟩ by rw [textB, if_neg (by rw [hv]; decide)]]
    simp (implicitDefEqProofs := false) (disch := omega) only [WPs, opds, List.all_cons, List.all_nil, List.cons_append, List.nil_append, cond_true, cond_false, eq_self, List.map_cons, List.map_nil, Nat.reduceAdd, Nat.testBit, Nat.reduceShiftRight, Nat.reduceAnd, Nat.reduceBNe, Nat.reduceMul]
  | true =>
    have hfit := flt_fit hv hi
    rw [show textB fs = joinS (fs.map fltT) semi by rw [textB, if_pos hv]]
    simp (implicitDefEqProofs := false) (disch := omega) only [WPs, opds, List.all_cons, List.all_nil, List.cons_append, List.nil_append, cond_true, cond_false, eq_self, List.map_cons, List.map_nil, Nat.reduceAdd, Nat.testBit, Nat.reduceShiftRight, Nat.reduceAnd, Nat.reduceBNe, Nat.reduceMul]
    refine wr_kont (reft_L0 hO hW hN h hs hfit _ _ _ _ (fun w hw rr => ?_) fs.length 0 (by omega) 0 (Nat.zero_mod _))
    simp (implicitDefEqProofs := false) (disch := omega) only [WPs, opds, List.all_cons, List.all_nil, List.cons_append, List.nil_append, cond_true, cond_false, eq_self, List.map_cons, List.map_nil, Nat.reduceAdd, Nat.testBit, Nat.reduceShiftRight, Nat.reduceAnd, Nat.reduceBNe, Nat.reduceMul]
    first | exact hw | exact (show Nat.mod w (bit n) = 0 from hw)
end Go.Am.C13
