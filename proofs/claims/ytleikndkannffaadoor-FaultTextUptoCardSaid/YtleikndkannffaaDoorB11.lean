/- The machine and its runs, part 11: An13w An13x An13r An13t AnPost. -/
import Derived.Test.YtleikndkannffaaDoorRows
import Derived.Lib.LaidU8
import Derived.Lib.SmallJoins
import Derived.Lib.AppendIntMem
import Derived.HandedShaped
import Derived.SizedLaws
import Derived.OpenShut
import Derived.LaidLaws
import Derived.Stop.Joined
import Derived.Deep.DeepHandedRow
import Derived.ProofKit
import Derived.Test.YtleikndkannffaaDoorB10
set_option linter.unusedVariables false
set_option linter.unusedSimpArgs false
set_option linter.unusedSectionVars false
namespace Go.Am.C13
open Go Go.Am Go.Am.V
variable {E : Nat → Option AFn} {Y : Nat → List Value → FM → Nat → OR FM}
theorem conv_i64 {z : Nat} (q : IntKind) (h : z < 9223372036854775808) : convV .i64 (.int q (z : Int)) = some (.int .i64 (z : Int)) := by
  show some (Value.int .i64 (wrapF .i64 (z : Int))) = _
  rw [wrapF_eq, wrap_i64 (by omega) (by omega)]
theorem bt_head {s : ByteArray} {c : UInt8} {r : Txt.Bs} (h : s.data.toList = c :: r) : bt s 0 = c.toNat ∧ s.size = r.length + 1 ∧ (s.extract 1 s.size).data.toList = r := by
  refine ⟨by rw [bt, h]; rfl, by rw [← str_len, h]; rfl, ?_⟩
  rw [ext_list, h, List.drop_succ_cons, List.drop_zero, List.take_of_length_le]
  rw [← str_len, h, List.length_cons]; omega
theorem number_L0 {m : FM} {n : Nat} (x2 x3 x4 x5 : Value) {R : Int × Txt.Bs} {Q : AX → List Value → FM → Nat → Nat → Prop}
    (hQ : ∀ (s' : ByteArray), s'.data.toList = R.2 → Q (.exit 0) [.string s', .int .i64 R.1, x2, x3, x4, x5] m n 0) :
    ∀ (l : Txt.Bs) (s : ByteArray) (a : Int), s.data.toList = l → numR a l = R →
    Gv (execW PG E Y ac43L0 [.string s, .int .i64 a, x2, x3, x4, x5] m n) Q := by
  intro l
  induction l with
  | nil =>
    intro s a hs hR
    have h0 : s.size = 0 := by rw [← str_len, hs]; rfl
    refine wr_loopN (L := ac43L0) (b := ac43L0b) rfl ?_
    simp only [ac43L0b]
    simp (implicitDefEqProofs := false) (disch := omega) only [WPs, opds, List.all_cons, List.all_nil, List.cons_append, List.nil_append, cond_true, cond_false, eq_self, List.map_cons, List.map_nil, Nat.reduceAdd, Nat.testBit, Nat.reduceShiftRight, Nat.reduceAnd, Nat.reduceBNe, Nat.reduceMul, h0]
    subst hR
    exact hQ s hs
  | cons c r ih =>
    intro s a hs hR
    obtain ⟨h1, h2, h3⟩ := bt_head hs
    have hc : c.toNat < 256 := c.toNat_lt
    have hb : purV PG .byte [.string s, .int .i64 0] = some (.int .u8 (c.toNat : Int)) := by rw [t_byte0, t_chr (by omega), h1]
    have hx := t_subl1 (P := PG) (k := .i64) (s := s) (by omega)
    refine wr_loopN (L := ac43L0) (b := ac43L0b) rfl ?_
    simp only [ac43L0b]
    by_cases c1 : 48 ≤ c.toNat
    · by_cases c2 : c.toNat ≤ 57
      · simp (implicitDefEqProofs := false) (disch := omega) only [WPs, opds, List.all_cons, List.all_nil, List.cons_append, List.nil_append, cond_true, cond_false, eq_self, List.map_cons, List.map_nil, Nat.reduceAdd, Nat.testBit, Nat.reduceShiftRight, Nat.reduceAnd, Nat.reduceBNe, Nat.reduceMul, h2, t_pur, hb, hx, wrap_u8, conv_i64]
        have hd : isD c = true := by rw [isD, decide_eq_true c1, decide_eq_true c2]; rfl
        rw [numR, if_pos hd] at hR
        rw [h2] at h3
        exact wr_end (ih _ _ h3 hR) fun X e m n w hq => by simpa only [zero_lor'] using hq
      · simp (implicitDefEqProofs := false) (disch := omega) only [WPs, opds, List.all_cons, List.all_nil, List.cons_append, List.nil_append, cond_true, cond_false, eq_self, List.map_cons, List.map_nil, Nat.reduceAdd, Nat.testBit, Nat.reduceShiftRight, Nat.reduceAnd, Nat.reduceBNe, Nat.reduceMul, h2, t_pur, hb, hx, wrap_u8, conv_i64]
        have hd : ¬ isD c = true := by rw [isD, decide_eq_false c2, Bool.and_false]; decide
        rw [numR, if_neg hd] at hR
        subst hR
        exact hQ s hs
    · simp (implicitDefEqProofs := false) (disch := omega) only [WPs, opds, List.all_cons, List.all_nil, List.cons_append, List.nil_append, cond_true, cond_false, eq_self, List.map_cons, List.map_nil, Nat.reduceAdd, Nat.testBit, Nat.reduceShiftRight, Nat.reduceAnd, Nat.reduceBNe, Nat.reduceMul, h2, t_pur, hb, hx, wrap_u8, conv_i64]
      have hd : ¬ isD c = true := by rw [isD, decide_eq_false c1, Bool.false_and]; decide
      rw [numR, if_neg hd] at hR
      subst hR
      exact hQ s hs
def bsB (l : Txt.Bs) : ByteArray := ⟨l.toArray⟩
theorem bsB_list (l : Txt.Bs) : (bsB l).data.toList = l := rfl
theorem bsB_eq {s : ByteArray} {l : Txt.Bs} (h : s.data.toList = l) : s = bsB l := str_ext h
theorem refNum_spec (hE : E 43 = some ac43) (m : FM) (n : Nat) {s : ByteArray} {l : Txt.Bs} (hl : s.data.toList = l) : Pure (callW PG E Y 43 [.string s] m n) m n (.tuple #[.int .i64 (numR 0 l).1, .string (bsB (numR 0 l).2)]) := by
  refine pure_spec hE rfl rfl ?_
  simp only [ac43]
  simp (implicitDefEqProofs := false) (disch := omega) only [WPs, opds, List.all_cons, List.all_nil, List.cons_append, List.nil_append, cond_true, cond_false, eq_self, List.map_cons, List.map_nil, Nat.reduceAdd, Nat.testBit, Nat.reduceShiftRight, Nat.reduceAnd, Nat.reduceBNe, Nat.reduceMul]
  refine wr_kont ((number_L0 (R := numR 0 l) _ _ _ _ (fun s' hs' rr => ?_) l s 0 hl rfl))
  obtain rfl := bsB_eq hs'
  simp (implicitDefEqProofs := false) (disch := omega) only [WPs, opds, List.all_cons, List.all_nil, List.cons_append, List.nil_append, cond_true, cond_false, eq_self, List.map_cons, List.map_nil, Nat.reduceAdd, Nat.testBit, Nat.reduceShiftRight, Nat.reduceAnd, Nat.reduceBNe, Nat.reduceMul]
theorem read_L0 (hB : E 32 = some ac32) (hW : E 37 = some ac37) (hN : E 43 = some ac43) {m : FM} {n N pb : Nat} (hpb : n ≤ pb) (hpN : pb < N) {s : ByteArray} {l : Txt.Bs} (hl : s.data.toList = l) (hs : s.size < 1000000000) (x1 x2 x4 x5 x6 x8 : Value) {Q : AX → List Value → FM → Nat → Nat → Prop} {R : Option (Flt × Txt.Bs)}
    (hm : m pb = some (.cells [.int .i64 0, .int .i64 0, .int .i64 0] 0 false true))
    (hQ0 : R = none → Q (.exit 0) [.string s, x1, x2, x4, x5, x6, .pointer (some ⟨pb, 0, none⟩), x8] m N 0)
    (hQ1 : ∀ x, R = some x → ∀ e m' n' w, N ≤ n' → (∀ b, b < n → m' b = m b) → Nat.mod w (bit n) = 0 → Q (.ret (.tuple #[.agg x.1.cells.toArray, .string (bsB x.2), .bool true])) e m' n' w) :
    ∀ d k, k + d = 8 → 1 ≤ k → readK l d k = R →
    Gv (execW PG E Y ac31L0 [.string s, x1, x2, .int .i64 (k : Int), x4, x5, x6, .pointer (some ⟨pb, 0, none⟩), x8] m N) Q := by
  intro d
  induction d with
  | zero =>
    intro k hk h1 hR
    obtain rfl : k = 8 := by omega
    refine wr_loopN (L := ac31L0) (b := ac31L0b) rfl ?_
    simp only [ac31L0b]
    simp (implicitDefEqProofs := false) (disch := omega) only [WPs, opds, List.all_cons, List.all_nil, List.cons_append, List.nil_append, cond_true, cond_false, eq_self, List.map_cons, List.map_nil, Nat.reduceAdd, Nat.testBit, Nat.reduceShiftRight, Nat.reduceAnd, Nat.reduceBNe, Nat.reduceMul]
    exact hQ0 hR.symm
  | succ d ih =>
    intro k hk h1 hR
    refine wr_loopN (L := ac31L0) (b := ac31L0b) rfl ?_
    simp only [ac31L0b]
    obtain ⟨hwd, hws⟩ := word_at (k := (k : Int)) (by omega) (by omega)
    have s1 : (⟨#[32]⟩ : ByteArray).size = 1 := rfl
    have a1 := add_str (P := PG) 9 (a := wordB k) (b := ⟨#[32]⟩) (by omega)
    simp (implicitDefEqProofs := false) (disch := omega) only [WPs, opds, List.all_cons, List.all_nil, List.cons_append, List.nil_append, cond_true, cond_false, eq_self, List.map_cons, List.map_nil, Nat.reduceAdd, Nat.testBit, Nat.reduceShiftRight, Nat.reduceAnd, Nat.reduceBNe, Nat.reduceMul]
    refine use_pure (refWord_spec hW (by omega) (by omega) _ _) fun _ => ?_
    simp (implicitDefEqProofs := false) (disch := omega) only [WPs, opds, List.all_cons, List.all_nil, List.cons_append, List.nil_append, cond_true, cond_false, eq_self, List.map_cons, List.map_nil, Nat.reduceAdd, Nat.testBit, Nat.reduceShiftRight, Nat.reduceAnd, Nat.reduceBNe, Nat.reduceMul, a1]
    refine use_pure (begins_spec hB _ _ _ _) fun _ => ?_
    have hwl : (wordB (k : Int) ++ ⟨#[32]⟩).data.toList = wordL k ++ [32] := by rw [app_list, word_list]
    rw [hl, hwl]
    cases hbg : begB l (wordL k ++ [32]) with
    | false =>
      simp (implicitDefEqProofs := false) (disch := omega) only [WPs, opds, List.all_cons, List.all_nil, List.cons_append, List.nil_append, cond_true, cond_false, eq_self, List.map_cons, List.map_nil, Nat.reduceAdd, Nat.testBit, Nat.reduceShiftRight, Nat.reduceAnd, Nat.reduceBNe, Nat.reduceMul]
      rw [readK, if_neg (by rw [hbg]; decide)] at hR
      exact wr_end (ih (k + 1) (by omega) (by omega) hR) fun X e m n w hq => by simpa only [zero_lor'] using hq
    | true =>
      rw [readK, if_pos hbg] at hR
      have hwsz : (wordB (k : Int) ++ ⟨#[32]⟩).size = (wordL k).length + 1 := by rw [← str_len, hwl, List.length_append]; rfl
      have hle : (wordL k).length + 1 ≤ s.size := by
        unfold begB at hbg
        rw [Bool.and_eq_true] at hbg
        have := of_decide_eq_true hbg.1
        rw [List.length_append] at this
        rw [← str_len, hl]; exact this
      have hx := t_subl (P := PG) (k := .i64) (s := s) (a := (wordL k).length + 1) hle
      have hxl : (s.extract ((wordL k).length + 1) s.size).data.toList = l.drop ((wordL k).length + 1) := by
        rw [ext_list, hl, List.take_of_length_le]
        rw [List.length_drop, ← hl, str_len]; exact Nat.le_refl _
      simp (implicitDefEqProofs := false) (disch := omega) only [WPs, opds, List.all_cons, List.all_nil, List.cons_append, List.nil_append, cond_true, cond_false, eq_self, List.map_cons, List.map_nil, Nat.reduceAdd, Nat.testBit, Nat.reduceShiftRight, Nat.reduceAnd, Nat.reduceBNe, Nat.reduceMul, t_pur, hwsz, hx]
      refine use_pure (refNum_spec hN _ _ hxl) fun _ => ?_
      unfold readOne at hR
      replace hR : some (if begB (numR 0 (l.drop ((wordL k).length + 1))).2 to4L = true then ((⟨(numR 0 (l.drop ((wordL k).length + 1))).1, (k : Int), (numR 0 ((numR 0 (l.drop ((wordL k).length + 1))).2.drop 4)).1⟩ : Flt), (numR 0 ((numR 0 (l.drop ((wordL k).length + 1))).2.drop 4)).2) else (⟨(numR 0 (l.drop ((wordL k).length + 1))).1, (k : Int), 0⟩, (numR 0 (l.drop ((wordL k).length + 1))).2)) = R := hR
      generalize numR 0 (l.drop ((wordL k).length + 1)) = x at hR
      simp (implicitDefEqProofs := false) (disch := omega) only [WPs, opds, List.all_cons, List.all_nil, List.cons_append, List.nil_append, cond_true, cond_false, eq_self, List.map_cons, List.map_nil, Nat.reduceAdd, Nat.testBit, Nat.reduceShiftRight, Nat.reduceAnd, Nat.reduceBNe, Nat.reduceMul, ey0, ey1]
      refine use_pure (begins_spec hB _ _ _ _) fun _ => ?_
      have ht4 : (⟨#[32, 116, 111, 32]⟩ : ByteArray).data.toList = to4L := rfl
      rw [bsB_list, ht4]
      have fzN : Nat.mod (bit N) (bit n) = 0 := frz_bit (by omega)
      have fzp : Nat.mod (bit pb) (bit n) = 0 := frz_bit hpb
      have hpb2 : ∀ (B : Option Blk), (AMem.put m N B : FM) pb = some (.cells [.int .i64 0, .int .i64 0, .int .i64 0] 0 false true) := fun B => by rw [fput_ne _ _ _ _ (by omega)]; exact hm
      cases hbt : begB x.2 to4L with
      | false =>
        rw [if_neg (by rw [hbt]; decide)] at hR
        simp (implicitDefEqProofs := false) (disch := omega) only [WPs, opds, List.all_cons, List.all_nil, List.cons_append, List.nil_append, cond_true, cond_false, eq_self, List.map_cons, List.map_nil, Nat.reduceAdd, Nat.testBit, Nat.reduceShiftRight, Nat.reduceAnd, Nat.reduceBNe, Nat.reduceMul, hpb2]
        refine hQ1 _ hR.symm _ _ _ _ (by omega) (fun b hb => by rw [fput_ne _ _ _ _ (by omega), fput_ne _ _ _ _ (by omega)]) ?_
        simp only [frz_iff]
        exact ⟨⟨⟨fzN, fzN⟩, fzN⟩, fzp⟩
      | true =>
        rw [if_pos hbt] at hR
        have h4 : 4 ≤ (bsB x.2).size := by
          have h := hbt
          unfold begB at h
          rw [Bool.and_eq_true] at h
          have := of_decide_eq_true h.1
          rw [← str_len, bsB_list]; exact this
        have hy := t_subl (P := PG) (k := .i64) (s := bsB x.2) (a := 4) h4
        have hyl : ((bsB x.2).extract 4 (bsB x.2).size).data.toList = x.2.drop 4 := by
          rw [ext_list, bsB_list, List.take_of_length_le]
          rw [List.length_drop, ← str_len, bsB_list]; exact Nat.le_refl _
        replace hy : purV PG .subl [.string (bsB x.2), .int .i64 4] = some (.string ((bsB x.2).extract 4 (bsB x.2).size)) := hy
        simp (implicitDefEqProofs := false) (disch := omega) only [WPs, opds, List.all_cons, List.all_nil, List.cons_append, List.nil_append, cond_true, cond_false, eq_self, List.map_cons, List.map_nil, Nat.reduceAdd, Nat.testBit, Nat.reduceShiftRight, Nat.reduceAnd, Nat.reduceBNe, Nat.reduceMul, t_pur, hy]
        refine use_pure (refNum_spec hN _ _ hyl) fun _ => ?_
        simp (implicitDefEqProofs := false) (disch := omega) only [WPs, opds, List.all_cons, List.all_nil, List.cons_append, List.nil_append, cond_true, cond_false, eq_self, List.map_cons, List.map_nil, Nat.reduceAdd, Nat.testBit, Nat.reduceShiftRight, Nat.reduceAnd, Nat.reduceBNe, Nat.reduceMul, ey0, ey1, hpb2]
        refine hQ1 _ hR.symm _ _ _ _ (by omega) (fun b hb => by rw [fput_ne _ _ _ _ (by omega), fput_ne _ _ _ _ (by omega)]) ?_
        simp only [frz_iff]
        first | exact ⟨⟨⟨⟨fzN, fzN⟩, fzN⟩, fzN⟩, fzp⟩ | simp only [fzN, fzp, and_self]
def readV : Option (Flt × Txt.Bs) → Value → Prop
  | some x, v => v = .tuple #[.agg x.1.cells.toArray, .string (bsB x.2), .bool true]
  | none, v => ∃ s, v = .tuple #[.agg #[.int .i64 0, .int .i64 0, .int .i64 0], .string s, .bool false]
theorem read_spec (hE : E 31 = some ac31) (hB : E 32 = some ac32) (hW : E 37 = some ac37) (hN : E 43 = some ac43) (m : FM) (n : Nat) {s : ByteArray} {l : Txt.Bs} (hl : s.data.toList = l) (hs : s.size < 1000000000) :
    Rt (callW PG E Y 31 [.string s] m n) fun v M' N' w => n ≤ N' ∧ (∀ b, b < n → M' b = m b) ∧ (∀ j, j ≤ n → Nat.mod w (bit j) = 0) ∧ readV (readR l) v := by
  refine kept_specQ (R := fun v _ _ => readV (readR l) v) hE rfl fun Q hQ => ?_
  simp only [ac31]
  simp (implicitDefEqProofs := false) (disch := omega) only [WPs, opds, List.all_cons, List.all_nil, List.cons_append, List.nil_append, cond_true, cond_false, eq_self, List.map_cons, List.map_nil, Nat.reduceAdd, Nat.testBit, Nat.reduceShiftRight, Nat.reduceAnd, Nat.reduceBNe, Nat.reduceMul]
  have fzn : Nat.mod (bit n) (bit n) = 0 := frz_bit (Nat.le_refl _)
  refine wr_kont (read_L0 (n := n) hB hW hN (Nat.le_refl n) (Nat.lt_succ_self n) hl hs _ _ _ _ _ _ (R := readR l) (fput_same _ _ _) (fun hR rr => ?_) (fun x hR e m' n' w h1 h2 h3 rr => ?_) 7 1 (by omega) (by omega) rfl)
  · simp (implicitDefEqProofs := false) (disch := omega) only [WPs, opds, List.all_cons, List.all_nil, List.cons_append, List.nil_append, cond_true, cond_false, eq_self, List.map_cons, List.map_nil, Nat.reduceAdd, Nat.testBit, Nat.reduceShiftRight, Nat.reduceAnd, Nat.reduceBNe, Nat.reduceMul]
    refine hQ _ _ _ _ _ (by omega) (fun b hb => by rw [fput_ne _ _ _ _ (by omega)]) (by simp only [frz_iff]; exact ⟨fzn, fzn⟩) rfl ?_
    rw [hR]; exact ⟨_, rfl⟩
  · simp (implicitDefEqProofs := false) (disch := omega) only [WPs, opds, List.all_cons, List.all_nil, List.cons_append, List.nil_append, cond_true, cond_false, eq_self, List.map_cons, List.map_nil, Nat.reduceAdd, Nat.testBit, Nat.reduceShiftRight, Nat.reduceAnd, Nat.reduceBNe, Nat.reduceMul]
    refine hQ _ _ _ _ _ (by omega) (fun b hb => (h2 b hb).trans (fput_ne _ _ _ _ (by omega))) (by simp only [frz_iff]; exact ⟨fzn, h3⟩) rfl ?_
    rw [hR]; rfl
theorem numR_len : ∀ (l : Txt.Bs) (a : Int), (numR a l).2.length ≤ l.length
  | [], a => Nat.le_refl _
  | c :: r, a => by
    unfold numR
    split
    · have := numR_len r (stepR a c)
      rw [List.length_cons]; omega
    · exact Nat.le_refl _
theorem readOne_len (l : Txt.Bs) (k : Nat) : (readOne l k).2.length ≤ l.length - ((wordL k).length + 1) := by
  have h1 := numR_len (l.drop ((wordL k).length + 1)) 0
  rw [List.length_drop] at h1
  unfold readOne
  simp only
  split
  · have h2 := numR_len ((numR 0 (l.drop ((wordL k).length + 1))).2.drop 4) 0
    rw [List.length_drop] at h2
    show (numR 0 ((numR 0 (l.drop ((wordL k).length + 1))).2.drop 4)).2.length ≤ _
    omega
  · exact h1
theorem readK_len (l : Txt.Bs) : ∀ (d k : Nat) (x : Flt × Txt.Bs), readK l d k = some x → x.2.length < l.length
  | 0, k, x, h => by cases h
  | d + 1, k, x, h => by
    unfold readK at h
    split at h
    · rename_i hb
      injection h with h
      subst h
      have h1 := readOne_len l k
      unfold begB at hb
      rw [Bool.and_eq_true] at hb
      have h2 := of_decide_eq_true hb.1
      rw [List.length_append, List.length_singleton] at h2
      omega
    · exact readK_len l d (k + 1) x h
theorem rparse_L0 (hR : E 31 = some ac31) (hB : E 32 = some ac32) (hW : E 37 = some ac37) (hNm : E 43 = some ac43) {m : FM} {n : Nat} (x0 x1 x4 x5 x6 x7 : Value) {Q : AX → List Value → FM → Nat → Nat → Prop} {R : Option (List Flt)}
    (hQ0 : R = none → ∀ e M N w, n ≤ N → (∀ b, b < n → M b = m b) → Nat.mod w (bit n) = 0 → Q (.ret (.tuple #[.slice none 0 0, .int .i64 4])) e M N w)
    (hQ1 : ∀ fs, R = some fs → ∀ ov M N w, n ≤ N → (∀ b, b < n → M b = m b) → Nat.mod w (bit n) = 0 → FlZ M n N ov fs → Q (.exit 0) [x0, x1, ov, x4, x5, x6, x7] M N w) :
    ∀ k (l : Txt.Bs) (s : ByteArray) (out : List Flt) (ov : Value) (M : FM) (N w0 : Nat), s.data.toList = l → s.size < 1000 → l.length < k → out.length + l.length < 100000 → n ≤ N → (∀ b, b < n → M b = m b) → Nat.mod w0 (bit n) = 0 → FlZ M n N ov out → loopR k l out = R →
    Gv (execW PG E Y ac16L0 [x0, x1, ov, .string s, x4, x5, x6, x7] M N) fun X e m n w => Q X e m n (Nat.lor w0 w) := by
  intro k
  induction k with
  | zero => intro l s out ov M N w0 hl hs hk; omega
  | succ k ih =>
    intro l s out ov M N w0 hl hs hk ho hN hM hw hZ hL
    refine wr_loopN (L := ac16L0) (b := ac16L0b) rfl ?_
    simp only [ac16L0b]
    by_cases h0 : l = []
    · have hs0 : s.size = 0 := by rw [← str_len, hl, h0]; rfl
      rw [loopR, if_pos h0] at hL
      simp (implicitDefEqProofs := false) (disch := omega) only [WPs, opds, List.all_cons, List.all_nil, List.cons_append, List.nil_append, cond_true, cond_false, eq_self, List.map_cons, List.map_nil, Nat.reduceAdd, Nat.testBit, Nat.reduceShiftRight, Nat.reduceAnd, Nat.reduceBNe, Nat.reduceMul, hs0]
      exact hQ1 out hL.symm _ _ _ _ hN hM hw hZ
    · have hs0 : 0 < s.size := by rw [← str_len, hl]; exact List.length_pos_iff.2 h0
      rw [loopR, if_neg h0] at hL
      simp (implicitDefEqProofs := false) (disch := omega) only [WPs, opds, List.all_cons, List.all_nil, List.cons_append, List.nil_append, cond_true, cond_false, eq_self, List.map_cons, List.map_nil, Nat.reduceAdd, Nat.testBit, Nat.reduceShiftRight, Nat.reduceAnd, Nat.reduceBNe, Nat.reduceMul]
      refine use_rt (read_spec hR hB hW hNm M N hl (by omega)) fun v M1 N1 r1 w1 ⟨n1, m1, f1, hv⟩ => ?_
      have fz1 : Nat.mod (bit N1) (bit n) = 0 := frz_bit (by omega)
      have fz2 : Nat.mod (bit (N1 + 1)) (bit n) = 0 := frz_bit (by omega)
      cases hx : readR l with
      | none =>
        rw [hx] at hv hL
        obtain ⟨s', rfl⟩ := hv
        simp (implicitDefEqProofs := false) (disch := omega) only [WPs, opds, List.all_cons, List.all_nil, List.cons_append, List.nil_append, cond_true, cond_false, eq_self, List.map_cons, List.map_nil, Nat.reduceAdd, Nat.testBit, Nat.reduceShiftRight, Nat.reduceAnd, Nat.reduceBNe, Nat.reduceMul, ex0, ex1, ex2]
        refine hQ0 hL.symm _ _ _ _ (by omega) (fun b hb => by rw [fput_ne _ _ _ _ (by omega), m1 b (by omega)]; exact hM b hb) ?_
        simp only [frz_iff]
        exact ⟨hw, ⟨f1 n hN, fz1⟩, fz1⟩
      | some x =>
        rw [hx] at hv hL
        replace hL : (if begB x.2 semiL = true then loopR k (x.2.drop 2) (out ++ [x.1]) else if x.2 = [] then loopR k [] (out ++ [x.1]) else none) = R := hL
        obtain rfl : v = _ := hv
        have hlen := readK_len l 7 1 x hx
        obtain ⟨x, y⟩ := x
        simp only [Flt.cells]
        simp only at hL hlen
        simp (implicitDefEqProofs := false) (disch := omega) only [WPs, opds, List.all_cons, List.all_nil, List.cons_append, List.nil_append, cond_true, cond_false, eq_self, List.map_cons, List.map_nil, Nat.reduceAdd, Nat.testBit, Nat.reduceShiftRight, Nat.reduceAnd, Nat.reduceBNe, Nat.reduceMul, ex0, ex1, ex2]
        refine use_rt (app_flZ (SlZ.frame hZ (by omega) fun b _ hb => by rw [fput_ne _ _ _ _ (by omega), fput_ne _ _ _ _ (by omega)]; exact m1 b hb) x _ _ _ (by omega) (by omega)) fun v5 M5 N5 r5 w5 ⟨e5, z5, low5, fr5⟩ => ?_
        subst e5
        have m5 : ∀ b, b < n → M5 b = m b := fun b hb => by rw [low5 b hb, fput_ne _ _ _ _ (by omega), fput_ne _ _ _ _ (by omega), m1 b (by omega)]; exact hM b hb
        have fz5 := fr5 n (Nat.le_refl _)
        simp (implicitDefEqProofs := false) (disch := omega) only [WPs, opds, List.all_cons, List.all_nil, List.cons_append, List.nil_append, cond_true, cond_false, eq_self, List.map_cons, List.map_nil, Nat.reduceAdd, Nat.testBit, Nat.reduceShiftRight, Nat.reduceAnd, Nat.reduceBNe, Nat.reduceMul]
        refine use_pure (begins_spec hB _ _ _ _) fun _ => ?_
        have hse : (⟨#[59, 32]⟩ : ByteArray).data.toList = semiL := rfl
        rw [bsB_list, hse]
        have hys : (bsB y).size = y.length := by rw [← str_len, bsB_list]
        have hl2 : l.length = s.size := by rw [← hl, str_len]
        cases hbg : begB y semiL with
        | true =>
          rw [if_pos hbg] at hL
          have h2 : 2 ≤ y.length := by
            unfold begB at hbg
            rw [Bool.and_eq_true] at hbg
            exact of_decide_eq_true hbg.1
          have hx2 := t_subl (P := PG) (k := .i64) (s := bsB y) (a := 2) (by omega)
          replace hx2 : purV PG .subl [.string (bsB y), .int .i64 2] = some (.string ((bsB y).extract 2 (bsB y).size)) := hx2
          have hxl : ((bsB y).extract 2 (bsB y).size).data.toList = y.drop 2 := by
            rw [ext_list, bsB_list, List.take_of_length_le]
            rw [List.length_drop, hys]; exact Nat.le_refl _
          simp (implicitDefEqProofs := false) (disch := omega) only [WPs, opds, List.all_cons, List.all_nil, List.cons_append, List.nil_append, cond_true, cond_false, eq_self, List.map_cons, List.map_nil, Nat.reduceAdd, Nat.testBit, Nat.reduceShiftRight, Nat.reduceAnd, Nat.reduceBNe, Nat.reduceMul, t_pur, hx2]
          refine wr_end (ih (y.drop 2) _ (out ++ [x]) v5 M5 (N1 + 3) (Nat.lor w0 (Nat.lor (Nat.lor (Nat.lor w1 (bit N1)) (bit N1)) (Nat.lor (bit (N1 + 1)) w5))) hxl (by rw [ext_size]; omega) (by rw [List.length_drop]; omega) (by rw [List.length_drop, List.length_append, List.length_singleton]; omega) (by omega) m5 ?_ z5 hL) fun X e m n w hq => ?_
          · simp only [frz_iff]; exact ⟨hw, ⟨⟨f1 n hN, fz1⟩, fz1⟩, fz2, fz5⟩
          · rw [← lor_assoc']; exact hq
        | false =>
          rw [if_neg (by rw [hbg]; decide)] at hL
          by_cases hy : y = []
          · rw [if_pos hy] at hL
            have hy0 : (bsB y).size = 0 := by rw [hys, hy]; rfl
            simp (implicitDefEqProofs := false) (disch := omega) only [WPs, opds, List.all_cons, List.all_nil, List.cons_append, List.nil_append, cond_true, cond_false, eq_self, List.map_cons, List.map_nil, Nat.reduceAdd, Nat.testBit, Nat.reduceShiftRight, Nat.reduceAnd, Nat.reduceBNe, Nat.reduceMul, hy0]
            refine wr_end (ih [] _ (out ++ [x]) v5 M5 (N1 + 3) (Nat.lor w0 (Nat.lor (Nat.lor (Nat.lor w1 (bit N1)) (bit N1)) (Nat.lor (bit (N1 + 1)) w5))) (by rw [hy]; rfl) (by omega) (by rw [List.length_nil]; omega) (by rw [List.length_nil, List.length_append, List.length_singleton]; omega) (by omega) m5 ?_ z5 hL) fun X e m n w hq => ?_
            · simp only [frz_iff]; exact ⟨hw, ⟨⟨f1 n hN, fz1⟩, fz1⟩, fz2, fz5⟩
            · rw [← lor_assoc']; exact hq
          · rw [if_neg hy] at hL
            have hy0 : 0 < (bsB y).size := by rw [hys]; exact List.length_pos_iff.2 hy
            simp (implicitDefEqProofs := false) (disch := omega) only [WPs, opds, List.all_cons, List.all_nil, List.cons_append, List.nil_append, cond_true, cond_false, eq_self, List.map_cons, List.map_nil, Nat.reduceAdd, Nat.testBit, Nat.reduceShiftRight, Nat.reduceAnd, Nat.reduceBNe, Nat.reduceMul]
            refine hQ0 hL.symm _ _ _ _ (by omega) m5 ?_
            simp only [frz_iff]
            exact ⟨hw, ⟨⟨f1 n hN, fz1⟩, fz1⟩, fz2, fz5⟩
theorem wrap_le (z : Int) : IntKind.i64.wrap z ≤ 9223372036854775807 := by
  show (if (true && decide (z % 18446744073709551616 ≥ 9223372036854775808)) = true then z % 18446744073709551616 - 18446744073709551616 else z % 18446744073709551616) ≤ 9223372036854775807
  split
  · omega
  · rename_i h
    rw [Bool.true_and, decide_eq_true_iff] at h
    omega
theorem numR_le : ∀ (l : Txt.Bs) (a : Int), a ≤ 9223372036854775807 → (numR a l).1 ≤ 9223372036854775807
  | [], a, h => h
  | c :: r, a, h => by
    unfold numR
    split
    · exact numR_le r _ (wrap_le _)
    · exact h
theorem readK_small (l : Txt.Bs) : ∀ (d k : Nat) (x : Flt × Txt.Bs), readK l d k = some x → small x.1
  | 0, k, x, h => by cases h
  | d + 1, k, x, h => by
    unfold readK at h
    split at h
    · injection h with h
      subst h
      unfold readOne
      simp only
      split
      · exact ⟨numR_le _ _ (by omega), numR_le _ _ (by omega)⟩
      · exact ⟨numR_le _ _ (by omega), by show (0 : Int) ≤ 9223372036854775807; omega⟩
    · exact readK_small l d (k + 1) x h
theorem loopR_small : ∀ (n : Nat) (l : Txt.Bs) (out fs : List Flt), (∀ f ∈ out, small f) → loopR n l out = some fs → ∀ f ∈ fs, small f
  | 0, l, out, fs, _, h => by cases h
  | n + 1, l, out, fs, ho, h => by
    unfold loopR at h
    split at h
    · injection h with h; subst h; exact ho
    · split at h
      · cases h
      · rename_i x hx
        have hs := readK_small l 7 1 x hx
        have ho' : ∀ f ∈ out ++ [x.1], small f := fun f hf => by
          rcases List.mem_append.1 hf with hf | hf
          · exact ho f hf
          · rw [List.mem_singleton] at hf; subst hf; exact hs
        split at h
        · exact loopR_small n _ _ fs ho' h
        · split at h
          · exact loopR_small n _ _ fs ho' h
          · cases h
theorem loopR_len : ∀ (n : Nat) (l : Txt.Bs) (out fs : List Flt), loopR n l out = some fs → fs.length ≤ out.length + l.length
  | 0, l, out, fs, h => by cases h
  | n + 1, l, out, fs, h => by
    unfold loopR at h
    split at h
    · injection h with h; subst h; omega
    · split at h
      · cases h
      · rename_i x hx
        have hs := readK_len l 7 1 x hx
        split at h
        · have := loopR_len n _ _ fs h
          rw [List.length_append, List.length_singleton, List.length_drop] at this
          rename_i hb
          unfold begB at hb
          rw [Bool.and_eq_true] at hb
          have h2 := of_decide_eq_true hb.1
          have : semiL.length = 2 := rfl
          omega
        · split at h
          · have := loopR_len n _ _ fs h
            rw [List.length_append, List.length_singleton, List.length_nil] at this
            omega
          · cases h
def refE (t : Txt.Bs) : Int × List Flt := match refP t with
  | some fs => (0, fs)
  | none => (4, [])
theorem refE_some {t : Txt.Bs} {fs : List Flt} (h : refP t = some fs) : refE t = (0, fs) := by rw [refE, h]
theorem refE_none {t : Txt.Bs} (h : refP t = none) : refE t = (4, []) := by rw [refE, h]
theorem refParse_spec (hE : E 16 = some ac16) (h11 : E 11 = some ac11) (h13 : E 13 = some ac13) (h25 : E 25 = some ac25) (h38 : E 38 = some ac38) (hR : E 31 = some ac31) (hB : E 32 = some ac32) (hW : E 37 = some ac37) (hNm : E 43 = some ac43) (m : FM) (n : Nat) {t : ByteArray} {l : Txt.Bs} (hl : t.data.toList = l) (hs : t.size < 1000) :
    Rt (callW PG E Y 16 [.string t] m n) fun v M' N' w => n ≤ N' ∧ (∀ b, b < n → M' b = m b) ∧ (∀ j, j ≤ n → Nat.mod w (bit j) = 0) ∧ ∃ lv, v = .tuple #[lv, .int .i64 (refE l).1] ∧ FlZ M' n N' lv (refE l).2 := by
  refine kept_specA (R := fun v M' N' => ∃ lv, v = .tuple #[lv, .int .i64 (refE l).1] ∧ FlZ M' n N' lv (refE l).2) hE rfl fun Q hQ => ?_
  simp only [ac16]
  have hl2 : l.length = t.size := by rw [← hl, str_len]
  simp (implicitDefEqProofs := false) (disch := omega) only [WPs, opds, List.all_cons, List.all_nil, List.cons_append, List.nil_append, cond_true, cond_false, eq_self, List.map_cons, List.map_nil, Nat.reduceAdd, Nat.testBit, Nat.reduceShiftRight, Nat.reduceAnd, Nat.reduceBNe, Nat.reduceMul]
  refine wr_kont (rparse_L0 hR hB hW hNm (m := m) (n := n) (R := loopR (l.length + 1) l []) _ _ _ _ _ _ (fun hR0 e M N w hN hM hw rr => ?_) (fun fs hR1 ov M N w hN hM hw hZ rr => ?_) (l.length + 1) l t [] _ m n 0 hl (by omega) (by omega) (by rw [List.length_nil]; omega) (Nat.le_refl _) (fun _ _ => rfl) (Nat.zero_mod _) (FlZ.nil _ _ _) rfl)
  · have hP : refP l = none := by rw [refP, hR0]
    rw [refE_none hP] at hQ
    simp (implicitDefEqProofs := false) (disch := omega) only [WPs, opds, List.all_cons, List.all_nil, List.cons_append, List.nil_append, cond_true, cond_false, eq_self, List.map_cons, List.map_nil, Nat.reduceAdd, Nat.testBit, Nat.reduceShiftRight, Nat.reduceAnd, Nat.reduceBNe, Nat.reduceMul]
    exact hQ _ _ _ _ _ hN hM hw (fun _ => ⟨_, rfl, FlZ.nil _ _ _⟩) (fun _ => ⟨_, rfl, FlZ.nil _ _ _⟩)
  · have hsm := loopR_small _ _ _ fs (by simp) hR1
    have hln := loopR_len _ _ _ fs hR1
    rw [List.length_nil] at hln
    have hfl := hZ.s
    simp (implicitDefEqProofs := false) (disch := omega) only [WPs, opds, List.all_cons, List.all_nil, List.cons_append, List.nil_append, cond_true, cond_false, eq_self, List.map_cons, List.map_nil, Nat.reduceAdd, Nat.testBit, Nat.reduceShiftRight, Nat.reduceAnd, Nat.reduceBNe, Nat.reduceMul]
    refine use_pure (refValid_spec h11 M N ov fs hfl (by omega)) fun _ => ?_
    cases hv : validB fs with
    | false =>
      have hP : refP l = none := by rw [refP, hR1]; simp only; rw [if_neg (by rw [hv]; simp)]
      rw [refE_none hP] at hQ
      simp (implicitDefEqProofs := false) (disch := omega) only [WPs, opds, List.all_cons, List.all_nil, List.cons_append, List.nil_append, cond_true, cond_false, eq_self, List.map_cons, List.map_nil, Nat.reduceAdd, Nat.testBit, Nat.reduceShiftRight, Nat.reduceAnd, Nat.reduceBNe, Nat.reduceMul]
      exact hQ _ _ _ _ _ hN hM hw (fun _ => ⟨_, rfl, FlZ.nil _ _ _⟩) (fun _ => ⟨_, rfl, FlZ.nil _ _ _⟩)
    | true =>
      simp (implicitDefEqProofs := false) (disch := omega) only [WPs, opds, List.all_cons, List.all_nil, List.cons_append, List.nil_append, cond_true, cond_false, eq_self, List.map_cons, List.map_nil, Nat.reduceAdd, Nat.testBit, Nat.reduceShiftRight, Nat.reduceAnd, Nat.reduceBNe, Nat.reduceMul]
      refine use_pure (refText_spec h13 h11 h25 hW h38 M N ov fs hfl (by omega) hsm) fun _ => ?_
      by_cases ht : textB fs = t
      · have hP : refP l = some fs := by rw [refP, hR1]; simp only; rw [if_pos ⟨hv, by rw [← textB_list, ht, hl]⟩]
        rw [refE_some hP] at hQ
        simp (implicitDefEqProofs := false) (disch := omega) only [WPs, opds, List.all_cons, List.all_nil, List.cons_append, List.nil_append, cond_true, cond_false, eq_self, List.map_cons, List.map_nil, Nat.reduceAdd, Nat.testBit, Nat.reduceShiftRight, Nat.reduceAnd, Nat.reduceBNe, Nat.reduceMul, neq_str, decide_eq_true ht]
        refine hQ _ _ _ _ _ hN hM hw (fun _ => ⟨_, rfl, hZ⟩) (fun hfree => ⟨_, rfl, ?_⟩)
        rcases hZ with ⟨h1, _, rfl⟩ | ⟨_, _, b, rfl, _⟩
        · rw [List.length_eq_zero_iff.1 h1]; exact FlZ.nil _ _ _
        · cases hfree
      · have hP : refP l = none := by rw [refP, hR1]; simp only; rw [if_neg fun h => ht (str_ext (by rw [textB_list, h.2, hl]))]
        rw [refE_none hP] at hQ
        simp (implicitDefEqProofs := false) (disch := omega) only [WPs, opds, List.all_cons, List.all_nil, List.cons_append, List.nil_append, cond_true, cond_false, eq_self, List.map_cons, List.map_nil, Nat.reduceAdd, Nat.testBit, Nat.reduceShiftRight, Nat.reduceAnd, Nat.reduceBNe, Nat.reduceMul, neq_str, decide_eq_false ht]
        exact hQ _ _ _ _ _ hN hM hw (fun _ => ⟨_, rfl, FlZ.nil _ _ _⟩) (fun _ => ⟨_, rfl, FlZ.nil _ _ _⟩)
end Go.Am.C13
namespace Go.Am.C13
open Go Go.Am Go.Am.V
variable {E : Nat → Option AFn} {Y : Nat → List Value → FM → Nat → OR FM}
structure Ref13 (E : Nat → Option AFn) : Prop where
  e11 : E 11 = some ac11
  e13 : E 13 = some ac13
  e16 : E 16 = some ac16
  e25 : E 25 = some ac25
  e31 : E 31 = some ac31
  e32 : E 32 = some ac32
  e37 : E 37 = some ac37
  e38 : E 38 = some ac38
  e43 : E 43 = some ac43
theorem count_small (t : ByteArray) {k : Nat} (h : t.size ≤ k) : Lib.countB t semi ≤ k := Nat.le_trans (Lib.countB_le semi (by decide) _ t (Nat.le_refl _)) h
theorem same_parse {l : Txt.Bs} (hne : l ≠ []) : progE l = refE l := by
  obtain ⟨h1, h2⟩ := both hne
  rw [progE, if_neg hne]
  cases hg : goodP l with
  | true => rw [if_pos rfl, refE_some (h1 hg)]
  | false =>
    rw [if_neg (by decide)]
    cases hr : refP l with
    | none => rw [refE_none hr]
    | some fs =>
      refine absurd (h2 hg fs hr fun f hf => ?_) id
      unfold refP at hr
      split at hr
      · cases hr
      · rename_i out ho
        split at hr
        · injection hr with hr; subst hr
          exact loopR_small _ _ _ _ (by simp) ho f hf
        · cases hr
theorem progE_nil : progE [] = (0, []) := by rw [progE, if_pos rfl]
theorem refE_nil : refE [] = (0, []) := refE_some (ref_back (fs := []) rfl (by simp))
theorem parse_len (l : Txt.Bs) : (refE l).2.length ≤ l.length := by
  unfold refE
  cases hr : refP l with
  | none => exact Nat.zero_le _
  | some fs =>
    unfold refP at hr
    split at hr
    · cases hr
    · rename_i out ho
      split at hr
      · injection hr with hr; subst hr
        have := loopR_len _ _ _ _ ho
        rw [List.length_nil] at this
        show out.length ≤ l.length
        omega
      · cases hr
theorem parse_ok {l : Txt.Bs} (h : (refE l).1 = 0) : validB (refE l).2 = true ∧ textL (refE l).2 = l ∧ ∀ f ∈ (refE l).2, small f := by
  unfold refE at h ⊢
  cases hr : refP l with
  | none => rw [hr] at h; cases h
  | some fs =>
    obtain ⟨h1, h2⟩ := ref_text hr
    refine ⟨h1, h2, ?_⟩
    unfold refP at hr
    split at hr
    · cases hr
    · rename_i out ho
      split at hr
      · injection hr with hr; subst hr
        exact loopR_small _ _ _ _ (by simp) ho
      · cases hr
theorem parseLaw (L : LibY E Y) (T : Te E) (F : Ref13 E) (hE : E 5 = some ac5) (m : FM) (n : Nat) (t : ByteArray) : Pure (callW PG E Y 5 [.string t] m n) m n (.bool true) := by
  refine pure_spec hE rfl rfl ?_
  simp only [ac5]
  simp (implicitDefEqProofs := false) (disch := omega) only [WPs, opds, List.all_cons, List.all_nil, List.cons_append, List.nil_append, cond_true, cond_false, eq_self, List.map_cons, List.map_nil, Nat.reduceAdd, Nat.testBit, Nat.reduceShiftRight, Nat.reduceAnd, Nat.reduceBNe, Nat.reduceMul]
  refine use_pure (awake_spec L T m n) fun _ => ?_
  by_cases ht : t.size ≤ 200
  · have hgt : ¬ (200 : Int) < (t.size : Int) := by omega
    simp (implicitDefEqProofs := false) (disch := omega) only [WPs, opds, List.all_cons, List.all_nil, List.cons_append, List.nil_append, cond_true, cond_false, eq_self, List.map_cons, List.map_nil, Nat.reduceAdd, Nat.testBit, Nat.reduceShiftRight, Nat.reduceAnd, Nat.reduceBNe, Nat.reduceMul]
    refine use_rt (parse_spec L T.e14 T.e26 T.e28 T.e22 T.e21 T.e10 m n (t := t) (by omega) (Nat.lt_of_le_of_lt (count_small t ht) (by omega))) fun v M1 N1 r1 w1 ⟨n1, m1, f1, lv1, hv, z1⟩ => ?_
    subst hv
    have fz1 := f1 n (Nat.le_refl _)
    simp (implicitDefEqProofs := false) (disch := omega) only [WPs, opds, List.all_cons, List.all_nil, List.cons_append, List.nil_append, cond_true, cond_false, eq_self, List.map_cons, List.map_nil, Nat.reduceAdd, Nat.testBit, Nat.reduceShiftRight, Nat.reduceAnd, Nat.reduceBNe, Nat.reduceMul, ey0, ey1]
    refine use_rt (refParse_spec F.e16 F.e11 F.e13 F.e25 F.e38 F.e31 F.e32 F.e37 F.e43 M1 N1 (t := t) rfl (by omega)) fun v M2 N2 r2 w2 ⟨n2, m2, f2, lv2, hv, z2⟩ => ?_
    subst hv
    have fz2 := f2 n (by omega)
    have hpr : progE t.data.toList = refE t.data.toList := by
      by_cases h0 : t.data.toList = []
      · rw [h0, progE_nil, refE_nil]
      · exact same_parse h0
    rw [hpr] at z1 ⊢
    have hln := parse_len t.data.toList
    rw [str_len] at hln
    have hok := parse_ok (l := t.data.toList)
    generalize refE t.data.toList = x at *
    obtain ⟨x, fs⟩ := x
    simp only at *
    have z1' := z1.s.frame n2 m2
    simp (implicitDefEqProofs := false) (disch := omega) only [WPs, opds, List.all_cons, List.all_nil, List.cons_append, List.nil_append, cond_true, cond_false, eq_self, List.map_cons, List.map_nil, Nat.reduceAdd, Nat.testBit, Nat.reduceShiftRight, Nat.reduceAnd, Nat.reduceBNe, Nat.reduceMul, ey0, ey1]
    refine use_pure (same_spec T.e15 M2 N2 lv1 lv2 fs fs z1' z2.s (by omega) (by omega)) fun _ => ?_
    rw [sameB_iff.2 rfl]
    by_cases hx : x = 0
    · obtain ⟨o1, o2, o3⟩ := hok hx
      simp (implicitDefEqProofs := false) (disch := omega) only [WPs, opds, List.all_cons, List.all_nil, List.cons_append, List.nil_append, cond_true, cond_false, eq_self, List.map_cons, List.map_nil, Nat.reduceAdd, Nat.testBit, Nat.reduceShiftRight, Nat.reduceAnd, Nat.reduceBNe, Nat.reduceMul, decide_eq_true hx]
      refine use_pure (text_spec L T.e12 T.e10 T.e22 T.e21 M2 N2 lv1 fs z1' (by omega) o3) fun _ => ?_
      have ht2 : textB fs = t := str_ext (by rw [textB_list, o2])
      simp (implicitDefEqProofs := false) (disch := omega) only [WPs, opds, List.all_cons, List.all_nil, List.cons_append, List.nil_append, cond_true, cond_false, eq_self, List.map_cons, List.map_nil, Nat.reduceAdd, Nat.testBit, Nat.reduceShiftRight, Nat.reduceAnd, Nat.reduceBNe, Nat.reduceMul, eql_str, decide_eq_true ht2, fz1, fz2]
    · simp (implicitDefEqProofs := false) (disch := omega) only [WPs, opds, List.all_cons, List.all_nil, List.cons_append, List.nil_append, cond_true, cond_false, eq_self, List.map_cons, List.map_nil, Nat.reduceAdd, Nat.testBit, Nat.reduceShiftRight, Nat.reduceAnd, Nat.reduceBNe, Nat.reduceMul, decide_eq_false hx, fz1, fz2]
  · simp (implicitDefEqProofs := false) (disch := omega) only [WPs, opds, List.all_cons, List.all_nil, List.cons_append, List.nil_append, cond_true, cond_false, eq_self, List.map_cons, List.map_nil, Nat.reduceAdd, Nat.testBit, Nat.reduceShiftRight, Nat.reduceAnd, Nat.reduceBNe, Nat.reduceMul]
    refine use_pure (awake_spec L T m n) fun _ => ?_
    simp (implicitDefEqProofs := false) (disch := omega) only [WPs, opds, List.all_cons, List.all_nil, List.cons_append, List.nil_append, cond_true, cond_false, eq_self, List.map_cons, List.map_nil, Nat.reduceAdd, Nat.testBit, Nat.reduceShiftRight, Nat.reduceAnd, Nat.reduceBNe, Nat.reduceMul]
theorem textLaw (L : LibY E Y) (T : Te E) (F : Ref13 E) (hE : E 4 = some ac4) (m : FM) (n : Nat) (lv : Value) (fs : List Flt) (h : FlS m n lv fs) (hs : fs.length ≤ 1048576) (hi : ∀ f ∈ fs, small f) : Pure (callW PG E Y 4 [lv] m n) m n (.bool true) := by
  refine pure_spec hE rfl rfl ?_
  simp only [ac4]
  simp (implicitDefEqProofs := false) (disch := omega) only [WPs, opds, List.all_cons, List.all_nil, List.cons_append, List.nil_append, cond_true, cond_false, eq_self, List.map_cons, List.map_nil, Nat.reduceAdd, Nat.testBit, Nat.reduceShiftRight, Nat.reduceAnd, Nat.reduceBNe, Nat.reduceMul]
  refine use_pure (text_spec L T.e12 T.e10 T.e22 T.e21 m n lv fs h hs hi) fun _ => ?_
  simp (implicitDefEqProofs := false) (disch := omega) only [WPs, opds, List.all_cons, List.all_nil, List.cons_append, List.nil_append, cond_true, cond_false, eq_self, List.map_cons, List.map_nil, Nat.reduceAdd, Nat.testBit, Nat.reduceShiftRight, Nat.reduceAnd, Nat.reduceBNe, Nat.reduceMul]
  refine use_pure (awake_spec L T m n) fun _ => ?_
  simp (implicitDefEqProofs := false) (disch := omega) only [WPs, opds, List.all_cons, List.all_nil, List.cons_append, List.nil_append, cond_true, cond_false, eq_self, List.map_cons, List.map_nil, Nat.reduceAdd, Nat.testBit, Nat.reduceShiftRight, Nat.reduceAnd, Nat.reduceBNe, Nat.reduceMul]
  refine use_pure (refText_spec F.e13 F.e11 F.e25 F.e37 F.e38 m n lv fs h hs hi) fun _ => ?_
  have hsz : (textB fs).size ≤ 60000000 := by
    by_cases hv : validB fs = true
    · rw [textB, if_pos hv]
      have := joinS_size fs (flt_fit hv hi)
      omega
    · rw [textB, if_neg hv]; decide
  simp (implicitDefEqProofs := false) (disch := omega) only [WPs, opds, List.all_cons, List.all_nil, List.cons_append, List.nil_append, cond_true, cond_false, eq_self, List.map_cons, List.map_nil, Nat.reduceAdd, Nat.testBit, Nat.reduceShiftRight, Nat.reduceAnd, Nat.reduceBNe, Nat.reduceMul, neq_str, decide_eq_true (show textB fs = textB fs from rfl)]
  have hcnt : Lib.countB (textB fs) semi < 2000000 := by
    by_cases hg : validB fs = true ∧ fs ≠ []
    · obtain ⟨_, _, h3⟩ := prog_back hg.1 hi hg.2
      have h4 : (splitL (textB fs) semi).length = Lib.countB (textB fs) semi + 1 := Lib.splitB_all semi (by decide) 0 _ _ rfl
      have h5 := congrArg List.length (split_list (textB fs))
      rw [textB_list, h3, List.length_map, List.length_map] at h5
      omega
    · have h3 : textB fs = ⟨#[]⟩ := by
        rcases Classical.not_and_iff_not_or_not.1 hg with h | h
        · rw [textB, if_neg h]
        · rw [Classical.not_not.1 h]; rfl
      have := count_small (textB fs) (k := 0) (by rw [h3]; exact Nat.le_refl _)
      omega
  refine use_rt (parse_spec L T.e14 T.e26 T.e28 T.e22 T.e21 T.e10 m n (t := textB fs) (by omega) hcnt) fun v M1 N1 r1 w1 ⟨n1, m1, f1, lv1, hv, z1⟩ => ?_
  subst hv
  have fz1 := f1 n (Nat.le_refl _)
  rw [textB_list] at *
  cases hv : validB fs with
  | false =>
    have ht : textL fs = [] := by rw [textL, if_neg (by rw [hv]; decide)]
    rw [ht, progE_nil] at z1 ⊢
    simp (implicitDefEqProofs := false) (disch := omega) only [WPs, opds, List.all_cons, List.all_nil, List.cons_append, List.nil_append, cond_true, cond_false, eq_self, List.map_cons, List.map_nil, Nat.reduceAdd, Nat.testBit, Nat.reduceShiftRight, Nat.reduceAnd, Nat.reduceBNe, Nat.reduceMul, ey0, ey1]
    refine use_pure (refValid_spec F.e11 M1 N1 lv fs (h.frame n1 m1) (by omega)) fun _ => ?_
    rw [hv]
    have e0 : ((([] : List Flt).length : Nat) : Int) = 0 := rfl
    simp (implicitDefEqProofs := false) (disch := omega) only [WPs, opds, List.all_cons, List.all_nil, List.cons_append, List.nil_append, cond_true, cond_false, eq_self, List.map_cons, List.map_nil, Nat.reduceAdd, Nat.testBit, Nat.reduceShiftRight, Nat.reduceAnd, Nat.reduceBNe, Nat.reduceMul, z1.s.len, e0, fz1]
  | true =>
    have ht : progE (textL fs) = (0, fs) := by
      by_cases h0 : fs = []
      · subst h0; exact progE_nil
      · obtain ⟨h1, h2, h3⟩ := prog_back hv hi h0
        have hne : textL fs ≠ [] := by
          intro e
          rw [e, show Lib.split [] semiL = [[]] by decide] at h3
          cases fs with
          | nil => cases h3
          | cons f fs => injection h3 with h3 _; exact flt_ne f h3.symm
        rw [progE, if_neg hne, if_pos h1, h2]
    rw [ht] at z1 ⊢
    simp (implicitDefEqProofs := false) (disch := omega) only [WPs, opds, List.all_cons, List.all_nil, List.cons_append, List.nil_append, cond_true, cond_false, eq_self, List.map_cons, List.map_nil, Nat.reduceAdd, Nat.testBit, Nat.reduceShiftRight, Nat.reduceAnd, Nat.reduceBNe, Nat.reduceMul, ey0, ey1]
    refine use_pure (refValid_spec F.e11 M1 N1 lv fs (h.frame n1 m1) (by omega)) fun _ => ?_
    rw [hv]
    simp (implicitDefEqProofs := false) (disch := omega) only [WPs, opds, List.all_cons, List.all_nil, List.cons_append, List.nil_append, cond_true, cond_false, eq_self, List.map_cons, List.map_nil, Nat.reduceAdd, Nat.testBit, Nat.reduceShiftRight, Nat.reduceAnd, Nat.reduceBNe, Nat.reduceMul]
    refine use_pure (same_spec T.e15 M1 N1 lv1 lv fs fs z1.s (h.frame n1 m1) (by omega) (by omega)) fun _ => ?_
    rw [sameB_iff.2 rfl]
    simp (implicitDefEqProofs := false) (disch := omega) only [WPs, opds, List.all_cons, List.all_nil, List.cons_append, List.nil_append, cond_true, cond_false, eq_self, List.map_cons, List.map_nil, Nat.reduceAdd, Nat.testBit, Nat.reduceShiftRight, Nat.reduceAnd, Nat.reduceBNe, Nat.reduceMul, fz1]
end Go.Am.C13
namespace Go.Am.C13
open Go Go.Am Go.Am.V Go.RowKit Go.ChangeShapes
set_option maxRecDepth 1000000
noncomputable def Yf13 : FCal := fun _ _ _ _ => .no
theorem mix13 : Proofs.Tryd.prog.follows .mixedOrders = true := by kernel_rfl
theorem env13 : Env Proofs.Tryd.prog tab Y13 Yf13 where
  mix := mix13
  good := good
  small := by kernel_rfl
  loc := y13_loc
  sim := y13_sim
  fast := fun f args m n => by trivial
  apart := pfns_apart (apart_alt (fun f fn h args m n => by
      have hf : f ≠ 29 := fun e => by subst e; rw [show look tab 29 = none by kernel_rfl] at h; cases h
      unfold atoiA
      rw [show Nat.beq f 29 = false from Bool.eq_false_iff.2 fun e => hf (Nat.eq_of_beq_eq_true e)]; rfl) (apart_alt (fun f fn h args m n => by
      have hf : f ≠ 30 := fun e => by subst e; rw [show look tab 30 = none by kernel_rfl] at h; cases h
      unfold splitA
      rw [show Nat.beq f 30 = false from Bool.eq_false_iff.2 fun e => hf (Nat.eq_of_beq_eq_true e)]; rfl) (fun f fn h args m n => by
      have hf : f ≠ 24 := fun e => by subst e; rw [show look tab 24 = none by kernel_rfl] at h; cases h
      unfold joinA
      rw [show Nat.beq f 24 = false from Bool.eq_false_iff.2 fun e => hf (Nat.eq_of_beq_eq_true e)]; rfl))) fun p hp => by
    simp only [List.mem_cons, List.not_mem_nil, or_false] at hp
    rcases hp with rfl | rfl <;> kernel_rfl
theorem refB : Ref13 (look tab) where
  e11 := by kernel_rfl
  e13 := by kernel_rfl
  e16 := by kernel_rfl
  e25 := by kernel_rfl
  e31 := by kernel_rfl
  e32 := by kernel_rfl
  e37 := by kernel_rfl
  e38 := by kernel_rfl
  e43 := by kernel_rfl
theorem teB : Te (look tab) where
  e9 := by kernel_rfl
  e10 := by kernel_rfl
  e12 := by kernel_rfl
  e14 := by kernel_rfl
  e15 := by kernel_rfl
  e21 := by kernel_rfl
  e22 := by kernel_rfl
  e26 := by kernel_rfl
  e28 := by kernel_rfl
theorem u3 : PG.underlying 3 = some (.int .i64) := by kernel_rfl
theorem u32 : PG.underlying 32 = some (.struct (PG.fieldsOf 32)) := by kernel_rfl
theorem l32 : (PG.fieldsOf 32).toList.map (fun f => (f.offset, f.type)) = [(0, 3), (1, 3), (2, 3)] := by kernel_rfl
theorem u22 : PG.underlying 22 = some (.slice 32) := by kernel_rfl
theorem c32 : PG.cellsOf 32 = 3 := by kernel_rfl
theorem c3 : PG.cellsOf 3 = 1 := by kernel_rfl
theorem wf_i64 {n : Int} (h : (Lit.int .i64 n).wf = true) : -9223372036854775808 ≤ n ∧ n ≤ 9223372036854775807 := by
  simp only [Lit.wf, Bool.and_eq_true, decide_eq_true_eq] at h
  have h1 : IntKind.i64.min = -9223372036854775808 := by kernel_rfl
  have h2 : IntKind.i64.max = 9223372036854775807 := by kernel_rfl
  rw [h1, h2] at h
  omega
theorem flt_of_trod {H : Type} {enc : TypeId × Value → H} {w : World} {held : Bool} {sp : Nat → Bool} {fuel : Nat} {cs : List Value} {x : DataW H × List MemPlace} (h : DataW.trod enc PG w 0 sp held fuel 32 cs = some x) :
    ∃ f : Flt, cs = f.cells ∧ small f := by
  obtain ⟨xs, n, _, _, hl, hn, hall⟩ := DataW.trod_struct u32 h
  rw [c32] at hl
  have fld : ∀ (i off ty : Nat), [(0, 3), (1, 3), (2, 3)][i]? = some (off, ty) → ∃ y, DataW.trod enc PG w 0 sp held n ty ((cs.drop off).take (PG.cellsOf ty)) = some y := fun i off ty hi => by
    rw [← l32, List.getElem?_map] at hi
    cases hf : (PG.fieldsOf 32).toList[i]? with
    | none => rw [hf] at hi; cases hi
    | some f =>
      rw [hf] at hi
      injection hi with hi; injection hi with e1 e2
      subst e1; subst e2
      have hf' : (PG.fieldsOf 32)[i]? = some f := by simpa using hf
      have hi9 : i < xs.length := by rw [hn]; exact (Array.getElem?_eq_some_iff.1 hf').1
      exact ⟨xs[i], by rw [hall i f hf', List.getElem?_eq_getElem hi9]⟩
  match cs, hl with
  | [a0, a1, a2], _ =>
    obtain ⟨_, h0⟩ := fld 0 0 3 rfl
    obtain ⟨_, h1⟩ := fld 1 1 3 rfl
    obtain ⟨_, h2⟩ := fld 2 2 3 rfl
    rw [c3] at h0 h1 h2
    obtain ⟨z0, k0, _, w0⟩ := DataW.trod_int u3 h0
    obtain ⟨z1, k1, _, w1⟩ := DataW.trod_int u3 h1
    obtain ⟨z2, k2, _, w2⟩ := DataW.trod_int u3 h2
    simp only [List.drop_succ_cons, List.drop_zero, List.take_succ_cons, List.take_zero, List.cons.injEq, and_true] at k0 k1 k2
    subst k0; subst k1; subst k2
    exact ⟨⟨z0, z1, z2⟩, rfl, (wf_i64 w0).2, (wf_i64 w2).2⟩
theorem flw_of_trod {H : Type} {enc : TypeId × Value → H} {w : World} {held : Bool} {sp : Nat → Bool} {fuel : Nat} {cs : List Value} {x : DataW H × List MemPlace} (h : DataW.trod enc PG w 0 sp held fuel 22 cs = some x) :
    ∃ v l, cs = [v] ∧ l.length ≤ maxLen ∧ FlW w v l ∧ ∀ f ∈ l, small f := by
  obtain ⟨v, len, rfl, hlen, hS⟩ := slice_of_trod u22 c32 (by omega) h
  rcases hS with ⟨rfl, rfl⟩ | ⟨a, c, rfl, rfl⟩ | ⟨blk, off, cap, cc, ty, fz, rfl, h0, h1, h2, h3, h4⟩
  · exact ⟨_, [], rfl, Nat.zero_le _, .inl ⟨rfl, rfl⟩, fun c h => by cases h⟩
  · exact ⟨_, [], rfl, Nat.zero_le _, .inr (.inl ⟨a, c, rfl, rfl⟩), fun c h => by cases h⟩
  · have h5 : ∀ i, i < len → ∃ c : Flt, (∀ j, j < 3 → cc[off + i * 3 + j]? = c.cells[j]?) ∧ small c := fun i hi => by
      obtain ⟨l, hl, hj, n, y, hy⟩ := h4 i hi
      obtain ⟨c, rfl, hF⟩ := flt_of_trod hy
      exact ⟨c, hj, hF⟩
    have h6 : ∃ f : Nat → Flt, ∀ i, i < len → (∀ j, j < 3 → cc[off + i * 3 + j]? = (f i).cells[j]?) ∧ small (f i) :=
      ⟨fun i => if h : i < len then Classical.choose (h5 i h) else ⟨0, 0, 0⟩, fun i hi => by
        simp only [dif_pos hi]
        exact Classical.choose_spec (h5 i hi)⟩
    obtain ⟨f, hf⟩ := h6
    have hl : ((List.range len).map f).length = len := by simp
    have hat : ∀ i (h : i < ((List.range len).map f).length), ((List.range len).map f)[i] = f i := fun i h => by simp
    refine ⟨_, (List.range len).map f, rfl, by rw [hl]; exact hlen, .inr (.inr ⟨blk, off, cap, cc, ty, fz, by rw [hl], by rw [hl]; exact h0, by rw [hl]; exact h1, h2, by rw [hl]; exact h3, fun i hi => ?_⟩), fun c hc => ?_⟩
    · rw [hat i hi]; exact (hf i (by rw [hl] at hi; exact hi)).1
    · obtain ⟨i, hi, rfl⟩ := List.mem_iff_getElem.1 hc
      rw [hat i hi]; exact (hf i (by rw [hl] at hi; exact hi)).2
theorem fl_calls {f : Nat} (ps : List Value) (hp : ∀ x ∈ ps, flat x = true) (fs : List Flt) (hlaw : ∀ (m : FM) (n : Nat) (lv : Value), FlS m n lv fs → Pure (callW PG (look tab) Y13 f (lv :: ps) m n) m n (.bool true))
    (w : World) (hgl : Glob w.heap.size w) (sv : Value) (h : FlW w sv fs) :
    Calls Proofs.Tryd.prog f (sv :: ps).toArray w fun e w' => e = .returned (.bool true) ∧ Below w.heap.size w w' := by
  obtain ⟨o, v, k1, k2, k3⟩ := fl_ent h 0
  have at0 : ∀ (i : Nat) e, [o][i]? = some (some e) → i = 0 ∧ o = some e := fun i e he => by
    match i, he with
    | 0, he => injection he with he; exact ⟨rfl, he⟩
    | i + 1, he => simp at he
  have hren : ∀ e, o = some e → entRen [o] 0 = some e.p := fun e he => by subst he; rfl
  have hmem : ∀ e, o = some e → entMem [o] 0 = some (.cells e.cs e.p.sz false false) := fun e he => by subst he; rfl
  obtain ⟨hm, hf⟩ := ent_world (w := w) (L := [o]) hgl fun i e he => k2 _ e (at0 i e he).2
  obtain ⟨r, hrun⟩ := hlaw (entMem [o]) [o].length v (k3 _ _ (Nat.lt_succ_self 0) hmem)
  have hps : ∀ l : List Value, (∀ x ∈ l, flat x = true) → LRel (entRen [o]) l l := fun l => by
    induction l with
    | nil => exact fun _ => .nil _
    | cons x l ih => exact fun h => .cons (.flat (h x (by simp))) (ih fun y hy => h y (by simp [hy]))
  exact Go.Am.Env.topW env13 (args' := (sv :: ps).toArray) hrun (.cons (k1 _ hren) (hps ps hp)) hm hf
theorem faultText_calls (w : World) (hgl : Glob w.heap.size w) (sv : Value) (fs : List Flt) (h : FlW w sv fs) (hs : fs.length ≤ 1048576) (hi : ∀ f ∈ fs, small f) :
    Calls Proofs.Tryd.prog 4 #[sv] w fun e w' => e = .returned (.bool true) ∧ Below w.heap.size w w' :=
  fl_calls [] (fun x hx => by cases hx) fs (fun m n lv h => textLaw libY teB refB (by kernel_rfl) m n lv fs h hs hi) w hgl sv h
theorem faultParse_calls (w : World) (hgl : Glob w.heap.size w) (s : ByteArray) :
    Calls Proofs.Tryd.prog 5 #[.string s] w fun e w' => e = .returned (.bool true) ∧ Below w.heap.size w w' := by
  obtain ⟨hm, hf⟩ := ent_world (w := w) (L := []) hgl fun i e he => by simp at he
  obtain ⟨r, hrun⟩ := parseLaw libY teB refB (by kernel_rfl) (entMem []) 0 s
  exact Go.Am.Env.topW env13 (args' := #[.string s]) hrun (.cons (.flat rfl) (.nil _)) hm hf
end Go.Am.C13
namespace Go.Am.C13
open Go Go.Am Go.Am.V Go.RowKit Go.ChangeShapes Go.WideShapes Go.ChangeAt
set_option maxRecDepth 1000000
theorem returns_listed {H : Type} {enc : TypeId × Value → H} {a : Assume} {C : Checked} {os : Os} {f : FuncId} {fn : Func} {s : ChangeSpec} {conds : List PathCond} {apart fresh handsOn again : Bool} {X : World → Array Value → Prop}
    (hX : ∀ (w w' : World) (args : Array Value), w.heap = w'.heap → X w args → X w' args)
    (own : ownKnob C.prog.godebug = none) (started : os.Started) (noInit : C.prog.inits.idxOf? f = none) (hfn : C.prog.funcs[f]? = some fn)
    (witness : ∃ (w : World) (tape : Tape) (i : Input), w.os = os ∧ (w.forCall tape i).Shaped C.prog ∧ i.vars = [] ∧ Input.okWide C.prog (w.forCall tape i) .any w.heap.size f i ∧
      ((s.pre enc C.prog fn conds apart (w.forCall tape i).memory i.args ∧ X (w.forCall tape i).memory i.args) ∧ sizedMet enc C.prog fn (OpenSpec.ofChange s) apart (w.forCall tape i).memory i.args) ∧ a.holds C.prog (lone (Frame.enter C.prog f i.args .normal) [] (w.forCall tape i)))
    (contract : ∀ (W : World) (args : Array Value) (base : Nat) (ds gs : List (DataW H)) (before : List MemPlace),
      (∀ (j : Nat) t v, fn.params[j]? = some t → args[j]? = some v → Value.okWide C.prog W .any base t v) →
      DataW.Whole enc C.prog fn.params.toList s.vars apart W args.toList ds gs before →
      (DataW.weightsEach C.prog (fn.params.toList ++ s.plain.varTypes C.prog) (ds ++ gs)).all (· ≤ reachBytes) = true → X W args → W.ShapedOpen C.prog →
      Calls C.prog f args W fun e W' => ∃ v, e = .returned v ∧ s.post enc C.prog fn apart fresh handsOn again W args v W') :
    ReturnsInHanded a C os f .any (fun w args => (s.pre enc C.prog fn conds apart w args ∧ X w args) ∧ sizedMet enc C.prog fn (OpenSpec.ofChange s) apart w args) (s.post enc C.prog fn apart fresh handsOn again) := by
  refine returnsInHanded_of_calls own started noInit witness ?_
  intro w tape i _ hsh _ hok hpre hholds
  obtain ⟨_, _, _, fn', hfn', _, _, _, _, hval⟩ := hok
  have e : fn' = fn := Option.some.inj (hfn'.symm.trans hfn)
  subst e
  obtain ⟨⟨⟨ds, gs, before, hw, hc⟩, hx⟩, hz⟩ := hpre
  have hw' := DataW.Whole.of_heap (w' := w.forCall tape i) (by rfl) hw
  refine (contract (w.forCall tape i) i.args w.heap.size ds gs before hval hw' (hz.weights hw) (hX _ _ _ (by rfl) hx) hsh).mono fun e W' ⟨v, he, hp⟩ => ?_
  subst he
  exact ChangeSpec.post_blind hp
theorem maxLen_cell {w : World} (h : w.ShapedOpen PG) : ∃ m, w.cell? ⟨0, 0, none⟩ = some (.int .i64 m) :=
  Go.Proofs.cell_of_shapedOpen_int (zero := #[.int .i64 0]) (t := 3) h (of_decide_eq_true (by kernel_rfl)) (by kernel_rfl) rfl (by kernel_rfl) (by kernel_rfl) u3
theorem cell_below {B : Nat} {w w' : World} (h : Below B w w') (hB : 0 < B) : w'.cell? ⟨0, 0, none⟩ = w.cell? ⟨0, 0, none⟩ := by
  unfold World.cell?
  rw [show w'.heap[(⟨0, 0, none⟩ : Addr).block]? = w.heap[(⟨0, 0, none⟩ : Addr).block]? from h.block 0 hB]
theorem pow_is {w : World} {l : List (String × DataW Unit)} (h : laidMet PG l w) (hm : ("internal/strconv.uint64pow10", Go.Proofs.YtleikndkannffaaDoor.Rows.laid_internal_strconv_uint64pow10) ∈ l) : Lib.TabIs PG w "internal/strconv.uint64pow10" .u64 Lib.pow10Tab := by
  obtain ⟨g, t, cs, fuel, p, h1, h2, h3, h4⟩ := Lib.laidMet.reads h hm
  obtain rfl : g = 3 := Option.some.inj (h1.symm.trans (by kernel_rfl))
  obtain rfl : t = 97 := Option.some.inj (h2.symm.trans (by kernel_rfl))
  rw [show (Go.Proofs.YtleikndkannffaaDoor.Rows.laid_internal_strconv_uint64pow10 : DataW Unit) = Lib.tabData .u64 Lib.pow10Tab by kernel_rfl] at h4
  unfold Lib.TabIs
  rw [h3, ← Lib.cells_of_tab (n := 20) (e := 78) (by kernel_rfl) (by kernel_rfl) (by kernel_rfl) (by kernel_rfl) h4]
theorem cell_belowG {B : Nat} {w w' : World} (h : Below B w w') {g : Nat} (hB : g < B) : w'.cell? ⟨g, 0, none⟩ = w.cell? ⟨g, 0, none⟩ := by
  unfold World.cell?
  rw [show w'.heap[(⟨g, 0, none⟩ : Addr).block]? = w.heap[(⟨g, 0, none⟩ : Addr).block]? from h.block g hB]
theorem cell_lt {w : World} {g : Nat} {v : Value} (hc : w.cell? ⟨g, 0, none⟩ = some v) : g < w.heap.size := by
  rcases Nat.lt_or_ge g w.heap.size with h | h
  · exact h
  · unfold World.cell? at hc
    rw [Array.getElem?_eq_none (by exact h)] at hc
    cases hc
theorem err_is {w : World} {l : List (String × DataW Unit)} (h : laidMet PG l w) {nm tn : String} {d : DataW Unit} {g t : Nat} {ms : Array (String × TypeId)} (hm : (nm, DataW.iface tn d) ∈ l) (hg : PG.globalNamed nm = some g) (ht : (PG.globals[g]?).map (·.type) = some t) (hi : PG.underlying t = some (.interface ms)) : ErrV w g := by
  obtain ⟨g', t', cs, fuel, p, h1, h2, h3, h4⟩ := Lib.laidMet.reads h hm
  obtain rfl : g' = g := Option.some.inj (h1.symm.trans hg)
  obtain rfl : t' = t := Option.some.inj (h2.symm.trans ht)
  obtain ⟨_, u, v, hcs, _, _⟩ := iface_of_trod hi h4
  refine ⟨.iface u v, ?_, .inr ⟨u, v, rfl⟩⟩
  unfold World.var? at h3
  rw [h1] at h3
  replace h3 : (match w.heap[g']? with | some (.cells cs _ _) => some cs | _ => none) = some cs := h3
  unfold World.cell?
  simp only
  split at h3
  · rename_i c _ _ hc
    injection h3 with h3
    subst h3
    rw [hc]
    obtain ⟨c⟩ := c
    replace hcs : c = _ := hcs
    subst hcs
    rfl
  · cases h3
theorem glob_of {w : World} {l : List (String × DataW Unit)} (hs : w.ShapedOpen PG) (h : laidMet PG l w) (hm : ("internal/strconv.uint64pow10", Go.Proofs.YtleikndkannffaaDoor.Rows.laid_internal_strconv_uint64pow10) ∈ l) (h1 : ("strconv.ErrSyntax", Go.Proofs.YtleikndkannffaaDoor.Rows.laid_strconv_ErrSyntax) ∈ l) (h2 : ("strconv.ErrRange", Go.Proofs.YtleikndkannffaaDoor.Rows.laid_strconv_ErrRange) ∈ l) : Glob w.heap.size w := fun w' hb => by
  obtain ⟨m, hc⟩ := maxLen_cell hs
  obtain ⟨e1, c1, k1⟩ := err_is h (tn := "*errors.errorString") (g := 1) (t := 49) (ms := ((PG.underlying 49).bind fun | .interface m => some m | _ => none).getD #[]) h1 (by kernel_rfl) (by kernel_rfl) (by kernel_rfl)
  obtain ⟨e2, c2, k2⟩ := err_is h (tn := "*errors.errorString") (g := 2) (t := 49) (ms := ((PG.underlying 49).bind fun | .interface m => some m | _ => none).getD #[]) h2 (by kernel_rfl) (by kernel_rfl) (by kernel_rfl)
  exact ⟨⟨⟨m, (cell_below hb (cell_lt hc)).trans hc⟩, Lib.tabBelow_of_tabIs (pow_is h hm) w' hb⟩, ⟨e1, (cell_belowG hb (cell_lt c1)).trans c1, k1⟩, ⟨e2, (cell_belowG hb (cell_lt c2)).trans c2, k2⟩⟩
theorem open_faultsK {H : Type} {enc : TypeId × Value → H} {W : World} {base K : Nat} {v : Value} {d : DataW H} {ps : List MemPlace} (hval : Value.okWide PG W .any base 22 v) (h : DataW.Trod enc PG W 0 (fun _ => true) true 22 v d ps)
    (hw : ∀ elems spare, d = .slice elems spare → elems.length ≤ K) :
    ∃ fs : List Flt, fs.length ≤ K ∧ FlW W v fs ∧ ∀ f ∈ fs, small f := by
  obtain ⟨a, len, cap, rfl⟩ := okWide_slice u22 hval
  obtain ⟨fuel, hf⟩ := h
  obtain ⟨v, l, e, hl, hC, hu⟩ := flw_of_trod hf
  obtain rfl : Value.slice a len cap = v := by injection e
  refine ⟨l, ?_, hC, hu⟩
  have h1 : l.length = len := by
    rcases hC with ⟨hv, rfl⟩ | ⟨_, _, hv, rfl⟩ | ⟨_, _, _, _, _, _, hv, _⟩ <;> (injection hv with _ h1 _; first | exact h1.symm | (rw [h1]; rfl))
  rcases DataW.trod_slice u22 hf with ⟨hcs, _⟩ | ⟨a', len', cap', elems, rest, n, _, hcs, hx, _, _, _, hel, _⟩
  · injection hcs with hcs; injection hcs with _ hlen _
    omega
  · injection hcs with hcs; injection hcs with _ hlen _
    injection hx with hd _
    have h2 := hw _ _ hd
    rw [List.length_map, hel] at h2
    omega
open Go.Proofs.YtleikndkannffaaDoor in
theorem bulk_len {H : Type} : ∀ l : List (DataW H), l.length ≤ Rows.uptoBulkAll l
  | [] => Nat.zero_le _
  | d :: r => by
    have ih := bulk_len r
    have h1 : 1 ≤ Rows.uptoBulk d := by
      cases d with
      | lit l => cases l <;> simp [Rows.uptoBulk]
      | _ => simp [Rows.uptoBulk]
    simp only [Rows.uptoBulkAll, List.length_cons]; omega
open Go.Proofs.YtleikndkannffaaDoor in
theorem upto_len {H : Type} {d : DataW H} {r : List (DataW H)} (h : Rows.uptoSmall H (d :: r) = true) (elems spare : List (DataW H)) (hd : d = .slice elems spare) : elems.length ≤ 1048576 := by
  have h2 := of_decide_eq_true h
  have h3 := bulk_len elems
  subst hd
  simp only [Rows.uptoBulkAll, Rows.uptoBulk] at h2
  omega
end Go.Am.C13
namespace Go.Am
open Go Go.RowKit Go.ChangeShapes
theorem post_below {H : Type} {enc : TypeId × Value → H} {P : Program} {f : Func} {s : ChangeSpec} {apart fresh handsOn again : Bool} {W W' : World} {args : Array Value} {v : Value} {ds gs : List (DataW H)} {before pa pv : List MemPlace}
    (hW : DataW.Whole enc P f.params.toList s.vars apart W args.toList ds gs before)
    (hres : ∀ (b : Nat) (sp : Nat → Bool) (hd : Bool), DataW.TrodAll enc P W' b sp hd f.resultTypes.toList (v.resultList f.resultTypes.size) (s.fn H (ds ++ gs)).results [])
    (hargs : ∀ sp : Nat → Bool, (∀ p ∈ before, sp p.block = true) → DataW.TrodAll enc P W' 0 sp true f.params.toList args.toList (s.fn H (ds ++ gs)).args pa)
    (hvars : ∀ sp : Nat → Bool, (∀ p ∈ before, sp p.block = true) → DataW.TrodVars enc P W' sp s.vars (s.fn H (ds ++ gs)).vars pv)
    (hps : before = pa ++ pv) (hb : Below W.heap.size W W')
    (hok : ∀ (j : Nat) (t : TypeId) (r : Value), f.resultTypes[j]? = some t → (v.resultList f.resultTypes.size)[j]? = some r → Value.okWide P W' .any 0 t r) :
    s.post enc P f apart fresh handsOn again W args v W' := by
  have hlt := hW.lt
  obtain ⟨_, _, _, _, _, hz, hn⟩ := id hW
  refine ⟨ds, gs, before, [], pa, pv, hW, hres _ _ _, hargs _ fun p hp => by simpa using hlt p hp, hvars _ fun p hp => by simpa using hlt p hp, World.keptBut_mono (fun p hp => ⟨hp, ?_⟩) (hb.frame (· ∈ before)), fun _ => ⟨hok, _, _, ([] ++ pa) ++ pv, ⟨[] ++ pa, pv, trodAll_append (hargs _ fun _ _ => rfl) (hres _ _ _), hvars _ fun _ _ => rfl, rfl, fun b off hp => ?_, fun ha => ?_⟩, fun p hp _ => ?_⟩⟩
  · rw [hps, List.mem_append] at hp; exact .inr hp
  · have hm : MemPlace.cell b off ∈ before := by rw [hps]; simpa using hp
    rw [hb.frozen (p := ⟨b, off, none⟩) (hlt _ hm)]
    exact hz b off hm
  · have := hn ha
    rw [hps] at this
    simpa using this
  · rw [hps]; simpa using hp
end Go.Am
