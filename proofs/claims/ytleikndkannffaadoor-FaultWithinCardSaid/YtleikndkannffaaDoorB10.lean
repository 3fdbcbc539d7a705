/- The machine and its runs, part 10: An13j An13m An13c An13d An13k An13n An13o An13q. -/
import Derived.Test.YtleikndkannffaaDoorB9
set_option linter.unusedVariables false
set_option linter.unusedSimpArgs false
set_option linter.unusedSectionVars false
namespace Go.Am.C13
open Go Go.Am Go.Am.V
variable {E : Nat → Option AFn} {Y : Nat → List Value → FM → Nat → OR FM}
def sp1 : ByteArray := ⟨#[32]⟩
def to4 : ByteArray := ⟨#[32, 116, 111, 32]⟩
def kindB (p : ByteArray) : Int := kindTo (cutL p sp1) 8
inductive PartP (p : ByteArray) : Flt → Bool → Prop
  | one {z : Int} (hk : aimsB (kindB p) = false) (hz : Lib.atoiAll (cutR p sp1).data.toList = .ok z) (h0 : -9223372036854775808 ≤ z) (h1 : z ≤ 9223372036854775807) : PartP p ⟨z, kindB p, 0⟩ (cutF p sp1 && decide (itoaB z = cutR p sp1))
  | two {z y : Int} (hk : aimsB (kindB p) = true) (hz : Lib.atoiAll (cutL (cutR p sp1) to4).data.toList = .ok z) (hy : Lib.atoiAll (cutR (cutR p sp1) to4).data.toList = .ok y) (h0 : -9223372036854775808 ≤ z) (h1 : z ≤ 9223372036854775807) (g0 : -9223372036854775808 ≤ y) (g1 : y ≤ 9223372036854775807) :
      PartP p ⟨z, kindB p, y⟩ (((cutF p sp1 && cutF (cutR p sp1) to4) && decide (itoaB z = cutL (cutR p sp1) to4)) && decide (itoaB y = cutR (cutR p sp1) to4))
theorem cut_size (s sep : ByteArray) : (cutL s sep).size ≤ s.size ∧ (cutR s sep).size ≤ s.size := by
  have h1 : (Lib.cut s.data.toList sep.data.toList).1.length ≤ s.data.toList.length := by
    unfold Lib.cut
    split
    · rw [List.length_take]; omega
    · exact Nat.le_refl _
  have h2 : (Lib.cut s.data.toList sep.data.toList).2.1.length ≤ s.data.toList.length := by
    unfold Lib.cut
    split
    · show (List.drop _ _).length ≤ _
      rw [List.length_drop]; omega
    · exact Nat.zero_le _
  rw [Array.length_toList] at h1 h2
  constructor
  · show (Lib.cut s.data.toList sep.data.toList).1.toArray.size ≤ s.data.size
    rw [List.size_toArray]; exact h1
  · show (Lib.cut s.data.toList sep.data.toList).2.1.toArray.size ≤ s.data.size
    rw [List.size_toArray]; exact h2
theorem parse_L1 (L : LibY E Y) (hWd : E 26 = some ac26) (hNm : E 28 = some ac28) (hW : E 22 = some ac22) (hA : E 21 = some ac21) {m : FM} {n : Nat} {ps : List ByteArray} {fs : List Flt} {bs : List Bool} (hlp : ps.length ≤ 1000) (hlf : fs.length = ps.length) (hlb : bs.length = ps.length)
    (hsz : ∀ p ∈ ps, p.size < 1000000) (hP : ∀ i (h : i < ps.length), PartP ps[i] (fs[i]'(by omega)) (bs[i]'(by omega))) (x5 x10 x11 x12 x13 : Value) {Q : AX → List Value → FM → Nat → Nat → Prop}
    (hQ : ∀ ov M N' w, n + 3 ≤ N' → (∀ b, b < n → M b = m b) → M (n + 1) = some (.cells [.bool (bs.all id)] 0 false true) → FlZ M (n + 3) N' ov fs → (∀ j, j ≤ n → Nat.mod w (bit j) = 0) → ∀ x2, Q (.exit 0) [ov, x2, .int .i64 (ps.length : Int), .slice (some ⟨n + 2, 0, none⟩) ps.length ps.length, x5, .func (.func 28) #[] #[.pointer (some ⟨n + 1, 0, none⟩)], .func (.func 26) #[] #[.pointer (some ⟨n, 0, none⟩), .pointer (some ⟨n + 1, 0, none⟩)], .pointer (some ⟨n + 1, 0, none⟩), .pointer (some ⟨n, 0, none⟩), x10, x11, x12, x13] M N' w) :
    ∀ d j, j + d = ps.length → ∀ (M : FM) (N' w0 : Nat) (ov x2 : Value) (s : ByteArray), n + 3 ≤ N' → (∀ b, b < n → M b = m b) → M n = some (.cells [.string s] 0 false true) → M (n + 1) = some (.cells [.bool ((bs.take j).all id)] 0 false true) → M (n + 2) = some (.cells (ps.map Value.string) 1 false true) → FlZ M (n + 3) N' ov (fs.take j) → (∀ j, j ≤ n → Nat.mod w0 (bit j) = 0) →
    Gv (execW PG E Y ac14L1 [ov, .int .i64 (j : Int), x2, .int .i64 (ps.length : Int), .slice (some ⟨n + 2, 0, none⟩) ps.length ps.length, x5, .func (.func 28) #[] #[.pointer (some ⟨n + 1, 0, none⟩)], .func (.func 26) #[] #[.pointer (some ⟨n, 0, none⟩), .pointer (some ⟨n + 1, 0, none⟩)], .pointer (some ⟨n + 1, 0, none⟩), .pointer (some ⟨n, 0, none⟩), x10, x11, x12, x13] M N') fun X e m n w => Q X e m n (Nat.lor w0 w) := by
  intro d
  induction d with
  | zero =>
    intro j hj M N' w0 ov x2 s hN hM hr ho hp hZ hw
    obtain rfl : j = ps.length := by omega
    rw [List.take_of_length_le (by omega)] at hZ ho
    refine wr_loopN (L := ac14L1) (b := ac14L1b) rfl ?_
    simp only [ac14L1b]
    simp (implicitDefEqProofs := false) (disch := omega) only [WPs, opds, List.all_cons, List.all_nil, List.cons_append, List.nil_append, cond_true, cond_false, eq_self, List.map_cons, List.map_nil, Nat.reduceAdd, Nat.testBit, Nat.reduceShiftRight, Nat.reduceAnd, Nat.reduceBNe, Nat.reduceMul]
    exact hQ _ _ _ _ hN hM ho hZ hw _
  | succ d ih =>
    intro j hj M N' w0 ov x2 s hN hM hr ho hp hZ hw
    have hjl : j < ps.length := by omega
    have hPj := hP j hjl
    have hsj := hsz ps[j] (List.getElem_mem hjl)
    have ih' := ih (j + 1) (by omega)
    have hat : cget (ps.map Value.string) j = some (.string ps[j]) := by rw [cget_eq, List.getElem?_map, List.getElem?_eq_getElem hjl]; rfl
    refine wr_loopN (L := ac14L1) (b := ac14L1b) rfl ?_
    simp only [ac14L1b]
    have hft : fs.take (j + 1) = fs.take j ++ [fs[j]'(by omega)] := by rw [List.take_add_one, List.getElem?_eq_getElem (by omega), Option.toList_some]
    have hbt : (bs.take (j + 1)).all id = ((bs.take j).all id && bs[j]'(by omega)) := by rw [List.take_add_one, List.getElem?_eq_getElem (by omega), Option.toList_some, List.all_append]; simp
    rw [hft, hbt] at ih'
    generalize fs[j]'(by omega) = f at hPj ih'
    generalize bs[j]'(by omega) = bj at hPj ih'
    generalize ps[j] = p at hPj hsj hat
    simp (implicitDefEqProofs := false) (disch := omega) only [WPs, opds, List.all_cons, List.all_nil, List.cons_append, List.nil_append, cond_true, cond_false, eq_self, List.map_cons, List.map_nil, Nat.reduceAdd, Nat.testBit, Nat.reduceShiftRight, Nat.reduceAnd, Nat.reduceBNe, Nat.reduceMul, hp, hat, hr, s_callv, callv_mk]
    generalize hM1 : (AMem.put (AMem.put M n (some (.cells [.string p] 0 false true))) N' (some (.cells [.int .i64 0, .int .i64 0, .int .i64 0] 0 false true)) : FM) = M1
    have m1 : ∀ b, b < N' → b ≠ n → M1 b = M b := fun b hb hn => by rw [← hM1, fput_ne _ _ _ _ (by omega), fput_ne _ _ _ _ hn]
    have r1 : M1 n = some (.cells [.string p] 0 false true) := by rw [← hM1, fput_ne _ _ _ _ (by omega)]; exact fput_same _ _ _
    have o1 : M1 (n + 1) = some (.cells [.bool ((bs.take j).all id)] 0 false true) := by rw [m1 _ (by omega) (by omega)]; exact ho
    have b1 : M1 N' = some (.cells [.int .i64 0, .int .i64 0, .int .i64 0] 0 false true) := by rw [← hM1]; exact fput_same _ _ _
    generalize (bs.take j).all id = ok at o1 ih'
    refine use_rt (word_spec L hWd (s := p) (sep := ⟨#[32]⟩) (by omega : n < N' + 1) (by omega : n + 1 < N' + 1) (by omega) r1 o1 (by omega)) fun v M2 N2 rr2 w2 ⟨hv, n2, r2, o2, m2, f2⟩ => ?_
    subst hv
    have b2 : M2 N' = some (.cells [.int .i64 0, .int .i64 0, .int .i64 0] 0 false true) := by rw [m2 _ (by omega) (by omega) (by omega)]; exact b1
    simp (implicitDefEqProofs := false) (disch := omega) only [WPs, opds, List.all_cons, List.all_nil, List.cons_append, List.nil_append, cond_true, cond_false, eq_self, List.map_cons, List.map_nil, Nat.reduceAdd, Nat.testBit, Nat.reduceShiftRight, Nat.reduceAnd, Nat.reduceBNe, Nat.reduceMul]
    refine use_pure (words_spec hW _ _) fun _ => ?_
    simp (implicitDefEqProofs := false) (disch := omega) only [WPs, opds, List.all_cons, List.all_nil, List.cons_append, List.nil_append, cond_true, cond_false, eq_self, List.map_cons, List.map_nil, Nat.reduceAdd, Nat.testBit, Nat.reduceShiftRight, Nat.reduceAnd, Nat.reduceBNe, Nat.reduceMul]
    refine wr_kont (kind_L0 (M0 := M2) (N := N2) (fb := N') (nm := cutL p sp1) (a := 0) (t := 0) (by omega) _ (fun M3 w3 b3 m3 f3 x0 x1 rr3 => ?_) 8 0 (by omega) M2 0 _ b2 (fun _ _ => rfl) (fun _ _ => Nat.zero_mod _))
    have r3 : M3 n = some (.cells [.string (cutR p sp1)] 0 false true) := by rw [m3 _ (by omega)]; exact r2
    have o3 : M3 (n + 1) = some (.cells [.bool (ok && cutF p sp1)] 0 false true) := by rw [m3 _ (by omega)]; exact o2
    replace b3 : M3 N' = some (.cells [.int .i64 0, .int .i64 (kindB p), .int .i64 0] 0 false true) := b3
    simp (implicitDefEqProofs := false) (disch := omega) only [WPs, opds, List.all_cons, List.all_nil, List.cons_append, List.nil_append, cond_true, cond_false, eq_self, List.map_cons, List.map_nil, Nat.reduceAdd, Nat.testBit, Nat.reduceShiftRight, Nat.reduceAnd, Nat.reduceBNe, Nat.reduceMul, b3]
    refine use_pure (aims_spec hA _ _ _) fun _ => ?_
    have hzf : ∀ (M' : FM) (K : Nat), N' ≤ K → (∀ b, b < N' → b ≠ n → b ≠ n + 1 → M' b = M b) → FlZ M' (n + 3) K ov (fs.take j) := fun M' K hK hh => SlZ.frame hZ hK fun b h1 h2 => hh b h2 (by omega) (by omega)
    have q3 : ∀ b, b < N' → b ≠ n → b ≠ n + 1 → M3 b = M b := fun b h1 h2 h3 => by rw [m3 b (by omega), m2 b (by omega) h2 h3, m1 b h1 h2]
    have hcs := cut_size p sp1
    cases hPj with
    | @one z hk hz h0 h1 =>
      rw [hk]
      simp (implicitDefEqProofs := false) (disch := omega) only [WPs, opds, List.all_cons, List.all_nil, List.cons_append, List.nil_append, cond_true, cond_false, eq_self, List.map_cons, List.map_nil, Nat.reduceAdd, Nat.testBit, Nat.reduceShiftRight, Nat.reduceAnd, Nat.reduceBNe, Nat.reduceMul, r3, s_callv, callv_mk]
      refine use_rt (number_spec L hNm (s := cutR p sp1) (by omega : n + 1 < N2) o3 (by omega) hz h0 h1) fun v M4 N4 rr4 w4 ⟨hv, n4, o4, m4, f4⟩ => ?_
      subst hv
      have b4 : M4 N' = some (.cells [.int .i64 0, .int .i64 (kindB p), .int .i64 0] 0 false true) := by rw [m4 _ (by omega) (by omega)]; exact b3
      simp (implicitDefEqProofs := false) (disch := omega) only [WPs, opds, List.all_cons, List.all_nil, List.cons_append, List.nil_append, cond_true, cond_false, eq_self, List.map_cons, List.map_nil, Nat.reduceAdd, Nat.testBit, Nat.reduceShiftRight, Nat.reduceAnd, Nat.reduceBNe, Nat.reduceMul, b4]
      refine use_rt (app_flZ (hzf _ (N4 + 1) (by omega) (fun b h1 h2 h3 => by rw [fput_ne _ _ _ _ (by omega), fput_ne _ _ _ _ (by omega), m4 b (by omega) h3, q3 b h1 h2 h3])) ⟨z, kindB p, 0⟩ _ _ _ (by omega) (by rw [List.length_take]; omega)) fun v5 M5 N5 r5 w5 ⟨e5, z5, low5, fr5⟩ => ?_
      subst e5
      simp (implicitDefEqProofs := false) (disch := omega) only [WPs, opds, List.all_cons, List.all_nil, List.cons_append, List.nil_append, cond_true, cond_false, eq_self, List.map_cons, List.map_nil, Nat.reduceAdd, Nat.testBit, Nat.reduceShiftRight, Nat.reduceAnd, Nat.reduceBNe, Nat.reduceMul]
      have l5 : ∀ b, b < n + 3 → b ≠ n + 1 → M5 b = M3 b := fun b h1 h2 => by rw [low5 b h1, fput_ne _ _ _ _ (by omega), fput_ne _ _ _ _ (by omega), m4 b (by omega) h2]
      refine wr_end (ih' M5 (N4 + 2) (Nat.lor w0 (Nat.lor (Nat.lor (Nat.lor (Nat.lor (Nat.lor (bit n) (bit N')) w2) w3) (Nat.lor w4 (bit N'))) (Nat.lor (bit N4) w5))) v5 _ (cutR p sp1) (by omega) (fun b hb => by rw [l5 b (by omega) (by omega), q3 b (by omega) (by omega) (by omega), hM b hb]) (by rw [l5 n (by omega) (by omega)]; exact r3) (by rw [low5 _ (by omega), fput_ne _ _ _ _ (by omega), fput_ne _ _ _ _ (by omega), o4, Bool.and_assoc]) (by rw [l5 _ (by omega) (by omega), q3 _ (by omega) (by omega) (by omega)]; exact hp) z5 (fun i hi => ?_)) fun X e m n w hq => ?_
      · simp only [frz_iff]
        exact ⟨hw i hi, ⟨⟨⟨⟨frz_bit hi, frz_bit (by omega)⟩, f2 i hi (by omega)⟩, f3 i (by omega)⟩, f4 i (by omega), frz_bit (by omega)⟩, frz_bit (by omega), fr5 i (by omega)⟩
      · rw [← lor_assoc']; exact hq
    | @two z y hk hz hy h0 h1 g0 g1 =>
      rw [hk]
      simp (implicitDefEqProofs := false) (disch := omega) only [WPs, opds, List.all_cons, List.all_nil, List.cons_append, List.nil_append, cond_true, cond_false, eq_self, List.map_cons, List.map_nil, Nat.reduceAdd, Nat.testBit, Nat.reduceShiftRight, Nat.reduceAnd, Nat.reduceBNe, Nat.reduceMul, r3, s_callv, callv_mk]
      have hcs2 := cut_size (cutR p sp1) to4
      refine use_rt (word_spec L hWd (s := cutR p sp1) (sep := ⟨#[32, 116, 111, 32]⟩) (by omega : n < N2) (by omega : n + 1 < N2) (by omega) r3 o3 (by omega)) fun v M4 N4 rr4 w4 ⟨hv, n4, r4, o4, m4, f4⟩ => ?_
      subst hv
      have b4 : M4 N' = some (.cells [.int .i64 0, .int .i64 (kindB p), .int .i64 0] 0 false true) := by rw [m4 _ (by omega) (by omega) (by omega)]; exact b3
      simp (implicitDefEqProofs := false) (disch := omega) only [WPs, opds, List.all_cons, List.all_nil, List.cons_append, List.nil_append, cond_true, cond_false, eq_self, List.map_cons, List.map_nil, Nat.reduceAdd, Nat.testBit, Nat.reduceShiftRight, Nat.reduceAnd, Nat.reduceBNe, Nat.reduceMul, s_callv, callv_mk]
      refine use_rt (number_spec L hNm (s := cutL (cutR p sp1) to4) (by omega : n + 1 < N4) o4 (by omega) hz h0 h1) fun v M5 N5 rr5 w5 ⟨hv, n5, o5, m5, f5⟩ => ?_
      subst hv
      have b5 : M5 N' = some (.cells [.int .i64 0, .int .i64 (kindB p), .int .i64 0] 0 false true) := by rw [m5 _ (by omega) (by omega)]; exact b4
      have r5 : M5 n = some (.cells [.string (cutR (cutR p sp1) to4)] 0 false true) := by rw [m5 _ (by omega) (by omega)]; exact r4
      simp (implicitDefEqProofs := false) (disch := omega) only [WPs, opds, List.all_cons, List.all_nil, List.cons_append, List.nil_append, cond_true, cond_false, eq_self, List.map_cons, List.map_nil, Nat.reduceAdd, Nat.testBit, Nat.reduceShiftRight, Nat.reduceAnd, Nat.reduceBNe, Nat.reduceMul, b5, r5, s_callv, callv_mk]
      generalize hM5 : (AMem.put M5 N' (some (.cells [.int .i64 z, .int .i64 (kindB p), .int .i64 0] 0 false true)) : FM) = M5'
      have p5 : ∀ b, b ≠ N' → M5' b = M5 b := fun b hb => by rw [← hM5]; exact fput_ne _ _ _ _ hb
      have o5' := o5
      rw [← p5 (n + 1) (by omega)] at o5'
      refine use_rt (number_spec L hNm (s := cutR (cutR p sp1) to4) (by omega : n + 1 < N5) o5' (by omega) hy g0 g1) fun v M6 N6 rr6 w6 ⟨hv, n6, o6, m6, f6⟩ => ?_
      subst hv
      have b6 : M6 N' = some (.cells [.int .i64 z, .int .i64 (kindB p), .int .i64 0] 0 false true) := by rw [m6 _ (by omega) (by omega), ← hM5]; exact fput_same _ _ _
      simp (implicitDefEqProofs := false) (disch := omega) only [WPs, opds, List.all_cons, List.all_nil, List.cons_append, List.nil_append, cond_true, cond_false, eq_self, List.map_cons, List.map_nil, Nat.reduceAdd, Nat.testBit, Nat.reduceShiftRight, Nat.reduceAnd, Nat.reduceBNe, Nat.reduceMul, b6]
      have q6 : ∀ b, b < N' → b ≠ n → b ≠ n + 1 → M6 b = M b := fun b h1 h2 h3 => by rw [m6 b (by omega) h3, p5 b (by omega), m5 b (by omega) h3, m4 b (by omega) h2 h3, q3 b h1 h2 h3]
      refine use_rt (app_flZ (hzf _ (N6 + 1) (by omega) (fun b h1 h2 h3 => by rw [fput_ne _ _ _ _ (by omega), fput_ne _ _ _ _ (by omega), q6 b h1 h2 h3])) ⟨z, kindB p, y⟩ _ _ _ (by omega) (by rw [List.length_take]; omega)) fun v7 M7 N7 r7 w7 ⟨e7, z7, low7, fr7⟩ => ?_
      subst e7
      simp (implicitDefEqProofs := false) (disch := omega) only [WPs, opds, List.all_cons, List.all_nil, List.cons_append, List.nil_append, cond_true, cond_false, eq_self, List.map_cons, List.map_nil, Nat.reduceAdd, Nat.testBit, Nat.reduceShiftRight, Nat.reduceAnd, Nat.reduceBNe, Nat.reduceMul]
      have l7 : ∀ b, b < n + 3 → b ≠ n + 1 → M7 b = M4 b := fun b h1 h2 => by rw [low7 b h1, fput_ne _ _ _ _ (by omega), fput_ne _ _ _ _ (by omega), m6 b (by omega) h2, p5 b (by omega), m5 b (by omega) h2]
      refine wr_end (ih' M7 (N6 + 2) (Nat.lor w0 (Nat.lor (Nat.lor (Nat.lor (Nat.lor (Nat.lor (Nat.lor (bit n) (bit N')) w2) w3) (Nat.lor (Nat.lor w4 w5) (bit N'))) (Nat.lor w6 (bit N'))) (Nat.lor (bit N6) w7))) v7 _ (cutR (cutR p sp1) to4) (by omega) (fun b hb => by rw [l7 b (by omega) (by omega), m4 b (by omega) (by omega) (by omega), q3 b (by omega) (by omega) (by omega), hM b hb]) (by rw [l7 n (by omega) (by omega)]; exact r4) (by rw [low7 _ (by omega), fput_ne _ _ _ _ (by omega), fput_ne _ _ _ _ (by omega), o6]; simp only [Bool.and_assoc]; rfl) (by rw [l7 _ (by omega) (by omega), m4 _ (by omega) (by omega) (by omega), q3 _ (by omega) (by omega) (by omega)]; exact hp) z7 (fun i hi => ?_)) fun X e m n w hq => ?_
      · simp only [frz_iff]
        exact ⟨hw i hi, ⟨⟨⟨⟨⟨frz_bit hi, frz_bit (by omega)⟩, f2 i hi (by omega)⟩, f3 i (by omega)⟩, ⟨f4 i hi (by omega), f5 i (by omega)⟩, frz_bit (by omega)⟩, f6 i (by omega), frz_bit (by omega)⟩, frz_bit (by omega), fr7 i (by omega)⟩
      · rw [← lor_assoc']; exact hq
theorem parse_spec (L : LibY E Y) (hE : E 14 = some ac14) (hWd : E 26 = some ac26) (hNm : E 28 = some ac28) (hW : E 22 = some ac22) (hA : E 21 = some ac21) (hV : E 10 = some ac10) (m : FM) (n : Nat) {t : ByteArray} {fs : List Flt} {bs : List Bool} (ht : t ≠ ⟨#[]⟩) (hts : t.size < 1000000) (hc : Lib.countB t semi < 1000) (hlen : (splitL t semi).length = Lib.countB t semi + 1) (hlf : fs.length = (splitL t semi).length) (hlb : bs.length = (splitL t semi).length)
    (hsz : ∀ p ∈ splitL t semi, p.size < 1000000) (hP : ∀ i (h : i < (splitL t semi).length), PartP (splitL t semi)[i] (fs[i]'(by omega)) (bs[i]'(by omega))) :
    Rt (callW PG E Y 14 [.string t] m n) fun v M' N' w => n ≤ N' ∧ (∀ b, b < n → M' b = m b) ∧ (∀ j, j ≤ n → Nat.mod w (bit j) = 0) ∧ ∃ lv, v = .tuple #[lv, .int .i64 (if (bs.all id && validB fs) = true then 0 else 4)] ∧ ((bs.all id && validB fs) = true → FlZ M' n N' lv fs) := by
  obtain ⟨rs, hspl⟩ := L.split (AMem.put (AMem.put (AMem.put (AMem.put m n (some (.cells [.string ⟨#[]⟩] 0 false true))) (n + 1) (some (.cells [.bool false] 0 false true))) n (some (.cells [.string t] 0 false true))) (n + 1) (some (.cells [.bool true] 0 false true))) (n + 2) t semi (by omega) (by decide) (by omega)
  refine kept_specA (R := fun v M' N' => ∃ lv, v = .tuple #[lv, .int .i64 (if (bs.all id && validB fs) = true then 0 else 4)] ∧ ((bs.all id && validB fs) = true → FlZ M' n N' lv fs)) hE rfl fun Q hQ => ?_
  simp only [ac14]
  have hspl2 := hspl
  simp only [semi] at hspl2
  simp (implicitDefEqProofs := false) (disch := omega) only [WPs, opds, List.all_cons, List.all_nil, List.cons_append, List.nil_append, cond_true, cond_false, eq_self, List.map_cons, List.map_nil, Nat.reduceAdd, Nat.testBit, Nat.reduceShiftRight, Nat.reduceAnd, Nat.reduceBNe, Nat.reduceMul, eql_str, decide_eq_false ht, s_func, hspl2]
  have hsz' : ∀ b, b < n → (AMem.put (AMem.put (AMem.put (AMem.put (AMem.put m n (some (.cells [.string ⟨#[]⟩] 0 false true))) (n + 1) (some (.cells [.bool false] 0 false true))) n (some (.cells [.string t] 0 false true))) (n + 1) (some (.cells [.bool true] 0 false true))) (n + 2) (some (.cells ((splitL t semi).map Value.string) 1 false true)) : FM) b = m b := fun b hb => by
    rw [fput_ne _ _ _ _ (by omega), fput_ne _ _ _ _ (by omega), fput_ne _ _ _ _ (by omega), fput_ne _ _ _ _ (by omega), fput_ne _ _ _ _ (by omega)]
  have hcl : Lib.countB t ⟨#[59, 32]⟩ + 1 = (splitL t semi).length := hlen.symm
  rw [hcl]
  refine wr_kont (parse_L1 L hWd hNm hW hA (m := m) (n := n) (ps := splitL t semi) (fs := fs) (bs := bs) (by omega) hlf hlb hsz hP _ _ _ _ _ (fun ov M N' w hN hM ho hZ hw x2 rr => ?_) (splitL t semi).length 0 (by omega) _ (n + 3) 0 _ _ t (Nat.le_refl _) hsz' (by rw [fput_ne _ _ _ _ (by omega), fput_ne _ _ _ _ (by omega)]; exact fput_same _ _ _) (by rw [fput_ne _ _ _ _ (by omega)]; exact fput_same _ _ _) (fput_same _ _ _) (FlZ.nil _ _ _) (fun _ _ => Nat.zero_mod _))
  have fz := hw n (Nat.le_refl _)
  have fzn : Nat.mod (bit n) (bit n) = 0 := frz_bit (Nat.le_refl _)
  have fzn1 : Nat.mod (bit (n + 1)) (bit n) = 0 := frz_bit (by omega)
  have fzn2 : Nat.mod (bit (n + 2)) (bit n) = 0 := frz_bit (by omega)
  have hmask : Nat.mod (Nat.lor (Nat.lor (Nat.lor (Nat.lor (Nat.lor (bit n) (bit (n + 1))) (bit n)) (bit (n + 1))) (bit (n + 2))) w) (bit n) = 0 := by
    simp only [frz_iff]
    exact ⟨⟨⟨⟨⟨fzn, fzn1⟩, fzn⟩, fzn1⟩, fzn2⟩, fz⟩
  have bad : ∀ b : Bool, b = false → ∀ M' N', ∃ lv, Value.tuple #[Value.slice none 0 0, .int .i64 4] = .tuple #[lv, .int .i64 (if b = true then 0 else 4)] ∧ (b = true → FlZ M' n N' lv fs) := fun b hb M' N' => by subst hb; exact ⟨_, rfl, fun h => by cases h⟩
  cases hb : bs.all id with
  | false =>
    rw [hb] at ho
    simp (implicitDefEqProofs := false) (disch := omega) only [WPs, opds, List.all_cons, List.all_nil, List.cons_append, List.nil_append, cond_true, cond_false, eq_self, List.map_cons, List.map_nil, Nat.reduceAdd, Nat.testBit, Nat.reduceShiftRight, Nat.reduceAnd, Nat.reduceBNe, Nat.reduceMul, ho]
    exact hQ _ _ _ _ _ (by omega) hM hmask (fun _ => bad _ (by rw [hb]; rfl) _ _) (fun _ => bad _ (by rw [hb]; rfl) _ _)
  | true =>
    rw [hb] at ho
    simp (implicitDefEqProofs := false) (disch := omega) only [WPs, opds, List.all_cons, List.all_nil, List.cons_append, List.nil_append, cond_true, cond_false, eq_self, List.map_cons, List.map_nil, Nat.reduceAdd, Nat.testBit, Nat.reduceShiftRight, Nat.reduceAnd, Nat.reduceBNe, Nat.reduceMul, ho]
    refine use_pure (valid_spec hV hA _ _ ov fs hZ.s (by omega)) fun _ => ?_
    cases hv : validB fs with
    | false =>
      simp (implicitDefEqProofs := false) (disch := omega) only [WPs, opds, List.all_cons, List.all_nil, List.cons_append, List.nil_append, cond_true, cond_false, eq_self, List.map_cons, List.map_nil, Nat.reduceAdd, Nat.testBit, Nat.reduceShiftRight, Nat.reduceAnd, Nat.reduceBNe, Nat.reduceMul]
      exact hQ _ _ _ _ _ (by omega) hM hmask (fun _ => bad _ (by rw [hb, hv]; rfl) _ _) (fun _ => bad _ (by rw [hb, hv]; rfl) _ _)
    | true =>
      simp (implicitDefEqProofs := false) (disch := omega) only [WPs, opds, List.all_cons, List.all_nil, List.cons_append, List.nil_append, cond_true, cond_false, eq_self, List.map_cons, List.map_nil, Nat.reduceAdd, Nat.testBit, Nat.reduceShiftRight, Nat.reduceAnd, Nat.reduceBNe, Nat.reduceMul]
      have hbv : (bs.all id && validB fs) = true := by rw [hb, hv]; rfl
      refine hQ _ _ _ _ _ (by omega) hM hmask (fun _ => ⟨ov, by rw [hbv]; rfl, fun _ => SlZ.low hZ (by omega)⟩) (fun hfree => ⟨ov, by rw [hbv]; rfl, fun _ => ?_⟩)
      rcases hZ with ⟨h1, _, rfl⟩ | ⟨_, _, b, rfl, _⟩
      · rw [List.length_eq_zero_iff.1 h1]; exact FlZ.nil _ _ _
      · cases hfree
end Go.Am.C13
namespace Go.Am.C13
open Go Go.Am Go.Am.V
set_option maxRecDepth 100000
variable {E : Nat → Option AFn} {Y : Nat → List Value → FM → Nat → OR FM}
def exT : ByteArray := ⟨#[100, 114, 111, 112, 32, 51, 59, 32, 115, 116, 114, 97, 121, 32, 55, 32, 116, 111, 32, 49, 50, 59, 32, 100, 105, 101, 32, 50, 48]⟩
def exS : ByteArray := ⟨#[100, 114, 111, 112, 32, 48, 51]⟩
def exL : List Flt := [⟨3, 1, 0⟩, ⟨7, 3, 12⟩, ⟨20, 7, 0⟩]
def exP : ByteArray := ⟨#[100, 114, 111, 112, 32, 51]⟩
def exQ : ByteArray := ⟨#[115, 116, 114, 97, 121, 32, 55, 32, 116, 111, 32, 49, 50]⟩
def exR : ByteArray := ⟨#[100, 105, 101, 32, 50, 48]⟩
theorem ex_valid : validB exL = true := by decide
theorem itoa3 : itoaB 3 = ⟨#[51]⟩ := by
  have h : Lib.itoa ((3 : Nat) : Int) = [51] := by rw [Lib.itoa_nonneg, Lib.decDigits_one (by omega)]; rfl
  show (⟨(Lib.itoa ((3 : Nat) : Int)).toArray⟩ : ByteArray) = _
  rw [h]
theorem itoa7 : itoaB 7 = ⟨#[55]⟩ := by
  have h : Lib.itoa ((7 : Nat) : Int) = [55] := by rw [Lib.itoa_nonneg, Lib.decDigits_one (by omega)]; rfl
  show (⟨(Lib.itoa ((7 : Nat) : Int)).toArray⟩ : ByteArray) = _
  rw [h]
theorem itoa12 : itoaB 12 = ⟨#[49, 50]⟩ := by
  have h : Lib.itoa ((12 : Nat) : Int) = [49, 50] := by rw [Lib.itoa_nonneg, Lib.decDigits_two (by omega) (by omega)]; rfl
  show (⟨(Lib.itoa ((12 : Nat) : Int)).toArray⟩ : ByteArray) = _
  rw [h]
theorem itoa20 : itoaB 20 = ⟨#[50, 48]⟩ := by
  have h : Lib.itoa ((20 : Nat) : Int) = [50, 48] := by rw [Lib.itoa_nonneg, Lib.decDigits_two (by omega) (by omega)]; rfl
  show (⟨(Lib.itoa ((20 : Nat) : Int)).toArray⟩ : ByteArray) = _
  rw [h]
theorem exT_split : splitL exT semi = [exP, exQ, exR] := by decide
theorem exT_count : Lib.countB exT semi = 2 := by decide
theorem exS_split : splitL exS semi = [exS] := by decide
theorem exS_count : Lib.countB exS semi = 0 := by decide
theorem partP : PartP exP ⟨3, 1, 0⟩ true := by
  have h := PartP.one (p := exP) (z := 3) (by decide) (by decide) (by decide) (by decide)
  rw [show kindB exP = 1 by decide, show cutF exP sp1 = true by decide, show itoaB 3 = cutR exP sp1 by rw [itoa3]; decide] at h
  simpa using h
theorem partR : PartP exR ⟨20, 7, 0⟩ true := by
  have h := PartP.one (p := exR) (z := 20) (by decide) (by decide) (by decide) (by decide)
  rw [show kindB exR = 7 by decide, show cutF exR sp1 = true by decide, show itoaB 20 = cutR exR sp1 by rw [itoa20]; decide] at h
  simpa using h
theorem partQ : PartP exQ ⟨7, 3, 12⟩ true := by
  have h := PartP.two (p := exQ) (z := 7) (y := 12) (by decide) (by decide) (by decide) (by decide) (by decide) (by decide) (by decide)
  rw [show kindB exQ = 3 by decide, show cutF exQ sp1 = true by decide, show cutF (cutR exQ sp1) to4 = true by decide, show itoaB 7 = cutL (cutR exQ sp1) to4 by rw [itoa7]; decide, show itoaB 12 = cutR (cutR exQ sp1) to4 by rw [itoa12]; decide] at h
  simpa using h
theorem partS : PartP exS ⟨3, 1, 0⟩ false := by
  have h := PartP.one (p := exS) (z := 3) (by decide) (by decide) (by decide) (by decide)
  rw [show kindB exS = 1 by decide, show cutF exS sp1 = true by decide, show decide (itoaB 3 = cutR exS sp1) = false by rw [itoa3]; decide] at h
  simpa using h
theorem exL_text : textB exL = exT := by
  rw [textB, if_pos ex_valid]
  have h : exL.map fltT = [exP, exQ, exR] := by
    show [fltT ⟨3, 1, 0⟩, fltT ⟨7, 3, 12⟩, fltT ⟨20, 7, 0⟩] = _
    have h1 : fltT ⟨3, 1, 0⟩ = exP := by
      rw [fltT, if_neg (by decide)]
      show wordB 1 ++ ⟨#[32]⟩ ++ itoaB 3 = _
      rw [itoa3]; decide
    have h2 : fltT ⟨7, 3, 12⟩ = exQ := by
      rw [fltT, if_pos (by decide)]
      show wordB 3 ++ ⟨#[32]⟩ ++ itoaB 7 ++ (⟨#[32, 116, 111, 32]⟩ ++ itoaB 12) = _
      rw [itoa7, itoa12]; decide
    have h3 : fltT ⟨20, 7, 0⟩ = exR := by
      rw [fltT, if_neg (by decide)]
      show wordB 7 ++ ⟨#[32]⟩ ++ itoaB 20 = _
      rw [itoa20]; decide
    rw [h1, h2, h3]
  rw [h]
  decide
structure Te (E : Nat → Option AFn) : Prop where
  e9 : E 9 = some ac9
  e10 : E 10 = some ac10
  e12 : E 12 = some ac12
  e14 : E 14 = some ac14
  e15 : E 15 = some ac15
  e21 : E 21 = some ac21
  e22 : E 22 = some ac22
  e26 : E 26 = some ac26
  e28 : E 28 = some ac28
theorem parse_spec' (L : LibY E Y) (T : Te E) (m : FM) (n : Nat) {t : ByteArray} {ps : List ByteArray} {fs : List Flt} {bs : List Bool} (hsp : splitL t semi = ps) (ht : t ≠ ⟨#[]⟩) (hts : t.size < 1000000) (hc : Lib.countB t semi < 1000) (hlen : ps.length = Lib.countB t semi + 1) (hlf : fs.length = ps.length) (hlb : bs.length = ps.length)
    (hsz : ∀ p ∈ ps, p.size < 1000000) (hP : ∀ i (h : i < ps.length), PartP ps[i] (fs[i]'(by omega)) (bs[i]'(by omega))) :
    Rt (callW PG E Y 14 [.string t] m n) fun v M' N' w => n ≤ N' ∧ (∀ b, b < n → M' b = m b) ∧ (∀ j, j ≤ n → Nat.mod w (bit j) = 0) ∧ ∃ lv, v = .tuple #[lv, .int .i64 (if (bs.all id && validB fs) = true then 0 else 4)] ∧ ((bs.all id && validB fs) = true → FlZ M' n N' lv fs) := by
  subst hsp
  exact parse_spec L T.e14 T.e26 T.e28 T.e22 T.e21 T.e10 m n ht hts hc hlen hlf hlb hsz hP
theorem parseT (L : LibY E Y) (T : Te E) (m : FM) (n : Nat) : Rt (callW PG E Y 14 [.string exT] m n) fun v M' N' w => n ≤ N' ∧ (∀ b, b < n → M' b = m b) ∧ (∀ j, j ≤ n → Nat.mod w (bit j) = 0) ∧ ∃ lv, v = .tuple #[lv, .int .i64 0] ∧ FlZ M' n N' lv exL :=
  (parse_spec' L T m n (fs := exL) (bs := [true, true, true]) exT_split (by decide) (by decide) (by rw [exT_count]; omega) (by rw [exT_count]; rfl) rfl rfl (by intro p hp; simp only [List.mem_cons, List.not_mem_nil, or_false] at hp; rcases hp with rfl | rfl | rfl <;> decide) (fun i h => by
    match i, h with
    | 0, _ => exact partP
    | 1, _ => exact partQ
    | 2, _ => exact partR)).mono fun v M' N' w ⟨h1, h2, h3, lv, h4, h5⟩ => ⟨h1, h2, h3, lv, h4, h5 (by decide)⟩
theorem parseS (L : LibY E Y) (T : Te E) (m : FM) (n : Nat) : Rt (callW PG E Y 14 [.string exS] m n) fun v M' N' w => n ≤ N' ∧ (∀ b, b < n → M' b = m b) ∧ (∀ j, j ≤ n → Nat.mod w (bit j) = 0) ∧ ∃ lv, v = .tuple #[lv, .int .i64 4] :=
  (parse_spec' L T m n (fs := [⟨3, 1, 0⟩]) (bs := [false]) exS_split (by decide) (by decide) (by rw [exS_count]; omega) (by rw [exS_count]; rfl) rfl rfl (by intro p hp; simp only [List.mem_cons, List.not_mem_nil, or_false] at hp; subst hp; decide) (fun i h => by
    match i, h with
    | 0, _ => exact partS)).mono fun v M' N' w ⟨h1, h2, h3, lv, h4, h5⟩ => ⟨h1, h2, h3, lv, h4⟩
theorem awake_spec (L : LibY E Y) (T : Te E) (m : FM) (n : Nat) : Pure (callW PG E Y 9 [] m n) m n (.bool true) := by
  refine pure_spec T.e9 rfl rfl ?_
  simp only [ac9]
  simp (implicitDefEqProofs := false) (disch := omega) only [WPs, opds, List.all_cons, List.all_nil, List.cons_append, List.nil_append, cond_true, cond_false, eq_self, List.map_cons, List.map_nil, Nat.reduceAdd, Nat.testBit, Nat.reduceShiftRight, Nat.reduceAnd, Nat.reduceBNe, Nat.reduceMul]
  generalize hM1 : (AMem.put m n (some (.cells [.int .i64 3, .int .i64 1, .int .i64 0, .int .i64 7, .int .i64 3, .int .i64 12, .int .i64 20, .int .i64 7, .int .i64 0] 3 false true)) : FM) = M1
  have hL : FlS M1 (n + 1) (.slice (some ⟨n, 0, none⟩) 3 3) exL := ⟨_, _, rfl, blt_true (Nat.lt_succ_self n), .inr ⟨n, 0, flCells exL, false, true, rfl, Nat.lt_succ_self n, by rw [← hM1]; exact fput_same _ _ _, fun i hi => by rw [Nat.zero_add]; exact flCells_at exL hi⟩⟩
  have fzn : Nat.mod (bit n) (bit n) = 0 := frz_bit (Nat.le_refl _)
  refine use_rt (parseT L T M1 (n + 1)) fun v M2 N2 r2 w2 ⟨n2, m2, f2, lv, hv, hz⟩ => ?_
  subst hv
  have fz2 := f2 n (by omega)
  simp (implicitDefEqProofs := false) (disch := omega) only [WPs, opds, List.all_cons, List.all_nil, List.cons_append, List.nil_append, cond_true, cond_false, eq_self, List.map_cons, List.map_nil, Nat.reduceAdd, Nat.testBit, Nat.reduceShiftRight, Nat.reduceAnd, Nat.reduceBNe, Nat.reduceMul, ey0, ey1]
  refine use_rt (parseS L T M2 N2) fun v M3 N3 r3 w3 ⟨n3, m3, f3, lv3, hv⟩ => ?_
  subst hv
  have fz3 := f3 n (by omega)
  simp (implicitDefEqProofs := false) (disch := omega) only [WPs, opds, List.all_cons, List.all_nil, List.cons_append, List.nil_append, cond_true, cond_false, eq_self, List.map_cons, List.map_nil, Nat.reduceAdd, Nat.testBit, Nat.reduceShiftRight, Nat.reduceAnd, Nat.reduceBNe, Nat.reduceMul, ey0, ey1]
  have hL3 : FlS M3 N3 (.slice (some ⟨n, 0, none⟩) 3 3) exL := (hL.frame (by omega) m2).frame n3 m3
  have hz3 : FlS M3 N3 lv exL := hz.s.frame n3 m3
  refine use_pure (valid_spec T.e10 T.e21 M3 N3 _ exL hL3 (by decide)) fun _ => ?_
  rw [ex_valid]
  simp (implicitDefEqProofs := false) (disch := omega) only [WPs, opds, List.all_cons, List.all_nil, List.cons_append, List.nil_append, cond_true, cond_false, eq_self, List.map_cons, List.map_nil, Nat.reduceAdd, Nat.testBit, Nat.reduceShiftRight, Nat.reduceAnd, Nat.reduceBNe, Nat.reduceMul]
  refine use_pure (text_spec L T.e12 T.e10 T.e22 T.e21 M3 N3 _ exL hL3 (by decide) (by decide)) fun _ => ?_
  rw [exL_text]
  have hex : (⟨#[100, 114, 111, 112, 32, 51, 59, 32, 115, 116, 114, 97, 121, 32, 55, 32, 116, 111, 32, 49, 50, 59, 32, 100, 105, 101, 32, 50, 48]⟩ : ByteArray) = exT := rfl
  rw [hex]
  simp (implicitDefEqProofs := false) (disch := omega) only [WPs, opds, List.all_cons, List.all_nil, List.cons_append, List.nil_append, cond_true, cond_false, eq_self, List.map_cons, List.map_nil, Nat.reduceAdd, Nat.testBit, Nat.reduceShiftRight, Nat.reduceAnd, Nat.reduceBNe, Nat.reduceMul, eql_str, decide_eq_true (show exT = exT from rfl)]
  refine use_pure (same_spec T.e15 M3 N3 _ _ exL exL hz3 hL3 (by decide) (by decide)) fun _ => ?_
  rw [sameB_iff.2 rfl]
  simp (implicitDefEqProofs := false) (disch := omega) only [WPs, opds, List.all_cons, List.all_nil, List.cons_append, List.nil_append, cond_true, cond_false, eq_self, List.map_cons, List.map_nil, Nat.reduceAdd, Nat.testBit, Nat.reduceShiftRight, Nat.reduceAnd, Nat.reduceBNe, Nat.reduceMul]
  exact ⟨fz2, fz3⟩
end Go.Am.C13
namespace Go.Am.C13
open Go Go.Am
variable {E : Nat → Option AFn} {Y : Nat → List Value → FM → Nat → OR FM}
theorem refValid_L0 {m : FM} {N : Nat} {lv : Value} {fs : List Flt} (h : FlS m N lv fs) (hs : fs.length ≤ 9223372036854775807) (t : Bool) {Q : AX → List Value → FM → Nat → Nat → Prop}
    (hT : t = true → ∀ e M N' w, (∀ j, j ≤ N → Nat.mod w (bit j) = 0) → Q (.exit 0) e M N' w) (hF : t = false → ∀ e M N' w, (∀ j, j ≤ N → Nat.mod w (bit j) = 0) → Q (.ret (.bool false)) e M N' w) :
    ∀ d j, j + d = fs.length → ∀ (M : FM) (N' w0 : Nat) (p : Int) (x0 x2 x3 : Value), okFs p (fs.drop j) = t → (∀ k, j = k + 1 → 0 ≤ p ∧ (fs[k]?).map Flt.at_ = some p) → (j = 0 → p = -1) → N ≤ N' → (∀ b, b < N → M b = m b) → (∀ j, j ≤ N → Nat.mod w0 (bit j) = 0) →
    Gv (execW PG E Y ac11L0 [x0, .int .i64 (j : Int), x2, x3, lv] M N') fun X e m n w => Q X e m n (Nat.lor w0 w) := by
  intro d
  induction d with
  | zero =>
    intro j hj M N' w0 p x0 x2 x3 hp hk hz hN hM hw
    obtain rfl : j = fs.length := by omega
    rw [List.drop_length] at hp
    refine wr_loopN (L := ac11L0) (b := ac11L0b) rfl ?_
    simp only [ac11L0b]
    simp (implicitDefEqProofs := false) (disch := omega) only [WPs, opds, List.all_cons, List.all_nil, List.cons_append, List.nil_append, cond_true, cond_false, eq_self, List.map_cons, List.map_nil, Nat.reduceAdd, Nat.testBit, Nat.reduceShiftRight, Nat.reduceAnd, Nat.reduceBNe, Nat.reduceMul, h.len]
    exact hT hp.symm _ _ _ _ hw
  | succ d ih =>
    intro j hj M N' w0 p x0 x2 x3 hp hk hz hN hM hw
    have hjl : j < fs.length := by omega
    have h' := h.frame hN hM
    obtain ⟨b, o, cells, opn, wr, i1, i2, i3, i4⟩ := h'.at hjl
    have hbel := h'.bel N' (Nat.le_refl _)
    rw [List.drop_eq_getElem_cons hjl] at hp
    have ih' := ih (j + 1) (by omega)
    have hkn : ∀ k, j + 1 = k + 1 → 0 ≤ fs[j].at_ → 0 ≤ fs[j].at_ ∧ (fs[k]?).map Flt.at_ = some fs[j].at_ := fun k hk h0 => by
      obtain rfl : j = k := by omega
      exact ⟨h0, by rw [List.getElem?_eq_getElem hjl]; rfl⟩
    generalize fs[j] = f at i4 hp hkn
    simp only [okFs] at hp
    generalize hM0 : (AMem.put M N' (some (.cells f.cells 0 false true)) : FM) = M0
    have hM0b' : ∀ b, b < N' → M0 b = M b := fun b hb => by rw [← hM0, fput_ne _ _ _ _ (by omega)]
    have hM0b : ∀ b, b < N → M0 b = m b := fun b hb => by rw [hM0b' b (by omega)]; exact hM b hb
    have hbx : M0 N' = some (.cells f.cells 0 false true) := by rw [← hM0]; exact fput_same _ _ _
    have fz : ∀ i, i ≤ N → Nat.mod (Nat.lor w0 (Nat.lor (bit N') (bit N'))) (bit i) = 0 := fun i hi => by simp only [frz_iff]; exact ⟨hw i hi, frz_bit (by omega), frz_bit (by omega)⟩
    have hbl2 := (h'.frame (Nat.le_succ N') hM0b').bel (N' + 1) (Nat.le_refl _)
    simp only [Flt.cells] at i4 hM0 hbx
    have prev : ∀ k, j = k + 1 → ∃ b' o' cells' opn' wr', idxV 3 k lv = some (.pointer (some ⟨b', o', none⟩)) ∧ b' < N' ∧ M0 b' = some (.cells cells' 3 opn' wr') ∧ cget cells' o' = some (.int .i64 p) := fun k hk1 => by
      obtain ⟨h0, hp1⟩ := hk k hk1
      have hkl : k < fs.length := by omega
      obtain ⟨b', o', cells', opn', wr', j1, j2, j3, j4⟩ := h'.at hkl
      rw [List.getElem?_eq_getElem hkl] at hp1
      injection hp1 with hp1
      refine ⟨b', o', cells', opn', wr', j1, j2, by rw [hM0b' b' j2]; exact j3, ?_⟩
      have e := ctake_eq (ldrop cells' o') 3
      rw [j4] at e
      split at e
      · injection e with e
        have e2 : (ldrop cells' o')[0]? = some (.int .i64 fs[k].at_) := by
          have := congrArg (fun l => l[0]?) e
          simp only [List.getElem?_take] at this
          rw [if_pos (by omega)] at this
          rw [← this]; rfl
        rw [ldrop_eq, List.getElem?_drop, Nat.add_zero, hp1] at e2
        rw [cget_eq]; exact e2
      · cases e
    refine wr_loopN (L := ac11L0) (b := ac11L0b) rfl ?_
    simp only [ac11L0b]
    cases j with
    | zero =>
      have hp1 := hz rfl
      by_cases hok : okF p f = true
      · obtain ⟨c1, c2, c3, c4, c5⟩ := okF_iff.1 hok
        rw [hok, Bool.true_and] at hp
        by_cases c6 : f.to = 0
        · simp (implicitDefEqProofs := false) (disch := omega) only [WPs, opds, List.all_cons, List.all_nil, List.cons_append, List.nil_append, cond_true, cond_false, eq_self, List.map_cons, List.map_nil, Nat.reduceAdd, Nat.testBit, Nat.reduceShiftRight, Nat.reduceAnd, Nat.reduceBNe, Nat.reduceMul, i1, i3, i4, hM0, hbx, h.len, hbel, hbl2]
          refine wr_end (ih' M0 (N' + 1) (Nat.lor w0 (Nat.lor (bit N') (bit N'))) f.at_ _ _ _ hp (fun k' hk' => hkn k' hk' (by omega)) (fun hh => by omega) (by omega) hM0b fz) fun X e m n w hq => ?_
          rw [← lor_assoc']; exact hq
        · by_cases c7 : f.kind = 3
          · simp (implicitDefEqProofs := false) (disch := omega) only [WPs, opds, List.all_cons, List.all_nil, List.cons_append, List.nil_append, cond_true, cond_false, eq_self, List.map_cons, List.map_nil, Nat.reduceAdd, Nat.testBit, Nat.reduceShiftRight, Nat.reduceAnd, Nat.reduceBNe, Nat.reduceMul, i1, i3, i4, hM0, hbx, h.len, hbel, hbl2]
            refine wr_end (ih' M0 (N' + 1) (Nat.lor w0 (Nat.lor (bit N') (bit N'))) f.at_ _ _ _ hp (fun k' hk' => hkn k' hk' (by omega)) (fun hh => by omega) (by omega) hM0b fz) fun X e m n w hq => ?_
            rw [← lor_assoc']; exact hq
          · simp (implicitDefEqProofs := false) (disch := omega) only [WPs, opds, List.all_cons, List.all_nil, List.cons_append, List.nil_append, cond_true, cond_false, eq_self, List.map_cons, List.map_nil, Nat.reduceAdd, Nat.testBit, Nat.reduceShiftRight, Nat.reduceAnd, Nat.reduceBNe, Nat.reduceMul, i1, i3, i4, hM0, hbx, h.len, hbel, hbl2]
            refine wr_end (ih' M0 (N' + 1) (Nat.lor w0 (Nat.lor (bit N') (bit N'))) f.at_ _ _ _ hp (fun k' hk' => hkn k' hk' (by omega)) (fun hh => by omega) (by omega) hM0b fz) fun X e m n w hq => ?_
            rw [← lor_assoc']; exact hq
      · have hok' : okF p f = false := by simpa using hok
        rw [hok', Bool.false_and] at hp
        have hn := fun hh => hok (okF_iff.2 hh)
        by_cases c1 : p < f.at_
        case neg =>
          simp (implicitDefEqProofs := false) (disch := omega) only [WPs, opds, List.all_cons, List.all_nil, List.cons_append, List.nil_append, cond_true, cond_false, eq_self, List.map_cons, List.map_nil, Nat.reduceAdd, Nat.testBit, Nat.reduceShiftRight, Nat.reduceAnd, Nat.reduceBNe, Nat.reduceMul, i1, i3, i4, hM0, hbx, h.len, hbel, hbl2]
          exact hF hp.symm _ _ _ _ fz
        by_cases c2 : 1 ≤ f.kind
        case neg =>
          simp (implicitDefEqProofs := false) (disch := omega) only [WPs, opds, List.all_cons, List.all_nil, List.cons_append, List.nil_append, cond_true, cond_false, eq_self, List.map_cons, List.map_nil, Nat.reduceAdd, Nat.testBit, Nat.reduceShiftRight, Nat.reduceAnd, Nat.reduceBNe, Nat.reduceMul, i1, i3, i4, hM0, hbx, h.len, hbel, hbl2]
          exact hF hp.symm _ _ _ _ fz
        by_cases c3 : f.kind ≤ 7
        case neg =>
          simp (implicitDefEqProofs := false) (disch := omega) only [WPs, opds, List.all_cons, List.all_nil, List.cons_append, List.nil_append, cond_true, cond_false, eq_self, List.map_cons, List.map_nil, Nat.reduceAdd, Nat.testBit, Nat.reduceShiftRight, Nat.reduceAnd, Nat.reduceBNe, Nat.reduceMul, i1, i3, i4, hM0, hbx, h.len, hbel, hbl2]
          exact hF hp.symm _ _ _ _ fz
        by_cases c4 : 0 ≤ f.to
        case neg =>
          simp (implicitDefEqProofs := false) (disch := omega) only [WPs, opds, List.all_cons, List.all_nil, List.cons_append, List.nil_append, cond_true, cond_false, eq_self, List.map_cons, List.map_nil, Nat.reduceAdd, Nat.testBit, Nat.reduceShiftRight, Nat.reduceAnd, Nat.reduceBNe, Nat.reduceMul, i1, i3, i4, hM0, hbx, h.len, hbel, hbl2]
          exact hF hp.symm _ _ _ _ fz
        have c5 : ¬ (f.to = 0 ∨ f.kind = 3 ∨ f.kind = 5) := fun hh => hn ⟨c1, c2, c3, c4, hh⟩
        have c6 : f.to ≠ 0 := fun hh => c5 (.inl hh)
        have c7 : f.kind ≠ 3 := fun hh => c5 (.inr (.inl hh))
        have c8 : f.kind ≠ 5 := fun hh => c5 (.inr (.inr hh))
        simp (implicitDefEqProofs := false) (disch := omega) only [WPs, opds, List.all_cons, List.all_nil, List.cons_append, List.nil_append, cond_true, cond_false, eq_self, List.map_cons, List.map_nil, Nat.reduceAdd, Nat.testBit, Nat.reduceShiftRight, Nat.reduceAnd, Nat.reduceBNe, Nat.reduceMul, i1, i3, i4, hM0, hbx, h.len, hbel, hbl2]
        exact hF hp.symm _ _ _ _ fz
    | succ k =>
      obtain ⟨b', o', cells', opn', wr', q1, q2, q3, q4⟩ := prev k rfl
      have hp0 := (hk k rfl).1
      have hsub : ((k + 1 : Nat) : Int) - 1 = (k : Int) := by omega
      by_cases hok : okF p f = true
      · obtain ⟨c1, c2, c3, c4, c5⟩ := okF_iff.1 hok
        rw [hok, Bool.true_and] at hp
        by_cases c6 : f.to = 0
        · simp (implicitDefEqProofs := false) (disch := omega) only [WPs, opds, List.all_cons, List.all_nil, List.cons_append, List.nil_append, cond_true, cond_false, eq_self, List.map_cons, List.map_nil, Nat.reduceAdd, Nat.testBit, Nat.reduceShiftRight, Nat.reduceAnd, Nat.reduceBNe, Nat.reduceMul, i1, i3, i4, hM0, hbx, h.len, hbel, hbl2, q1, q3, q4, hsub]
          refine wr_end (ih' M0 (N' + 1) (Nat.lor w0 (Nat.lor (bit N') (bit N'))) f.at_ _ _ _ hp (fun k' hk' => hkn k' hk' (by omega)) (fun hh => by omega) (by omega) hM0b fz) fun X e m n w hq => ?_
          rw [← lor_assoc']; exact hq
        · by_cases c7 : f.kind = 3
          · simp (implicitDefEqProofs := false) (disch := omega) only [WPs, opds, List.all_cons, List.all_nil, List.cons_append, List.nil_append, cond_true, cond_false, eq_self, List.map_cons, List.map_nil, Nat.reduceAdd, Nat.testBit, Nat.reduceShiftRight, Nat.reduceAnd, Nat.reduceBNe, Nat.reduceMul, i1, i3, i4, hM0, hbx, h.len, hbel, hbl2, q1, q3, q4, hsub]
            refine wr_end (ih' M0 (N' + 1) (Nat.lor w0 (Nat.lor (bit N') (bit N'))) f.at_ _ _ _ hp (fun k' hk' => hkn k' hk' (by omega)) (fun hh => by omega) (by omega) hM0b fz) fun X e m n w hq => ?_
            rw [← lor_assoc']; exact hq
          · simp (implicitDefEqProofs := false) (disch := omega) only [WPs, opds, List.all_cons, List.all_nil, List.cons_append, List.nil_append, cond_true, cond_false, eq_self, List.map_cons, List.map_nil, Nat.reduceAdd, Nat.testBit, Nat.reduceShiftRight, Nat.reduceAnd, Nat.reduceBNe, Nat.reduceMul, i1, i3, i4, hM0, hbx, h.len, hbel, hbl2, q1, q3, q4, hsub]
            refine wr_end (ih' M0 (N' + 1) (Nat.lor w0 (Nat.lor (bit N') (bit N'))) f.at_ _ _ _ hp (fun k' hk' => hkn k' hk' (by omega)) (fun hh => by omega) (by omega) hM0b fz) fun X e m n w hq => ?_
            rw [← lor_assoc']; exact hq
      · have hok' : okF p f = false := by simpa using hok
        rw [hok', Bool.false_and] at hp
        have hn := fun hh => hok (okF_iff.2 hh)
        by_cases a0 : f.at_ < 0
        case pos =>
          simp (implicitDefEqProofs := false) (disch := omega) only [WPs, opds, List.all_cons, List.all_nil, List.cons_append, List.nil_append, cond_true, cond_false, eq_self, List.map_cons, List.map_nil, Nat.reduceAdd, Nat.testBit, Nat.reduceShiftRight, Nat.reduceAnd, Nat.reduceBNe, Nat.reduceMul, i1, i3, i4, hM0, hbx, h.len, hbel, hbl2, q1, q3, q4, hsub]
          exact hF hp.symm _ _ _ _ fz
        by_cases c1 : p < f.at_
        case neg =>
          simp (implicitDefEqProofs := false) (disch := omega) only [WPs, opds, List.all_cons, List.all_nil, List.cons_append, List.nil_append, cond_true, cond_false, eq_self, List.map_cons, List.map_nil, Nat.reduceAdd, Nat.testBit, Nat.reduceShiftRight, Nat.reduceAnd, Nat.reduceBNe, Nat.reduceMul, i1, i3, i4, hM0, hbx, h.len, hbel, hbl2, q1, q3, q4, hsub]
          exact hF hp.symm _ _ _ _ fz
        by_cases c2 : 1 ≤ f.kind
        case neg =>
          simp (implicitDefEqProofs := false) (disch := omega) only [WPs, opds, List.all_cons, List.all_nil, List.cons_append, List.nil_append, cond_true, cond_false, eq_self, List.map_cons, List.map_nil, Nat.reduceAdd, Nat.testBit, Nat.reduceShiftRight, Nat.reduceAnd, Nat.reduceBNe, Nat.reduceMul, i1, i3, i4, hM0, hbx, h.len, hbel, hbl2, q1, q3, q4, hsub]
          exact hF hp.symm _ _ _ _ fz
        by_cases c3 : f.kind ≤ 7
        case neg =>
          simp (implicitDefEqProofs := false) (disch := omega) only [WPs, opds, List.all_cons, List.all_nil, List.cons_append, List.nil_append, cond_true, cond_false, eq_self, List.map_cons, List.map_nil, Nat.reduceAdd, Nat.testBit, Nat.reduceShiftRight, Nat.reduceAnd, Nat.reduceBNe, Nat.reduceMul, i1, i3, i4, hM0, hbx, h.len, hbel, hbl2, q1, q3, q4, hsub]
          exact hF hp.symm _ _ _ _ fz
        by_cases c4 : 0 ≤ f.to
        case neg =>
          simp (implicitDefEqProofs := false) (disch := omega) only [WPs, opds, List.all_cons, List.all_nil, List.cons_append, List.nil_append, cond_true, cond_false, eq_self, List.map_cons, List.map_nil, Nat.reduceAdd, Nat.testBit, Nat.reduceShiftRight, Nat.reduceAnd, Nat.reduceBNe, Nat.reduceMul, i1, i3, i4, hM0, hbx, h.len, hbel, hbl2, q1, q3, q4, hsub]
          exact hF hp.symm _ _ _ _ fz
        have c5 : ¬ (f.to = 0 ∨ f.kind = 3 ∨ f.kind = 5) := fun hh => hn ⟨c1, c2, c3, c4, hh⟩
        have c6 : f.to ≠ 0 := fun hh => c5 (.inl hh)
        have c7 : f.kind ≠ 3 := fun hh => c5 (.inr (.inl hh))
        have c8 : f.kind ≠ 5 := fun hh => c5 (.inr (.inr hh))
        simp (implicitDefEqProofs := false) (disch := omega) only [WPs, opds, List.all_cons, List.all_nil, List.cons_append, List.nil_append, cond_true, cond_false, eq_self, List.map_cons, List.map_nil, Nat.reduceAdd, Nat.testBit, Nat.reduceShiftRight, Nat.reduceAnd, Nat.reduceBNe, Nat.reduceMul, i1, i3, i4, hM0, hbx, h.len, hbel, hbl2, q1, q3, q4, hsub]
        exact hF hp.symm _ _ _ _ fz
theorem refValid_spec (hE : E 11 = some ac11) (m : FM) (n : Nat) (lv : Value) (fs : List Flt) (h : FlS m n lv fs) (hs : fs.length ≤ 9223372036854775807) : Pure (callW PG E Y 11 [lv] m n) m n (.bool (validB fs)) := by
  refine pure_spec hE rfl rfl ?_
  simp only [ac11]
  simp (implicitDefEqProofs := false) (disch := omega) only [WPs, opds, List.all_cons, List.all_nil, List.cons_append, List.nil_append, cond_true, cond_false, eq_self, List.map_cons, List.map_nil, Nat.reduceAdd, Nat.testBit, Nat.reduceShiftRight, Nat.reduceAnd, Nat.reduceBNe, Nat.reduceMul]
  refine wr_kont (refValid_L0 h hs (validB fs) (fun ht e M N' w hw rr => ?_) (fun ht e M N' w hw rr => ?_) fs.length 0 (by omega) m n 0 (-1) _ _ _ rfl (fun k hk => by omega) (fun _ => rfl) (Nat.le_refl _) (fun _ _ => rfl) (fun _ _ => Nat.zero_mod _))
  · have fz := hw n (Nat.le_refl _)
    rw [ht]
    simp (implicitDefEqProofs := false) (disch := omega) only [WPs, opds, List.all_cons, List.all_nil, List.cons_append, List.nil_append, cond_true, cond_false, eq_self, List.map_cons, List.map_nil, Nat.reduceAdd, Nat.testBit, Nat.reduceShiftRight, Nat.reduceAnd, Nat.reduceBNe, Nat.reduceMul, fz]
  · have fz := hw n (Nat.le_refl _)
    rw [ht]
    simp (implicitDefEqProofs := false) (disch := omega) only [WPs, opds, List.all_cons, List.all_nil, List.cons_append, List.nil_append, cond_true, cond_false, eq_self, List.map_cons, List.map_nil, Nat.reduceAdd, Nat.testBit, Nat.reduceShiftRight, Nat.reduceAnd, Nat.reduceBNe, Nat.reduceMul, fz]
end Go.Am.C13
namespace Go.Am.C13
open Go Go.Am
variable {E : Nat → Option AFn} {Y : Nat → List Value → FM → Nat → OR FM}
def atV (o : Option Flt) : Value := match o with
  | some f => .tuple #[fltV f, .bool true]
  | none => .tuple #[fltV ⟨0, 0, 0⟩, .bool false]
def zero3 : List Value := [.int .i64 0, .int .i64 0, .int .i64 0]
theorem at_L0 {m : FM} {n : Nat} {lv : Value} {fs : List Flt} {op : Int} (h : FlS m n lv fs) (hs : fs.length ≤ 9223372036854775807) (t : Option Flt) (x4 : Value) {Q : AX → List Value → FM → Nat → Nat → Prop}
    (hT : ∀ f, t = some f → ∀ e M N' w, n ≤ N' → (∀ b, b < n → M b = m b) → (∀ j, j ≤ n → Nat.mod w (bit j) = 0) → Q (.ret (atV (some f))) e M N' w) (hF : t = none → ∀ x0 x2 M N' w, n < N' → (∀ b, b < n → M b = m b) → M n = some (.cells zero3 0 false true) → (∀ j, j ≤ n → Nat.mod w (bit j) = 0) → Q (.exit 0) [x0, x2, .int .i64 (fs.length : Int), x4, .pointer (some ⟨n, 0, none⟩), lv, .int .i64 op] M N' w) :
    ∀ d j, j + d = fs.length → ∀ (M : FM) (N' w0 : Nat) (x0 x2 : Value), findB (fs.drop j) op = t → n < N' → M n = some (.cells zero3 0 false true) → (∀ b, b < n → M b = m b) → (∀ j, j ≤ n → Nat.mod w0 (bit j) = 0) →
    Gv (execW PG E Y ac17L0 [x0, .int .i64 (j : Int), x2, .int .i64 (fs.length : Int), x4, .pointer (some ⟨n, 0, none⟩), lv, .int .i64 op] M N') fun X e m n w => Q X e m n (Nat.lor w0 w) := by
  intro d
  induction d with
  | zero =>
    intro j hj M N' w0 x0 x2 hp hN hZ hM hw
    obtain rfl : j = fs.length := by omega
    rw [List.drop_length] at hp
    refine wr_loopN (L := ac17L0) (b := ac17L0b) rfl ?_
    simp only [ac17L0b]
    simp (implicitDefEqProofs := false) (disch := omega) only [WPs, opds, List.all_cons, List.all_nil, List.cons_append, List.nil_append, cond_true, cond_false, eq_self, List.map_cons, List.map_nil, Nat.reduceAdd, Nat.testBit, Nat.reduceShiftRight, Nat.reduceAnd, Nat.reduceBNe, Nat.reduceMul]
    exact hF hp.symm _ _ _ _ _ hN hM hZ hw
  | succ d ih =>
    intro j hj M N' w0 x0 x2 hp hN hZ hM hw
    have hjl : j < fs.length := by omega
    obtain ⟨b, o, cells, opn, wr, i1, i2, i3, i4⟩ := (h.frame (Nat.le_refl n) hM).at hjl
    rw [List.drop_eq_getElem_cons hjl] at hp
    have ih' := ih (j + 1) (by omega)
    generalize fs[j] = f at i4 hp
    generalize hM0 : (AMem.put M N' (some (.cells f.cells 0 false true)) : FM) = M0
    have hM0b : ∀ b, b < n → M0 b = m b := fun b hb => by rw [← hM0, fput_ne _ _ _ _ (by omega)]; exact hM b hb
    have hZ0 : M0 n = some (.cells zero3 0 false true) := by rw [← hM0, fput_ne _ _ _ _ (by omega)]; exact hZ
    have hbx : M0 N' = some (.cells f.cells 0 false true) := by rw [← hM0]; exact fput_same _ _ _
    have fz : ∀ i, i ≤ n → Nat.mod (Nat.lor w0 (Nat.lor (bit N') (bit N'))) (bit i) = 0 := fun i hi => by simp only [frz_iff]; exact ⟨hw i hi, frz_bit (by omega), frz_bit (by omega)⟩
    simp only [Flt.cells] at i4 hM0 hbx
    have hZ0' := hZ0
    simp only [zero3] at hZ0'
    refine wr_loopN (L := ac17L0) (b := ac17L0b) rfl ?_
    simp only [ac17L0b]
    by_cases ho : f.at_ = op
    · have ht : t = some f := by rw [← hp, findB, List.find?_cons_of_pos (by simpa using ho)]
      simp (implicitDefEqProofs := false) (disch := omega) only [WPs, opds, List.all_cons, List.all_nil, List.cons_append, List.nil_append, cond_true, cond_false, eq_self, List.map_cons, List.map_nil, Nat.reduceAdd, Nat.testBit, Nat.reduceShiftRight, Nat.reduceAnd, Nat.reduceBNe, Nat.reduceMul, i1, i3, i4, hM0, hbx, hZ0', decide_eq_true ho]
      exact hT f ht _ _ _ _ (by omega) (fun b hb => by rw [fput_ne _ _ _ _ (by omega)]; exact hM0b b hb) (fun i hi => by simp only [frz_iff]; exact ⟨hw i hi, ⟨frz_bit (by omega), frz_bit (by omega)⟩, frz_bit (by omega)⟩)
    · have hp' : findB (fs.drop (j + 1)) op = t := by rw [← hp, findB, findB, List.find?_cons_of_neg (by simpa using ho)]
      simp (implicitDefEqProofs := false) (disch := omega) only [WPs, opds, List.all_cons, List.all_nil, List.cons_append, List.nil_append, cond_true, cond_false, eq_self, List.map_cons, List.map_nil, Nat.reduceAdd, Nat.testBit, Nat.reduceShiftRight, Nat.reduceAnd, Nat.reduceBNe, Nat.reduceMul, i1, i3, i4, hM0, hbx, hZ0', decide_eq_false ho]
      refine wr_end (ih' M0 (N' + 1) (Nat.lor w0 (Nat.lor (bit N') (bit N'))) _ _ hp' (by omega) hZ0 hM0b fz) fun X e m n w hq => ?_
      rw [← lor_assoc']; exact hq
theorem at_free (o : Option Flt) : addrFree (atV o) = false := by cases o <;> rfl
theorem at_spec (hE : E 17 = some ac17) (m : FM) (n : Nat) (lv : Value) (fs : List Flt) (op : Int) (h : FlS m n lv fs) (hs : fs.length ≤ 9223372036854775807) : Rt (callW PG E Y 17 [lv, .int .i64 op] m n) fun r M' N' w => n ≤ N' ∧ (∀ b, b < n → M' b = m b) ∧ (∀ j, j ≤ n → Nat.mod w (bit j) = 0) ∧ r = atV (findB fs op) := by
  refine kept_specQ hE rfl fun Q hQ => ?_
  simp only [ac17]
  simp (implicitDefEqProofs := false) (disch := omega) only [WPs, opds, List.all_cons, List.all_nil, List.cons_append, List.nil_append, cond_true, cond_false, eq_self, List.map_cons, List.map_nil, Nat.reduceAdd, Nat.testBit, Nat.reduceShiftRight, Nat.reduceAnd, Nat.reduceBNe, Nat.reduceMul, h.len]
  have fz2 : Nat.mod (bit n) (bit n) = 0 := frz_bit (Nat.le_refl _)
  refine wr_kont (at_L0 h hs (findB fs op) _ (fun f ht e M N' w hN hM hw rr => ?_) (fun ht x0 x2 M N' w hN hM hZ hw rr => ?_) fs.length 0 (by omega) _ (n + 1) 0 _ _ rfl (by omega) (fput_same _ _ _) (fun b hb => fput_ne _ _ _ _ (by omega)) (fun _ _ => Nat.zero_mod _))
  · have fz := hw n (Nat.le_refl _)
    simp (implicitDefEqProofs := false) (disch := omega) only [WPs, opds, List.all_cons, List.all_nil, List.cons_append, List.nil_append, cond_true, cond_false, eq_self, List.map_cons, List.map_nil, Nat.reduceAdd, Nat.testBit, Nat.reduceShiftRight, Nat.reduceAnd, Nat.reduceBNe, Nat.reduceMul]
    exact hQ _ _ _ _ _ hN hM (by simp only [frz_iff]; exact ⟨fz2, fz⟩) (at_free _) (by rw [ht])
  · have fz := hw n (Nat.le_refl _)
    simp only [zero3] at hZ
    simp (implicitDefEqProofs := false) (disch := omega) only [WPs, opds, List.all_cons, List.all_nil, List.cons_append, List.nil_append, cond_true, cond_false, eq_self, List.map_cons, List.map_nil, Nat.reduceAdd, Nat.testBit, Nat.reduceShiftRight, Nat.reduceAnd, Nat.reduceBNe, Nat.reduceMul, hZ]
    exact hQ _ _ _ _ _ (by omega) (fun b hb => by rw [fput_ne _ _ _ _ (by omega)]; exact hM b hb) (by simp only [frz_iff]; exact ⟨⟨fz2, fz⟩, fz2⟩) rfl (by rw [ht]; rfl)
theorem refAt_L0 {m : FM} {n : Nat} {lv : Value} {fs : List Flt} {op : Int} (h : FlS m n lv fs) (hs : fs.length ≤ 9223372036854775807) (t : Option Flt) {Q : AX → List Value → FM → Nat → Nat → Prop}
    (hT : ∀ f, t = some f → ∀ e M N' w, n ≤ N' → (∀ b, b < n → M b = m b) → (∀ j, j ≤ n → Nat.mod w (bit j) = 0) → Q (.ret (atV (some f))) e M N' w) (hF : t = none → ∀ x0 x2 x3 M N' w, n < N' → (∀ b, b < n → M b = m b) → M n = some (.cells zero3 0 false true) → (∀ j, j ≤ n → Nat.mod w (bit j) = 0) → Q (.exit 0) [x0, x2, x3, .pointer (some ⟨n, 0, none⟩), lv, .int .i64 op] M N' w) :
    ∀ d j, j + d = fs.length → ∀ (M : FM) (N' w0 : Nat) (x0 x2 x3 : Value), findB (fs.drop j) op = t → n < N' → M n = some (.cells zero3 0 false true) → (∀ b, b < n → M b = m b) → (∀ j, j ≤ n → Nat.mod w0 (bit j) = 0) →
    Gv (execW PG E Y ac18L0 [x0, .int .i64 (j : Int), x2, x3, .pointer (some ⟨n, 0, none⟩), lv, .int .i64 op] M N') fun X e m n w => Q X e m n (Nat.lor w0 w) := by
  intro d
  induction d with
  | zero =>
    intro j hj M N' w0 x0 x2 x3 hp hN hZ hM hw
    obtain rfl : j = fs.length := by omega
    rw [List.drop_length] at hp
    refine wr_loopN (L := ac18L0) (b := ac18L0b) rfl ?_
    simp only [ac18L0b]
    simp (implicitDefEqProofs := false) (disch := omega) only [WPs, opds, List.all_cons, List.all_nil, List.cons_append, List.nil_append, cond_true, cond_false, eq_self, List.map_cons, List.map_nil, Nat.reduceAdd, Nat.testBit, Nat.reduceShiftRight, Nat.reduceAnd, Nat.reduceBNe, Nat.reduceMul, h.len]
    exact hF hp.symm _ _ _ _ _ _ hN hM hZ hw
  | succ d ih =>
    intro j hj M N' w0 x0 x2 x3 hp hN hZ hM hw
    have hjl : j < fs.length := by omega
    obtain ⟨b, o, cells, opn, wr, i1, i2, i3, i4⟩ := (h.frame (Nat.le_refl n) hM).at hjl
    rw [List.drop_eq_getElem_cons hjl] at hp
    have ih' := ih (j + 1) (by omega)
    generalize fs[j] = f at i4 hp
    have i5 : cget cells o = some (.int .i64 f.at_) := by
      have e := ctake_eq (ldrop cells o) 3
      rw [i4] at e
      split at e
      · injection e with e
        have e2 := congrArg (fun l => l[0]?) e
        simp only [List.getElem?_take] at e2
        rw [if_pos (by omega), ldrop_eq, List.getElem?_drop, Nat.add_zero] at e2
        rw [cget_eq, ← e2]; rfl
      · cases e
    simp only [Flt.cells] at i4
    have hZ' := hZ
    simp only [zero3] at hZ'
    refine wr_loopN (L := ac18L0) (b := ac18L0b) rfl ?_
    simp only [ac18L0b]
    by_cases ho : f.at_ = op
    · have ht : t = some f := by rw [← hp, findB, List.find?_cons_of_pos (by simpa using ho)]
      simp (implicitDefEqProofs := false) (disch := omega) only [WPs, opds, List.all_cons, List.all_nil, List.cons_append, List.nil_append, cond_true, cond_false, eq_self, List.map_cons, List.map_nil, Nat.reduceAdd, Nat.testBit, Nat.reduceShiftRight, Nat.reduceAnd, Nat.reduceBNe, Nat.reduceMul, h.len, i1, i3, i4, i5, hZ', decide_eq_true ho]
      exact hT f ht _ _ _ _ (by omega) (fun b hb => by rw [fput_ne _ _ _ _ (by omega)]; exact hM b hb) (fun i hi => by simp only [frz_iff]; exact ⟨hw i hi, frz_bit (by omega)⟩)
    · have hp' : findB (fs.drop (j + 1)) op = t := by rw [← hp, findB, findB, List.find?_cons_of_neg (by simpa using ho)]
      simp (implicitDefEqProofs := false) (disch := omega) only [WPs, opds, List.all_cons, List.all_nil, List.cons_append, List.nil_append, cond_true, cond_false, eq_self, List.map_cons, List.map_nil, Nat.reduceAdd, Nat.testBit, Nat.reduceShiftRight, Nat.reduceAnd, Nat.reduceBNe, Nat.reduceMul, h.len, i1, i3, i4, i5, hZ', decide_eq_false ho]
      exact wr_end (ih' M N' w0 _ _ _ hp' hN hZ hM hw) fun X e m n w hq => by simpa only [zero_lor'] using hq
theorem refAt_spec (hE : E 18 = some ac18) (m : FM) (n : Nat) (lv : Value) (fs : List Flt) (op : Int) (h : FlS m n lv fs) (hs : fs.length ≤ 9223372036854775807) : Rt (callW PG E Y 18 [lv, .int .i64 op] m n) fun r M' N' w => n ≤ N' ∧ (∀ b, b < n → M' b = m b) ∧ (∀ j, j ≤ n → Nat.mod w (bit j) = 0) ∧ r = atV (findB fs op) := by
  refine kept_specQ hE rfl fun Q hQ => ?_
  simp only [ac18]
  simp (implicitDefEqProofs := false) (disch := omega) only [WPs, opds, List.all_cons, List.all_nil, List.cons_append, List.nil_append, cond_true, cond_false, eq_self, List.map_cons, List.map_nil, Nat.reduceAdd, Nat.testBit, Nat.reduceShiftRight, Nat.reduceAnd, Nat.reduceBNe, Nat.reduceMul, h.len]
  have fz2 : Nat.mod (bit n) (bit n) = 0 := frz_bit (Nat.le_refl _)
  refine wr_kont (refAt_L0 h hs (findB fs op) (fun f ht e M N' w hN hM hw rr => ?_) (fun ht x0 x2 x3 M N' w hN hM hZ hw rr => ?_) fs.length 0 (by omega) _ (n + 1) 0 _ _ _ rfl (by omega) (fput_same _ _ _) (fun b hb => fput_ne _ _ _ _ (by omega)) (fun _ _ => Nat.zero_mod _))
  · have fz := hw n (Nat.le_refl _)
    simp (implicitDefEqProofs := false) (disch := omega) only [WPs, opds, List.all_cons, List.all_nil, List.cons_append, List.nil_append, cond_true, cond_false, eq_self, List.map_cons, List.map_nil, Nat.reduceAdd, Nat.testBit, Nat.reduceShiftRight, Nat.reduceAnd, Nat.reduceBNe, Nat.reduceMul]
    exact hQ _ _ _ _ _ hN hM (by simp only [frz_iff]; exact ⟨fz2, fz⟩) (at_free _) (by rw [ht])
  · have fz := hw n (Nat.le_refl _)
    simp only [zero3] at hZ
    simp (implicitDefEqProofs := false) (disch := omega) only [WPs, opds, List.all_cons, List.all_nil, List.cons_append, List.nil_append, cond_true, cond_false, eq_self, List.map_cons, List.map_nil, Nat.reduceAdd, Nat.testBit, Nat.reduceShiftRight, Nat.reduceAnd, Nat.reduceBNe, Nat.reduceMul, hZ]
    exact hQ _ _ _ _ _ (by omega) (fun b hb => by rw [fput_ne _ _ _ _ (by omega)]; exact hM b hb) (by simp only [frz_iff]; exact ⟨⟨fz2, fz⟩, fz2⟩) rfl (by rw [ht]; rfl)
end Go.Am.C13
namespace Go.Am.C13
open Go Go.Am Go.Am.V
set_option maxRecDepth 1000000
theorem inI64_of {z : Int} (h0 : -9223372036854775808 ≤ z) (h1 : z ≤ 9223372036854775807) : inI64 z = true := by
  cases z with
  | ofNat a =>
    have h1 : (a : Int) ≤ 9223372036854775807 := h1
    exact Nat.ble_eq_true_of_le (show a + 1 ≤ 9223372036854775808 by omega)
  | negSucc a => exact Nat.ble_eq_true_of_le (show a + 1 ≤ 9223372036854775808 by omega)
theorem y_itoa (m : FM) (n : Nat) {z : Int} (h0 : -9223372036854775808 ≤ z) (h1 : z ≤ 9223372036854775807) : Y13 23 [.int .i64 z] m n = .ok (.string (itoaB z)) m n 0 0 := by
  have h : pfnA pItoa 23 [.int .i64 z] m n = .ok (.string (itoaB z)) m n 0 0 := by
    show Option.rec (motive := fun _ => OR FM) .no (fun v => .ok v m n 0 0) (cond (inI64 z) (some (Value.string ⟨(Lib.itoa z).toArray⟩)) none) = _
    rw [inI64_of h0 h1]; rfl
  show altA (pfnA pItoa) _ 23 _ m n = _
  unfold altA
  rw [h]
theorem y_cut (m : FM) (n : Nat) {s sep : ByteArray} (hs : s.size < 4294967281) : Y13 27 [.string s, .string sep] m n = .ok (.tuple #[.string ⟨(Lib.cut s.data.toList sep.data.toList).1.toArray⟩, .string ⟨(Lib.cut s.data.toList sep.data.toList).2.1.toArray⟩, .bool (Lib.cut s.data.toList sep.data.toList).2.2]) m n 0 0 := by
  have h : pfnA pCut 27 [.string s, .string sep] m n = .ok (.tuple #[.string ⟨(Lib.cut s.data.toList sep.data.toList).1.toArray⟩, .string ⟨(Lib.cut s.data.toList sep.data.toList).2.1.toArray⟩, .bool (Lib.cut s.data.toList sep.data.toList).2.2]) m n 0 0 := by
    show Option.rec (motive := fun _ => OR FM) .no (fun v => .ok v m n 0 0) (cond (Nat.blt s.size 4294967281) _ none) = _
    rw [show Nat.blt s.size 4294967281 = true from Nat.ble_eq_true_of_le hs]; rfl
  show altA (pfnA pItoa) (altA (pfnA pCut) _) 27 _ m n = _
  unfold altA
  rw [show pfnA pItoa 27 [.string s, .string sep] m n = .no from rfl, h]
theorem y_atoi (m : FM) (n : Nat) {s : ByteArray} {z : Int} (hs : s.size < 4294967281) (hz : Lib.atoiAll s.data.toList = .ok z) : Y13 29 [.string s] m n = .ok (.tuple #[.int .i64 z, .nilIface]) m n 0 0 := by
  have h : pfnA pAtoi 29 [.string s] m n = .ok (.tuple #[.int .i64 z, .nilIface]) m n 0 0 := by
    show Option.rec (motive := fun _ => OR FM) .no (fun v => .ok v m n 0 0) (cond (Nat.blt s.size 4294967281) (match Lib.atoiAll s.data.toList with
      | .ok v => some (Value.tuple #[.int .i64 v, .nilIface])
      | _ => none) none) = _
    rw [show Nat.blt s.size 4294967281 = true from Nat.ble_eq_true_of_le hs, hz]; rfl
  show altA (pfnA pItoa) (altA (pfnA pCut) (altA (pfnA pAtoi) _)) 29 _ m n = _
  unfold altA
  rw [show pfnA pItoa 29 [.string s] m n = .no from rfl, show pfnA pCut 29 [.string s] m n = .no from rfl, h]
theorem y_split (m : FM) (n : Nat) {s sep : ByteArray} (hs : s.size < 4294967281) (h1 : 1 ≤ sep.size) (h2 : Lib.countB s sep < 4294967281) : Y13 30 [.string s, .string sep] m n = .ok (.slice (some ⟨n, 0, none⟩) (Lib.countB s sep + 1) (Lib.countB s sep + 1)) (AMem.put m n (some (.cells ((splitL s sep).map Value.string) 1 false true))) (n + 1) 0 (bit n) := by
  have h : splitA 30 30 [.string s, .string sep] m n = .ok (.slice (some ⟨n, 0, none⟩) (Lib.countB s sep + 1) (Lib.countB s sep + 1)) (AMem.put m n (some (.cells ((splitL s sep).map Value.string) 1 false true))) (n + 1) 0 (bit n) := by
    show cond (Nat.blt s.size 4294967281 && Nat.ble 1 sep.size && Nat.blt (Lib.countB s sep) 4294967281) _ _ = _
    rw [show Nat.blt s.size 4294967281 = true from Nat.ble_eq_true_of_le hs, show Nat.ble 1 sep.size = true from Nat.ble_eq_true_of_le h1, show Nat.blt (Lib.countB s sep) 4294967281 = true from Nat.ble_eq_true_of_le h2]; rfl
  show altA (pfnA pItoa) (altA (pfnA pCut) (altA (pfnA pAtoi) (altA (splitA 30) (joinA 24)))) 30 _ m n = _
  unfold altA
  rw [show pfnA pItoa 30 [.string s, .string sep] m n = .no from rfl, show pfnA pCut 30 [.string s, .string sep] m n = .no from rfl, show pfnA pAtoi 30 [.string s, .string sep] m n = .no from rfl, h]
theorem strsOf_map : ∀ xs : List ByteArray, strsOf (xs.map Value.string) = some xs
  | [] => rfl
  | x :: xs => by
    show (strsOf (xs.map Value.string)).map (x :: ·) = _
    rw [strsOf_map xs]; rfl
theorem y_join (m : FM) (n b c : Nat) (opn wr : Bool) (xs : List ByteArray) (sep : ByteArray) (hb : b < n) (hm : m b = some (.cells (xs.map Value.string) 1 opn wr)) (h0 : 0 < xs.length) (h1 : xs.length < 140737488355328) (h2 : (joinS xs sep).size ≤ 140737488355328) : Y13 24 [.slice (some ⟨b, 0, none⟩) xs.length c, .string sep] m n = .ok (.string (joinS xs sep)) m n (bit b) 0 := by
  have h : joinA 24 24 [.slice (some ⟨b, 0, none⟩) xs.length c, .string sep] m n = .ok (.string (joinS xs sep)) m n (bit b) 0 := by
    show (match getb m n b with
      | some (.cells cs sz opn wr) => match (ctake (ldrop cs 0) xs.length).bind strsOf with
        | some ys => cond (Nat.blt 0 xs.length && Nat.blt xs.length 140737488355328 && Nat.ble (joinS ys sep).size 140737488355328 && Nat.beq sz 1) (OR.ok (Value.string (joinS ys sep)) m n (bit b) 0) .no
        | none => .no
      | _ => .no) = _
    rw [getb_lt hb, hm]
    show (match (ctake (ldrop (xs.map Value.string) 0) xs.length).bind strsOf with
        | some ys => cond (Nat.blt 0 xs.length && Nat.blt xs.length 140737488355328 && Nat.ble (joinS ys sep).size 140737488355328 && Nat.beq 1 1) (OR.ok (Value.string (joinS ys sep)) m n (bit b) 0) .no
        | none => .no) = _
    rw [ldrop_z, cells_all (List.length_map ..).symm]
    show (match strsOf (xs.map Value.string) with
        | some ys => cond (Nat.blt 0 xs.length && Nat.blt xs.length 140737488355328 && Nat.ble (joinS ys sep).size 140737488355328 && Nat.beq 1 1) (OR.ok (Value.string (joinS ys sep)) m n (bit b) 0) .no
        | none => .no) = _
    rw [strsOf_map]
    show cond (Nat.blt 0 xs.length && Nat.blt xs.length 140737488355328 && Nat.ble (joinS xs sep).size 140737488355328 && true) _ _ = _
    rw [show Nat.blt 0 xs.length = true from Nat.ble_eq_true_of_le h0, show Nat.blt xs.length 140737488355328 = true from Nat.ble_eq_true_of_le h1, show Nat.ble (joinS xs sep).size 140737488355328 = true from Nat.ble_eq_true_of_le h2]; rfl
  show altA (pfnA pItoa) (altA (pfnA pCut) (altA (pfnA pAtoi) (altA (splitA 30) (joinA 24)))) 24 [.slice (some ⟨b, 0, none⟩) xs.length c, .string sep] m n = .ok (.string (joinS xs sep)) m n (bit b) 0
  unfold altA
  rw [show pfnA pItoa 24 [.slice (some ⟨b, 0, none⟩) xs.length c, .string sep] m n = .no from rfl, show pfnA pCut 24 [.slice (some ⟨b, 0, none⟩) xs.length c, .string sep] m n = .no from rfl, show pfnA pAtoi 24 [.slice (some ⟨b, 0, none⟩) xs.length c, .string sep] m n = .no from rfl, show splitA 30 24 [.slice (some ⟨b, 0, none⟩) xs.length c, .string sep] m n = .no from rfl, h]
theorem libY : LibY (look tab) Y13 where
  itoa := fun m n z h0 h1 => ⟨0, by rw [callW_Y (by kernel_rfl), y_itoa m n h0 h1]⟩
  cut := fun m n s sep hs => ⟨0, by rw [callW_Y (by kernel_rfl), y_cut m n hs]⟩
  atoi := fun m n s z hs hz => ⟨0, by rw [callW_Y (by kernel_rfl), y_atoi m n hs hz]⟩
  split := fun m n s sep hs h1 h2 => ⟨0, by rw [callW_Y (by kernel_rfl), y_split m n hs h1 h2]⟩
  join0 := fun m n sep => ⟨0, by rw [callW_Y (by kernel_rfl)]; rfl⟩
  join := fun m n b c opn wr xs sep hb hm h0 h1 h2 => ⟨bit b, by rw [callW_Y (by kernel_rfl), y_join m n b c opn wr xs sep hb hm h0 h1 h2]⟩
end Go.Am.C13
namespace Go.Am.C13
open Go Go.Am Go.Am.V
variable {E : Nat → Option AFn} {Y : Nat → List Value → FM → Nat → OR FM}
theorem eql_bools (a b : Bool) : binV PG .eql 4 (.bool a) (.bool b) = some (.bool (decide (a = b))) := by
  cases a <;> cases b <;> kernel_rfl
theorem eql32 (f g : Flt) : binV PG .eql 32 (.agg #[.int .i64 f.at_, .int .i64 f.kind, .int .i64 f.to]) (.agg #[.int .i64 g.at_, .int .i64 g.kind, .int .i64 g.to]) = some (.bool (decide (f.at_ = g.at_ ∧ f.kind = g.kind ∧ f.to = g.to))) :=
  eql_ints3 (by kernel_rfl) _ _ _ _ _ _
theorem validLaw (L : LibY E Y) (T : Te E) (hE : E 3 = some ac3) (h11 : E 11 = some ac11) (m : FM) (n : Nat) (lv : Value) (fs : List Flt) (h : FlS m n lv fs) (hs : fs.length ≤ 5864062014805) : Pure (callW PG E Y 3 [lv] m n) m n (.bool true) := by
  refine pure_spec hE rfl rfl ?_
  simp only [ac3]
  simp (implicitDefEqProofs := false) (disch := omega) only [WPs, opds, List.all_cons, List.all_nil, List.cons_append, List.nil_append, cond_true, cond_false, eq_self, List.map_cons, List.map_nil, Nat.reduceAdd, Nat.testBit, Nat.reduceShiftRight, Nat.reduceAnd, Nat.reduceBNe, Nat.reduceMul]
  refine use_pure (awake_spec L T m n) fun _ => ?_
  simp (implicitDefEqProofs := false) (disch := omega) only [WPs, opds, List.all_cons, List.all_nil, List.cons_append, List.nil_append, cond_true, cond_false, eq_self, List.map_cons, List.map_nil, Nat.reduceAdd, Nat.testBit, Nat.reduceShiftRight, Nat.reduceAnd, Nat.reduceBNe, Nat.reduceMul]
  refine use_pure (valid_spec T.e10 T.e21 m n lv fs h (by omega)) fun _ => ?_
  simp (implicitDefEqProofs := false) (disch := omega) only [WPs, opds, List.all_cons, List.all_nil, List.cons_append, List.nil_append, cond_true, cond_false, eq_self, List.map_cons, List.map_nil, Nat.reduceAdd, Nat.testBit, Nat.reduceShiftRight, Nat.reduceAnd, Nat.reduceBNe, Nat.reduceMul]
  refine use_pure (refValid_spec h11 m n lv fs h (by omega)) fun _ => ?_
  simp (implicitDefEqProofs := false) (disch := omega) only [WPs, opds, List.all_cons, List.all_nil, List.cons_append, List.nil_append, cond_true, cond_false, eq_self, List.map_cons, List.map_nil, Nat.reduceAdd, Nat.testBit, Nat.reduceShiftRight, Nat.reduceAnd, Nat.reduceBNe, Nat.reduceMul, eql_bools, decide_eq_true (show validB fs = validB fs from rfl)]
theorem atLaw (L : LibY E Y) (T : Te E) (hE : E 6 = some ac6) (h17 : E 17 = some ac17) (h18 : E 18 = some ac18) (m : FM) (n : Nat) (lv : Value) (fs : List Flt) (op : Int) (h : FlS m n lv fs) (hs : fs.length ≤ 5864062014805) : Pure (callW PG E Y 6 [lv, .int .i64 op] m n) m n (.bool true) := by
  refine pure_spec hE rfl rfl ?_
  simp only [ac6]
  simp (implicitDefEqProofs := false) (disch := omega) only [WPs, opds, List.all_cons, List.all_nil, List.cons_append, List.nil_append, cond_true, cond_false, eq_self, List.map_cons, List.map_nil, Nat.reduceAdd, Nat.testBit, Nat.reduceShiftRight, Nat.reduceAnd, Nat.reduceBNe, Nat.reduceMul]
  refine use_rt (at_spec h17 m n lv fs op h (by omega)) fun v M1 N1 r1 w1 ⟨n1, m1, f1, hv⟩ => ?_
  have fz1 := f1 n (Nat.le_refl _)
  obtain ⟨g, bo, hg⟩ : ∃ (g : Flt) (bo : Bool), atV (findB fs op) = .tuple #[.agg #[.int .i64 g.at_, .int .i64 g.kind, .int .i64 g.to], .bool bo] := by
    cases findB fs op with
    | none => exact ⟨⟨0, 0, 0⟩, false, rfl⟩
    | some f => exact ⟨f, true, rfl⟩
  rw [hg] at hv
  subst hv
  simp (implicitDefEqProofs := false) (disch := omega) only [WPs, opds, List.all_cons, List.all_nil, List.cons_append, List.nil_append, cond_true, cond_false, eq_self, List.map_cons, List.map_nil, Nat.reduceAdd, Nat.testBit, Nat.reduceShiftRight, Nat.reduceAnd, Nat.reduceBNe, Nat.reduceMul, ey0, ey1]
  generalize hM2 : (AMem.put M1 N1 (some (.cells [.int .i64 g.at_, .int .i64 g.kind, .int .i64 g.to] 0 false true)) : FM) = M2
  have m2 : ∀ b, b < N1 → M2 b = M1 b := fun b hb => by rw [← hM2]; exact fput_ne _ _ _ _ (by omega)
  have b2 : M2 N1 = some (.cells [.int .i64 g.at_, .int .i64 g.kind, .int .i64 g.to] 0 false true) := by rw [← hM2]; exact fput_same _ _ _
  refine use_rt (refAt_spec h18 M2 (N1 + 1) lv fs op ((h.frame n1 m1).frame (Nat.le_succ _) m2) (by omega)) fun v M3 N3 r3 w3 ⟨n3, m3, f3, hv⟩ => ?_
  have fz3 := f3 n (by omega)
  rw [hg] at hv
  subst hv
  have b3 : M3 N1 = some (.cells [.int .i64 g.at_, .int .i64 g.kind, .int .i64 g.to] 0 false true) := (m3 N1 (by omega)).trans b2
  simp (implicitDefEqProofs := false) (disch := omega) only [WPs, opds, List.all_cons, List.all_nil, List.cons_append, List.nil_append, cond_true, cond_false, eq_self, List.map_cons, List.map_nil, Nat.reduceAdd, Nat.testBit, Nat.reduceShiftRight, Nat.reduceAnd, Nat.reduceBNe, Nat.reduceMul, ey0, ey1]
  refine use_pure (awake_spec L T _ _) fun _ => ?_
  have fzN1 : Nat.mod (bit N1) (bit n) = 0 := frz_bit (by omega)
  have fzN3 : Nat.mod (bit N3) (bit n) = 0 := frz_bit (by omega)
  simp (implicitDefEqProofs := false) (disch := omega) only [WPs, opds, List.all_cons, List.all_nil, List.cons_append, List.nil_append, cond_true, cond_false, eq_self, List.map_cons, List.map_nil, Nat.reduceAdd, Nat.testBit, Nat.reduceShiftRight, Nat.reduceAnd, Nat.reduceBNe, Nat.reduceMul, b3, eql32, eql_bools, decide_eq_true (show g.at_ = g.at_ ∧ g.kind = g.kind ∧ g.to = g.to from ⟨rfl, rfl, rfl⟩), decide_eq_true (show bo = bo from rfl), fz1, fz3, fzN1, fzN3]
theorem withinLaw (L : LibY E Y) (T : Te E) (hE : E 7 = some ac7) (h19 : E 19 = some ac19) (h20 : E 20 = some ac20) (m : FM) (n : Nat) (lv : Value) (fs : List Flt) (a c : Int) (h : FlS m n lv fs) (hs : fs.length ≤ 5864062014805) : Pure (callW PG E Y 7 [lv, .int .i64 a, .int .i64 c] m n) m n (.bool true) := by
  refine pure_spec hE rfl rfl ?_
  simp only [ac7]
  simp (implicitDefEqProofs := false) (disch := omega) only [WPs, opds, List.all_cons, List.all_nil, List.cons_append, List.nil_append, cond_true, cond_false, eq_self, List.map_cons, List.map_nil, Nat.reduceAdd, Nat.testBit, Nat.reduceShiftRight, Nat.reduceAnd, Nat.reduceBNe, Nat.reduceMul]
  refine use_pure (awake_spec L T m n) fun _ => ?_
  simp (implicitDefEqProofs := false) (disch := omega) only [WPs, opds, List.all_cons, List.all_nil, List.cons_append, List.nil_append, cond_true, cond_false, eq_self, List.map_cons, List.map_nil, Nat.reduceAdd, Nat.testBit, Nat.reduceShiftRight, Nat.reduceAnd, Nat.reduceBNe, Nat.reduceMul]
  refine use_rt (within_spec h19 m n lv fs a c h hs) fun v1 M1 N1 r1 w1 ⟨n1, m1, f1, z1⟩ => ?_
  have fz1 := f1 n (Nat.le_refl _)
  simp (implicitDefEqProofs := false) (disch := omega) only [WPs, opds, List.all_cons, List.all_nil, List.cons_append, List.nil_append, cond_true, cond_false, eq_self, List.map_cons, List.map_nil, Nat.reduceAdd, Nat.testBit, Nat.reduceShiftRight, Nat.reduceAnd, Nat.reduceBNe, Nat.reduceMul]
  refine use_rt (refWithin_spec h20 M1 N1 lv fs a c (h.frame n1 m1) hs) fun v2 M2 N2 r2 w2 ⟨n2, m2, f2, z2⟩ => ?_
  have fz2 := f2 n (by omega)
  simp (implicitDefEqProofs := false) (disch := omega) only [WPs, opds, List.all_cons, List.all_nil, List.cons_append, List.nil_append, cond_true, cond_false, eq_self, List.map_cons, List.map_nil, Nat.reduceAdd, Nat.testBit, Nat.reduceShiftRight, Nat.reduceAnd, Nat.reduceBNe, Nat.reduceMul]
  have hwl := within_len fs a c
  refine use_pure (same_spec T.e15 M2 N2 v1 v2 _ _ (z1.s.frame n2 m2) z2.s (by omega) (by omega)) fun _ => ?_
  rw [sameB_iff.2 rfl]
  simp (implicitDefEqProofs := false) (disch := omega) only [WPs, opds, List.all_cons, List.all_nil, List.cons_append, List.nil_append, cond_true, cond_false, eq_self, List.map_cons, List.map_nil, Nat.reduceAdd, Nat.testBit, Nat.reduceShiftRight, Nat.reduceAnd, Nat.reduceBNe, Nat.reduceMul, fz1, fz2]
end Go.Am.C13
namespace Go.Am.C13
open Go Go.Am
def Own3 (M : FM) (P : Nat → Prop) (v : Value) (l : List Flt) : Prop :=
  (l = [] ∧ v = .slice none 0 0) ∨ (l = [] ∧ ∃ b, v = .slice (some ⟨b, 0, none⟩) 0 0 ∧ P b ∧ M b = some (.cells [] 3 false true)) ∨ (l ≠ [] ∧ ∃ b, v = .slice (some ⟨b, 0, none⟩) l.length UNK ∧ P b ∧ M b = some (.cells (flCells l) 3 true true))
theorem Own3.frame {M M' : FM} {P P' : Nat → Prop} {v : Value} {l : List Flt} (h : Own3 M P v l) (ht : ∀ b, P b → P' b ∧ M' b = M b) : Own3 M' P' v l := by
  rcases h with h | ⟨h1, b, h2, h3, h4⟩ | ⟨h1, b, h2, h3, h4⟩
  · exact .inl h
  · exact .inr (.inl ⟨h1, b, h2, (ht b h3).1, (ht b h3).2.trans h4⟩)
  · exact .inr (.inr ⟨h1, b, h2, (ht b h3).1, (ht b h3).2.trans h4⟩)
theorem app_own3 {M : FM} {P : Nat → Prop} {N : Nat} {v : Value} {l l2 : List Flt} (h : Own3 M P v l) (hP : ∀ b, P b → b < N) (ya : Option Addr) (yc r2 : Nat) (ho : (flCells l2).all Am.one = true) (hs : l.length + l2.length ≤ 5864062014805) :
    Rt (appO 3 24 M N v (.slice ya l2.length yc) (shown M N 3 v) (some (flCells l2, r2))) fun v' M' N' w => N ≤ N' ∧ N' ≤ N + 1 ∧ Own3 M' (fun b => (P b ∨ b = N) ∧ b < N') v' (l ++ l2) ∧ (∀ b, b ≠ N → ¬ P b → M' b = M b) ∧ (∀ j, j ≤ N → (∀ b, P b → j ≤ b) → Nat.mod w (bit j) = 0) := by
  have hone : ∀ r : Nat, ((flCells l2, r).1.all Am.one) = true := fun _ => ho
  have hnew : ∀ (r : Nat) (a : List Flt), a ++ l2 ≠ [] → flCells a ++ flCells l2 = flCells (a ++ l2) := fun r a _ => by simp [flCells]
  rcases h with ⟨rfl, rfl⟩ | ⟨rfl, b, rfl, hb, hM⟩ | ⟨hne, b, rfl, hb, hM⟩
  · rw [shown_nil, appO_mk, appV_mk, hone, blt_true (show 0 < 3 by omega), blt_true (show 0 < 24 by omega), ble_true (show (0 + l2.length) * 24 ≤ 140737488355328 by simp at hs; omega)]
    by_cases hz : l2 = []
    · subst hz
      exact ⟨Nat.le_refl _, Nat.le_succ _, .inl ⟨rfl, rfl⟩, fun _ _ _ => rfl, fun j _ _ => Nat.zero_mod _⟩
    · have hp : 0 < l2.length := List.length_pos_iff.2 hz
      rw [appG_nil hp]
      exact ⟨Nat.le_succ _, Nat.le_refl _, .inr (.inr ⟨hz, N, by rw [Nat.zero_add, List.nil_append], ⟨.inr rfl, by omega⟩, fput_same _ _ _⟩), fun b hb _ => fput_ne _ _ _ _ hb, fun j hj _ => frz_bit hj⟩
  · rw [shown_zero, appO_mk, appV_mk, hone, blt_true (show 0 < 3 by omega), blt_true (show 0 < 24 by omega), ble_true (show (0 + l2.length) * 24 ≤ 140737488355328 by simp at hs; omega)]
    show Rt (cond (Nat.ble (Nat.add 0 l2.length) 0) (appR M N 3 0 (0 + l2.length) 0 (flCells l2) (Nat.lor 0 r2) b 0 (getb M N b)) (appN M N 3 (0 + l2.length) ([] ++ flCells l2) (Nat.lor 0 r2))) _
    by_cases hz : l2 = []
    · subst hz
      show Rt (appR M N 3 0 (0 + 0) 0 [] (Nat.lor 0 r2) b 0 (getb M N b)) _
      rw [getb_lt (hP b hb), hM]
      show Rt (putC M N b 3 false (slcP 0 (0 + 0) 0 b) (Nat.lor 0 r2) (setCells [] (Nat.add 0 (Nat.mul 0 3)) [])) _
      exact ⟨Nat.le_refl _, Nat.le_succ _, .inr (.inl ⟨rfl, b, rfl, ⟨.inl hb, hP b hb⟩, fput_same _ _ _⟩), fun k _ hk => fput_ne _ _ _ _ (by rintro rfl; exact hk hb), fun j hj h => frz_bit (h b hb)⟩
    · have hp : 0 < l2.length := List.length_pos_iff.2 hz
      have hle : Nat.ble (Nat.add 0 l2.length) 0 = false := by
        cases hq : Nat.ble (Nat.add 0 l2.length) 0
        · rfl
        · have : 0 + l2.length ≤ 0 := Nat.le_of_ble_eq_true hq
          omega
      rw [hle, cond_false, Nat.zero_add, List.nil_append]
      exact ⟨Nat.le_succ _, Nat.le_refl _, .inr (.inr ⟨hz, N, rfl, ⟨.inr rfl, by omega⟩, fput_same _ _ _⟩), fun k hk _ => fput_ne _ _ _ _ hk, fun j hj _ => frz_bit hj⟩
  · have hp : 0 < l.length := List.length_pos_iff.2 hne
    rw [shown_pos hp, getb_lt (hP b hb), hM, shownB_mk, Nat.beq_refl, cellsAt_mk, ldrop_z, cells_all (flCells_len l).symm]
    show Rt (appO 3 24 M N _ _ (some (flCells l, bit b)) _) _
    rw [appO_mk, appV_mk, hone, blt_true (show 0 < 3 by omega), blt_true (show 0 < 24 by omega), ble_true (show (l.length + l2.length) * 24 ≤ 140737488355328 by omega), appG_unk, getb_lt (hP b hb), hM, appU_mk]
    have hnl : l ++ l2 ≠ [] := by simp [hne]
    refine ⟨Nat.le_succ _, Nat.le_refl _, .inr (.inr ⟨hnl, N, by rw [List.length_append], ⟨.inr rfl, by omega⟩, ?_⟩), fun k hk hk2 => ?_, fun j hj h => ?_⟩
    · rw [← hnew 0 l hnl]; exact fput_same _ _ _
    · rw [fput_ne _ _ _ _ hk, fput_ne _ _ _ _ (by rintro rfl; exact hk2 hb)]
    · rw [frz_iff]; exact ⟨frz_bit (h b hb), frz_bit hj⟩
theorem Own3.len {M : FM} {P : Nat → Prop} {v : Value} {l : List Flt} (h : Own3 M P v l) : lenV false v = some (.int .i64 (l.length : Int)) := by
  rcases h with ⟨rfl, rfl⟩ | ⟨rfl, b, rfl, _⟩ | ⟨_, b, rfl, _⟩ <;> rfl
theorem Own3.one {M : FM} {P : Nat → Prop} {v : Value} {l : List Flt} (h : Own3 M P v l) : Am.one v = true := by
  rcases h with ⟨rfl, rfl⟩ | ⟨rfl, b, rfl, _⟩ | ⟨_, b, rfl, _⟩ <;> rfl
theorem Own3.bel {M : FM} {P : Nat → Prop} {v : Value} {l : List Flt} (h : Own3 M P v l) (k : Nat) (hk : ∀ b, P b → b < k) : belowV k v = true := by
  rcases h with ⟨rfl, rfl⟩ | ⟨rfl, b, rfl, hb, _⟩ | ⟨_, b, rfl, hb, _⟩
  · rfl
  · exact blt_true (hk b hb)
  · exact blt_true (hk b hb)
end Go.Am.C13
namespace Go.Am.C13
open Go Go.Am Go.Am.V
variable {E : Nat → Option AFn} {Y : Nat → List Value → FM → Nat → OR FM}
theorem flz_shown {M : FM} {n0 N : Nat} {v : Value} {l : List Flt} (h : FlZ M n0 N v l) : ∃ a c r, v = .slice a l.length c ∧ shown M N 3 v = some (flCells l, r) := by
  rcases h with ⟨h1, h2, rfl⟩ | ⟨hp, hl, b, rfl, _, hb, hm⟩
  · rw [List.length_eq_zero_iff.1 h1]; exact ⟨none, 0, 0, rfl, rfl⟩
  · refine ⟨_, _, bit b, rfl, ?_⟩
    rw [shown_pos hp, getb_lt hb, hm, shownB_mk, Nat.beq_refl, cellsAt_mk, ldrop_z, cells_all hl.symm]
    rfl
theorem flCells_one (l : List Flt) : (flCells l).all Am.one = true := by
  induction l with
  | nil => rfl
  | cons x l ih =>
    show (x.cells ++ flCells l).all Am.one = true
    rw [List.all_append, ih]; rfl
theorem own3_s {M : FM} {P : Nat → Prop} {N : Nat} {v : Value} {l : List Flt} (h : Own3 M P v l) (hP : ∀ b, P b → b < N) : FlS M N v l := by
  rcases h with ⟨rfl, rfl⟩ | ⟨rfl, b, rfl, hb, _⟩ | ⟨hne, b, rfl, hb, hm⟩
  · exact FlS.nil M N
  · exact ⟨_, _, rfl, blt_true (hP b hb), .inl rfl⟩
  · exact ⟨_, _, rfl, blt_true (hP b hb), .inr ⟨b, 0, _, true, true, rfl, hP b hb, hm, fun i hi => by rw [Nat.zero_add]; exact flCells_at l hi⟩⟩
theorem last_max {fs : List Flt} (hs : fs.Pairwise fun a b => a.at_ < b.at_) {k : Nat} (hk : fs.length = k + 1) {f : Flt} (hf : f ∈ fs) : f.at_ ≤ (fs[k]'(by omega)).at_ := by
  obtain ⟨i, hi, rfl⟩ := List.mem_iff_getElem.1 hf
  rcases (by omega : i = k ∨ i < k) with rfl | h
  · exact Int.le_refl _
  · have := List.pairwise_iff_getElem.1 hs i k hi (by omega) h
    omega
theorem partsLaw (L : LibY E Y) (T : Te E) (hE : E 8 = some ac8) (h11 : E 11 = some ac11) (h17 : E 17 = some ac17) (h19 : E 19 = some ac19) (m : FM) (n : Nat) (lv : Value) (fs : List Flt) (at_ : Int) (h : FlS m n lv fs) (hs : fs.length ≤ 5864062014805) (hi : ∀ f ∈ fs, f.at_ ≤ 9223372036854775807) (hat : -9223372036854775808 ≤ at_ ∧ at_ ≤ 9223372036854775807) : Pure (callW PG E Y 8 [lv, .int .i64 at_] m n) m n (.bool true) := by
  refine pure_spec hE rfl rfl ?_
  simp only [ac8]
  simp (implicitDefEqProofs := false) (disch := omega) only [WPs, opds, List.all_cons, List.all_nil, List.cons_append, List.nil_append, cond_true, cond_false, eq_self, List.map_cons, List.map_nil, Nat.reduceAdd, Nat.testBit, Nat.reduceShiftRight, Nat.reduceAnd, Nat.reduceBNe, Nat.reduceMul]
  refine use_pure (awake_spec L T _ _) fun _ => ?_
  simp (implicitDefEqProofs := false) (disch := omega) only [WPs, opds, List.all_cons, List.all_nil, List.cons_append, List.nil_append, cond_true, cond_false, eq_self, List.map_cons, List.map_nil, Nat.reduceAdd, Nat.testBit, Nat.reduceShiftRight, Nat.reduceAnd, Nat.reduceBNe, Nat.reduceMul]
  refine use_pure (refValid_spec h11 m n lv fs h (by omega)) fun _ => ?_
  cases hv : validB fs with
  | false =>
    simp (implicitDefEqProofs := false) (disch := omega) only [WPs, opds, List.all_cons, List.all_nil, List.cons_append, List.nil_append, cond_true, cond_false, eq_self, List.map_cons, List.map_nil, Nat.reduceAdd, Nat.testBit, Nat.reduceShiftRight, Nat.reduceAnd, Nat.reduceBNe, Nat.reduceMul]
    refine use_pure (awake_spec L T _ _) fun _ => ?_
    simp (implicitDefEqProofs := false) (disch := omega) only [WPs, opds, List.all_cons, List.all_nil, List.cons_append, List.nil_append, cond_true, cond_false, eq_self, List.map_cons, List.map_nil, Nat.reduceAdd, Nat.testBit, Nat.reduceShiftRight, Nat.reduceAnd, Nat.reduceBNe, Nat.reduceMul]
  | true =>
    by_cases c1 : at_ < 0
    · simp (implicitDefEqProofs := false) (disch := omega) only [WPs, opds, List.all_cons, List.all_nil, List.cons_append, List.nil_append, cond_true, cond_false, eq_self, List.map_cons, List.map_nil, Nat.reduceAdd, Nat.testBit, Nat.reduceShiftRight, Nat.reduceAnd, Nat.reduceBNe, Nat.reduceMul]
      refine use_pure (awake_spec L T _ _) fun _ => ?_
      simp (implicitDefEqProofs := false) (disch := omega) only [WPs, opds, List.all_cons, List.all_nil, List.cons_append, List.nil_append, cond_true, cond_false, eq_self, List.map_cons, List.map_nil, Nat.reduceAdd, Nat.testBit, Nat.reduceShiftRight, Nat.reduceAnd, Nat.reduceBNe, Nat.reduceMul]
    by_cases c2 : at_ = 9223372036854775807
    · simp (implicitDefEqProofs := false) (disch := omega) only [WPs, opds, List.all_cons, List.all_nil, List.cons_append, List.nil_append, cond_true, cond_false, eq_self, List.map_cons, List.map_nil, Nat.reduceAdd, Nat.testBit, Nat.reduceShiftRight, Nat.reduceAnd, Nat.reduceBNe, Nat.reduceMul, decide_eq_true c2]
      refine use_pure (awake_spec L T _ _) fun _ => ?_
      simp (implicitDefEqProofs := false) (disch := omega) only [WPs, opds, List.all_cons, List.all_nil, List.cons_append, List.nil_append, cond_true, cond_false, eq_self, List.map_cons, List.map_nil, Nat.reduceAdd, Nat.testBit, Nat.reduceShiftRight, Nat.reduceAnd, Nat.reduceBNe, Nat.reduceMul]
    simp (implicitDefEqProofs := false) (disch := omega) only [WPs, opds, List.all_cons, List.all_nil, List.cons_append, List.nil_append, cond_true, cond_false, eq_self, List.map_cons, List.map_nil, Nat.reduceAdd, Nat.testBit, Nat.reduceShiftRight, Nat.reduceAnd, Nat.reduceBNe, Nat.reduceMul, decide_eq_false c2]
    refine use_rt (within_spec h19 m n lv fs 0 at_ h hs) fun v1 M1 N1 r1 w1 ⟨n1, m1, f1, z1⟩ => ?_
    have fz1 := f1 n (Nat.le_refl _)
    simp (implicitDefEqProofs := false) (disch := omega) only [WPs, opds, List.all_cons, List.all_nil, List.cons_append, List.nil_append, cond_true, cond_false, eq_self, List.map_cons, List.map_nil, Nat.reduceAdd, Nat.testBit, Nat.reduceShiftRight, Nat.reduceAnd, Nat.reduceBNe, Nat.reduceMul]
    refine use_rt (within_spec h19 M1 N1 lv fs at_ 9223372036854775807 (h.frame n1 m1) hs) fun v2 M2 N2 r2 w2 ⟨n2, m2, f2, z2⟩ => ?_
    have fz2 := f2 n (by omega)
    have h2 := (h.frame n1 m1).frame n2 m2
    have z1' : FlZ M2 n N2 v1 (within fs 0 at_) := SlZ.frame z1 n2 fun b _ hb => m2 b hb
    simp (implicitDefEqProofs := false) (disch := omega) only [WPs, opds, List.all_cons, List.all_nil, List.cons_append, List.nil_append, cond_true, cond_false, eq_self, List.map_cons, List.map_nil, Nat.reduceAdd, Nat.testBit, Nat.reduceShiftRight, Nat.reduceAnd, Nat.reduceBNe, Nat.reduceMul, h2.len]
    by_cases hl : 0 < fs.length
    · obtain ⟨k, hk⟩ : ∃ k, fs.length = k + 1 := ⟨fs.length - 1, by omega⟩
      obtain ⟨b, o, cells, opn, wr, i1, i2, i3, i4⟩ := h2.at (show k < fs.length by omega)
      have i5 := cell0 i4
      have hsub : ((fs.length : Nat) : Int) - 1 = (k : Int) := by omega
      by_cases cm : (fs[k]'(by omega)).at_ = 9223372036854775807
      · simp (implicitDefEqProofs := false) (disch := omega) only [WPs, opds, List.all_cons, List.all_nil, List.cons_append, List.nil_append, cond_true, cond_false, eq_self, List.map_cons, List.map_nil, Nat.reduceAdd, Nat.testBit, Nat.reduceShiftRight, Nat.reduceAnd, Nat.reduceBNe, Nat.reduceMul, decide_eq_true (show (0 : Int) < (fs.length : Int) by omega), h2.len, hsub, i1, i3, i5, decide_eq_true cm, fz1, fz2]
      · simp (implicitDefEqProofs := false) (disch := omega) only [WPs, opds, List.all_cons, List.all_nil, List.cons_append, List.nil_append, cond_true, cond_false, eq_self, List.map_cons, List.map_nil, Nat.reduceAdd, Nat.testBit, Nat.reduceShiftRight, Nat.reduceAnd, Nat.reduceBNe, Nat.reduceMul, decide_eq_true (show (0 : Int) < (fs.length : Int) by omega), h2.len, hsub, i1, i3, i5, decide_eq_false cm]
        have hhi : ∀ f ∈ fs, f.at_ < 9223372036854775807 := fun f hf => by
          have h1 := last_max (okFs_sorted hv) hk hf
          have h3 := hi (fs[k]'(by omega)) (List.getElem_mem _)
          omega
        have hsort := okFs_sorted hv
        have hlo : ∀ f ∈ fs, 0 ≤ f.at_ := fun f hf => by have := okFs_lt hv f hf; omega
        have hparts := parts_app hsort (c := 0) (d := at_) (e := 9223372036854775807) hlo hhi
        have hone := one_at hsort at_
        have hwl1 := within_len fs 0 at_
        have hwl2 := within_len fs at_ 9223372036854775807
        have hsum : (within fs 0 at_).length + (within fs at_ 9223372036854775807).length = fs.length := by rw [← List.length_append, hparts]
        refine use_rt (at_spec h17 M2 N2 lv fs at_ h2 (by omega)) fun v M3 N3 r3 w3 ⟨n3, m3, f3, hv3⟩ => ?_
        have fz3 := f3 n (by omega)
        obtain ⟨g, hg⟩ : ∃ g : Flt, atV (findB fs at_) = .tuple #[.agg #[.int .i64 g.at_, .int .i64 g.kind, .int .i64 g.to], .bool (findB fs at_).isSome] := by
          cases findB fs at_ with
          | none => exact ⟨⟨0, 0, 0⟩, rfl⟩
          | some f => exact ⟨f, rfl⟩
        rw [hg] at hv3
        subst hv3
        generalize hM4 : (AMem.put (AMem.put M3 N3 (some (.cells [.int .i64 g.at_, .int .i64 g.kind, .int .i64 g.to] 0 false true))) (N3 + 1) (some (.cells [] 3 false true)) : FM) = M4
        have m4 : ∀ b, b < N3 → M4 b = M3 b := fun b hb => by rw [← hM4, fput_ne _ _ _ _ (by omega), fput_ne _ _ _ _ (by omega)]
        have b4 : M4 (N3 + 1) = some (.cells [] 3 false true) := by rw [← hM4]; exact fput_same _ _ _
        have z14 : FlZ M4 n (N3 + 2) v1 (within fs 0 at_) := SlZ.frame z1' (by omega) fun b _ hb => by rw [m4 b (by omega), m3 b hb]
        obtain ⟨a1, k1, q1, e1, s1⟩ := flz_shown z14
        have key1 := app_own3 (M := M4) (P := fun b => b = N3 + 1) (N := N3 + 2) (v := .slice (some ⟨N3 + 1, 0, none⟩) 0 0) (l := []) (l2 := within fs 0 at_) (.inr (.inl ⟨rfl, N3 + 1, rfl, rfl, b4⟩)) (fun b hb => by omega) a1 k1 q1 (flCells_one _) (by simp; omega)
        rw [← e1, shown_zero] at key1
        simp (implicitDefEqProofs := false) (disch := omega) only [WPs, opds, List.all_cons, List.all_nil, List.cons_append, List.nil_append, cond_true, cond_false, eq_self, List.map_cons, List.map_nil, Nat.reduceAdd, Nat.testBit, Nat.reduceShiftRight, Nat.reduceAnd, Nat.reduceBNe, Nat.reduceMul, ey0, ey1, hM4, s1]
        refine use_rt key1 fun v5 M5 N5 r5 w5 ⟨n5, n5', o5, m5, f5⟩ => ?_
        have fz5 := f5 n (by omega) (fun b hb => by omega)
        have z25 : FlZ M5 N1 N5 v2 (within fs at_ 9223372036854775807) := SlZ.frame z2 (by omega) fun b _ hb => by rw [m5 b (by omega) (by omega), m4 b (by omega), m3 b hb]
        obtain ⟨a2, k2, q2, e2, s2⟩ := flz_shown z25
        have key2 := app_own3 (M := M5) (P := fun b => (b = N3 + 1 ∨ b = N3 + 2) ∧ b < N5) (N := N5) (v := v5) (l2 := within fs at_ 9223372036854775807) o5 (fun b hb => hb.2) a2 k2 q2 (flCells_one _) (by rw [List.nil_append]; omega)
        rw [← e2] at key2
        simp (implicitDefEqProofs := false) (disch := omega) only [WPs, opds, List.all_cons, List.all_nil, List.cons_append, List.nil_append, cond_true, cond_false, eq_self, List.map_cons, List.map_nil, Nat.reduceAdd, Nat.testBit, Nat.reduceShiftRight, Nat.reduceAnd, Nat.reduceBNe, Nat.reduceMul, s2]
        refine use_rt key2 fun v6 M6 N6 r6 w6 ⟨n6, n6', o6, m6, f6⟩ => ?_
        have fz6 := f6 n (by omega) (fun b hb => by omega)
        rw [List.nil_append, hparts] at o6
        have m6b : ∀ b, b < N2 → M6 b = M2 b := fun b hb => by rw [m6 b (by omega) (by omega), m5 b (by omega) (by omega), m4 b (by omega), m3 b hb]
        have h6 : FlS M6 N6 lv fs := h2.frame (by omega) m6b
        simp (implicitDefEqProofs := false) (disch := omega) only [WPs, opds, List.all_cons, List.all_nil, List.cons_append, List.nil_append, cond_true, cond_false, eq_self, List.map_cons, List.map_nil, Nat.reduceAdd, Nat.testBit, Nat.reduceShiftRight, Nat.reduceAnd, Nat.reduceBNe, Nat.reduceMul]
        refine use_pure (same_spec T.e15 M6 N6 v6 lv fs fs (own3_s o6 fun b hb => hb.2) h6 (by omega) (by omega)) fun _ => ?_
        rw [sameB_iff.2 rfl]
        simp (implicitDefEqProofs := false) (disch := omega) only [WPs, opds, List.all_cons, List.all_nil, List.cons_append, List.nil_append, cond_true, cond_false, eq_self, List.map_cons, List.map_nil, Nat.reduceAdd, Nat.testBit, Nat.reduceShiftRight, Nat.reduceAnd, Nat.reduceBNe, Nat.reduceMul]
        refine use_rt (within_spec h19 M6 N6 lv fs at_ (at_ + 1) h6 hs) fun v7 M7 N7 r7 w7 ⟨n7, m7, f7, z7⟩ => ?_
        have fz7 := f7 n (by omega)
        have fzN3 : Nat.mod (bit N3) (bit n) = 0 := frz_bit (by omega)
        have fzN4 : Nat.mod (bit (N3 + 1)) (bit n) = 0 := frz_bit (by omega)
        have hone' : decide (((within fs at_ (at_ + 1)).length : Int) = 1) = (findB fs at_).isSome := by
          rw [hone]; exact decide_eq_decide.2 (by omega)
        simp (implicitDefEqProofs := false) (disch := omega) only [WPs, opds, List.all_cons, List.all_nil, List.cons_append, List.nil_append, cond_true, cond_false, eq_self, List.map_cons, List.map_nil, Nat.reduceAdd, Nat.testBit, Nat.reduceShiftRight, Nat.reduceAnd, Nat.reduceBNe, Nat.reduceMul, z7.s.len, hone', eql_bools, decide_eq_true (show (findB fs at_).isSome = (findB fs at_).isSome from rfl), fz1, fz2, fz3, fz5, fz6, fz7, fzN3, fzN4]
    · simp (implicitDefEqProofs := false) (disch := omega) only [WPs, opds, List.all_cons, List.all_nil, List.cons_append, List.nil_append, cond_true, cond_false, eq_self, List.map_cons, List.map_nil, Nat.reduceAdd, Nat.testBit, Nat.reduceShiftRight, Nat.reduceAnd, Nat.reduceBNe, Nat.reduceMul, decide_eq_false (show ¬ (0 : Int) < (fs.length : Int) by omega)]
      have hhi : ∀ f ∈ fs, f.at_ < 9223372036854775807 := fun f hf => by
        have := List.length_pos_of_mem hf
        omega
      have hsort := okFs_sorted hv
      have hlo : ∀ f ∈ fs, 0 ≤ f.at_ := fun f hf => by have := okFs_lt hv f hf; omega
      have hparts := parts_app hsort (c := 0) (d := at_) (e := 9223372036854775807) hlo hhi
      have hone := one_at hsort at_
      have hwl1 := within_len fs 0 at_
      have hwl2 := within_len fs at_ 9223372036854775807
      have hsum : (within fs 0 at_).length + (within fs at_ 9223372036854775807).length = fs.length := by rw [← List.length_append, hparts]
      refine use_rt (at_spec h17 M2 N2 lv fs at_ h2 (by omega)) fun v M3 N3 r3 w3 ⟨n3, m3, f3, hv3⟩ => ?_
      have fz3 := f3 n (by omega)
      obtain ⟨g, hg⟩ : ∃ g : Flt, atV (findB fs at_) = .tuple #[.agg #[.int .i64 g.at_, .int .i64 g.kind, .int .i64 g.to], .bool (findB fs at_).isSome] := by
        cases findB fs at_ with
        | none => exact ⟨⟨0, 0, 0⟩, rfl⟩
        | some f => exact ⟨f, rfl⟩
      rw [hg] at hv3
      subst hv3
      generalize hM4 : (AMem.put (AMem.put M3 N3 (some (.cells [.int .i64 g.at_, .int .i64 g.kind, .int .i64 g.to] 0 false true))) (N3 + 1) (some (.cells [] 3 false true)) : FM) = M4
      have m4 : ∀ b, b < N3 → M4 b = M3 b := fun b hb => by rw [← hM4, fput_ne _ _ _ _ (by omega), fput_ne _ _ _ _ (by omega)]
      have b4 : M4 (N3 + 1) = some (.cells [] 3 false true) := by rw [← hM4]; exact fput_same _ _ _
      have z14 : FlZ M4 n (N3 + 2) v1 (within fs 0 at_) := SlZ.frame z1' (by omega) fun b _ hb => by rw [m4 b (by omega), m3 b hb]
      obtain ⟨a1, k1, q1, e1, s1⟩ := flz_shown z14
      have key1 := app_own3 (M := M4) (P := fun b => b = N3 + 1) (N := N3 + 2) (v := .slice (some ⟨N3 + 1, 0, none⟩) 0 0) (l := []) (l2 := within fs 0 at_) (.inr (.inl ⟨rfl, N3 + 1, rfl, rfl, b4⟩)) (fun b hb => by omega) a1 k1 q1 (flCells_one _) (by simp; omega)
      rw [← e1, shown_zero] at key1
      simp (implicitDefEqProofs := false) (disch := omega) only [WPs, opds, List.all_cons, List.all_nil, List.cons_append, List.nil_append, cond_true, cond_false, eq_self, List.map_cons, List.map_nil, Nat.reduceAdd, Nat.testBit, Nat.reduceShiftRight, Nat.reduceAnd, Nat.reduceBNe, Nat.reduceMul, ey0, ey1, hM4, s1]
      refine use_rt key1 fun v5 M5 N5 r5 w5 ⟨n5, n5', o5, m5, f5⟩ => ?_
      have fz5 := f5 n (by omega) (fun b hb => by omega)
      have z25 : FlZ M5 N1 N5 v2 (within fs at_ 9223372036854775807) := SlZ.frame z2 (by omega) fun b _ hb => by rw [m5 b (by omega) (by omega), m4 b (by omega), m3 b hb]
      obtain ⟨a2, k2, q2, e2, s2⟩ := flz_shown z25
      have key2 := app_own3 (M := M5) (P := fun b => (b = N3 + 1 ∨ b = N3 + 2) ∧ b < N5) (N := N5) (v := v5) (l2 := within fs at_ 9223372036854775807) o5 (fun b hb => hb.2) a2 k2 q2 (flCells_one _) (by rw [List.nil_append]; omega)
      rw [← e2] at key2
      simp (implicitDefEqProofs := false) (disch := omega) only [WPs, opds, List.all_cons, List.all_nil, List.cons_append, List.nil_append, cond_true, cond_false, eq_self, List.map_cons, List.map_nil, Nat.reduceAdd, Nat.testBit, Nat.reduceShiftRight, Nat.reduceAnd, Nat.reduceBNe, Nat.reduceMul, s2]
      refine use_rt key2 fun v6 M6 N6 r6 w6 ⟨n6, n6', o6, m6, f6⟩ => ?_
      have fz6 := f6 n (by omega) (fun b hb => by omega)
      rw [List.nil_append, hparts] at o6
      have m6b : ∀ b, b < N2 → M6 b = M2 b := fun b hb => by rw [m6 b (by omega) (by omega), m5 b (by omega) (by omega), m4 b (by omega), m3 b hb]
      have h6 : FlS M6 N6 lv fs := h2.frame (by omega) m6b
      simp (implicitDefEqProofs := false) (disch := omega) only [WPs, opds, List.all_cons, List.all_nil, List.cons_append, List.nil_append, cond_true, cond_false, eq_self, List.map_cons, List.map_nil, Nat.reduceAdd, Nat.testBit, Nat.reduceShiftRight, Nat.reduceAnd, Nat.reduceBNe, Nat.reduceMul]
      refine use_pure (same_spec T.e15 M6 N6 v6 lv fs fs (own3_s o6 fun b hb => hb.2) h6 (by omega) (by omega)) fun _ => ?_
      rw [sameB_iff.2 rfl]
      simp (implicitDefEqProofs := false) (disch := omega) only [WPs, opds, List.all_cons, List.all_nil, List.cons_append, List.nil_append, cond_true, cond_false, eq_self, List.map_cons, List.map_nil, Nat.reduceAdd, Nat.testBit, Nat.reduceShiftRight, Nat.reduceAnd, Nat.reduceBNe, Nat.reduceMul]
      refine use_rt (within_spec h19 M6 N6 lv fs at_ (at_ + 1) h6 hs) fun v7 M7 N7 r7 w7 ⟨n7, m7, f7, z7⟩ => ?_
      have fz7 := f7 n (by omega)
      have fzN3 : Nat.mod (bit N3) (bit n) = 0 := frz_bit (by omega)
      have fzN4 : Nat.mod (bit (N3 + 1)) (bit n) = 0 := frz_bit (by omega)
      have hone' : decide (((within fs at_ (at_ + 1)).length : Int) = 1) = (findB fs at_).isSome := by
        rw [hone]; exact decide_eq_decide.2 (by omega)
      simp (implicitDefEqProofs := false) (disch := omega) only [WPs, opds, List.all_cons, List.all_nil, List.cons_append, List.nil_append, cond_true, cond_false, eq_self, List.map_cons, List.map_nil, Nat.reduceAdd, Nat.testBit, Nat.reduceShiftRight, Nat.reduceAnd, Nat.reduceBNe, Nat.reduceMul, z7.s.len, hone', eql_bools, decide_eq_true (show (findB fs at_).isSome = (findB fs at_).isSome from rfl), fz1, fz2, fz3, fz5, fz6, fz7, fzN3, fzN4]
end Go.Am.C13
