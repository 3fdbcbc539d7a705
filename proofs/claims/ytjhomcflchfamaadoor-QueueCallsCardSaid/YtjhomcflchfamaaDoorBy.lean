/- The machine and its runs, part By: Am41obz. -/
import Derived.Test.YtjhomcflchfamaaDoorB15
set_option linter.unusedVariables false
set_option linter.unusedSimpArgs false
set_option linter.unusedSectionVars false
namespace Go.Am.C41
open Go Go.Am
variable {E : Nat → Option AFn} {Y : Nat → List Value → FM → Nat → OR FM}
theorem calls_L0 (H : Hy E Y) (T : Tq E) (R : Tr E) {m : FM} {n : Nat} {lv : Value} {cs : List (Act × Value)} (hl : RecsV recA m n lv cs) (hbg : largeB cs = false) (q r : Nat) {Q : AX → List Value → FM → Nat → Nat → Prop}
    (hQ : ∀ M' N' w, (∀ j, j ≤ n → Nat.mod w (bit j) = 0) → ∀ e', Q (.exit 0) e' M' N' w) : ∀ d j, j + d = cs.length → ∀ (M' : FM) (N' w0 : Nat) (tag : Tags) (v : QV) (x0 x2 x6 x7 x8 : Value), n ≤ N' → (∀ b, b < n → M' b = m b) → (∀ j, j ≤ n → Nat.mod w0 (bit j) = 0) → Both M' n N' tag q r v →
    Gv (execW PG E Y ac7L0 [x0, .int .i64 (j : Int), x2, .int .i64 (cs.length : Int), .pointer (some ⟨r, 0, none⟩), .pointer (some ⟨q, 0, none⟩), x6, x7, x8, lv] M' N') fun X e m n w => Q X e m n (Nat.lor w0 w) := by
  have h150 : cs.length ≤ 150 := by
    rw [largeB, Bool.or_eq_false_iff] at hbg
    have := of_decide_eq_false hbg.2
    omega
  intro d
  induction d with
  | zero =>
    intro j hj M' N' w0 tag v x0 x2 x6 x7 x8 hN hM hw hB
    refine wr_loopN (L := ac7L0) (b := ac7L0b) rfl ?_
    simp only [ac7L0b]
    simp (implicitDefEqProofs := false) (disch := omega) only [WPs, opds, List.all_cons, List.all_nil, List.cons_append, List.nil_append, cond_true, cond_false, eq_self, List.map_cons, List.map_nil, Nat.reduceAdd, Nat.testBit, Nat.reduceShiftRight, Nat.reduceAnd, Nat.reduceBNe, Nat.reduceMul]
    exact hQ _ _ _ hw _
  | succ d ih =>
    intro j hj M' N' w0 tag v x0 x2 x6 x7 x8 hN hM hw hB
    have hjl : j < cs.length := by omega
    have hl' := hl.frame hN hM
    obtain ⟨b, o, cells, opn, wr, i1, i2, i3, i4, i5, i6⟩ := hl'.at hjl
    have i6n := (hl.at hjl)
    obtain ⟨_, _, _, _, _, _, _, _, _, _, i7⟩ := i6n
    have i1 : idxV 11 j lv = some (.pointer (some ⟨b, o, none⟩)) := i1
    have i3 : M' b = some (.cells cells 11 opn wr) := i3
    have i4 : ctake (ldrop cells o) 11 = some (cs[j].1.cells cs[j].2) := i4
    have i7 : DatS m n cs[j].2 cs[j].1.c.data := i7
    have i5 : cs[j].1.c.Fit := i5
    have od := i7.v.one
    have hds : cs[j].1.c.data.length ≤ 1000000 := by
      rw [largeB, Bool.or_eq_false_iff] at hbg
      have h1 := hbg.1
      rw [← Bool.not_eq_true, List.any_eq_true] at h1
      by_cases h2 : 100 < cs[j].1.c.data.length
      · exact absurd ⟨_, List.getElem_mem hjl, by simp only [bigB, decide_eq_true h2, Bool.true_or]⟩ h1
      · omega
    obtain ⟨tag0, t0, hB0⟩ := hB.box (some (.cells (cs[j].1.cells cs[j].2) 0 false true))
    have q1 := hB.1.q1
    have r1 := hB.2.r1
    simp only [Act.cells] at i4 hB0
    refine wr_loopN (L := ac7L0) (b := ac7L0b) rfl ?_
    simp only [ac7L0b]
    simp (implicitDefEqProofs := false) (disch := omega) only [WPs, opds, List.all_cons, List.all_nil, List.cons_append, List.nil_append, cond_true, cond_false, eq_self, List.map_cons, List.map_nil, Nat.reduceAdd, Nat.testBit, Nat.reduceShiftRight, Nat.reduceAnd, Nat.reduceBNe, Nat.reduceMul, i1, i3, i4, od]
    refine use_rt (do_spec H T R hB0 cs[j].1 cs[j].2 i5 (i7.frame (Nat.le_refl _) fun b hb => by rw [fput_ne _ _ _ _ (by omega)]; exact hM b hb) hds) fun x M1 N1 r1' w1 ⟨hx, tag1, c1, hB1⟩ => ?_
    subst hx
    have n1 := c1.n
    have fz1 := c1.w
    have bx1 := (c1.fr N' (by omega) (.inr (.inl (by omega)))).trans (fput_same _ _ _)
    generalize hv1 : stepV v cs[j].1 = v1 at hB1
    obtain ⟨ls, le, lt⟩ := lenV_startedV v1 hB1.1.len
    have hnd := hB1.1.nd
    simp (implicitDefEqProofs := false) (disch := omega) only [WPs, opds, List.all_cons, List.all_nil, List.cons_append, List.nil_append, cond_true, cond_false, eq_self, List.map_cons, List.map_nil, Nat.reduceAdd, Nat.testBit, Nat.reduceShiftRight, Nat.reduceAnd, Nat.reduceBNe, Nat.reduceMul]
    refine use_rt (tags_v T hB1.1) fun x2 M2 N2 r2' w2 ⟨n2, m2, f2, g2⟩ => ?_
    have hB2 := hB1.stay n2 m2
    simp (implicitDefEqProofs := false) (disch := omega) only [WPs, opds, List.all_cons, List.all_nil, List.cons_append, List.nil_append, cond_true, cond_false, eq_self, List.map_cons, List.map_nil, Nat.reduceAdd, Nat.testBit, Nat.reduceShiftRight, Nat.reduceAnd, Nat.reduceBNe, Nat.reduceMul]
    refine use_rt (rtags_v R hB2.2) fun x3 M3 N3 r3' w3 ⟨n3, m3, f3, g3⟩ => ?_
    have hB3 := hB2.stay n3 m3
    simp (implicitDefEqProofs := false) (disch := omega) only [WPs, opds, List.all_cons, List.all_nil, List.cons_append, List.nil_append, cond_true, cond_false, eq_self, List.map_cons, List.map_nil, Nat.reduceAdd, Nat.testBit, Nat.reduceShiftRight, Nat.reduceAnd, Nat.reduceBNe, Nat.reduceMul]
    refine use_pure (sameInts_spec R.e22 _ _ _ _ _ (g2.frame n3 m3) g3 (by omega)) fun _ => ?_
    simp (implicitDefEqProofs := false) (disch := omega) only [WPs, opds, List.all_cons, List.all_nil, List.cons_append, List.nil_append, cond_true, cond_false, eq_self, List.map_cons, List.map_nil, Nat.reduceAdd, Nat.testBit, Nat.reduceShiftRight, Nat.reduceAnd, Nat.reduceBNe, Nat.reduceMul]
    refine use_rt (started_v T hB3.1) fun x4 M4 N4 r4' w4 ⟨n4, m4, f4, g4⟩ => ?_
    have hB4 := hB3.stay n4 m4
    simp (implicitDefEqProofs := false) (disch := omega) only [WPs, opds, List.all_cons, List.all_nil, List.cons_append, List.nil_append, cond_true, cond_false, eq_self, List.map_cons, List.map_nil, Nat.reduceAdd, Nat.testBit, Nat.reduceShiftRight, Nat.reduceAnd, Nat.reduceBNe, Nat.reduceMul]
    refine use_rt (rstarted_v R hB4.2) fun x5 M5 N5 r5' w5 ⟨n5, m5, f5, g5⟩ => ?_
    have hB5 := hB4.stay n5 m5
    simp (implicitDefEqProofs := false) (disch := omega) only [WPs, opds, List.all_cons, List.all_nil, List.cons_append, List.nil_append, cond_true, cond_false, eq_self, List.map_cons, List.map_nil, Nat.reduceAdd, Nat.testBit, Nat.reduceShiftRight, Nat.reduceAnd, Nat.reduceBNe, Nat.reduceMul]
    refine use_pure (sameInts_spec R.e22 _ _ _ _ _ (g4.frame n5 m5) g5 (by omega)) fun _ => ?_
    simp (implicitDefEqProofs := false) (disch := omega) only [WPs, opds, List.all_cons, List.all_nil, List.cons_append, List.nil_append, cond_true, cond_false, eq_self, List.map_cons, List.map_nil, Nat.reduceAdd, Nat.testBit, Nat.reduceShiftRight, Nat.reduceAnd, Nat.reduceBNe, Nat.reduceMul]
    refine use_rt (elig_v H T hB5.1) fun x6 M6 N6 r6' w6 ⟨n6, m6, f6, g6⟩ => ?_
    have hB6 := hB5.stay n6 m6
    simp (implicitDefEqProofs := false) (disch := omega) only [WPs, opds, List.all_cons, List.all_nil, List.cons_append, List.nil_append, cond_true, cond_false, eq_self, List.map_cons, List.map_nil, Nat.reduceAdd, Nat.testBit, Nat.reduceShiftRight, Nat.reduceAnd, Nat.reduceBNe, Nat.reduceMul]
    refine use_rt (relig_v H R hB6.2) fun x7 M7 N7 r7' w7 ⟨n7, m7, f7, g7⟩ => ?_
    have hB7 := hB6.stay n7 m7
    simp (implicitDefEqProofs := false) (disch := omega) only [WPs, opds, List.all_cons, List.all_nil, List.cons_append, List.nil_append, cond_true, cond_false, eq_self, List.map_cons, List.map_nil, Nat.reduceAdd, Nat.testBit, Nat.reduceShiftRight, Nat.reduceAnd, Nat.reduceBNe, Nat.reduceMul]
    refine use_pure (sameInts_spec R.e22 _ _ _ _ _ (g6.frame n7 m7) g7 (by omega)) fun _ => ?_
    simp (implicitDefEqProofs := false) (disch := omega) only [WPs, opds, List.all_cons, List.all_nil, List.cons_append, List.nil_append, cond_true, cond_false, eq_self, List.map_cons, List.map_nil, Nat.reduceAdd, Nat.testBit, Nat.reduceShiftRight, Nat.reduceAnd, Nat.reduceBNe, Nat.reduceMul]
    have bx7 : M7 N' = some (.cells (cs[j].1.cells cs[j].2) 0 false true) := by rw [m7 N' (by omega), m6 N' (by omega), m5 N' (by omega), m4 N' (by omega), m3 N' (by omega), m2 N' (by omega), bx1]; rfl
    simp only [Act.cells] at bx7
    simp (implicitDefEqProofs := false) (disch := omega) only [WPs, opds, List.all_cons, List.all_nil, List.cons_append, List.nil_append, cond_true, cond_false, eq_self, List.map_cons, List.map_nil, Nat.reduceAdd, Nat.testBit, Nat.reduceShiftRight, Nat.reduceAnd, Nat.reduceBNe, Nat.reduceMul, bx7]
    refine use_pure (tag_v R hB7.2 cs[j].1 cs[j].2 od) fun _ => ?_
    generalize hz : tagZ (tagsV v1) cs[j].1.k = z
    simp (implicitDefEqProofs := false) (disch := omega) only [WPs, opds, List.all_cons, List.all_nil, List.cons_append, List.nil_append, cond_true, cond_false, eq_self, List.map_cons, List.map_nil, Nat.reduceAdd, Nat.testBit, Nat.reduceShiftRight, Nat.reduceAnd, Nat.reduceBNe, Nat.reduceMul]
    refine use_rt (get_v T hB7.1 z) fun y8 M8 N8 r8' w8 hg8 => ?_
    have n8 := hg8.1
    have m8 := hg8.2.1
    have f8 := hg8.2.2.1
    have hB8 := hB7.stay n8 m8
    obtain ⟨c, d8, ok, rfl, hd8, hc8, _, _, hsnd⟩ := hg8.shape hnd
    have bx8 := (m8 N' (by omega)).trans bx7
    have od8 := hd8.v.one
    generalize hM9 : (AMem.put M8 N8 (some (.cells (c.cells d8) 0 false true)) : FM) = M9
    have m9 : ∀ b, b < N8 → M9 b = M8 b := fun b hb => by rw [← hM9]; exact fput_ne _ _ _ _ (by omega)
    have bx9 := (m9 N' (by omega)).trans bx8
    have hc9 : M9 N8 = some (.cells (c.cells d8) 0 false true) := by rw [← hM9]; exact fput_same _ _ _
    have hB9 := hB8.stay (by omega : N8 ≤ N8 + 1) m9
    simp only [Cmd.cells] at hM9 hc9
    simp (implicitDefEqProofs := false) (disch := omega) only [WPs, opds, List.all_cons, List.all_nil, List.cons_append, List.nil_append, cond_true, cond_false, eq_self, List.map_cons, List.map_nil, Nat.reduceAdd, Nat.testBit, Nat.reduceShiftRight, Nat.reduceAnd, Nat.reduceBNe, Nat.reduceMul, bx8, cmdV, od8, e_tup0, e_tup1, hM9, bx9]
    refine use_pure (tag_v R hB9.2 cs[j].1 cs[j].2 od) fun _ => ?_
    rw [hz]
    simp (implicitDefEqProofs := false) (disch := omega) only [WPs, opds, List.all_cons, List.all_nil, List.cons_append, List.nil_append, cond_true, cond_false, eq_self, List.map_cons, List.map_nil, Nat.reduceAdd, Nat.testBit, Nat.reduceShiftRight, Nat.reduceAnd, Nat.reduceBNe, Nat.reduceMul]
    refine use_rt (rget_v R hB9.2 z) fun y10 M10 N10 r10' w10 hg10 => ?_
    have n10 := hg10.1
    have m10 := hg10.2.1
    have f10 := hg10.2.2.1
    have hB10 := hB9.stay n10 m10
    obtain ⟨e10, rfl, hd10⟩ := hsnd hg10
    have hc10 := (m10 N8 (by omega)).trans hc9
    have od10 := hd10.v.one
    have hd8' := (hd8.frame (by omega : N8 ≤ N8 + 1) m9).frame n10 m10
    simp (implicitDefEqProofs := false) (disch := omega) only [WPs, opds, List.all_cons, List.all_nil, List.cons_append, List.nil_append, cond_true, cond_false, eq_self, List.map_cons, List.map_nil, Nat.reduceAdd, Nat.testBit, Nat.reduceShiftRight, Nat.reduceAnd, Nat.reduceBNe, Nat.reduceMul, cmdV, od10, e_tup0, e_tup1, neq_bools 4 t4, hc10, od8]
    refine use_pure (sameC_spec R c ((hd8'.frame (by omega : N10 ≤ N10 + 1) (fun b hb => fput_ne _ _ _ _ (by omega))).v) ((hd10.frame (by omega : N10 ≤ N10 + 1) (fun b hb => fput_ne _ _ _ _ (by omega))).v) hc8) fun _ => ?_
    simp (implicitDefEqProofs := false) (disch := omega) only [WPs, opds, List.all_cons, List.all_nil, List.cons_append, List.nil_append, cond_true, cond_false, eq_self, List.map_cons, List.map_nil, Nat.reduceAdd, Nat.testBit, Nat.reduceShiftRight, Nat.reduceAnd, Nat.reduceBNe, Nat.reduceMul]
    refine wr_end (ih (j + 1) (by omega) _ (N10 + 1) (Nat.lor w0 (Nat.lor (Nat.lor (Nat.lor (Nat.lor (bit N') (bit N')) (Nat.lor (Nat.lor (Nat.lor (Nat.lor (Nat.lor (Nat.lor w1 w2) w3) w4) w5) w6) w7)) (Nat.lor (Nat.lor w8 (bit N8)) (bit N8))) (Nat.lor (Nat.lor w10 (bit N10)) (bit N10)))) tag1 v1 _ _ _ _ _ (by omega) (fun b hb => ?_) (fun i hi => ?_) ?_) fun X e m n w hq => ?_
    · rw [fput_ne _ _ _ _ (by omega), m10 b (by omega), m9 b (by omega), m8 b (by omega), m7 b (by omega), m6 b (by omega), m5 b (by omega), m4 b (by omega), m3 b (by omega), m2 b (by omega), c1.fr b (by omega) (.inl hb), fput_ne _ _ _ _ (by omega)]
      exact hM b hb
    · simp only [frz_iff]
      exact ⟨hw i hi, ⟨⟨⟨frz_bit (by omega), frz_bit (by omega)⟩, ⟨⟨⟨⟨⟨⟨fz1 i hi, f2 i (by omega)⟩, f3 i (by omega)⟩, f4 i (by omega)⟩, f5 i (by omega)⟩, f6 i (by omega)⟩, f7 i (by omega)⟩⟩, ⟨f8 i (by omega), frz_bit (by omega)⟩, frz_bit (by omega)⟩, ⟨f10 i (by omega), frz_bit (by omega)⟩, frz_bit (by omega)⟩
    · exact hB10.stay (by omega) (fun b hb => fput_ne _ _ _ _ (by omega))
    · rw [← lor_assoc']; exact hq
theorem callsLaw (H : Hy E Y) (T : Tq E) (R : Tr E) (hE : E 7 = some ac7) (m : FM) (n : Nat) (lv : Value) (cs : List (Act × Value)) (hl : RecsV recA m n lv cs) (hs : cs.length ≤ 9223372036854775807) : Pure (callW PG E Y 7 [lv] m n) m n (.bool true) := by
  refine pure_spec hE rfl rfl ?_
  simp only [ac7]
  simp (implicitDefEqProofs := false) (disch := omega) only [WPs, opds, List.all_cons, List.all_nil, List.cons_append, List.nil_append, cond_true, cond_false, eq_self, List.map_cons, List.map_nil, Nat.reduceAdd, Nat.testBit, Nat.reduceShiftRight, Nat.reduceAnd, Nat.reduceBNe, Nat.reduceMul]
  refine use_pure (awake_spec H T R m n) fun _ => ?_
  simp (implicitDefEqProofs := false) (disch := omega) only [WPs, opds, List.all_cons, List.all_nil, List.cons_append, List.nil_append, cond_true, cond_false, eq_self, List.map_cons, List.map_nil, Nat.reduceAdd, Nat.testBit, Nat.reduceShiftRight, Nat.reduceAnd, Nat.reduceBNe, Nat.reduceMul]
  refine use_pure (large_spec R hl hs) fun _ => ?_
  cases hbg : largeB cs with
  | true => simp (implicitDefEqProofs := false) (disch := omega) only [WPs, opds, List.all_cons, List.all_nil, List.cons_append, List.nil_append, cond_true, cond_false, eq_self, List.map_cons, List.map_nil, Nat.reduceAdd, Nat.testBit, Nat.reduceShiftRight, Nat.reduceAnd, Nat.reduceBNe, Nat.reduceMul]
  | false =>
    simp (implicitDefEqProofs := false) (disch := omega) only [WPs, opds, List.all_cons, List.all_nil, List.cons_append, List.nil_append, cond_true, cond_false, eq_self, List.map_cons, List.map_nil, Nat.reduceAdd, Nat.testBit, Nat.reduceShiftRight, Nat.reduceAnd, Nat.reduceBNe, Nat.reduceMul]
    refine use_rt (new_spec T m n) fun x M1 N1 r1 w1 ⟨a1, a2, a3, ex, eN, a4⟩ => ?_
    subst ex eN
    have hN := a4 (fun b => if b = n then 2 else if b = n + 1 then 3 else if b = n + 2 then 1 else if b = n + 3 then 11 else 0) (if_pos rfl) (by show (if n + 1 = n then 2 else if n + 1 = n + 1 then 3 else _) = 3; rw [if_neg (by omega), if_pos rfl]) (by show (if n + 2 = n then 2 else if n + 2 = n + 1 then 3 else if n + 2 = n + 2 then 1 else _) = 1; rw [if_neg (by omega), if_neg (by omega), if_pos rfl])
    have hB := both_new (m := m) hN
    simp (implicitDefEqProofs := false) (disch := omega) only [WPs, opds, List.all_cons, List.all_nil, List.cons_append, List.nil_append, cond_true, cond_false, eq_self, List.map_cons, List.map_nil, Nat.reduceAdd, Nat.testBit, Nat.reduceShiftRight, Nat.reduceAnd, Nat.reduceBNe, Nat.reduceMul, hl.len]
    refine wr_kont (calls_L0 H T R hl hbg (n + 2) (n + 3) (fun M' N' w hw e' r => ?_) cs.length 0 (by omega) _ (n + 4) 0 _ [] _ _ _ _ _ (by omega) (fun b hb => ?_) (fun j _ => Nat.zero_mod _) hB)
    · have fz := hw n (Nat.le_refl _)
      have fz1 := a3 n (Nat.le_refl _)
      simp (implicitDefEqProofs := false) (disch := omega) only [WPs, opds, List.all_cons, List.all_nil, List.cons_append, List.nil_append, cond_true, cond_false, eq_self, List.map_cons, List.map_nil, Nat.reduceAdd, Nat.testBit, Nat.reduceShiftRight, Nat.reduceAnd, Nat.reduceBNe, Nat.reduceMul, fz, fz1]
    · rw [fput_ne _ _ _ _ (by omega)]; exact a2 b hb
end Go.Am.C41
