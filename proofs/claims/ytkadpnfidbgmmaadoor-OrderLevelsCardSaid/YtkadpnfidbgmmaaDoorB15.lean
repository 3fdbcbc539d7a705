/- The machine and its runs, part 15: Am40zc AmArgs AmWorld AmTrod AmTrod2 Am40k Am40m AmVals Am40zd Am40ze Am40n AmPost. -/
import Derived.Deep.Matrix
import Derived.OpenShut
import Derived.ProofKit
import Derived.Test.YtkadpnfidbgmmaaDoorB14
set_option linter.unusedVariables false
set_option linter.unusedSimpArgs false
set_option linter.unusedSectionVars false
namespace Go.Am.C40
open Go Go.Am C40q
variable {E : Nat → Option AFn} {Y : Nat → List Value → FM → Nat → OR FM}
theorem neq_bools (t : Nat) (ht : PG.underlying t = some .bool) (a b : Bool) : binV PG .neq t (.bool a) (.bool b) = some (.bool (!decide (a = b))) := by
  show flatO (pureRun PG (do eqGuard .neq t (.tmp 0) (.tmp 0) (.bool a) (.bool b); binOp .neq t (.bool a) (.bool b))) = _
  rw [pr_bind]
  show flatO (pureRun PG (Op.equal t (.bool a) (.bool b) >>= fun r => pure (.bool (!r)))) = _
  rw [pr_bind]
  have : pureRun PG (Op.equal t (.bool a) (.bool b)) = some (a == b) := by
    show pureRun PG (Op.equalIn (9999 + 1) t _ _) = _
    unfold Op.equalIn
    rw [pr_bind, pr_underlying ht]; rfl
  rw [this]
  cases a <;> cases b <;> rfl
theorem fen_bfL (cs : List (Cmd × Value)) (n : Nat) : Fen (bfL cs) n (fun i => fenceB (cmdAt cs i)) where
  l := fun i k _ _ h => by show (_ || _) = true; rw [h]; rfl
  r := fun i k _ _ h => by show (_ || (_ || _)) = true; rw [h]; simp
theorem fence22 (hE : E 22 = some ac22) {m : FM} {n : Nat} {lv : Value} {cs : List (Cmd × Value)} (hl : CmdsV m n lv cs) (M : FM) (N i : Nat) (hN : n ≤ N) (hM : ∀ b, b < n → M b = m b) (hi : i < cs.length) : Pure (callW PG E Y 22 [.agg (cmdC cs i).toArray] M N) M N (.bool (fenceB (cmdAt cs i))) := by
  obtain ⟨_, _, _, _, _, _, _, _, _, _, _, _, f1, d1⟩ := (hl.frame hN hM).at hi
  exact Fence_spec hE M N (cmdAt cs i) (datAt cs i) d1.one
theorem fences_L0 (T : Tb E Y) (h22' : E 22 = some ac22) (m : FM) (n : Nat) (lv sv : Value) (cs : List (Cmd × Value)) (sc : List Int) (hL : Lst m n lv cs) (h14 : cs.length ≤ 14) (hd : Sl m n sv (sc.map (.int .u8))) (hu : ∀ x ∈ sc, 0 ≤ x ∧ x < 256) (hds : sc.length ≤ 9223372036854775807) (cap : Nat)
    {Q : AX → List Value → FM → Nat → Nat → Prop} (hQ : ∀ e' M N w, (∀ j, j ≤ n → Nat.mod w (bit j) = 0) → Q (.exit 0) e' M N w) :
    ∀ d j, j + d = cs.length → ∀ (M : FM) (N w0 : Nat) (D : Nat → Bool) (hN : n < N) (hM : ∀ b, b < n → M b = m b) (hn : M n = some (.cells (doneT cs.length D) 1 false true)) (hc : cnt D cs.length = j) (hR : Down (bfL cs) cs.length D) (hw : ∀ j, j ≤ n → Nat.mod w0 (bit j) = 0) (x0 x2 x4 x5 x6 : Value),
    Gv (execW PG E Y ac9L0 [x0, .int .i64 (j : Int), x2, .slice (some ⟨n, 0, none⟩) cs.length cap, x4, x5, x6, lv, sv] M N) fun X e m n w => Q X e m n (Nat.lor w0 w) := by
  have hlen := hd.len
  rw [List.length_map] at hlen
  intro d
  induction d with
  | zero =>
    intro j hj M N w0 D hN hM hn hc hR hw x0 x2 x4 x5 x6
    have hL' := hL.frame (by omega : n ≤ N) hM
    refine wr_loopN (L := ac9L0) (b := ac9L0b) rfl ?_
    simp only [ac9L0b]
    simp (implicitDefEqProofs := false) (disch := omega) only [WPs, opds, List.all_cons, List.all_nil, List.cons_append, List.nil_append, cond_true, cond_false, eq_self, List.map_cons, List.map_nil, Nat.reduceAdd, Nat.testBit, Nat.reduceShiftRight, Nat.reduceAnd, Nat.reduceBNe, Nat.reduceMul, hL'.l.len]
    exact hQ _ _ _ _ hw
  | succ d ih =>
  intro j hj M N w0 D hN hM hn hc hR hw x0 x2 x4 x5 x6
  have hj' : j < cs.length := by omega
  have hL' := hL.frame (by omega : n ≤ N) hM
  refine wr_loopN (L := ac9L0) (b := ac9L0b) rfl ?_
  simp only [ac9L0b]
  simp (implicitDefEqProofs := false) (disch := omega) only [WPs, opds, List.all_cons, List.all_nil, List.cons_append, List.nil_append, cond_true, cond_false, eq_self, List.map_cons, List.map_nil, Nat.reduceAdd, Nat.testBit, Nat.reduceShiftRight, Nat.reduceAnd, Nat.reduceBNe, Nat.reduceMul, hL'.l.len]
  refine use_rt (elig_spec T.e16 T.e27 M N lv _ cs (tbl cs.length D) hL' (doneT_sl hN hn) (by rw [tbl_len]; omega) (bfL cs) (bef12 T.b hL'.l)) fun v1 m1 n1 r3 w3 ⟨a1, a2, a3, a4⟩ => ?_
  rw [elig_tbl] at a4
  have hne : 0 < (elig (bfL cs) cs.length D).length := List.length_pos_iff.2 (elig_some (by omega))
  have hel := elig_len (bf := bfL cs) cs.length D
  have hvl := a4.len
  rw [natsI_len] at hvl
  have hlv := (hL'.l.frame a1 a2).len
  have hlb := (hL'.l.frame a1 a2).bel
  have hn1 := (a2 n hN).trans hn
  have hm1 : ∀ b, b < n → m1 b = m b := fun b hb => (a2 b (by omega)).trans (hM b hb)
  have h22 : ∀ (M : FM) (N i : Nat), n ≤ N → (∀ b, b < n → M b = m b) → i < cs.length → Pure (callW PG E Y 22 [.agg (cmdC cs i).toArray] M N) M N (.bool (fenceB (cmdAt cs i))) := fun M N i h1 h2 h3 => fence22 h22' hL.l M N i h1 h2 h3
  have hF := fen_bfL cs cs.length
  have fin : ∀ k, k ∈ elig (bfL cs) cs.length D → k < cs.length ∧ free (bfL cs) D k = true ∧ cget (doneT cs.length D) k = some (.bool false) ∧ setCells (doneT cs.length D) k [.bool true] = some (doneT cs.length (updF D k true)) := fun k hk => by
    obtain ⟨hkl, hfree⟩ := mem_elig.1 hk
    exact ⟨hkl, hfree, by rw [doneT_at D hkl, (free_iff.1 hfree).1], doneT_set D hkl⟩
  have step : ∀ k, k ∈ elig (bfL cs) cs.length D → ∀ (wx : Nat), (∀ j, j ≤ n → Nat.mod wx (bit j) = 0) → ∀ (x0 x2 x4 x5 x6 : Value),
      Gv (execW PG E Y ac9L0 [x0, .int .i64 ((j + 1 : Nat) : Int), x2, .slice (some ⟨n, 0, none⟩) cs.length cap, x4, x5, x6, lv, sv] (AMem.put m1 n (some (.cells (doneT cs.length (updF D k true)) 1 false true))) n1) fun X e m n w => Q X e m n (Nat.lor w0 (Nat.lor wx w)) := fun k hk wx hwx x0 x2 x4 x5 x6 => by
    obtain ⟨f1, f2, f3, f4⟩ := fin k hk
    refine (ih (j + 1) (by omega) _ n1 (Nat.lor w0 wx) (updF D k true) (by omega) (fun b hb => by rw [fput_ne _ _ _ _ (by omega)]; exact hm1 b hb) (fput_same _ _ _) (by rw [cnt_upd (free_iff.1 f2).1 f1, hc]) (hR.step f2) (fun i hi => by rw [frz_iff]; exact ⟨hw i hi, hwx i hi⟩) x0 x2 x4 x5 x6).mono fun X e m n w hq => ?_
    rw [← lor_assoc']; exact hq
  obtain ⟨b, o1, c, opn, wr, i1, i2, i3, i4⟩ := natsI_cell a4 (by omega : (elig (bfL cs) cs.length D).length - 1 < (elig (bfL cs) cs.length D).length)
  have hm0 := List.getElem_mem (by omega : (elig (bfL cs) cs.length D).length - 1 < (elig (bfL cs) cs.length D).length)
  generalize (elig (bfL cs) cs.length D)[(elig (bfL cs) cs.length D).length - 1] = k0 at i4 hm0
  by_cases hjs : j < sc.length
  · obtain ⟨b', o', c', opn', wr', j1, j2, j3, j4⟩ := (hd.frame (by omega : n ≤ n1) hm1).cell (i := j) (x := .int .u8 sc[j]) (by simp [hjs])
    have hx := hu _ (List.getElem_mem hjs)
    obtain ⟨q, hq⟩ := Int.eq_ofNat_of_zero_le hx.1
    rw [hq] at j4 hx
    have hcv := conv_u8 (q := q) (by omega)
    have hql : q % (elig (bfL cs) cs.length D).length < (elig (bfL cs) cs.length D).length := Nat.mod_lt _ hne
    obtain ⟨b2, o2, c2, opn2, wr2, k1, k2, k3, k4⟩ := natsI_cell a4 hql
    have hm := List.getElem_mem hql
    generalize (elig (bfL cs) cs.length D)[q % (elig (bfL cs) cs.length D).length] = k at k4 hm
    obtain ⟨f1, f2, f3, f4⟩ := fin k hm
    obtain ⟨g1, g2⟩ := fence_place hF hR hc (by omega) f1 f2
    obtain ⟨b5, o5, c5, opn5, wr5, i1', i2', i3', i4', i5'⟩ := (hL'.l.frame a1 a2).at' f1
    obtain ⟨b6, o6, c6, opn6, wr6, j1', j2', j3', j4', j5'⟩ := (hL'.l.frame a1 a2).at' hj'
    simp (implicitDefEqProofs := false) (disch := omega) only [WPs, opds, List.all_cons, List.all_nil, List.cons_append, List.nil_append, cond_true, cond_false, eq_self, List.map_cons, List.map_nil, Nat.reduceAdd, Nat.testBit, Nat.reduceShiftRight, Nat.reduceAnd, Nat.reduceBNe, Nat.reduceMul, hlv, hn1, hlen, hvl, i1, i3, i4, j1, j3, j4, hcv, k1, k3, k4, hlb, i1', i3', i4', i5', j1', j3', j4', j5']
    refine use_pureX (h22 m1 n1 k (by omega) hm1 f1) fun r4 => ?_
    simp (implicitDefEqProofs := false) (disch := omega) only [WPs, opds, List.all_cons, List.all_nil, List.cons_append, List.nil_append, cond_true, cond_false, eq_self, List.map_cons, List.map_nil, Nat.reduceAdd, Nat.testBit, Nat.reduceShiftRight, Nat.reduceAnd, Nat.reduceBNe, Nat.reduceMul, hlb, i1', i3', i4', i5', j1', j3', j4', j5']
    refine use_pureX (h22 m1 n1 j (by omega) hm1 hj') fun r5 => ?_
    rw [g1]
    cases hFj : fenceB (cmdAt cs j)
    · simp (implicitDefEqProofs := false) (disch := omega) only [WPs, opds, List.all_cons, List.all_nil, List.cons_append, List.nil_append, cond_true, cond_false, eq_self, List.map_cons, List.map_nil, Nat.reduceAdd, Nat.testBit, Nat.reduceShiftRight, Nat.reduceAnd, Nat.reduceBNe, Nat.reduceMul, hlb, i1', i3', i4', i5', j1', j3', j4', j5', eql_bools 4 t4, neq_bools 4 t4]
      refine use_pureX (h22 m1 n1 j (by omega) hm1 hj') fun r6 => ?_
      rw [hFj]
      simp (implicitDefEqProofs := false) (disch := omega) only [WPs, opds, List.all_cons, List.all_nil, List.cons_append, List.nil_append, cond_true, cond_false, eq_self, List.map_cons, List.map_nil, Nat.reduceAdd, Nat.testBit, Nat.reduceShiftRight, Nat.reduceAnd, Nat.reduceBNe, Nat.reduceMul, hlb, hn1, f4]
      exact wr_end' (step k hm _ (fun i hi => by rw [frz_iff]; exact ⟨a3 i (by omega), frz_bit (by omega)⟩) _ _ _ _ _)
    · have hkj := g2 hFj
      simp (implicitDefEqProofs := false) (disch := omega) only [WPs, opds, List.all_cons, List.all_nil, List.cons_append, List.nil_append, cond_true, cond_false, eq_self, List.map_cons, List.map_nil, Nat.reduceAdd, Nat.testBit, Nat.reduceShiftRight, Nat.reduceAnd, Nat.reduceBNe, Nat.reduceMul, hlb, i1', i3', i4', i5', j1', j3', j4', j5', eql_bools 4 t4, neq_bools 4 t4]
      refine use_pureX (h22 m1 n1 j (by omega) hm1 hj') fun r6 => ?_
      rw [hFj]
      simp (implicitDefEqProofs := false) (disch := omega) only [WPs, opds, List.all_cons, List.all_nil, List.cons_append, List.nil_append, cond_true, cond_false, eq_self, List.map_cons, List.map_nil, Nat.reduceAdd, Nat.testBit, Nat.reduceShiftRight, Nat.reduceAnd, Nat.reduceBNe, Nat.reduceMul, hlb, hn1, f4]
      exact wr_end' (step k hm _ (fun i hi => by rw [frz_iff]; exact ⟨a3 i (by omega), frz_bit (by omega)⟩) _ _ _ _ _)

  · obtain ⟨f1, f2, f3, f4⟩ := fin k0 hm0
    obtain ⟨g1, g2⟩ := fence_place hF hR hc (by omega) f1 f2
    obtain ⟨b5, o5, c5, opn5, wr5, i1', i2', i3', i4', i5'⟩ := (hL'.l.frame a1 a2).at' f1
    obtain ⟨b6, o6, c6, opn6, wr6, j1', j2', j3', j4', j5'⟩ := (hL'.l.frame a1 a2).at' hj'
    simp (implicitDefEqProofs := false) (disch := omega) only [WPs, opds, List.all_cons, List.all_nil, List.cons_append, List.nil_append, cond_true, cond_false, eq_self, List.map_cons, List.map_nil, Nat.reduceAdd, Nat.testBit, Nat.reduceShiftRight, Nat.reduceAnd, Nat.reduceBNe, Nat.reduceMul, hlv, hn1, hlen, hvl, i1, i3, i4, hlb, i1', i3', i4', i5', j1', j3', j4', j5']
    refine use_pureX (h22 m1 n1 k0 (by omega) hm1 f1) fun r4 => ?_
    simp (implicitDefEqProofs := false) (disch := omega) only [WPs, opds, List.all_cons, List.all_nil, List.cons_append, List.nil_append, cond_true, cond_false, eq_self, List.map_cons, List.map_nil, Nat.reduceAdd, Nat.testBit, Nat.reduceShiftRight, Nat.reduceAnd, Nat.reduceBNe, Nat.reduceMul, hlb, i1', i3', i4', i5', j1', j3', j4', j5']
    refine use_pureX (h22 m1 n1 j (by omega) hm1 hj') fun r5 => ?_
    rw [g1]
    cases hFj : fenceB (cmdAt cs j)
    · simp (implicitDefEqProofs := false) (disch := omega) only [WPs, opds, List.all_cons, List.all_nil, List.cons_append, List.nil_append, cond_true, cond_false, eq_self, List.map_cons, List.map_nil, Nat.reduceAdd, Nat.testBit, Nat.reduceShiftRight, Nat.reduceAnd, Nat.reduceBNe, Nat.reduceMul, hlb, i1', i3', i4', i5', j1', j3', j4', j5', eql_bools 4 t4, neq_bools 4 t4]
      refine use_pureX (h22 m1 n1 j (by omega) hm1 hj') fun r6 => ?_
      rw [hFj]
      simp (implicitDefEqProofs := false) (disch := omega) only [WPs, opds, List.all_cons, List.all_nil, List.cons_append, List.nil_append, cond_true, cond_false, eq_self, List.map_cons, List.map_nil, Nat.reduceAdd, Nat.testBit, Nat.reduceShiftRight, Nat.reduceAnd, Nat.reduceBNe, Nat.reduceMul, hlb, hn1, f4]
      exact wr_end' (step k0 hm0 _ (fun i hi => by rw [frz_iff]; exact ⟨a3 i (by omega), frz_bit (by omega)⟩) _ _ _ _ _)
    · have hkj := g2 hFj
      simp (implicitDefEqProofs := false) (disch := omega) only [WPs, opds, List.all_cons, List.all_nil, List.cons_append, List.nil_append, cond_true, cond_false, eq_self, List.map_cons, List.map_nil, Nat.reduceAdd, Nat.testBit, Nat.reduceShiftRight, Nat.reduceAnd, Nat.reduceBNe, Nat.reduceMul, hlb, i1', i3', i4', i5', j1', j3', j4', j5', eql_bools 4 t4, neq_bools 4 t4]
      refine use_pureX (h22 m1 n1 j (by omega) hm1 hj') fun r6 => ?_
      rw [hFj]
      simp (implicitDefEqProofs := false) (disch := omega) only [WPs, opds, List.all_cons, List.all_nil, List.cons_append, List.nil_append, cond_true, cond_false, eq_self, List.map_cons, List.map_nil, Nat.reduceAdd, Nat.testBit, Nat.reduceShiftRight, Nat.reduceAnd, Nat.reduceBNe, Nat.reduceMul, hlb, hn1, f4]
      exact wr_end' (step k0 hm0 _ (fun i hi => by rw [frz_iff]; exact ⟨a3 i (by omega), frz_bit (by omega)⟩) _ _ _ _ _)

theorem fencesLaw (T : Tb E Y) (h22 : E 22 = some ac22) (hE : E 9 = some ac9) (m : FM) (n : Nat) (lv sv : Value) (cs : List (Cmd × Value)) (sc : List Int) (hl : CmdsV m n lv cs) (hs : cs.length ≤ 9223372036854775807) (hd : Sl m n sv (sc.map (.int .u8))) (hu : ∀ x ∈ sc, 0 ≤ x ∧ x < 256) (hds : sc.length ≤ 9223372036854775807) :
    Pure (callW PG E Y 9 [lv, sv] m n) m n (.bool true) := by
  refine pure_spec hE rfl rfl ?_
  simp only [ac9]
  simp (implicitDefEqProofs := false) (disch := omega) only [WPs, opds, List.all_cons, List.all_nil, List.cons_append, List.nil_append, cond_true, cond_false, eq_self, List.map_cons, List.map_nil, Nat.reduceAdd, Nat.testBit, Nat.reduceShiftRight, Nat.reduceAnd, Nat.reduceBNe, Nat.reduceMul]
  refine use_pure (T.aw _ _) fun r1 => ?_
  simp (implicitDefEqProofs := false) (disch := omega) only [WPs, opds, List.all_cons, List.all_nil, List.cons_append, List.nil_append, cond_true, cond_false, eq_self, List.map_cons, List.map_nil, Nat.reduceAdd, Nat.testBit, Nat.reduceShiftRight, Nat.reduceAnd, Nat.reduceBNe, Nat.reduceMul]
  refine use_pure (few_spec T.e14 _ _ lv cs hl hs) fun r2 => ?_
  cases hf : fewB cs
  · simp (implicitDefEqProofs := false) (disch := omega) only [WPs, opds, List.all_cons, List.all_nil, List.cons_append, List.nil_append, cond_true, cond_false, eq_self, List.map_cons, List.map_nil, Nat.reduceAdd, Nat.testBit, Nat.reduceShiftRight, Nat.reduceAnd, Nat.reduceBNe, Nat.reduceMul]
  have h14 := fewB_len hf
  have hL : Lst m n lv cs := ⟨hl, by omega⟩
  simp (implicitDefEqProofs := false) (disch := omega) only [WPs, opds, List.all_cons, List.all_nil, List.cons_append, List.nil_append, cond_true, cond_false, eq_self, List.map_cons, List.map_nil, Nat.reduceAdd, Nat.testBit, Nat.reduceShiftRight, Nat.reduceAnd, Nat.reduceBNe, Nat.reduceMul, hl.len]
  refine wr_kont (fences_L0 T h22 m n lv sv cs sc hL h14 hd hu hds cs.length ?_ cs.length 0 (by omega) (AMem.put m n (some (.cells (List.replicate cs.length (.bool false)) 1 false true))) (n + 1) 0 (fun _ => false) (by omega) (fun b hb => fput_ne _ _ _ _ (by omega)) (by rw [doneT_rep]; exact fput_same _ _ _) (cnt_none _) (Down.nil _) (fun j _ => Nat.zero_mod _) _ _ _ _ _)
  intro e' M N w hw r
  simp (implicitDefEqProofs := false) (disch := omega) only [WPs, opds, List.all_cons, List.all_nil, List.cons_append, List.nil_append, cond_true, cond_false, eq_self, List.map_cons, List.map_nil, Nat.reduceAdd, Nat.testBit, Nat.reduceShiftRight, Nat.reduceAnd, Nat.reduceBNe, Nat.reduceMul, hw n (Nat.le_refl _)]
theorem byLev_L0 (m : FM) (n : Nat) (lv vv : Value) (cs : List (Cmd × Value)) (h14 : cs.length ≤ 14) (hv : Ints m n vv (natsI (tbl cs.length (levs (bfL cs) cs.length)))) (nn : Nat) (hnn : nn < cs.length) (x3 x4 x5 x6 x8 x9 x10 x12 x13 x14 : Value)
    {Q : AX → List Value → FM → Nat → Nat → Prop} (hQ : ∀ M N w ov os, n ≤ N → (∀ b, b < n → M b = m b) → IntZ M n N ov os → Run (bfL cs) cs.length os (byLev (bfL cs) cs.length nn 0) → (∀ j, j ≤ n → Nat.mod w (bit j) = 0) → ∀ x1 x2, Q (.exit 2) [ov, x1, x2, x3, x4, x5, x6, .int .i64 (nn : Int), x8, x9, x10, vv, x12, x13, x14, lv] M N w) :
    ∀ i, i ≤ cs.length → ∀ (M : FM) (N w0 : Nat) (ov : Value) (os : List Int) (z : Int) (hz : z = (i : Int) - 1) (hN : n ≤ N) (hM : ∀ b, b < n → M b = m b) (ho : IntZ M n N ov os) (hR : Run (bfL cs) cs.length os (byLev (bfL cs) cs.length nn i)) (hw : ∀ j, j ≤ n → Nat.mod w0 (bit j) = 0) (x2 : Value),
    Gv (execW PG E Y ac10L0 [ov, .int .i64 z, x2, x3, x4, x5, x6, .int .i64 (nn : Int), x8, x9, x10, vv, x12, x13, x14, lv] M N) fun X e m n w => Q X e m n (Nat.lor w0 w) := by
  intro i
  induction i with
  | zero =>
    intro hi M N w0 ov os z hz hN hM ho hR hw x2
    refine wr_loopN (L := ac10L0) (b := ac10L0b) rfl ?_
    simp only [ac10L0b]
    simp (implicitDefEqProofs := false) (disch := omega) only [WPs, opds, List.all_cons, List.all_nil, List.cons_append, List.nil_append, cond_true, cond_false, eq_self, List.map_cons, List.map_nil, Nat.reduceAdd, Nat.testBit, Nat.reduceShiftRight, Nat.reduceAnd, Nat.reduceBNe, Nat.reduceMul]
    exact hQ _ _ _ _ _ hN hM ho hR hw _ _
  | succ i ih =>
    intro hi M N w0 ov os z hz hN hM ho hR hw x2
    obtain rfl : z = (i : Int) := by omega
    have hv' := hv.frame hN hM
    obtain ⟨b, o1, c, opn, wr, i1, i2, i3, i4⟩ := natsI_cell hv' (i := i) (by rw [tbl_len]; omega)
    have hget : (tbl cs.length (levs (bfL cs) cs.length))[i]'(by rw [tbl_len]; omega) = levs (bfL cs) cs.length i := by
      have := tbl_at (levs (bfL cs) cs.length) (by omega : i < cs.length)
      rw [List.getElem?_eq_getElem (by rw [tbl_len]; omega)] at this
      exact Option.some.inj this
    rw [hget] at i4
    have hle := cnt_le (byLev (bfL cs) cs.length nn (i + 1)) cs.length
    rw [← hR.len] at hle
    refine wr_loopN (L := ac10L0) (b := ac10L0b) rfl ?_
    simp only [ac10L0b]
    by_cases he : levs (bfL cs) cs.length i = nn
    · rw [he] at i4
      simp (implicitDefEqProofs := false) (disch := omega) only [WPs, opds, List.all_cons, List.all_nil, List.cons_append, List.nil_append, cond_true, cond_false, eq_self, List.map_cons, List.map_nil, Nat.reduceAdd, Nat.testBit, Nat.reduceShiftRight, Nat.reduceAnd, Nat.reduceBNe, Nat.reduceMul, i1, i3, i4]
      refine use_rt (app_intZ (n0 := n) (N := N + 1) (ho.frame (N' := N + 1) (by omega) (fun b h1 h2 => fput_ne _ _ _ _ (by omega))) (i : Int) _ _ _ (by omega) (by omega)) fun v' M' N' r' w' hA => ?_
      obtain ⟨rfl, ha, hlow, hw'⟩ := hA
      have hR' := hR.step (k := i) (by omega) (byLev_free (by omega) he)
      rw [byLev_step (by omega) he] at hR'
      simp (implicitDefEqProofs := false) (disch := omega) only [WPs, opds, List.all_cons, List.all_nil, List.cons_append, List.nil_append, cond_true, cond_false, eq_self, List.map_cons, List.map_nil, Nat.reduceAdd, Nat.testBit, Nat.reduceShiftRight, Nat.reduceAnd, Nat.reduceBNe, Nat.reduceMul]
      refine wr_end' ((ih (by omega) M' (N + 1 + 1) (Nat.lor w0 (Nat.lor (bit N) w')) v' _ _ rfl (by omega) (fun b hb => by rw [hlow b (by omega), fput_ne _ _ _ _ (by omega)]; exact hM b hb) ha hR' (fun i hi => by rw [frz_iff, frz_iff]; exact ⟨hw i hi, frz_bit (by omega), hw' i (by omega)⟩) _).mono fun X e m n w hq => ?_)
      rw [← lor_assoc']; exact hq
    · rw [byLev_skip he] at hR
      simp (implicitDefEqProofs := false) (disch := omega) only [WPs, opds, List.all_cons, List.all_nil, List.cons_append, List.nil_append, cond_true, cond_false, eq_self, List.map_cons, List.map_nil, Nat.reduceAdd, Nat.testBit, Nat.reduceShiftRight, Nat.reduceAnd, Nat.reduceBNe, Nat.reduceMul, i1, i3, i4]
      exact wr_end' ((ih (by omega) M N w0 ov os _ rfl hN hM ho hR hw _).mono fun X e m n w hq => by simpa only [zero_lor'] using hq)
theorem byLev_L1 (m : FM) (n : Nat) (lv vv : Value) (cs : List (Cmd × Value)) (hL : Lst m n lv cs) (h14 : cs.length ≤ 14) (hv : Ints m n vv (natsI (tbl cs.length (levs (bfL cs) cs.length))))
    {Q : AX → List Value → FM → Nat → Nat → Prop} (hQ : ∀ M N w ov os, n ≤ N → (∀ b, b < n → M b = m b) → IntZ M n N ov os → Run (bfL cs) cs.length os (byLev (bfL cs) cs.length cs.length cs.length) → (∀ j, j ≤ n → Nat.mod w (bit j) = 0) → ∀ x2 x3 x4 x6 x7 x8, Q (.exit 0) [ov, x2, x3, x4, vv, x6, x7, x8, lv] M N w) :
    ∀ d j, j + d = cs.length → ∀ (M : FM) (N w0 : Nat) (ov : Value) (os : List Int) (hN : n ≤ N) (hM : ∀ b, b < n → M b = m b) (ho : IntZ M n N ov os) (hR : Run (bfL cs) cs.length os (byLev (bfL cs) cs.length j cs.length)) (hw : ∀ j, j ≤ n → Nat.mod w0 (bit j) = 0) (x2 x3 x4 x6 x7 x8 : Value),
    Gv (execW PG E Y ac10L1 [ov, .int .i64 (j : Int), x2, x3, x4, vv, x6, x7, x8, lv] M N) fun X e m n w => Q X e m n (Nat.lor w0 w) := by
  intro d
  induction d with
  | zero =>
    intro j hj M N w0 ov os hN hM ho hR hw x2 x3 x4 x6 x7 x8
    obtain rfl : j = cs.length := by omega
    have hL' := hL.frame (by omega : n ≤ N) hM
    refine wr_loopN (L := ac10L1) (b := ac10L1b) rfl ?_
    simp only [ac10L1b]
    simp (implicitDefEqProofs := false) (disch := omega) only [WPs, opds, List.all_cons, List.all_nil, List.cons_append, List.nil_append, cond_true, cond_false, eq_self, List.map_cons, List.map_nil, Nat.reduceAdd, Nat.testBit, Nat.reduceShiftRight, Nat.reduceAnd, Nat.reduceBNe, Nat.reduceMul, hL'.l.len]
    exact hQ _ _ _ _ _ hN hM ho hR hw _ _ _ _ _ _
  | succ d ih =>
    intro j hj M N w0 ov os hN hM ho hR hw x2 x3 x4 x6 x7 x8
    have hL' := hL.frame (by omega : n ≤ N) hM
    refine wr_loopN (L := ac10L1) (b := ac10L1b) rfl ?_
    simp only [ac10L1b]
    simp (implicitDefEqProofs := false) (disch := omega) only [WPs, opds, List.all_cons, List.all_nil, List.cons_append, List.nil_append, cond_true, cond_false, eq_self, List.map_cons, List.map_nil, Nat.reduceAdd, Nat.testBit, Nat.reduceShiftRight, Nat.reduceAnd, Nat.reduceBNe, Nat.reduceMul, hL'.l.len]
    refine wr_kont (byLev_L0 m n lv vv cs h14 hv j (by omega) _ _ _ _ _ _ _ _ _ _ ?_ cs.length (Nat.le_refl _) M N 0 ov os _ (by omega) hN hM ho hR (fun j _ => Nat.zero_mod _) _)
    intro M' N' w' ov' os' hN' hM' ho' hR' hw' z1 z2 r
    rw [byLev_next] at hR'
    simp (implicitDefEqProofs := false) (disch := omega) only [WPs, opds, List.all_cons, List.all_nil, List.cons_append, List.nil_append, cond_true, cond_false, eq_self, List.map_cons, List.map_nil, Nat.reduceAdd, Nat.testBit, Nat.reduceShiftRight, Nat.reduceAnd, Nat.reduceBNe, Nat.reduceMul]
    refine wr_end' ((ih (j + 1) (by omega) M' N' (Nat.lor w0 w') ov' os' hN' hM' ho' hR' (fun i hi => by rw [frz_iff]; exact ⟨hw i hi, hw' i hi⟩) _ _ _ _ _ _).mono fun X e m n w hq => ?_)
    rw [← lor_assoc']; exact hq
theorem byLevLaw (T : Tb E Y) (hE : E 10 = some ac10) (m : FM) (n : Nat) (lv : Value) (cs : List (Cmd × Value)) (hl : CmdsV m n lv cs) (hs : cs.length ≤ 9223372036854775807) :
    Pure (callW PG E Y 10 [lv] m n) m n (.bool true) := by
  refine pure_spec hE rfl rfl ?_
  simp only [ac10]
  simp (implicitDefEqProofs := false) (disch := omega) only [WPs, opds, List.all_cons, List.all_nil, List.cons_append, List.nil_append, cond_true, cond_false, eq_self, List.map_cons, List.map_nil, Nat.reduceAdd, Nat.testBit, Nat.reduceShiftRight, Nat.reduceAnd, Nat.reduceBNe, Nat.reduceMul]
  refine use_pure (T.aw _ _) fun r1 => ?_
  simp (implicitDefEqProofs := false) (disch := omega) only [WPs, opds, List.all_cons, List.all_nil, List.cons_append, List.nil_append, cond_true, cond_false, eq_self, List.map_cons, List.map_nil, Nat.reduceAdd, Nat.testBit, Nat.reduceShiftRight, Nat.reduceAnd, Nat.reduceBNe, Nat.reduceMul]
  refine use_pure (few_spec T.e14 _ _ lv cs hl hs) fun r2 => ?_
  cases hf : fewB cs
  · simp (implicitDefEqProofs := false) (disch := omega) only [WPs, opds, List.all_cons, List.all_nil, List.cons_append, List.nil_append, cond_true, cond_false, eq_self, List.map_cons, List.map_nil, Nat.reduceAdd, Nat.testBit, Nat.reduceShiftRight, Nat.reduceAnd, Nat.reduceBNe, Nat.reduceMul]
  have h14 := fewB_len hf
  have hL : Lst m n lv cs := ⟨hl, by omega⟩
  simp (implicitDefEqProofs := false) (disch := omega) only [WPs, opds, List.all_cons, List.all_nil, List.cons_append, List.nil_append, cond_true, cond_false, eq_self, List.map_cons, List.map_nil, Nat.reduceAdd, Nat.testBit, Nat.reduceShiftRight, Nat.reduceAnd, Nat.reduceBNe, Nat.reduceMul]
  refine use_rt (levels_spec T.e20 m n lv cs hL (bfL cs) (bef12 T.b hl)) fun v1 m1 n1 r3 w3 ⟨a1, a2, a3, a4⟩ => ?_
  have hll := a4.len
  rw [natsI_len, tbl_len] at hll
  simp (implicitDefEqProofs := false) (disch := omega) only [WPs, opds, List.all_cons, List.all_nil, List.cons_append, List.nil_append, cond_true, cond_false, eq_self, List.map_cons, List.map_nil, Nat.reduceAdd, Nat.testBit, Nat.reduceShiftRight, Nat.reduceAnd, Nat.reduceBNe, Nat.reduceMul, hll, (hl.frame a1 a2).len]
  refine wr_kont (byLev_L1 m1 n1 lv v1 cs (hL.frame a1 a2) h14 a4 ?_ cs.length 0 (by omega) m1 n1 0 (.slice none 0 0) [] (Nat.le_refl _) (fun _ _ => rfl) (IntZ.nil _ _ _) (by rw [byLev_start]; exact Run.nil _) (fun j _ => Nat.zero_mod _) _ _ _ _ _ _)
  intro M N w ov os hN hM ho hR hw x2 x3 x4 x6 x7 x8 r
  have hos : os.length = cs.length := by rw [hR.len]; exact cnt_full fun i hi => byLev_end hi
  have hL' := (hL.frame a1 a2).frame hN hM
  have hres := hR.done hos
  simp (implicitDefEqProofs := false) (disch := omega) only [WPs, opds, List.all_cons, List.all_nil, List.cons_append, List.nil_append, cond_true, cond_false, eq_self, List.map_cons, List.map_nil, Nat.reduceAdd, Nat.testBit, Nat.reduceShiftRight, Nat.reduceAnd, Nat.reduceBNe, Nat.reduceMul]
  refine use_pure (respects_spec T.e18 M N lv ov cs os hL' ho.ints (by omega) (bfL cs) (bef12 T.b hL'.l)) fun r3 => ?_
  simp (implicitDefEqProofs := false) (disch := omega) only [WPs, opds, List.all_cons, List.all_nil, List.cons_append, List.nil_append, cond_true, cond_false, eq_self, List.map_cons, List.map_nil, Nat.reduceAdd, Nat.testBit, Nat.reduceShiftRight, Nat.reduceAnd, Nat.reduceBNe, Nat.reduceMul, hres, a3 n (Nat.le_refl _), hw n a1]
end Go.Am.C40
namespace Go.Am
open Go Go.Am.V Go.RowKit
theorem Env.topW {P : Program} {tab : List (Nat × AFn)} {Y : Nat → List Value → FM → Nat → OR FM} {Yf : FCal} (h : Env P tab Y Yf) {f : Nat} {args : List Value} {m0 m : FM} {n0 n r wm : Nat} (hrun : callW P (look tab) Y f args m0 n0 = .ok (.bool true) m n r wm)
    {ρ : Ren} {w : World} {args' : Array Value} (ha : LRel ρ args args'.toList) (hm : MRel ρ m0 w w.heap.size) (hf : Free ρ n0) :
    Calls P f args' w fun e w' => e = .returned (.bool true) ∧ Below w.heap.size w w' := by
  obtain ⟨k, hk⟩ := call_rch f args m0 n0 _ _ _ _ _ hrun
  obtain ⟨_, hc⟩ := h.calls k f args m0 n0 (.bool true) m n r wm (hk k (Nat.le_refl _)) ρ m0 w w.heap.size (Nat.lor r wm) args' ha (Sub.refl _) (fun b hb _ => rfl) hm hf
  refine hc.mono fun e w' hh => ?_
  obtain ⟨ρ', v', rfl, hv, hp⟩ := hh
  rw [hv.flat_eq rfl]
  exact ⟨rfl, hp.below⟩
/-- integers in a world -/
def IntsW (w : World) (v : Value) (xs : List Int) : Prop :=
  (v = .slice none 0 0 ∧ xs = []) ∨ (∃ a' c', v = .slice (some a') 0 c' ∧ xs = []) ∨ ∃ (blk off cap : Nat) (cc : Array Value) (e : TypeId) (fz : Nat × Nat), v = .slice (some ⟨blk, off, none⟩) xs.length cap ∧ 0 < xs.length ∧ w.heap[blk]? = some (.cells cc e fz) ∧ xs.length ≤ cap ∧ off + xs.length ≤ cc.size ∧ ∀ (i : Nat) x, xs[i]? = some x → cc[off + i]? = some (.int .i64 x)
def RowsW (w : World) (v : Value) (gs : List (List Int)) : Prop :=
  (v = .slice none 0 0 ∧ gs = []) ∨ (∃ a' c', v = .slice (some a') 0 c' ∧ gs = []) ∨ ∃ (blk off cap : Nat) (cc : Array Value) (e : TypeId) (fz : Nat × Nat) (vs : List Value), v = .slice (some ⟨blk, off, none⟩) vs.length cap ∧ w.heap[blk]? = some (.cells cc e fz) ∧ vs.length ≤ cap ∧ off + vs.length ≤ cc.size ∧ vs.length = gs.length ∧ (∀ (i : Nat) x, vs[i]? = some x → cc[off + i]? = some x) ∧ ∀ (i : Nat) x g, vs[i]? = some x → gs[i]? = some g → IntsW w x g
def plOf : Value → Option Place
  | .slice (some ⟨b, o, none⟩) (_ + 1) c => some ⟨b, o, c, 1⟩
  | _ => none
def fvOf (i : Nat) : Value → Value
  | .slice (some ⟨_, _, none⟩) (l + 1) _ => .slice (some ⟨i + 1, 0, none⟩) (l + 1) UNK
  | .slice (some _) 0 _ => .slice (some ⟨0, 0, none⟩) 0 VAG
  | v => v
theorem plOf_pos {b o l c : Nat} (h : 0 < l) : plOf (.slice (some ⟨b, o, none⟩) l c) = some ⟨b, o, c, 1⟩ := by
  cases l with
  | zero => omega
  | succ l => rfl
theorem fvOf_pos {i b o l c : Nat} (h : 0 < l) : fvOf i (.slice (some ⟨b, o, none⟩) l c) = .slice (some ⟨i + 1, 0, none⟩) l UNK := by
  cases l with
  | zero => omega
  | succ l => rfl
theorem fvOf_emp {i c : Nat} (a : Addr) : fvOf i (.slice (some a) 0 c) = .slice (some ⟨0, 0, none⟩) 0 VAG := by
  obtain ⟨b, o, sp⟩ := a
  cases sp <;> rfl
theorem plOf_emp {c : Nat} (a : Addr) : plOf (.slice (some a) 0 c) = none := by
  obtain ⟨b, o, sp⟩ := a
  cases sp <;> rfl
def rowsRen (p : Place) (vs : List Value) : Ren
  | 0 => some p
  | i + 1 => (vs[i]?).bind plOf
def rowsMem (vs : List Value) (gs : List (List Int)) : FM
  | 0 => some (.cells (vs.mapIdx fvOf) 1 false false)
  | i + 1 => (gs[i]?).map fun g => .cells (g.map (Value.int .i64)) 1 false false
theorem rows_world {w : World} {v : Value} {gs : List (List Int)} (h : RowsW w v gs) : ∃ (ρ : Ren) (m0 : FM) (n0 : Nat) (gv : Value), Rows m0 n0 gv gs ∧ VRel ρ gv v ∧ MRel ρ m0 w w.heap.size ∧ Free ρ n0 := by
  rcases h with ⟨rfl, rfl⟩ | ⟨a', c', rfl, rfl⟩ | ⟨blk, off, cap, cc, e, fz, vs, rfl, hh, hcap, hsz, hlen, hcells, hrows⟩
  · exact ⟨fun _ => none, FM0, 0, .slice none 0 0, ⟨[], .inl ⟨rfl, rfl⟩, rfl, fun i x g hx => by simp at hx⟩, .flat rfl, mrel_none w, fun _ _ => rfl⟩
  · exact ⟨fun _ => none, FM0, 1, .slice (some ⟨0, 0, none⟩) 0 VAG, ⟨[], .inr (.inr ⟨rfl, rfl, by omega⟩), rfl, fun i x g hx => by simp at hx⟩, .vag, mrel_none w, fun _ _ => rfl⟩
  have hlt : ∀ {b : Nat} {x}, w.heap[b]? = some x → b < w.heap.size := fun hb => (Array.getElem?_eq_some_iff.1 hb).1
  have hget : ∀ (i : Nat) x, (vs.mapIdx fvOf)[i]? = some x → ∃ y, vs[i]? = some y ∧ x = fvOf i y := fun i x hx => by
    rw [List.getElem?_mapIdx] at hx
    cases hy : vs[i]? with
    | none => rw [hy] at hx; cases hx
    | some y => rw [hy] at hx; injection hx with hx; exact ⟨y, rfl, hx.symm⟩
  have hg : ∀ (i : Nat) y, vs[i]? = some y → ∃ g, gs[i]? = some g ∧ IntsW w y g := fun i y hy => by
    have hi : i < gs.length := by have := (List.getElem?_eq_some_iff.1 hy).1; omega
    exact ⟨gs[i], List.getElem?_eq_getElem hi, hrows i y _ hy (List.getElem?_eq_getElem hi)⟩
  refine ⟨rowsRen ⟨blk, off, cap, 1⟩ vs, rowsMem vs gs, vs.length + 1, .slice (some ⟨0, 0, none⟩) vs.length UNK, ⟨vs.mapIdx fvOf, ?_, ?_, ?_⟩, ?_, ⟨?_, ?_, ?_, Nat.le_refl _⟩, ?_⟩
  · exact .inr <| .inl ⟨0, 0, UNK, vs.mapIdx fvOf, false, false, by rw [List.length_mapIdx], by omega, rfl, fun i x hx => by rw [Nat.zero_add]; exact hx⟩
  · rw [List.length_mapIdx]; exact hlen
  · intro i x g hx hgi
    obtain ⟨y, hy, rfl⟩ := hget i x hx
    rcases hrows i y g hy hgi with ⟨rfl, rfl⟩ | ⟨a', c', rfl, rfl⟩ | ⟨b, o, c, cc', e', fz', rfl, k0, k1, k2, k3, k4⟩
    · exact .inl ⟨rfl, rfl⟩
    · exact .inr (.inr ⟨fvOf_emp a', rfl, by omega⟩)
    · refine .inr <| .inl ⟨i + 1, 0, UNK, g.map (Value.int .i64), false, false, by rw [List.length_map]; exact fvOf_pos k0, ?_, ?_, fun j z hz => by rw [Nat.zero_add]; exact hz⟩
      · have := (List.getElem?_eq_some_iff.1 hy).1; omega
      · show (gs[i]?).map _ = _
        rw [hgi]; rfl
  · exact VRel.slice (ρ := rowsRen ⟨blk, off, cap, 1⟩ vs) (b := 0) (o := 0) (p := ⟨blk, off, cap, 1⟩) rfl hcap (fun _ => by show 0 + cap * 1 = cap; omega) (fun h => absurd rfl h) (by decide)
  · intro b p O hp hO
    cases b with
    | zero =>
      injection hp with hp; subst hp
      injection hO with hO; subst hO
      refine ⟨rfl, cc, e, fz, hh, ?_, fun h => absurd h (by decide), fun h => absurd h (by decide), by rw [List.length_mapIdx]; exact hsz⟩
      intro i x hx
      obtain ⟨y, hy, rfl⟩ := hget i x hx
      refine ⟨y, hcells i y hy, ?_⟩
      obtain ⟨g, hgi, hy2⟩ := hg i y hy
      rcases hy2 with ⟨rfl, rfl⟩ | ⟨a', c', rfl, rfl⟩ | ⟨b, o, c, cc', e', fz', rfl, k0, k1, k2, k3, k4⟩
      · exact .flat rfl
      · rw [fvOf_emp]; exact .vag
      · rw [fvOf_pos k0]
        exact VRel.slice (ρ := rowsRen ⟨blk, off, cap, 1⟩ vs) (b := i + 1) (o := 0) (p := ⟨b, o, c, 1⟩) (by show (vs[i]?).bind plOf = _; rw [hy]; exact plOf_pos k0) k2 (fun _ => by show 0 + c * 1 = c; omega) (fun h => absurd rfl h) (by decide)
    | succ i =>
      replace hp : (vs[i]?).bind plOf = some p := hp
      replace hO : (gs[i]?).map _ = some O := hO
      cases hy : vs[i]? with
      | none => rw [hy] at hp; cases hp
      | some y =>
        obtain ⟨g, hgi, hy2⟩ := hg i y hy
        rw [hy] at hp
        rw [hgi] at hO
        injection hO with hO; subst hO
        rcases hy2 with ⟨rfl, rfl⟩ | ⟨a', c', rfl, rfl⟩ | ⟨b, o, c, cc', e', fz', rfl, k0, k1, k2, k3, k4⟩
        · cases hp
        · replace hp : plOf (.slice (some a') 0 c') = some p := hp
          rw [plOf_emp] at hp; cases hp
        · replace hp : plOf (.slice (some ⟨b, o, none⟩) _ c) = some p := hp
          rw [plOf_pos k0] at hp
          injection hp with hp; subst hp
          refine ⟨rfl, cc', e', fz', k1, ?_, fun h => absurd h (by decide), fun h => absurd h (by decide), by rw [List.length_map]; exact k3⟩
          intro j x hx
          rw [List.getElem?_map] at hx
          cases hz : g[j]? with
          | none => rw [hz] at hx; cases hx
          | some z => rw [hz] at hx; injection hx with hx; subst hx; exact ⟨_, k4 j z hz, .flat rfl⟩
  · intro b1 b2 p1 p2 O1 O2 _ _ hO1 _ _ hw
    cases b1 with
    | zero => injection hO1 with hO1; subst hO1; cases hw
    | succ i =>
      replace hO1 : (gs[i]?).map _ = some O1 := hO1
      cases hgi : gs[i]? with
      | none => rw [hgi] at hO1; cases hO1
      | some g => rw [hgi] at hO1; injection hO1 with hO1; subst hO1; cases hw
  · intro b p hp
    cases b with
    | zero => injection hp with hp; subst hp; exact hlt hh
    | succ i =>
      replace hp : (vs[i]?).bind plOf = some p := hp
      cases hy : vs[i]? with
      | none => rw [hy] at hp; cases hp
      | some y =>
        obtain ⟨g, hgi, hy2⟩ := hg i y hy
        rw [hy] at hp
        rcases hy2 with ⟨rfl, rfl⟩ | ⟨a', c', rfl, rfl⟩ | ⟨b, o, c, cc', e', fz', rfl, k0, k1, k2, k3, k4⟩
        · cases hp
        · replace hp : plOf (.slice (some a') 0 c') = some p := hp
          rw [plOf_emp] at hp; cases hp
        · replace hp : plOf (.slice (some ⟨b, o, none⟩) _ c) = some p := hp
          rw [plOf_pos k0] at hp
          injection hp with hp; subst hp; exact hlt k1
  · intro b hb
    cases b with
    | zero => omega
    | succ i => show (vs[i]?).bind plOf = none; rw [List.getElem?_eq_none (by omega)]; rfl
end Go.Am
namespace Go.Am
open Go Go.RowKit Go.Deep Go.ChangeShapes
theorem cells_row {w : World} {a : Addr} {n : Nat} {f : Nat → Value} (h0 : 0 < n) (h : ∀ i, i < n → w.cell? (a.add i) = some (f i)) :
    ∃ (blk off : Nat) (cc : Array Value) (e : TypeId) (fz : Nat × Nat), a = ⟨blk, off, none⟩ ∧ w.heap[blk]? = some (.cells cc e fz) ∧ off + n ≤ cc.size ∧ ∀ i, i < n → cc[off + i]? = some (f i) := by
  obtain ⟨blk, off, spot⟩ := a
  have ha : ∀ i, (Addr.add ⟨blk, off, spot⟩ i).block = blk ∧ (Addr.add ⟨blk, off, spot⟩ i).off = off + i := fun i => by
    unfold Addr.add
    by_cases hi : i = 0
    · rw [if_pos hi, hi]; exact ⟨rfl, rfl⟩
    · rw [if_neg hi]; exact ⟨rfl, rfl⟩
  have hc := h 0 h0
  have hadd : Addr.add ⟨blk, off, spot⟩ 0 = ⟨blk, off, spot⟩ := by unfold Addr.add; rw [if_pos rfl]
  rw [hadd] at hc
  unfold World.cell? at hc
  split at hc
  · rename_i cc e fz hh
    replace hh : w.heap[blk]? = some (.cells cc e fz) := hh
    cases spot with
    | some s => simp at hc
    | none =>
      have hall : ∀ i, i < n → cc[off + i]? = some (f i) := fun i hi => by
        have hci := h i hi
        unfold World.cell? at hci
        rw [(ha i).1, hh, (ha i).2] at hci
        replace hci : (if (Addr.add ⟨blk, off, none⟩ i).spot.isSome then none else cc[off + i]?) = some (f i) := hci
        split at hci
        · cases hci
        · exact hci
      refine ⟨blk, off, cc, e, fz, rfl, hh, ?_, hall⟩
      have := (Array.getElem?_eq_some_iff.1 (hall (n - 1) (by omega))).1
      omega
  · cases hc
theorem rows_of_trod {H : Type} {enc : TypeId × Value → H} {P : Program} {w : World} {held : Bool} {t e q : TypeId} {fuel : Nat} {cs : List Value} {x : DataW H × List MemPlace} (ht : P.underlying t = some (.slice e)) (he : P.underlying e = some (.slice q)) (hq : P.underlying q = some (.int .i64))
    (ce : P.cellsOf e = 1) (cq : P.cellsOf q = 1) (h : DataW.trod enc P w 0 (fun _ => true) held fuel t cs = some x) : ∃ v gs, cs = [v] ∧ RowsW w v gs := by
  rcases open_int_rows ht he hq ce cq h with ⟨hcs, _⟩ | ⟨a, len, cap, A, L, C, Z, hcs, _, hl, hm, _, hrows⟩
  · exact ⟨_, [], hcs, .inl ⟨rfl, rfl⟩⟩
  · by_cases hlen : len = 0
    · subst hlen
      exact ⟨_, [], hcs, .inr (.inl ⟨a, cap, rfl, rfl⟩)⟩
    · obtain ⟨blk, off, cc, et, fz, rfl, hh, hsz, hcell⟩ := cells_row (n := cap) (f := fun r => .slice (A r) (L r) (C r)) (by omega) (fun r hr => (hrows r hr).1)
      have hvl : ((List.range len).map fun r => Value.slice (A r) (L r) (C r)).length = len := by simp
      refine ⟨_, (List.range len).map fun r => (Z r).take (L r), hcs, .inr (.inr ⟨blk, off, cap, cc, et, fz, (List.range len).map fun r => .slice (A r) (L r) (C r), by rw [hvl], hh, by rw [hvl]; exact hl, by rw [hvl]; omega, by simp, ?_, ?_⟩)⟩
      · intro i y hy
        rw [List.getElem?_map] at hy
        have hi : i < len := by
          rcases Nat.lt_or_ge i len with h | h
          · exact h
          · rw [List.getElem?_eq_none (by simpa using h)] at hy; cases hy
        rw [List.getElem?_range hi] at hy
        injection hy with hy; subst hy
        exact hcell i (by omega)
      · intro i y g hy hg
        have hi : i < len := by
          rcases Nat.lt_or_ge i len with h | h
          · exact h
          · rw [List.getElem?_map, List.getElem?_eq_none (by simpa using h)] at hy; cases hy
        rw [List.getElem?_map, List.getElem?_range hi] at hy hg
        injection hy with hy; subst hy
        injection hg with hg; subst hg
        obtain ⟨_, k1, k2, k3, k4, k5, k6⟩ := hrows i (by omega)
        cases hA : A i with
        | none =>
          have hC := k5 hA
          have hL : L i = 0 := by omega
          have hZ : Z i = [] := List.length_eq_zero_iff.1 (by omega)
          exact .inl ⟨by show Value.slice (A i) (L i) (C i) = _; rw [hA, hL, hC], by simp [hZ]⟩
        | some a' =>
          by_cases hL : L i = 0
          · exact .inr (.inl ⟨a', C i, by show Value.slice (A i) (L i) (C i) = _; rw [hA, hL], by simp [hL]⟩)
          · have h6 := (k6 a' hA).2
            obtain ⟨b2, o2, c2, e2, z2, rfl, hh2, hs2, hc2⟩ := cells_row (n := C i) (f := fun c => .int .i64 ((Z i).getD c 0)) (by omega) h6
            have hgl : ((Z i).take (L i)).length = L i := by rw [List.length_take]; omega
            refine .inr (.inr ⟨b2, o2, C i, c2, e2, z2, by show Value.slice (A i) (L i) (C i) = _; rw [hA, hgl], by rw [hgl]; omega, hh2, by rw [hgl]; omega, by rw [hgl]; omega, ?_⟩)
            intro j z hz
            replace hz : ((Z i).take (L i))[j]? = some z := hz
            have hj : j < L i := by have := (List.getElem?_eq_some_iff.1 hz).1; omega
            rw [hc2 j (by omega)]
            rw [List.getElem?_take, if_pos hj] at hz
            rw [List.getD, hz]; rfl
end Go.Am
namespace Go.Am
open Go Go.RowKit
/-- a stretch of a world's block, with what the machine sees there -/
structure Ent where
  p : Place
  cs : List Value
def entRen (L : List (Option Ent)) : Ren := fun b => (L[b]?).bind fun o => o.map (·.p)
def entMem (L : List (Option Ent)) : FM := fun b => (L[b]?).bind fun o => o.map fun e => .cells e.cs e.p.sz false false
structure EntOk (w : World) (ρ : Ren) (e : Ent) : Prop where
  ok : ∃ (cc : Array Value) (ty : TypeId) (fz : Nat × Nat), w.heap[e.p.blk]? = some (.cells cc ty fz) ∧ e.p.base + e.cs.length ≤ cc.size ∧ ∀ (j : Nat) x, e.cs[j]? = some x → ∃ y, cc[e.p.base + j]? = some y ∧ VRel ρ x y
theorem ent_world {w : World} {L : List (Option Ent)} (h : ∀ (i : Nat) e, L[i]? = some (some e) → EntOk w (entRen L) e) : MRel (entRen L) (entMem L) w w.heap.size ∧ Free (entRen L) L.length := by
  have hlt : ∀ {b : Nat} {x}, w.heap[b]? = some x → b < w.heap.size := fun hb => (Array.getElem?_eq_some_iff.1 hb).1
  refine ⟨⟨?_, ?_, ?_, Nat.le_refl _⟩, ?_⟩
  · intro b p O hp hO
    replace hp : ((L[b]?).bind fun o => o.map (·.p)) = some p := hp
    replace hO : ((L[b]?).bind fun o => o.map fun e => Blk.cells e.cs e.p.sz false false) = some O := hO
    cases hy : L[b]? with
    | none => rw [hy] at hp; cases hp
    | some o =>
      rw [hy] at hp hO
      cases o with
      | none => cases hp
      | some e =>
      injection hp with hp; subst hp
      injection hO with hO; subst hO
      obtain ⟨cc, ty, fz, h1, h2, h3⟩ := (h b e hy).ok
      exact ⟨rfl, cc, ty, fz, h1, h3, fun h => absurd h (by decide), fun h => absurd h (by decide), h2⟩
  · intro b1 b2 p1 p2 O1 O2 _ _ hO1 _ _ hw
    replace hO1 : ((L[b1]?).bind fun o => o.map fun e => Blk.cells e.cs e.p.sz false false) = some O1 := hO1
    cases hy : L[b1]? with
    | none => rw [hy] at hO1; cases hO1
    | some o =>
      rw [hy] at hO1
      cases o with
      | none => cases hO1
      | some e => injection hO1 with hO1; subst hO1; cases hw
  · intro b p hp
    replace hp : ((L[b]?).bind fun o => o.map (·.p)) = some p := hp
    cases hy : L[b]? with
    | none => rw [hy] at hp; cases hp
    | some o =>
      rw [hy] at hp
      cases o with
      | none => cases hp
      | some e =>
      injection hp with hp; subst hp
      obtain ⟨cc, ty, fz, h1, h2, h3⟩ := (h b e hy).ok
      exact hlt h1
  · intro b hb
    show (L[b]?).bind _ = none
    rw [List.getElem?_eq_none (by omega)]; rfl
end Go.Am
namespace Go.Am
open Go Go.RowKit Go.ChangeShapes
/-- a stretch of cells of a world, at an address -/
theorem cells_at {w : World} {base k : Nat} {a : Addr} {l : List Value} (h : w.cells? base a k = some l) (hk : 0 < k) : ∃ (blk off : Nat) (cc : Array Value) (ty : TypeId) (fz : Nat × Nat), a = ⟨blk, off, none⟩ ∧ w.heap[blk]? = some (.cells cc ty fz) ∧ off + k ≤ cc.size ∧ l.length = k ∧ ∀ j, j < k → cc[off + j]? = l[j]? := by
  obtain ⟨_, hl, hc⟩ := World.cells?_some h
  have hget : ∀ i, i < k → w.cell? (a.add i) = some (l.getD i undef) := fun i hi => by
    have h1 : l[i]? = some (l.getD i undef) := by rw [List.getD_eq_getElem?_getD, List.getElem?_eq_getElem (by omega)]; rfl
    have := hc i hi
    rw [h1] at this
    exact this
  obtain ⟨blk, off, cc, ty, fz, rfl, hh, hs, hcell⟩ := cells_row hk hget
  refine ⟨blk, off, cc, ty, fz, rfl, hh, hs, hl, fun j hj => ?_⟩
  rw [hcell j hj, List.getD_eq_getElem?_getD, List.getElem?_eq_getElem (by omega)]; rfl
theorem add_mk (blk off i : Nat) : Addr.add ⟨blk, off, none⟩ i = ⟨blk, off + i, none⟩ := by
  unfold Addr.add
  by_cases h : i = 0
  · rw [if_pos h, h]; rfl
  · rw [if_neg h]
/-- a slice of elements of k cells that comes in -/
def SliceW (w : World) (k : Nat) (R : List Value → Prop) (v : Value) (len : Nat) : Prop :=
  (v = .slice none 0 0 ∧ len = 0) ∨ (∃ a c, v = .slice (some a) 0 c ∧ len = 0) ∨
    ∃ (blk off cap : Nat) (cc : Array Value) (ty : TypeId) (fz : Nat × Nat), v = .slice (some ⟨blk, off, none⟩) len cap ∧ 0 < len ∧ len ≤ cap ∧ w.heap[blk]? = some (.cells cc ty fz) ∧ off + len * k ≤ cc.size ∧
      ∀ i, i < len → ∃ l : List Value, l.length = k ∧ (∀ j, j < k → cc[off + i * k + j]? = l[j]?) ∧ R l
theorem slice_of_trod {H : Type} {enc : TypeId × Value → H} {P : Program} {w : World} {held : Bool} {sp : Nat → Bool} {t e k : Nat} {fuel : Nat} {cs : List Value} {x : DataW H × List MemPlace} (ht : P.underlying t = some (.slice e)) (ck : P.cellsOf e = k) (hk : 0 < k)
    (h : DataW.trod enc P w 0 sp held fuel t cs = some x) : ∃ v len, cs = [v] ∧ len ≤ maxLen ∧ SliceW w k (fun l => ∃ n y, DataW.trod enc P w 0 sp held n e l = some y) v len := by
  rcases DataW.trod_slice ht h with ⟨rfl, _⟩ | ⟨a, len, cap, elems, rest, n, _, rfl, _, _, hlc, hcm, hel, hi, _⟩
  · exact ⟨_, 0, rfl, Nat.zero_le _, .inl ⟨rfl, rfl⟩⟩
  · rcases Nat.eq_zero_or_pos len with h0 | h0
    · subst h0
      exact ⟨_, 0, rfl, Nat.zero_le _, .inr (.inl ⟨a, cap, rfl, rfl⟩)⟩
    · have key : ∀ i, i < len → ∃ l y, w.cells? 0 (a.add (i * k)) k = some l ∧ DataW.trod enc P w 0 sp held n e l = some y := fun i hil => by
        have h1 := hi i hil
        rw [ck, List.getElem?_eq_getElem (by omega)] at h1
        cases hc : w.cells? 0 (a.add (i * k)) k with
        | none => rw [hc] at h1; cases h1
        | some l => rw [hc] at h1; exact ⟨l, _, rfl, h1⟩
      obtain ⟨l0, y0, c0, _⟩ := key 0 h0
      have ha : a.add (0 * k) = a := by rw [Nat.zero_mul]; rfl
      rw [ha] at c0
      obtain ⟨blk, off, cc, ty, fz, rfl, hh, _, _, _⟩ := cells_at c0 hk
      have all : ∀ i, i < len → ∃ l : List Value, l.length = k ∧ off + i * k + k ≤ cc.size ∧ (∀ j, j < k → cc[off + i * k + j]? = l[j]?) ∧ ∃ n y, DataW.trod enc P w 0 sp held n e l = some y := fun i hil => by
        obtain ⟨l, y, c, hy⟩ := key i hil
        rw [add_mk] at c
        obtain ⟨blk', off', cc', ty', fz', he, hh', hs, hl, hj⟩ := cells_at c hk
        injection he with e1 e2 _
        subst e1; subst e2
        rw [hh] at hh'
        injection hh' with hh'; injection hh' with q1 q2 q3
        subst q1
        exact ⟨l, hl, hs, hj, n, y, hy⟩
      refine ⟨_, len, rfl, by omega, .inr (.inr ⟨blk, off, cap, cc, ty, fz, rfl, h0, hlc, hh, ?_, fun i hil => ?_⟩)⟩
      · obtain ⟨_, _, hs, _⟩ := all (len - 1) (by omega)
        have : len * k = (len - 1) * k + k := by
          obtain ⟨q, rfl⟩ : ∃ q, len = q + 1 := ⟨len - 1, by omega⟩
          rw [Nat.add_sub_cancel, Nat.succ_mul]
        omega
      · obtain ⟨l, hl, _, hj, hy⟩ := all i hil
        exact ⟨l, hl, hj, hy⟩
end Go.Am
namespace Go.Am
open Go Go.RowKit Go.ChangeShapes
def intOf : Value → Int
  | .int _ n => n
  | _ => 0
theorem bytes_of_trod {H : Type} {enc : TypeId × Value → H} {P : Program} {w : World} {held : Bool} {sp : Nat → Bool} {t e k : Nat} {fuel : Nat} {cs : List Value} {x : DataW H × List MemPlace} (ht : P.underlying t = some (.array k e)) (he : P.underlying e = some (.int .u8)) (ce : P.cellsOf e = 1)
    (hl : cs.length = k) (h : DataW.trod enc P w 0 sp held fuel t cs = some x) : ∃ d : List Int, d.length = k ∧ cs = d.map (Value.int .u8) := by
  obtain ⟨xs, m, _, _, _, hn, hall⟩ := DataW.trod_array ht h
  refine ⟨cs.map intOf, by rw [List.length_map, hl], ?_⟩
  refine List.ext_getElem (by simp) fun i h1 h2 => ?_
  have h3 := hall i (by omega)
  rw [ce, Nat.mul_one, List.getElem?_eq_getElem (by omega)] at h3
  obtain ⟨z, hz, _, _⟩ := DataW.trod_int he h3
  have h4 : cs[i] = .int .u8 z := by
    have := congrArg (fun l => l[0]?) hz
    simp only [List.getElem?_take, List.getElem?_drop, Nat.add_zero] at this
    rw [if_pos (by omega), List.getElem?_eq_getElem h1] at this
    simpa using this
  rw [List.getElem_map, List.getElem_map, h4]; rfl
/-- the slice v of a world shows the blocks ds -/
def DatW (w : World) (v : Value) (ds : List (List Int)) : Prop :=
  (v = .slice none 0 0 ∧ ds = []) ∨ (∃ a c, v = .slice (some a) 0 c ∧ ds = []) ∨
    ∃ (blk off cap : Nat) (cc : Array Value) (ty : TypeId) (fz : Nat × Nat), v = .slice (some ⟨blk, off, none⟩) ds.length cap ∧ 0 < ds.length ∧ ds.length ≤ cap ∧ w.heap[blk]? = some (.cells cc ty fz) ∧ off + ds.length * 8 ≤ cc.size ∧
      ∀ i (h : i < ds.length), ds[i].length = 8 ∧ ∀ j, j < 8 → cc[off + i * 8 + j]? = (ds[i].map (Value.int .u8))[j]?
theorem datW_of_slice {w : World} {v : Value} {len : Nat} (h : SliceW w 8 (fun l => ∃ d : List Int, d.length = 8 ∧ l = d.map (Value.int .u8)) v len) : ∃ ds, ds.length = len ∧ DatW w v ds := by
  rcases h with ⟨rfl, rfl⟩ | ⟨a, c, rfl, rfl⟩ | ⟨blk, off, cap, cc, ty, fz, rfl, h0, h1, h2, h3, h4⟩
  · exact ⟨[], rfl, .inl ⟨rfl, rfl⟩⟩
  · exact ⟨[], rfl, .inr (.inl ⟨a, c, rfl, rfl⟩)⟩
  · have h5 : ∀ i, i < len → ∃ d : List Int, d.length = 8 ∧ ∀ j, j < 8 → cc[off + i * 8 + j]? = (d.map (Value.int .u8))[j]? := fun i hi => by
      obtain ⟨l, hl, hj, d, hd, rfl⟩ := h4 i hi
      exact ⟨d, hd, hj⟩
    have h6 : ∃ f : Nat → List Int, ∀ i, i < len → (f i).length = 8 ∧ ∀ j, j < 8 → cc[off + i * 8 + j]? = ((f i).map (Value.int .u8))[j]? :=
      ⟨fun i => if h : i < len then Classical.choose (h5 i h) else [], fun i hi => by
        simp only [dif_pos hi]
        exact Classical.choose_spec (h5 i hi)⟩
    obtain ⟨f, hf⟩ := h6
    have hl : ((List.range len).map f).length = len := by simp
    refine ⟨(List.range len).map f, hl, .inr (.inr ⟨blk, off, cap, cc, ty, fz, by rw [hl], by rw [hl]; exact h0, by rw [hl]; exact h1, h2, by rw [hl]; exact h3, fun i hi => ?_⟩)⟩
    have hi' : i < len := by rw [hl] at hi; exact hi
    have e : ((List.range len).map f)[i] = f i := by rw [List.getElem_map, List.getElem_range]
    rw [e]
    exact hf i hi'
end Go.Am
namespace Go.Am.C40
open Go Go.Am Go.RowKit Go.ChangeShapes
set_option maxRecDepth 100000
theorem u24 : PG.underlying 24 = some (.struct (PG.fieldsOf 24)) := by kernel_rfl
theorem l24 : (PG.fieldsOf 24).toList.map (fun f => (f.offset, f.type)) = [(0, 3), (1, 3), (2, 3), (3, 4), (4, 9), (5, 9), (6, 3), (7, 3), (8, 22)] := by kernel_rfl
theorem u3 : PG.underlying 3 = some (.int .i64) := by kernel_rfl
theorem u9 : PG.underlying 9 = some .string := by kernel_rfl
theorem u22 : PG.underlying 22 = some (.slice 51) := by kernel_rfl
theorem u51 : PG.underlying 51 = some (.array 8 5) := by kernel_rfl
theorem u5 : PG.underlying 5 = some (.int .u8) := by kernel_rfl
theorem c24 : PG.cellsOf 24 = 9 := by kernel_rfl
theorem c3 : PG.cellsOf 3 = 1 := by kernel_rfl
theorem c4 : PG.cellsOf 4 = 1 := by kernel_rfl
theorem c9 : PG.cellsOf 9 = 1 := by kernel_rfl
theorem c22 : PG.cellsOf 22 = 1 := by kernel_rfl
theorem c51 : PG.cellsOf 51 = 8 := by kernel_rfl
theorem c5 : PG.cellsOf 5 = 1 := by kernel_rfl
theorem wf_i64 {n : Int} (h : (Lit.int .i64 n).wf = true) : -9223372036854775808 ≤ n ∧ n < 9223372036854775808 := by
  simp only [Lit.wf, Bool.and_eq_true, decide_eq_true_eq] at h
  have h1 : IntKind.i64.min = -9223372036854775808 := by kernel_rfl
  have h2 : IntKind.i64.max = 9223372036854775807 := by kernel_rfl
  rw [h1, h2] at h
  omega
theorem cmd_of_trod {H : Type} {enc : TypeId × Value → H} {w : World} {held : Bool} {sp : Nat → Bool} {fuel : Nat} {cs : List Value} {x : DataW H × List MemPlace} (h : DataW.trod enc PG w 0 sp held fuel 24 cs = some x) :
    ∃ (c : Cmd) (sv : Value), cs = c.cells sv ∧ c.Fit ∧ DatW w sv c.data := by
  obtain ⟨xs, n, _, _, hl, hn, hall⟩ := DataW.trod_struct u24 h
  rw [c24] at hl
  have fld : ∀ (i off ty : Nat), [(0, 3), (1, 3), (2, 3), (3, 4), (4, 9), (5, 9), (6, 3), (7, 3), (8, 22)][i]? = some (off, ty) → ∃ y, DataW.trod enc PG w 0 sp held n ty ((cs.drop off).take (PG.cellsOf ty)) = some y := fun i off ty hi => by
    rw [← l24, List.getElem?_map] at hi
    cases hf : (PG.fieldsOf 24).toList[i]? with
    | none => rw [hf] at hi; cases hi
    | some f =>
      rw [hf] at hi
      injection hi with hi; injection hi with e1 e2
      subst e1; subst e2
      have hf' : (PG.fieldsOf 24)[i]? = some f := by simpa using hf
      have hi9 : i < xs.length := by rw [hn]; exact (Array.getElem?_eq_some_iff.1 hf').1
      exact ⟨xs[i], by rw [hall i f hf', List.getElem?_eq_getElem hi9]⟩
  match cs, hl with
  | [a0, a1, a2, a3, a4, a5, a6, a7, a8], _ =>
    obtain ⟨_, h0⟩ := fld 0 0 3 rfl
    obtain ⟨_, h1⟩ := fld 1 1 3 rfl
    obtain ⟨_, h2⟩ := fld 2 2 3 rfl
    obtain ⟨_, h3⟩ := fld 3 3 4 rfl
    obtain ⟨_, h4⟩ := fld 4 4 9 rfl
    obtain ⟨_, h5⟩ := fld 5 5 9 rfl
    obtain ⟨_, h6⟩ := fld 6 6 3 rfl
    obtain ⟨_, h7⟩ := fld 7 7 3 rfl
    obtain ⟨_, h8⟩ := fld 8 8 22 rfl
    rw [c3] at h0 h1 h2 h6 h7
    rw [c4] at h3
    rw [c9] at h4 h5
    rw [c22] at h8
    obtain ⟨tag, k0, _, w0⟩ := DataW.trod_int u3 h0
    obtain ⟨kind, k1, _, w1⟩ := DataW.trod_int u3 h1
    obtain ⟨ord, k2, _, w2⟩ := DataW.trod_int u3 h2
    obtain ⟨force, k3, _⟩ := DataW.trod_bool t4 h3
    obtain ⟨vol, k4, _, w4⟩ := DataW.trod_string u9 h4
    obtain ⟨oth, k5, _, w5⟩ := DataW.trod_string u9 h5
    obtain ⟨at_, k6, _, w6⟩ := DataW.trod_int u3 h6
    obtain ⟨len, k7, _, w7⟩ := DataW.trod_int u3 h7
    obtain ⟨sv, dl, k8, hdl, hS⟩ := slice_of_trod u22 c51 (by omega) h8
    obtain ⟨ds, hds, hD⟩ := datW_of_slice (w := w) (v := sv) (len := dl) (by
      rcases hS with h | h | ⟨blk, off, cap, cc, ty, fz, e1, e2, e3, e4, e5, e6⟩
      · exact .inl h
      · exact .inr (.inl h)
      · refine .inr (.inr ⟨blk, off, cap, cc, ty, fz, e1, e2, e3, e4, e5, fun i hi => ?_⟩)
        obtain ⟨l, q1, q2, n', y, q3⟩ := e6 i hi
        obtain ⟨d, hd, rfl⟩ := bytes_of_trod u51 u5 c5 q1 q3
        exact ⟨_, q1, q2, d, hd, rfl⟩)
    simp only [List.drop_succ_cons, List.drop_zero, List.take_succ_cons, List.take_zero, List.cons.injEq, and_true] at k0 k1 k2 k3 k4 k5 k6 k7 k8
    subst k0; subst k1; subst k2; subst k3; subst k4; subst k5; subst k6; subst k7; subst k8
    exact ⟨⟨tag, kind, ord, force, vol, oth, at_, len, ds⟩, _, rfl, ⟨wf_i64 w0, wf_i64 w1, wf_i64 w2, wf_i64 w6, wf_i64 w7, w4, w5, by show ds.length ≤ _; rw [hds]; exact hdl⟩, hD⟩
end Go.Am.C40
namespace Go.Am.C40
open Go Go.Am Go.RowKit
def u8all (ds : List (List Int)) : List Value := (ds.map fun d => d.map (Value.int .u8)).flatten
theorem u8all_cons (d : List Int) (ds : List (List Int)) : u8all (d :: ds) = u8s d ++ u8all ds := rfl
theorem u8all_len : ∀ {ds : List (List Int)}, (∀ d ∈ ds, d.length = 8) → (u8all ds).length = ds.length * 8
  | [], _ => rfl
  | d :: ds, h => by
    rw [u8all_cons, List.length_append, u8all_len fun e he => h e (List.mem_cons_of_mem _ he), u8s, List.length_map, h d (List.mem_cons_self ..), List.length_cons]; omega
theorem u8all_drop : ∀ {ds : List (List Int)}, (∀ d ∈ ds, d.length = 8) → ∀ i (hi : i < ds.length), ((u8all ds).drop (i * 8)).take 8 = u8s ds[i]
  | d :: ds, h, 0, _ => by
    rw [u8all_cons, Nat.zero_mul, List.drop_zero, List.take_append_of_le_length (by rw [u8s, List.length_map, h d (List.mem_cons_self ..)]; exact Nat.le_refl _), List.take_of_length_le (by rw [u8s, List.length_map, h d (List.mem_cons_self ..)]; exact Nat.le_refl _)]; rfl
  | d :: ds, h, i + 1, hi => by
    have hl : (u8s d).length = 8 := by rw [u8s, List.length_map, h d (List.mem_cons_self ..)]
    rw [u8all_cons, show (i + 1) * 8 = (u8s d).length + i * 8 by rw [hl]; omega, List.drop_append, Nat.add_sub_cancel_left, List.drop_eq_nil_of_le (by omega), List.nil_append]
    exact u8all_drop (fun e he => h e (List.mem_cons_of_mem _ he)) i (by simpa using hi)
/-- the i-th command's data: its entry, its value -/
theorem dat_ent {w : World} {sv : Value} {ds : List (List Int)} (h : DatW w sv ds) (i : Nat) : ∃ (o : Option Ent) (v : Value), (∀ ρ : Ren, (∀ e, o = some e → ρ i = some e.p) → VRel ρ v sv) ∧ (∀ ρ e, o = some e → EntOk w ρ e) ∧
    ∀ (m : FM) (n : Nat), i < n → (∀ e, o = some e → m i = some (.cells e.cs e.p.sz false false)) → DatV m n v ds := by
  rcases h with ⟨rfl, rfl⟩ | ⟨a, c, rfl, rfl⟩ | ⟨blk, off, cap, cc, ty, fz, rfl, h0, h1, h2, h3, h4⟩
  · exact ⟨none, .slice none 0 0, fun ρ _ => .flat rfl, fun ρ e h => (by cases h), fun m n _ _ => DatV.nil m n⟩
  · exact ⟨none, .slice (some ⟨i, 0, none⟩) 0 VAG, fun ρ _ => .vag, fun ρ e h => (by cases h), fun m n hi _ => ⟨_, _, rfl, blt_true (show i < n from hi), .inl rfl⟩⟩
  · have hall : ∀ d ∈ ds, d.length = 8 := fun d hd => by
      obtain ⟨i, hi, rfl⟩ := List.mem_iff_getElem.1 hd
      exact (h4 i hi).1
    have hlen := u8all_len hall
    refine ⟨some ⟨⟨blk, off, cap * 8, 8⟩, u8all ds⟩, .slice (some ⟨i, 0, none⟩) ds.length UNK, fun ρ hρ => ?_, fun ρ e he => ?_, fun m n hi hm => ?_⟩
    · exact VRel.slice (p := ⟨blk, off, cap * 8, 8⟩) (hρ _ rfl) h1 (fun _ => by show 0 + cap * 8 = cap * 8; omega) (fun h => absurd rfl h) (by decide)
    · injection he with he; subst he
      refine ⟨cc, ty, fz, h2, by show off + (u8all ds).length ≤ _; rw [hlen]; exact h3, fun j x hx => ?_⟩
      replace hx : (u8all ds)[j]? = some x := hx
      have hj : j < ds.length * 8 := by rw [← hlen]; exact (List.getElem?_eq_some_iff.1 hx).1
      have hq : j / 8 < ds.length := by omega
      have hr : j % 8 < 8 := Nat.mod_lt _ (by omega)
      have hd := u8all_drop hall (j / 8) hq
      have hx2 : (u8s ds[j / 8])[j % 8]? = some x := by
        rw [← hd, List.getElem?_take, if_pos hr, List.getElem?_drop, show j / 8 * 8 + j % 8 = j by omega]; exact hx
      refine ⟨x, ?_, ?_⟩
      · show cc[off + j]? = some x
        have := (h4 (j / 8) hq).2 (j % 8) hr
        rw [show off + j / 8 * 8 + j % 8 = off + j by omega] at this
        rw [this]; exact hx2
      · rw [u8s, List.getElem?_map] at hx2
        cases hz : (ds[j / 8])[j % 8]? with
        | none => rw [hz] at hx2; cases hx2
        | some z => rw [hz] at hx2; injection hx2 with hx2; subst hx2; exact .int _ _ _
    · refine ⟨_, _, rfl, blt_true (show i < n from hi), .inr ⟨i, 0, u8all ds, false, false, rfl, hi, hm _ rfl, fun k hk => ⟨(h4 k hk).1, ?_⟩⟩⟩
      unfold cellsAt
      rw [ldrop_eq, ctake_eq, Nat.zero_add, if_pos (by rw [List.length_drop, hlen]; omega), u8all_drop hall k hk]
end Go.Am.C40
namespace Go.Am
open Go Go.RowKit Go.ChangeShapes
/-- the slice v of a world shows the plain values vs -/
def ValsW (w : World) (v : Value) (vs : List Value) : Prop :=
  (v = .slice none 0 0 ∧ vs = []) ∨ (∃ a c, v = .slice (some a) 0 c ∧ vs = []) ∨
    ∃ (blk off cap : Nat) (cc : Array Value) (ty : TypeId) (fz : Nat × Nat), v = .slice (some ⟨blk, off, none⟩) vs.length cap ∧ 0 < vs.length ∧ vs.length ≤ cap ∧ w.heap[blk]? = some (.cells cc ty fz) ∧ off + vs.length ≤ cc.size ∧ ∀ i, i < vs.length → cc[off + i]? = vs[i]?
/-- its entry, its value on the machine -/
theorem vals_ent {w : World} {sv : Value} {vs : List Value} (h : ValsW w sv vs) (hf : ∀ x ∈ vs, flat x = true) (i : Nat) : ∃ (o : Option Ent) (v : Value), (∀ ρ : Ren, (∀ e, o = some e → ρ i = some e.p) → VRel ρ v sv) ∧ (∀ ρ e, o = some e → EntOk w ρ e) ∧
    ∀ (m : FM) (n : Nat), i < n → (∀ e, o = some e → m i = some (.cells e.cs e.p.sz false false)) → Sl m n v vs := by
  rcases h with ⟨rfl, rfl⟩ | ⟨a, c, rfl, rfl⟩ | ⟨blk, off, cap, cc, ty, fz, rfl, h0, h1, h2, h3, h4⟩
  · exact ⟨none, .slice none 0 0, fun ρ _ => .flat rfl, fun ρ e h => (by cases h), fun m n _ _ => .inl ⟨rfl, rfl⟩⟩
  · refine ⟨none, .slice (some ⟨0, 0, none⟩) 0 VAG, fun ρ _ => .vag, fun ρ e h => (by cases h), fun m n hi _ => .inr (.inr ⟨rfl, rfl, by omega⟩)⟩
  · refine ⟨some ⟨⟨blk, off, cap, 1⟩, vs⟩, .slice (some ⟨i, 0, none⟩) vs.length UNK, fun ρ hρ => ?_, fun ρ e he => ?_, fun m n hi hm => ?_⟩
    · exact VRel.slice (p := ⟨blk, off, cap, 1⟩) (hρ _ rfl) h1 (fun _ => by show 0 + cap * 1 = cap; omega) (fun h => absurd rfl h) (by decide)
    · injection he with he; subst he
      refine ⟨cc, ty, fz, h2, h3, fun j x hx => ?_⟩
      replace hx : vs[j]? = some x := hx
      have hj : j < vs.length := (List.getElem?_eq_some_iff.1 hx).1
      exact ⟨x, (h4 j hj).trans hx, .flat (hf x (List.mem_of_getElem? hx))⟩
    · exact .inr <| .inl ⟨i, 0, UNK, vs, false, false, rfl, hi, hm _ rfl, fun k x hx => by rw [Nat.zero_add]; exact hx⟩
theorem valsW_of_slice {α : Type} [Inhabited α] {w : World} {v : Value} {len : Nat} {F : α → Value} {R : α → Prop} (h : SliceW w 1 (fun l => ∃ x, R x ∧ l = [F x]) v len) : ∃ xs : List α, xs.length = len ∧ (∀ x ∈ xs, R x) ∧ ValsW w v (xs.map F) := by
  rcases h with ⟨rfl, rfl⟩ | ⟨a, c, rfl, rfl⟩ | ⟨blk, off, cap, cc, ty, fz, rfl, h0, h1, h2, h3, h4⟩
  · exact ⟨[], rfl, fun x hx => (by cases hx), .inl ⟨rfl, rfl⟩⟩
  · exact ⟨[], rfl, fun x hx => (by cases hx), .inr (.inl ⟨a, c, rfl, rfl⟩)⟩
  · have h5 : ∀ i, i < len → ∃ x : α, R x ∧ cc[off + i]? = some (F x) := fun i hi => by
      obtain ⟨l, hl, hj, x, hR, rfl⟩ := h4 i hi
      have := hj 0 (by omega)
      rw [Nat.mul_one, Nat.add_zero] at this
      exact ⟨x, hR, this⟩
    have h6 : ∃ f : Nat → α, ∀ i, i < len → R (f i) ∧ cc[off + i]? = some (F (f i)) :=
      ⟨fun i => if h : i < len then Classical.choose (h5 i h) else default, fun i hi => by
        simp only [dif_pos hi]
        exact Classical.choose_spec (h5 i hi)⟩
    obtain ⟨f, hf⟩ := h6
    have hl : ((List.range len).map f).length = len := by simp
    have hl2 : (((List.range len).map f).map F).length = len := by simp
    refine ⟨(List.range len).map f, hl, fun x hx => ?_, .inr (.inr ⟨blk, off, cap, cc, ty, fz, by rw [hl2], by rw [hl2]; exact h0, by rw [hl2]; exact h1, h2, by rw [hl2]; omega, fun i hi => ?_⟩)⟩
    · obtain ⟨i, hi, rfl⟩ := List.mem_map.1 hx
      exact (hf i (List.mem_range.1 hi)).1
    · rw [hl2] at hi
      rw [(hf i hi).2]; simp [hi]
theorem SliceW.mono {w : World} {k : Nat} {R R' : List Value → Prop} {v : Value} {len : Nat} (h : SliceW w k R v len) (hr : ∀ l, l.length = k → R l → R' l) : SliceW w k R' v len := by
  rcases h with h | h | ⟨blk, off, cap, cc, ty, fz, h1, h2, h3, h4, h5, h6⟩
  · exact .inl h
  · exact .inr (.inl h)
  · exact .inr (.inr ⟨blk, off, cap, cc, ty, fz, h1, h2, h3, h4, h5, fun i hi => by
      obtain ⟨l, q1, q2, q3⟩ := h6 i hi
      exact ⟨l, q1, q2, hr l q1 q3⟩⟩)
theorem ints_of_trod {H : Type} {enc : TypeId × Value → H} {P : Program} {w : World} {held : Bool} {sp : Nat → Bool} {t e : Nat} {k : IntKind} {fuel : Nat} {cs : List Value} {x : DataW H × List MemPlace} (ht : P.underlying t = some (.slice e)) (he : P.underlying e = some (.int k)) (ce : P.cellsOf e = 1)
    (h : DataW.trod enc P w 0 sp held fuel t cs = some x) : ∃ (v : Value) (xs : List Int), cs = [v] ∧ xs.length ≤ maxLen ∧ (∀ x ∈ xs, (Lit.int k x).wf = true) ∧ ValsW w v (xs.map (Value.int k)) := by
  obtain ⟨v, len, rfl, hlen, hS⟩ := slice_of_trod ht ce (by omega) h
  obtain ⟨xs, h1, h2, h3⟩ := valsW_of_slice (F := Value.int k) (R := fun x => (Lit.int k x).wf = true) (hS.mono fun l hl ⟨n, y, hy⟩ => by
    obtain ⟨z, hz, _, hw⟩ := DataW.trod_int he hy
    exact ⟨z, hw, hz⟩)
  exact ⟨v, xs, rfl, by omega, h2, h3⟩
theorem bools_of_trod {H : Type} {enc : TypeId × Value → H} {P : Program} {w : World} {held : Bool} {sp : Nat → Bool} {t e : Nat} {fuel : Nat} {cs : List Value} {x : DataW H × List MemPlace} (ht : P.underlying t = some (.slice e)) (he : P.underlying e = some .bool) (ce : P.cellsOf e = 1)
    (h : DataW.trod enc P w 0 sp held fuel t cs = some x) : ∃ (v : Value) (xs : List Bool), cs = [v] ∧ xs.length ≤ maxLen ∧ ValsW w v (xs.map Value.bool) := by
  obtain ⟨v, len, rfl, hlen, hS⟩ := slice_of_trod ht ce (by omega) h
  obtain ⟨xs, h1, h2, h3⟩ := valsW_of_slice (F := Value.bool) (R := fun _ => True) (hS.mono fun l hl ⟨n, y, hy⟩ => by
    obtain ⟨z, hz, _⟩ := DataW.trod_bool he hy
    exact ⟨z, trivial, hz⟩)
  exact ⟨v, xs, rfl, by omega, h3⟩
end Go.Am
namespace Go.Am.C40
open Go Go.Am Go.Am.V Go.RowKit Go.ChangeShapes C40q
set_option maxRecDepth 100000
theorem u27 : PG.underlying 27 = some (.slice 24) := by kernel_rfl
theorem u28 : PG.underlying 28 = some (.slice 4) := by kernel_rfl
theorem u31 : PG.underlying 31 = some (.slice 3) := by kernel_rfl
theorem u36 : PG.underlying 36 = some (.slice 5) := by kernel_rfl
/-- the slice v of a world shows the commands cs, each with its data -/
def CmdsW (w : World) (v : Value) (cs : List (Cmd × Value)) : Prop :=
  ((v = .slice none 0 0 ∧ cs = []) ∨ (∃ a c, v = .slice (some a) 0 c ∧ cs = []) ∨
    ∃ (blk off cap : Nat) (cc : Array Value) (ty : TypeId) (fz : Nat × Nat), v = .slice (some ⟨blk, off, none⟩) cs.length cap ∧ 0 < cs.length ∧ cs.length ≤ cap ∧ w.heap[blk]? = some (.cells cc ty fz) ∧ off + cs.length * 9 ≤ cc.size ∧
      ∀ i (h : i < cs.length), ∀ j, j < 9 → cc[off + i * 9 + j]? = (cs[i].1.cells cs[i].2)[j]?) ∧ ∀ c ∈ cs, c.1.Fit ∧ DatW w c.2 c.1.data
theorem cmds_of_trod {H : Type} {enc : TypeId × Value → H} {w : World} {held : Bool} {sp : Nat → Bool} {fuel : Nat} {cs : List Value} {x : DataW H × List MemPlace} (h : DataW.trod enc PG w 0 sp held fuel 27 cs = some x) :
    ∃ v l, cs = [v] ∧ l.length ≤ maxLen ∧ CmdsW w v l := by
  obtain ⟨v, len, rfl, hlen, hS⟩ := slice_of_trod u27 c24 (by omega) h
  rcases hS with ⟨rfl, rfl⟩ | ⟨a, c, rfl, rfl⟩ | ⟨blk, off, cap, cc, ty, fz, rfl, h0, h1, h2, h3, h4⟩
  · exact ⟨_, [], rfl, Nat.zero_le _, .inl ⟨rfl, rfl⟩, fun c h => by cases h⟩
  · exact ⟨_, [], rfl, Nat.zero_le _, .inr (.inl ⟨a, c, rfl, rfl⟩), fun c h => by cases h⟩
  · have h5 : ∀ i, i < len → ∃ c : Cmd × Value, (∀ j, j < 9 → cc[off + i * 9 + j]? = (c.1.cells c.2)[j]?) ∧ c.1.Fit ∧ DatW w c.2 c.1.data := fun i hi => by
      obtain ⟨l, hl, hj, n, y, hy⟩ := h4 i hi
      obtain ⟨c, sv, rfl, hF, hD⟩ := cmd_of_trod hy
      exact ⟨(c, sv), hj, hF, hD⟩
    have h6 : ∃ f : Nat → Cmd × Value, ∀ i, i < len → (∀ j, j < 9 → cc[off + i * 9 + j]? = ((f i).1.cells (f i).2)[j]?) ∧ (f i).1.Fit ∧ DatW w (f i).2 (f i).1.data :=
      ⟨fun i => if h : i < len then Classical.choose (h5 i h) else (⟨0, 0, 0, false, ⟨#[]⟩, ⟨#[]⟩, 0, 0, []⟩, .bool false), fun i hi => by
        simp only [dif_pos hi]
        exact Classical.choose_spec (h5 i hi)⟩
    obtain ⟨f, hf⟩ := h6
    have hl := tbl_len len f
    have hat : ∀ i (h : i < (tbl len f).length), (tbl len f)[i] = f i := fun i h => by
      have := tbl_at f (show i < len by rw [hl] at h; exact h)
      rw [List.getElem?_eq_getElem h] at this
      exact Option.some.inj this
    refine ⟨_, tbl len f, rfl, by rw [hl]; exact hlen, .inr (.inr ⟨blk, off, cap, cc, ty, fz, by rw [hl], by rw [hl]; exact h0, by rw [hl]; exact h1, h2, by rw [hl]; exact h3, fun i hi => ?_⟩), fun c hc => ?_⟩
    · rw [hat i hi]; exact (hf i (by rw [hl] at hi; exact hi)).1
    · obtain ⟨i, hi, rfl⟩ := List.mem_iff_getElem.1 hc
      rw [hat i hi]; exact (hf i (by rw [hl] at hi; exact hi)).2
/-- a list of commands asl entries: the list's block, the data of each -/
theorem cells_flat (f : Nat → List Value) (hf : ∀ i, (f i).length = 9) : ∀ (n i : Nat), i < n → ctake (ldrop ((tbl n f).flatten) (0 + i * 9)) 9 = some (f i) := by
  have hl : ∀ n, (tbl n f).flatten.length = n * 9 := fun n => by
    induction n with
    | zero => rfl
    | succ n ih => rw [tbl, List.range_succ, List.map_append, List.flatten_append, List.length_append]; simp only [List.map_cons, List.map_nil, List.flatten_cons, List.flatten_nil, List.append_nil, hf]; rw [show (List.map f (List.range n)).flatten.length = n * 9 from ih]; omega
  intro n i hi
  rw [Nat.zero_add, ldrop_eq, ctake_eq, if_pos (by rw [List.length_drop, hl]; omega)]
  congr 1
  induction n with
  | zero => omega
  | succ n ih =>
    have e : (tbl (n + 1) f).flatten = (tbl n f).flatten ++ f n := by rw [tbl, List.range_succ, List.map_append, List.flatten_append]; simp [tbl]
    rw [e]
    rcases Nat.lt_or_ge i n with h | h
    · rw [List.drop_append_of_le_length (by rw [hl]; omega), List.take_append_of_le_length (by rw [List.length_drop, hl]; omega)]
      exact ih h
    · obtain rfl : i = n := by omega
      have hz : ((tbl i f).flatten ++ f i).drop (i * 9) = f i := by rw [← hl i, List.drop_left]
      rw [hz, List.take_of_length_le (by rw [hf]; exact Nat.le_refl _)]
theorem flat_len (f : Nat → List Value) (hf : ∀ i, (f i).length = 9) (n : Nat) : (tbl n f).flatten.length = n * 9 := by
  induction n with
  | zero => rfl
  | succ n ih => rw [tbl, List.range_succ, List.map_append, List.flatten_append, List.length_append]; simp only [List.map_cons, List.map_nil, List.flatten_cons, List.flatten_nil, List.append_nil, hf]; rw [show (List.map f (List.range n)).flatten.length = n * 9 from ih]; omega
theorem cmds_ent {w : World} {sv : Value} {cs : List (Cmd × Value)} (h : CmdsW w sv cs) : ∃ (L : List (Option Ent)) (v : Value) (cs' : List (Cmd × Value)), L.length = 1 + cs.length ∧ cs'.length = cs.length ∧
    (∀ ρ : Ren, (∀ (i : Nat) e, L[i]? = some (some e) → ρ i = some e.p) → VRel ρ v sv ∧ ∀ (i : Nat) e, L[i]? = some (some e) → EntOk w ρ e) ∧
    ∀ (m : FM) (n : Nat), L.length ≤ n → (∀ (i : Nat) e, L[i]? = some (some e) → m i = some (.cells e.cs e.p.sz false false)) → CmdsV m n v cs' := by
  obtain ⟨h, hall⟩ := h
  have hd : ∀ i, i < cs.length → ∃ (ov : Option Ent × Value), (∀ ρ : Ren, (∀ e, ov.1 = some e → ρ (1 + i) = some e.p) → VRel ρ ov.2 (datAt cs i)) ∧ (∀ ρ e, ov.1 = some e → EntOk w ρ e) ∧
      ∀ (m : FM) (n : Nat), 1 + i < n → (∀ e, ov.1 = some e → m (1 + i) = some (.cells e.cs e.p.sz false false)) → DatV m n ov.2 (cmdAt cs i).data := fun i hi => by
    have hm := hall _ (List.getElem_mem hi)
    have e1 : cmdAt cs i = cs[i].1 := by simp [cmdAt, hi]
    have e2 : datAt cs i = cs[i].2 := by simp [datAt, hi]
    rw [e1, e2]
    obtain ⟨o, v, k1, k2, k3⟩ := dat_ent hm.2 (1 + i)
    exact ⟨(o, v), k1, k2, k3⟩
  have hg : ∃ g : Nat → Option Ent × Value, ∀ i, i < cs.length → (∀ ρ : Ren, (∀ e, (g i).1 = some e → ρ (1 + i) = some e.p) → VRel ρ (g i).2 (datAt cs i)) ∧ (∀ ρ e, (g i).1 = some e → EntOk w ρ e) ∧
      ∀ (m : FM) (n : Nat), 1 + i < n → (∀ e, (g i).1 = some e → m (1 + i) = some (.cells e.cs e.p.sz false false)) → DatV m n (g i).2 (cmdAt cs i).data :=
    ⟨fun i => if h : i < cs.length then Classical.choose (hd i h) else (none, .bool false), fun i hi => by
      simp only [dif_pos hi]
      exact Classical.choose_spec (hd i hi)⟩
  obtain ⟨g, hg⟩ := hg
  -- the commands with the machine's data
  have hlc := tbl_len cs.length (fun i => (cmdAt cs i, (g i).2))
  have hcm : ∀ i (h : i < (tbl cs.length (fun i => (cmdAt cs i, (g i).2))).length), (tbl cs.length (fun i => (cmdAt cs i, (g i).2)))[i] = (cmdAt cs i, (g i).2) := fun i h => by
    have := tbl_at (fun i => (cmdAt cs i, (g i).2)) (show i < cs.length by rw [hlc] at h; exact h)
    rw [List.getElem?_eq_getElem h] at this
    exact Option.some.inj this
  have hfit : ∀ i, i < cs.length → (cmdAt cs i).Fit := fun i hi => by
    rw [show cmdAt cs i = cs[i].1 by simp [cmdAt, hi]]
    exact (hall _ (List.getElem_mem hi)).1
  have build : ∀ (o : Option Ent) (v : Value),
      (∀ ρ : Ren, (∀ e, o = some e → ρ 0 = some e.p) → VRel ρ v sv) →
      (∀ ρ : Ren, (∀ i, i < cs.length → VRel ρ (g i).2 (datAt cs i)) → ∀ e, o = some e → EntOk w ρ e) →
      (∀ (m : FM) (n : Nat), 0 < n → (∀ e, o = some e → m 0 = some (.cells e.cs e.p.sz false false)) → ∃ a c, v = .slice a (tbl cs.length (fun i => (cmdAt cs i, (g i).2))).length c ∧ belowV n v = true ∧ (tbl cs.length (fun i => (cmdAt cs i, (g i).2)) = [] ∨ ∃ b o cells opn wr, a = some ⟨b, o, none⟩ ∧ b < n ∧ m b = some (.cells cells 9 opn wr) ∧ ∀ i (h : i < (tbl cs.length (fun i => (cmdAt cs i, (g i).2))).length), ctake (ldrop cells (o + i * 9)) 9 = some ((tbl cs.length (fun i => (cmdAt cs i, (g i).2)))[i].1.cells (tbl cs.length (fun i => (cmdAt cs i, (g i).2)))[i].2))) →
      ∃ (L : List (Option Ent)) (v : Value) (cs' : List (Cmd × Value)), L.length = 1 + cs.length ∧ cs'.length = cs.length ∧
        (∀ ρ : Ren, (∀ (i : Nat) e, L[i]? = some (some e) → ρ i = some e.p) → VRel ρ v sv ∧ ∀ (i : Nat) e, L[i]? = some (some e) → EntOk w ρ e) ∧
        ∀ (m : FM) (n : Nat), L.length ≤ n → (∀ (i : Nat) e, L[i]? = some (some e) → m i = some (.cells e.cs e.p.sz false false)) → CmdsV m n v cs' := fun o v b1 b2 b3 => by
    have hL0 : (o :: tbl cs.length (fun i => (g i).1))[0]? = some o := rfl
    have hLs : ∀ i, i < cs.length → (o :: tbl cs.length (fun i => (g i).1))[1 + i]? = some (g i).1 := fun i hi => by
      rw [Nat.add_comm, List.getElem?_cons_succ]; exact tbl_at _ hi
    refine ⟨o :: tbl cs.length (fun i => (g i).1), v, tbl cs.length (fun i => (cmdAt cs i, (g i).2)), by rw [List.length_cons, tbl_len]; omega, hlc, fun ρ hρ => ?_, fun m n hn hm => ?_⟩
    · have hv : ∀ i, i < cs.length → VRel ρ (g i).2 (datAt cs i) := fun i hi => (hg i hi).1 ρ fun e he => hρ (1 + i) e (by rw [hLs i hi, he])
      refine ⟨b1 ρ fun e he => hρ 0 e (by rw [hL0, he]), fun i e he => ?_⟩
      match i with
      | 0 => rw [hL0] at he; injection he with he; exact b2 ρ hv e he
      | i + 1 =>
        rw [List.getElem?_cons_succ] at he
        have hi : i < cs.length := by have := (List.getElem?_eq_some_iff.1 he).1; rw [tbl_len] at this; exact this
        rw [tbl_at _ hi] at he
        injection he with he
        exact (hg i hi).2.1 ρ e he
    · rw [List.length_cons, tbl_len] at hn
      refine ⟨b3 m n (by omega) fun e he => hm 0 e (by rw [hL0, he]), fun c hc => ?_⟩
      obtain ⟨i, hi, rfl⟩ := List.mem_iff_getElem.1 hc
      rw [hcm i hi]
      have hi' : i < cs.length := by rw [hlc] at hi; exact hi
      exact ⟨hfit i hi', (hg i hi').2.2 m n (by omega) fun e he => hm (1 + i) e (by rw [hLs i hi', he])⟩
  rcases h with ⟨rfl, rfl⟩ | ⟨a, c, rfl, rfl⟩ | ⟨blk, off, cap, cc, ty, fz, rfl, h0, h1, h2, h3, h4⟩
  · exact build none (.slice none 0 0) (fun ρ _ => .flat rfl) (fun ρ _ e h => (by cases h)) fun m n hn _ => ⟨none, 0, rfl, rfl, .inl rfl⟩
  · exact build none (.slice (some ⟨0, 0, none⟩) 0 VAG) (fun ρ _ => .vag) (fun ρ _ e h => (by cases h)) fun m n hn _ => ⟨_, _, rfl, blt_true (show 0 < n from hn), .inl rfl⟩
  · have hcl : ∀ (f : Nat → Value) (i : Nat), ((cmdAt cs i).cells (f i)).length = 9 := fun f i => rfl
    have hfl := flat_len (fun i => (cmdAt cs i).cells (g i).2) (hcl _) cs.length
    refine build (some ⟨⟨blk, off, cap * 9, 9⟩, (tbl cs.length (fun i => (cmdAt cs i).cells (g i).2)).flatten⟩) (.slice (some ⟨0, 0, none⟩) cs.length UNK) (fun ρ hρ => ?_) (fun ρ hv e he => ?_) fun m n hn hm => ?_
    · exact VRel.slice (p := ⟨blk, off, cap * 9, 9⟩) (hρ _ rfl) h1 (fun _ => by show 0 + cap * 9 = cap * 9; omega) (fun h => absurd rfl h) (by decide)
    · injection he with he; subst he
      refine ⟨cc, ty, fz, h2, by show off + (tbl cs.length (fun i => (cmdAt cs i).cells (g i).2)).flatten.length ≤ _; rw [hfl]; exact h3, fun j x hx => ?_⟩
      replace hx : ((tbl cs.length (fun i => (cmdAt cs i).cells (g i).2)).flatten)[j]? = some x := hx
      have hj : j < cs.length * 9 := by rw [← hfl]; exact (List.getElem?_eq_some_iff.1 hx).1
      have hq : j / 9 < cs.length := by omega
      have hr : j % 9 < 9 := Nat.mod_lt _ (by omega)
      have ht := cells_flat (fun i => (cmdAt cs i).cells (g i).2) (hcl _) cs.length (j / 9) hq
      rw [Nat.zero_add, ldrop_eq, ctake_eq] at ht
      split at ht
      next =>
        injection ht with ht
        have hx2 : ((cmdAt cs (j / 9)).cells (g (j / 9)).2)[j % 9]? = some x := by
          rw [← ht, List.getElem?_take, if_pos hr, List.getElem?_drop, show j / 9 * 9 + j % 9 = j by omega]; exact hx
        have hc4 := h4 (j / 9) hq (j % 9) hr
        rw [show off + j / 9 * 9 + j % 9 = off + j by omega] at hc4
        have e1 : cmdAt cs (j / 9) = cs[j / 9].1 := by simp [cmdAt, hq]
        have e2 : datAt cs (j / 9) = cs[j / 9].2 := by simp [datAt, hq]
        rw [← e1, ← e2] at hc4
        have hrel : LRel ρ ((cmdAt cs (j / 9)).cells (g (j / 9)).2) ((cmdAt cs (j / 9)).cells (datAt cs (j / 9))) := .cons (.flat rfl) (.cons (.flat rfl) (.cons (.flat rfl) (.cons (.flat rfl) (.cons (.flat rfl) (.cons (.flat rfl) (.cons (.flat rfl) (.cons (.flat rfl) (.cons (hv _ hq) (.nil _)))))))))
        have hlt : j % 9 < ((cmdAt cs (j / 9)).cells (datAt cs (j / 9))).length := hr
        refine ⟨((cmdAt cs (j / 9)).cells (datAt cs (j / 9)))[j % 9], ?_, ?_⟩
        · show cc[off + j]? = _
          rw [hc4, List.getElem?_eq_getElem hlt]
        · exact hrel.2 (j % 9) x _ hx2 (List.getElem?_eq_getElem hlt)
      next => cases ht
    · refine ⟨_, _, by rw [hlc], blt_true (show 0 < n from hn), .inr ⟨0, 0, _, false, false, rfl, hn, hm _ rfl, fun i hi => ?_⟩⟩
      rw [hcm i hi]
      exact cells_flat (fun i => (cmdAt cs i).cells (g i).2) (hcl _) cs.length i (by rw [hlc] at hi; exact hi)
end Go.Am.C40
namespace Go.Am.C40
open Go Go.Am Go.Am.V Go.RowKit Go.ChangeShapes C40q
set_option maxRecDepth 1000000
theorem tbB : Tb (look tabB) (memosA memL Y0) where
  b := befsB
  aw := awake_pure
  e14 := by kernel_rfl
  e15 := by kernel_rfl
  e16 := by kernel_rfl
  e17 := by kernel_rfl
  e18 := by kernel_rfl
  e19 := by kernel_rfl
  e20 := by kernel_rfl
  e21 := by kernel_rfl
  e27 := by kernel_rfl
  e28 := by kernel_rfl
theorem entRen_at {L : List (Option Ent)} {i : Nat} {e : Ent} (h : L[i]? = some (some e)) : entRen L i = some e.p := by
  show (L[i]?).bind _ = _
  rw [h]; rfl
theorem entMem_at {L : List (Option Ent)} {i : Nat} {e : Ent} (h : L[i]? = some (some e)) : entMem L i = some (.cells e.cs e.p.sz false false) := by
  show (L[i]?).bind _ = _
  rw [h]; rfl
theorem law1_calls {f : Nat} (hlaw : ∀ (m : FM) (n : Nat) (lv : Value) (cs : List (Cmd × Value)), CmdsV m n lv cs → cs.length ≤ 9223372036854775807 → Pure (callW PG (look tabB) (memosA memL Y0) f [lv] m n) m n (.bool true))
    (w : World) (sv : Value) (cs : List (Cmd × Value)) (h : CmdsW w sv cs) (hs : cs.length ≤ 9223372036854775807) :
    Calls Proofs.Tryd.prog f #[sv] w fun e w' => e = .returned (.bool true) ∧ Below w.heap.size w w' := by
  obtain ⟨L, v, cs', hL, hl', hrel, hmem⟩ := cmds_ent h
  obtain ⟨hv, hok⟩ := hrel (entRen L) fun i e he => entRen_at he
  obtain ⟨hm, hf⟩ := ent_world (w := w) (L := L) hok
  obtain ⟨r, hrun⟩ := hlaw (entMem L) L.length v cs' (hmem _ _ (Nat.le_refl _) fun i e he => entMem_at he) (by rw [hl']; exact hs)
  exact Go.Am.Env.topW envB (args' := #[sv]) hrun (.cons hv (.nil _)) hm hf
theorem law2_calls {f : Nat} (vs : List Value) (hlaw : ∀ (m : FM) (n : Nat) (lv xv : Value) (cs : List (Cmd × Value)), CmdsV m n lv cs → cs.length ≤ 9223372036854775807 → Sl m n xv vs → Pure (callW PG (look tabB) (memosA memL Y0) f [lv, xv] m n) m n (.bool true))
    (w : World) (sv tv : Value) (cs : List (Cmd × Value)) (h : CmdsW w sv cs) (hs : cs.length ≤ 9223372036854775807) (ht : ValsW w tv vs) (hfl : ∀ x ∈ vs, flat x = true) :
    Calls Proofs.Tryd.prog f #[sv, tv] w fun e w' => e = .returned (.bool true) ∧ Below w.heap.size w w' := by
  obtain ⟨L, v, cs', hL, hl', hrel, hmem⟩ := cmds_ent h
  obtain ⟨o, x, k1, k2, k3⟩ := vals_ent ht hfl L.length
  have hat : ∀ (i : Nat) e, L[i]? = some (some e) → (L ++ [o])[i]? = some (some e) := fun i e he => by
    rw [List.getElem?_append_left (List.getElem?_eq_some_iff.1 he).1]; exact he
  have hlast : (L ++ [o])[L.length]? = some o := by simp
  obtain ⟨hv, hok⟩ := hrel (entRen (L ++ [o])) fun i e he => entRen_at (hat i e he)
  obtain ⟨hm, hf⟩ := ent_world (w := w) (L := L ++ [o]) fun i e he => by
    rcases Nat.lt_or_ge i L.length with hi | hi
    · rw [List.getElem?_append_left hi] at he; exact hok i e he
    · have : i < (L ++ [o]).length := (List.getElem?_eq_some_iff.1 he).1
      rw [List.length_append, List.length_singleton] at this
      obtain rfl : i = L.length := by omega
      rw [hlast] at he; injection he with he
      exact k2 _ e he
  have hx := k1 (entRen (L ++ [o])) fun e he => entRen_at (by rw [hlast, he])
  obtain ⟨r, hrun⟩ := hlaw (entMem (L ++ [o])) (L ++ [o]).length v x cs' (hmem _ _ (by rw [List.length_append, List.length_singleton]; omega) fun i e he => entMem_at (hat i e he)) (by rw [hl']; exact hs)
    (k3 _ _ (by rw [List.length_append, List.length_singleton]; omega) fun e he => entMem_at (by rw [hlast, he]))
  exact Go.Am.Env.topW envB (args' := #[sv, tv]) hrun (.cons hv (.cons hx (.nil _))) hm hf
theorem bools_flat (l : List Bool) : ∀ x ∈ l.map Value.bool, flat x = true := fun x hx => by
  obtain ⟨b, _, rfl⟩ := List.mem_map.1 hx; rfl
theorem ints_flat (k : IntKind) (l : List Int) : ∀ x ∈ l.map (Value.int k), flat x = true := fun x hx => by
  obtain ⟨b, _, rfl⟩ := List.mem_map.1 hx; rfl
theorem wf_u8 {z : Int} (h : (Lit.int .u8 z).wf = true) : 0 ≤ z ∧ z < 256 := by
  simp only [Lit.wf, Bool.and_eq_true, decide_eq_true_eq] at h
  have h1 : IntKind.u8.min = 0 := by kernel_rfl
  have h2 : IntKind.u8.max = 255 := by kernel_rfl
  rw [h1, h2] at h
  omega
theorem eligible_calls (w : World) (sv tv : Value) (cs : List (Cmd × Value)) (l : List Bool) (h : CmdsW w sv cs) (hs : cs.length ≤ 9223372036854775807) (ht : ValsW w tv (l.map .bool)) (hl : l.length ≤ 9223372036854775807) :
    Calls Proofs.Tryd.prog 4 #[sv, tv] w fun e w' => e = .returned (.bool true) ∧ Below w.heap.size w w' :=
  law2_calls _ (fun m n lv xv cs h1 h2 h3 => eligLaw tbB (by kernel_rfl) m n lv xv cs l h1 h2 h3 hl) w sv tv cs h hs ht (bools_flat l)
theorem respects_calls (w : World) (sv tv : Value) (cs : List (Cmd × Value)) (l : List Int) (h : CmdsW w sv cs) (hs : cs.length ≤ 9223372036854775807) (ht : ValsW w tv (l.map (.int .i64))) (hl : l.length ≤ 9223372036854775807) :
    Calls Proofs.Tryd.prog 5 #[sv, tv] w fun e w' => e = .returned (.bool true) ∧ Below w.heap.size w w' :=
  law2_calls _ (fun m n lv xv cs h1 h2 h3 => respLaw tbB (by kernel_rfl) m n lv xv cs l h1 h2 h3 hl) w sv tv cs h hs ht (ints_flat _ l)
theorem levels_calls (w : World) (sv : Value) (cs : List (Cmd × Value)) (h : CmdsW w sv cs) (hs : cs.length ≤ 9223372036854775807) :
    Calls Proofs.Tryd.prog 6 #[sv] w fun e w' => e = .returned (.bool true) ∧ Below w.heap.size w w' :=
  law1_calls (fun m n lv cs h1 h2 => levLaw tbB (by kernel_rfl) m n lv cs h1 h2) w sv cs h hs
theorem runs_calls (w : World) (sv tv : Value) (cs : List (Cmd × Value)) (l : List Int) (h : CmdsW w sv cs) (hs : cs.length ≤ 9223372036854775807) (ht : ValsW w tv (l.map (.int .u8))) (hu : ∀ x ∈ l, (Lit.int .u8 x).wf = true) (hl : l.length ≤ 9223372036854775807) :
    Calls Proofs.Tryd.prog 7 #[sv, tv] w fun e w' => e = .returned (.bool true) ∧ Below w.heap.size w w' :=
  law2_calls _ (fun m n lv xv cs h1 h2 h3 => runsLaw tbB (by kernel_rfl) m n lv xv cs l h1 h2 h3 (fun x hx => wf_u8 (hu x hx)) hl) w sv tv cs h hs ht (ints_flat _ l)
theorem arises_calls (w : World) (sv tv : Value) (cs : List (Cmd × Value)) (l : List Int) (h : CmdsW w sv cs) (hs : cs.length ≤ 9223372036854775807) (ht : ValsW w tv (l.map (.int .i64))) (hl : l.length ≤ 9223372036854775807) :
    Calls Proofs.Tryd.prog 8 #[sv, tv] w fun e w' => e = .returned (.bool true) ∧ Below w.heap.size w w' :=
  law2_calls _ (fun m n lv xv cs h1 h2 h3 => arisesLaw tbB (by kernel_rfl) m n lv xv cs l h1 h2 h3 hl) w sv tv cs h hs ht (ints_flat _ l)
theorem fences_calls (w : World) (sv tv : Value) (cs : List (Cmd × Value)) (l : List Int) (h : CmdsW w sv cs) (hs : cs.length ≤ 9223372036854775807) (ht : ValsW w tv (l.map (.int .u8))) (hu : ∀ x ∈ l, (Lit.int .u8 x).wf = true) (hl : l.length ≤ 9223372036854775807) :
    Calls Proofs.Tryd.prog 9 #[sv, tv] w fun e w' => e = .returned (.bool true) ∧ Below w.heap.size w w' :=
  law2_calls _ (fun m n lv xv cs h1 h2 h3 => fencesLaw tbB (by kernel_rfl) (by kernel_rfl) m n lv xv cs l h1 h2 h3 (fun x hx => wf_u8 (hu x hx)) hl) w sv tv cs h hs ht (ints_flat _ l)
theorem byLevels_calls (w : World) (sv : Value) (cs : List (Cmd × Value)) (h : CmdsW w sv cs) (hs : cs.length ≤ 9223372036854775807) :
    Calls Proofs.Tryd.prog 10 #[sv] w fun e w' => e = .returned (.bool true) ∧ Below w.heap.size w w' :=
  law1_calls (fun m n lv cs h1 h2 => byLevLaw tbB (by kernel_rfl) m n lv cs h1 h2) w sv cs h hs
end Go.Am.C40
namespace Go.Am.C40
open Go Go.Am Go.Am.V Go.RowKit
theorem orderBefore_calls (a b : Cmd) (sa sb : Value) (w : World) (hF : a.Fit) (hG : b.Fit) (ha : DatW w sa a.data) (hb : DatW w sb b.data) :
    Calls Proofs.Tryd.prog 3 #[cmdV a sa, cmdV b sb] w fun e w' => e = .returned (.bool true) ∧ Below w.heap.size w w' := by
  obtain ⟨o1, v1, r1, e1, d1⟩ := dat_ent ha 0
  obtain ⟨o2, v2, r2, e2, d2⟩ := dat_ent hb 1
  have hget : ∀ (i : Nat) e, [o1, o2][i]? = some (some e) → (i = 0 ∧ o1 = some e) ∨ (i = 1 ∧ o2 = some e) := fun i e h => by
    match i, h with
    | 0, h => exact .inl ⟨rfl, by simpa using h⟩
    | 1, h => exact .inr ⟨rfl, by simpa using h⟩
    | i + 2, h => simp at h
  obtain ⟨hm, hf⟩ := ent_world (w := w) (L := [o1, o2]) fun i e h => by
    rcases hget i e h with ⟨_, h⟩ | ⟨_, h⟩
    · exact e1 _ e h
    · exact e2 _ e h
  obtain ⟨r, hrun⟩ := orderBefore_pure (entMem [o1, o2]) 2 a b v1 v2 hF hG (d1 _ 2 (by omega) fun e h => by subst h; rfl) (d2 _ 2 (by omega) fun e h => by subst h; rfl)
  have hcmd : ∀ (c : Cmd) (x y : Value), VRel (entRen [o1, o2]) x y → VRel (entRen [o1, o2]) (cmdV c x) (cmdV c y) := fun c x y h => by
    have hL : LRel (entRen [o1, o2]) (c.cells x) (c.cells y) := .cons (.flat rfl) (.cons (.flat rfl) (.cons (.flat rfl) (.cons (.flat rfl) (.cons (.flat rfl) (.cons (.flat rfl) (.cons (.flat rfl) (.cons (.flat rfl) (.cons h (.nil _)))))))))
    exact .agg rfl fun i p q hp hq => hL.2 i p q (by simpa [Cmd.cells] using hp) (by simpa [Cmd.cells] using hq)
  exact Go.Am.Env.topW envB (args' := #[cmdV a sa, cmdV b sb]) hrun (.cons (hcmd a _ _ (r1 _ fun e h => by subst h; rfl)) (.cons (hcmd b _ _ (r2 _ fun e h => by subst h; rfl)) (.nil _))) hm hf
end Go.Am.C40
namespace Go.Am
open Go Go.RowKit Go.ChangeShapes
theorem post_below {H : Type} {enc : TypeId × Value → H} {P : Program} {f : Func} {s : ChangeSpec} {apart fresh handsOn again : Bool} {W W' : World} {args : Array Value} {v : Value} {ds gs : List (DataW H)} {before pa pv : List MemPlace}
    (hW : DataW.Whole enc P f.params.toList s.vars apart W args.toList ds gs before)
    (hres : ∀ (b : Nat) (sp : Nat → Bool) (hd : Bool), DataW.TrodAll enc P W' b sp hd f.resultTypes.toList (v.resultList f.resultTypes.size) (s.fn H (ds ++ gs)).results [])
    (hargs : ∀ sp : Nat → Bool, (∀ p ∈ before, sp p.block = true) → DataW.TrodAll enc P W' 0 sp true f.params.toList args.toList (s.fn H (ds ++ gs)).args pa)
    (hvars : ∀ sp : Nat → Bool, (∀ p ∈ before, sp p.block = true) → DataW.TrodVars enc P W' sp s.vars (s.fn H (ds ++ gs)).vars pv)
    (hps : before = pa ++ pv) (hb : Below W.heap.size W W')
    (hok : ∀ (j : Nat) (t : TypeId) (r : Value), f.resultTypes[j]? = some t → (v.resultList f.resultTypes.size)[j]? = some r → Value.okWide P W' .any 0 t r) :
    s.post enc P f apart fresh handsOn again W args v W' := by
  have hlt := hW.lt
  obtain ⟨_, _, _, _, _, hz, hn⟩ := id hW
  refine ⟨ds, gs, before, [], pa, pv, hW, hres _ _ _, hargs _ fun p hp => by simpa using hlt p hp, hvars _ fun p hp => by simpa using hlt p hp, World.keptBut_mono (fun p hp => ⟨hp, ?_⟩) (hb.frame (· ∈ before)), fun _ => ⟨hok, _, _, ([] ++ pa) ++ pv, ⟨[] ++ pa, pv, trodAll_append (hargs _ fun _ _ => rfl) (hres _ _ _), hvars _ fun _ _ => rfl, rfl, fun b off hp => ?_, fun ha => ?_⟩, fun p hp _ => ?_⟩⟩
  · rw [hps, List.mem_append] at hp; exact .inr hp
  · have hm : MemPlace.cell b off ∈ before := by rw [hps]; simpa using hp
    rw [hb.frozen (p := ⟨b, off, none⟩) (hlt _ hm)]
    exact hz b off hm
  · have := hn ha
    rw [hps] at this
    simpa using this
  · rw [hps]; simpa using hp
end Go.Am
